/-
  Walks of slices.IndexFunc, ContainsFunc of ints at Number's closure; Number.
-/
import Derived.Test.YtpdeblfnbcponaaGreatDoorZG
set_option linter.unusedSimpArgs false
set_option linter.unusedVariables false
set_option maxRecDepth 100000
set_option maxHeartbeats 1000000
set_option exponentiation.threshold 256
namespace Go.Vi
open Go Go.Proofs

def badD (b d : Int) : Bool := decide (d < 0 ∨ b ≤ d)
theorem w77 (d b : Int) : SoundPure Tryz.prog 32 [I d, .iptr [I b]] (.ret (.bool (badD b d))) := by
  refine s77 (H := []) sound_nil 3 (by simp) rfl ?_
  simp only [c77, Tryz.f32, gets]
  unfold badD
  by_cases h1 : d < 0
  · have q1 := eq_true h1
    rw [decide_eq_true (.inl h1)]
    simp only [vmr, vmw, vmp, vza, ↓reduceIte, Nat.reduceBEq, Nat.reduceLT, Nat.reduceAdd, Nat.reduceEqDiff, reduceCtorEq, vmt, vzb, vzc, vlen, vleaf, velems, oks, vst, vmd, ty, Nat.reduceLeDiff, Nat.reduceMul, Nat.reduceSub, vzr, m77, q1]
  · have q1 := eq_false h1
    by_cases h2 : b ≤ d
    · have q2 : (d ≥ b) = True := eq_true h2
      rw [decide_eq_true (.inr h2)]
      simp only [vmr, vmw, vmp, vza, ↓reduceIte, Nat.reduceBEq, Nat.reduceLT, Nat.reduceAdd, Nat.reduceEqDiff, reduceCtorEq, vmt, vzb, vzc, vlen, vleaf, velems, oks, vst, vmd, ty, Nat.reduceLeDiff, Nat.reduceMul, Nat.reduceSub, vzr, m77, q1, q2]
    · have q2 : (d ≥ b) = False := eq_false h2
      rw [decide_eq_false (by omega)]
      simp only [vmr, vmw, vmp, vza, ↓reduceIte, Nat.reduceBEq, Nat.reduceLT, Nat.reduceAdd, Nat.reduceEqDiff, reduceCtorEq, vmt, vzb, vzc, vlen, vleaf, velems, oks, vst, vmd, ty, Nat.reduceLeDiff, Nat.reduceMul, Nat.reduceSub, vzr, m77, q1, q2]
noncomputable def F77 : List V → Option V := hF (α := Int × Int) (fun a => [I a.1, .iptr [I a.2]]) (fun _ => True) (fun a => .bool (badD a.2 a.1))
theorem F77_eq (d b : Int) : F77 [I d, .iptr [I b]] = some (.bool (badD b d)) := hF_eq (a := (d, b)) (fun a b h => by
  injection h with h1 h2
  injection h2 with h2 _
  injection h2 with h2
  injection h2 with h2 _
  exact Prod.ext (I_inj h1) (I_inj h2)) (by simp only [cans, can]) trivial
noncomputable abbrev T99 : List (FuncId × (List V → Option V)) := (32, F77) :: []
theorem hT99 : SoundHand Tryz.prog (hand T99) := sound_cons (hF_sound fun a _ => w77 a.1 a.2) sound_nil
def F99P (n : Nat) (v : V) (r : Option (Ex × St)) : Prop := Fin (M99 (hand T99) n) [.tmp 4] r = some (.ret v)
abbrev bfn (b : Int) : V := .fn (.func 32) [] [.iptr [I b]]
theorem l99 {n k} (b : Int) (l : List Int) (hb : l.length ≤ 1000000) : ∀ r i n' s, l.drop i = r → r.length < n' → tget s.τ 0 = Is l → tget s.τ 1 = bfn b → tget s.τ 7 = I l.length → tget s.τ 8 = I (i : Nat) →
    (∀ s', F99P n (I (-1)) (X (M99 (hand T99) n) (.exit 0) k s')) →
    F99P n (I (idxF (badD b) r i)) (L (M99 (hand T99) n) (sub [1, 0, 1, 0, 0] c99) n' k s)
  | [], i, n' + 1, s, hi, hn, h0, h1, h7, h8, hx => by
    have hc := inlt (drop_nil' hi)
    rw [L_succ]
    simp only [vmr, vmw, vmp, vza, ↓reduceIte, Nat.reduceBEq, Nat.reduceLT, Nat.reduceAdd, Nat.reduceEqDiff, reduceCtorEq, vmt, vzb, vzc, vlen, vleaf, velems, oks, vst, vmd, ty, Nat.reduceLeDiff, Nat.reduceMul, Nat.reduceSub, c99, Tryz.f53, m99, h0, h1, h7, h8, hc]
    exact hx _
  | x :: r, i, n' + 1, s, hi, hn, h0, h1, h7, h8, hx => by
    obtain ⟨hg, hd, hlt⟩ := drop_cons hi
    have hc := ilt hlt
    have hw := wsucc hlt hb
    have hpx := F77_eq x b
    have ih := fun s => @l99 n k b l hb r (i+1) n' s hd (by simp at hn; omega)
    simp only [sub, c99, Tryz.f53, gets] at ih
    rw [L_succ]
    cases hpp : badD b x with
    | true =>
      rw [hpp] at hpx
      simp only [idxF, hpp, if_true]
      simp only [vmr, vmw, vmp, vza, ↓reduceIte, Nat.reduceBEq, Nat.reduceLT, Nat.reduceAdd, Nat.reduceEqDiff, reduceCtorEq, vmt, vzb, vzc, vlen, vleaf, velems, oks, vst, vmd, ty, Nat.reduceLeDiff, Nat.reduceMul, Nat.reduceSub, c99, Tryz.f53, m99, h0, h1, h7, h8, hc, hg, hw, hpx, fitsI, Option.map_some]
      unfold F99P
      simp only [vmr, vmw, vmp, vza, ↓reduceIte, Nat.reduceBEq, Nat.reduceLT, Nat.reduceAdd, Nat.reduceEqDiff, reduceCtorEq, vmt, vzb, vzc, vlen, vleaf, velems, oks, vst, vmd, ty, Nat.reduceLeDiff, Nat.reduceMul, Nat.reduceSub, vzr, m99]
    | false =>
      rw [hpp] at hpx
      simp only [idxF, hpp, Bool.false_eq_true, if_false]
      simp only [vmr, vmw, vmp, vza, ↓reduceIte, Nat.reduceBEq, Nat.reduceLT, Nat.reduceAdd, Nat.reduceEqDiff, reduceCtorEq, vmt, vzb, vzc, vlen, vleaf, velems, oks, vst, vmd, ty, Nat.reduceLeDiff, Nat.reduceMul, Nat.reduceSub, c99, Tryz.f53, m99, h0, h1, h7, h8, hc, hg, hw, hpx, fitsI, Option.map_some]
      refine ih _ ?_ ?_ ?_ ?_ hx
      all_goals simp only [vmr, vmw, vmp, vza, ↓reduceIte, Nat.reduceBEq, Nat.reduceLT, Nat.reduceAdd, Nat.reduceEqDiff, reduceCtorEq, vmt, vzb, vzc, vlen, vleaf, velems, oks, vst, vmd, ty, Nat.reduceLeDiff, Nat.reduceMul, Nat.reduceSub, m99, h0, h1, h7, h8]
theorem w99 (b : Int) (l : List Int) (hb : l.length ≤ 1000000) : SoundPure Tryz.prog 53 [Is l, bfn b] (.ret (I (idxF (badD b) l 0))) := by
  refine s99 hT99 (l.length + 1) (by simp) rfl ?_
  show F99P _ _ _
  have := fun k s => @l99 (l.length + 1) k b l hb l 0 (l.length + 1) s rfl (by omega)
  simp only [sub, c99, Tryz.f53, gets] at this ⊢
  simp only [vmr, vmw, vmp, vza, ↓reduceIte, Nat.reduceBEq, Nat.reduceLT, Nat.reduceAdd, Nat.reduceEqDiff, reduceCtorEq, vmt, vzb, vzc, vlen, vleaf, velems, oks, vst, vmd, ty, Nat.reduceLeDiff, Nat.reduceMul, Nat.reduceSub, m99]
  refine this _ _ ?_ ?_ ?_ ?_ (fun s' => ?_)
  case refine_5 => simp only [vmr, vmw, vmp, vza, ↓reduceIte, Nat.reduceBEq, Nat.reduceLT, Nat.reduceAdd, Nat.reduceEqDiff, reduceCtorEq, vmt, vzb, vzc, vlen, vleaf, velems, oks, vst, vmd, ty, Nat.reduceLeDiff, Nat.reduceMul, Nat.reduceSub, m99]; unfold F99P; simp only [vmr, vmw, vmp, vza, ↓reduceIte, Nat.reduceBEq, Nat.reduceLT, Nat.reduceAdd, Nat.reduceEqDiff, reduceCtorEq, vmt, vzb, vzc, vlen, vleaf, velems, oks, vst, vmd, ty, Nat.reduceLeDiff, Nat.reduceMul, Nat.reduceSub, vzr, m99]
  all_goals simp only [vmr, vmw, vmp, vza, ↓reduceIte, Nat.reduceBEq, Nat.reduceLT, Nat.reduceAdd, Nat.reduceEqDiff, reduceCtorEq, vmt, vzb, vzc, vlen, vleaf, velems, oks, vst, vmd, ty, Nat.reduceLeDiff, Nat.reduceMul, Nat.reduceSub, m99]
theorem two_bfn : ∀ a b : List Int × Int, ([Is a.1, bfn a.2] : List V) = [Is b.1, bfn b.2] → a = b := fun a b h => by
  injection h with h1 h2
  injection h2 with h2 _
  injection h2 with _ _ h2
  injection h2 with h2 _
  injection h2 with h2
  injection h2 with h2 _
  exact Prod.ext (Is_inj h1) (I_inj h2)
noncomputable def F99 : List V → Option V := hF (α := List Int × Int) (fun a => [Is a.1, bfn a.2]) (fun a => a.1.length ≤ 1000000) (fun a => I (idxF (badD a.2) a.1 0))
theorem F99_eq {l : List Int} {b : Int} (h : l.length ≤ 1000000) : F99 [Is l, bfn b] = some (I (idxF (badD b) l 0)) := hF_eq (a := (l, b)) two_bfn (by simp only [cans, can, cans_I]) h
noncomputable abbrev T76 : List (FuncId × (List V → Option V)) := (53, F99) :: []
theorem hT76 : SoundHand Tryz.prog (hand T76) := sound_cons (hF_sound fun a h => w99 a.2 a.1 h) sound_nil
theorem w76 (b : Int) (l : List Int) (h : l.length ≤ 1000000) : SoundPure Tryz.prog 31 [Is l, bfn b] (.ret (.bool (l.any (badD b)))) := by
  refine s76 hT76 3 (by simp) rfl ?_
  have e := F99_eq (b := b) h
  simp only [c76, Tryz.f31, gets]
  simp only [vmr, vmw, vmp, vza, ↓reduceIte, Nat.reduceBEq, Nat.reduceLT, Nat.reduceAdd, Nat.reduceEqDiff, reduceCtorEq, vmt, vzb, vzc, vlen, vleaf, velems, oks, vst, vmd, ty, Nat.reduceLeDiff, Nat.reduceMul, Nat.reduceSub, vzr, m76, e, ← idx_any]
noncomputable def F76 : List V → Option V := hF (α := List Int × Int) (fun a => [Is a.1, bfn a.2]) (fun a => a.1.length ≤ 1000000) (fun a => .bool (a.1.any (badD a.2)))
theorem F76_eq {l : List Int} {b : Int} (h : l.length ≤ 1000000) : F76 [Is l, bfn b] = some (.bool (l.any (badD b))) := hF_eq (a := (l, b)) two_bfn (by simp only [cans, can, cans_I]) h
/-! ### Number -/
/-- The number with some digits behind a number. -/
def numL (b : Nat) : List Int → Nat → Nat
  | [], a => a
  | d :: r, a => numL b r (a * b + d.toNat)
theorem numL_ge {b : Nat} (hb : 1 ≤ b) : ∀ (l : List Int) (a : Nat), a ≤ numL b l a
  | [], a => Nat.le_refl _
  | d :: r, a => by
    have h1 := numL_ge hb r (a * b + d.toNat)
    have h2 := Nat.mul_le_mul_left a hb
    show a ≤ numL b r (a * b + d.toNat)
    omega
noncomputable abbrev T37 : List (FuncId × (List V → Option V)) := (23, F73) :: (31, F76) :: (34, F79) :: (35, F63) :: (33, F78) :: []
theorem hT37 : SoundHand Tryz.prog (hand T37) := sound_cons (hF_sound fun a _ => w73 a) <| sound_cons (hF_sound fun a h => w76 a.2 a.1 h) <| sound_cons (hF_sound fun a h => w79 a.1 a.2 h.1 h.2) <| sound_cons (hF_sound fun a h => w63 a h) <| sound_cons (hF_sound fun a h => w78 a.1 a.2 h.1 h.2) sound_nil
noncomputable abbrev K37 : List (FuncId × (List V → Option COut)) := (22, F51) :: (36, F54) :: []
theorem hK37 : SoundTab Tryz.prog (tabT K37) := tabs_cons (hO_sound fun a _ => w51 a.1 a.2) <| tabs_cons (hO_sound fun a h => w54 a h) tabs_nil
structure P37 (s : St) (b v3 v5 n : Nat) (l : List Int) (i : Nat) : Prop where
  h4 : tget s.τ 4 = .str []
  h3 : tget s.τ 3 = .ptr ⟨0, 3, 0⟩ v3 0 0
  h3' : lget s.L (3, 0) = some (v3, .var [I (b : Nat)])
  h5 : tget s.τ 5 = .ptr ⟨0, 5, 0⟩ v5 0 0
  h5' : lget s.L (5, 0) = some (v5, .var [I 0])
  h6 : tget s.τ 6 = N n ∨ n = 0 ∧ tget s.τ 6 = .nilS
  h21 : tget s.τ 21 = Is l
  h22 : tget s.τ 22 = I l.length
  h23 : tget s.τ 23 = I (i : Nat)
theorem len504 {n : Nat} (h : ¬ (lm 10000 n).length ≤ 126) : 10 ^ 500 ≤ n := by
  have h1 := mt (lm_len_le b2 n 126).2 h
  have h2 : ¬ (lm 10000 n).length ≤ 125 := by omega
  have h3 := mt (lm125 n).2 h2
  omega
theorem l37 {n0 k} (b v3 v5 : Nat) (hb : 2 ≤ b) (hb2 : b ≤ 1000) (l : List Int) (hl : l.length ≤ 2000) (hd : ∀ d ∈ l, badD b d = false) {P : Option (Ex × St) → Prop} : ∀ r i n n' s, l.drop i = r → r.length < n' → (lm 10000 n).length ≤ 126 → P37 s b v3 v5 n l i →
    (∀ s' i, (lm 10000 (numL b r n)).length ≤ 126 → P37 s' b v3 v5 (numL b r n) l i → P (X (tm (tabT K37) (M37 (hand T37) n0)) (.exit 0) k s')) →
    (∀ s', 10 ^ 500 ≤ numL b r n → lget s'.L (5, 0) = some (v5, .var [I 0]) → tget s'.τ 4 = .str [] → tget s'.τ 5 = .ptr ⟨0, 5, 0⟩ v5 0 0 → P (some (.pan (fault 7), s'))) →
    P (L (tm (tabT K37) (M37 (hand T37) n0)) (sub [1, 1, 1, 1, 1, 1, 0, 1, 0, 0] c37) n' k s)
  | [], i, n, n' + 1, s, hi, hn, hlen, ⟨h4, h3, h3', h5, h5', h6, h21, h22, h23⟩, hx, hp => by
    have hc := inlt (drop_nil' hi)
    rw [L_succ]
    simp only [vmr, vmw, vmp, vza, ↓reduceIte, Nat.reduceBEq, Nat.reduceLT, Nat.reduceAdd, Nat.reduceEqDiff, reduceCtorEq, vmt, vzb, vzc, vlen, vleaf, velems, oks, vst, vmd, ty, Nat.reduceLeDiff, Nat.reduceMul, Nat.reduceSub, c37, Tryz.f9, m37, h22, h23, hc]
    refine hx _ i hlen ⟨?_, ?_, ?_, ?_, ?_, ?_, ?_, ?_, ?_⟩
    case refine_6 =>
      rcases h6 with h6 | ⟨h0, h6⟩
      · exact .inl (by simp only [vmr, vmw, vmp, vza, ↓reduceIte, Nat.reduceBEq, Nat.reduceLT, Nat.reduceAdd, Nat.reduceEqDiff, reduceCtorEq, vmt, vzb, vzc, vlen, vleaf, velems, oks, vst, vmd, ty, Nat.reduceLeDiff, Nat.reduceMul, Nat.reduceSub, m37, h6]; rfl)
      · exact .inr ⟨h0, by simp only [vmr, vmw, vmp, vza, ↓reduceIte, Nat.reduceBEq, Nat.reduceLT, Nat.reduceAdd, Nat.reduceEqDiff, reduceCtorEq, vmt, vzb, vzc, vlen, vleaf, velems, oks, vst, vmd, ty, Nat.reduceLeDiff, Nat.reduceMul, Nat.reduceSub, m37, h6]⟩
    all_goals simp only [vmr, vmw, vmp, vza, ↓reduceIte, Nat.reduceBEq, Nat.reduceLT, Nat.reduceAdd, Nat.reduceEqDiff, reduceCtorEq, vmt, vzb, vzc, vlen, vleaf, velems, oks, vst, vmd, ty, Nat.reduceLeDiff, Nat.reduceMul, Nat.reduceSub, m37, h4, h3, h3', h5, h5', h21, h22, h23]
  | x :: r, i, n, n' + 1, s, hi, hn, hlen, ⟨h4, h3, h3', h5, h5', h6, h21, h22, h23⟩, hx, hp => by
    obtain ⟨hg, hdr, hlt⟩ := drop_cons hi
    have hc := ilt hlt
    have hw := wsucc hlt (by omega)
    have hbx := hd x (List.mem_of_getElem? hg)
    unfold badD at hbx
    rw [decide_eq_false_iff_not] at hbx
    obtain ⟨d, rfl⟩ : ∃ d : Nat, x = d := ⟨x.toNat, by omega⟩
    have hnum : numL b ((d : Int) :: r) n = numL b r (n * b + d) := rfl
    rw [hnum] at hx hp
    have hfn : few n := show (lm 10000 n).length ≤ 100000 by omega
    have hlb := lm_one (s := b) (by omega) (by omega)
    have e79 : F79 [N n, .lst [I (b : Nat)]] = some (N (n * b)) := by
      have := F79_eq (x := n) (y := b) hfn (by show (lm 10000 b).length ≤ 100000; rw [hlb]; simp)
      simp only [N, Is, hlb, List.map_cons, List.map_nil] at this ⊢
      exact this
    have e79n : n = 0 → F79 [.nilS, .lst [I (b : Nat)]] = some (N (n * b)) := fun h => by
      subst h
      have := F79_eq (x := 0) (y := b) hfn (by show (lm 10000 b).length ≤ 100000; rw [hlb]; simp)
      rw [← this]
      simp only [N, Is, hlb, List.map_cons, List.map_nil]
      rfl
    have e63 := F63_one (r := d) (by omega)
    have hmul : n * b < 10000 ^ 130 := by
      have h1 := lm_lt b2 n
      have h2 : (10000 : Nat) ^ (lm 10000 n).length ≤ 10000 ^ 126 := Nat.pow_le_pow_right (by omega) hlen
      have h3 : n * b ≤ n * 10000 := Nat.mul_le_mul_left n (by omega)
      have h4 : (10000 : Nat) ^ 127 ≤ 10000 ^ 130 := Nat.pow_le_pow_right (by omega) (by omega)
      have h5 : (10000 : Nat) ^ 127 = 10000 ^ 126 * 10000 := Nat.pow_succ ..
      omega
    have e78 := F78_eq (x := n * b) (y := d) (few_m (m := 130) (by omega) hmul) (few_m (m := 1) (by omega) (by omega))
    have hr1 := @room3 1 (by omega)
    have ih := fun s => @l37 n0 k b v3 v5 hb hb2 l hl hd P r (i + 1) (n * b + d) n' s hdr (by simp at hn; omega)
    simp only [sub, c37, Tryz.f9, gets] at ih
    rw [L_succ]
    by_cases hq : (lm 10000 (n * b + d)).length ≤ 126
    · have e51 := F51_eq true 7
      simp only [if_true] at e51
      have c2 : ((((lm 10000 (n * b + d)).length : Nat) : Int) ≤ 126) = True := eq_true (by omega)
      have ih := fun s => ih s hq
      rcases h6 with h6 | ⟨h0, h6⟩
      · simp only [vmr, vmw, vmp, vza, ↓reduceIte, Nat.reduceBEq, Nat.reduceLT, Nat.reduceAdd, Nat.reduceEqDiff, reduceCtorEq, vmt, vzb, vzc, vlen, vleaf, velems, oks, vst, vmd, ty, Nat.reduceLeDiff, Nat.reduceMul, Nat.reduceSub, c37, Tryz.f9, m37, h4, h3, h3', h5, h5', h6, h21, h22, h23, hc, hg, hw, e79, e63, e78, hr1, e51, c2, fitsI, Option.map_some, List.map_cons, List.map_nil, allflatI, pureLI, shI, import_I]
        refine ih _ ⟨?_, ?_, ?_, ?_, ?_, ?_, ?_, ?_, ?_⟩ hx hp
        case refine_6 => exact .inl (by simp only [vmr, vmw, vmp, vza, ↓reduceIte, Nat.reduceBEq, Nat.reduceLT, Nat.reduceAdd, Nat.reduceEqDiff, reduceCtorEq, vmt, vzb, vzc, vlen, vleaf, velems, oks, vst, vmd, ty, Nat.reduceLeDiff, Nat.reduceMul, Nat.reduceSub, m37])
        all_goals simp only [vmr, vmw, vmp, vza, ↓reduceIte, Nat.reduceBEq, Nat.reduceLT, Nat.reduceAdd, Nat.reduceEqDiff, reduceCtorEq, vmt, vzb, vzc, vlen, vleaf, velems, oks, vst, vmd, ty, Nat.reduceLeDiff, Nat.reduceMul, Nat.reduceSub, m37, h4, h3, h3', h5, h5', h21, h22, h23]
      · have e79 := e79n h0
        simp only [vmr, vmw, vmp, vza, ↓reduceIte, Nat.reduceBEq, Nat.reduceLT, Nat.reduceAdd, Nat.reduceEqDiff, reduceCtorEq, vmt, vzb, vzc, vlen, vleaf, velems, oks, vst, vmd, ty, Nat.reduceLeDiff, Nat.reduceMul, Nat.reduceSub, c37, Tryz.f9, m37, h4, h3, h3', h5, h5', h6, h21, h22, h23, hc, hg, hw, e79, e63, e78, hr1, e51, c2, fitsI, Option.map_some, List.map_cons, List.map_nil, allflatI, pureLI, shI, import_I]
        refine ih _ ⟨?_, ?_, ?_, ?_, ?_, ?_, ?_, ?_, ?_⟩ hx hp
        case refine_6 => exact .inl (by simp only [vmr, vmw, vmp, vza, ↓reduceIte, Nat.reduceBEq, Nat.reduceLT, Nat.reduceAdd, Nat.reduceEqDiff, reduceCtorEq, vmt, vzb, vzc, vlen, vleaf, velems, oks, vst, vmd, ty, Nat.reduceLeDiff, Nat.reduceMul, Nat.reduceSub, m37])
        all_goals simp only [vmr, vmw, vmp, vza, ↓reduceIte, Nat.reduceBEq, Nat.reduceLT, Nat.reduceAdd, Nat.reduceEqDiff, reduceCtorEq, vmt, vzb, vzc, vlen, vleaf, velems, oks, vst, vmd, ty, Nat.reduceLeDiff, Nat.reduceMul, Nat.reduceSub, m37, h4, h3, h3', h5, h5', h21, h22, h23]
    · have e51 := F51_eq false 7
      simp only [Bool.false_eq_true, if_false] at e51
      have c2 : ((((lm 10000 (n * b + d)).length : Nat) : Int) ≤ 126) = False := eq_false (by omega)
      have hbig : 10 ^ 500 ≤ numL b r (n * b + d) := Nat.le_trans (len504 hq) (numL_ge (by omega) _ _)
      rcases h6 with h6 | ⟨h0, h6⟩
      · simp only [vmr, vmw, vmp, vza, ↓reduceIte, Nat.reduceBEq, Nat.reduceLT, Nat.reduceAdd, Nat.reduceEqDiff, reduceCtorEq, vmt, vzb, vzc, vlen, vleaf, velems, oks, vst, vmd, ty, Nat.reduceLeDiff, Nat.reduceMul, Nat.reduceSub, c37, Tryz.f9, m37, h4, h3, h3', h5, h5', h6, h21, h22, h23, hc, hg, hw, e79, e63, e78, hr1, e51, c2, fitsI, Option.map_some, List.map_cons, List.map_nil, allflatI, pureLI, shI, import_I, tidy_mk]
        refine hp _ hbig ?_ ?_ ?_
        all_goals simp only [vmr, vmw, vmp, vza, ↓reduceIte, Nat.reduceBEq, Nat.reduceLT, Nat.reduceAdd, Nat.reduceEqDiff, reduceCtorEq, vmt, vzb, vzc, vlen, vleaf, velems, oks, vst, vmd, ty, Nat.reduceLeDiff, Nat.reduceMul, Nat.reduceSub, m37, h5', h4, h5]
      · have e79 := e79n h0
        simp only [vmr, vmw, vmp, vza, ↓reduceIte, Nat.reduceBEq, Nat.reduceLT, Nat.reduceAdd, Nat.reduceEqDiff, reduceCtorEq, vmt, vzb, vzc, vlen, vleaf, velems, oks, vst, vmd, ty, Nat.reduceLeDiff, Nat.reduceMul, Nat.reduceSub, c37, Tryz.f9, m37, h4, h3, h3', h5, h5', h6, h21, h22, h23, hc, hg, hw, e79, e63, e78, hr1, e51, c2, fitsI, Option.map_some, List.map_cons, List.map_nil, allflatI, pureLI, shI, import_I, tidy_mk]
        refine hp _ hbig ?_ ?_ ?_
        all_goals simp only [vmr, vmw, vmp, vza, ↓reduceIte, Nat.reduceBEq, Nat.reduceLT, Nat.reduceAdd, Nat.reduceEqDiff, reduceCtorEq, vmt, vzb, vzc, vlen, vleaf, velems, oks, vst, vmd, ty, Nat.reduceLeDiff, Nat.reduceMul, Nat.reduceSub, m37, h5', h4, h5]
end Go.Vi
set_option maxRecDepth 100000
set_option maxHeartbeats 1000000
set_option exponentiation.threshold 256
namespace Go.Vi
open Go Go.Proofs

def numS (l : List Int) (b : Int) : V :=
  if 2 ≤ b ∧ b ≤ 1000 then (if l.length ≤ 2000 then (if l.any (badD b) = true then .tup [.str [], I 4] else (if numL b.toNat l 0 < 10 ^ 500 then .tup [.str (itxt ((numL b.toNat l 0 : Nat) : Int)), I 0] else .tup [.str [], I 7])) else .tup [.str [], I 5]) else .tup [.str [], I 4]
theorem numS_pure {l b} : pureR (numS l b) = true := by
  unfold numS
  split
  · split
    · split
      · rfl
      · split <;> rfl
    · rfl
  · rfl
theorem F54_nil : F54 [.agg [.bool false, .nilS]] = some (outT true (.str (itxt 0)) 7) := by
  have h1 : fewI 0 := by decide
  exact hO_eq (a := (0 : Int)) (one_inj' fun _ _ => Zi_inj) (by simp only [cans, can]; rfl) h1
theorem w37 (l : List Int) (b : Int) : SoundPure Tryz.prog 9 [Is l, I b] (.ret (numS l b)) := by
  refine sound_defer (C := Cx (hand T37)) hT37 good mixed hK37 (n := 2010) (s1 := ?s1) (k := ⟨0, 5, 0⟩) (ver := 1) Tryz.func9 rfl (by simp) numS_pure (by decide) caught49 ?h0 ?hte ?h1
  case h0 =>
    show R (tm (tabT K37) (M37 (hand T37) 2010)) (sub [0] c37) .top _ = _
    simp only [c37, Tryz.f9, gets, sub]
    simp only [vmr, vmw, vmp, vza, ↓reduceIte, Nat.reduceBEq, Nat.reduceLT, Nat.reduceAdd, Nat.reduceEqDiff, reduceCtorEq, vmt, vzb, vzc, vlen, vleaf, velems, oks, vst, vmd, ty, Nat.reduceLeDiff, Nat.reduceMul, Nat.reduceSub, m37]
    exact X_top
  case hte => simp only [vmr, vmw, vmp, vza, ↓reduceIte, Nat.reduceBEq, Nat.reduceLT, Nat.reduceAdd, Nat.reduceEqDiff, reduceCtorEq, vmt, vzb, vzc, vlen, vleaf, velems, oks, vst, vmd, ty, Nat.reduceLeDiff, Nat.reduceMul, Nat.reduceSub, m37]
  show FinC (tm (tabT K37) (M37 (hand T37) 2010)) 25 79 _ [.tmp 4, .cell 5 25] (R (tm (tabT K37) (M37 (hand T37) 2010)) (sub [1, 1] c37) .top _) = _
  unfold numS
  have e73 := F73_eq b
  have e4 := F51_eq false 4
  have e4t := F51_eq true 4
  simp only [Bool.false_eq_true, if_false] at e4
  simp only [if_true] at e4t
  by_cases hb : 2 ≤ b ∧ b ≤ 1000
  · rw [if_pos hb]
    rw [decide_eq_true hb] at e73
    by_cases hl : l.length ≤ 2000
    · rw [if_pos hl]
      have e5 := F51_eq true 5
      simp only [if_true] at e5
      have c1 : ((l.length : Int) ≤ 2000) = True := eq_true (by omega)
      have e76 := F76_eq (l := l) (b := b) (by omega)
      cases ha : l.any (badD b) with
      | true =>
        rw [ha] at e76
        rw [if_pos rfl]
        simp only [c37, Tryz.f9, gets, sub, opsAt]
        simp only [vmr, vmw, vmp, vza, ↓reduceIte, Nat.reduceBEq, Nat.reduceLT, Nat.reduceAdd, Nat.reduceEqDiff, reduceCtorEq, vmt, vzb, vzc, vlen, vleaf, velems, oks, vst, vmd, ty, Nat.reduceLeDiff, Nat.reduceMul, Nat.reduceSub, vzr, m37, e73, e4, e4t, e5, e76, c1, FinC_pan, FinC_ret, tidy_mk]
      | false =>
        rw [ha] at e76
        rw [if_neg (by decide)]
        obtain ⟨B, rfl⟩ : ∃ B : Nat, b = B := ⟨b.toNat, by omega⟩
        rw [show ((B : Int)).toNat = B from rfl]
        have hd : ∀ d ∈ l, badD B d = false := fun d hd => by
          cases h : badD B d with
          | false => rfl
          | true => rw [List.any_eq_true.2 ⟨d, hd, h⟩] at ha; cases ha
        by_cases hv : numL B l 0 < 10 ^ 500
        · rw [if_pos hv]
          have a1 := fun k s v3 v5 => @l37 2010 k B v3 v5 (by omega) (by omega) l hl hd (fun r => FinC (tm (tabT K37) (M37 (hand T37) 2010)) 25 79 (.ptr ⟨0, 5, 0⟩ 1 0 0) [.tmp 4, .cell 5 25] r = some (.ret (.tup [.str (itxt ((numL B l 0 : Nat) : Int)), I 0]))) l 0 0 2010 s rfl (by omega) (by decide)
          simp only [c37, Tryz.f9, gets, sub, opsAt] at a1 ⊢
          simp only [vmr, vmw, vmp, vza, ↓reduceIte, Nat.reduceBEq, Nat.reduceLT, Nat.reduceAdd, Nat.reduceEqDiff, reduceCtorEq, vmt, vzb, vzc, vlen, vleaf, velems, oks, vst, vmd, ty, Nat.reduceLeDiff, Nat.reduceMul, Nat.reduceSub, m37, e73, e4, e4t, e5, e76, c1]
          refine a1 _ _ 0 1 ⟨?_, ?_, ?_, ?_, ?_, ?_, ?_, ?_, ?_⟩ (fun s' i hlen ⟨h4, h3, h3', h5, h5', h6, h21, h22, h23⟩ => ?_) (fun s' hbig _ _ _ => absurd hbig (by omega))
          case refine_10 =>
            have hs : small ((numL B l 0 : Nat) : Int) := hv
            have e54 := F54_eq (small_few hs)
            rw [(fitB_iff _).2 hs] at e54
            have hz : Zi ((numL B l 0 : Nat) : Int) = .agg [.bool false, N (numL B l 0)] := by
              have : decide (((numL B l 0 : Nat) : Int) < 0) = false := decide_eq_false (by omega)
              simp only [Zi, this]
              rfl
            rw [hz] at e54
            rcases h6 with h6 | ⟨h0, h6⟩
            · simp only [outT, if_true] at e54
              simp only [vmr, vmw, vmp, vza, ↓reduceIte, Nat.reduceBEq, Nat.reduceLT, Nat.reduceAdd, Nat.reduceEqDiff, reduceCtorEq, vmt, vzb, vzc, vlen, vleaf, velems, oks, vst, vmd, ty, Nat.reduceLeDiff, Nat.reduceMul, Nat.reduceSub, vzr, m37, h4, h3, h3', h5, h5', h6, e54, allflatI, pureLI, shI, import_I, FinC_pan, FinC_ret, tidy_mk]
            · have e54 := F54_nil
              simp only [outT, if_true] at e54
              rw [h0]
              simp only [vmr, vmw, vmp, vza, ↓reduceIte, Nat.reduceBEq, Nat.reduceLT, Nat.reduceAdd, Nat.reduceEqDiff, reduceCtorEq, vmt, vzb, vzc, vlen, vleaf, velems, oks, vst, vmd, ty, Nat.reduceLeDiff, Nat.reduceMul, Nat.reduceSub, vzr, m37, h4, h3, h3', h5, h5', h6, e54, allflatI, pureLI, shI, import_I, FinC_pan, FinC_ret, tidy_mk]
          case refine_6 => exact .inr ⟨rfl, by simp only [vmr, vmw, vmp, vza, ↓reduceIte, Nat.reduceBEq, Nat.reduceLT, Nat.reduceAdd, Nat.reduceEqDiff, reduceCtorEq, vmt, vzb, vzc, vlen, vleaf, velems, oks, vst, vmd, ty, Nat.reduceLeDiff, Nat.reduceMul, Nat.reduceSub, m37]⟩
          all_goals simp only [vmr, vmw, vmp, vza, ↓reduceIte, Nat.reduceBEq, Nat.reduceLT, Nat.reduceAdd, Nat.reduceEqDiff, reduceCtorEq, vmt, vzb, vzc, vlen, vleaf, velems, oks, vst, vmd, ty, Nat.reduceLeDiff, Nat.reduceMul, Nat.reduceSub, m37]
        · rw [if_neg hv]
          have a1 := fun k s v3 v5 => @l37 2010 k B v3 v5 (by omega) (by omega) l hl hd (fun r => FinC (tm (tabT K37) (M37 (hand T37) 2010)) 25 79 (.ptr ⟨0, 5, 0⟩ 1 0 0) [.tmp 4, .cell 5 25] r = some (.ret (.tup [.str [], I 7]))) l 0 0 2010 s rfl (by omega) (by decide)
          simp only [c37, Tryz.f9, gets, sub, opsAt] at a1 ⊢
          simp only [vmr, vmw, vmp, vza, ↓reduceIte, Nat.reduceBEq, Nat.reduceLT, Nat.reduceAdd, Nat.reduceEqDiff, reduceCtorEq, vmt, vzb, vzc, vlen, vleaf, velems, oks, vst, vmd, ty, Nat.reduceLeDiff, Nat.reduceMul, Nat.reduceSub, m37, e73, e4, e4t, e5, e76, c1]
          refine a1 _ _ 0 1 ⟨?_, ?_, ?_, ?_, ?_, ?_, ?_, ?_, ?_⟩ (fun s' i hlen ⟨h4, h3, h3', h5, h5', h6, h21, h22, h23⟩ => ?_) (fun s' hbig h5' h4 h5 => ?_)
          case refine_10 =>
            have hns : fitB (numL B l 0) = false := by
              cases h : fitB (numL B l 0) with
              | false => rfl
              | true => exact absurd ((fitB_iff _).1 h) hv
            have e54 := F54_eq (x := ((numL B l 0 : Nat) : Int)) (show (lm 10000 (Int.natAbs ((numL B l 0 : Nat) : Int))).length ≤ 100000 by rw [Int.natAbs_natCast]; omega)
            rw [Int.natAbs_natCast, hns] at e54
            have hz : Zi ((numL B l 0 : Nat) : Int) = .agg [.bool false, N (numL B l 0)] := by
              have : decide (((numL B l 0 : Nat) : Int) < 0) = false := decide_eq_false (by omega)
              simp only [Zi, this]
              rfl
            rw [hz] at e54
            rcases h6 with h6 | ⟨h0, h6⟩
            · simp only [outT, Bool.false_eq_true, if_false] at e54
              simp only [vmr, vmw, vmp, vza, ↓reduceIte, Nat.reduceBEq, Nat.reduceLT, Nat.reduceAdd, Nat.reduceEqDiff, reduceCtorEq, vmt, vzb, vzc, vlen, vleaf, velems, oks, vst, vmd, ty, Nat.reduceLeDiff, Nat.reduceMul, Nat.reduceSub, vzr, m37, h4, h3, h3', h5, h5', h6, e54, allflatI, pureLI, shI, import_I, FinC_pan, FinC_ret, tidy_mk]
            · rw [h0] at hv
              exact absurd (Nat.pow_pos (by omega)) hv
          case refine_11 => simp only [vmr, vmw, vmp, vza, ↓reduceIte, Nat.reduceBEq, Nat.reduceLT, Nat.reduceAdd, Nat.reduceEqDiff, reduceCtorEq, vmt, vzb, vzc, vlen, vleaf, velems, oks, vst, vmd, ty, Nat.reduceLeDiff, Nat.reduceMul, Nat.reduceSub, vzr, m37, h5', h4, h5, FinC_pan, FinC_ret, tidy_mk]
          case refine_6 => exact .inr ⟨rfl, by simp only [vmr, vmw, vmp, vza, ↓reduceIte, Nat.reduceBEq, Nat.reduceLT, Nat.reduceAdd, Nat.reduceEqDiff, reduceCtorEq, vmt, vzb, vzc, vlen, vleaf, velems, oks, vst, vmd, ty, Nat.reduceLeDiff, Nat.reduceMul, Nat.reduceSub, m37]⟩
          all_goals simp only [vmr, vmw, vmp, vza, ↓reduceIte, Nat.reduceBEq, Nat.reduceLT, Nat.reduceAdd, Nat.reduceEqDiff, reduceCtorEq, vmt, vzb, vzc, vlen, vleaf, velems, oks, vst, vmd, ty, Nat.reduceLeDiff, Nat.reduceMul, Nat.reduceSub, m37]
    · rw [if_neg hl]
      have e5 := F51_eq false 5
      simp only [Bool.false_eq_true, if_false] at e5
      have c1 : ((l.length : Int) ≤ 2000) = False := eq_false (by omega)
      simp only [c37, Tryz.f9, gets, sub, opsAt]
      simp only [vmr, vmw, vmp, vza, ↓reduceIte, Nat.reduceBEq, Nat.reduceLT, Nat.reduceAdd, Nat.reduceEqDiff, reduceCtorEq, vmt, vzb, vzc, vlen, vleaf, velems, oks, vst, vmd, ty, Nat.reduceLeDiff, Nat.reduceMul, Nat.reduceSub, vzr, m37, e73, e4, e4t, e5, c1, FinC_pan, FinC_ret, tidy_mk]
  · rw [if_neg hb]
    rw [decide_eq_false hb] at e73
    simp only [c37, Tryz.f9, gets, sub, opsAt]
    simp only [vmr, vmw, vmp, vza, ↓reduceIte, Nat.reduceBEq, Nat.reduceLT, Nat.reduceAdd, Nat.reduceEqDiff, reduceCtorEq, vmt, vzb, vzc, vlen, vleaf, velems, oks, vst, vmd, ty, Nat.reduceLeDiff, Nat.reduceMul, Nat.reduceSub, vzr, m37, e73, e4, FinC_pan, FinC_ret, tidy_mk]
noncomputable def F37 : List V → Option V := hF (α := List Int × Int) (fun a => [Is a.1, I a.2]) (fun _ => True) (fun a => numS a.1 a.2)
theorem F37_eq (l : List Int) (b : Int) : F37 [Is l, I b] = some (numS l b) := hF_eq (a := (l, b)) (two_inj (fun _ _ => Is_inj) (fun _ _ => I_inj)) (by simp only [cans, canIs, canI]) trivial
end Go.Vi
