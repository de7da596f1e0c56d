/-
  Plain law: the text of an integer reads back as the integer.
-/
import Derived.Test.YtpdeblfnbcponaaDoorYF
set_option linter.unusedSimpArgs false
set_option linter.unusedVariables false
set_option maxRecDepth 100000
set_option maxHeartbeats 1000000
namespace Go.Vi
open Go Go.Proofs

abbrev dgt (d : Int) : UInt8 := UInt8.ofNat (48 + d.toNat)
theorem dgt_nat {d : Int} (h : 0 ≤ d ∧ d < 10) : (dgt d).toNat = 48 + d.toNat := by
  show (UInt8.ofNat (48 + d.toNat)).toNat = _
  rw [UInt8.toNat_ofNat']
  omega
theorem dg_dgt {d : Int} (h : 0 ≤ d ∧ d < 10) : ((dg (dgt d) : Nat) : Int) = d := by
  unfold dg
  rw [dgt_nat h]
  omega
theorem dig_dgt {d : Int} (h : 0 ≤ d ∧ d < 10) : isDig (dgt d) = true := by
  have := dgt_nat h
  simp only [isDig, Bool.and_eq_true, decide_eq_true_eq]
  omega
theorem dval_rev : ∀ l : List Int, (∀ x ∈ l, 0 ≤ x ∧ x < 10) → ((dval ((l.map dgt).reverse) : Nat) : Int) = valB 10 l
  | [], _ => rfl
  | x :: r, h => by
    have hx := h x (by simp)
    have ih := dval_rev r fun y hy => h y (List.mem_cons_of_mem _ hy)
    rw [List.map_cons, List.reverse_cons, dval_append, dval_one]
    have := dg_dgt hx
    simp only [List.length_cons, List.length_nil, valB]
    rw [← ih]
    omega
theorem txt_pos {n : Nat} (h : n ≠ 0) : txt n = ((lm 10 n).map dgt).reverse := by
  unfold txt
  rw [if_neg h]
theorem dval_txt (n : Nat) : dval (txt n) = n := by
  by_cases h : n = 0
  · subst h; rfl
  · rw [txt_pos h]
    have := dval_rev (lm 10 n) (fx_dig 10 (by omega) _ _)
    rw [valB_lm b10] at this
    omega
theorem dig_txt (n : Nat) : (txt n).all isDig = true := by
  by_cases h : n = 0
  · subst h; rfl
  · rw [txt_pos h, List.all_eq_true]
    intro u hu
    simp only [List.mem_reverse, List.mem_map] at hu
    obtain ⟨d, hd, rfl⟩ := hu
    exact dig_dgt (fx_dig 10 (by omega) _ _ d hd)
theorem head_txt {n : Nat} (h : n ≠ 0) : (txt n).head? ≠ some 48 := by
  rw [txt_pos h, List.head?_reverse]
  intro e
  have hl : 0 < (lm 10 n).length := by have := mt (lm_nil b10 n).1 h; omega
  rw [List.getLast?_eq_getElem?, List.getElem?_map, List.length_map, lm_get b10 n _ (by omega)] at e
  simp only [Option.map_some, Option.some.injEq] at e
  have hd : (0 : Int) ≤ ((n / 10 ^ ((lm 10 n).length - 1) % 10 : Nat) : Int) ∧ ((n / 10 ^ ((lm 10 n).length - 1) % 10 : Nat) : Int) < 10 := by
    have := Nat.mod_lt (n / 10 ^ ((lm 10 n).length - 1)) (show 0 < 10 by omega)
    omega
  have h2 := dgt_nat hd
  rw [e] at h2
  have h3 : n / 10 ^ ((lm 10 n).length - 1) % 10 = 0 := by
    have : (48 : UInt8).toNat = 48 := rfl
    omega
  have h4 := lm_lt b10 n
  have h5 : ¬ n < 10 ^ ((lm 10 n).length - 1) := fun h => by have := (lm_len_le b10 n _).2 h; omega
  have hP : 0 < 10 ^ ((lm 10 n).length - 1) := Nat.pow_pos (by omega)
  have h6 : n / 10 ^ ((lm 10 n).length - 1) < 10 := by
    rw [Nat.div_lt_iff_lt_mul hP, Nat.mul_comm, ← Nat.pow_succ, show ((lm 10 n).length - 1).succ = (lm 10 n).length by omega]
    exact h4
  have h7 := Nat.div_pos (show 10 ^ ((lm 10 n).length - 1) ≤ n by omega) hP
  omega
set_option exponentiation.threshold 500000 in
theorem validT_txt {n : Nat} (h : n ≠ 0) (hs : n < 10 ^ 500) : validT (txt n) = true := by
  have h1 := of_decide_eq_true ((fitB_iff n).2 hs)
  have h2 : txt n ≠ [] := by
    intro e
    have := txt_len n
    rw [e, if_neg h] at this
    have h3 := mt (lm_nil b10 n).1 h
    rw [List.length_nil] at this
    omega
  unfold validT
  rw [dig_txt, decide_eq_false (by omega)]
  have h3 := head_txt h
  simp [h2, h3]
set_option exponentiation.threshold 500000 in
/-- The text of an integer of at most 500 digits is accepted, and reads as it. -/
theorem read_itxt {z : Int} (hs : small z) : validB (itxt z) = true ∧ ival (itxt z) = z := by
  by_cases h0 : z = 0
  · subst h0
    exact ⟨rfl, rfl⟩
  · have hn : z.natAbs ≠ 0 := by omega
    have hv := validT_txt hn hs
    have hd := dval_txt z.natAbs
    by_cases hz : z < 0
    · have e : itxt z = 45 :: txt z.natAbs := by unfold itxt; rw [if_pos hz]
      have hp : preB (45 :: txt z.natAbs) [45] = true := by simp [preB]
      have hdr : dropB (45 :: txt z.natAbs) [45] = txt z.natAbs := by unfold dropB; rw [if_pos hp]; rfl
      rw [e]
      refine ⟨?_, ?_⟩
      · unfold validB
        rw [hdr, hv, Bool.or_true]
      · unfold ival
        rw [hdr, hp, if_pos rfl, hd]
        omega
    · have e : itxt z = txt z.natAbs := by unfold itxt; rw [if_neg hz]
      obtain ⟨u, r, hur⟩ : ∃ u r, txt z.natAbs = u :: r := by
        cases ht : txt z.natAbs with
        | nil => rw [ht] at hv; exact absurd hv (by decide)
        | cons u r => exact ⟨u, r, rfl⟩
      have hu : isDig u = true := by
        have := dig_txt z.natAbs
        rw [hur] at this
        simp at this
        exact this.1
      have hu45 : u ≠ 45 := by rintro rfl; exact absurd hu (by decide)
      have hp : preB (txt z.natAbs) [45] = false := by rw [hur]; simp [preB, hu45]
      have hdr : dropB (txt z.natAbs) [45] = txt z.natAbs := by unfold dropB; rw [hp]; rfl
      rw [e]
      refine ⟨?_, ?_⟩
      · unfold validB
        rw [hdr, hv, Bool.or_true]
      · unfold ival
        rw [hdr, hp, if_neg (by decide), hd]
        omega
end Go.Vi
set_option maxRecDepth 100000
set_option maxHeartbeats 1000000
namespace Go.Vi
open Go Go.Proofs

theorem dgt_dg {u : UInt8} (h : isDig u = true) : dgt ((dg u : Nat) : Int) = u := by
  simp only [isDig, Bool.and_eq_true, decide_eq_true_eq] at h
  have hd : (0 : Int) ≤ ((dg u : Nat) : Int) ∧ ((dg u : Nat) : Int) < 10 := by unfold dg; omega
  apply UInt8.toNat_inj.1
  rw [dgt_nat hd]
  unfold dg
  omega
theorem txt_dval {t : List UInt8} (hd : t.all isDig = true) (hne : t ≠ []) (h0 : (t.head? == some 48) = false) : txt (dval t) = t := by
  have hpos := dval_pos t hd hne h0
  have hlt := dval_lt t hd
  have hge : 10 ^ (t.length - 1) ≤ dval t := by
    obtain ⟨u, r, rfl⟩ : ∃ u r, t = u :: r := by cases t with | nil => exact absurd rfl hne | cons u r => exact ⟨u, r, rfl⟩
    have e := dval_append [u] r
    rw [List.singleton_append, dval_one] at e
    rw [e]
    have hu : isDig u = true := by simp at hd; exact hd.1
    simp only [isDig, Bool.and_eq_true, decide_eq_true_eq] at hu
    have h48 : u.toNat ≠ 48 := fun e => by
      have : u = 48 := UInt8.toNat_inj.1 (by simpa using e)
      subst this
      simp at h0
    have h1 : 1 ≤ dg u := by unfold dg; omega
    have := Nat.mul_le_mul_right (10 ^ r.length) h1
    simp only [List.length_cons, Nat.add_sub_cancel]
    omega
  rw [txt_pos (by omega), ← lm_of b10 hlt hge]
  apply List.ext_getElem?
  intro i
  by_cases hi : i < t.length
  · have hu : t[i]? = some t[i] := List.getElem?_eq_getElem hi
    rw [List.getElem?_reverse (by simp [fx_len]; exact hi), List.length_map, fx_len, List.getElem?_map, fx_get 10 _ _ _ (by omega), dval_digit hd (t.length - 1 - i) (by omega) (u := t[i]) (by rw [show t.length - 1 - (t.length - 1 - i) = i by omega]; exact hu), hu]
    simp only [Option.map_some]
    rw [dgt_dg (List.all_eq_true.1 hd _ (List.mem_of_getElem? hu))]
  · rw [List.getElem?_eq_none (by simp [fx_len]; omega), List.getElem?_eq_none (by omega)]
theorem itxt_ival {a : List UInt8} (h : validB a = true) : itxt (ival a) = a := by
  unfold validB at h
  rw [Bool.or_eq_true] at h
  rcases h with h | h
  · have : a = [48] := by simpa using h
    subst this
    rfl
  · unfold validT at h
    simp only [Bool.and_eq_true, Bool.not_eq_true', decide_eq_false_iff_not, beq_eq_false_iff_ne, ne_eq] at h
    have hh : ((dropB a [45]).head? == some 48) = false := by simpa using h.1.2
    have ht := txt_dval h.2 h.1.1.1 hh
    have hp := dval_pos _ h.2 h.1.1.1 hh
    unfold ival
    cases hb : preB a [45] with
    | true =>
      have e : a = 45 :: dropB a [45] := by
        have hd : dropB a [45] = a.drop 1 := by unfold dropB; rw [if_pos hb]; rfl
        rw [hd]
        cases a with
        | nil => exact absurd hb (by decide)
        | cons u r =>
          simp [preB] at hb
          rw [hb]
          rfl
      rw [if_pos rfl]
      unfold itxt
      rw [if_pos (by omega), Int.natAbs_neg, Int.natAbs_natCast, ht]
      exact e.symm
    | false =>
      have e : dropB a [45] = a := by unfold dropB; rw [hb]; rfl
      rw [if_neg (by decide)]
      unfold itxt
      rw [if_neg (by omega), Int.natAbs_natCast, ht, e]
theorem w35 (s : List UInt8) : SoundPure Tryd.prog 35 [.str s] (.ret (.str (dropB s [45]))) := by
  refine s35 (H := []) sound_nil 3 (by simp) rfl ?_
  simp only [c35, Tryd.f35, gets]
  by_cases hs : s = []
  · have c0 : ((s.length : Int) > 0) = False := eq_false (by rw [hs]; decide)
    have e : dropB s [45] = s := by rw [hs]; rfl
    rw [e]
    simp only [vmr, vmw, vmp, vza, ↓reduceIte, Nat.reduceBEq, Nat.reduceLT, Nat.reduceAdd, Nat.reduceEqDiff, reduceCtorEq, vmt, vzb, vzc, vlen, vleaf, velems, oks, vst, vmd, ty, Nat.reduceLeDiff, Nat.reduceMul, Nat.reduceSub, vzr, m35, c0]
  · obtain ⟨u, r, hur⟩ : ∃ u r, s = u :: r := by cases s with | nil => exact absurd rfl hs | cons u r => exact ⟨u, r, rfl⟩
    have c0 : ((s.length : Int) > 0) = True := eq_true (by simp [hur])
    have hg : s[0]? = some u := by rw [hur]; rfl
    have hdr : (List.drop 1 s).take (s.length - 1) = r := by simp [hur]
    have h1le : (1 ≤ s.length) = True := eq_true (by simp [hur])
    by_cases hu : u = 45
    · have hd : ((u.toNat : Int) == 45) = true := by subst hu; rfl
      have e : dropB s [45] = r := by rw [hur, hu]; rfl
      rw [e]
      simp only [vmr, vmw, vmp, vza, ↓reduceIte, Nat.reduceBEq, Nat.reduceLT, Nat.reduceAdd, Nat.reduceEqDiff, reduceCtorEq, vmt, vzb, vzc, vlen, vleaf, velems, oks, vst, vmd, ty, Nat.reduceLeDiff, Nat.reduceMul, Nat.reduceSub, vzr, m35, c0, hg, hd, sliceA, sliceV, boundOf, z01, t1N, h1le, hdr, Option.map_some, Option.map_none, onone, Nat.le_refl]
    · have hd : ((u.toNat : Int) == 45) = false := by
        rw [beq_eq_false_iff_ne]
        exact fun h => hu (UInt8.toNat_inj.1 (by simpa using (show u.toNat = 45 by omega)))
      have e : dropB s [45] = s := by unfold dropB; rw [if_neg]; rw [hur]; simp [preB, hu]
      rw [e]
      simp only [vmr, vmw, vmp, vza, ↓reduceIte, Nat.reduceBEq, Nat.reduceLT, Nat.reduceAdd, Nat.reduceEqDiff, reduceCtorEq, vmt, vzb, vzc, vlen, vleaf, velems, oks, vst, vmd, ty, Nat.reduceLeDiff, Nat.reduceMul, Nat.reduceSub, vzr, m35, c0, hg, hd]
noncomputable def F35 : List V → Option V := hF (α := List UInt8) (fun a => [.str a]) (fun _ => True) (fun a => .str (dropB a [45]))
theorem F35_eq (s : List UInt8) : F35 [.str s] = some (.str (dropB s [45])) := hF_eq (a := s) (one_inj' fun _ _ => Str_inj) (by simp only [cans, canStr]) trivial
end Go.Vi
set_option maxRecDepth 100000
set_option maxHeartbeats 1000000
namespace Go.Vi
open Go Go.Proofs

theorem drop_itxt (z : Int) : dropB (itxt z) [45] = itxt ((z.natAbs : Nat) : Int) := by
  have e2 : itxt ((z.natAbs : Nat) : Int) = txt z.natAbs := by unfold itxt; rw [if_neg (by omega), Int.natAbs_natCast]
  rw [e2]
  by_cases hz : z < 0
  · have e : itxt z = 45 :: txt z.natAbs := by unfold itxt; rw [if_pos hz]
    rw [e]
    have hp : preB (45 :: txt z.natAbs) [45] = true := by simp [preB]
    unfold dropB
    rw [if_pos hp]
    rfl
  · have e : itxt z = txt z.natAbs := by unfold itxt; rw [if_neg hz]
    rw [e]
    unfold dropB
    rw [if_neg]
    intro h
    cases ht : txt z.natAbs with
    | nil => rw [ht] at h; exact absurd h (by decide)
    | cons u r =>
      have hd := dig_txt z.natAbs
      rw [ht] at h hd
      simp [preB] at h
      subst h
      simp at hd
      exact absurd hd.1 (by decide)
theorem first_itxt (z : Int) : ∃ u, (itxt z)[0]? = some u ∧ ((u.toNat : Int) == 45) = decide (z < 0) := by
  by_cases hz : z < 0
  · refine ⟨45, by unfold itxt; rw [if_pos hz]; rfl, ?_⟩
    rw [decide_eq_true hz]
    rfl
  · have e : itxt z = txt z.natAbs := by unfold itxt; rw [if_neg hz]
    rw [e]
    cases ht : txt z.natAbs with
    | nil =>
      have := txt_len z.natAbs
      rw [ht] at this
      by_cases h0 : z.natAbs = 0
      · rw [if_pos h0] at this; cases this
      · rw [if_neg h0] at this
        have h1 := mt (lm_nil b10 z.natAbs).1 h0
        exact absurd this.symm h1
    | cons u r =>
      refine ⟨u, rfl, ?_⟩
      rw [decide_eq_false hz, beq_eq_false_iff_ne]
      have hd := dig_txt z.natAbs
      rw [ht] at hd
      simp at hd
      have := hd.1
      simp only [isDig, Bool.and_eq_true, decide_eq_true_eq] at this
      omega
theorem quo_rem (x y : Int) (hy : y ≠ 0) : quoI x y * y + remI x y = x := by
  have h := Nat.div_add_mod x.natAbs y.natAbs
  have h2 : ((y.natAbs * (x.natAbs / y.natAbs) + x.natAbs % y.natAbs : Nat) : Int) = ((x.natAbs : Nat) : Int) := by rw [h]
  rw [Int.natCast_add, Int.natCast_mul] at h2
  unfold quoI remI
  generalize ((x.natAbs / y.natAbs : Nat) : Int) = q at *
  generalize ((x.natAbs % y.natAbs : Nat) : Int) = r at *
  by_cases h1 : x < 0 <;> by_cases h3 : y < 0
  · rw [decide_eq_true h1, decide_eq_true h3, if_pos rfl, if_pos h1]
    rw [show ((y.natAbs : Nat) : Int) = -y by omega, Int.neg_mul, Int.mul_comm] at h2
    omega
  · rw [decide_eq_true h1, decide_eq_false h3, if_neg (by decide), if_pos h1]
    rw [show ((y.natAbs : Nat) : Int) = y by omega, Int.mul_comm] at h2
    rw [Int.neg_mul]
    omega
  · rw [decide_eq_false h1, decide_eq_true h3, if_neg (by decide), if_neg h1]
    rw [show ((y.natAbs : Nat) : Int) = -y by omega, Int.neg_mul, Int.mul_comm] at h2
    rw [Int.neg_mul]
    omega
  · rw [decide_eq_false h1, decide_eq_false h3, if_pos rfl, if_neg h1]
    rw [show ((y.natAbs : Nat) : Int) = y by omega, Int.mul_comm] at h2
    omega
theorem quo_abs (x y : Int) : (quoI x y).natAbs = x.natAbs / y.natAbs := by
  unfold quoI
  split
  · exact Int.natAbs_natCast _
  · rw [Int.natAbs_neg, Int.natAbs_natCast]
theorem rem_abs (x y : Int) : (remI x y).natAbs = x.natAbs % y.natAbs := by
  unfold remI
  split
  · rw [Int.natAbs_neg, Int.natAbs_natCast]
  · exact Int.natAbs_natCast _
theorem outS_small {z : Int} (h : small z) : outS z = .tup [.str (itxt z), I 0] := by
  unfold outS
  rw [(fitB_iff _).2 h]
  rfl
theorem small_le {z w : Int} (h : small w) (hz : z.natAbs ≤ w.natAbs) : small z := Nat.lt_of_le_of_lt hz h
noncomputable abbrev T7 : List (FuncId × (List V → Option V)) := (21, F21) :: (10, F10) :: (13, F13) :: (11, F11) :: (24, F24) :: (35, F35) :: (28, F28) :: (15, F15) :: []
theorem hT7 : SoundHand Tryd.prog (hand T7) := sound_cons (hF_sound fun a h => w21 a h) <| sound_cons F10_sound <| sound_cons (hF_sound fun a _ => w13 a.1 a.2) <| sound_cons (hF_sound fun a _ => w11 a.1 a.2) <| sound_cons (hF_sound fun a _ => w24 a.1 a.2) <| sound_cons (hF_sound fun a _ => w35 a) <|
  sound_cons (hF_sound fun a _ => w28 a.1 a.2) <| sound_cons (hF_sound fun a _ => w15 a.1 a.2) sound_nil
theorem w7 (a b : List UInt8) : SoundPure Tryd.prog 7 [.str a, .str b] (.ret (.bool true)) := by
  refine s7 hT7 6 (by simp) rfl ?_
  have e21 := F21_eq (l := [a, b]) (by simp)
  rw [show Ss [a, b] = .lst [.str a, .str b] from rfl] at e21
  have e10 := F10_eq
  have hr2 := @room9 2 (by omega)
  have hs : calm (M7 (hand T7) 6).E (opsAt (sub [1, 1, 1, 1, 1, 1, 1, 0, 0] c7)) = true := by kernel_rfl
  simp only [c7, Tryd.f7, gets, sub, opsAt] at hs ⊢
  cases hl : ([a, b] : List (List UInt8)).any longB with
  | true =>
    rw [hl] at e21
    simp only [vmr, vmw, vmp, vza, ↓reduceIte, Nat.reduceBEq, Nat.reduceLT, Nat.reduceAdd, Nat.reduceEqDiff, reduceCtorEq, vmt, vzb, vzc, vlen, vleaf, velems, oks, vst, vmd, ty, Nat.reduceLeDiff, Nat.reduceMul, Nat.reduceSub, vzr, m7, hr2, fits9, List.map_cons, List.map_nil, e21, e10]
  | false =>
    rw [hl] at e21
    have hab : validB a = true ∧ validB b = true := by
      simp only [List.any_cons, List.any_nil, Bool.or_false, Bool.or_eq_false_iff, longB, Bool.not_eq_false'] at hl
      exact ⟨hl.1.2, hl.2.2⟩
    obtain ⟨ha, hb⟩ := hab
    have e13 := F13_eq a b
    have hz := ival_zero hb
    have sa := ival_small ha
    have sb := ival_small hb
    have ia := itxt_ival ha
    have ib := itxt_ival hb
    unfold divO at e13
    rw [if_pos ⟨ha, hb⟩] at e13
    by_cases hy : ival b = 0
    · rw [if_pos hy] at e13
      rw [decide_eq_true hy] at hz
      have b0 : (([] : List UInt8) == []) = true := rfl
      simp only [vmr, vmw, vmp, vza, ↓reduceIte, Nat.reduceBEq, Nat.reduceLT, Nat.reduceAdd, Nat.reduceEqDiff, reduceCtorEq, vmt, vzb, vzc, vlen, vleaf, velems, oks, vst, vmd, ty, Nat.reduceLeDiff, Nat.reduceMul, Nat.reduceSub, vzr, m7, hr2, fits9, List.map_cons, List.map_nil, e21, e10, e13, strOp, hz, b0, Int.reduceBEq]
    · rw [if_neg hy] at e13
      rw [decide_eq_false hy] at hz
      generalize hx' : ival a = x at *
      generalize hy' : ival b = y at *
      have sq : small (quoI x y) := small_le sa (by rw [quo_abs]; exact Nat.div_le_self _ _)
      have hrl : (remI x y).natAbs < y.natAbs := by rw [rem_abs]; exact Nat.mod_lt _ (by omega)
      have sr : small (remI x y) := small_le sb (by omega)
      have hqr := quo_rem x y hy
      have sqy : small (quoI x y * y) := small_le sa (by rw [Int.natAbs_mul, quo_abs]; exact Nat.div_mul_le_self _ _)
      have hsign : remI x y ≠ 0 → (remI x y < 0 ↔ x < 0) := by
        unfold remI
        intro h
        split
        · rename_i h1
          rw [if_pos h1] at h
          omega
        · rename_i h1
          rw [if_neg h1] at h
          omega
      generalize quoI x y = q at *
      generalize remI x y = r at *
      obtain ⟨vq, iq⟩ := read_itxt sq
      obtain ⟨vr, ir⟩ := read_itxt sr
      obtain ⟨vqy, iqy⟩ := read_itxt sqy
      have e11 := F11_eq (itxt q) b
      unfold with2 at e11
      rw [if_pos ⟨vq, hb⟩, iq, hy', outS_small sqy] at e11
      have e24 := F24_eq (itxt (q * y)) (itxt r)
      unfold with2 at e24
      rw [if_pos ⟨vqy, vr⟩, iqy, ir] at e24
      dsimp only at e24
      rw [hqr, outS_small sa, ia] at e24
      have e35r := F35_eq (itxt r)
      rw [drop_itxt] at e35r
      have e35b := F35_eq b
      rw [← ib, drop_itxt, ib] at e35b
      have sra : small ((r.natAbs : Nat) : Int) := small_le sr (by rw [Int.natAbs_natCast]; exact Nat.le_refl _)
      have sya : small ((y.natAbs : Nat) : Int) := small_le sb (by rw [Int.natAbs_natCast]; exact Nat.le_refl _)
      obtain ⟨v1, i1⟩ := read_itxt sra
      obtain ⟨v2, i2⟩ := read_itxt sya
      have e28 := F28_eq (itxt ((r.natAbs : Nat) : Int)) (itxt ((y.natAbs : Nat) : Int))
      unfold cmpO at e28
      rw [if_pos ⟨v1, v2⟩, i1, i2, show cmpI ((r.natAbs : Nat) : Int) ((y.natAbs : Nat) : Int) = -1 by unfold cmpI; rw [if_pos (by omega)]] at e28
      obtain ⟨ur, gr, dr⟩ := first_itxt r
      obtain ⟨ua, ga, da⟩ := first_itxt x
      rw [ia] at ga
      have haa : (a == a) = true := beq_self_eq_true _
      have hm1 : ((-1 : Int) ≥ 0) = False := by decide
      have hg0 : ((Int.gcd x y : Nat) : Int) ≠ 0 := by have := Int.gcd_pos_of_ne_zero_right x hy; omega
      have sg : small ((Int.gcd x y : Nat) : Int) := by show Int.natAbs _ < _; rw [Int.natAbs_natCast]; exact gcd_small sa sb
      have e15 := F15_eq a b
      unfold with2 at e15
      rw [if_pos ⟨ha, hb⟩, hx', hy', outS_small sg] at e15
      obtain ⟨vg, ig⟩ := read_itxt sg
      have rz : ∀ w : Int, (Int.gcd x y) ∣ w.natAbs → remI w ((Int.gcd x y : Nat) : Int) = 0 := fun w hw => by
        have := Nat.mod_eq_zero_of_dvd hw
        unfold remI
        rw [Int.natAbs_natCast, this]
        split <;> rfl
      have e13a := F13_eq a (itxt ((Int.gcd x y : Nat) : Int))
      unfold divO at e13a
      rw [if_pos ⟨ha, vg⟩, ig, if_neg hg0, hx', rz x (Int.gcd_dvd_natAbs_left x y)] at e13a
      have e13b := F13_eq b (itxt ((Int.gcd x y : Nat) : Int))
      unfold divO at e13b
      rw [if_pos ⟨hb, vg⟩, ig, if_neg hg0, hy', rz y (Int.gcd_dvd_natAbs_right x y)] at e13b
      have z48 : (itxt 0 == [48]) = true := rfl
      generalize itxt ((Int.gcd x y : Nat) : Int) = G at *
      by_cases hr0 : r = 0
      · subst hr0
        simp only [vmr, vmw, vmp, vza, ↓reduceIte, Nat.reduceBEq, Nat.reduceLT, Nat.reduceAdd, Nat.reduceEqDiff, reduceCtorEq, vmt, vzb, vzc, vlen, vleaf, velems, oks, vst, vmd, ty, Nat.reduceLeDiff, Nat.reduceMul, Nat.reduceSub, vzr, m7, hs, hr2, fits9, List.map_cons, List.map_nil, e21, e10, e13, strOp, hz, e11, e24, e35r, e35b, e28, haa, hm1, z48, e15, e13a, e13b, Int.reduceBEq, Int.reduceBNe, Bool.false_eq_true]
      · have h48 : (itxt r == [48]) = false := by
          rw [beq_eq_false_iff_ne]
          intro h
          rw [h] at ir
          exact hr0 (ir.symm.trans rfl)
        have hdd : decide (r < 0) = decide (x < 0) := by simp [hsign hr0]
        rw [hdd] at dr
        have hbx : ∀ p : Bool, (p != p) = false := fun p => bne_self_eq_false _
        simp only [vmr, vmw, vmp, vza, ↓reduceIte, Nat.reduceBEq, Nat.reduceLT, Nat.reduceAdd, Nat.reduceEqDiff, reduceCtorEq, vmt, vzb, vzc, vlen, vleaf, velems, oks, vst, vmd, ty, Nat.reduceLeDiff, Nat.reduceMul, Nat.reduceSub, vzr, m7, hs, hr2, fits9, List.map_cons, List.map_nil, e21, e10, e13, strOp, hz, e11, e24, e35r, e35b, e28, haa, hm1, z48, h48, gr, ga, dr, da, hbx, e15, e13a, e13b, Int.reduceBEq, Int.reduceBNe, Bool.false_eq_true]
end Go.Vi
