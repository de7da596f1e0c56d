/-
  strconv.Itoa and strconv.Atoi by the kit's contracts; arith.Int, arith.Text.
-/
import Derived.Test.YtpdeblfnbcponaaGreatDoorZD
import Derived.Test.YtpdeblfnbcponaaGreatDoorZE
set_option linter.unusedSimpArgs false
set_option linter.unusedVariables false
set_option maxRecDepth 100000
set_option maxHeartbeats 1000000
set_option exponentiation.threshold 256
namespace Go.Vi
open Go Go.Proofs

/-! ### Plain law -/
theorem dec_digits : ∀ (u : Nat), (Lib.decDigits u).all isDig = true ∧ dval (Lib.decDigits u) = u ∧ Lib.decDigits u ≠ [] ∧ (u ≠ 0 → ((Lib.decDigits u).head? == some 48) = false) := by
  intro u
  induction u using Nat.strongRecOn with
  | _ u ih =>
    have one : ∀ d : Nat, d < 10 → isDig (UInt8.ofNat (48 + d)) = true ∧ dg (UInt8.ofNat (48 + d)) = d := fun d hd => by
      have h1 := dig_dgt (d := (d : Int)) ⟨by omega, by omega⟩
      have h2 := dg_dgt (d := (d : Int)) ⟨by omega, by omega⟩
      have e : dgt (d : Int) = UInt8.ofNat (48 + d) := rfl
      rw [e] at h1 h2
      exact ⟨h1, by omega⟩
    by_cases h : u < 10
    · rw [Lib.decDigits_one h]
      obtain ⟨h1, h2⟩ := one u h
      refine ⟨by simp only [List.all_cons, List.all_nil, h1, Bool.and_true], by rw [dval_one, h2], by simp, fun h0 => ?_⟩
      simp only [List.head?_cons]
      rw [beq_eq_false_iff_ne]
      intro e
      injection e with e
      rw [e] at h2
      exact h0 (h2.symm.trans rfl)
    · obtain ⟨i1, i2, i3, i4⟩ := ih (u / 10) (by omega)
      obtain ⟨h1, h2⟩ := one (u % 10) (by omega)
      rw [Lib.decDigits, dif_neg h]
      refine ⟨by rw [List.all_append, i1]; simp only [List.all_cons, List.all_nil, h1, Bool.and_true], ?_, by simp, fun h0 => ?_⟩
      · rw [dval_append, i2, dval_one, h2]
        simp only [List.length_cons, List.length_nil, Nat.zero_add, Nat.pow_one]
        omega
      · rw [List.head?_append]
        have := i4 (by omega)
        cases hh : (Lib.decDigits (u / 10)).head? with
        | none => exact absurd (List.head?_eq_none_iff.1 hh) i3
        | some x => rw [hh] at this; exact this
theorem dec_txt (u : Nat) : Lib.decDigits u = txt u := by
  by_cases h : u = 0
  · subst h
    rw [Lib.decDigits_one (by omega)]
    rfl
  · obtain ⟨h1, h2, h3, h4⟩ := dec_digits u
    have := txt_dval h1 h3 (h4 h)
    rw [h2] at this
    exact this.symm
theorem itoa_itxt (z : Int) : Lib.itoa z = itxt z := by
  unfold Lib.itoa itxt
  split
  · rw [dec_txt]
  · rw [dec_txt, show z.toNat = z.natAbs by omega]
theorem parse_dig : ∀ (t : List UInt8) (acc : Nat), t.all isDig = true → acc < 18446744073709551616 → Lib.parseUint10 acc t = if dacc acc t < 18446744073709551616 then .ok (dacc acc t) else .range
  | [], acc, _, h => by
    have e : dacc acc [] = acc := rfl
    rw [e, if_pos h]
    rfl
  | c :: r, acc, hd, h => by
    simp only [List.all_cons, Bool.and_eq_true] at hd
    have hc := hd.1
    simp only [isDig, Bool.and_eq_true, decide_eq_true_eq] at hc
    have hge : ∀ a : Nat, a ≤ dacc a r := fun a => by
      rw [dacc_eq]
      have := Nat.mul_le_mul_left a (Nat.pow_pos (n := r.length) (show 0 < 10 by omega))
      omega
    have hdg : dg c = c.toNat - 48 := rfl
    rw [dacc_cons]
    unfold Lib.parseUint10
    rw [if_pos hc]
    have h1 := hge (10 * acc + dg c)
    by_cases h2 : 1844674407370955162 ≤ acc
    · rw [if_pos h2, if_neg (by omega)]
    · rw [if_neg h2]
      by_cases h3 : 18446744073709551616 ≤ acc * 10 + (c.toNat - 48)
      · rw [if_pos h3, if_neg (by omega)]
      · rw [if_neg h3, show acc * 10 + (c.toNat - 48) = 10 * acc + dg c by omega]
        exact parse_dig r _ hd.2 (by omega)
theorem dacc_zero (t : List UInt8) : dacc 0 t = dval t := by rw [dacc_eq]; omega
/-- What strconv.Atoi makes of an accepted text. -/
theorem atoi_valid {a : List UInt8} (h : validB a = true) : Lib.atoiAll a = if -9223372036854775808 ≤ ival a ∧ ival a ≤ 9223372036854775807 then .ok (ival a) else .range := by
  have h0 := h
  unfold validB at h
  rw [Bool.or_eq_true] at h
  rcases h with h | h
  · have : a = [48] := by simpa using h
    subst this
    rfl
  · unfold validT at h
    simp only [Bool.and_eq_true, Bool.not_eq_true', decide_eq_false_iff_not, beq_eq_false_iff_ne, ne_eq] at h
    have hdig := h.2
    have hne := h.1.1.1
    have hp := parse_dig _ 0 hdig (by omega)
    rw [dacc_zero] at hp
    cases a with
    | nil => exact absurd hdig (by intro _; exact hne rfl)
    | cons c r =>
      unfold Lib.atoiAll
      dsimp only
      unfold ival
      by_cases hc : c = 45
      · subst hc
        have e1 : preB (45 :: r) [45] = true := by simp [preB]
        have e2 : dropB (45 :: r) [45] = r := by unfold dropB; rw [if_pos e1]; rfl
        rw [e2] at hp hne
        rw [e1, e2, if_pos rfl, show (45 : UInt8).toNat = 45 from rfl, if_pos (.inr rfl)]
        unfold Lib.parseMag
        rw [if_neg hne, hp]
        by_cases h1 : dval r < 18446744073709551616
        · rw [if_pos h1]
          dsimp only
          by_cases h2 : 9223372036854775808 < dval r
          · rw [if_neg (by omega), if_pos ⟨rfl, h2⟩, if_neg (by omega)]
          · rw [if_neg (by omega), if_neg (by omega), if_pos rfl, if_pos (by omega)]
        · rw [if_neg h1]
          dsimp only
          rw [if_neg (by omega)]
      · have e1 : preB (c :: r) [45] = false := by simp [preB, hc]
        have e2 : dropB (c :: r) [45] = c :: r := by unfold dropB; rw [e1]; rfl
        rw [e2] at hp hne hdig
        have hcd : isDig c = true := by simp at hdig; exact hdig.1
        simp only [isDig, Bool.and_eq_true, decide_eq_true_eq] at hcd
        have n45 : ¬ c.toNat = 45 := by omega
        rw [e1, e2, if_neg (show ¬ (c.toNat = 43 ∨ c.toNat = 45) by omega), if_neg Bool.false_ne_true]
        unfold Lib.parseMag
        rw [if_neg hne, hp]
        by_cases h1 : dval (c :: r) < 18446744073709551616
        · rw [if_pos h1]
          dsimp only
          by_cases h2 : 9223372036854775808 ≤ dval (c :: r)
          · rw [if_pos ⟨n45, h2⟩, if_neg (by omega)]
          · rw [if_neg (by omega), if_neg (fun h => n45 h.1), if_neg n45, if_pos (by omega)]
        · rw [if_neg h1]
          dsimp only
          rw [if_neg (by omega)]
/-! ### The contracts -/
theorem global4 : Tryz.prog.globalNamed "internal/strconv.uint64pow10" = some 2 := by kernel_rfl
theorem tab_of {w : World} {A : Nat → Prop} (h : JA w A) : Lib.TabIs Tryz.prog w "internal/strconv.uint64pow10" .u64 Lib.pow10Tab := by
  obtain ⟨_, cs, t, f, hc, hp⟩ := h (2, _) (List.mem_cons_self ..)
  dsimp only at hc hp
  show w.var? _ _ = _
  unfold World.var?
  rw [global4]
  simp only [Option.bind_some, hc, hp]
  rfl
/-- Nothing of old has turned. -/
theorem tr_grown {w w' : World} {A : Nat → Prop} (hA : ∀ b, A b → b < w.heap.size) (h1 : w.heap.size ≤ w'.heap.size) (h2 : w'.os = w.os) (h3 : w'.tape = w.tape) (h4 : w'.output = w.output) (h5 : ∀ b, b < w.heap.size → w'.heap[b]? = w.heap[b]?) : Tr w A noB 0 noH w' A noB 0 noH ∧ ∀ b, A b → b < w'.heap.size :=
  ⟨⟨h1, h2, h3, h4, fun b hb _ => h5 b hb, fun _ _ _ => rfl, Nat.le_refl _, fun _ h => h, fun _ h => .inl h, fun _ h => .inl h⟩, fun b hb => Nat.lt_of_lt_of_le (hA b hb) h1⟩
theorem w81 (n : Int) (hn : -9223372036854775808 ≤ n ∧ n ≤ 9223372036854775807) : SoundPure Tryz.prog 42 [I n] (.ret (.str (itxt n))) := by
  intro w A cs hJ hA hp
  simp only [PCs, PC] at hp
  obtain ⟨c, d, e, rfl, rfl⟩ := hp
  obtain rfl : cs = #[.int .i64 n] := by cases cs; simp_all
  refine (Tryz.strconv_Itoa n hn.1 hn.2 w (tab_of hJ)).mono ?_
  rintro e w' ⟨rfl, k, os, rfl⟩
  have t := tr_grown (w := w) (w' := Go.Sort.grow (w.drewN k) os) hA (by simp [Go.Sort.grow, World.drewN]) rfl rfl rfl (fun b hb => by simp [Go.Sort.grow, World.drewN, Array.getElem?_append, hb])
  refine ⟨A, t.1, t.2, _, [], rfl, ?_, fun i hi => (by cases hi), List.Pairwise.nil⟩
  simp only [RC, IC, PC, itoa_itxt]
  exact ⟨trivial, trivial⟩
noncomputable def F81 : List V → Option V := hF (α := Int) (fun a => [I a]) (fun n => -9223372036854775808 ≤ n ∧ n ≤ 9223372036854775807) (fun n => .str (itxt n))
theorem F81_eq {n : Int} (h : -9223372036854775808 ≤ n ∧ n ≤ 9223372036854775807) : F81 [I n] = some (.str (itxt n)) := hF_eq (a := n) (one_inj' fun _ _ => I_inj) (by simp only [cans, canI]) h
def fitI (s : List UInt8) : Prop := validB s = true ∧ -9223372036854775808 ≤ ival s ∧ ival s ≤ 9223372036854775807
theorem valid_len {s : List UInt8} (h : validB s = true) : s.length ≤ 501 := by
  unfold validB at h
  rw [Bool.or_eq_true] at h
  rcases h with h | h
  · have : s = [48] := by simpa using h
    subst this
    decide
  · unfold validT at h
    simp only [Bool.and_eq_true, Bool.not_eq_true', decide_eq_false_iff_not] at h
    have h2 := h.1.1.2
    unfold dropB at h2
    split at h2
    · simp at h2; omega
    · omega
theorem w80 (s : List UInt8) (hs : fitI s) : SoundPure Tryz.prog 41 [.str s] (.ret (.tup [I (ival s), .nilI])) := by
  intro w A cs hJ hA hp
  simp only [PCs, PC] at hp
  obtain ⟨c, d, e, rfl, rfl⟩ := hp
  obtain rfl : cs = #[.string ⟨s.toArray⟩] := by cases cs; simp_all
  have hl := valid_len hs.1
  have ha := atoi_valid hs.1
  rw [if_pos hs.2] at ha
  refine (Tryz.strconv_Atoi_ok ⟨s.toArray⟩ (by simp [ByteArray.size]; omega) (ival s) (by simpa using ha) w).mono ?_
  rintro e w' ⟨rfl, hw⟩
  have t : Tr w A noB 0 noH w' A noB 0 noH ∧ ∀ b, A b → b < w'.heap.size := by
    rcases hw with rfl | ⟨u, rfl⟩
    · exact ⟨Tr.refl .., hA⟩
    · exact tr_grown hA (by rw [Lib.bytesWorld_size]; omega) rfl rfl rfl (fun b hb => Lib.bytesWorld_at_old w 5 u b hb)
  refine ⟨A, t.1, t.2, _, [], rfl, ?_, fun i hi => (by cases hi), List.Pairwise.nil⟩
  simp only [RC, RCs, IC, PC]
  exact ⟨_, rfl, _, _, [], [], rfl, rfl, ⟨rfl, rfl⟩, _, _, [], [], rfl, rfl, ⟨rfl, rfl⟩, rfl, rfl⟩
noncomputable abbrev T39 : List (FuncId × (List V → Option V)) := (42, F81) :: []
theorem hT39 : SoundHand Tryz.prog (hand T39) := sound_cons (hF_sound fun a h => w81 a h) sound_nil
theorem w39 (n : Int) (hn : -9223372036854775808 ≤ n ∧ n ≤ 9223372036854775807) : SoundPure Tryz.prog 13 [I n] (.ret (.str (itxt n))) := by
  refine s39 hT39 6 (by simp) rfl ?_
  have e81 := F81_eq hn
  simp only [c39, Tryz.f13, gets]
  simp only [vmr, vmw, vmp, vza, ↓reduceIte, Nat.reduceBEq, Nat.reduceLT, Nat.reduceAdd, Nat.reduceEqDiff, reduceCtorEq, vmt, vzb, vzc, vlen, vleaf, velems, oks, vst, vmd, ty, Nat.reduceLeDiff, Nat.reduceMul, Nat.reduceSub, vzr, m39, e81]
noncomputable def F39 : List V → Option V := hF (α := Int) (fun a => [I a]) (fun n => -9223372036854775808 ≤ n ∧ n ≤ 9223372036854775807) (fun n => .str (itxt n))
theorem F39_eq {n : Int} (h : -9223372036854775808 ≤ n ∧ n ≤ 9223372036854775807) : F39 [I n] = some (.str (itxt n)) := hF_eq (a := n) (one_inj' fun _ _ => I_inj) (by simp only [cans, canI]) h
end Go.Vi
set_option maxRecDepth 100000
set_option maxHeartbeats 1000000
namespace Go.Vi
open Go Go.Proofs

variable {H : FuncId → Option (List V → Option V)}
noncomputable abbrev A98 (H : FuncId → Option (List V → Option V)) (n : Nat) : Mc := mcAt (Cx H) 50 Tryz.f50 2 n
theorem a98 (H n) : (A98 H n).E.keep = [0, 2, 3, 9] ∧ (A98 H n).E.cnd = [9] ∧ (A98 H n).E.frz = [2, 3] ∧ (A98 H n).E.pro = [] ∧ (A98 H n).E.imp = [] ∧ (A98 H n).E.n = 28 ∧ (A98 H n).E.lvl = 2 ∧ (A98 H n).E.P = Tryz.prog ∧ (A98 H n).fuel = n ∧ (A98 H n).C = H ∧ (A98 H n).E.ok = okL := ⟨rfl, rfl, rfl, rfl, rfl, rfl, rfl, rfl, rfl, rfl, rfl⟩
noncomputable abbrev ops98 : Array Oper := opsAt (sub [1, 0, 0, 1, 0, 0] c98)
theorem draw98 {n : Nat} {s : St} {vr len i j : Nat} {es : List V} {a b : Int} (h0 : tget s.τ 0 = .ref ⟨0, 7, 0⟩ vr 0 len) (h2 : tget s.τ 2 = I (i : Nat)) (h3 : tget s.τ 3 = I (j : Nat)) (h26 : tget s.τ 26 = .junk) (h27 : tget s.τ 27 = .junk) (ho : s.O ⟨0, 7, 0⟩ = some (vr, .arr 1 es))
    (hi : i < len) (hj : j < len) (ha : es[i]? = some (I a)) (hb : es[j]? = some (I b)) (hij : i ≠ j) :
    ∃ τ', drawR (A98 H n).call (A98 H n).E (A98 H n).C ops98 s = some ⟨τ', s.L, oput (oput s.O ⟨0, 7, 0⟩ (vr, .arr 1 (es.set i (I b)))) ⟨0, 7, 0⟩ (vr, .arr 1 ((es.set i (I b)).set j (I a))), s.c⟩ ∧ tget τ' 0 = .ref ⟨0, 7, 0⟩ vr 0 len ∧ tget τ' 2 = I (i : Nat) ∧ tget τ' 3 = I (j : Nat) := by
  unfold drawR
  have hac : actorsOf (A98 H n).E ops98.toList 0 = [13, 15] := by kernel_rfl
  have f0 : [13, 15].filter (apartI (ancTab ops98.toList []) 0) = [] := by kernel_rfl
  have f1 : [13, 15].filter (apartI (ancTab ops98.toList []) 1) = [] := by kernel_rfl
  have f2 : [13, 15].filter (apartI (ancTab ops98.toList []) 2) = [13] := by kernel_rfl
  have f3 : [13, 15].filter (apartI (ancTab ops98.toList []) 3) = [13] := by kernel_rfl
  have f4 : [13, 15].filter (apartI (ancTab ops98.toList []) 4) = [] := by kernel_rfl
  have f5 : [13, 15].filter (apartI (ancTab ops98.toList []) 5) = [] := by kernel_rfl
  have f6 : [13, 15].filter (apartI (ancTab ops98.toList []) 6) = [] := by kernel_rfl
  have f7 : [13, 15].filter (apartI (ancTab ops98.toList []) 7) = [] := by kernel_rfl
  have f8 : [13, 15].filter (apartI (ancTab ops98.toList []) 8) = [] := by kernel_rfl
  have f9 : [13, 15].filter (apartI (ancTab ops98.toList []) 9) = [] := by kernel_rfl
  have f10 : [13, 15].filter (apartI (ancTab ops98.toList []) 10) = [] := by kernel_rfl
  have f11 : [13, 15].filter (apartI (ancTab ops98.toList []) 11) = [] := by kernel_rfl
  have f12 : [13, 15].filter (apartI (ancTab ops98.toList []) 12) = [] := by kernel_rfl
  have f14 : [13, 15].filter (apartI (ancTab ops98.toList []) 14) = [] := by kernel_rfl
  have hst : allAt (fun o i => staticOk (A98 H n).E ops98 (ancTab ops98.toList []) [13, 15] o i) ops98.toList 0 = true := by kernel_rfl
  have hlk : ops98.toList.map (Oper.looksAt ops98) = [[0], [2], [0], [3], [0], [3], [18, 19], [20], [0], [2], [22, 23], [24], [14, 15], [26, 21], [16, 17], [27, 25]] := by kernel_rfl
  rw [hac]
  generalize ancTab ops98.toList [] = T at f0 f1 f2 f3 f4 f5 f6 f7 f8 f9 f10 f11 f12 f14 hst
  have g13 : ∀ s0 : St, estAt (A98 H n).E ops98 s0 13 = (match evalO s0 (.tmp 26) with | .ptr k _ _ _ => some [k] | _ => none) := fun s0 => by kernel_rfl
  have g15 : ∀ s0 : St, estAt (A98 H n).E ops98 s0 15 = (match evalO s0 (.tmp 27) with | .ptr k _ _ _ => some [k] | _ => none) := fun s0 => by kernel_rfl
  have Q0 : ∀ s0 s1, qState (A98 H n).E ops98 T [13, 15] s0 s1 0 = ⟨s1.τ, s1.L, s1.O, s1.c + slack⟩ := fun s0 s1 => by unfold qState; rw [f0]; rfl
  have Q1 : ∀ s0 s1, qState (A98 H n).E ops98 T [13, 15] s0 s1 1 = ⟨s1.τ, s1.L, s1.O, s1.c + slack⟩ := fun s0 s1 => by unfold qState; rw [f1]; rfl
  have Q4 : ∀ s0 s1, qState (A98 H n).E ops98 T [13, 15] s0 s1 4 = ⟨s1.τ, s1.L, s1.O, s1.c + slack⟩ := fun s0 s1 => by unfold qState; rw [f4]; rfl
  have Q5 : ∀ s0 s1, qState (A98 H n).E ops98 T [13, 15] s0 s1 5 = ⟨s1.τ, s1.L, s1.O, s1.c + slack⟩ := fun s0 s1 => by unfold qState; rw [f5]; rfl
  have Q6 : ∀ s0 s1, qState (A98 H n).E ops98 T [13, 15] s0 s1 6 = ⟨s1.τ, s1.L, s1.O, s1.c + slack⟩ := fun s0 s1 => by unfold qState; rw [f6]; rfl
  have Q7 : ∀ s0 s1, qState (A98 H n).E ops98 T [13, 15] s0 s1 7 = ⟨s1.τ, s1.L, s1.O, s1.c + slack⟩ := fun s0 s1 => by unfold qState; rw [f7]; rfl
  have Q8 : ∀ s0 s1, qState (A98 H n).E ops98 T [13, 15] s0 s1 8 = ⟨s1.τ, s1.L, s1.O, s1.c + slack⟩ := fun s0 s1 => by unfold qState; rw [f8]; rfl
  have Q9 : ∀ s0 s1, qState (A98 H n).E ops98 T [13, 15] s0 s1 9 = ⟨s1.τ, s1.L, s1.O, s1.c + slack⟩ := fun s0 s1 => by unfold qState; rw [f9]; rfl
  have Q10 : ∀ s0 s1, qState (A98 H n).E ops98 T [13, 15] s0 s1 10 = ⟨s1.τ, s1.L, s1.O, s1.c + slack⟩ := fun s0 s1 => by unfold qState; rw [f10]; rfl
  have Q11 : ∀ s0 s1, qState (A98 H n).E ops98 T [13, 15] s0 s1 11 = ⟨s1.τ, s1.L, s1.O, s1.c + slack⟩ := fun s0 s1 => by unfold qState; rw [f11]; rfl
  have Q12 : ∀ s0 s1, qState (A98 H n).E ops98 T [13, 15] s0 s1 12 = ⟨s1.τ, s1.L, s1.O, s1.c + slack⟩ := fun s0 s1 => by unfold qState; rw [f12]; rfl
  have Q14 : ∀ s0 s1, qState (A98 H n).E ops98 T [13, 15] s0 s1 14 = ⟨s1.τ, s1.L, s1.O, s1.c + slack⟩ := fun s0 s1 => by unfold qState; rw [f14]; rfl
  simp only [ops98, sub, c98, Tryz.f50, gets, opsAt, allAt, Bool.and_eq_true, List.map_cons, List.map_nil, List.cons.injEq, Nat.zero_add, Nat.reduceAdd, and_true] at hst hlk g13 g15 Q0 Q1 Q4 Q5 Q6 Q7 Q8 Q9 Q10 Q11 Q12 Q14 ⊢
  obtain ⟨s0, s1, s2, s3, s4, s5, s6, s7, s8, s9, s10, s11, s12, s13, s14, s15⟩ := hst
  obtain ⟨l0, l1, l2, l3, l4, l5, l6, l7, l8, l9, l10, l11, l12, l13, l14, l15⟩ := hlk
  have hib : ((i : Int) < (len : Int)) = True := eq_true (by omega)
  have hjb : ((j : Int) < (len : Int)) = True := eq_true (by omega)
  have haj : (es.set i (I b))[j]? = some (I b) := by rw [List.getElem?_set_ne hij]; exact hb
  refine ⟨?t, ?h, ?_, ?_, ?_⟩
  case h =>
    simp only [vmr, vmw, vmp, vza, ↓reduceIte, Nat.reduceBEq, Nat.reduceLT, Nat.reduceAdd, Nat.reduceEqDiff, reduceCtorEq, vmt, vzb, vzc, vlen, vleaf, velems, oks, vst, vmd, ty, Nat.reduceLeDiff, Nat.reduceMul, Nat.reduceSub, drawOps, s0, s1, s2, s3, s4, s5, s6, s7, s8, s9, s10, s11, s12, s13, s14, s15, l0, l1, l2, l3, l4, l5, l6, l7, l8, l9, l10, l11, l12, l13, l14, l15, wantedV, focus, fget, a98, qop_move, qop_mk1, qop_mk2, qop_mk3, aop, setD, touchOk, obj_lo, put_lo, oput, fitsI, List.contains_cons, List.isEmpty_nil, Bool.or_true, hib, hjb, ha, hb, haj, ho, Q0, Q1, Q4, Q5, Q6, Q7, Q8, Q9, Q10, Q11, Q12, Q14, g13, g15, h0, h2, h3, h26, h27]
    exact rfl
  all_goals simp only [vmr, vmw, vmp, vza, ↓reduceIte, Nat.reduceBEq, Nat.reduceLT, Nat.reduceAdd, Nat.reduceEqDiff, reduceCtorEq, vmt, vzb, vzc, vlen, vleaf, velems, oks, vst, vmd, ty, Nat.reduceLeDiff, Nat.reduceMul, Nat.reduceSub, a98, h0, h2, h3]
theorem R98 {n : Nat} {k : K} {s : St} {vr len i j : Nat} {es : List V} {a b : Int} (h0 : tget s.τ 0 = .ref ⟨0, 7, 0⟩ vr 0 len) (h2 : tget s.τ 2 = I (i : Nat)) (h3 : tget s.τ 3 = I (j : Nat)) (h26 : tget s.τ 26 = .junk) (h27 : tget s.τ 27 = .junk) (ho : s.O ⟨0, 7, 0⟩ = some (vr, .arr 1 es))
    (hi : i < len) (hj : j < len) (ha : es[i]? = some (I a)) (hb : es[j]? = some (I b)) (hij : i ≠ j) {P : Option (Ex × St) → Prop}
    (h : ∀ τ', tget τ' 0 = .ref ⟨0, 7, 0⟩ vr 0 len → tget τ' 2 = I (i : Nat) → tget τ' 3 = I (j : Nat) → P (X (A98 H n) .norm k ⟨τ', lkeep s.L (A98 H n).E.keep, oput (oput s.O ⟨0, 7, 0⟩ (vr, .arr 1 (es.set i (I b)))) ⟨0, 7, 0⟩ (vr, .arr 1 ((es.set i (I b)).set j (I a))), s.c⟩)) :
    P (R (A98 H n) (sub [1, 0, 0, 1, 0, 0] c98) k s) := by
  obtain ⟨τ', hd, e0, e2, e3⟩ := draw98 (n := n) h0 h2 h3 h26 h27 ho hi hj ha hb hij
  have hd' : R (A98 H n) (sub [1, 0, 0, 1, 0, 0] c98) k s = _ := R_drawn (id := 3) hd
  rw [hd']
  refine h _ ?_ ?_ ?_
  all_goals simp only [vmr, vmw, vmp, vza, ↓reduceIte, Nat.reduceBEq, Nat.reduceLT, Nat.reduceAdd, Nat.reduceEqDiff, reduceCtorEq, vmt, vzb, vzc, vlen, vleaf, velems, oks, vst, vmd, ty, Nat.reduceLeDiff, Nat.reduceMul, Nat.reduceSub, a98, e0, e2, e3]
theorem l98 {n k vr} {O0 : Heap} {xs : List Int} (hx : xs.length ≤ 1000000) {P : Option (Ex × St) → Prop} : ∀ d i r n' s, xs.length ≤ 2 * i + d → d < n' → 2 * i ≤ xs.length → Rv xs i r → tget s.τ 0 = .ref ⟨0, 7, 0⟩ vr 0 xs.length → tget s.τ 2 = I (i : Nat) → tget s.τ 3 = I ((xs.length : Int) - 1 - (i : Nat)) → s.O ⟨0, 7, 0⟩ = some (vr, .arr 1 (r.map I)) → (∀ q, q ≠ ⟨0, 7, 0⟩ → s.O q = O0 q) →
    (∀ s', s'.O ⟨0, 7, 0⟩ = some (vr, .arr 1 (xs.reverse.map I)) → (∀ q, q ≠ ⟨0, 7, 0⟩ → s'.O q = O0 q) → P (X (A98 H n) (.exit 0) k s')) →
    P (L (A98 H n) (sub [1, 0, 0] c98) n' k s) := by
  intro d
  induction d with
  | zero =>
    intro i r n' s hd hn hi hr h0 h2 h3 ho hf hP
    obtain ⟨n', rfl⟩ : ∃ m, n' = m + 1 := ⟨n' - 1, by omega⟩
    have hc : ((i : Int) < (xs.length : Int) - 1 - (i : Int)) = False := eq_false (by omega)
    have := rv_end hr (by omega) hi
    subst this
    rw [L_succ]
    simp only [vmr, vmw, vmp, vza, ↓reduceIte, Nat.reduceBEq, Nat.reduceLT, Nat.reduceAdd, Nat.reduceEqDiff, reduceCtorEq, vmt, vzb, vzc, vlen, vleaf, velems, oks, vst, vmd, ty, Nat.reduceLeDiff, Nat.reduceMul, Nat.reduceSub, c98, Tryz.f50, a98, h2, h3, hc]
    exact hP _ ho hf
  | succ d ih =>
    intro i r n' s hd hn hi hr h0 h2 h3 ho hf hP
    obtain ⟨n', rfl⟩ : ∃ m, n' = m + 1 := ⟨n' - 1, by omega⟩
    by_cases he : xs.length ≤ 2 * i + 1
    · have hc : ((i : Int) < (xs.length : Int) - 1 - (i : Int)) = False := eq_false (by omega)
      have := rv_end hr he hi
      subst this
      rw [L_succ]
      simp only [vmr, vmw, vmp, vza, ↓reduceIte, Nat.reduceBEq, Nat.reduceLT, Nat.reduceAdd, Nat.reduceEqDiff, reduceCtorEq, vmt, vzb, vzc, vlen, vleaf, velems, oks, vst, vmd, ty, Nat.reduceLeDiff, Nat.reduceMul, Nat.reduceSub, c98, Tryz.f50, a98, h2, h3, hc]
      exact hP _ ho hf
    · have hc : ((i : Int) < (xs.length : Int) - 1 - (i : Int)) = True := eq_true (by omega)
      have ej : (xs.length : Int) - 1 - (i : Nat) = ((xs.length - 1 - i : Nat) : Int) := by omega
      have la : i < r.length := by rw [hr.1]; omega
      have lb : xs.length - 1 - i < r.length := by rw [hr.1]; omega
      have ha : r[i]? = some r[i] := List.getElem?_eq_getElem la
      have hb : r[xs.length - 1 - i]? = some r[xs.length - 1 - i] := List.getElem?_eq_getElem lb
      have hr' := rv_step hr (by omega) ha hb
      have w1 := wsucc9' (i := i) (by omega)
      have w2 : IntKind.i64.wrap (((xs.length - 1 - i : Nat) : Int) - 1) = (xs.length : Int) - 1 - ((i + 1 : Nat) : Int) := by rw [wrap_id] <;> omega
      have ih := fun s => ih (i + 1) _ n' s (by omega) (by omega) (by omega) hr'
      have a1 := fun k s h0 h2 h3 h26 h27 ho => @R98 H n k s vr xs.length i (xs.length - 1 - i) (r.map I) r[i] r[xs.length - 1 - i] h0 h2 h3 h26 h27 ho (by omega) (by omega) (by simp [ha]) (by simp [hb]) (by omega) P
      generalize r[i] = a at *
      generalize r[xs.length - 1 - i] = b at *
      simp only [sub, c98, Tryz.f50, gets] at a1 ih
      rw [L_succ]
      simp only [vmr, vmw, vmp, vza, ↓reduceIte, Nat.reduceBEq, Nat.reduceLT, Nat.reduceAdd, Nat.reduceEqDiff, reduceCtorEq, vmt, vzb, vzc, vlen, vleaf, velems, oks, vst, vmd, ty, Nat.reduceLeDiff, Nat.reduceMul, Nat.reduceSub, c98, Tryz.f50, a98, h2, h3, hc]
      refine a1 _ _ ?_ ?_ ?_ ?_ ?_ ?_ (fun τ' e0 e2 e3 => ?_)
      case refine_7 =>
        simp only [vmr, vmw, vmp, vza, ↓reduceIte, Nat.reduceBEq, Nat.reduceLT, Nat.reduceAdd, Nat.reduceEqDiff, reduceCtorEq, vmt, vzb, vzc, vlen, vleaf, velems, oks, vst, vmd, ty, Nat.reduceLeDiff, Nat.reduceMul, Nat.reduceSub, a98, e0, e2, e3, w1, w2]
        refine ih _ ?_ ?_ ?_ ?_ (fun q hq => by simp only [oput, if_neg hq]; exact hf q hq) hP
        all_goals simp only [vmr, vmw, vmp, vza, ↓reduceIte, Nat.reduceBEq, Nat.reduceLT, Nat.reduceAdd, Nat.reduceEqDiff, reduceCtorEq, vmt, vzb, vzc, vlen, vleaf, velems, oks, vst, vmd, ty, Nat.reduceLeDiff, Nat.reduceMul, Nat.reduceSub, a98, e0, List.map_set, oput, if_true]
      all_goals simp only [vmr, vmw, vmp, vza, ↓reduceIte, Nat.reduceBEq, Nat.reduceLT, Nat.reduceAdd, Nat.reduceEqDiff, reduceCtorEq, vmt, vzb, vzc, vlen, vleaf, velems, oks, vst, vmd, ty, Nat.reduceLeDiff, Nat.reduceMul, Nat.reduceSub, a98, h0, h2, h3, ej, ho]
def Q98 (vr : Nat) (xs : List Int) (O0 : Heap) (r : Option (Ex × St)) : Prop := ∃ s', r = some (.norm, s') ∧ s'.O ⟨0, 7, 0⟩ = some (vr, .arr 1 (xs.reverse.map I)) ∧ ∀ q, q ≠ ⟨0, 7, 0⟩ → s'.O q = O0 q
theorem w98 {n c vr O} {xs : List Int} (hx : xs.length ≤ 1000000) (hn : 1000001 < n) (hO : O ⟨0, 7, 0⟩ = some (vr, .arr 1 (xs.map I))) :
    ∃ c' O', (evF (Cx H) (n + 1)).fn 50 [.ref ⟨0, 7, 0⟩ vr 0 xs.length] 2 c O = some (.ret (.tup []), c', O') ∧ O' ⟨0, 7, 0⟩ = some (vr, .arr 1 (xs.reverse.map I)) ∧ ∀ q, q ≠ ⟨0, 7, 0⟩ → q.lvl < 2 → O' q = O q := by
  have key : Q98 vr xs O (R (A98 H n) c98 .top ⟨params 0 [.ref ⟨0, 7, 0⟩ vr 0 xs.length], [], O, c⟩) := by
    have a1 := fun k s => @l98 H n k vr O xs hx (Q98 vr xs O) xs.length 0 xs n s (by omega) (by omega) (by omega) rv_zero
    have w1 : IntKind.i64.wrap ((xs.length : Int) - 1) = (xs.length : Int) - 1 - ((0 : Nat) : Int) := by rw [wrap_id] <;> omega
    simp only [sub, c98, Tryz.f50, gets] at a1
    simp only [vmr, vmw, vmp, vza, ↓reduceIte, Nat.reduceBEq, Nat.reduceLT, Nat.reduceAdd, Nat.reduceEqDiff, reduceCtorEq, vmt, vzb, vzc, vlen, vleaf, velems, oks, vst, vmd, ty, Nat.reduceLeDiff, Nat.reduceMul, Nat.reduceSub, c98, Tryz.f50, a98, w1]
    refine a1 _ _ ?_ ?_ ?_ hO (fun q _ => rfl) (fun s' hs hf => ?_)
    case refine_4 =>
      simp only [vmr, vmw, vmp, vza, ↓reduceIte, Nat.reduceBEq, Nat.reduceLT, Nat.reduceAdd, Nat.reduceEqDiff, reduceCtorEq, vmt, vzb, vzc, vlen, vleaf, velems, oks, vst, vmd, ty, Nat.reduceLeDiff, Nat.reduceMul, Nat.reduceSub, a98]
      exact ⟨s', rfl, hs, hf⟩
    all_goals simp only [vmr, vmw, vmp, vza, ↓reduceIte, Nat.reduceBEq, Nat.reduceLT, Nat.reduceAdd, Nat.reduceEqDiff, reduceCtorEq, vmt, vzb, vzc, vlen, vleaf, velems, oks, vst, vmd, ty, Nat.reduceLeDiff, Nat.reduceMul, Nat.reduceSub, a98]
  obtain ⟨s', hr, hi, hf⟩ := key
  refine ⟨_, _, evF_at (C := Cx H) (n := n) (fn := Tryz.f50) (b := c98) (s' := s') Tryz.func50 rfl (show 1 ≤ 28 by omega) rfl (.inl hr), ?_, fun q hq hl => ?_⟩
  · rw [lower_get, if_pos (by omega)]
    exact hi
  · show lower 2 s'.O q = O q
    unfold lower
    rw [if_pos hl]
    exact hf q hq
noncomputable abbrev A75 (H : FuncId → Option (List V → Option V)) (n : Nat) : Mc := mcAt (Cx H) 25 Tryz.f25 1 n
theorem a75 (H n) : (A75 H n).E.keep = [0, 2] ∧ (A75 H n).E.cnd = [] ∧ (A75 H n).E.frz = [] ∧ (A75 H n).E.pro = [] ∧ (A75 H n).E.imp = [50] ∧ (A75 H n).E.n = 6 ∧ (A75 H n).E.lvl = 1 ∧ (A75 H n).E.P = Tryz.prog ∧ (A75 H n).fuel = n ∧ (A75 H n).C = H ∧ (A75 H n).E.ok = okL := ⟨rfl, rfl, rfl, rfl, rfl, rfl, rfl, rfl, rfl, rfl, rfl⟩
def Q75 (vr : Nat) (xs : List Int) (O0 : Heap) (r : Option (Ex × St)) : Prop := ∃ s', r = some (.ret, s') ∧ s'.O ⟨0, 7, 0⟩ = some (vr, .arr 1 (xs.reverse.map I)) ∧ tget s'.τ 2 = .ref ⟨0, 7, 0⟩ vr 0 xs.length ∧ ∀ q, q ≠ ⟨0, 7, 0⟩ → q.lvl < 1 → s'.O q = O0 q
theorem w75 {n c vr O} {xs : List Int} (hx : xs.length ≤ 1000000) (hn : 1000001 < n) (hO : O ⟨0, 7, 0⟩ = some (vr, .arr 1 (xs.map I))) :
    ∃ c' O', (evF (Cx H) (n + 2)).fn 25 [.ref ⟨0, 7, 0⟩ vr 0 xs.length] 1 c O = some (.ret (.ref ⟨0, 7, 0⟩ vr 0 xs.length), c', O') ∧ O' ⟨0, 7, 0⟩ = some (vr, .arr 1 (xs.reverse.map I)) ∧ ∀ q, q ≠ ⟨0, 7, 0⟩ → q.lvl < 1 → O' q = O q := by
  have key : Q75 vr xs O (R (A75 H (n + 1)) c75 .top ⟨params 0 [.ref ⟨0, 7, 0⟩ vr 0 xs.length], [], O, c⟩) := by
    obtain ⟨c', O', hc, ho, hf⟩ := w98 (n := n) (c := c) (vr := vr) (O := heapOf 1 [] O) (xs := xs) hx hn (by rw [heapOf_get]; exact hO)
    have hcall : (A75 H (n + 1)).call = evF (Cx H) (n + 1) := rfl
    simp only [vmr, vmw, vmp, vza, ↓reduceIte, Nat.reduceBEq, Nat.reduceLT, Nat.reduceAdd, Nat.reduceEqDiff, reduceCtorEq, vmt, vzb, vzc, vlen, vleaf, velems, oks, vst, vmd, ty, Nat.reduceLeDiff, Nat.reduceMul, Nat.reduceSub, c75, Tryz.f25, a75, callV_i, St.heap, lk_nil]
    rw [hcall, hc]
    simp only [vmr, vmw, vmp, vza, ↓reduceIte, Nat.reduceBEq, Nat.reduceLT, Nat.reduceAdd, Nat.reduceEqDiff, reduceCtorEq, vmt, vzb, vzc, vlen, vleaf, velems, oks, vst, vmd, ty, Nat.reduceLeDiff, Nat.reduceMul, Nat.reduceSub, CI, a75, back_τ, back_O, back_c]
    refine ⟨_, rfl, ho, by simp only [vmr, vmw, vmp, vza, ↓reduceIte, Nat.reduceBEq, Nat.reduceLT, Nat.reduceAdd, Nat.reduceEqDiff, reduceCtorEq, vmt, vzb, vzc, vlen, vleaf, velems, oks, vst, vmd, ty, Nat.reduceLeDiff, Nat.reduceMul, Nat.reduceSub, back_τ], fun q hq hl => ?_⟩
    refine (hf q hq (by omega)).trans ?_
    unfold heapOf
    rw [if_neg (by omega), if_pos hl]
  obtain ⟨s', hr, hi, ht, hf⟩ := key
  refine ⟨_, _, evF_at1 (C := Cx H) (n := n + 1) (fn := Tryz.f25) (b := c75) (s' := s') Tryz.func25 rfl (show 1 ≤ 6 by omega) rfl (.inr hr) (by rw [ht]; rfl), ?_, fun q hq hl => ?_⟩
  · rw [lower_get, if_pos (by omega)]
    exact hi
  · show lower 1 s'.O q = O q
    unfold lower
    rw [if_pos hl]
    exact hf q hq hl
end Go.Vi
