/-
  THE FUNCTIONS' FRAMES AND THE TYPES' FACTS, written by a program of mine (gen.py) off Lean's print of the loaded program.
-/
import Derived.Test.YtkpcgnjjkaamgaaVC
import Derived.Test.YtkpcgnjjkaamgaaProg
import Derived.KernelRfl
set_option linter.unusedSimpArgs false
set_option linter.unusedVariables false
set_option maxRecDepth 100000
namespace Go.Vi
open Go Go.Proofs

def h0 : FuncId → Hint
  | 2 => { keep := [], cnd := [], frz := [], pro := [], imp := [] }
  | 3 => { keep := [0, 1, 2, 3, 6, 7, 8, 9, 10, 11, 12, 37], cnd := [37], frz := [7, 8, 9, 10, 11, 12], pro := [], imp := [] }
  | 4 => { keep := [0, 1, 2, 3, 4, 8, 9, 10, 11, 12, 13, 14, 15, 23, 63, 83], cnd := [23, 63, 83], frz := [10, 11, 12, 13, 14, 15], pro := [], imp := [] }
  | 5 => { keep := [0, 1, 2, 3, 4, 8, 9, 10, 11, 12, 13, 14, 15, 16, 17, 18, 19, 20, 21, 22, 23, 45, 56, 58, 62, 66, 97, 106, 138], cnd := [45, 56, 58, 62, 66, 97, 106, 138], frz := [10, 11, 12, 13, 14, 15, 16, 17, 18, 19, 20, 21, 22, 23], pro := [], imp := [] }
  | 6 => { keep := [0, 1, 2, 3, 4, 20, 25, 55, 60, 69], cnd := [20, 25, 55, 60, 69], frz := [3, 4], pro := [], imp := [] }
  | 7 => { keep := [0, 1, 2, 3, 4], cnd := [], frz := [2, 4], pro := [], imp := [] }
  | 8 => { keep := [0, 1, 2, 3, 6, 7, 8, 9, 10, 11, 15, 30, 34, 35, 36, 37, 41], cnd := [15, 30, 37, 41], frz := [9, 11, 37, 41], pro := [], imp := [] }
  | 9 => { keep := [0, 1, 2, 3, 4, 5, 17], cnd := [17], frz := [4], pro := [], imp := [] }
  | 10 => { keep := [0, 1, 2, 3, 6, 7, 8, 9, 10, 11, 12, 13, 14, 15, 16, 17, 25, 32, 39, 48, 61, 66, 84, 88, 96, 106, 109], cnd := [25, 32, 39, 48, 61, 66, 84, 88, 96, 106, 109], frz := [9, 12, 13, 14, 15, 16, 17], pro := [], imp := [] }
  | 11 => { keep := [0, 1, 4, 5, 10, 14, 25], cnd := [10, 14, 25], frz := [5], pro := [], imp := [] }
  | 12 => { keep := [0, 1, 2, 3, 6, 7, 8, 9, 10, 11, 15, 25, 31], cnd := [15, 25, 31], frz := [], pro := [], imp := [] }
  | 13 => { keep := [0, 1, 2, 3, 6, 7, 8, 9, 10, 11, 15, 25, 29, 46], cnd := [15, 25, 29, 46], frz := [], pro := [], imp := [] }
  | 14 => { keep := [0, 1, 2, 3, 24, 52], cnd := [24, 52], frz := [], pro := [], imp := [] }
  | 15 => { keep := [0, 1, 2, 3, 4, 5, 26, 42, 47, 57, 62, 72], cnd := [26, 42, 47, 57, 62, 72], frz := [3, 4, 5], pro := [], imp := [] }
  | 16 => { keep := [0, 1, 2, 4, 5, 6, 10, 17], cnd := [10, 17], frz := [], pro := [], imp := [] }
  | 17 => { keep := [0, 1, 2, 4, 5, 6, 10, 15], cnd := [10, 15], frz := [], pro := [], imp := [] }
  | 18 => { keep := [0, 1, 2, 4, 5, 6, 10, 17], cnd := [10, 17], frz := [], pro := [], imp := [] }
  | 19 => { keep := [0, 1, 2, 4, 5, 6, 7, 11, 18], cnd := [11, 18], frz := [], pro := [], imp := [] }
  | 20 => { keep := [0, 1, 2, 3, 6, 7, 8, 9, 10, 11, 25, 40], cnd := [25, 40], frz := [9, 10, 11], pro := [], imp := [] }
  | 21 => { keep := [0, 1, 2, 3, 4, 5, 6], cnd := [], frz := [], pro := [], imp := [] }
  | 22 => { keep := [0, 1, 2, 3, 4], cnd := [], frz := [], pro := [], imp := [] }
  | 23 => { keep := [0, 1, 2, 4, 5, 6, 7, 12, 18, 37], cnd := [12, 18, 37], frz := [5, 6, 7], pro := [], imp := [] }
  | 24 => { keep := [0, 1, 2, 4, 5, 6, 7, 8, 9, 10, 17, 29, 45, 67, 79], cnd := [17, 29, 45, 67, 79], frz := [7, 8, 9, 10], pro := [], imp := [] }
  | 25 => { keep := [0, 1, 2, 4, 5, 11, 15, 29], cnd := [11, 15, 29], frz := [5], pro := [], imp := [] }
  | 26 => { keep := [0, 1, 4, 5, 10, 14, 25], cnd := [10, 14, 25], frz := [5], pro := [], imp := [] }
  | 27 => { keep := [0, 1, 2, 5, 6], cnd := [], frz := [], pro := [], imp := [] }
  | 28 => { keep := [0, 1, 2, 4, 5, 6, 7, 8, 9, 11, 12, 13, 18, 22, 23, 24, 25, 38, 39, 40, 41, 47, 60, 70, 71, 72, 73, 87], cnd := [18, 25, 41, 47, 60, 73, 87], frz := [7, 8, 9, 11, 12, 13], pro := [], imp := [] }
  | 29 => { keep := [0, 1, 4], cnd := [], frz := [], pro := [], imp := [] }
  | 30 => { keep := [0, 1, 2, 3], cnd := [], frz := [], pro := [], imp := [] }
  | 31 => { keep := [0, 1, 2, 4, 5, 6, 18, 20, 21, 22, 23, 47], cnd := [18, 23, 47], frz := [5, 6], pro := [], imp := [] }
  | 32 => { keep := [0, 1, 4], cnd := [], frz := [], pro := [], imp := [] }
  | 33 => { keep := [0, 1, 3], cnd := [], frz := [], pro := [], imp := [] }
  | 34 => { keep := [0, 1, 4, 5, 9, 12, 26], cnd := [9, 12, 26], frz := [5], pro := [], imp := [] }
  | 35 => { keep := [0, 1, 2, 4, 5, 17, 22, 57], cnd := [17, 22, 57], frz := [5], pro := [], imp := [] }
  | 36 => { keep := [0, 1, 2, 4, 5], cnd := [], frz := [], pro := [], imp := [] }
  | 37 => { keep := [0, 1, 2, 3, 5, 6, 7, 8, 9, 10, 11, 12, 26, 35, 40, 42, 43, 44, 45, 57, 69, 75], cnd := [26, 35, 40, 45, 57, 69, 75], frz := [9, 11, 12], pro := [], imp := [] }
  | 38 => { keep := [0, 2], cnd := [], frz := [], pro := [], imp := [] }
  | 39 => { keep := [0, 2, 4], cnd := [4], frz := [], pro := [], imp := [] }
  | 40 => { keep := [0, 1, 3], cnd := [], frz := [], pro := [], imp := [] }
  | 41 => { keep := [0, 1, 4, 5, 6, 7, 8, 9, 10, 19], cnd := [10, 19], frz := [5, 6], pro := [], imp := [] }
  | 42 => { keep := [0, 1, 4], cnd := [], frz := [], pro := [], imp := [] }
  | 43 => { keep := [0, 1, 3], cnd := [], frz := [], pro := [], imp := [] }
  | 44 => { keep := [0, 2, 3, 4, 7, 15], cnd := [7, 15], frz := [4], pro := [], imp := [] }
  | 45 => { keep := [0, 1, 4, 5, 7, 8, 9, 16], cnd := [9, 16], frz := [], pro := [], imp := [] }
  | 46 => { keep := [0, 1, 4, 5, 7, 8, 9, 16], cnd := [9, 16], frz := [], pro := [], imp := [] }
  | 47 => { keep := [0, 1, 4, 5, 7, 8, 9, 16], cnd := [9, 16], frz := [], pro := [], imp := [] }
  | _ => { keep := [], cnd := [], frz := [], pro := [], imp := [] }
def okL : List FuncId := [2, 3, 4, 5, 6, 7, 8, 9, 10, 11, 12, 13, 14, 15, 16, 17, 18, 19, 20, 21, 22, 23, 24, 25, 26, 27, 28, 29, 30, 31, 32, 33, 34, 35, 36, 37, 38, 39, 40, 41, 42, 43, 44, 45, 46, 47]
noncomputable abbrev Cx (H : FuncId → Option (List V → Option V)) : Ctx := { P := Try.prog, ok := okL, hint := h0, hand := H }
theorem good : ∀ g ∈ okL, GoodF Try.prog g := by
  intro g hg
  simp only [okL, List.mem_cons, List.not_mem_nil, or_false] at hg
  rcases hg with rfl | rfl | rfl | rfl | rfl | rfl | rfl | rfl | rfl | rfl | rfl | rfl | rfl | rfl | rfl | rfl | rfl | rfl | rfl | rfl | rfl | rfl | rfl | rfl | rfl | rfl | rfl | rfl | rfl | rfl | rfl | rfl | rfl | rfl | rfl | rfl | rfl | rfl | rfl | rfl | rfl | rfl | rfl | rfl | rfl | rfl
  · exact ⟨Try.f2, _, Try.func2, by decide, rfl⟩
  · exact ⟨Try.f3, _, Try.func3, by decide, rfl⟩
  · exact ⟨Try.f4, _, Try.func4, by decide, rfl⟩
  · exact ⟨Try.f5, _, Try.func5, by decide, rfl⟩
  · exact ⟨Try.f6, _, Try.func6, by decide, rfl⟩
  · exact ⟨Try.f7, _, Try.func7, by decide, rfl⟩
  · exact ⟨Try.f8, _, Try.func8, by decide, rfl⟩
  · exact ⟨Try.f9, _, Try.func9, by decide, rfl⟩
  · exact ⟨Try.f10, _, Try.func10, by decide, rfl⟩
  · exact ⟨Try.f11, _, Try.func11, by decide, rfl⟩
  · exact ⟨Try.f12, _, Try.func12, by decide, rfl⟩
  · exact ⟨Try.f13, _, Try.func13, by decide, rfl⟩
  · exact ⟨Try.f14, _, Try.func14, by decide, rfl⟩
  · exact ⟨Try.f15, _, Try.func15, by decide, rfl⟩
  · exact ⟨Try.f16, _, Try.func16, by decide, rfl⟩
  · exact ⟨Try.f17, _, Try.func17, by decide, rfl⟩
  · exact ⟨Try.f18, _, Try.func18, by decide, rfl⟩
  · exact ⟨Try.f19, _, Try.func19, by decide, rfl⟩
  · exact ⟨Try.f20, _, Try.func20, by decide, rfl⟩
  · exact ⟨Try.f21, _, Try.func21, by decide, rfl⟩
  · exact ⟨Try.f22, _, Try.func22, by decide, rfl⟩
  · exact ⟨Try.f23, _, Try.func23, by decide, rfl⟩
  · exact ⟨Try.f24, _, Try.func24, by decide, rfl⟩
  · exact ⟨Try.f25, _, Try.func25, by decide, rfl⟩
  · exact ⟨Try.f26, _, Try.func26, by decide, rfl⟩
  · exact ⟨Try.f27, _, Try.func27, by decide, rfl⟩
  · exact ⟨Try.f28, _, Try.func28, by decide, rfl⟩
  · exact ⟨Try.f29, _, Try.func29, by decide, rfl⟩
  · exact ⟨Try.f30, _, Try.func30, by decide, rfl⟩
  · exact ⟨Try.f31, _, Try.func31, by decide, rfl⟩
  · exact ⟨Try.f32, _, Try.func32, by decide, rfl⟩
  · exact ⟨Try.f33, _, Try.func33, by decide, rfl⟩
  · exact ⟨Try.f34, _, Try.func34, by decide, rfl⟩
  · exact ⟨Try.f35, _, Try.func35, by decide, rfl⟩
  · exact ⟨Try.f36, _, Try.func36, by decide, rfl⟩
  · exact ⟨Try.f37, _, Try.func37, by decide, rfl⟩
  · exact ⟨Try.f38, _, Try.func38, by decide, rfl⟩
  · exact ⟨Try.f39, _, Try.func39, by decide, rfl⟩
  · exact ⟨Try.f40, _, Try.func40, by decide, rfl⟩
  · exact ⟨Try.f41, _, Try.func41, by decide, rfl⟩
  · exact ⟨Try.f42, _, Try.func42, by decide, rfl⟩
  · exact ⟨Try.f43, _, Try.func43, by decide, rfl⟩
  · exact ⟨Try.f44, _, Try.func44, by decide, rfl⟩
  · exact ⟨Try.f45, _, Try.func45, by decide, rfl⟩
  · exact ⟨Try.f46, _, Try.func46, by decide, rfl⟩
  · exact ⟨Try.f47, _, Try.func47, by decide, rfl⟩
theorem mixed : Try.prog.follows .mixedOrders = true := by kernel_rfl
/-- gosem.cut.init -/
noncomputable abbrev M2 (H : FuncId → Option (List V → Option V)) (n : Nat) : Mc := mcOf (Cx H) 2 Try.f2 n
theorem m2 (H n) : (M2 H n).E.keep = [] ∧ (M2 H n).E.cnd = [] ∧ (M2 H n).E.frz = [] ∧ (M2 H n).E.pro = [] ∧ (M2 H n).E.imp = [] ∧ (M2 H n).E.n = 1 ∧ (M2 H n).E.lvl = 0 ∧ (M2 H n).E.P = Try.prog ∧ (M2 H n).fuel = n ∧ (M2 H n).C = H ∧ (M2 H n).E.ok = okL := ⟨rfl, rfl, rfl, rfl, rfl, rfl, rfl, rfl, rfl, rfl, rfl⟩
noncomputable abbrev c2 : Code := Try.f2.body.getD .skip
theorem s2 {H} (hH : SoundHand Try.prog (hand H)) {args out} (n : Nat) (hl : args.length ≤ 1) (hp : match out with | .ret v => pureR v = true | .pan v => pureR v = true) (h : Fin (M2 (hand H) n) Try.f2.results.toList (R (M2 (hand H) n) c2 .top ⟨params 0 args, [], fun _ => none, 0⟩) = some out) : SoundPure Try.prog 2 args out := sound_of (C := Cx (hand H)) hH good mixed Try.func2 rfl hl hp h
/-- chiasmus/chiasmuslaw34.ProtocolSearches -/
noncomputable abbrev M3 (H : FuncId → Option (List V → Option V)) (n : Nat) : Mc := mcOf (Cx H) 3 Try.f3 n
noncomputable abbrev c3 : Code := Try.f3.body.getD .skip
theorem s3 {H} (hH : SoundHand Try.prog (hand H)) {args out} (n : Nat) (hl : args.length ≤ 72) (hp : match out with | .ret v => pureR v = true | .pan v => pureR v = true) (h : Fin (M3 (hand H) n) Try.f3.results.toList (R (M3 (hand H) n) c3 .top ⟨params 0 args, [], fun _ => none, 0⟩) = some out) : SoundPure Try.prog 3 args out := sound_of (C := Cx (hand H)) hH good mixed Try.func3 rfl hl hp h
/-- chiasmus/chiasmuslaw34.ProtocolSteps -/
noncomputable abbrev M4 (H : FuncId → Option (List V → Option V)) (n : Nat) : Mc := mcOf (Cx H) 4 Try.f4 n
noncomputable abbrev c4 : Code := Try.f4.body.getD .skip
theorem s4 {H} (hH : SoundHand Try.prog (hand H)) {args out} (n : Nat) (hl : args.length ≤ 107) (hp : match out with | .ret v => pureR v = true | .pan v => pureR v = true) (h : Fin (M4 (hand H) n) Try.f4.results.toList (R (M4 (hand H) n) c4 .top ⟨params 0 args, [], fun _ => none, 0⟩) = some out) : SoundPure Try.prog 4 args out := sound_of (C := Cx (hand H)) hH good mixed Try.func4 rfl hl hp h
/-- chiasmus/chiasmuslaw34.ProtocolFinds -/
noncomputable abbrev M5 (H : FuncId → Option (List V → Option V)) (n : Nat) : Mc := mcOf (Cx H) 5 Try.f5 n
theorem m5 (H n) : (M5 H n).E.keep = [0, 1, 2, 3, 4, 8, 9, 10, 11, 12, 13, 14, 15, 16, 17, 18, 19, 20, 21, 22, 23, 45, 56, 58, 62, 66, 97, 106, 138] ∧ (M5 H n).E.cnd = [45, 56, 58, 62, 66, 97, 106, 138] ∧ (M5 H n).E.frz = [10, 11, 12, 13, 14, 15, 16, 17, 18, 19, 20, 21, 22, 23] ∧ (M5 H n).E.pro = [] ∧ (M5 H n).E.imp = [] ∧ (M5 H n).E.n = 140 ∧ (M5 H n).E.lvl = 0 ∧ (M5 H n).E.P = Try.prog ∧ (M5 H n).fuel = n ∧ (M5 H n).C = H ∧ (M5 H n).E.ok = okL := ⟨rfl, rfl, rfl, rfl, rfl, rfl, rfl, rfl, rfl, rfl, rfl⟩
noncomputable abbrev c5 : Code := Try.f5.body.getD .skip
theorem s5 {H} (hH : SoundHand Try.prog (hand H)) {args out} (n : Nat) (hl : args.length ≤ 140) (hp : match out with | .ret v => pureR v = true | .pan v => pureR v = true) (h : Fin (M5 (hand H) n) Try.f5.results.toList (R (M5 (hand H) n) c5 .top ⟨params 0 args, [], fun _ => none, 0⟩) = some out) : SoundPure Try.prog 5 args out := sound_of (C := Cx (hand H)) hH good mixed Try.func5 rfl hl hp h
/-- chiasmus/chiasmuslaw34.few -/
noncomputable abbrev M6 (H : FuncId → Option (List V → Option V)) (n : Nat) : Mc := mcOf (Cx H) 6 Try.f6 n
theorem m6 (H n) : (M6 H n).E.keep = [0, 1, 2, 3, 4, 20, 25, 55, 60, 69] ∧ (M6 H n).E.cnd = [20, 25, 55, 60, 69] ∧ (M6 H n).E.frz = [3, 4] ∧ (M6 H n).E.pro = [] ∧ (M6 H n).E.imp = [] ∧ (M6 H n).E.n = 70 ∧ (M6 H n).E.lvl = 0 ∧ (M6 H n).E.P = Try.prog ∧ (M6 H n).fuel = n ∧ (M6 H n).C = H ∧ (M6 H n).E.ok = okL := ⟨rfl, rfl, rfl, rfl, rfl, rfl, rfl, rfl, rfl, rfl, rfl⟩
noncomputable abbrev c6 : Code := Try.f6.body.getD .skip
theorem s6 {H} (hH : SoundHand Try.prog (hand H)) {args out} (n : Nat) (hl : args.length ≤ 70) (hp : match out with | .ret v => pureR v = true | .pan v => pureR v = true) (h : Fin (M6 (hand H) n) Try.f6.results.toList (R (M6 (hand H) n) c6 .top ⟨params 0 args, [], fun _ => none, 0⟩) = some out) : SoundPure Try.prog 6 args out := sound_of (C := Cx (hand H)) hH good mixed Try.func6 rfl hl hp h
/-- chiasmus/protocol.Search -/
noncomputable abbrev M8 (H : FuncId → Option (List V → Option V)) (n : Nat) : Mc := mcOf (Cx H) 8 Try.f8 n
theorem m8 (H n) : (M8 H n).E.keep = [0, 1, 2, 3, 6, 7, 8, 9, 10, 11, 15, 30, 34, 35, 36, 37, 41] ∧ (M8 H n).E.cnd = [15, 30, 37, 41] ∧ (M8 H n).E.frz = [9, 11, 37, 41] ∧ (M8 H n).E.pro = [] ∧ (M8 H n).E.imp = [] ∧ (M8 H n).E.n = 51 ∧ (M8 H n).E.lvl = 0 ∧ (M8 H n).E.P = Try.prog ∧ (M8 H n).fuel = n ∧ (M8 H n).C = H ∧ (M8 H n).E.ok = okL := ⟨rfl, rfl, rfl, rfl, rfl, rfl, rfl, rfl, rfl, rfl, rfl⟩
noncomputable abbrev c8 : Code := Try.f8.body.getD .skip
theorem s8 {H} (hH : SoundHand Try.prog (hand H)) {args out} (n : Nat) (hl : args.length ≤ 51) (hp : match out with | .ret v => pureR v = true | .pan v => pureR v = true) (h : Fin (M8 (hand H) n) Try.f8.results.toList (R (M8 (hand H) n) c8 .top ⟨params 0 args, [], fun _ => none, 0⟩) = some out) : SoundPure Try.prog 8 args out := sound_of (C := Cx (hand H)) hH good mixed Try.func8 rfl hl hp h
/-- chiasmus/chiasmuslaw34.given -/
noncomputable abbrev M9 (H : FuncId → Option (List V → Option V)) (n : Nat) : Mc := mcOf (Cx H) 9 Try.f9 n
theorem m9 (H n) : (M9 H n).E.keep = [0, 1, 2, 3, 4, 5, 17] ∧ (M9 H n).E.cnd = [17] ∧ (M9 H n).E.frz = [4] ∧ (M9 H n).E.pro = [] ∧ (M9 H n).E.imp = [] ∧ (M9 H n).E.n = 40 ∧ (M9 H n).E.lvl = 0 ∧ (M9 H n).E.P = Try.prog ∧ (M9 H n).fuel = n ∧ (M9 H n).C = H ∧ (M9 H n).E.ok = okL := ⟨rfl, rfl, rfl, rfl, rfl, rfl, rfl, rfl, rfl, rfl, rfl⟩
noncomputable abbrev c9 : Code := Try.f9.body.getD .skip
theorem s9 {H} (hH : SoundHand Try.prog (hand H)) {args out} (n : Nat) (hl : args.length ≤ 40) (hp : match out with | .ret v => pureR v = true | .pan v => pureR v = true) (h : Fin (M9 (hand H) n) Try.f9.results.toList (R (M9 (hand H) n) c9 .top ⟨params 0 args, [], fun _ => none, 0⟩) = some out) : SoundPure Try.prog 9 args out := sound_of (C := Cx (hand H)) hH good mixed Try.func9 rfl hl hp h
/-- chiasmus/protocol.Step -/
noncomputable abbrev M12 (H : FuncId → Option (List V → Option V)) (n : Nat) : Mc := mcOf (Cx H) 12 Try.f12 n
theorem m12 (H n) : (M12 H n).E.keep = [0, 1, 2, 3, 6, 7, 8, 9, 10, 11, 15, 25, 31] ∧ (M12 H n).E.cnd = [15, 25, 31] ∧ (M12 H n).E.frz = [] ∧ (M12 H n).E.pro = [] ∧ (M12 H n).E.imp = [] ∧ (M12 H n).E.n = 46 ∧ (M12 H n).E.lvl = 0 ∧ (M12 H n).E.P = Try.prog ∧ (M12 H n).fuel = n ∧ (M12 H n).C = H ∧ (M12 H n).E.ok = okL := ⟨rfl, rfl, rfl, rfl, rfl, rfl, rfl, rfl, rfl, rfl, rfl⟩
noncomputable abbrev c12 : Code := Try.f12.body.getD .skip
theorem s12 {H} (hH : SoundHand Try.prog (hand H)) {args out} (n : Nat) (hl : args.length ≤ 46) (hp : match out with | .ret v => pureR v = true | .pan v => pureR v = true) (h : Fin (M12 (hand H) n) Try.f12.results.toList (R (M12 (hand H) n) c12 .top ⟨params 0 args, [], fun _ => none, 0⟩) = some out) : SoundPure Try.prog 12 args out := sound_of (C := Cx (hand H)) hH good mixed Try.func12 rfl hl hp h
/-- chiasmus/protocol.Check -/
noncomputable abbrev M14 (H : FuncId → Option (List V → Option V)) (n : Nat) : Mc := mcOf (Cx H) 14 Try.f14 n
theorem m14 (H n) : (M14 H n).E.keep = [0, 1, 2, 3, 24, 52] ∧ (M14 H n).E.cnd = [24, 52] ∧ (M14 H n).E.frz = [] ∧ (M14 H n).E.pro = [] ∧ (M14 H n).E.imp = [] ∧ (M14 H n).E.n = 53 ∧ (M14 H n).E.lvl = 0 ∧ (M14 H n).E.P = Try.prog ∧ (M14 H n).fuel = n ∧ (M14 H n).C = H ∧ (M14 H n).E.ok = okL := ⟨rfl, rfl, rfl, rfl, rfl, rfl, rfl, rfl, rfl, rfl, rfl⟩
noncomputable abbrev c14 : Code := Try.f14.body.getD .skip
theorem s14 {H} (hH : SoundHand Try.prog (hand H)) {args out} (n : Nat) (hl : args.length ≤ 53) (hp : match out with | .ret v => pureR v = true | .pan v => pureR v = true) (h : Fin (M14 (hand H) n) Try.f14.results.toList (R (M14 (hand H) n) c14 .top ⟨params 0 args, [], fun _ => none, 0⟩) = some out) : SoundPure Try.prog 14 args out := sound_of (C := Cx (hand H)) hH good mixed Try.func14 rfl hl hp h
/-- chiasmus/protocol.IsBad -/
noncomputable abbrev M16 (H : FuncId → Option (List V → Option V)) (n : Nat) : Mc := mcOf (Cx H) 16 Try.f16 n
theorem m16 (H n) : (M16 H n).E.keep = [0, 1, 2, 4, 5, 6, 10, 17] ∧ (M16 H n).E.cnd = [10, 17] ∧ (M16 H n).E.frz = [] ∧ (M16 H n).E.pro = [] ∧ (M16 H n).E.imp = [] ∧ (M16 H n).E.n = 21 ∧ (M16 H n).E.lvl = 0 ∧ (M16 H n).E.P = Try.prog ∧ (M16 H n).fuel = n ∧ (M16 H n).C = H ∧ (M16 H n).E.ok = okL := ⟨rfl, rfl, rfl, rfl, rfl, rfl, rfl, rfl, rfl, rfl, rfl⟩
noncomputable abbrev c16 : Code := Try.f16.body.getD .skip
theorem s16 {H} (hH : SoundHand Try.prog (hand H)) {args out} (n : Nat) (hl : args.length ≤ 21) (hp : match out with | .ret v => pureR v = true | .pan v => pureR v = true) (h : Fin (M16 (hand H) n) Try.f16.results.toList (R (M16 (hand H) n) c16 .top ⟨params 0 args, [], fun _ => none, 0⟩) = some out) : SoundPure Try.prog 16 args out := sound_of (C := Cx (hand H)) hH good mixed Try.func16 rfl hl hp h
/-- chiasmus/protocol.Start -/
noncomputable abbrev M18 (H : FuncId → Option (List V → Option V)) (n : Nat) : Mc := mcOf (Cx H) 18 Try.f18 n
theorem m18 (H n) : (M18 H n).E.keep = [0, 1, 2, 4, 5, 6, 10, 17] ∧ (M18 H n).E.cnd = [10, 17] ∧ (M18 H n).E.frz = [] ∧ (M18 H n).E.pro = [] ∧ (M18 H n).E.imp = [] ∧ (M18 H n).E.n = 21 ∧ (M18 H n).E.lvl = 0 ∧ (M18 H n).E.P = Try.prog ∧ (M18 H n).fuel = n ∧ (M18 H n).C = H ∧ (M18 H n).E.ok = okL := ⟨rfl, rfl, rfl, rfl, rfl, rfl, rfl, rfl, rfl, rfl, rfl⟩
noncomputable abbrev c18 : Code := Try.f18.body.getD .skip
theorem s18 {H} (hH : SoundHand Try.prog (hand H)) {args out} (n : Nat) (hl : args.length ≤ 21) (hp : match out with | .ret v => pureR v = true | .pan v => pureR v = true) (h : Fin (M18 (hand H) n) Try.f18.results.toList (R (M18 (hand H) n) c18 .top ⟨params 0 args, [], fun _ => none, 0⟩) = some out) : SoundPure Try.prog 18 args out := sound_of (C := Cx (hand H)) hH good mixed Try.func18 rfl hl hp h
/-- chiasmus/chiasmuslaw34.run -/
noncomputable abbrev M20 (H : FuncId → Option (List V → Option V)) (n : Nat) : Mc := mcOf (Cx H) 20 Try.f20 n
theorem m20 (H n) : (M20 H n).E.keep = [0, 1, 2, 3, 6, 7, 8, 9, 10, 11, 25, 40] ∧ (M20 H n).E.cnd = [25, 40] ∧ (M20 H n).E.frz = [9, 10, 11] ∧ (M20 H n).E.pro = [] ∧ (M20 H n).E.imp = [] ∧ (M20 H n).E.n = 44 ∧ (M20 H n).E.lvl = 0 ∧ (M20 H n).E.P = Try.prog ∧ (M20 H n).fuel = n ∧ (M20 H n).C = H ∧ (M20 H n).E.ok = okL := ⟨rfl, rfl, rfl, rfl, rfl, rfl, rfl, rfl, rfl, rfl, rfl⟩
noncomputable abbrev c20 : Code := Try.f20.body.getD .skip
theorem s20 {H} (hH : SoundHand Try.prog (hand H)) {args out} (n : Nat) (hl : args.length ≤ 44) (hp : match out with | .ret v => pureR v = true | .pan v => pureR v = true) (h : Fin (M20 (hand H) n) Try.f20.results.toList (R (M20 (hand H) n) c20 .top ⟨params 0 args, [], fun _ => none, 0⟩) = some out) : SoundPure Try.prog 20 args out := sound_of (C := Cx (hand H)) hH good mixed Try.func20 rfl hl hp h
/-- (chiasmus/protocol.Protocol).states -/
noncomputable abbrev M21 (H : FuncId → Option (List V → Option V)) (n : Nat) : Mc := mcOf (Cx H) 21 Try.f21 n
theorem m21 (H n) : (M21 H n).E.keep = [0, 1, 2, 3, 4, 5, 6] ∧ (M21 H n).E.cnd = [] ∧ (M21 H n).E.frz = [] ∧ (M21 H n).E.pro = [] ∧ (M21 H n).E.imp = [] ∧ (M21 H n).E.n = 8 ∧ (M21 H n).E.lvl = 0 ∧ (M21 H n).E.P = Try.prog ∧ (M21 H n).fuel = n ∧ (M21 H n).C = H ∧ (M21 H n).E.ok = okL := ⟨rfl, rfl, rfl, rfl, rfl, rfl, rfl, rfl, rfl, rfl, rfl⟩
noncomputable abbrev c21 : Code := Try.f21.body.getD .skip
theorem s21 {H} (hH : SoundHand Try.prog (hand H)) {args out} (n : Nat) (hl : args.length ≤ 8) (hp : match out with | .ret v => pureR v = true | .pan v => pureR v = true) (h : Fin (M21 (hand H) n) Try.f21.results.toList (R (M21 (hand H) n) c21 .top ⟨params 0 args, [], fun _ => none, 0⟩) = some out) : SoundPure Try.prog 21 args out := sound_of (C := Cx (hand H)) hH good mixed Try.func21 rfl hl hp h
/-- (chiasmus/protocol.Protocol).bad -/
noncomputable abbrev M22 (H : FuncId → Option (List V → Option V)) (n : Nat) : Mc := mcOf (Cx H) 22 Try.f22 n
theorem m22 (H n) : (M22 H n).E.keep = [0, 1, 2, 3, 4] ∧ (M22 H n).E.cnd = [] ∧ (M22 H n).E.frz = [] ∧ (M22 H n).E.pro = [] ∧ (M22 H n).E.imp = [] ∧ (M22 H n).E.n = 9 ∧ (M22 H n).E.lvl = 0 ∧ (M22 H n).E.P = Try.prog ∧ (M22 H n).fuel = n ∧ (M22 H n).C = H ∧ (M22 H n).E.ok = okL := ⟨rfl, rfl, rfl, rfl, rfl, rfl, rfl, rfl, rfl, rfl, rfl⟩
noncomputable abbrev c22 : Code := Try.f22.body.getD .skip
theorem s22 {H} (hH : SoundHand Try.prog (hand H)) {args out} (n : Nat) (hl : args.length ≤ 9) (hp : match out with | .ret v => pureR v = true | .pan v => pureR v = true) (h : Fin (M22 (hand H) n) Try.f22.results.toList (R (M22 (hand H) n) c22 .top ⟨params 0 args, [], fun _ => none, 0⟩) = some out) : SoundPure Try.prog 22 args out := sound_of (C := Cx (hand H)) hH good mixed Try.func22 rfl hl hp h
/-- chiasmus/protocol.within -/
noncomputable abbrev M27 (H : FuncId → Option (List V → Option V)) (n : Nat) : Mc := mcOf (Cx H) 27 Try.f27 n
theorem m27 (H n) : (M27 H n).E.keep = [0, 1, 2, 5, 6] ∧ (M27 H n).E.cnd = [] ∧ (M27 H n).E.frz = [] ∧ (M27 H n).E.pro = [] ∧ (M27 H n).E.imp = [] ∧ (M27 H n).E.n = 17 ∧ (M27 H n).E.lvl = 0 ∧ (M27 H n).E.P = Try.prog ∧ (M27 H n).fuel = n ∧ (M27 H n).C = H ∧ (M27 H n).E.ok = okL := ⟨rfl, rfl, rfl, rfl, rfl, rfl, rfl, rfl, rfl, rfl, rfl⟩
noncomputable abbrev c27 : Code := Try.f27.body.getD .skip
theorem s27 {H} (hH : SoundHand Try.prog (hand H)) {args out} (n : Nat) (hl : args.length ≤ 17) (hp : match out with | .ret v => pureR v = true | .pan v => pureR v = true) (h : Fin (M27 (hand H) n) Try.f27.results.toList (R (M27 (hand H) n) c27 .top ⟨params 0 args, [], fun _ => none, 0⟩) = some out) : SoundPure Try.prog 27 args out := sound_of (C := Cx (hand H)) hH good mixed Try.func27 rfl hl hp h
/-- (chiasmus/protocol.Rule).use -/
noncomputable abbrev M28 (H : FuncId → Option (List V → Option V)) (n : Nat) : Mc := mcOf (Cx H) 28 Try.f28 n
theorem m28 (H n) : (M28 H n).E.keep = [0, 1, 2, 4, 5, 6, 7, 8, 9, 11, 12, 13, 18, 22, 23, 24, 25, 38, 39, 40, 41, 47, 60, 70, 71, 72, 73, 87] ∧ (M28 H n).E.cnd = [18, 25, 41, 47, 60, 73, 87] ∧ (M28 H n).E.frz = [7, 8, 9, 11, 12, 13] ∧ (M28 H n).E.pro = [] ∧ (M28 H n).E.imp = [] ∧ (M28 H n).E.n = 89 ∧ (M28 H n).E.lvl = 0 ∧ (M28 H n).E.P = Try.prog ∧ (M28 H n).fuel = n ∧ (M28 H n).C = H ∧ (M28 H n).E.ok = okL := ⟨rfl, rfl, rfl, rfl, rfl, rfl, rfl, rfl, rfl, rfl, rfl⟩
noncomputable abbrev c28 : Code := Try.f28.body.getD .skip
theorem s28 {H} (hH : SoundHand Try.prog (hand H)) {args out} (n : Nat) (hl : args.length ≤ 89) (hp : match out with | .ret v => pureR v = true | .pan v => pureR v = true) (h : Fin (M28 (hand H) n) Try.f28.results.toList (R (M28 (hand H) n) c28 .top ⟨params 0 args, [], fun _ => none, 0⟩) = some out) : SoundPure Try.prog 28 args out := sound_of (C := Cx (hand H)) hH good mixed Try.func28 rfl hl hp h
/-- slices.ContainsFunc[[]chiasmus/protocol.Rule,chiasmus/protocol.Rule] -/
noncomputable abbrev M29 (H : FuncId → Option (List V → Option V)) (n : Nat) : Mc := mcOf (Cx H) 29 Try.f29 n
theorem m29 (H n) : (M29 H n).E.keep = [0, 1, 4] ∧ (M29 H n).E.cnd = [] ∧ (M29 H n).E.frz = [] ∧ (M29 H n).E.pro = [] ∧ (M29 H n).E.imp = [] ∧ (M29 H n).E.n = 9 ∧ (M29 H n).E.lvl = 0 ∧ (M29 H n).E.P = Try.prog ∧ (M29 H n).fuel = n ∧ (M29 H n).C = H ∧ (M29 H n).E.ok = okL := ⟨rfl, rfl, rfl, rfl, rfl, rfl, rfl, rfl, rfl, rfl, rfl⟩
noncomputable abbrev c29 : Code := Try.f29.body.getD .skip
theorem s29 {H} (hH : SoundHand Try.prog (hand H)) {args out} (n : Nat) (hl : args.length ≤ 9) (hp : match out with | .ret v => pureR v = true | .pan v => pureR v = true) (h : Fin (M29 (hand H) n) Try.f29.results.toList (R (M29 (hand H) n) c29 .top ⟨params 0 args, [], fun _ => none, 0⟩) = some out) : SoundPure Try.prog 29 args out := sound_of (C := Cx (hand H)) hH good mixed Try.func29 rfl hl hp h
/-- chiasmus/protocol.Check$1 -/
noncomputable abbrev M30 (H : FuncId → Option (List V → Option V)) (n : Nat) : Mc := mcOf (Cx H) 30 Try.f30 n
theorem m30 (H n) : (M30 H n).E.keep = [0, 1, 2, 3] ∧ (M30 H n).E.cnd = [] ∧ (M30 H n).E.frz = [] ∧ (M30 H n).E.pro = [] ∧ (M30 H n).E.imp = [] ∧ (M30 H n).E.n = 8 ∧ (M30 H n).E.lvl = 0 ∧ (M30 H n).E.P = Try.prog ∧ (M30 H n).fuel = n ∧ (M30 H n).C = H ∧ (M30 H n).E.ok = okL := ⟨rfl, rfl, rfl, rfl, rfl, rfl, rfl, rfl, rfl, rfl, rfl⟩
noncomputable abbrev c30 : Code := Try.f30.body.getD .skip
theorem s30 {H} (hH : SoundHand Try.prog (hand H)) {args out} (n : Nat) (hl : args.length ≤ 8) (hp : match out with | .ret v => pureR v = true | .pan v => pureR v = true) (h : Fin (M30 (hand H) n) Try.f30.results.toList (R (M30 (hand H) n) c30 .top ⟨params 0 args, [], fun _ => none, 0⟩) = some out) : SoundPure Try.prog 30 args out := sound_of (C := Cx (hand H)) hH good mixed Try.func30 rfl hl hp h
/-- (chiasmus/protocol.Rule).right -/
noncomputable abbrev M31 (H : FuncId → Option (List V → Option V)) (n : Nat) : Mc := mcOf (Cx H) 31 Try.f31 n
theorem m31 (H n) : (M31 H n).E.keep = [0, 1, 2, 4, 5, 6, 18, 20, 21, 22, 23, 47] ∧ (M31 H n).E.cnd = [18, 23, 47] ∧ (M31 H n).E.frz = [5, 6] ∧ (M31 H n).E.pro = [] ∧ (M31 H n).E.imp = [] ∧ (M31 H n).E.n = 69 ∧ (M31 H n).E.lvl = 0 ∧ (M31 H n).E.P = Try.prog ∧ (M31 H n).fuel = n ∧ (M31 H n).C = H ∧ (M31 H n).E.ok = okL := ⟨rfl, rfl, rfl, rfl, rfl, rfl, rfl, rfl, rfl, rfl, rfl⟩
noncomputable abbrev c31 : Code := Try.f31.body.getD .skip
theorem s31 {H} (hH : SoundHand Try.prog (hand H)) {args out} (n : Nat) (hl : args.length ≤ 69) (hp : match out with | .ret v => pureR v = true | .pan v => pureR v = true) (h : Fin (M31 (hand H) n) Try.f31.results.toList (R (M31 (hand H) n) c31 .top ⟨params 0 args, [], fun _ => none, 0⟩) = some out) : SoundPure Try.prog 31 args out := sound_of (C := Cx (hand H)) hH good mixed Try.func31 rfl hl hp h
/-- slices.ContainsFunc[[][]int,[]int] -/
noncomputable abbrev M32 (H : FuncId → Option (List V → Option V)) (n : Nat) : Mc := mcOf (Cx H) 32 Try.f32 n
theorem m32 (H n) : (M32 H n).E.keep = [0, 1, 4] ∧ (M32 H n).E.cnd = [] ∧ (M32 H n).E.frz = [] ∧ (M32 H n).E.pro = [] ∧ (M32 H n).E.imp = [] ∧ (M32 H n).E.n = 9 ∧ (M32 H n).E.lvl = 0 ∧ (M32 H n).E.P = Try.prog ∧ (M32 H n).fuel = n ∧ (M32 H n).C = H ∧ (M32 H n).E.ok = okL := ⟨rfl, rfl, rfl, rfl, rfl, rfl, rfl, rfl, rfl, rfl, rfl⟩
noncomputable abbrev c32 : Code := Try.f32.body.getD .skip
theorem s32 {H} (hH : SoundHand Try.prog (hand H)) {args out} (n : Nat) (hl : args.length ≤ 9) (hp : match out with | .ret v => pureR v = true | .pan v => pureR v = true) (h : Fin (M32 (hand H) n) Try.f32.results.toList (R (M32 (hand H) n) c32 .top ⟨params 0 args, [], fun _ => none, 0⟩) = some out) : SoundPure Try.prog 32 args out := sound_of (C := Cx (hand H)) hH good mixed Try.func32 rfl hl hp h
/-- chiasmus/protocol.Check$2 -/
noncomputable abbrev M33 (H : FuncId → Option (List V → Option V)) (n : Nat) : Mc := mcOf (Cx H) 33 Try.f33 n
theorem m33 (H n) : (M33 H n).E.keep = [0, 1, 3] ∧ (M33 H n).E.cnd = [] ∧ (M33 H n).E.frz = [] ∧ (M33 H n).E.pro = [] ∧ (M33 H n).E.imp = [] ∧ (M33 H n).E.n = 8 ∧ (M33 H n).E.lvl = 0 ∧ (M33 H n).E.P = Try.prog ∧ (M33 H n).fuel = n ∧ (M33 H n).C = H ∧ (M33 H n).E.ok = okL := ⟨rfl, rfl, rfl, rfl, rfl, rfl, rfl, rfl, rfl, rfl, rfl⟩
noncomputable abbrev c33 : Code := Try.f33.body.getD .skip
theorem s33 {H} (hH : SoundHand Try.prog (hand H)) {args out} (n : Nat) (hl : args.length ≤ 8) (hp : match out with | .ret v => pureR v = true | .pan v => pureR v = true) (h : Fin (M33 (hand H) n) Try.f33.results.toList (R (M33 (hand H) n) c33 .top ⟨params 0 args, [], fun _ => none, 0⟩) = some out) : SoundPure Try.prog 33 args out := sound_of (C := Cx (hand H)) hH good mixed Try.func33 rfl hl hp h
/-- (chiasmus/protocol.Protocol).start -/
noncomputable abbrev M36 (H : FuncId → Option (List V → Option V)) (n : Nat) : Mc := mcOf (Cx H) 36 Try.f36 n
theorem m36 (H n) : (M36 H n).E.keep = [0, 1, 2, 4, 5] ∧ (M36 H n).E.cnd = [] ∧ (M36 H n).E.frz = [] ∧ (M36 H n).E.pro = [] ∧ (M36 H n).E.imp = [] ∧ (M36 H n).E.n = 18 ∧ (M36 H n).E.lvl = 0 ∧ (M36 H n).E.P = Try.prog ∧ (M36 H n).fuel = n ∧ (M36 H n).C = H ∧ (M36 H n).E.ok = okL := ⟨rfl, rfl, rfl, rfl, rfl, rfl, rfl, rfl, rfl, rfl, rfl⟩
noncomputable abbrev c36 : Code := Try.f36.body.getD .skip
theorem s36 {H} (hH : SoundHand Try.prog (hand H)) {args out} (n : Nat) (hl : args.length ≤ 18) (hp : match out with | .ret v => pureR v = true | .pan v => pureR v = true) (h : Fin (M36 (hand H) n) Try.f36.results.toList (R (M36 (hand H) n) c36 .top ⟨params 0 args, [], fun _ => none, 0⟩) = some out) : SoundPure Try.prog 36 args out := sound_of (C := Cx (hand H)) hH good mixed Try.func36 rfl hl hp h
noncomputable abbrev c37 : Code := Try.f37.body.getD .skip
/-- chiasmus/protocol.keyOf -/
noncomputable abbrev M38 (H : FuncId → Option (List V → Option V)) (n : Nat) : Mc := mcOf (Cx H) 38 Try.f38 n
theorem m38 (H n) : (M38 H n).E.keep = [0, 2] ∧ (M38 H n).E.cnd = [] ∧ (M38 H n).E.frz = [] ∧ (M38 H n).E.pro = [] ∧ (M38 H n).E.imp = [] ∧ (M38 H n).E.n = 7 ∧ (M38 H n).E.lvl = 0 ∧ (M38 H n).E.P = Try.prog ∧ (M38 H n).fuel = n ∧ (M38 H n).C = H ∧ (M38 H n).E.ok = okL := ⟨rfl, rfl, rfl, rfl, rfl, rfl, rfl, rfl, rfl, rfl, rfl⟩
noncomputable abbrev c38 : Code := Try.f38.body.getD .skip
theorem s38 {H} (hH : SoundHand Try.prog (hand H)) {args out} (n : Nat) (hl : args.length ≤ 7) (hp : match out with | .ret v => pureR v = true | .pan v => pureR v = true) (h : Fin (M38 (hand H) n) Try.f38.results.toList (R (M38 (hand H) n) c38 .top ⟨params 0 args, [], fun _ => none, 0⟩) = some out) : SoundPure Try.prog 38 args out := sound_of (C := Cx (hand H)) hH good mixed Try.func38 rfl hl hp h
/-- slices.Clone[[]int,int] -/
noncomputable abbrev M39 (H : FuncId → Option (List V → Option V)) (n : Nat) : Mc := mcOf (Cx H) 39 Try.f39 n
theorem m39 (H n) : (M39 H n).E.keep = [0, 2, 4] ∧ (M39 H n).E.cnd = [4] ∧ (M39 H n).E.frz = [] ∧ (M39 H n).E.pro = [] ∧ (M39 H n).E.imp = [] ∧ (M39 H n).E.n = 8 ∧ (M39 H n).E.lvl = 0 ∧ (M39 H n).E.P = Try.prog ∧ (M39 H n).fuel = n ∧ (M39 H n).C = H ∧ (M39 H n).E.ok = okL := ⟨rfl, rfl, rfl, rfl, rfl, rfl, rfl, rfl, rfl, rfl, rfl⟩
noncomputable abbrev c39 : Code := Try.f39.body.getD .skip
theorem s39 {H} (hH : SoundHand Try.prog (hand H)) {args out} (n : Nat) (hl : args.length ≤ 8) (hp : match out with | .ret v => pureR v = true | .pan v => pureR v = true) (h : Fin (M39 (hand H) n) Try.f39.results.toList (R (M39 (hand H) n) c39 .top ⟨params 0 args, [], fun _ => none, 0⟩) = some out) : SoundPure Try.prog 39 args out := sound_of (C := Cx (hand H)) hH good mixed Try.func39 rfl hl hp h
/-- (chiasmus/protocol.Protocol).bad$1 -/
noncomputable abbrev M40 (H : FuncId → Option (List V → Option V)) (n : Nat) : Mc := mcOf (Cx H) 40 Try.f40 n
theorem m40 (H n) : (M40 H n).E.keep = [0, 1, 3] ∧ (M40 H n).E.cnd = [] ∧ (M40 H n).E.frz = [] ∧ (M40 H n).E.pro = [] ∧ (M40 H n).E.imp = [] ∧ (M40 H n).E.n = 7 ∧ (M40 H n).E.lvl = 0 ∧ (M40 H n).E.P = Try.prog ∧ (M40 H n).fuel = n ∧ (M40 H n).C = H ∧ (M40 H n).E.ok = okL := ⟨rfl, rfl, rfl, rfl, rfl, rfl, rfl, rfl, rfl, rfl, rfl⟩
noncomputable abbrev c40 : Code := Try.f40.body.getD .skip
theorem s40 {H} (hH : SoundHand Try.prog (hand H)) {args out} (n : Nat) (hl : args.length ≤ 7) (hp : match out with | .ret v => pureR v = true | .pan v => pureR v = true) (h : Fin (M40 (hand H) n) Try.f40.results.toList (R (M40 (hand H) n) c40 .top ⟨params 0 args, [], fun _ => none, 0⟩) = some out) : SoundPure Try.prog 40 args out := sound_of (C := Cx (hand H)) hH good mixed Try.func40 rfl hl hp h
/-- chiasmus/protocol.covers -/
noncomputable abbrev M41 (H : FuncId → Option (List V → Option V)) (n : Nat) : Mc := mcOf (Cx H) 41 Try.f41 n
theorem m41 (H n) : (M41 H n).E.keep = [0, 1, 4, 5, 6, 7, 8, 9, 10, 19] ∧ (M41 H n).E.cnd = [10, 19] ∧ (M41 H n).E.frz = [5, 6] ∧ (M41 H n).E.pro = [] ∧ (M41 H n).E.imp = [] ∧ (M41 H n).E.n = 21 ∧ (M41 H n).E.lvl = 0 ∧ (M41 H n).E.P = Try.prog ∧ (M41 H n).fuel = n ∧ (M41 H n).C = H ∧ (M41 H n).E.ok = okL := ⟨rfl, rfl, rfl, rfl, rfl, rfl, rfl, rfl, rfl, rfl, rfl⟩
noncomputable abbrev c41 : Code := Try.f41.body.getD .skip
theorem s41 {H} (hH : SoundHand Try.prog (hand H)) {args out} (n : Nat) (hl : args.length ≤ 21) (hp : match out with | .ret v => pureR v = true | .pan v => pureR v = true) (h : Fin (M41 (hand H) n) Try.f41.results.toList (R (M41 (hand H) n) c41 .top ⟨params 0 args, [], fun _ => none, 0⟩) = some out) : SoundPure Try.prog 41 args out := sound_of (C := Cx (hand H)) hH good mixed Try.func41 rfl hl hp h
/-- slices.ContainsFunc[[]int,int] -/
noncomputable abbrev M42 (H : FuncId → Option (List V → Option V)) (n : Nat) : Mc := mcOf (Cx H) 42 Try.f42 n
theorem m42 (H n) : (M42 H n).E.keep = [0, 1, 4] ∧ (M42 H n).E.cnd = [] ∧ (M42 H n).E.frz = [] ∧ (M42 H n).E.pro = [] ∧ (M42 H n).E.imp = [] ∧ (M42 H n).E.n = 9 ∧ (M42 H n).E.lvl = 0 ∧ (M42 H n).E.P = Try.prog ∧ (M42 H n).fuel = n ∧ (M42 H n).C = H ∧ (M42 H n).E.ok = okL := ⟨rfl, rfl, rfl, rfl, rfl, rfl, rfl, rfl, rfl, rfl, rfl⟩
noncomputable abbrev c42 : Code := Try.f42.body.getD .skip
theorem s42 {H} (hH : SoundHand Try.prog (hand H)) {args out} (n : Nat) (hl : args.length ≤ 9) (hp : match out with | .ret v => pureR v = true | .pan v => pureR v = true) (h : Fin (M42 (hand H) n) Try.f42.results.toList (R (M42 (hand H) n) c42 .top ⟨params 0 args, [], fun _ => none, 0⟩) = some out) : SoundPure Try.prog 42 args out := sound_of (C := Cx (hand H)) hH good mixed Try.func42 rfl hl hp h
/-- chiasmus/protocol.within$1 -/
noncomputable abbrev M43 (H : FuncId → Option (List V → Option V)) (n : Nat) : Mc := mcOf (Cx H) 43 Try.f43 n
theorem m43 (H n) : (M43 H n).E.keep = [0, 1, 3] ∧ (M43 H n).E.cnd = [] ∧ (M43 H n).E.frz = [] ∧ (M43 H n).E.pro = [] ∧ (M43 H n).E.imp = [] ∧ (M43 H n).E.n = 11 ∧ (M43 H n).E.lvl = 0 ∧ (M43 H n).E.P = Try.prog ∧ (M43 H n).fuel = n ∧ (M43 H n).C = H ∧ (M43 H n).E.ok = okL := ⟨rfl, rfl, rfl, rfl, rfl, rfl, rfl, rfl, rfl, rfl, rfl⟩
noncomputable abbrev c43 : Code := Try.f43.body.getD .skip
theorem s43 {H} (hH : SoundHand Try.prog (hand H)) {args out} (n : Nat) (hl : args.length ≤ 11) (hp : match out with | .ret v => pureR v = true | .pan v => pureR v = true) (h : Fin (M43 (hand H) n) Try.f43.results.toList (R (M43 (hand H) n) c43 .top ⟨params 0 args, [], fun _ => none, 0⟩) = some out) : SoundPure Try.prog 43 args out := sound_of (C := Cx (hand H)) hH good mixed Try.func43 rfl hl hp h
/-- slices.Max[[]int,int] -/
noncomputable abbrev M44 (H : FuncId → Option (List V → Option V)) (n : Nat) : Mc := mcOf (Cx H) 44 Try.f44 n
theorem m44 (H n) : (M44 H n).E.keep = [0, 2, 3, 4, 7, 15] ∧ (M44 H n).E.cnd = [7, 15] ∧ (M44 H n).E.frz = [4] ∧ (M44 H n).E.pro = [] ∧ (M44 H n).E.imp = [] ∧ (M44 H n).E.n = 25 ∧ (M44 H n).E.lvl = 0 ∧ (M44 H n).E.P = Try.prog ∧ (M44 H n).fuel = n ∧ (M44 H n).C = H ∧ (M44 H n).E.ok = okL := ⟨rfl, rfl, rfl, rfl, rfl, rfl, rfl, rfl, rfl, rfl, rfl⟩
noncomputable abbrev c44 : Code := Try.f44.body.getD .skip
theorem s44 {H} (hH : SoundHand Try.prog (hand H)) {args out} (n : Nat) (hl : args.length ≤ 25) (hp : match out with | .ret v => pureR v = true | .pan v => pureR v = true) (h : Fin (M44 (hand H) n) Try.f44.results.toList (R (M44 (hand H) n) c44 .top ⟨params 0 args, [], fun _ => none, 0⟩) = some out) : SoundPure Try.prog 44 args out := sound_of (C := Cx (hand H)) hH good mixed Try.func44 rfl hl hp h
/-- slices.IndexFunc[[]chiasmus/protocol.Rule,chiasmus/protocol.Rule] -/
noncomputable abbrev M45 (H : FuncId → Option (List V → Option V)) (n : Nat) : Mc := mcOf (Cx H) 45 Try.f45 n
theorem m45 (H n) : (M45 H n).E.keep = [0, 1, 4, 5, 7, 8, 9, 16] ∧ (M45 H n).E.cnd = [9, 16] ∧ (M45 H n).E.frz = [] ∧ (M45 H n).E.pro = [] ∧ (M45 H n).E.imp = [] ∧ (M45 H n).E.n = 19 ∧ (M45 H n).E.lvl = 0 ∧ (M45 H n).E.P = Try.prog ∧ (M45 H n).fuel = n ∧ (M45 H n).C = H ∧ (M45 H n).E.ok = okL := ⟨rfl, rfl, rfl, rfl, rfl, rfl, rfl, rfl, rfl, rfl, rfl⟩
noncomputable abbrev c45 : Code := Try.f45.body.getD .skip
theorem s45 {H} (hH : SoundHand Try.prog (hand H)) {args out} (n : Nat) (hl : args.length ≤ 19) (hp : match out with | .ret v => pureR v = true | .pan v => pureR v = true) (h : Fin (M45 (hand H) n) Try.f45.results.toList (R (M45 (hand H) n) c45 .top ⟨params 0 args, [], fun _ => none, 0⟩) = some out) : SoundPure Try.prog 45 args out := sound_of (C := Cx (hand H)) hH good mixed Try.func45 rfl hl hp h
/-- slices.IndexFunc[[][]int,[]int] -/
noncomputable abbrev M46 (H : FuncId → Option (List V → Option V)) (n : Nat) : Mc := mcOf (Cx H) 46 Try.f46 n
theorem m46 (H n) : (M46 H n).E.keep = [0, 1, 4, 5, 7, 8, 9, 16] ∧ (M46 H n).E.cnd = [9, 16] ∧ (M46 H n).E.frz = [] ∧ (M46 H n).E.pro = [] ∧ (M46 H n).E.imp = [] ∧ (M46 H n).E.n = 19 ∧ (M46 H n).E.lvl = 0 ∧ (M46 H n).E.P = Try.prog ∧ (M46 H n).fuel = n ∧ (M46 H n).C = H ∧ (M46 H n).E.ok = okL := ⟨rfl, rfl, rfl, rfl, rfl, rfl, rfl, rfl, rfl, rfl, rfl⟩
noncomputable abbrev c46 : Code := Try.f46.body.getD .skip
theorem s46 {H} (hH : SoundHand Try.prog (hand H)) {args out} (n : Nat) (hl : args.length ≤ 19) (hp : match out with | .ret v => pureR v = true | .pan v => pureR v = true) (h : Fin (M46 (hand H) n) Try.f46.results.toList (R (M46 (hand H) n) c46 .top ⟨params 0 args, [], fun _ => none, 0⟩) = some out) : SoundPure Try.prog 46 args out := sound_of (C := Cx (hand H)) hH good mixed Try.func46 rfl hl hp h
/-- slices.IndexFunc[[]int,int] -/
noncomputable abbrev M47 (H : FuncId → Option (List V → Option V)) (n : Nat) : Mc := mcOf (Cx H) 47 Try.f47 n
theorem m47 (H n) : (M47 H n).E.keep = [0, 1, 4, 5, 7, 8, 9, 16] ∧ (M47 H n).E.cnd = [9, 16] ∧ (M47 H n).E.frz = [] ∧ (M47 H n).E.pro = [] ∧ (M47 H n).E.imp = [] ∧ (M47 H n).E.n = 19 ∧ (M47 H n).E.lvl = 0 ∧ (M47 H n).E.P = Try.prog ∧ (M47 H n).fuel = n ∧ (M47 H n).C = H ∧ (M47 H n).E.ok = okL := ⟨rfl, rfl, rfl, rfl, rfl, rfl, rfl, rfl, rfl, rfl, rfl⟩
noncomputable abbrev c47 : Code := Try.f47.body.getD .skip
theorem s47 {H} (hH : SoundHand Try.prog (hand H)) {args out} (n : Nat) (hl : args.length ≤ 19) (hp : match out with | .ret v => pureR v = true | .pan v => pureR v = true) (h : Fin (M47 (hand H) n) Try.f47.results.toList (R (M47 (hand H) n) c47 .top ⟨params 0 args, [], fun _ => none, 0⟩) = some out) : SoundPure Try.prog 47 args out := sound_of (C := Cx (hand H)) hH good mixed Try.func47 rfl hl hp h
theorem oks : okL.contains 2 = true ∧ okL.contains 3 = true ∧ okL.contains 4 = true ∧ okL.contains 5 = true ∧ okL.contains 6 = true ∧ okL.contains 7 = true ∧ okL.contains 8 = true ∧ okL.contains 9 = true ∧ okL.contains 10 = true ∧ okL.contains 11 = true ∧ okL.contains 12 = true ∧ okL.contains 13 = true ∧ okL.contains 14 = true ∧ okL.contains 15 = true ∧ okL.contains 16 = true ∧ okL.contains 17 = true ∧ okL.contains 18 = true ∧ okL.contains 19 = true ∧ okL.contains 20 = true ∧ okL.contains 21 = true ∧ okL.contains 22 = true ∧ okL.contains 23 = true ∧ okL.contains 24 = true ∧ okL.contains 25 = true ∧ okL.contains 26 = true ∧ okL.contains 27 = true ∧ okL.contains 28 = true ∧ okL.contains 29 = true ∧ okL.contains 30 = true ∧ okL.contains 31 = true ∧ okL.contains 32 = true ∧ okL.contains 33 = true ∧ okL.contains 34 = true ∧ okL.contains 35 = true ∧ okL.contains 36 = true ∧ okL.contains 37 = true ∧ okL.contains 38 = true ∧ okL.contains 39 = true ∧ okL.contains 40 = true ∧ okL.contains 41 = true ∧ okL.contains 42 = true ∧ okL.contains 43 = true ∧ okL.contains 44 = true ∧ okL.contains 45 = true ∧ okL.contains 46 = true ∧ okL.contains 47 = true := ⟨rfl, rfl, rfl, rfl, rfl, rfl, rfl, rfl, rfl, rfl, rfl, rfl, rfl, rfl, rfl, rfl, rfl, rfl, rfl, rfl, rfl, rfl, rfl, rfl, rfl, rfl, rfl, rfl, rfl, rfl, rfl, rfl, rfl, rfl, rfl, rfl, rfl, rfl, rfl, rfl, rfl, rfl, rfl, rfl, rfl, rfl⟩
/-- Facts on types. -/
theorem ty :
  szT Try.prog 0 = 1 ∧
  aggT Try.prog 0 = some false ∧
  bytesT Try.prog 0 = 0 ∧
  zeroT Try.prog 0 = some V.junk ∧
  szT Try.prog 3 = 1 ∧
  aggT Try.prog 3 = some false ∧
  bytesT Try.prog 3 = 8 ∧
  zeroT Try.prog 3 = some (V.int IntKind.i64 (0)) ∧
  intT Try.prog 3 = some IntKind.i64 ∧
  szT Try.prog 4 = 1 ∧
  aggT Try.prog 4 = some false ∧
  bytesT Try.prog 4 = 1 ∧
  zeroT Try.prog 4 = some (V.bool false) ∧
  szT Try.prog 5 = 1 ∧
  aggT Try.prog 5 = some false ∧
  bytesT Try.prog 5 = 1 ∧
  zeroT Try.prog 5 = some (V.int IntKind.u8 (0)) ∧
  intT Try.prog 5 = some IntKind.u8 ∧
  szT Try.prog 9 = 1 ∧
  aggT Try.prog 9 = some false ∧
  bytesT Try.prog 9 = 16 ∧
  zeroT Try.prog 9 = some (V.str []) ∧
  strT Try.prog 9 = true ∧
  rowT Try.prog 9 = true ∧
  szT Try.prog 20 = 1 ∧
  aggT Try.prog 20 = some false ∧
  bytesT Try.prog 20 = 16 ∧
  zeroT Try.prog 20 = some V.nilI ∧
  szT Try.prog 22 = 1 ∧
  aggT Try.prog 22 = some false ∧
  bytesT Try.prog 22 = 24 ∧
  zeroT Try.prog 22 = some V.nilS ∧
  elemT Try.prog 22 = some 3 ∧
  rowT Try.prog 22 = true ∧
  szT Try.prog 23 = 1 ∧
  aggT Try.prog 23 = some false ∧
  bytesT Try.prog 23 = 24 ∧
  zeroT Try.prog 23 = some V.nilS ∧
  elemT Try.prog 23 = some 54 ∧
  rowT Try.prog 23 = true ∧
  szT Try.prog 24 = 1 ∧
  aggT Try.prog 24 = some false ∧
  bytesT Try.prog 24 = 24 ∧
  zeroT Try.prog 24 = some V.nilS ∧
  elemT Try.prog 24 = some 22 ∧
  rowT Try.prog 24 = true ∧
  szT Try.prog 26 = 4 ∧
  aggT Try.prog 26 = some true ∧
  bytesT Try.prog 26 = 80 ∧
  zeroT Try.prog 26 = some (V.agg [V.nilS, V.int IntKind.i64 (0), V.nilS, V.nilS]) ∧
  fldT Try.prog 26 0 = some (0, 22) ∧
  fldT Try.prog 26 1 = some (1, 3) ∧
  fldT Try.prog 26 2 = some (2, 23) ∧
  fldT Try.prog 26 3 = some (3, 24) ∧
  structT Try.prog 26 = true ∧
  szT Try.prog 29 = 1 ∧
  aggT Try.prog 29 = some false ∧
  bytesT Try.prog 29 = 8 ∧
  zeroT Try.prog 29 = some (V.int IntKind.i64 (0)) ∧
  intT Try.prog 29 = some IntKind.i64 ∧
  szT Try.prog 30 = 1 ∧
  aggT Try.prog 30 = some false ∧
  bytesT Try.prog 30 = 0 ∧
  zeroT Try.prog 30 = some V.junk ∧
  szT Try.prog 32 = 1 ∧
  aggT Try.prog 32 = some false ∧
  bytesT Try.prog 32 = 24 ∧
  zeroT Try.prog 32 = some V.nilS ∧
  elemT Try.prog 32 = some 55 ∧
  rowT Try.prog 32 = true ∧
  szT Try.prog 34 = 4 ∧
  aggT Try.prog 34 = some true ∧
  bytesT Try.prog 34 = 80 ∧
  zeroT Try.prog 34 = some (V.agg [V.nilS, V.int IntKind.i64 (0), V.nilS, V.nilS]) ∧
  fldT Try.prog 34 0 = some (0, 22) ∧
  fldT Try.prog 34 1 = some (1, 3) ∧
  fldT Try.prog 34 2 = some (2, 32) ∧
  fldT Try.prog 34 3 = some (3, 24) ∧
  structT Try.prog 34 = true ∧
  szT Try.prog 43 = 1 ∧
  aggT Try.prog 43 = some false ∧
  bytesT Try.prog 43 = 0 ∧
  zeroT Try.prog 43 = some V.junk ∧
  szT Try.prog 46 = 1 ∧
  aggT Try.prog 46 = some false ∧
  bytesT Try.prog 46 = 0 ∧
  zeroT Try.prog 46 = some V.junk ∧
  szT Try.prog 50 = 1 ∧
  aggT Try.prog 50 = some false ∧
  bytesT Try.prog 50 = 0 ∧
  zeroT Try.prog 50 = some V.junk ∧
  szT Try.prog 54 = 4 ∧
  aggT Try.prog 54 = some true ∧
  bytesT Try.prog 54 = 80 ∧
  zeroT Try.prog 54 = some (V.agg [V.nilS, V.nilS, V.nilS, V.int IntKind.i64 (0)]) ∧
  fldT Try.prog 54 0 = some (0, 22) ∧
  fldT Try.prog 54 1 = some (1, 22) ∧
  fldT Try.prog 54 2 = some (2, 22) ∧
  fldT Try.prog 54 3 = some (3, 3) ∧
  structT Try.prog 54 = true ∧
  szT Try.prog 55 = 4 ∧
  aggT Try.prog 55 = some true ∧
  bytesT Try.prog 55 = 80 ∧
  zeroT Try.prog 55 = some (V.agg [V.nilS, V.nilS, V.nilS, V.int IntKind.i64 (0)]) ∧
  fldT Try.prog 55 0 = some (0, 22) ∧
  fldT Try.prog 55 1 = some (1, 22) ∧
  fldT Try.prog 55 2 = some (2, 22) ∧
  fldT Try.prog 55 3 = some (3, 3) ∧
  structT Try.prog 55 = true ∧
  szT Try.prog 56 = 1 ∧
  aggT Try.prog 56 = some false ∧
  bytesT Try.prog 56 = 8 ∧
  zeroT Try.prog 56 = some V.nilF ∧
  szT Try.prog 57 = 1 ∧
  aggT Try.prog 57 = some false ∧
  bytesT Try.prog 57 = 8 ∧
  zeroT Try.prog 57 = some V.nilF ∧
  szT Try.prog 60 = 2 ∧
  aggT Try.prog 60 = some true ∧
  bytesT Try.prog 60 = 48 ∧
  zeroT Try.prog 60 = some (V.agg [V.nilS, V.nilS]) ∧
  fldT Try.prog 60 0 = some (0, 22) ∧
  fldT Try.prog 60 1 = some (1, 22) ∧
  structT Try.prog 60 = true ∧
  szT Try.prog 61 = 1 ∧
  aggT Try.prog 61 = some false ∧
  bytesT Try.prog 61 = 8 ∧
  zeroT Try.prog 61 = some V.nilF ∧
  szT Try.prog 63 = 2 ∧
  aggT Try.prog 63 = some true ∧
  bytesT Try.prog 63 = 48 ∧
  zeroT Try.prog 63 = some (V.agg [V.nilS, V.nilS]) ∧
  fldT Try.prog 63 0 = some (0, 22) ∧
  fldT Try.prog 63 1 = some (1, 22) ∧
  structT Try.prog 63 = true ∧
  szT Try.prog 64 = 1 ∧
  aggT Try.prog 64 = some false ∧
  bytesT Try.prog 64 = 24 ∧
  zeroT Try.prog 64 = some V.nilS ∧
  elemT Try.prog 64 = some 63 ∧
  rowT Try.prog 64 = true ∧
  szT Try.prog 70 = 1 ∧
  aggT Try.prog 70 = some false ∧
  bytesT Try.prog 70 = 8 ∧
  zeroT Try.prog 70 = some V.nilF ∧
  szT Try.prog 71 = 1 ∧
  aggT Try.prog 71 = some false ∧
  bytesT Try.prog 71 = 8 ∧
  zeroT Try.prog 71 = some V.nilF ∧
  szT Try.prog 76 = 1 ∧
  aggT Try.prog 76 = some false ∧
  bytesT Try.prog 76 = 8 ∧
  zeroT Try.prog 76 = some V.nilF ∧
  szT Try.prog 78 = 8 ∧
  aggT Try.prog 78 = some true ∧
  bytesT Try.prog 78 = 64 ∧
  zeroT Try.prog 78 = some   (V.agg     [V.int IntKind.i64 (0), V.int IntKind.i64 (0), V.int IntKind.i64 (0),       V.int IntKind.i64 (0), V.int IntKind.i64 (0), V.int IntKind.i64 (0),       V.int IntKind.i64 (0), V.int IntKind.i64 (0)]) ∧
  arrT Try.prog 78 = some (8, 3) ∧
  szT Try.prog 80 = 1 ∧
  aggT Try.prog 80 = some false ∧
  bytesT Try.prog 80 = 8 ∧
  zeroT Try.prog 80 = some V.nilM ∧
  mapT Try.prog 80 = some (78, 4) ∧
  szT Try.prog 81 = 1 ∧
  aggT Try.prog 81 = some false ∧
  bytesT Try.prog 81 = 24 ∧
  zeroT Try.prog 81 = some V.nilS ∧
  elemT Try.prog 81 = some 60 ∧
  rowT Try.prog 81 = true ∧
  hasT Try.prog 0 = true ∧
  concT Try.prog 0 = true ∧
  hasT Try.prog 3 = true ∧
  concT Try.prog 3 = true ∧
  Try.prog.underlying 4 = some TypeDesc.bool ∧
  hasT Try.prog 4 = true ∧
  concT Try.prog 4 = true ∧
  hasT Try.prog 5 = true ∧
  concT Try.prog 5 = true ∧
  elemT Try.prog 9 = none ∧
  arrT Try.prog 9 = none ∧
  hasT Try.prog 9 = true ∧
  concT Try.prog 9 = true ∧
  arrT Try.prog 22 = none ∧
  Try.prog.underlying 22 = some (TypeDesc.slice 3) ∧
  hasT Try.prog 22 = true ∧
  concT Try.prog 22 = true ∧
  arrT Try.prog 23 = none ∧
  Try.prog.underlying 23 = some (TypeDesc.slice 54) ∧
  hasT Try.prog 23 = true ∧
  concT Try.prog 23 = true ∧
  arrT Try.prog 24 = none ∧
  Try.prog.underlying 24 = some (TypeDesc.slice 22) ∧
  hasT Try.prog 24 = true ∧
  concT Try.prog 24 = true ∧
  hasT Try.prog 26 = true ∧
  concT Try.prog 26 = true ∧
  hasT Try.prog 29 = true ∧
  concT Try.prog 29 = true ∧
  hasT Try.prog 30 = true ∧
  concT Try.prog 30 = true ∧
  arrT Try.prog 32 = none ∧
  Try.prog.underlying 32 = some (TypeDesc.slice 55) ∧
  hasT Try.prog 32 = true ∧
  concT Try.prog 32 = true ∧
  hasT Try.prog 34 = true ∧
  concT Try.prog 34 = true ∧
  hasT Try.prog 43 = true ∧
  concT Try.prog 43 = true ∧
  hasT Try.prog 46 = true ∧
  concT Try.prog 46 = true ∧
  hasT Try.prog 50 = true ∧
  concT Try.prog 50 = true ∧
  hasT Try.prog 54 = true ∧
  concT Try.prog 54 = true ∧
  hasT Try.prog 55 = true ∧
  concT Try.prog 55 = true ∧
  hasT Try.prog 56 = true ∧
  concT Try.prog 56 = true ∧
  hasT Try.prog 57 = true ∧
  concT Try.prog 57 = true ∧
  hasT Try.prog 60 = true ∧
  concT Try.prog 60 = true ∧
  hasT Try.prog 61 = true ∧
  concT Try.prog 61 = true ∧
  hasT Try.prog 63 = true ∧
  concT Try.prog 63 = true ∧
  arrT Try.prog 64 = none ∧
  Try.prog.underlying 64 = some (TypeDesc.slice 63) ∧
  hasT Try.prog 64 = true ∧
  concT Try.prog 64 = true ∧
  hasT Try.prog 70 = true ∧
  concT Try.prog 70 = true ∧
  hasT Try.prog 71 = true ∧
  concT Try.prog 71 = true ∧
  hasT Try.prog 76 = true ∧
  concT Try.prog 76 = true ∧
  hasT Try.prog 78 = true ∧
  concT Try.prog 78 = true ∧
  elemT Try.prog 80 = none ∧
  hasT Try.prog 80 = true ∧
  concT Try.prog 80 = true ∧
  arrT Try.prog 81 = none ∧
  Try.prog.underlying 81 = some (TypeDesc.slice 60) ∧
  hasT Try.prog 81 = true ∧
  concT Try.prog 81 = true :=
  ⟨by kernel_rfl, by kernel_rfl, by kernel_rfl, by kernel_rfl, by kernel_rfl, by kernel_rfl, by kernel_rfl, by kernel_rfl, by kernel_rfl, by kernel_rfl, by kernel_rfl, by kernel_rfl, by kernel_rfl, by kernel_rfl, by kernel_rfl, by kernel_rfl, by kernel_rfl, by kernel_rfl, by kernel_rfl, by kernel_rfl, by kernel_rfl, by kernel_rfl, by kernel_rfl, by kernel_rfl, by kernel_rfl, by kernel_rfl, by kernel_rfl, by kernel_rfl, by kernel_rfl, by kernel_rfl, by kernel_rfl, by kernel_rfl, by kernel_rfl, by kernel_rfl, by kernel_rfl, by kernel_rfl, by kernel_rfl, by kernel_rfl, by kernel_rfl, by kernel_rfl, by kernel_rfl, by kernel_rfl, by kernel_rfl, by kernel_rfl, by kernel_rfl, by kernel_rfl, by kernel_rfl, by kernel_rfl, by kernel_rfl, by kernel_rfl, by kernel_rfl, by kernel_rfl, by kernel_rfl, by kernel_rfl, by kernel_rfl, by kernel_rfl, by kernel_rfl, by kernel_rfl, by kernel_rfl, by kernel_rfl, by kernel_rfl, by kernel_rfl, by kernel_rfl, by kernel_rfl, by kernel_rfl, by kernel_rfl, by kernel_rfl, by kernel_rfl, by kernel_rfl, by kernel_rfl, by kernel_rfl, by kernel_rfl, by kernel_rfl, by kernel_rfl, by kernel_rfl, by kernel_rfl, by kernel_rfl, by kernel_rfl, by kernel_rfl, by kernel_rfl, by kernel_rfl, by kernel_rfl, by kernel_rfl, by kernel_rfl, by kernel_rfl, by kernel_rfl, by kernel_rfl, by kernel_rfl, by kernel_rfl, by kernel_rfl, by kernel_rfl, by kernel_rfl, by kernel_rfl, by kernel_rfl, by kernel_rfl, by kernel_rfl, by kernel_rfl, by kernel_rfl, by kernel_rfl, by kernel_rfl, by kernel_rfl, by kernel_rfl, by kernel_rfl, by kernel_rfl, by kernel_rfl, by kernel_rfl, by kernel_rfl, by kernel_rfl, by kernel_rfl, by kernel_rfl, by kernel_rfl, by kernel_rfl, by kernel_rfl, by kernel_rfl, by kernel_rfl, by kernel_rfl, by kernel_rfl, by kernel_rfl, by kernel_rfl, by kernel_rfl, by kernel_rfl, by kernel_rfl, by kernel_rfl, by kernel_rfl, by kernel_rfl, by kernel_rfl, by kernel_rfl, by kernel_rfl, by kernel_rfl, by kernel_rfl, by kernel_rfl, by kernel_rfl, by kernel_rfl, by kernel_rfl, by kernel_rfl, by kernel_rfl, by kernel_rfl, by kernel_rfl, by kernel_rfl, by kernel_rfl, by kernel_rfl, by kernel_rfl, by kernel_rfl, by kernel_rfl, by kernel_rfl, by kernel_rfl, by kernel_rfl, by kernel_rfl, by kernel_rfl, by kernel_rfl, by kernel_rfl, by kernel_rfl, by kernel_rfl, by kernel_rfl, by kernel_rfl, by kernel_rfl, by kernel_rfl, by kernel_rfl, by kernel_rfl, by kernel_rfl, by kernel_rfl, by kernel_rfl, by kernel_rfl, by kernel_rfl, by kernel_rfl, by kernel_rfl, by kernel_rfl, by kernel_rfl, by kernel_rfl, by kernel_rfl, by kernel_rfl, by kernel_rfl, by kernel_rfl, by kernel_rfl, by kernel_rfl, by kernel_rfl, by kernel_rfl, by kernel_rfl, by kernel_rfl, by kernel_rfl, by kernel_rfl, by kernel_rfl, by kernel_rfl, by kernel_rfl, by kernel_rfl, by kernel_rfl, by kernel_rfl, by kernel_rfl, by kernel_rfl, by kernel_rfl, by kernel_rfl, by kernel_rfl, by kernel_rfl, by kernel_rfl, by kernel_rfl, by kernel_rfl, by kernel_rfl, by kernel_rfl, by kernel_rfl, by kernel_rfl, by kernel_rfl, by kernel_rfl, by kernel_rfl, by kernel_rfl, by kernel_rfl, by kernel_rfl, by kernel_rfl, by kernel_rfl, by kernel_rfl, by kernel_rfl, by kernel_rfl, by kernel_rfl, by kernel_rfl, by kernel_rfl, by kernel_rfl, by kernel_rfl, by kernel_rfl, by kernel_rfl, by kernel_rfl, by kernel_rfl, by kernel_rfl, by kernel_rfl, by kernel_rfl, by kernel_rfl, by kernel_rfl, by kernel_rfl, by kernel_rfl, by kernel_rfl, by kernel_rfl, by kernel_rfl, by kernel_rfl, by kernel_rfl, by kernel_rfl, by kernel_rfl, by kernel_rfl, by kernel_rfl, by kernel_rfl, by kernel_rfl, by kernel_rfl, by kernel_rfl, by kernel_rfl, by kernel_rfl, by kernel_rfl, by kernel_rfl, by kernel_rfl⟩
end Go.Vi
