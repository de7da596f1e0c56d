/-
  THE FUNCTIONS' FRAMES AND THE TYPES' FACTS, written by a program of mine (gen.py) off Lean's print of the loaded program.
-/
import Derived.Test.YtpdeblfnbcponaaGreatDoorVC
import Derived.Test.YtpdeblfnbcponaaGreatDoorProg
import Derived.KernelRfl
set_option linter.unusedSimpArgs false
set_option linter.unusedVariables false
set_option maxRecDepth 100000
namespace Go.Vi
open Go Go.Proofs

def h0 : FuncId → Hint
  | 3 => { keep := [0, 1, 2, 6, 7, 8, 9, 10, 11, 12, 13, 14, 15, 16, 25, 47], cnd := [25, 47], frz := [7, 8, 9, 10, 11, 12, 13, 14, 15, 16], pro := [], imp := [] }
  | 4 => { keep := [0, 2], cnd := [], frz := [], pro := [], imp := [] }
  | 5 => { keep := [0, 1, 2, 3, 4, 5], cnd := [], frz := [1, 2, 3, 4, 5], pro := [], imp := [] }
  | 6 => { keep := [0, 1, 4, 5, 6, 7, 8, 17, 21], cnd := [17, 21], frz := [6, 8], pro := [7], imp := [25] }
  | 7 => { keep := [0, 1, 4, 5, 6, 7, 8, 9, 12, 18, 24, 29], cnd := [12, 18, 24, 29], frz := [6, 8, 9], pro := [], imp := [] }
  | 8 => { keep := [0, 1, 4, 5, 10, 12, 13, 14, 24], cnd := [10, 14, 24], frz := [5], pro := [], imp := [] }
  | 9 => { keep := [0, 1, 3, 4, 5, 6, 8, 21, 22, 23, 24], cnd := [24], frz := [6, 8], pro := [], imp := [] }
  | 10 => { keep := [0, 1, 4, 5, 6, 7, 8, 14, 17, 21, 36, 41, 59], cnd := [14, 17, 21, 36, 41, 59], frz := [6, 7, 8], pro := [], imp := [] }
  | 11 => { keep := [0, 2, 3, 4, 5, 8, 15], cnd := [8, 15], frz := [5], pro := [], imp := [] }
  | 12 => { keep := [0, 2, 3, 4, 5, 6, 9, 12, 20, 24, 34, 37, 39, 45], cnd := [9, 12, 20, 24, 34, 37, 39, 45], frz := [6], pro := [], imp := [] }
  | 13 => { keep := [0, 2], cnd := [], frz := [], pro := [], imp := [] }
  | 14 => { keep := [0, 2, 3, 4, 5, 7, 10, 14, 27], cnd := [7, 10, 14, 27], frz := [4, 5], pro := [], imp := [] }
  | 15 => { keep := [0, 1, 4], cnd := [], frz := [], pro := [], imp := [] }
  | 16 => { keep := [0, 2], cnd := [], frz := [], pro := [], imp := [] }
  | 17 => { keep := [0, 1, 4, 5, 6, 7, 8, 9, 10], cnd := [], frz := [9, 10], pro := [], imp := [] }
  | 18 => { keep := [0, 1, 4, 5, 6, 7, 8], cnd := [], frz := [7, 8], pro := [], imp := [] }
  | 19 => { keep := [0, 2, 4, 18], cnd := [4, 18], frz := [0], pro := [], imp := [] }
  | 20 => { keep := [0, 2, 3, 4, 7, 14], cnd := [7, 14], frz := [2, 4], pro := [], imp := [] }
  | 21 => { keep := [0, 2, 3, 4, 5, 6, 7, 9, 21, 30, 31, 32, 33], cnd := [21, 33], frz := [3, 4, 6, 7, 9], pro := [5], imp := [] }
  | 22 => { keep := [0, 1, 5], cnd := [5], frz := [], pro := [], imp := [] }
  | 23 => { keep := [0, 2], cnd := [], frz := [], pro := [], imp := [] }
  | 24 => { keep := [0, 1, 4, 5, 6, 7, 8, 16], cnd := [16], frz := [8], pro := [], imp := [] }
  | 25 => { keep := [0, 2], cnd := [], frz := [], pro := [], imp := [50] }
  | 26 => { keep := [0, 2, 3, 11, 15, 33, 37, 49], cnd := [11, 15, 33, 37, 49], frz := [0, 3], pro := [], imp := [] }
  | 27 => { keep := [0, 2, 3, 4, 8, 16], cnd := [8, 16], frz := [0, 4], pro := [], imp := [] }
  | 28 => { keep := [0, 1, 4, 5, 6, 7, 8, 17, 33], cnd := [17, 33], frz := [8], pro := [], imp := [] }
  | 29 => { keep := [0, 2, 3, 6], cnd := [6], frz := [0], pro := [], imp := [] }
  | 30 => { keep := [0, 2, 3, 4, 9], cnd := [9], frz := [4], pro := [], imp := [] }
  | 31 => { keep := [0, 1, 4], cnd := [], frz := [], pro := [], imp := [] }
  | 32 => { keep := [0, 1, 3], cnd := [], frz := [], pro := [], imp := [] }
  | 33 => { keep := [0, 1, 4, 5, 6, 7, 18], cnd := [18], frz := [6, 7], pro := [5], imp := [] }
  | 34 => { keep := [0, 1, 4, 5, 6, 7, 8, 9, 16, 17, 18, 19, 30], cnd := [19, 30], frz := [6, 7, 8, 9], pro := [], imp := [] }
  | 35 => { keep := [0, 2, 14], cnd := [14], frz := [], pro := [], imp := [] }
  | 36 => { keep := [0, 1, 2, 3, 12], cnd := [12], frz := [], pro := [], imp := [] }
  | 37 => { keep := [0, 1, 2, 3, 17], cnd := [17], frz := [3], pro := [], imp := [] }
  | 38 => { keep := [0, 1, 4, 5, 6, 7, 22, 28, 38], cnd := [22, 28, 38], frz := [6, 7], pro := [], imp := [] }
  | 39 => { keep := [0, 1, 4, 5, 6, 7, 8, 9, 20, 30, 44], cnd := [20, 30, 44], frz := [6, 7, 8, 9], pro := [], imp := [] }
  | 40 => { keep := [0, 1, 2, 3, 4, 8, 11, 20], cnd := [8, 11, 20], frz := [4], pro := [], imp := [] }
  | 41 => { keep := [0, 2, 3, 4, 5, 12], cnd := [12], frz := [5], pro := [], imp := [] }
  | 42 => { keep := [0, 2], cnd := [], frz := [], pro := [], imp := [] }
  | 43 => { keep := [0, 1, 4, 5, 7, 8, 9, 16], cnd := [9, 16], frz := [], pro := [], imp := [] }
  | 44 => { keep := [0, 1, 4, 5, 6, 7, 8, 9, 10, 11, 12, 13, 14, 18, 23, 64, 97], cnd := [18, 23, 64, 97], frz := [0, 1, 7, 8, 9, 12, 13, 14], pro := [], imp := [] }
  | 45 => { keep := [0, 1, 4], cnd := [], frz := [], pro := [], imp := [] }
  | 46 => { keep := [0, 1, 2, 6, 7, 8, 13, 15, 18, 19, 20, 27], cnd := [13, 15, 20, 27], frz := [], pro := [], imp := [] }
  | 47 => { keep := [0, 1, 4], cnd := [], frz := [], pro := [], imp := [] }
  | 48 => { keep := [0, 1, 4, 5, 6, 12, 21, 34], cnd := [12, 21, 34], frz := [6], pro := [], imp := [] }
  | 49 => { keep := [0, 1, 4, 5], cnd := [], frz := [], pro := [], imp := [] }
  | 50 => { keep := [0, 2, 3, 9], cnd := [9], frz := [2, 3], pro := [], imp := [] }
  | 51 => { keep := [0, 1, 4, 5, 10, 15, 20, 31, 40], cnd := [10, 15, 20, 31, 40], frz := [5], pro := [], imp := [] }
  | 52 => { keep := [0, 1, 4, 5, 6, 7, 8, 13, 25, 33], cnd := [13, 25, 33], frz := [6, 7, 8], pro := [], imp := [] }
  | 53 => { keep := [0, 1, 4, 5, 7, 8, 9, 16], cnd := [9, 16], frz := [], pro := [], imp := [] }
  | 54 => { keep := [0, 1, 4, 8], cnd := [8], frz := [], pro := [], imp := [] }
  | 55 => { keep := [0, 2, 3, 4, 5, 6, 9, 10, 11, 12, 13, 29], cnd := [9, 13, 29], frz := [4, 5, 6], pro := [3], imp := [71] }
  | 56 => { keep := [0, 2, 3, 4, 5, 6, 8, 9, 10, 30, 39, 44, 47, 48, 49, 50, 56, 66], cnd := [30, 39, 44, 50, 56, 66], frz := [0, 4, 5, 8], pro := [], imp := [] }
  | 57 => { keep := [0, 1, 2, 3, 4, 10, 11, 12, 19, 26, 34], cnd := [12, 19, 26, 34], frz := [12, 19, 26, 34], pro := [], imp := [] }
  | 58 => { keep := [0, 2], cnd := [], frz := [], pro := [], imp := [] }
  | 59 => { keep := [0, 1, 4, 5, 10, 21, 32], cnd := [10, 21, 32], frz := [5], pro := [], imp := [] }
  | 60 => { keep := [0, 2, 4], cnd := [4], frz := [], pro := [], imp := [] }
  | 61 => { keep := [0, 1, 4, 5, 6, 7, 8, 13, 14, 15, 28], cnd := [15, 28], frz := [6, 7, 8], pro := [], imp := [] }
  | 62 => { keep := [0, 1, 4, 7], cnd := [7], frz := [], pro := [], imp := [] }
  | 63 => { keep := [0, 1, 4, 13], cnd := [13], frz := [], pro := [], imp := [] }
  | 64 => { keep := [0, 1, 4, 16], cnd := [16], frz := [], pro := [], imp := [] }
  | 65 => { keep := [0, 2, 3, 4, 5, 9, 16], cnd := [9, 16], frz := [4, 5], pro := [], imp := [] }
  | 66 => { keep := [0, 1, 4, 7, 12], cnd := [7, 12], frz := [], pro := [], imp := [] }
  | 67 => { keep := [0, 1, 4, 7, 15], cnd := [7, 15], frz := [], pro := [], imp := [] }
  | 68 => { keep := [0, 1, 4, 5, 6, 9, 18], cnd := [9, 18], frz := [5], pro := [], imp := [] }
  | 69 => { keep := [0, 1, 4, 5, 6, 9, 17, 26], cnd := [9, 17, 26], frz := [5, 6], pro := [], imp := [] }
  | 70 => { keep := [0, 1, 4, 5, 9], cnd := [9], frz := [], pro := [], imp := [] }
  | 71 => { keep := [0, 2], cnd := [], frz := [], pro := [], imp := [84] }
  | 78 => { keep := [0, 2], cnd := [], frz := [], pro := [], imp := [] }
  | 79 => { keep := [0, 1, 4], cnd := [], frz := [], pro := [], imp := [] }
  | 80 => { keep := [0, 1, 4], cnd := [], frz := [], pro := [], imp := [] }
  | 84 => { keep := [0, 2, 3, 9], cnd := [9], frz := [2, 3], pro := [], imp := [] }
  | 95 => { keep := [0, 2], cnd := [], frz := [], pro := [], imp := [] }
  | 102 => { keep := [0, 1, 4], cnd := [], frz := [], pro := [], imp := [] }
  | 104 => { keep := [0, 2], cnd := [], frz := [], pro := [], imp := [] }
  | _ => { keep := [], cnd := [], frz := [], pro := [], imp := [] }
def okL : List FuncId := [3, 4, 5, 6, 7, 8, 9, 10, 11, 12, 13, 14, 15, 16, 17, 18, 19, 20, 21, 22, 23, 24, 25, 26, 27, 28, 29, 30, 31, 32, 33, 34, 35, 36, 37, 38, 39, 40, 41, 42, 43, 44, 45, 46, 47, 48, 49, 50, 51, 52, 53, 54, 55, 56, 57, 58, 59, 60, 61, 62, 63, 64, 65, 66, 67, 68, 69, 70, 71, 78, 79, 80, 84, 95, 102, 104]
noncomputable abbrev Cx (H : FuncId → Option (List V → Option V)) : Ctx := { P := Tryz.prog, ok := okL, hint := h0, hand := H }
theorem good : ∀ g ∈ okL, GoodF Tryz.prog g := by
  intro g hg
  simp only [okL, List.mem_cons, List.not_mem_nil, or_false] at hg
  rcases hg with rfl | rfl | rfl | rfl | rfl | rfl | rfl | rfl | rfl | rfl | rfl | rfl | rfl | rfl | rfl | rfl | rfl | rfl | rfl | rfl | rfl | rfl | rfl | rfl | rfl | rfl | rfl | rfl | rfl | rfl | rfl | rfl | rfl | rfl | rfl | rfl | rfl | rfl | rfl | rfl | rfl | rfl | rfl | rfl | rfl | rfl | rfl | rfl | rfl | rfl | rfl | rfl | rfl | rfl | rfl | rfl | rfl | rfl | rfl | rfl | rfl | rfl | rfl | rfl | rfl | rfl | rfl | rfl | rfl | rfl | rfl | rfl | rfl | rfl | rfl | rfl
  · exact ⟨Tryz.f3, _, Tryz.func3, by decide, rfl⟩
  · exact ⟨Tryz.f4, _, Tryz.func4, by decide, rfl⟩
  · exact ⟨Tryz.f5, _, Tryz.func5, by decide, rfl⟩
  · exact ⟨Tryz.f6, _, Tryz.func6, by decide, rfl⟩
  · exact ⟨Tryz.f7, _, Tryz.func7, by decide, rfl⟩
  · exact ⟨Tryz.f8, _, Tryz.func8, by decide, rfl⟩
  · exact ⟨Tryz.f9, _, Tryz.func9, by decide, rfl⟩
  · exact ⟨Tryz.f10, _, Tryz.func10, by decide, rfl⟩
  · exact ⟨Tryz.f11, _, Tryz.func11, by decide, rfl⟩
  · exact ⟨Tryz.f12, _, Tryz.func12, by decide, rfl⟩
  · exact ⟨Tryz.f13, _, Tryz.func13, by decide, rfl⟩
  · exact ⟨Tryz.f14, _, Tryz.func14, by decide, rfl⟩
  · exact ⟨Tryz.f15, _, Tryz.func15, by decide, rfl⟩
  · exact ⟨Tryz.f16, _, Tryz.func16, by decide, rfl⟩
  · exact ⟨Tryz.f17, _, Tryz.func17, by decide, rfl⟩
  · exact ⟨Tryz.f18, _, Tryz.func18, by decide, rfl⟩
  · exact ⟨Tryz.f19, _, Tryz.func19, by decide, rfl⟩
  · exact ⟨Tryz.f20, _, Tryz.func20, by decide, rfl⟩
  · exact ⟨Tryz.f21, _, Tryz.func21, by decide, rfl⟩
  · exact ⟨Tryz.f22, _, Tryz.func22, by decide, rfl⟩
  · exact ⟨Tryz.f23, _, Tryz.func23, by decide, rfl⟩
  · exact ⟨Tryz.f24, _, Tryz.func24, by decide, rfl⟩
  · exact ⟨Tryz.f25, _, Tryz.func25, by decide, rfl⟩
  · exact ⟨Tryz.f26, _, Tryz.func26, by decide, rfl⟩
  · exact ⟨Tryz.f27, _, Tryz.func27, by decide, rfl⟩
  · exact ⟨Tryz.f28, _, Tryz.func28, by decide, rfl⟩
  · exact ⟨Tryz.f29, _, Tryz.func29, by decide, rfl⟩
  · exact ⟨Tryz.f30, _, Tryz.func30, by decide, rfl⟩
  · exact ⟨Tryz.f31, _, Tryz.func31, by decide, rfl⟩
  · exact ⟨Tryz.f32, _, Tryz.func32, by decide, rfl⟩
  · exact ⟨Tryz.f33, _, Tryz.func33, by decide, rfl⟩
  · exact ⟨Tryz.f34, _, Tryz.func34, by decide, rfl⟩
  · exact ⟨Tryz.f35, _, Tryz.func35, by decide, rfl⟩
  · exact ⟨Tryz.f36, _, Tryz.func36, by decide, rfl⟩
  · exact ⟨Tryz.f37, _, Tryz.func37, by decide, rfl⟩
  · exact ⟨Tryz.f38, _, Tryz.func38, by decide, rfl⟩
  · exact ⟨Tryz.f39, _, Tryz.func39, by decide, rfl⟩
  · exact ⟨Tryz.f40, _, Tryz.func40, by decide, rfl⟩
  · exact ⟨Tryz.f41, _, Tryz.func41, by decide, rfl⟩
  · exact ⟨Tryz.f42, _, Tryz.func42, by decide, rfl⟩
  · exact ⟨Tryz.f43, _, Tryz.func43, by decide, rfl⟩
  · exact ⟨Tryz.f44, _, Tryz.func44, by decide, rfl⟩
  · exact ⟨Tryz.f45, _, Tryz.func45, by decide, rfl⟩
  · exact ⟨Tryz.f46, _, Tryz.func46, by decide, rfl⟩
  · exact ⟨Tryz.f47, _, Tryz.func47, by decide, rfl⟩
  · exact ⟨Tryz.f48, _, Tryz.func48, by decide, rfl⟩
  · exact ⟨Tryz.f49, _, Tryz.func49, by decide, rfl⟩
  · exact ⟨Tryz.f50, _, Tryz.func50, by decide, rfl⟩
  · exact ⟨Tryz.f51, _, Tryz.func51, by decide, rfl⟩
  · exact ⟨Tryz.f52, _, Tryz.func52, by decide, rfl⟩
  · exact ⟨Tryz.f53, _, Tryz.func53, by decide, rfl⟩
  · exact ⟨Tryz.f54, _, Tryz.func54, by decide, rfl⟩
  · exact ⟨Tryz.f55, _, Tryz.func55, by decide, rfl⟩
  · exact ⟨Tryz.f56, _, Tryz.func56, by decide, rfl⟩
  · exact ⟨Tryz.f57, _, Tryz.func57, by decide, rfl⟩
  · exact ⟨Tryz.f58, _, Tryz.func58, by decide, rfl⟩
  · exact ⟨Tryz.f59, _, Tryz.func59, by decide, rfl⟩
  · exact ⟨Tryz.f60, _, Tryz.func60, by decide, rfl⟩
  · exact ⟨Tryz.f61, _, Tryz.func61, by decide, rfl⟩
  · exact ⟨Tryz.f62, _, Tryz.func62, by decide, rfl⟩
  · exact ⟨Tryz.f63, _, Tryz.func63, by decide, rfl⟩
  · exact ⟨Tryz.f64, _, Tryz.func64, by decide, rfl⟩
  · exact ⟨Tryz.f65, _, Tryz.func65, by decide, rfl⟩
  · exact ⟨Tryz.f66, _, Tryz.func66, by decide, rfl⟩
  · exact ⟨Tryz.f67, _, Tryz.func67, by decide, rfl⟩
  · exact ⟨Tryz.f68, _, Tryz.func68, by decide, rfl⟩
  · exact ⟨Tryz.f69, _, Tryz.func69, by decide, rfl⟩
  · exact ⟨Tryz.f70, _, Tryz.func70, by decide, rfl⟩
  · exact ⟨Tryz.f71, _, Tryz.func71, by decide, rfl⟩
  · exact ⟨Tryz.f78, _, Tryz.func78, by decide, rfl⟩
  · exact ⟨Tryz.f79, _, Tryz.func79, by decide, rfl⟩
  · exact ⟨Tryz.f80, _, Tryz.func80, by decide, rfl⟩
  · exact ⟨Tryz.f84, _, Tryz.func84, by decide, rfl⟩
  · exact ⟨Tryz.f95, _, Tryz.func95, by decide, rfl⟩
  · exact ⟨Tryz.f102, _, Tryz.func102, by decide, rfl⟩
  · exact ⟨Tryz.f104, _, Tryz.func104, by decide, rfl⟩
theorem mixed : Tryz.prog.follows .mixedOrders = true := by kernel_rfl
/-- chiasmus/chiasmuslaw08.ArithDigits -/
noncomputable abbrev M303 (H : FuncId → Option (List V → Option V)) (n : Nat) : Mc := mcOf (Cx H) 3 Tryz.f3 n
theorem m303 (H n) : (M303 H n).E.keep = [0, 1, 2, 6, 7, 8, 9, 10, 11, 12, 13, 14, 15, 16, 25, 47] ∧ (M303 H n).E.cnd = [25, 47] ∧ (M303 H n).E.frz = [7, 8, 9, 10, 11, 12, 13, 14, 15, 16] ∧ (M303 H n).E.pro = [] ∧ (M303 H n).E.imp = [] ∧ (M303 H n).E.n = 98 ∧ (M303 H n).E.lvl = 0 ∧ (M303 H n).E.P = Tryz.prog ∧ (M303 H n).fuel = n ∧ (M303 H n).C = H ∧ (M303 H n).E.ok = okL := ⟨rfl, rfl, rfl, rfl, rfl, rfl, rfl, rfl, rfl, rfl, rfl⟩
noncomputable abbrev c303 : Code := Tryz.f3.body.getD .skip
theorem s303 {H} (hH : SoundHand Tryz.prog (hand H)) {args out} (n : Nat) (hl : args.length ≤ 98) (hp : match out with | .ret v => pureR v = true | .pan v => pureR v = true) (h : Fin (M303 (hand H) n) Tryz.f3.results.toList (R (M303 (hand H) n) c303 .top ⟨params 0 args, [], fun _ => none, 0⟩) = some out) : SoundPure Tryz.prog 3 args out := sound_of (C := Cx (hand H)) hH good mixed Tryz.func3 rfl hl hp h
/-- chiasmus/chiasmuslaw08.short -/
noncomputable abbrev M9 (H : FuncId → Option (List V → Option V)) (n : Nat) : Mc := mcOf (Cx H) 4 Tryz.f4 n
theorem m9 (H n) : (M9 H n).E.keep = [0, 2] ∧ (M9 H n).E.cnd = [] ∧ (M9 H n).E.frz = [] ∧ (M9 H n).E.pro = [] ∧ (M9 H n).E.imp = [] ∧ (M9 H n).E.n = 6 ∧ (M9 H n).E.lvl = 0 ∧ (M9 H n).E.P = Tryz.prog ∧ (M9 H n).fuel = n ∧ (M9 H n).C = H ∧ (M9 H n).E.ok = okL := ⟨rfl, rfl, rfl, rfl, rfl, rfl, rfl, rfl, rfl, rfl, rfl⟩
noncomputable abbrev c9 : Code := Tryz.f4.body.getD .skip
theorem s9 {H} (hH : SoundHand Tryz.prog (hand H)) {args out} (n : Nat) (hl : args.length ≤ 6) (hp : match out with | .ret v => pureR v = true | .pan v => pureR v = true) (h : Fin (M9 (hand H) n) Tryz.f4.results.toList (R (M9 (hand H) n) c9 .top ⟨params 0 args, [], fun _ => none, 0⟩) = some out) : SoundPure Tryz.prog 4 args out := sound_of (C := Cx (hand H)) hH good mixed Tryz.func4 rfl hl hp h
/-- chiasmus/chiasmuslaw08.awake -/
noncomputable abbrev M10 (H : FuncId → Option (List V → Option V)) (n : Nat) : Mc := mcOf (Cx H) 5 Tryz.f5 n
theorem m10 (H n) : (M10 H n).E.keep = [0, 1, 2, 3, 4, 5] ∧ (M10 H n).E.cnd = [] ∧ (M10 H n).E.frz = [1, 2, 3, 4, 5] ∧ (M10 H n).E.pro = [] ∧ (M10 H n).E.imp = [] ∧ (M10 H n).E.n = 37 ∧ (M10 H n).E.lvl = 0 ∧ (M10 H n).E.P = Tryz.prog ∧ (M10 H n).fuel = n ∧ (M10 H n).C = H ∧ (M10 H n).E.ok = okL := ⟨rfl, rfl, rfl, rfl, rfl, rfl, rfl, rfl, rfl, rfl, rfl⟩
noncomputable abbrev c10 : Code := Tryz.f5.body.getD .skip
theorem s10 {H} (hH : SoundHand Tryz.prog (hand H)) {args out} (n : Nat) (hl : args.length ≤ 37) (hp : match out with | .ret v => pureR v = true | .pan v => pureR v = true) (h : Fin (M10 (hand H) n) Tryz.f5.results.toList (R (M10 (hand H) n) c10 .top ⟨params 0 args, [], fun _ => none, 0⟩) = some out) : SoundPure Tryz.prog 5 args out := sound_of (C := Cx (hand H)) hH good mixed Tryz.func5 rfl hl hp h
/-- chiasmus/arith.Digits -/
noncomputable abbrev M36 (H : FuncId → Option (List V → Option V)) (n : Nat) : Mc := mcOf (Cx H) 6 Tryz.f6 n
theorem m36 (H n) : (M36 H n).E.keep = [0, 1, 4, 5, 6, 7, 8, 17, 21] ∧ (M36 H n).E.cnd = [17, 21] ∧ (M36 H n).E.frz = [6, 8] ∧ (M36 H n).E.pro = [7] ∧ (M36 H n).E.imp = [25] ∧ (M36 H n).E.n = 34 ∧ (M36 H n).E.lvl = 0 ∧ (M36 H n).E.P = Tryz.prog ∧ (M36 H n).fuel = n ∧ (M36 H n).C = H ∧ (M36 H n).E.ok = okL := ⟨rfl, rfl, rfl, rfl, rfl, rfl, rfl, rfl, rfl, rfl, rfl⟩
noncomputable abbrev c36 : Code := Tryz.f6.body.getD .skip
/-- chiasmus/chiasmusref08.Digits -/
noncomputable abbrev M307 (H : FuncId → Option (List V → Option V)) (n : Nat) : Mc := mcOf (Cx H) 7 Tryz.f7 n
theorem m307 (H n) : (M307 H n).E.keep = [0, 1, 4, 5, 6, 7, 8, 9, 12, 18, 24, 29] ∧ (M307 H n).E.cnd = [12, 18, 24, 29] ∧ (M307 H n).E.frz = [6, 8, 9] ∧ (M307 H n).E.pro = [] ∧ (M307 H n).E.imp = [] ∧ (M307 H n).E.n = 44 ∧ (M307 H n).E.lvl = 0 ∧ (M307 H n).E.P = Tryz.prog ∧ (M307 H n).fuel = n ∧ (M307 H n).C = H ∧ (M307 H n).E.ok = okL := ⟨rfl, rfl, rfl, rfl, rfl, rfl, rfl, rfl, rfl, rfl, rfl⟩
noncomputable abbrev c307 : Code := Tryz.f7.body.getD .skip
theorem s307 {H} (hH : SoundHand Tryz.prog (hand H)) {args out} (n : Nat) (hl : args.length ≤ 44) (hp : match out with | .ret v => pureR v = true | .pan v => pureR v = true) (h : Fin (M307 (hand H) n) Tryz.f7.results.toList (R (M307 (hand H) n) c307 .top ⟨params 0 args, [], fun _ => none, 0⟩) = some out) : SoundPure Tryz.prog 7 args out := sound_of (C := Cx (hand H)) hH good mixed Tryz.func7 rfl hl hp h
/-- slices.Equal[[]int,int] -/
noncomputable abbrev M308 (H : FuncId → Option (List V → Option V)) (n : Nat) : Mc := mcOf (Cx H) 8 Tryz.f8 n
theorem m308 (H n) : (M308 H n).E.keep = [0, 1, 4, 5, 10, 12, 13, 14, 24] ∧ (M308 H n).E.cnd = [10, 14, 24] ∧ (M308 H n).E.frz = [5] ∧ (M308 H n).E.pro = [] ∧ (M308 H n).E.imp = [] ∧ (M308 H n).E.n = 26 ∧ (M308 H n).E.lvl = 0 ∧ (M308 H n).E.P = Tryz.prog ∧ (M308 H n).fuel = n ∧ (M308 H n).C = H ∧ (M308 H n).E.ok = okL := ⟨rfl, rfl, rfl, rfl, rfl, rfl, rfl, rfl, rfl, rfl, rfl⟩
noncomputable abbrev c308 : Code := Tryz.f8.body.getD .skip
theorem s308 {H} (hH : SoundHand Tryz.prog (hand H)) {args out} (n : Nat) (hl : args.length ≤ 26) (hp : match out with | .ret v => pureR v = true | .pan v => pureR v = true) (h : Fin (M308 (hand H) n) Tryz.f8.results.toList (R (M308 (hand H) n) c308 .top ⟨params 0 args, [], fun _ => none, 0⟩) = some out) : SoundPure Tryz.prog 8 args out := sound_of (C := Cx (hand H)) hH good mixed Tryz.func8 rfl hl hp h
/-- chiasmus/arith.Number -/
noncomputable abbrev M37 (H : FuncId → Option (List V → Option V)) (n : Nat) : Mc := mcOf (Cx H) 9 Tryz.f9 n
theorem m37 (H n) : (M37 H n).E.keep = [0, 1, 3, 4, 5, 6, 8, 21, 22, 23, 24] ∧ (M37 H n).E.cnd = [24] ∧ (M37 H n).E.frz = [6, 8] ∧ (M37 H n).E.pro = [] ∧ (M37 H n).E.imp = [] ∧ (M37 H n).E.n = 43 ∧ (M37 H n).E.lvl = 0 ∧ (M37 H n).E.P = Tryz.prog ∧ (M37 H n).fuel = n ∧ (M37 H n).C = H ∧ (M37 H n).E.ok = okL := ⟨rfl, rfl, rfl, rfl, rfl, rfl, rfl, rfl, rfl, rfl, rfl⟩
noncomputable abbrev c37 : Code := Tryz.f9.body.getD .skip
/-- chiasmus/chiasmusref08.Number -/
noncomputable abbrev M310 (H : FuncId → Option (List V → Option V)) (n : Nat) : Mc := mcOf (Cx H) 10 Tryz.f10 n
theorem m310 (H n) : (M310 H n).E.keep = [0, 1, 4, 5, 6, 7, 8, 14, 17, 21, 36, 41, 59] ∧ (M310 H n).E.cnd = [14, 17, 21, 36, 41, 59] ∧ (M310 H n).E.frz = [6, 7, 8] ∧ (M310 H n).E.pro = [] ∧ (M310 H n).E.imp = [] ∧ (M310 H n).E.n = 63 ∧ (M310 H n).E.lvl = 0 ∧ (M310 H n).E.P = Tryz.prog ∧ (M310 H n).fuel = n ∧ (M310 H n).C = H ∧ (M310 H n).E.ok = okL := ⟨rfl, rfl, rfl, rfl, rfl, rfl, rfl, rfl, rfl, rfl, rfl⟩
noncomputable abbrev c310 : Code := Tryz.f10.body.getD .skip
theorem s310 {H} (hH : SoundHand Tryz.prog (hand H)) {args out} (n : Nat) (hl : args.length ≤ 63) (hp : match out with | .ret v => pureR v = true | .pan v => pureR v = true) (h : Fin (M310 (hand H) n) Tryz.f10.results.toList (R (M310 (hand H) n) c310 .top ⟨params 0 args, [], fun _ => none, 0⟩) = some out) : SoundPure Tryz.prog 10 args out := sound_of (C := Cx (hand H)) hH good mixed Tryz.func10 rfl hl hp h
/-- chiasmus/arith.Int -/
noncomputable abbrev M38 (H : FuncId → Option (List V → Option V)) (n : Nat) : Mc := mcOf (Cx H) 11 Tryz.f11 n
theorem m38 (H n) : (M38 H n).E.keep = [0, 2, 3, 4, 5, 8, 15] ∧ (M38 H n).E.cnd = [8, 15] ∧ (M38 H n).E.frz = [5] ∧ (M38 H n).E.pro = [] ∧ (M38 H n).E.imp = [] ∧ (M38 H n).E.n = 17 ∧ (M38 H n).E.lvl = 0 ∧ (M38 H n).E.P = Tryz.prog ∧ (M38 H n).fuel = n ∧ (M38 H n).C = H ∧ (M38 H n).E.ok = okL := ⟨rfl, rfl, rfl, rfl, rfl, rfl, rfl, rfl, rfl, rfl, rfl⟩
noncomputable abbrev c38 : Code := Tryz.f11.body.getD .skip
theorem s38 {H} (hH : SoundHand Tryz.prog (hand H)) {args out} (n : Nat) (hl : args.length ≤ 17) (hp : match out with | .ret v => pureR v = true | .pan v => pureR v = true) (h : Fin (M38 (hand H) n) Tryz.f11.results.toList (R (M38 (hand H) n) c38 .top ⟨params 0 args, [], fun _ => none, 0⟩) = some out) : SoundPure Tryz.prog 11 args out := sound_of (C := Cx (hand H)) hH good mixed Tryz.func11 rfl hl hp h
/-- chiasmus/chiasmusref08.Int -/
noncomputable abbrev M312 (H : FuncId → Option (List V → Option V)) (n : Nat) : Mc := mcOf (Cx H) 12 Tryz.f12 n
theorem m312 (H n) : (M312 H n).E.keep = [0, 2, 3, 4, 5, 6, 9, 12, 20, 24, 34, 37, 39, 45] ∧ (M312 H n).E.cnd = [9, 12, 20, 24, 34, 37, 39, 45] ∧ (M312 H n).E.frz = [6] ∧ (M312 H n).E.pro = [] ∧ (M312 H n).E.imp = [] ∧ (M312 H n).E.n = 47 ∧ (M312 H n).E.lvl = 0 ∧ (M312 H n).E.P = Tryz.prog ∧ (M312 H n).fuel = n ∧ (M312 H n).C = H ∧ (M312 H n).E.ok = okL := ⟨rfl, rfl, rfl, rfl, rfl, rfl, rfl, rfl, rfl, rfl, rfl⟩
noncomputable abbrev c312 : Code := Tryz.f12.body.getD .skip
theorem s312 {H} (hH : SoundHand Tryz.prog (hand H)) {args out} (n : Nat) (hl : args.length ≤ 47) (hp : match out with | .ret v => pureR v = true | .pan v => pureR v = true) (h : Fin (M312 (hand H) n) Tryz.f12.results.toList (R (M312 (hand H) n) c312 .top ⟨params 0 args, [], fun _ => none, 0⟩) = some out) : SoundPure Tryz.prog 12 args out := sound_of (C := Cx (hand H)) hH good mixed Tryz.func12 rfl hl hp h
/-- chiasmus/arith.Text -/
noncomputable abbrev M39 (H : FuncId → Option (List V → Option V)) (n : Nat) : Mc := mcOf (Cx H) 13 Tryz.f13 n
theorem m39 (H n) : (M39 H n).E.keep = [0, 2] ∧ (M39 H n).E.cnd = [] ∧ (M39 H n).E.frz = [] ∧ (M39 H n).E.pro = [] ∧ (M39 H n).E.imp = [] ∧ (M39 H n).E.n = 5 ∧ (M39 H n).E.lvl = 0 ∧ (M39 H n).E.P = Tryz.prog ∧ (M39 H n).fuel = n ∧ (M39 H n).C = H ∧ (M39 H n).E.ok = okL := ⟨rfl, rfl, rfl, rfl, rfl, rfl, rfl, rfl, rfl, rfl, rfl⟩
noncomputable abbrev c39 : Code := Tryz.f13.body.getD .skip
theorem s39 {H} (hH : SoundHand Tryz.prog (hand H)) {args out} (n : Nat) (hl : args.length ≤ 5) (hp : match out with | .ret v => pureR v = true | .pan v => pureR v = true) (h : Fin (M39 (hand H) n) Tryz.f13.results.toList (R (M39 (hand H) n) c39 .top ⟨params 0 args, [], fun _ => none, 0⟩) = some out) : SoundPure Tryz.prog 13 args out := sound_of (C := Cx (hand H)) hH good mixed Tryz.func13 rfl hl hp h
/-- chiasmus/chiasmusref08.Text -/
noncomputable abbrev M314 (H : FuncId → Option (List V → Option V)) (n : Nat) : Mc := mcOf (Cx H) 14 Tryz.f14 n
theorem m314 (H n) : (M314 H n).E.keep = [0, 2, 3, 4, 5, 7, 10, 14, 27] ∧ (M314 H n).E.cnd = [7, 10, 14, 27] ∧ (M314 H n).E.frz = [4, 5] ∧ (M314 H n).E.pro = [] ∧ (M314 H n).E.imp = [] ∧ (M314 H n).E.n = 31 ∧ (M314 H n).E.lvl = 0 ∧ (M314 H n).E.P = Tryz.prog ∧ (M314 H n).fuel = n ∧ (M314 H n).C = H ∧ (M314 H n).E.ok = okL := ⟨rfl, rfl, rfl, rfl, rfl, rfl, rfl, rfl, rfl, rfl, rfl⟩
noncomputable abbrev c314 : Code := Tryz.f14.body.getD .skip
theorem s314 {H} (hH : SoundHand Tryz.prog (hand H)) {args out} (n : Nat) (hl : args.length ≤ 31) (hp : match out with | .ret v => pureR v = true | .pan v => pureR v = true) (h : Fin (M314 (hand H) n) Tryz.f14.results.toList (R (M314 (hand H) n) c314 .top ⟨params 0 args, [], fun _ => none, 0⟩) = some out) : SoundPure Tryz.prog 14 args out := sound_of (C := Cx (hand H)) hH good mixed Tryz.func14 rfl hl hp h
/-- slices.ContainsFunc[[]string,string] -/
noncomputable abbrev M40 (H : FuncId → Option (List V → Option V)) (n : Nat) : Mc := mcOf (Cx H) 15 Tryz.f15 n
theorem m40 (H n) : (M40 H n).E.keep = [0, 1, 4] ∧ (M40 H n).E.cnd = [] ∧ (M40 H n).E.frz = [] ∧ (M40 H n).E.pro = [] ∧ (M40 H n).E.imp = [] ∧ (M40 H n).E.n = 9 ∧ (M40 H n).E.lvl = 0 ∧ (M40 H n).E.P = Tryz.prog ∧ (M40 H n).fuel = n ∧ (M40 H n).C = H ∧ (M40 H n).E.ok = okL := ⟨rfl, rfl, rfl, rfl, rfl, rfl, rfl, rfl, rfl, rfl, rfl⟩
noncomputable abbrev c40 : Code := Tryz.f15.body.getD .skip
theorem s40 {H} (hH : SoundHand Tryz.prog (hand H)) {args out} (n : Nat) (hl : args.length ≤ 9) (hp : match out with | .ret v => pureR v = true | .pan v => pureR v = true) (h : Fin (M40 (hand H) n) Tryz.f15.results.toList (R (M40 (hand H) n) c40 .top ⟨params 0 args, [], fun _ => none, 0⟩) = some out) : SoundPure Tryz.prog 15 args out := sound_of (C := Cx (hand H)) hH good mixed Tryz.func15 rfl hl hp h
/-- chiasmus/chiasmuslaw08.short$1 -/
noncomputable abbrev M41 (H : FuncId → Option (List V → Option V)) (n : Nat) : Mc := mcOf (Cx H) 16 Tryz.f16 n
theorem m41 (H n) : (M41 H n).E.keep = [0, 2] ∧ (M41 H n).E.cnd = [] ∧ (M41 H n).E.frz = [] ∧ (M41 H n).E.pro = [] ∧ (M41 H n).E.imp = [] ∧ (M41 H n).E.n = 6 ∧ (M41 H n).E.lvl = 0 ∧ (M41 H n).E.P = Tryz.prog ∧ (M41 H n).fuel = n ∧ (M41 H n).C = H ∧ (M41 H n).E.ok = okL := ⟨rfl, rfl, rfl, rfl, rfl, rfl, rfl, rfl, rfl, rfl, rfl⟩
noncomputable abbrev c41 : Code := Tryz.f16.body.getD .skip
theorem s41 {H} (hH : SoundHand Tryz.prog (hand H)) {args out} (n : Nat) (hl : args.length ≤ 6) (hp : match out with | .ret v => pureR v = true | .pan v => pureR v = true) (h : Fin (M41 (hand H) n) Tryz.f16.results.toList (R (M41 (hand H) n) c41 .top ⟨params 0 args, [], fun _ => none, 0⟩) = some out) : SoundPure Tryz.prog 16 args out := sound_of (C := Cx (hand H)) hH good mixed Tryz.func16 rfl hl hp h
/-- chiasmus/arith.Divmod -/
noncomputable abbrev M13 (H : FuncId → Option (List V → Option V)) (n : Nat) : Mc := mcOf (Cx H) 17 Tryz.f17 n
theorem m13 (H n) : (M13 H n).E.keep = [0, 1, 4, 5, 6, 7, 8, 9, 10] ∧ (M13 H n).E.cnd = [] ∧ (M13 H n).E.frz = [9, 10] ∧ (M13 H n).E.pro = [] ∧ (M13 H n).E.imp = [] ∧ (M13 H n).E.n = 41 ∧ (M13 H n).E.lvl = 0 ∧ (M13 H n).E.P = Tryz.prog ∧ (M13 H n).fuel = n ∧ (M13 H n).C = H ∧ (M13 H n).E.ok = okL := ⟨rfl, rfl, rfl, rfl, rfl, rfl, rfl, rfl, rfl, rfl, rfl⟩
noncomputable abbrev c13 : Code := Tryz.f17.body.getD .skip
theorem s13 {H} (hH : SoundHand Tryz.prog (hand H)) {args out} (n : Nat) (hl : args.length ≤ 41) (hp : match out with | .ret v => pureR v = true | .pan v => pureR v = true) (h : Fin (M13 (hand H) n) Tryz.f17.results.toList (R (M13 (hand H) n) c13 .top ⟨params 0 args, [], fun _ => none, 0⟩) = some out) : SoundPure Tryz.prog 17 args out := sound_of (C := Cx (hand H)) hH good mixed Tryz.func17 rfl hl hp h
/-- chiasmus/arith.Power -/
noncomputable abbrev M17 (H : FuncId → Option (List V → Option V)) (n : Nat) : Mc := mcOf (Cx H) 18 Tryz.f18 n
theorem m17 (H n) : (M17 H n).E.keep = [0, 1, 4, 5, 6, 7, 8] ∧ (M17 H n).E.cnd = [] ∧ (M17 H n).E.frz = [7, 8] ∧ (M17 H n).E.pro = [] ∧ (M17 H n).E.imp = [] ∧ (M17 H n).E.n = 33 ∧ (M17 H n).E.lvl = 0 ∧ (M17 H n).E.P = Tryz.prog ∧ (M17 H n).fuel = n ∧ (M17 H n).C = H ∧ (M17 H n).E.ok = okL := ⟨rfl, rfl, rfl, rfl, rfl, rfl, rfl, rfl, rfl, rfl, rfl⟩
noncomputable abbrev c17 : Code := Tryz.f18.body.getD .skip
/-- chiasmus/arith.Valid -/
noncomputable abbrev M30 (H : FuncId → Option (List V → Option V)) (n : Nat) : Mc := mcOf (Cx H) 19 Tryz.f19 n
theorem m30 (H n) : (M30 H n).E.keep = [0, 2, 4, 18] ∧ (M30 H n).E.cnd = [4, 18] ∧ (M30 H n).E.frz = [0] ∧ (M30 H n).E.pro = [] ∧ (M30 H n).E.imp = [] ∧ (M30 H n).E.n = 22 ∧ (M30 H n).E.lvl = 0 ∧ (M30 H n).E.P = Tryz.prog ∧ (M30 H n).fuel = n ∧ (M30 H n).C = H ∧ (M30 H n).E.ok = okL := ⟨rfl, rfl, rfl, rfl, rfl, rfl, rfl, rfl, rfl, rfl, rfl⟩
noncomputable abbrev c30 : Code := Tryz.f19.body.getD .skip
theorem s30 {H} (hH : SoundHand Tryz.prog (hand H)) {args out} (n : Nat) (hl : args.length ≤ 22) (hp : match out with | .ret v => pureR v = true | .pan v => pureR v = true) (h : Fin (M30 (hand H) n) Tryz.f19.results.toList (R (M30 (hand H) n) c30 .top ⟨params 0 args, [], fun _ => none, 0⟩) = some out) : SoundPure Tryz.prog 19 args out := sound_of (C := Cx (hand H)) hH good mixed Tryz.func19 rfl hl hp h
/-- chiasmus/arith.parse -/
noncomputable abbrev M50 (H : FuncId → Option (List V → Option V)) (n : Nat) : Mc := mcOf (Cx H) 21 Tryz.f21 n
theorem m50 (H n) : (M50 H n).E.keep = [0, 2, 3, 4, 5, 6, 7, 9, 21, 30, 31, 32, 33] ∧ (M50 H n).E.cnd = [21, 33] ∧ (M50 H n).E.frz = [3, 4, 6, 7, 9] ∧ (M50 H n).E.pro = [5] ∧ (M50 H n).E.imp = [] ∧ (M50 H n).E.n = 51 ∧ (M50 H n).E.lvl = 0 ∧ (M50 H n).E.P = Tryz.prog ∧ (M50 H n).fuel = n ∧ (M50 H n).C = H ∧ (M50 H n).E.ok = okL := ⟨rfl, rfl, rfl, rfl, rfl, rfl, rfl, rfl, rfl, rfl, rfl⟩
noncomputable abbrev c50 : Code := Tryz.f21.body.getD .skip
/-- chiasmus/arith.ask -/
noncomputable abbrev M51 (H : FuncId → Option (List V → Option V)) (n : Nat) : Mc := mcOf (Cx H) 22 Tryz.f22 n
theorem m51 (H n) : (M51 H n).E.keep = [0, 1, 5] ∧ (M51 H n).E.cnd = [5] ∧ (M51 H n).E.frz = [] ∧ (M51 H n).E.pro = [] ∧ (M51 H n).E.imp = [] ∧ (M51 H n).E.n = 9 ∧ (M51 H n).E.lvl = 0 ∧ (M51 H n).E.P = Tryz.prog ∧ (M51 H n).fuel = n ∧ (M51 H n).C = H ∧ (M51 H n).E.ok = okL := ⟨rfl, rfl, rfl, rfl, rfl, rfl, rfl, rfl, rfl, rfl, rfl⟩
noncomputable abbrev c51 : Code := Tryz.f22.body.getD .skip
theorem s51 {H} (hH : SoundHand Tryz.prog (hand H)) {args out} (n : Nat) (hl : args.length ≤ 9) (hp : match out with | .ret v => pureR v = true | .pan v => pureR v = true) (h : Fin (M51 (hand H) n) Tryz.f22.results.toList (R (M51 (hand H) n) c51 .top ⟨params 0 args, [], fun _ => none, 0⟩) = some out) : SoundPure Tryz.prog 22 args out := sound_of (C := Cx (hand H)) hH good mixed Tryz.func22 rfl hl hp h
/-- chiasmus/arith.based -/
noncomputable abbrev M73 (H : FuncId → Option (List V → Option V)) (n : Nat) : Mc := mcOf (Cx H) 23 Tryz.f23 n
theorem m73 (H n) : (M73 H n).E.keep = [0, 2] ∧ (M73 H n).E.cnd = [] ∧ (M73 H n).E.frz = [] ∧ (M73 H n).E.pro = [] ∧ (M73 H n).E.imp = [] ∧ (M73 H n).E.n = 9 ∧ (M73 H n).E.lvl = 0 ∧ (M73 H n).E.P = Tryz.prog ∧ (M73 H n).fuel = n ∧ (M73 H n).C = H ∧ (M73 H n).E.ok = okL := ⟨rfl, rfl, rfl, rfl, rfl, rfl, rfl, rfl, rfl, rfl, rfl⟩
noncomputable abbrev c73 : Code := Tryz.f23.body.getD .skip
theorem s73 {H} (hH : SoundHand Tryz.prog (hand H)) {args out} (n : Nat) (hl : args.length ≤ 9) (hp : match out with | .ret v => pureR v = true | .pan v => pureR v = true) (h : Fin (M73 (hand H) n) Tryz.f23.results.toList (R (M73 (hand H) n) c73 .top ⟨params 0 args, [], fun _ => none, 0⟩) = some out) : SoundPure Tryz.prog 23 args out := sound_of (C := Cx (hand H)) hH good mixed Tryz.func23 rfl hl hp h
/-- chiasmus/arith.small -/
noncomputable abbrev M74 (H : FuncId → Option (List V → Option V)) (n : Nat) : Mc := mcOf (Cx H) 24 Tryz.f24 n
theorem m74 (H n) : (M74 H n).E.keep = [0, 1, 4, 5, 6, 7, 8, 16] ∧ (M74 H n).E.cnd = [16] ∧ (M74 H n).E.frz = [8] ∧ (M74 H n).E.pro = [] ∧ (M74 H n).E.imp = [] ∧ (M74 H n).E.n = 38 ∧ (M74 H n).E.lvl = 0 ∧ (M74 H n).E.P = Tryz.prog ∧ (M74 H n).fuel = n ∧ (M74 H n).C = H ∧ (M74 H n).E.ok = okL := ⟨rfl, rfl, rfl, rfl, rfl, rfl, rfl, rfl, rfl, rfl, rfl⟩
noncomputable abbrev c74 : Code := Tryz.f24.body.getD .skip
theorem s74 {H} (hH : SoundHand Tryz.prog (hand H)) {args out} (n : Nat) (hl : args.length ≤ 38) (hp : match out with | .ret v => pureR v = true | .pan v => pureR v = true) (h : Fin (M74 (hand H) n) Tryz.f24.results.toList (R (M74 (hand H) n) c74 .top ⟨params 0 args, [], fun _ => none, 0⟩) = some out) : SoundPure Tryz.prog 24 args out := sound_of (C := Cx (hand H)) hH good mixed Tryz.func24 rfl hl hp h
noncomputable abbrev c75 : Code := Tryz.f25.body.getD .skip
/-- chiasmus/chiasmusref08.Valid -/
noncomputable abbrev M31 (H : FuncId → Option (List V → Option V)) (n : Nat) : Mc := mcOf (Cx H) 26 Tryz.f26 n
theorem m31 (H n) : (M31 H n).E.keep = [0, 2, 3, 11, 15, 33, 37, 49] ∧ (M31 H n).E.cnd = [11, 15, 33, 37, 49] ∧ (M31 H n).E.frz = [0, 3] ∧ (M31 H n).E.pro = [] ∧ (M31 H n).E.imp = [] ∧ (M31 H n).E.n = 50 ∧ (M31 H n).E.lvl = 0 ∧ (M31 H n).E.P = Tryz.prog ∧ (M31 H n).fuel = n ∧ (M31 H n).C = H ∧ (M31 H n).E.ok = okL := ⟨rfl, rfl, rfl, rfl, rfl, rfl, rfl, rfl, rfl, rfl, rfl⟩
noncomputable abbrev c31 : Code := Tryz.f26.body.getD .skip
theorem s31 {H} (hH : SoundHand Tryz.prog (hand H)) {args out} (n : Nat) (hl : args.length ≤ 50) (hp : match out with | .ret v => pureR v = true | .pan v => pureR v = true) (h : Fin (M31 (hand H) n) Tryz.f26.results.toList (R (M31 (hand H) n) c31 .top ⟨params 0 args, [], fun _ => none, 0⟩) = some out) : SoundPure Tryz.prog 26 args out := sound_of (C := Cx (hand H)) hH good mixed Tryz.func26 rfl hl hp h
/-- chiasmus/chiasmusref08.of -/
noncomputable abbrev M45 (H : FuncId → Option (List V → Option V)) (n : Nat) : Mc := mcOf (Cx H) 27 Tryz.f27 n
theorem m45 (H n) : (M45 H n).E.keep = [0, 2, 3, 4, 8, 16] ∧ (M45 H n).E.cnd = [8, 16] ∧ (M45 H n).E.frz = [0, 4] ∧ (M45 H n).E.pro = [] ∧ (M45 H n).E.imp = [] ∧ (M45 H n).E.n = 31 ∧ (M45 H n).E.lvl = 0 ∧ (M45 H n).E.P = Tryz.prog ∧ (M45 H n).fuel = n ∧ (M45 H n).C = H ∧ (M45 H n).E.ok = okL := ⟨rfl, rfl, rfl, rfl, rfl, rfl, rfl, rfl, rfl, rfl, rfl⟩
noncomputable abbrev c45 : Code := Tryz.f27.body.getD .skip
theorem s45 {H} (hH : SoundHand Tryz.prog (hand H)) {args out} (n : Nat) (hl : args.length ≤ 31) (hp : match out with | .ret v => pureR v = true | .pan v => pureR v = true) (h : Fin (M45 (hand H) n) Tryz.f27.results.toList (R (M45 (hand H) n) c45 .top ⟨params 0 args, [], fun _ => none, 0⟩) = some out) : SoundPure Tryz.prog 27 args out := sound_of (C := Cx (hand H)) hH good mixed Tryz.func27 rfl hl hp h
/-- chiasmus/chiasmusref08.divided -/
noncomputable abbrev M55 (H : FuncId → Option (List V → Option V)) (n : Nat) : Mc := mcOf (Cx H) 28 Tryz.f28 n
theorem m55 (H n) : (M55 H n).E.keep = [0, 1, 4, 5, 6, 7, 8, 17, 33] ∧ (M55 H n).E.cnd = [17, 33] ∧ (M55 H n).E.frz = [8] ∧ (M55 H n).E.pro = [] ∧ (M55 H n).E.imp = [] ∧ (M55 H n).E.n = 51 ∧ (M55 H n).E.lvl = 0 ∧ (M55 H n).E.P = Tryz.prog ∧ (M55 H n).fuel = n ∧ (M55 H n).C = H ∧ (M55 H n).E.ok = okL := ⟨rfl, rfl, rfl, rfl, rfl, rfl, rfl, rfl, rfl, rfl, rfl⟩
noncomputable abbrev c55 : Code := Tryz.f28.body.getD .skip
theorem s55 {H} (hH : SoundHand Tryz.prog (hand H)) {args out} (n : Nat) (hl : args.length ≤ 51) (hp : match out with | .ret v => pureR v = true | .pan v => pureR v = true) (h : Fin (M55 (hand H) n) Tryz.f28.results.toList (R (M55 (hand H) n) c55 .top ⟨params 0 args, [], fun _ => none, 0⟩) = some out) : SoundPure Tryz.prog 28 args out := sound_of (C := Cx (hand H)) hH good mixed Tryz.func28 rfl hl hp h
/-- chiasmus/chiasmusref08.small -/
noncomputable abbrev M329 (H : FuncId → Option (List V → Option V)) (n : Nat) : Mc := mcOf (Cx H) 29 Tryz.f29 n
theorem m329 (H n) : (M329 H n).E.keep = [0, 2, 3, 6] ∧ (M329 H n).E.cnd = [6] ∧ (M329 H n).E.frz = [0] ∧ (M329 H n).E.pro = [] ∧ (M329 H n).E.imp = [] ∧ (M329 H n).E.n = 15 ∧ (M329 H n).E.lvl = 0 ∧ (M329 H n).E.P = Tryz.prog ∧ (M329 H n).fuel = n ∧ (M329 H n).C = H ∧ (M329 H n).E.ok = okL := ⟨rfl, rfl, rfl, rfl, rfl, rfl, rfl, rfl, rfl, rfl, rfl⟩
noncomputable abbrev c329 : Code := Tryz.f29.body.getD .skip
theorem s329 {H} (hH : SoundHand Tryz.prog (hand H)) {args out} (n : Nat) (hl : args.length ≤ 15) (hp : match out with | .ret v => pureR v = true | .pan v => pureR v = true) (h : Fin (M329 (hand H) n) Tryz.f29.results.toList (R (M329 (hand H) n) c329 .top ⟨params 0 args, [], fun _ => none, 0⟩) = some out) : SoundPure Tryz.prog 29 args out := sound_of (C := Cx (hand H)) hH good mixed Tryz.func29 rfl hl hp h
/-- chiasmus/chiasmusref08.value -/
noncomputable abbrev M330 (H : FuncId → Option (List V → Option V)) (n : Nat) : Mc := mcOf (Cx H) 30 Tryz.f30 n
theorem m330 (H n) : (M330 H n).E.keep = [0, 2, 3, 4, 9] ∧ (M330 H n).E.cnd = [9] ∧ (M330 H n).E.frz = [4] ∧ (M330 H n).E.pro = [] ∧ (M330 H n).E.imp = [] ∧ (M330 H n).E.n = 20 ∧ (M330 H n).E.lvl = 0 ∧ (M330 H n).E.P = Tryz.prog ∧ (M330 H n).fuel = n ∧ (M330 H n).C = H ∧ (M330 H n).E.ok = okL := ⟨rfl, rfl, rfl, rfl, rfl, rfl, rfl, rfl, rfl, rfl, rfl⟩
noncomputable abbrev c330 : Code := Tryz.f30.body.getD .skip
theorem s330 {H} (hH : SoundHand Tryz.prog (hand H)) {args out} (n : Nat) (hl : args.length ≤ 20) (hp : match out with | .ret v => pureR v = true | .pan v => pureR v = true) (h : Fin (M330 (hand H) n) Tryz.f30.results.toList (R (M330 (hand H) n) c330 .top ⟨params 0 args, [], fun _ => none, 0⟩) = some out) : SoundPure Tryz.prog 30 args out := sound_of (C := Cx (hand H)) hH good mixed Tryz.func30 rfl hl hp h
/-- slices.ContainsFunc[[]int,int] -/
noncomputable abbrev M76 (H : FuncId → Option (List V → Option V)) (n : Nat) : Mc := mcOf (Cx H) 31 Tryz.f31 n
theorem m76 (H n) : (M76 H n).E.keep = [0, 1, 4] ∧ (M76 H n).E.cnd = [] ∧ (M76 H n).E.frz = [] ∧ (M76 H n).E.pro = [] ∧ (M76 H n).E.imp = [] ∧ (M76 H n).E.n = 9 ∧ (M76 H n).E.lvl = 0 ∧ (M76 H n).E.P = Tryz.prog ∧ (M76 H n).fuel = n ∧ (M76 H n).C = H ∧ (M76 H n).E.ok = okL := ⟨rfl, rfl, rfl, rfl, rfl, rfl, rfl, rfl, rfl, rfl, rfl⟩
noncomputable abbrev c76 : Code := Tryz.f31.body.getD .skip
theorem s76 {H} (hH : SoundHand Tryz.prog (hand H)) {args out} (n : Nat) (hl : args.length ≤ 9) (hp : match out with | .ret v => pureR v = true | .pan v => pureR v = true) (h : Fin (M76 (hand H) n) Tryz.f31.results.toList (R (M76 (hand H) n) c76 .top ⟨params 0 args, [], fun _ => none, 0⟩) = some out) : SoundPure Tryz.prog 31 args out := sound_of (C := Cx (hand H)) hH good mixed Tryz.func31 rfl hl hp h
/-- chiasmus/arith.Number$1 -/
noncomputable abbrev M77 (H : FuncId → Option (List V → Option V)) (n : Nat) : Mc := mcOf (Cx H) 32 Tryz.f32 n
theorem m77 (H n) : (M77 H n).E.keep = [0, 1, 3] ∧ (M77 H n).E.cnd = [] ∧ (M77 H n).E.frz = [] ∧ (M77 H n).E.pro = [] ∧ (M77 H n).E.imp = [] ∧ (M77 H n).E.n = 11 ∧ (M77 H n).E.lvl = 0 ∧ (M77 H n).E.P = Tryz.prog ∧ (M77 H n).fuel = n ∧ (M77 H n).C = H ∧ (M77 H n).E.ok = okL := ⟨rfl, rfl, rfl, rfl, rfl, rfl, rfl, rfl, rfl, rfl, rfl⟩
noncomputable abbrev c77 : Code := Tryz.f32.body.getD .skip
theorem s77 {H} (hH : SoundHand Tryz.prog (hand H)) {args out} (n : Nat) (hl : args.length ≤ 11) (hp : match out with | .ret v => pureR v = true | .pan v => pureR v = true) (h : Fin (M77 (hand H) n) Tryz.f32.results.toList (R (M77 (hand H) n) c77 .top ⟨params 0 args, [], fun _ => none, 0⟩) = some out) : SoundPure Tryz.prog 32 args out := sound_of (C := Cx (hand H)) hH good mixed Tryz.func32 rfl hl hp h
/-- chiasmus/arith.plus -/
noncomputable abbrev M78 (H : FuncId → Option (List V → Option V)) (n : Nat) : Mc := mcOf (Cx H) 33 Tryz.f33 n
theorem m78 (H n) : (M78 H n).E.keep = [0, 1, 4, 5, 6, 7, 18] ∧ (M78 H n).E.cnd = [18] ∧ (M78 H n).E.frz = [6, 7] ∧ (M78 H n).E.pro = [5] ∧ (M78 H n).E.imp = [] ∧ (M78 H n).E.n = 39 ∧ (M78 H n).E.lvl = 0 ∧ (M78 H n).E.P = Tryz.prog ∧ (M78 H n).fuel = n ∧ (M78 H n).C = H ∧ (M78 H n).E.ok = okL := ⟨rfl, rfl, rfl, rfl, rfl, rfl, rfl, rfl, rfl, rfl, rfl⟩
noncomputable abbrev c78 : Code := Tryz.f33.body.getD .skip
theorem s78 {H} (hH : SoundHand Tryz.prog (hand H)) {args out} (n : Nat) (hl : args.length ≤ 39) (hp : match out with | .ret v => pureR v = true | .pan v => pureR v = true) (h : Fin (M78 (hand H) n) Tryz.f33.results.toList (R (M78 (hand H) n) c78 .top ⟨params 0 args, [], fun _ => none, 0⟩) = some out) : SoundPure Tryz.prog 33 args out := sound_of (C := Cx (hand H)) hH good mixed Tryz.func33 rfl hl hp h
/-- chiasmus/arith.times -/
noncomputable abbrev M79 (H : FuncId → Option (List V → Option V)) (n : Nat) : Mc := mcOf (Cx H) 34 Tryz.f34 n
theorem m79 (H n) : (M79 H n).E.keep = [0, 1, 4, 5, 6, 7, 8, 9, 16, 17, 18, 19, 30] ∧ (M79 H n).E.cnd = [19, 30] ∧ (M79 H n).E.frz = [6, 7, 8, 9] ∧ (M79 H n).E.pro = [] ∧ (M79 H n).E.imp = [] ∧ (M79 H n).E.n = 59 ∧ (M79 H n).E.lvl = 0 ∧ (M79 H n).E.P = Tryz.prog ∧ (M79 H n).fuel = n ∧ (M79 H n).C = H ∧ (M79 H n).E.ok = okL := ⟨rfl, rfl, rfl, rfl, rfl, rfl, rfl, rfl, rfl, rfl, rfl⟩
noncomputable abbrev c79 : Code := Tryz.f34.body.getD .skip
theorem s79 {H} (hH : SoundHand Tryz.prog (hand H)) {args out} (n : Nat) (hl : args.length ≤ 59) (hp : match out with | .ret v => pureR v = true | .pan v => pureR v = true) (h : Fin (M79 (hand H) n) Tryz.f34.results.toList (R (M79 (hand H) n) c79 .top ⟨params 0 args, [], fun _ => none, 0⟩) = some out) : SoundPure Tryz.prog 34 args out := sound_of (C := Cx (hand H)) hH good mixed Tryz.func34 rfl hl hp h
/-- (chiasmus/arith.natural).trim -/
noncomputable abbrev M63 (H : FuncId → Option (List V → Option V)) (n : Nat) : Mc := mcOf (Cx H) 35 Tryz.f35 n
theorem m63 (H n) : (M63 H n).E.keep = [0, 2, 14] ∧ (M63 H n).E.cnd = [14] ∧ (M63 H n).E.frz = [] ∧ (M63 H n).E.pro = [] ∧ (M63 H n).E.imp = [] ∧ (M63 H n).E.n = 21 ∧ (M63 H n).E.lvl = 0 ∧ (M63 H n).E.P = Tryz.prog ∧ (M63 H n).fuel = n ∧ (M63 H n).C = H ∧ (M63 H n).E.ok = okL := ⟨rfl, rfl, rfl, rfl, rfl, rfl, rfl, rfl, rfl, rfl, rfl⟩
noncomputable abbrev c63 : Code := Tryz.f35.body.getD .skip
theorem s63 {H} (hH : SoundHand Tryz.prog (hand H)) {args out} (n : Nat) (hl : args.length ≤ 21) (hp : match out with | .ret v => pureR v = true | .pan v => pureR v = true) (h : Fin (M63 (hand H) n) Tryz.f35.results.toList (R (M63 (hand H) n) c63 .top ⟨params 0 args, [], fun _ => none, 0⟩) = some out) : SoundPure Tryz.prog 35 args out := sound_of (C := Cx (hand H)) hH good mixed Tryz.func35 rfl hl hp h
/-- (chiasmus/arith.integer).text -/
noncomputable abbrev M54 (H : FuncId → Option (List V → Option V)) (n : Nat) : Mc := mcOf (Cx H) 36 Tryz.f36 n
theorem m54 (H n) : (M54 H n).E.keep = [0, 1, 2, 3, 12] ∧ (M54 H n).E.cnd = [12] ∧ (M54 H n).E.frz = [] ∧ (M54 H n).E.pro = [] ∧ (M54 H n).E.imp = [] ∧ (M54 H n).E.n = 16 ∧ (M54 H n).E.lvl = 0 ∧ (M54 H n).E.P = Tryz.prog ∧ (M54 H n).fuel = n ∧ (M54 H n).C = H ∧ (M54 H n).E.ok = okL := ⟨rfl, rfl, rfl, rfl, rfl, rfl, rfl, rfl, rfl, rfl, rfl⟩
noncomputable abbrev c54 : Code := Tryz.f36.body.getD .skip
/-- chiasmus/chiasmusref08.trimmed -/
noncomputable abbrev M47 (H : FuncId → Option (List V → Option V)) (n : Nat) : Mc := mcOf (Cx H) 37 Tryz.f37 n
theorem m47 (H n) : (M47 H n).E.keep = [0, 1, 2, 3, 17] ∧ (M47 H n).E.cnd = [17] ∧ (M47 H n).E.frz = [3] ∧ (M47 H n).E.pro = [] ∧ (M47 H n).E.imp = [] ∧ (M47 H n).E.n = 31 ∧ (M47 H n).E.lvl = 0 ∧ (M47 H n).E.P = Tryz.prog ∧ (M47 H n).fuel = n ∧ (M47 H n).C = H ∧ (M47 H n).E.ok = okL := ⟨rfl, rfl, rfl, rfl, rfl, rfl, rfl, rfl, rfl, rfl, rfl⟩
noncomputable abbrev c47 : Code := Tryz.f37.body.getD .skip
theorem s47 {H} (hH : SoundHand Tryz.prog (hand H)) {args out} (n : Nat) (hl : args.length ≤ 31) (hp : match out with | .ret v => pureR v = true | .pan v => pureR v = true) (h : Fin (M47 (hand H) n) Tryz.f37.results.toList (R (M47 (hand H) n) c47 .top ⟨params 0 args, [], fun _ => none, 0⟩) = some out) : SoundPure Tryz.prog 37 args out := sound_of (C := Cx (hand H)) hH good mixed Tryz.func37 rfl hl hp h
/-- chiasmus/chiasmusref08.plus -/
noncomputable abbrev M89 (H : FuncId → Option (List V → Option V)) (n : Nat) : Mc := mcOf (Cx H) 38 Tryz.f38 n
theorem m89 (H n) : (M89 H n).E.keep = [0, 1, 4, 5, 6, 7, 22, 28, 38] ∧ (M89 H n).E.cnd = [22, 28, 38] ∧ (M89 H n).E.frz = [6, 7] ∧ (M89 H n).E.pro = [] ∧ (M89 H n).E.imp = [] ∧ (M89 H n).E.n = 53 ∧ (M89 H n).E.lvl = 0 ∧ (M89 H n).E.P = Tryz.prog ∧ (M89 H n).fuel = n ∧ (M89 H n).C = H ∧ (M89 H n).E.ok = okL := ⟨rfl, rfl, rfl, rfl, rfl, rfl, rfl, rfl, rfl, rfl, rfl⟩
noncomputable abbrev c89 : Code := Tryz.f38.body.getD .skip
theorem s89 {H} (hH : SoundHand Tryz.prog (hand H)) {args out} (n : Nat) (hl : args.length ≤ 53) (hp : match out with | .ret v => pureR v = true | .pan v => pureR v = true) (h : Fin (M89 (hand H) n) Tryz.f38.results.toList (R (M89 (hand H) n) c89 .top ⟨params 0 args, [], fun _ => none, 0⟩) = some out) : SoundPure Tryz.prog 38 args out := sound_of (C := Cx (hand H)) hH good mixed Tryz.func38 rfl hl hp h
/-- chiasmus/chiasmusref08.times -/
noncomputable abbrev M48 (H : FuncId → Option (List V → Option V)) (n : Nat) : Mc := mcOf (Cx H) 39 Tryz.f39 n
theorem m48 (H n) : (M48 H n).E.keep = [0, 1, 4, 5, 6, 7, 8, 9, 20, 30, 44] ∧ (M48 H n).E.cnd = [20, 30, 44] ∧ (M48 H n).E.frz = [6, 7, 8, 9] ∧ (M48 H n).E.pro = [] ∧ (M48 H n).E.imp = [] ∧ (M48 H n).E.n = 69 ∧ (M48 H n).E.lvl = 0 ∧ (M48 H n).E.P = Tryz.prog ∧ (M48 H n).fuel = n ∧ (M48 H n).C = H ∧ (M48 H n).E.ok = okL := ⟨rfl, rfl, rfl, rfl, rfl, rfl, rfl, rfl, rfl, rfl, rfl⟩
noncomputable abbrev c48 : Code := Tryz.f39.body.getD .skip
theorem s48 {H} (hH : SoundHand Tryz.prog (hand H)) {args out} (n : Nat) (hl : args.length ≤ 69) (hp : match out with | .ret v => pureR v = true | .pan v => pureR v = true) (h : Fin (M48 (hand H) n) Tryz.f39.results.toList (R (M48 (hand H) n) c48 .top ⟨params 0 args, [], fun _ => none, 0⟩) = some out) : SoundPure Tryz.prog 39 args out := sound_of (C := Cx (hand H)) hH good mixed Tryz.func39 rfl hl hp h
/-- chiasmus/chiasmusref08.text -/
noncomputable abbrev M56 (H : FuncId → Option (List V → Option V)) (n : Nat) : Mc := mcOf (Cx H) 40 Tryz.f40 n
theorem m56 (H n) : (M56 H n).E.keep = [0, 1, 2, 3, 4, 8, 11, 20] ∧ (M56 H n).E.cnd = [8, 11, 20] ∧ (M56 H n).E.frz = [4] ∧ (M56 H n).E.pro = [] ∧ (M56 H n).E.imp = [] ∧ (M56 H n).E.n = 35 ∧ (M56 H n).E.lvl = 0 ∧ (M56 H n).E.P = Tryz.prog ∧ (M56 H n).fuel = n ∧ (M56 H n).C = H ∧ (M56 H n).E.ok = okL := ⟨rfl, rfl, rfl, rfl, rfl, rfl, rfl, rfl, rfl, rfl, rfl⟩
noncomputable abbrev c56 : Code := Tryz.f40.body.getD .skip
theorem s56 {H} (hH : SoundHand Tryz.prog (hand H)) {args out} (n : Nat) (hl : args.length ≤ 35) (hp : match out with | .ret v => pureR v = true | .pan v => pureR v = true) (h : Fin (M56 (hand H) n) Tryz.f40.results.toList (R (M56 (hand H) n) c56 .top ⟨params 0 args, [], fun _ => none, 0⟩) = some out) : SoundPure Tryz.prog 40 args out := sound_of (C := Cx (hand H)) hH good mixed Tryz.func40 rfl hl hp h
noncomputable abbrev c80 : Code := Tryz.f41.body.getD .skip
/-- slices.IndexFunc[[]string,string] -/
noncomputable abbrev M82 (H : FuncId → Option (List V → Option V)) (n : Nat) : Mc := mcOf (Cx H) 43 Tryz.f43 n
theorem m82 (H n) : (M82 H n).E.keep = [0, 1, 4, 5, 7, 8, 9, 16] ∧ (M82 H n).E.cnd = [9, 16] ∧ (M82 H n).E.frz = [] ∧ (M82 H n).E.pro = [] ∧ (M82 H n).E.imp = [] ∧ (M82 H n).E.n = 19 ∧ (M82 H n).E.lvl = 0 ∧ (M82 H n).E.P = Tryz.prog ∧ (M82 H n).fuel = n ∧ (M82 H n).C = H ∧ (M82 H n).E.ok = okL := ⟨rfl, rfl, rfl, rfl, rfl, rfl, rfl, rfl, rfl, rfl, rfl⟩
noncomputable abbrev c82 : Code := Tryz.f43.body.getD .skip
theorem s82 {H} (hH : SoundHand Tryz.prog (hand H)) {args out} (n : Nat) (hl : args.length ≤ 19) (hp : match out with | .ret v => pureR v = true | .pan v => pureR v = true) (h : Fin (M82 (hand H) n) Tryz.f43.results.toList (R (M82 (hand H) n) c82 .top ⟨params 0 args, [], fun _ => none, 0⟩) = some out) : SoundPure Tryz.prog 43 args out := sound_of (C := Cx (hand H)) hH good mixed Tryz.func43 rfl hl hp h
/-- chiasmus/arith.divide -/
noncomputable abbrev M52 (H : FuncId → Option (List V → Option V)) (n : Nat) : Mc := mcOf (Cx H) 44 Tryz.f44 n
theorem m52 (H n) : (M52 H n).E.keep = [0, 1, 4, 5, 6, 7, 8, 9, 10, 11, 12, 13, 14, 18, 23, 64, 97] ∧ (M52 H n).E.cnd = [18, 23, 64, 97] ∧ (M52 H n).E.frz = [0, 1, 7, 8, 9, 12, 13, 14] ∧ (M52 H n).E.pro = [] ∧ (M52 H n).E.imp = [] ∧ (M52 H n).E.n = 121 ∧ (M52 H n).E.lvl = 0 ∧ (M52 H n).E.P = Tryz.prog ∧ (M52 H n).fuel = n ∧ (M52 H n).C = H ∧ (M52 H n).E.ok = okL := ⟨rfl, rfl, rfl, rfl, rfl, rfl, rfl, rfl, rfl, rfl, rfl⟩
noncomputable abbrev c52 : Code := Tryz.f44.body.getD .skip
theorem s52 {H} (hH : SoundHand Tryz.prog (hand H)) {args out} (n : Nat) (hl : args.length ≤ 121) (hp : match out with | .ret v => pureR v = true | .pan v => pureR v = true) (h : Fin (M52 (hand H) n) Tryz.f44.results.toList (R (M52 (hand H) n) c52 .top ⟨params 0 args, [], fun _ => none, 0⟩) = some out) : SoundPure Tryz.prog 44 args out := sound_of (C := Cx (hand H)) hH good mixed Tryz.func44 rfl hl hp h
/-- chiasmus/arith.signed -/
noncomputable abbrev M53 (H : FuncId → Option (List V → Option V)) (n : Nat) : Mc := mcOf (Cx H) 45 Tryz.f45 n
theorem m53 (H n) : (M53 H n).E.keep = [0, 1, 4] ∧ (M53 H n).E.cnd = [] ∧ (M53 H n).E.frz = [] ∧ (M53 H n).E.pro = [] ∧ (M53 H n).E.imp = [] ∧ (M53 H n).E.n = 13 ∧ (M53 H n).E.lvl = 0 ∧ (M53 H n).E.P = Tryz.prog ∧ (M53 H n).fuel = n ∧ (M53 H n).C = H ∧ (M53 H n).E.ok = okL := ⟨rfl, rfl, rfl, rfl, rfl, rfl, rfl, rfl, rfl, rfl, rfl⟩
noncomputable abbrev c53 : Code := Tryz.f45.body.getD .skip
theorem s53 {H} (hH : SoundHand Tryz.prog (hand H)) {args out} (n : Nat) (hl : args.length ≤ 13) (hp : match out with | .ret v => pureR v = true | .pan v => pureR v = true) (h : Fin (M53 (hand H) n) Tryz.f45.results.toList (R (M53 (hand H) n) c53 .top ⟨params 0 args, [], fun _ => none, 0⟩) = some out) : SoundPure Tryz.prog 45 args out := sound_of (C := Cx (hand H)) hH good mixed Tryz.func45 rfl hl hp h
/-- chiasmus/arith.power -/
noncomputable abbrev M58 (H : FuncId → Option (List V → Option V)) (n : Nat) : Mc := mcOf (Cx H) 46 Tryz.f46 n
theorem m58 (H n) : (M58 H n).E.keep = [0, 1, 2, 6, 7, 8, 13, 15, 18, 19, 20, 27] ∧ (M58 H n).E.cnd = [13, 15, 20, 27] ∧ (M58 H n).E.frz = [] ∧ (M58 H n).E.pro = [] ∧ (M58 H n).E.imp = [] ∧ (M58 H n).E.n = 30 ∧ (M58 H n).E.lvl = 0 ∧ (M58 H n).E.P = Tryz.prog ∧ (M58 H n).fuel = n ∧ (M58 H n).C = H ∧ (M58 H n).E.ok = okL := ⟨rfl, rfl, rfl, rfl, rfl, rfl, rfl, rfl, rfl, rfl, rfl⟩
noncomputable abbrev c58 : Code := Tryz.f46.body.getD .skip
theorem s58 {H} (hH : SoundHand Tryz.prog (hand H)) {args out} (n : Nat) (hl : args.length ≤ 30) (hp : match out with | .ret v => pureR v = true | .pan v => pureR v = true) (h : Fin (M58 (hand H) n) Tryz.f46.results.toList (R (M58 (hand H) n) c58 .top ⟨params 0 args, [], fun _ => none, 0⟩) = some out) : SoundPure Tryz.prog 46 args out := sound_of (C := Cx (hand H)) hH good mixed Tryz.func46 rfl hl hp h
/-- strings.TrimPrefix -/
noncomputable abbrev M71 (H : FuncId → Option (List V → Option V)) (n : Nat) : Mc := mcOf (Cx H) 47 Tryz.f47 n
theorem m71 (H n) : (M71 H n).E.keep = [0, 1, 4] ∧ (M71 H n).E.cnd = [] ∧ (M71 H n).E.frz = [] ∧ (M71 H n).E.pro = [] ∧ (M71 H n).E.imp = [] ∧ (M71 H n).E.n = 8 ∧ (M71 H n).E.lvl = 0 ∧ (M71 H n).E.P = Tryz.prog ∧ (M71 H n).fuel = n ∧ (M71 H n).C = H ∧ (M71 H n).E.ok = okL := ⟨rfl, rfl, rfl, rfl, rfl, rfl, rfl, rfl, rfl, rfl, rfl⟩
noncomputable abbrev c71 : Code := Tryz.f47.body.getD .skip
theorem s71 {H} (hH : SoundHand Tryz.prog (hand H)) {args out} (n : Nat) (hl : args.length ≤ 8) (hp : match out with | .ret v => pureR v = true | .pan v => pureR v = true) (h : Fin (M71 (hand H) n) Tryz.f47.results.toList (R (M71 (hand H) n) c71 .top ⟨params 0 args, [], fun _ => none, 0⟩) = some out) : SoundPure Tryz.prog 47 args out := sound_of (C := Cx (hand H)) hH good mixed Tryz.func47 rfl hl hp h
/-- strings.Trim -/
noncomputable abbrev M72 (H : FuncId → Option (List V → Option V)) (n : Nat) : Mc := mcOf (Cx H) 48 Tryz.f48 n
theorem m72 (H n) : (M72 H n).E.keep = [0, 1, 4, 5, 6, 12, 21, 34] ∧ (M72 H n).E.cnd = [12, 21, 34] ∧ (M72 H n).E.frz = [6] ∧ (M72 H n).E.pro = [] ∧ (M72 H n).E.imp = [] ∧ (M72 H n).E.n = 43 ∧ (M72 H n).E.lvl = 0 ∧ (M72 H n).E.P = Tryz.prog ∧ (M72 H n).fuel = n ∧ (M72 H n).C = H ∧ (M72 H n).E.ok = okL := ⟨rfl, rfl, rfl, rfl, rfl, rfl, rfl, rfl, rfl, rfl, rfl⟩
noncomputable abbrev c72 : Code := Tryz.f48.body.getD .skip
theorem s72 {H} (hH : SoundHand Tryz.prog (hand H)) {args out} (n : Nat) (hl : args.length ≤ 43) (hp : match out with | .ret v => pureR v = true | .pan v => pureR v = true) (h : Fin (M72 (hand H) n) Tryz.f48.results.toList (R (M72 (hand H) n) c72 .top ⟨params 0 args, [], fun _ => none, 0⟩) = some out) : SoundPure Tryz.prog 48 args out := sound_of (C := Cx (hand H)) hH good mixed Tryz.func48 rfl hl hp h
/-- strings.CutPrefix -/
noncomputable abbrev M83 (H : FuncId → Option (List V → Option V)) (n : Nat) : Mc := mcOf (Cx H) 49 Tryz.f49 n
theorem m83 (H n) : (M83 H n).E.keep = [0, 1, 4, 5] ∧ (M83 H n).E.cnd = [] ∧ (M83 H n).E.frz = [] ∧ (M83 H n).E.pro = [] ∧ (M83 H n).E.imp = [] ∧ (M83 H n).E.n = 11 ∧ (M83 H n).E.lvl = 0 ∧ (M83 H n).E.P = Tryz.prog ∧ (M83 H n).fuel = n ∧ (M83 H n).C = H ∧ (M83 H n).E.ok = okL := ⟨rfl, rfl, rfl, rfl, rfl, rfl, rfl, rfl, rfl, rfl, rfl⟩
noncomputable abbrev c83 : Code := Tryz.f49.body.getD .skip
theorem s83 {H} (hH : SoundHand Tryz.prog (hand H)) {args out} (n : Nat) (hl : args.length ≤ 11) (hp : match out with | .ret v => pureR v = true | .pan v => pureR v = true) (h : Fin (M83 (hand H) n) Tryz.f49.results.toList (R (M83 (hand H) n) c83 .top ⟨params 0 args, [], fun _ => none, 0⟩) = some out) : SoundPure Tryz.prog 49 args out := sound_of (C := Cx (hand H)) hH good mixed Tryz.func49 rfl hl hp h
noncomputable abbrev c98 : Code := Tryz.f50.body.getD .skip
/-- chiasmus/chiasmusref08.order -/
noncomputable abbrev M64 (H : FuncId → Option (List V → Option V)) (n : Nat) : Mc := mcOf (Cx H) 51 Tryz.f51 n
theorem m64 (H n) : (M64 H n).E.keep = [0, 1, 4, 5, 10, 15, 20, 31, 40] ∧ (M64 H n).E.cnd = [10, 15, 20, 31, 40] ∧ (M64 H n).E.frz = [5] ∧ (M64 H n).E.pro = [] ∧ (M64 H n).E.imp = [] ∧ (M64 H n).E.n = 41 ∧ (M64 H n).E.lvl = 0 ∧ (M64 H n).E.P = Tryz.prog ∧ (M64 H n).fuel = n ∧ (M64 H n).C = H ∧ (M64 H n).E.ok = okL := ⟨rfl, rfl, rfl, rfl, rfl, rfl, rfl, rfl, rfl, rfl, rfl⟩
noncomputable abbrev c64 : Code := Tryz.f51.body.getD .skip
theorem s64 {H} (hH : SoundHand Tryz.prog (hand H)) {args out} (n : Nat) (hl : args.length ≤ 41) (hp : match out with | .ret v => pureR v = true | .pan v => pureR v = true) (h : Fin (M64 (hand H) n) Tryz.f51.results.toList (R (M64 (hand H) n) c64 .top ⟨params 0 args, [], fun _ => none, 0⟩) = some out) : SoundPure Tryz.prog 51 args out := sound_of (C := Cx (hand H)) hH good mixed Tryz.func51 rfl hl hp h
/-- chiasmus/chiasmusref08.minus -/
noncomputable abbrev M87 (H : FuncId → Option (List V → Option V)) (n : Nat) : Mc := mcOf (Cx H) 52 Tryz.f52 n
theorem m87 (H n) : (M87 H n).E.keep = [0, 1, 4, 5, 6, 7, 8, 13, 25, 33] ∧ (M87 H n).E.cnd = [13, 25, 33] ∧ (M87 H n).E.frz = [6, 7, 8] ∧ (M87 H n).E.pro = [] ∧ (M87 H n).E.imp = [] ∧ (M87 H n).E.n = 41 ∧ (M87 H n).E.lvl = 0 ∧ (M87 H n).E.P = Tryz.prog ∧ (M87 H n).fuel = n ∧ (M87 H n).C = H ∧ (M87 H n).E.ok = okL := ⟨rfl, rfl, rfl, rfl, rfl, rfl, rfl, rfl, rfl, rfl, rfl⟩
noncomputable abbrev c87 : Code := Tryz.f52.body.getD .skip
theorem s87 {H} (hH : SoundHand Tryz.prog (hand H)) {args out} (n : Nat) (hl : args.length ≤ 41) (hp : match out with | .ret v => pureR v = true | .pan v => pureR v = true) (h : Fin (M87 (hand H) n) Tryz.f52.results.toList (R (M87 (hand H) n) c87 .top ⟨params 0 args, [], fun _ => none, 0⟩) = some out) : SoundPure Tryz.prog 52 args out := sound_of (C := Cx (hand H)) hH good mixed Tryz.func52 rfl hl hp h
/-- slices.IndexFunc[[]int,int] -/
noncomputable abbrev M99 (H : FuncId → Option (List V → Option V)) (n : Nat) : Mc := mcOf (Cx H) 53 Tryz.f53 n
theorem m99 (H n) : (M99 H n).E.keep = [0, 1, 4, 5, 7, 8, 9, 16] ∧ (M99 H n).E.cnd = [9, 16] ∧ (M99 H n).E.frz = [] ∧ (M99 H n).E.pro = [] ∧ (M99 H n).E.imp = [] ∧ (M99 H n).E.n = 19 ∧ (M99 H n).E.lvl = 0 ∧ (M99 H n).E.P = Tryz.prog ∧ (M99 H n).fuel = n ∧ (M99 H n).C = H ∧ (M99 H n).E.ok = okL := ⟨rfl, rfl, rfl, rfl, rfl, rfl, rfl, rfl, rfl, rfl, rfl⟩
noncomputable abbrev c99 : Code := Tryz.f53.body.getD .skip
theorem s99 {H} (hH : SoundHand Tryz.prog (hand H)) {args out} (n : Nat) (hl : args.length ≤ 19) (hp : match out with | .ret v => pureR v = true | .pan v => pureR v = true) (h : Fin (M99 (hand H) n) Tryz.f53.results.toList (R (M99 (hand H) n) c99 .top ⟨params 0 args, [], fun _ => none, 0⟩) = some out) : SoundPure Tryz.prog 53 args out := sound_of (C := Cx (hand H)) hH good mixed Tryz.func53 rfl hl hp h
/-- (chiasmus/arith.natural).at -/
noncomputable abbrev M84 (H : FuncId → Option (List V → Option V)) (n : Nat) : Mc := mcOf (Cx H) 54 Tryz.f54 n
theorem m84 (H n) : (M84 H n).E.keep = [0, 1, 4, 8] ∧ (M84 H n).E.cnd = [8] ∧ (M84 H n).E.frz = [] ∧ (M84 H n).E.pro = [] ∧ (M84 H n).E.imp = [] ∧ (M84 H n).E.n = 13 ∧ (M84 H n).E.lvl = 0 ∧ (M84 H n).E.P = Tryz.prog ∧ (M84 H n).fuel = n ∧ (M84 H n).C = H ∧ (M84 H n).E.ok = okL := ⟨rfl, rfl, rfl, rfl, rfl, rfl, rfl, rfl, rfl, rfl, rfl⟩
noncomputable abbrev c84 : Code := Tryz.f54.body.getD .skip
theorem s84 {H} (hH : SoundHand Tryz.prog (hand H)) {args out} (n : Nat) (hl : args.length ≤ 13) (hp : match out with | .ret v => pureR v = true | .pan v => pureR v = true) (h : Fin (M84 (hand H) n) Tryz.f54.results.toList (R (M84 (hand H) n) c84 .top ⟨params 0 args, [], fun _ => none, 0⟩) = some out) : SoundPure Tryz.prog 54 args out := sound_of (C := Cx (hand H)) hH good mixed Tryz.func54 rfl hl hp h
/-- (chiasmus/arith.natural).text -/
noncomputable abbrev M86 (H : FuncId → Option (List V → Option V)) (n : Nat) : Mc := mcOf (Cx H) 55 Tryz.f55 n
theorem m86 (H n) : (M86 H n).E.keep = [0, 2, 3, 4, 5, 6, 9, 10, 11, 12, 13, 29] ∧ (M86 H n).E.cnd = [9, 13, 29] ∧ (M86 H n).E.frz = [4, 5, 6] ∧ (M86 H n).E.pro = [3] ∧ (M86 H n).E.imp = [71] ∧ (M86 H n).E.n = 45 ∧ (M86 H n).E.lvl = 0 ∧ (M86 H n).E.P = Tryz.prog ∧ (M86 H n).fuel = n ∧ (M86 H n).C = H ∧ (M86 H n).E.ok = okL := ⟨rfl, rfl, rfl, rfl, rfl, rfl, rfl, rfl, rfl, rfl, rfl⟩
noncomputable abbrev c86 : Code := Tryz.f55.body.getD .skip
theorem s86 {H} (hH : SoundHand Tryz.prog (hand H)) {args out} (n : Nat) (hl : args.length ≤ 45) (hp : match out with | .ret v => pureR v = true | .pan v => pureR v = true) (h : Fin (M86 (hand H) n) Tryz.f55.results.toList (R (M86 (hand H) n) c86 .top ⟨params 0 args, [], fun _ => none, 0⟩) = some out) : SoundPure Tryz.prog 55 args out := sound_of (C := Cx (hand H)) hH good mixed Tryz.func55 rfl hl hp h
/-- chiasmus/arith.compare -/
noncomputable abbrev M61 (H : FuncId → Option (List V → Option V)) (n : Nat) : Mc := mcOf (Cx H) 59 Tryz.f59 n
theorem m61 (H n) : (M61 H n).E.keep = [0, 1, 4, 5, 10, 21, 32] ∧ (M61 H n).E.cnd = [10, 21, 32] ∧ (M61 H n).E.frz = [5] ∧ (M61 H n).E.pro = [] ∧ (M61 H n).E.imp = [] ∧ (M61 H n).E.n = 43 ∧ (M61 H n).E.lvl = 0 ∧ (M61 H n).E.P = Tryz.prog ∧ (M61 H n).fuel = n ∧ (M61 H n).C = H ∧ (M61 H n).E.ok = okL := ⟨rfl, rfl, rfl, rfl, rfl, rfl, rfl, rfl, rfl, rfl, rfl⟩
noncomputable abbrev c61 : Code := Tryz.f59.body.getD .skip
theorem s61 {H} (hH : SoundHand Tryz.prog (hand H)) {args out} (n : Nat) (hl : args.length ≤ 43) (hp : match out with | .ret v => pureR v = true | .pan v => pureR v = true) (h : Fin (M61 (hand H) n) Tryz.f59.results.toList (R (M61 (hand H) n) c61 .top ⟨params 0 args, [], fun _ => none, 0⟩) = some out) : SoundPure Tryz.prog 59 args out := sound_of (C := Cx (hand H)) hH good mixed Tryz.func59 rfl hl hp h
/-- slices.Clone[chiasmus/arith.natural,int] -/
noncomputable abbrev M62 (H : FuncId → Option (List V → Option V)) (n : Nat) : Mc := mcOf (Cx H) 60 Tryz.f60 n
theorem m62 (H n) : (M62 H n).E.keep = [0, 2, 4] ∧ (M62 H n).E.cnd = [4] ∧ (M62 H n).E.frz = [] ∧ (M62 H n).E.pro = [] ∧ (M62 H n).E.imp = [] ∧ (M62 H n).E.n = 8 ∧ (M62 H n).E.lvl = 0 ∧ (M62 H n).E.P = Tryz.prog ∧ (M62 H n).fuel = n ∧ (M62 H n).C = H ∧ (M62 H n).E.ok = okL := ⟨rfl, rfl, rfl, rfl, rfl, rfl, rfl, rfl, rfl, rfl, rfl⟩
noncomputable abbrev c62 : Code := Tryz.f60.body.getD .skip
theorem s62 {H} (hH : SoundHand Tryz.prog (hand H)) {args out} (n : Nat) (hl : args.length ≤ 8) (hp : match out with | .ret v => pureR v = true | .pan v => pureR v = true) (h : Fin (M62 (hand H) n) Tryz.f60.results.toList (R (M62 (hand H) n) c62 .top ⟨params 0 args, [], fun _ => none, 0⟩) = some out) : SoundPure Tryz.prog 60 args out := sound_of (C := Cx (hand H)) hH good mixed Tryz.func60 rfl hl hp h
/-- chiasmus/arith.minus -/
noncomputable abbrev M85 (H : FuncId → Option (List V → Option V)) (n : Nat) : Mc := mcOf (Cx H) 61 Tryz.f61 n
theorem m85 (H n) : (M85 H n).E.keep = [0, 1, 4, 5, 6, 7, 8, 13, 14, 15, 28] ∧ (M85 H n).E.cnd = [15, 28] ∧ (M85 H n).E.frz = [6, 7, 8] ∧ (M85 H n).E.pro = [] ∧ (M85 H n).E.imp = [] ∧ (M85 H n).E.n = 38 ∧ (M85 H n).E.lvl = 0 ∧ (M85 H n).E.P = Tryz.prog ∧ (M85 H n).fuel = n ∧ (M85 H n).C = H ∧ (M85 H n).E.ok = okL := ⟨rfl, rfl, rfl, rfl, rfl, rfl, rfl, rfl, rfl, rfl, rfl⟩
noncomputable abbrev c85 : Code := Tryz.f61.body.getD .skip
theorem s85 {H} (hH : SoundHand Tryz.prog (hand H)) {args out} (n : Nat) (hl : args.length ≤ 38) (hp : match out with | .ret v => pureR v = true | .pan v => pureR v = true) (h : Fin (M85 (hand H) n) Tryz.f61.results.toList (R (M85 (hand H) n) c85 .top ⟨params 0 args, [], fun _ => none, 0⟩) = some out) : SoundPure Tryz.prog 61 args out := sound_of (C := Cx (hand H)) hH good mixed Tryz.func61 rfl hl hp h
/-- internal/stringslite.TrimPrefix -/
noncomputable abbrev M90 (H : FuncId → Option (List V → Option V)) (n : Nat) : Mc := mcOf (Cx H) 62 Tryz.f62 n
theorem m90 (H n) : (M90 H n).E.keep = [0, 1, 4, 7] ∧ (M90 H n).E.cnd = [7] ∧ (M90 H n).E.frz = [] ∧ (M90 H n).E.pro = [] ∧ (M90 H n).E.imp = [] ∧ (M90 H n).E.n = 13 ∧ (M90 H n).E.lvl = 0 ∧ (M90 H n).E.P = Tryz.prog ∧ (M90 H n).fuel = n ∧ (M90 H n).C = H ∧ (M90 H n).E.ok = okL := ⟨rfl, rfl, rfl, rfl, rfl, rfl, rfl, rfl, rfl, rfl, rfl⟩
noncomputable abbrev c90 : Code := Tryz.f62.body.getD .skip
theorem s90 {H} (hH : SoundHand Tryz.prog (hand H)) {args out} (n : Nat) (hl : args.length ≤ 13) (hp : match out with | .ret v => pureR v = true | .pan v => pureR v = true) (h : Fin (M90 (hand H) n) Tryz.f62.results.toList (R (M90 (hand H) n) c90 .top ⟨params 0 args, [], fun _ => none, 0⟩) = some out) : SoundPure Tryz.prog 62 args out := sound_of (C := Cx (hand H)) hH good mixed Tryz.func62 rfl hl hp h
/-- strings.trimLeftASCII -/
noncomputable abbrev M94 (H : FuncId → Option (List V → Option V)) (n : Nat) : Mc := mcOf (Cx H) 66 Tryz.f66 n
theorem m94 (H n) : (M94 H n).E.keep = [0, 1, 4, 7, 12] ∧ (M94 H n).E.cnd = [7, 12] ∧ (M94 H n).E.frz = [] ∧ (M94 H n).E.pro = [] ∧ (M94 H n).E.imp = [] ∧ (M94 H n).E.n = 16 ∧ (M94 H n).E.lvl = 0 ∧ (M94 H n).E.P = Tryz.prog ∧ (M94 H n).fuel = n ∧ (M94 H n).C = H ∧ (M94 H n).E.ok = okL := ⟨rfl, rfl, rfl, rfl, rfl, rfl, rfl, rfl, rfl, rfl, rfl⟩
noncomputable abbrev c94 : Code := Tryz.f66.body.getD .skip
theorem s94 {H} (hH : SoundHand Tryz.prog (hand H)) {args out} (n : Nat) (hl : args.length ≤ 16) (hp : match out with | .ret v => pureR v = true | .pan v => pureR v = true) (h : Fin (M94 (hand H) n) Tryz.f66.results.toList (R (M94 (hand H) n) c94 .top ⟨params 0 args, [], fun _ => none, 0⟩) = some out) : SoundPure Tryz.prog 66 args out := sound_of (C := Cx (hand H)) hH good mixed Tryz.func66 rfl hl hp h
/-- strings.trimRightASCII -/
noncomputable abbrev M95 (H : FuncId → Option (List V → Option V)) (n : Nat) : Mc := mcOf (Cx H) 67 Tryz.f67 n
theorem m95 (H n) : (M95 H n).E.keep = [0, 1, 4, 7, 15] ∧ (M95 H n).E.cnd = [7, 15] ∧ (M95 H n).E.frz = [] ∧ (M95 H n).E.pro = [] ∧ (M95 H n).E.imp = [] ∧ (M95 H n).E.n = 22 ∧ (M95 H n).E.lvl = 0 ∧ (M95 H n).E.P = Tryz.prog ∧ (M95 H n).fuel = n ∧ (M95 H n).C = H ∧ (M95 H n).E.ok = okL := ⟨rfl, rfl, rfl, rfl, rfl, rfl, rfl, rfl, rfl, rfl, rfl⟩
noncomputable abbrev c95 : Code := Tryz.f67.body.getD .skip
theorem s95 {H} (hH : SoundHand Tryz.prog (hand H)) {args out} (n : Nat) (hl : args.length ≤ 22) (hp : match out with | .ret v => pureR v = true | .pan v => pureR v = true) (h : Fin (M95 (hand H) n) Tryz.f67.results.toList (R (M95 (hand H) n) c95 .top ⟨params 0 args, [], fun _ => none, 0⟩) = some out) : SoundPure Tryz.prog 67 args out := sound_of (C := Cx (hand H)) hH good mixed Tryz.func67 rfl hl hp h
/-- internal/stringslite.CutPrefix -/
noncomputable abbrev M103 (H : FuncId → Option (List V → Option V)) (n : Nat) : Mc := mcOf (Cx H) 70 Tryz.f70 n
theorem m103 (H n) : (M103 H n).E.keep = [0, 1, 4, 5, 9] ∧ (M103 H n).E.cnd = [9] ∧ (M103 H n).E.frz = [] ∧ (M103 H n).E.pro = [] ∧ (M103 H n).E.imp = [] ∧ (M103 H n).E.n = 15 ∧ (M103 H n).E.lvl = 0 ∧ (M103 H n).E.P = Tryz.prog ∧ (M103 H n).fuel = n ∧ (M103 H n).C = H ∧ (M103 H n).E.ok = okL := ⟨rfl, rfl, rfl, rfl, rfl, rfl, rfl, rfl, rfl, rfl, rfl⟩
noncomputable abbrev c103 : Code := Tryz.f70.body.getD .skip
theorem s103 {H} (hH : SoundHand Tryz.prog (hand H)) {args out} (n : Nat) (hl : args.length ≤ 15) (hp : match out with | .ret v => pureR v = true | .pan v => pureR v = true) (h : Fin (M103 (hand H) n) Tryz.f70.results.toList (R (M103 (hand H) n) c103 .top ⟨params 0 args, [], fun _ => none, 0⟩) = some out) : SoundPure Tryz.prog 70 args out := sound_of (C := Cx (hand H)) hH good mixed Tryz.func70 rfl hl hp h
noncomputable abbrev c104 : Code := Tryz.f71.body.getD .skip
/-- chiasmus/arith.sign -/
noncomputable abbrev M88 (H : FuncId → Option (List V → Option V)) (n : Nat) : Mc := mcOf (Cx H) 78 Tryz.f78 n
theorem m88 (H n) : (M88 H n).E.keep = [0, 2] ∧ (M88 H n).E.cnd = [] ∧ (M88 H n).E.frz = [] ∧ (M88 H n).E.pro = [] ∧ (M88 H n).E.imp = [] ∧ (M88 H n).E.n = 6 ∧ (M88 H n).E.lvl = 0 ∧ (M88 H n).E.P = Tryz.prog ∧ (M88 H n).fuel = n ∧ (M88 H n).C = H ∧ (M88 H n).E.ok = okL := ⟨rfl, rfl, rfl, rfl, rfl, rfl, rfl, rfl, rfl, rfl, rfl⟩
noncomputable abbrev c88 : Code := Tryz.f78.body.getD .skip
theorem s88 {H} (hH : SoundHand Tryz.prog (hand H)) {args out} (n : Nat) (hl : args.length ≤ 6) (hp : match out with | .ret v => pureR v = true | .pan v => pureR v = true) (h : Fin (M88 (hand H) n) Tryz.f78.results.toList (R (M88 (hand H) n) c88 .top ⟨params 0 args, [], fun _ => none, 0⟩) = some out) : SoundPure Tryz.prog 78 args out := sound_of (C := Cx (hand H)) hH good mixed Tryz.func78 rfl hl hp h
/-- internal/stringslite.HasPrefix -/
noncomputable abbrev M105 (H : FuncId → Option (List V → Option V)) (n : Nat) : Mc := mcOf (Cx H) 79 Tryz.f79 n
theorem m105 (H n) : (M105 H n).E.keep = [0, 1, 4] ∧ (M105 H n).E.cnd = [] ∧ (M105 H n).E.frz = [] ∧ (M105 H n).E.pro = [] ∧ (M105 H n).E.imp = [] ∧ (M105 H n).E.n = 18 ∧ (M105 H n).E.lvl = 0 ∧ (M105 H n).E.P = Tryz.prog ∧ (M105 H n).fuel = n ∧ (M105 H n).C = H ∧ (M105 H n).E.ok = okL := ⟨rfl, rfl, rfl, rfl, rfl, rfl, rfl, rfl, rfl, rfl, rfl⟩
noncomputable abbrev c105 : Code := Tryz.f79.body.getD .skip
theorem s105 {H} (hH : SoundHand Tryz.prog (hand H)) {args out} (n : Nat) (hl : args.length ≤ 18) (hp : match out with | .ret v => pureR v = true | .pan v => pureR v = true) (h : Fin (M105 (hand H) n) Tryz.f79.results.toList (R (M105 (hand H) n) c105 .top ⟨params 0 args, [], fun _ => none, 0⟩) = some out) : SoundPure Tryz.prog 79 args out := sound_of (C := Cx (hand H)) hH good mixed Tryz.func79 rfl hl hp h
/-- (*strings.asciiSet).contains -/
noncomputable abbrev M106 (H : FuncId → Option (List V → Option V)) (n : Nat) : Mc := mcOf (Cx H) 80 Tryz.f80 n
theorem m106 (H n) : (M106 H n).E.keep = [0, 1, 4] ∧ (M106 H n).E.cnd = [] ∧ (M106 H n).E.frz = [] ∧ (M106 H n).E.pro = [] ∧ (M106 H n).E.imp = [] ∧ (M106 H n).E.n = 10 ∧ (M106 H n).E.lvl = 0 ∧ (M106 H n).E.P = Tryz.prog ∧ (M106 H n).fuel = n ∧ (M106 H n).C = H ∧ (M106 H n).E.ok = okL := ⟨rfl, rfl, rfl, rfl, rfl, rfl, rfl, rfl, rfl, rfl, rfl⟩
noncomputable abbrev c106 : Code := Tryz.f80.body.getD .skip
theorem s106 {H} (hH : SoundHand Tryz.prog (hand H)) {args out} (n : Nat) (hl : args.length ≤ 10) (hp : match out with | .ret v => pureR v = true | .pan v => pureR v = true) (h : Fin (M106 (hand H) n) Tryz.f80.results.toList (R (M106 (hand H) n) c106 .top ⟨params 0 args, [], fun _ => none, 0⟩) = some out) : SoundPure Tryz.prog 80 args out := sound_of (C := Cx (hand H)) hH good mixed Tryz.func80 rfl hl hp h
noncomputable abbrev c116 : Code := Tryz.f84.body.getD .skip
noncomputable abbrev c127 : Code := Tryz.f102.body.getD .skip
theorem oks : okL.contains 3 = true ∧ okL.contains 4 = true ∧ okL.contains 5 = true ∧ okL.contains 6 = true ∧ okL.contains 7 = true ∧ okL.contains 8 = true ∧ okL.contains 9 = true ∧ okL.contains 10 = true ∧ okL.contains 11 = true ∧ okL.contains 12 = true ∧ okL.contains 13 = true ∧ okL.contains 14 = true ∧ okL.contains 15 = true ∧ okL.contains 16 = true ∧ okL.contains 17 = true ∧ okL.contains 18 = true ∧ okL.contains 19 = true ∧ okL.contains 20 = true ∧ okL.contains 21 = true ∧ okL.contains 22 = true ∧ okL.contains 23 = true ∧ okL.contains 24 = true ∧ okL.contains 25 = true ∧ okL.contains 26 = true ∧ okL.contains 27 = true ∧ okL.contains 28 = true ∧ okL.contains 29 = true ∧ okL.contains 30 = true ∧ okL.contains 31 = true ∧ okL.contains 32 = true ∧ okL.contains 33 = true ∧ okL.contains 34 = true ∧ okL.contains 35 = true ∧ okL.contains 36 = true ∧ okL.contains 37 = true ∧ okL.contains 38 = true ∧ okL.contains 39 = true ∧ okL.contains 40 = true ∧ okL.contains 41 = true ∧ okL.contains 42 = true ∧ okL.contains 43 = true ∧ okL.contains 44 = true ∧ okL.contains 45 = true ∧ okL.contains 46 = true ∧ okL.contains 47 = true ∧ okL.contains 48 = true ∧ okL.contains 49 = true ∧ okL.contains 50 = true ∧ okL.contains 51 = true ∧ okL.contains 52 = true ∧ okL.contains 53 = true ∧ okL.contains 54 = true ∧ okL.contains 55 = true ∧ okL.contains 56 = true ∧ okL.contains 57 = true ∧ okL.contains 58 = true ∧ okL.contains 59 = true ∧ okL.contains 60 = true ∧ okL.contains 61 = true ∧ okL.contains 62 = true ∧ okL.contains 63 = true ∧ okL.contains 64 = true ∧ okL.contains 65 = true ∧ okL.contains 66 = true ∧ okL.contains 67 = true ∧ okL.contains 68 = true ∧ okL.contains 69 = true ∧ okL.contains 70 = true ∧ okL.contains 71 = true ∧ okL.contains 78 = true ∧ okL.contains 79 = true ∧ okL.contains 80 = true ∧ okL.contains 84 = true ∧ okL.contains 95 = true ∧ okL.contains 102 = true ∧ okL.contains 104 = true := ⟨rfl, rfl, rfl, rfl, rfl, rfl, rfl, rfl, rfl, rfl, rfl, rfl, rfl, rfl, rfl, rfl, rfl, rfl, rfl, rfl, rfl, rfl, rfl, rfl, rfl, rfl, rfl, rfl, rfl, rfl, rfl, rfl, rfl, rfl, rfl, rfl, rfl, rfl, rfl, rfl, rfl, rfl, rfl, rfl, rfl, rfl, rfl, rfl, rfl, rfl, rfl, rfl, rfl, rfl, rfl, rfl, rfl, rfl, rfl, rfl, rfl, rfl, rfl, rfl, rfl, rfl, rfl, rfl, rfl, rfl, rfl, rfl, rfl, rfl, rfl, rfl⟩
def zB : List Bool := List.replicate 256 false
/-- Facts on types. -/
theorem ty :
  szT Tryz.prog 0 = 1 ∧
  aggT Tryz.prog 0 = some false ∧
  bytesT Tryz.prog 0 = 0 ∧
  zeroT Tryz.prog 0 = some V.junk ∧
  szT Tryz.prog 2 = 1 ∧
  aggT Tryz.prog 2 = some false ∧
  bytesT Tryz.prog 2 = 8 ∧
  zeroT Tryz.prog 2 = some (V.int IntKind.i64 (0)) ∧
  intT Tryz.prog 2 = some IntKind.i64 ∧
  szT Tryz.prog 3 = 1 ∧
  aggT Tryz.prog 3 = some false ∧
  bytesT Tryz.prog 3 = 8 ∧
  zeroT Tryz.prog 3 = some (V.int IntKind.i64 (0)) ∧
  intT Tryz.prog 3 = some IntKind.i64 ∧
  szT Tryz.prog 4 = 1 ∧
  aggT Tryz.prog 4 = some false ∧
  bytesT Tryz.prog 4 = 1 ∧
  zeroT Tryz.prog 4 = some (V.bool false) ∧
  szT Tryz.prog 5 = 1 ∧
  aggT Tryz.prog 5 = some false ∧
  bytesT Tryz.prog 5 = 1 ∧
  zeroT Tryz.prog 5 = some (V.int IntKind.u8 (0)) ∧
  intT Tryz.prog 5 = some IntKind.u8 ∧
  szT Tryz.prog 9 = 1 ∧
  aggT Tryz.prog 9 = some false ∧
  bytesT Tryz.prog 9 = 16 ∧
  zeroT Tryz.prog 9 = some (V.str []) ∧
  strT Tryz.prog 9 = true ∧
  rowT Tryz.prog 9 = true ∧
  szT Tryz.prog 20 = 1 ∧
  aggT Tryz.prog 20 = some false ∧
  bytesT Tryz.prog 20 = 16 ∧
  zeroT Tryz.prog 20 = some V.nilI ∧
  szT Tryz.prog 21 = 1 ∧
  aggT Tryz.prog 21 = some false ∧
  bytesT Tryz.prog 21 = 4 ∧
  zeroT Tryz.prog 21 = some (V.int IntKind.i32 (0)) ∧
  intT Tryz.prog 21 = some IntKind.i32 ∧
  szT Tryz.prog 22 = 1 ∧
  aggT Tryz.prog 22 = some false ∧
  bytesT Tryz.prog 22 = 24 ∧
  zeroT Tryz.prog 22 = some V.nilS ∧
  elemT Tryz.prog 22 = some 3 ∧
  rowT Tryz.prog 22 = true ∧
  szT Tryz.prog 25 = 1 ∧
  aggT Tryz.prog 25 = some false ∧
  bytesT Tryz.prog 25 = 8 ∧
  zeroT Tryz.prog 25 = some (V.int IntKind.i64 (0)) ∧
  intT Tryz.prog 25 = some IntKind.i64 ∧
  szT Tryz.prog 26 = 1 ∧
  aggT Tryz.prog 26 = some false ∧
  bytesT Tryz.prog 26 = 0 ∧
  zeroT Tryz.prog 26 = some V.junk ∧
  szT Tryz.prog 29 = 1 ∧
  aggT Tryz.prog 29 = some false ∧
  bytesT Tryz.prog 29 = 0 ∧
  zeroT Tryz.prog 29 = some V.junk ∧
  szT Tryz.prog 31 = 1 ∧
  aggT Tryz.prog 31 = some false ∧
  bytesT Tryz.prog 31 = 0 ∧
  zeroT Tryz.prog 31 = some V.junk ∧
  szT Tryz.prog 35 = 1 ∧
  aggT Tryz.prog 35 = some false ∧
  bytesT Tryz.prog 35 = 24 ∧
  zeroT Tryz.prog 35 = some V.nilS ∧
  elemT Tryz.prog 35 = some 9 ∧
  rowT Tryz.prog 35 = true ∧
  szT Tryz.prog 37 = 1 ∧
  aggT Tryz.prog 37 = some false ∧
  bytesT Tryz.prog 37 = 8 ∧
  zeroT Tryz.prog 37 = some V.nilF ∧
  szT Tryz.prog 38 = 1 ∧
  aggT Tryz.prog 38 = some false ∧
  bytesT Tryz.prog 38 = 0 ∧
  zeroT Tryz.prog 38 = some V.junk ∧
  szT Tryz.prog 42 = 1 ∧
  aggT Tryz.prog 42 = some false ∧
  bytesT Tryz.prog 42 = 8 ∧
  zeroT Tryz.prog 42 = some V.nilP ∧
  szT Tryz.prog 43 = 1 ∧
  aggT Tryz.prog 43 = some false ∧
  bytesT Tryz.prog 43 = 24 ∧
  zeroT Tryz.prog 43 = some V.nilS ∧
  elemT Tryz.prog 43 = some 3 ∧
  rowT Tryz.prog 43 = true ∧
  szT Tryz.prog 45 = 2 ∧
  aggT Tryz.prog 45 = some true ∧
  bytesT Tryz.prog 45 = 32 ∧
  zeroT Tryz.prog 45 = some (V.agg [V.bool false, V.nilS]) ∧
  fldT Tryz.prog 45 0 = some (0, 4) ∧
  fldT Tryz.prog 45 1 = some (1, 43) ∧
  structT Tryz.prog 45 = true ∧
  szT Tryz.prog 48 = 1 ∧
  aggT Tryz.prog 48 = some false ∧
  bytesT Tryz.prog 48 = 8 ∧
  zeroT Tryz.prog 48 = some V.nilF ∧
  szT Tryz.prog 49 = 1 ∧
  aggT Tryz.prog 49 = some false ∧
  bytesT Tryz.prog 49 = 0 ∧
  zeroT Tryz.prog 49 = some V.junk ∧
  szT Tryz.prog 53 = 2 ∧
  aggT Tryz.prog 53 = some true ∧
  bytesT Tryz.prog 53 = 32 ∧
  zeroT Tryz.prog 53 = some (V.agg [V.bool false, V.nilS]) ∧
  fldT Tryz.prog 53 0 = some (0, 4) ∧
  fldT Tryz.prog 53 1 = some (1, 22) ∧
  structT Tryz.prog 53 = true ∧
  szT Tryz.prog 55 = 1 ∧
  aggT Tryz.prog 55 = some false ∧
  bytesT Tryz.prog 55 = 0 ∧
  zeroT Tryz.prog 55 = some V.junk ∧
  szT Tryz.prog 67 = 1 ∧
  aggT Tryz.prog 67 = some false ∧
  bytesT Tryz.prog 67 = 16 ∧
  zeroT Tryz.prog 67 = some V.nilI ∧
  szT Tryz.prog 68 = 1 ∧
  aggT Tryz.prog 68 = some false ∧
  bytesT Tryz.prog 68 = 0 ∧
  zeroT Tryz.prog 68 = some V.junk ∧
  szT Tryz.prog 70 = 1 ∧
  aggT Tryz.prog 70 = some false ∧
  bytesT Tryz.prog 70 = 24 ∧
  zeroT Tryz.prog 70 = some V.nilS ∧
  elemT Tryz.prog 70 = some 5 ∧
  rowT Tryz.prog 70 = true ∧
  szT Tryz.prog 72 = 1 ∧
  aggT Tryz.prog 72 = some false ∧
  bytesT Tryz.prog 72 = 0 ∧
  zeroT Tryz.prog 72 = some V.junk ∧
  szT Tryz.prog 75 = 1 ∧
  aggT Tryz.prog 75 = some false ∧
  bytesT Tryz.prog 75 = 0 ∧
  zeroT Tryz.prog 75 = some V.junk ∧
  szT Tryz.prog 79 = 1 ∧
  aggT Tryz.prog 79 = some true ∧
  bytesT Tryz.prog 79 = 8 ∧
  zeroT Tryz.prog 79 = some (V.agg [V.int IntKind.i64 (0)]) ∧
  fldT Tryz.prog 79 0 = some (0, 25) ∧
  structT Tryz.prog 79 = true ∧
  szT Tryz.prog 80 = 1 ∧
  aggT Tryz.prog 80 = some false ∧
  bytesT Tryz.prog 80 = 0 ∧
  zeroT Tryz.prog 80 = some V.junk ∧
  szT Tryz.prog 81 = 1 ∧
  aggT Tryz.prog 81 = some false ∧
  bytesT Tryz.prog 81 = 0 ∧
  zeroT Tryz.prog 81 = some V.junk ∧
  szT Tryz.prog 92 = 256 ∧
  aggT Tryz.prog 92 = some true ∧
  bytesT Tryz.prog 92 = 256 ∧
  zeroT Tryz.prog 92 = some (V.agg (zB.map V.bool)) ∧
  arrT Tryz.prog 92 = some (256, 4) ∧
  szT Tryz.prog 93 = 1 ∧
  aggT Tryz.prog 93 = some false ∧
  bytesT Tryz.prog 93 = 0 ∧
  zeroT Tryz.prog 93 = some V.junk ∧
  szT Tryz.prog 96 = 1 ∧
  aggT Tryz.prog 96 = some false ∧
  bytesT Tryz.prog 96 = 8 ∧
  zeroT Tryz.prog 96 = some V.nilP ∧
  szT Tryz.prog 98 = 1 ∧
  aggT Tryz.prog 98 = some false ∧
  bytesT Tryz.prog 98 = 8 ∧
  zeroT Tryz.prog 98 = some (V.int IntKind.i64 (0)) ∧
  intT Tryz.prog 98 = some IntKind.i64 ∧
  szT Tryz.prog 99 = 1 ∧
  aggT Tryz.prog 99 = some false ∧
  bytesT Tryz.prog 99 = 0 ∧
  zeroT Tryz.prog 99 = some V.junk ∧
  szT Tryz.prog 101 = 1 ∧
  aggT Tryz.prog 101 = some false ∧
  bytesT Tryz.prog 101 = 8 ∧
  zeroT Tryz.prog 101 = some V.nilP ∧
  szT Tryz.prog 107 = 1 ∧
  aggT Tryz.prog 107 = some false ∧
  bytesT Tryz.prog 107 = 0 ∧
  zeroT Tryz.prog 107 = some V.junk ∧
  hasT Tryz.prog 0 = true ∧
  concT Tryz.prog 0 = true ∧
  hasT Tryz.prog 2 = true ∧
  concT Tryz.prog 2 = true ∧
  hasT Tryz.prog 3 = true ∧
  concT Tryz.prog 3 = true ∧
  Tryz.prog.underlying 4 = some TypeDesc.bool ∧
  hasT Tryz.prog 4 = true ∧
  concT Tryz.prog 4 = true ∧
  hasT Tryz.prog 5 = true ∧
  concT Tryz.prog 5 = true ∧
  elemT Tryz.prog 9 = none ∧
  arrT Tryz.prog 9 = none ∧
  hasT Tryz.prog 9 = true ∧
  concT Tryz.prog 9 = true ∧
  Tryz.prog.underlying 20 = some (TypeDesc.interface { toList := [] }) ∧
  hasT Tryz.prog 21 = true ∧
  concT Tryz.prog 21 = true ∧
  arrT Tryz.prog 22 = none ∧
  Tryz.prog.underlying 22 = some (TypeDesc.slice 3) ∧
  hasT Tryz.prog 22 = true ∧
  concT Tryz.prog 22 = true ∧
  hasT Tryz.prog 25 = true ∧
  concT Tryz.prog 25 = true ∧
  hasT Tryz.prog 26 = true ∧
  concT Tryz.prog 26 = true ∧
  hasT Tryz.prog 29 = true ∧
  concT Tryz.prog 29 = true ∧
  hasT Tryz.prog 31 = true ∧
  concT Tryz.prog 31 = true ∧
  arrT Tryz.prog 35 = none ∧
  Tryz.prog.underlying 35 = some (TypeDesc.slice 9) ∧
  hasT Tryz.prog 35 = true ∧
  concT Tryz.prog 35 = true ∧
  hasT Tryz.prog 37 = true ∧
  concT Tryz.prog 37 = true ∧
  hasT Tryz.prog 38 = true ∧
  concT Tryz.prog 38 = true ∧
  hasT Tryz.prog 42 = true ∧
  concT Tryz.prog 42 = true ∧
  arrT Tryz.prog 43 = none ∧
  Tryz.prog.underlying 43 = some (TypeDesc.slice 3) ∧
  hasT Tryz.prog 43 = true ∧
  concT Tryz.prog 43 = true ∧
  hasT Tryz.prog 45 = true ∧
  concT Tryz.prog 45 = true ∧
  hasT Tryz.prog 48 = true ∧
  concT Tryz.prog 48 = true ∧
  hasT Tryz.prog 49 = true ∧
  concT Tryz.prog 49 = true ∧
  hasT Tryz.prog 53 = true ∧
  concT Tryz.prog 53 = true ∧
  hasT Tryz.prog 55 = true ∧
  concT Tryz.prog 55 = true ∧
  Tryz.prog.underlying 67 = some (TypeDesc.interface { toList := [("Error", 62)] }) ∧
  hasT Tryz.prog 68 = true ∧
  concT Tryz.prog 68 = true ∧
  arrT Tryz.prog 70 = none ∧
  Tryz.prog.underlying 70 = some (TypeDesc.slice 5) ∧
  hasT Tryz.prog 70 = true ∧
  concT Tryz.prog 70 = true ∧
  hasT Tryz.prog 72 = true ∧
  concT Tryz.prog 72 = true ∧
  hasT Tryz.prog 75 = true ∧
  concT Tryz.prog 75 = true ∧
  hasT Tryz.prog 79 = true ∧
  concT Tryz.prog 79 = true ∧
  hasT Tryz.prog 80 = true ∧
  concT Tryz.prog 80 = true ∧
  hasT Tryz.prog 81 = true ∧
  concT Tryz.prog 81 = true ∧
  hasT Tryz.prog 92 = true ∧
  concT Tryz.prog 92 = true ∧
  hasT Tryz.prog 93 = true ∧
  concT Tryz.prog 93 = true ∧
  hasT Tryz.prog 96 = true ∧
  concT Tryz.prog 96 = true ∧
  hasT Tryz.prog 98 = true ∧
  concT Tryz.prog 98 = true ∧
  hasT Tryz.prog 99 = true ∧
  concT Tryz.prog 99 = true ∧
  hasT Tryz.prog 101 = true ∧
  concT Tryz.prog 101 = true ∧
  hasT Tryz.prog 107 = true ∧
  concT Tryz.prog 107 = true :=
  ⟨by kernel_rfl, by kernel_rfl, by kernel_rfl, by kernel_rfl, by kernel_rfl, by kernel_rfl, by kernel_rfl, by kernel_rfl, by kernel_rfl, by kernel_rfl, by kernel_rfl, by kernel_rfl, by kernel_rfl, by kernel_rfl, by kernel_rfl, by kernel_rfl, by kernel_rfl, by kernel_rfl, by kernel_rfl, by kernel_rfl, by kernel_rfl, by kernel_rfl, by kernel_rfl, by kernel_rfl, by kernel_rfl, by kernel_rfl, by kernel_rfl, by kernel_rfl, by kernel_rfl, by kernel_rfl, by kernel_rfl, by kernel_rfl, by kernel_rfl, by kernel_rfl, by kernel_rfl, by kernel_rfl, by kernel_rfl, by kernel_rfl, by kernel_rfl, by kernel_rfl, by kernel_rfl, by kernel_rfl, by kernel_rfl, by kernel_rfl, by kernel_rfl, by kernel_rfl, by kernel_rfl, by kernel_rfl, by kernel_rfl, by kernel_rfl, by kernel_rfl, by kernel_rfl, by kernel_rfl, by kernel_rfl, by kernel_rfl, by kernel_rfl, by kernel_rfl, by kernel_rfl, by kernel_rfl, by kernel_rfl, by kernel_rfl, by kernel_rfl, by kernel_rfl, by kernel_rfl, by kernel_rfl, by kernel_rfl, by kernel_rfl, by kernel_rfl, by kernel_rfl, by kernel_rfl, by kernel_rfl, by kernel_rfl, by kernel_rfl, by kernel_rfl, by kernel_rfl, by kernel_rfl, by kernel_rfl, by kernel_rfl, by kernel_rfl, by kernel_rfl, by kernel_rfl, by kernel_rfl, by kernel_rfl, by kernel_rfl, by kernel_rfl, by kernel_rfl, by kernel_rfl, by kernel_rfl, by kernel_rfl, by kernel_rfl, by kernel_rfl, by kernel_rfl, by kernel_rfl, by kernel_rfl, by kernel_rfl, by kernel_rfl, by kernel_rfl, by kernel_rfl, by kernel_rfl, by kernel_rfl, by kernel_rfl, by kernel_rfl, by kernel_rfl, by kernel_rfl, by kernel_rfl, by kernel_rfl, by kernel_rfl, by kernel_rfl, by kernel_rfl, by kernel_rfl, by kernel_rfl, by kernel_rfl, by kernel_rfl, by kernel_rfl, by kernel_rfl, by kernel_rfl, by kernel_rfl, by kernel_rfl, by kernel_rfl, by kernel_rfl, by kernel_rfl, by kernel_rfl, by kernel_rfl, by kernel_rfl, by kernel_rfl, by kernel_rfl, by kernel_rfl, by kernel_rfl, by kernel_rfl, by kernel_rfl, by kernel_rfl, by kernel_rfl, by kernel_rfl, by kernel_rfl, by kernel_rfl, by kernel_rfl, by kernel_rfl, by kernel_rfl, by kernel_rfl, by kernel_rfl, by kernel_rfl, by kernel_rfl, by kernel_rfl, by kernel_rfl, by kernel_rfl, by kernel_rfl, by kernel_rfl, by kernel_rfl, by kernel_rfl, by kernel_rfl, by kernel_rfl, by kernel_rfl, by kernel_rfl, by kernel_rfl, by kernel_rfl, by kernel_rfl, by kernel_rfl, by kernel_rfl, by kernel_rfl, by kernel_rfl, by kernel_rfl, by kernel_rfl, by kernel_rfl, by kernel_rfl, by kernel_rfl, by kernel_rfl, by kernel_rfl, by kernel_rfl, by kernel_rfl, by kernel_rfl, by kernel_rfl, by kernel_rfl, by kernel_rfl, by kernel_rfl, by kernel_rfl, by kernel_rfl, by kernel_rfl, by kernel_rfl, by kernel_rfl, by kernel_rfl, by kernel_rfl, by kernel_rfl, by kernel_rfl, by kernel_rfl, by kernel_rfl, by kernel_rfl, by kernel_rfl, by kernel_rfl, by kernel_rfl, by kernel_rfl, by kernel_rfl, by kernel_rfl, by kernel_rfl, by kernel_rfl, by kernel_rfl, by kernel_rfl, by kernel_rfl, by kernel_rfl, by kernel_rfl, by kernel_rfl, by kernel_rfl, by kernel_rfl, by kernel_rfl, by kernel_rfl, by kernel_rfl, by kernel_rfl, by kernel_rfl, by kernel_rfl, by kernel_rfl, by kernel_rfl, by kernel_rfl, by kernel_rfl, by kernel_rfl, by kernel_rfl, by kernel_rfl, by kernel_rfl, by kernel_rfl, by kernel_rfl, by kernel_rfl, by kernel_rfl, by kernel_rfl, by kernel_rfl, by kernel_rfl, by kernel_rfl, by kernel_rfl, by kernel_rfl, by kernel_rfl, by kernel_rfl, by kernel_rfl, by kernel_rfl, by kernel_rfl, by kernel_rfl, by kernel_rfl, by kernel_rfl, by kernel_rfl, by kernel_rfl, by kernel_rfl, by kernel_rfl, by kernel_rfl, by kernel_rfl, by kernel_rfl, by kernel_rfl, by kernel_rfl, by kernel_rfl, by kernel_rfl, by kernel_rfl, by kernel_rfl, by kernel_rfl, by kernel_rfl, by kernel_rfl, by kernel_rfl, by kernel_rfl, by kernel_rfl, by kernel_rfl, by kernel_rfl, by kernel_rfl, by kernel_rfl, by kernel_rfl, by kernel_rfl, by kernel_rfl, by kernel_rfl, by kernel_rfl⟩
end Go.Vi
