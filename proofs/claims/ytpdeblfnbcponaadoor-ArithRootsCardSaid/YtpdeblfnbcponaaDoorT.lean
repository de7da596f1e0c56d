/-
  THE FUNCTIONS' FRAMES AND THE TYPES' FACTS, written by a program of mine (gen.py) off Lean's print of the loaded program.
-/
import Derived.Test.YtpdeblfnbcponaaDoorVC
import Derived.Test.YtpdeblfnbcponaaDoorProg
import Derived.KernelRfl
set_option linter.unusedSimpArgs false
set_option linter.unusedVariables false
set_option maxRecDepth 100000
namespace Go.Vi
open Go Go.Proofs

def h0 : FuncId → Hint
  | 3 => { keep := [0, 1, 4, 5, 6, 7, 8, 9, 10, 11, 12, 17, 38, 65], cnd := [17, 38, 65], frz := [5, 6, 7, 8, 9, 10, 11, 12], pro := [], imp := [] }
  | 4 => { keep := [0, 1, 4, 5, 6, 7, 8, 12, 33], cnd := [12, 33], frz := [5, 6, 7, 8], pro := [], imp := [] }
  | 5 => { keep := [0, 1, 2, 6, 7, 8, 9, 10, 17], cnd := [17], frz := [8, 9, 10, 11], pro := [], imp := [] }
  | 6 => { keep := [0, 1, 4, 5, 6, 7, 8, 9, 10, 11, 12, 13, 14, 19, 47, 67], cnd := [19, 47, 67], frz := [5, 6, 7, 8, 9, 10, 11, 12, 13, 14], pro := [], imp := [] }
  | 7 => { keep := [0, 1, 4, 5, 6, 7, 8, 10, 12, 13, 14, 16, 17, 19, 20, 25, 35, 96], cnd := [25, 35, 96], frz := [5, 6, 7, 8, 9, 10, 11, 12, 13, 14, 15, 16, 17, 18, 19, 20], pro := [], imp := [] }
  | 8 => { keep := [0, 1, 2, 3, 4, 10, 11, 12, 13, 15, 17, 19, 20, 21, 22, 23, 24, 25, 26, 28, 30, 32, 34, 36, 37, 38, 39, 40, 41, 49, 91, 112, 157], cnd := [49, 91, 112, 157], frz := [11, 12, 13, 14, 15, 16, 17, 18, 19, 20, 21, 22, 23, 24, 25, 26, 27, 28, 29, 30, 31, 32, 33, 34, 35, 36, 37, 38, 39, 40, 41], pro := [], imp := [] }
  | 9 => { keep := [0, 2], cnd := [], frz := [], pro := [], imp := [] }
  | 10 => { keep := [0, 1, 2, 3, 4, 5], cnd := [], frz := [1, 2, 3, 4, 5], pro := [], imp := [] }
  | 11 => { keep := [0, 1, 4, 5], cnd := [], frz := [], pro := [], imp := [] }
  | 12 => { keep := [0, 1, 4, 5, 6, 7, 8, 13], cnd := [13], frz := [], pro := [], imp := [] }
  | 13 => { keep := [0, 1, 4, 5, 6, 7, 8, 9, 10], cnd := [], frz := [9, 10], pro := [], imp := [] }
  | 14 => { keep := [0, 1, 4, 5, 6, 7, 8, 9, 10, 11, 16, 19], cnd := [16, 19], frz := [10, 11], pro := [], imp := [] }
  | 15 => { keep := [0, 1, 4, 5], cnd := [], frz := [], pro := [], imp := [] }
  | 16 => { keep := [0, 1, 4, 5, 6, 7, 8, 10, 15, 25], cnd := [15, 25], frz := [7, 8, 9, 10], pro := [], imp := [] }
  | 17 => { keep := [0, 1, 4, 5, 6, 7, 8], cnd := [], frz := [7, 8], pro := [], imp := [] }
  | 18 => { keep := [0, 1, 4, 5, 6, 7, 8, 11, 13, 24], cnd := [11, 13, 24], frz := [7, 8], pro := [], imp := [] }
  | 19 => { keep := [0, 1, 3, 4, 5, 6, 7, 8, 9, 10, 11, 37, 43, 55], cnd := [37, 43, 55], frz := [7, 9, 10, 11], pro := [], imp := [] }
  | 20 => { keep := [0, 1, 4, 5, 6, 7, 8, 9, 10, 13, 19, 23, 25, 40, 47, 73], cnd := [13, 19, 23, 25, 40, 47, 73], frz := [8, 9, 10], pro := [], imp := [] }
  | 21 => { keep := [0, 2], cnd := [], frz := [], pro := [], imp := [] }
  | 22 => { keep := [0, 1, 2, 6, 7], cnd := [], frz := [8], pro := [], imp := [] }
  | 23 => { keep := [0, 1, 2, 5], cnd := [], frz := [], pro := [], imp := [] }
  | 24 => { keep := [0, 1, 4, 5], cnd := [], frz := [], pro := [], imp := [] }
  | 25 => { keep := [0, 1, 2, 5], cnd := [], frz := [], pro := [], imp := [] }
  | 26 => { keep := [0, 2, 3], cnd := [], frz := [], pro := [], imp := [] }
  | 27 => { keep := [0, 1, 4, 5], cnd := [], frz := [], pro := [], imp := [] }
  | 28 => { keep := [0, 1, 4, 5, 6, 7, 12, 19, 20], cnd := [12, 19, 20], frz := [12, 20], pro := [], imp := [] }
  | 29 => { keep := [0, 1, 4, 5, 6, 7, 8, 13, 28, 30], cnd := [13, 28, 30], frz := [], pro := [], imp := [] }
  | 30 => { keep := [0, 2, 4, 18], cnd := [4, 18], frz := [0], pro := [], imp := [] }
  | 31 => { keep := [0, 2, 3, 11, 15, 33, 37, 49], cnd := [11, 15, 33, 37, 49], frz := [0, 3], pro := [], imp := [] }
  | 32 => { keep := [0, 1, 4, 5, 6, 11], cnd := [11], frz := [], pro := [], imp := [] }
  | 33 => { keep := [0, 1, 4, 5, 6, 7, 12], cnd := [12], frz := [], pro := [], imp := [] }
  | 34 => { keep := [0, 2, 3, 4, 7], cnd := [7], frz := [], pro := [], imp := [] }
  | 35 => { keep := [0, 2, 10], cnd := [10], frz := [], pro := [], imp := [] }
  | 36 => { keep := [0, 1, 4, 5, 6, 7, 8, 17, 21], cnd := [17, 21], frz := [6, 8], pro := [7], imp := [75] }
  | 37 => { keep := [0, 1, 3, 4, 5, 6, 8, 21, 22, 23, 24], cnd := [24], frz := [6, 8], pro := [], imp := [] }
  | 38 => { keep := [0, 2, 3, 4, 5, 8, 15], cnd := [8, 15], frz := [5], pro := [], imp := [] }
  | 39 => { keep := [0, 2], cnd := [], frz := [], pro := [], imp := [] }
  | 40 => { keep := [0, 1, 4], cnd := [], frz := [], pro := [], imp := [] }
  | 41 => { keep := [0, 2], cnd := [], frz := [], pro := [], imp := [] }
  | 42 => { keep := [0, 1, 2, 6, 7], cnd := [], frz := [], pro := [], imp := [] }
  | 43 => { keep := [0, 1, 2, 3, 4], cnd := [], frz := [], pro := [], imp := [] }
  | 44 => { keep := [0, 1, 4, 12], cnd := [12], frz := [], pro := [], imp := [] }
  | 45 => { keep := [0, 2, 3, 4, 8, 16], cnd := [8, 16], frz := [0, 4], pro := [], imp := [] }
  | 46 => { keep := [0, 1, 2, 3, 7], cnd := [7], frz := [], pro := [], imp := [] }
  | 47 => { keep := [0, 1, 2, 3, 17], cnd := [17], frz := [3], pro := [], imp := [] }
  | 48 => { keep := [0, 1, 4, 5, 6, 7, 8, 9, 20, 30, 44], cnd := [20, 30, 44], frz := [6, 7, 8, 9], pro := [], imp := [] }
  | 49 => { keep := [0, 2, 3, 4, 7, 14], cnd := [7, 14], frz := [2, 4], pro := [], imp := [] }
  | 50 => { keep := [0, 2, 3, 4, 5, 6, 7, 9, 21, 30, 31, 32, 33], cnd := [21, 33], frz := [3, 4, 6, 7, 9], pro := [5], imp := [] }
  | 51 => { keep := [0, 1, 5], cnd := [5], frz := [], pro := [], imp := [] }
  | 52 => { keep := [0, 1, 4, 5, 6, 7, 8, 9, 10, 11, 12, 13, 14, 18, 23, 64, 97], cnd := [18, 23, 64, 97], frz := [0, 1, 7, 8, 9, 12, 13, 14], pro := [], imp := [] }
  | 53 => { keep := [0, 1, 4], cnd := [], frz := [], pro := [], imp := [] }
  | 54 => { keep := [0, 1, 2, 3, 12], cnd := [12], frz := [], pro := [], imp := [] }
  | 55 => { keep := [0, 1, 4, 5, 6, 7, 8, 17, 33], cnd := [17, 33], frz := [8], pro := [], imp := [] }
  | 56 => { keep := [0, 1, 2, 3, 4, 8, 11, 20], cnd := [8, 11, 20], frz := [4], pro := [], imp := [] }
  | 57 => { keep := [0, 1, 2, 3, 4, 5, 6, 8, 15], cnd := [15], frz := [5, 6, 7, 8], pro := [], imp := [] }
  | 58 => { keep := [0, 1, 2, 6, 7, 8, 13, 15, 18, 19, 20, 27], cnd := [13, 15, 20, 27], frz := [], pro := [], imp := [] }
  | 59 => { keep := [0, 1, 4, 5, 6, 7, 15, 25, 29, 37], cnd := [15, 25, 29, 37], frz := [7], pro := [], imp := [] }
  | 60 => { keep := [0, 1, 2, 4, 5, 6], cnd := [], frz := [5], pro := [], imp := [] }
  | 61 => { keep := [0, 1, 4, 5, 10, 21, 32], cnd := [10, 21, 32], frz := [5], pro := [], imp := [] }
  | 62 => { keep := [0, 2, 4], cnd := [4], frz := [], pro := [], imp := [] }
  | 63 => { keep := [0, 2, 14], cnd := [14], frz := [], pro := [], imp := [] }
  | 64 => { keep := [0, 1, 4, 5, 10, 15, 20, 31, 40], cnd := [10, 15, 20, 31, 40], frz := [5], pro := [], imp := [] }
  | 65 => { keep := [0, 2], cnd := [], frz := [], pro := [], imp := [] }
  | 66 => { keep := [0, 1, 2, 3, 4, 9, 23], cnd := [9, 23], frz := [], pro := [], imp := [] }
  | 67 => { keep := [0, 1, 2, 4], cnd := [], frz := [], pro := [], imp := [] }
  | 68 => { keep := [0, 1, 2], cnd := [], frz := [], pro := [], imp := [] }
  | 69 => { keep := [0, 1, 2, 3, 4], cnd := [], frz := [], pro := [], imp := [] }
  | 70 => { keep := [0, 1, 2, 3, 4, 9, 24], cnd := [9, 24], frz := [], pro := [], imp := [] }
  | 71 => { keep := [0, 1, 4], cnd := [], frz := [], pro := [], imp := [] }
  | 72 => { keep := [0, 1, 4, 5, 6, 12, 21, 34], cnd := [12, 21, 34], frz := [6], pro := [], imp := [] }
  | 73 => { keep := [0, 2], cnd := [], frz := [], pro := [], imp := [] }
  | 74 => { keep := [0, 1, 4, 5, 6, 7, 8, 16], cnd := [16], frz := [8], pro := [], imp := [] }
  | 75 => { keep := [0, 2], cnd := [], frz := [], pro := [], imp := [98] }
  | 76 => { keep := [0, 1, 4], cnd := [], frz := [], pro := [], imp := [] }
  | 77 => { keep := [0, 1, 3], cnd := [], frz := [], pro := [], imp := [] }
  | 78 => { keep := [0, 1, 4, 5, 6, 7, 18], cnd := [18], frz := [6, 7], pro := [5], imp := [] }
  | 79 => { keep := [0, 1, 4, 5, 6, 7, 8, 9, 16, 17, 18, 19, 30], cnd := [19, 30], frz := [6, 7, 8, 9], pro := [], imp := [] }
  | 80 => { keep := [0, 2, 3, 4, 5, 12], cnd := [12], frz := [5], pro := [], imp := [] }
  | 81 => { keep := [0, 2], cnd := [], frz := [], pro := [], imp := [] }
  | 82 => { keep := [0, 1, 4, 5, 7, 8, 9, 16], cnd := [9, 16], frz := [], pro := [], imp := [] }
  | 83 => { keep := [0, 1, 4, 5], cnd := [], frz := [], pro := [], imp := [] }
  | 84 => { keep := [0, 1, 4, 8], cnd := [8], frz := [], pro := [], imp := [] }
  | 85 => { keep := [0, 1, 4, 5, 6, 7, 8, 13, 14, 15, 28], cnd := [15, 28], frz := [6, 7, 8], pro := [], imp := [] }
  | 86 => { keep := [0, 2, 3, 4, 5, 6, 9, 10, 11, 12, 13, 29], cnd := [9, 13, 29], frz := [4, 5, 6], pro := [3], imp := [104] }
  | 87 => { keep := [0, 1, 4, 5, 6, 7, 8, 13, 25, 33], cnd := [13, 25, 33], frz := [6, 7, 8], pro := [], imp := [] }
  | 88 => { keep := [0, 2], cnd := [], frz := [], pro := [], imp := [] }
  | 89 => { keep := [0, 1, 4, 5, 6, 7, 22, 28, 38], cnd := [22, 28, 38], frz := [6, 7], pro := [], imp := [] }
  | 90 => { keep := [0, 1, 4, 7], cnd := [7], frz := [], pro := [], imp := [] }
  | 91 => { keep := [0, 1, 4, 13], cnd := [13], frz := [], pro := [], imp := [] }
  | 92 => { keep := [0, 1, 4, 16], cnd := [16], frz := [], pro := [], imp := [] }
  | 93 => { keep := [0, 2, 3, 4, 5, 9, 16], cnd := [9, 16], frz := [4, 5], pro := [], imp := [] }
  | 94 => { keep := [0, 1, 4, 7, 12], cnd := [7, 12], frz := [], pro := [], imp := [] }
  | 95 => { keep := [0, 1, 4, 7, 15], cnd := [7, 15], frz := [], pro := [], imp := [] }
  | 96 => { keep := [0, 1, 4, 5, 6, 9, 18], cnd := [9, 18], frz := [5], pro := [], imp := [] }
  | 97 => { keep := [0, 1, 4, 5, 6, 9, 17, 26], cnd := [9, 17, 26], frz := [5, 6], pro := [], imp := [] }
  | 98 => { keep := [0, 2, 3, 9], cnd := [9], frz := [2, 3], pro := [], imp := [] }
  | 99 => { keep := [0, 1, 4, 5, 7, 8, 9, 16], cnd := [9, 16], frz := [], pro := [], imp := [] }
  | 100 => { keep := [0, 2, 3, 4, 5, 6, 8, 9, 10, 30, 39, 44, 47, 48, 49, 50, 56, 66], cnd := [30, 39, 44, 50, 56, 66], frz := [0, 4, 5, 8], pro := [], imp := [] }
  | 101 => { keep := [0, 1, 2, 3, 4, 10, 11, 12, 19, 26, 34], cnd := [12, 19, 26, 34], frz := [12, 19, 26, 34], pro := [], imp := [] }
  | 102 => { keep := [0, 2], cnd := [], frz := [], pro := [], imp := [] }
  | 103 => { keep := [0, 1, 4, 5, 9], cnd := [9], frz := [], pro := [], imp := [] }
  | 104 => { keep := [0, 2], cnd := [], frz := [], pro := [], imp := [116] }
  | 105 => { keep := [0, 1, 4], cnd := [], frz := [], pro := [], imp := [] }
  | 106 => { keep := [0, 1, 4], cnd := [], frz := [], pro := [], imp := [] }
  | 116 => { keep := [0, 2, 3, 9], cnd := [9], frz := [2, 3], pro := [], imp := [] }
  | 127 => { keep := [0, 1, 4], cnd := [], frz := [], pro := [], imp := [] }
  | 129 => { keep := [0, 2], cnd := [], frz := [], pro := [], imp := [] }
  | 131 => { keep := [0, 2], cnd := [], frz := [], pro := [], imp := [] }
  | _ => { keep := [], cnd := [], frz := [], pro := [], imp := [] }
def okL : List FuncId := [3, 4, 5, 6, 7, 8, 9, 10, 11, 12, 13, 14, 15, 16, 17, 18, 19, 20, 21, 22, 23, 24, 25, 26, 27, 28, 29, 30, 31, 32, 33, 34, 35, 36, 37, 38, 39, 40, 41, 42, 43, 44, 45, 46, 47, 48, 49, 50, 51, 52, 53, 54, 55, 56, 57, 58, 59, 60, 61, 62, 63, 64, 65, 66, 67, 68, 69, 70, 71, 72, 73, 74, 75, 76, 77, 78, 79, 80, 81, 82, 83, 84, 85, 86, 87, 88, 89, 90, 91, 92, 93, 94, 95, 96, 97, 98, 99, 100, 101, 102, 103, 104, 105, 106, 116, 127, 129, 131]
noncomputable abbrev Cx (H : FuncId → Option (List V → Option V)) : Ctx := { P := Tryd.prog, ok := okL, hint := h0, hand := H }
theorem good : ∀ g ∈ okL, GoodF Tryd.prog g := by
  intro g hg
  simp only [okL, List.mem_cons, List.not_mem_nil, or_false] at hg
  rcases hg with rfl | rfl | rfl | rfl | rfl | rfl | rfl | rfl | rfl | rfl | rfl | rfl | rfl | rfl | rfl | rfl | rfl | rfl | rfl | rfl | rfl | rfl | rfl | rfl | rfl | rfl | rfl | rfl | rfl | rfl | rfl | rfl | rfl | rfl | rfl | rfl | rfl | rfl | rfl | rfl | rfl | rfl | rfl | rfl | rfl | rfl | rfl | rfl | rfl | rfl | rfl | rfl | rfl | rfl | rfl | rfl | rfl | rfl | rfl | rfl | rfl | rfl | rfl | rfl | rfl | rfl | rfl | rfl | rfl | rfl | rfl | rfl | rfl | rfl | rfl | rfl | rfl | rfl | rfl | rfl | rfl | rfl | rfl | rfl | rfl | rfl | rfl | rfl | rfl | rfl | rfl | rfl | rfl | rfl | rfl | rfl | rfl | rfl | rfl | rfl | rfl | rfl | rfl | rfl | rfl | rfl | rfl | rfl
  · exact ⟨Tryd.f3, _, Tryd.func3, by decide, rfl⟩
  · exact ⟨Tryd.f4, _, Tryd.func4, by decide, rfl⟩
  · exact ⟨Tryd.f5, _, Tryd.func5, by decide, rfl⟩
  · exact ⟨Tryd.f6, _, Tryd.func6, by decide, rfl⟩
  · exact ⟨Tryd.f7, _, Tryd.func7, by decide, rfl⟩
  · exact ⟨Tryd.f8, _, Tryd.func8, by decide, rfl⟩
  · exact ⟨Tryd.f9, _, Tryd.func9, by decide, rfl⟩
  · exact ⟨Tryd.f10, _, Tryd.func10, by decide, rfl⟩
  · exact ⟨Tryd.f11, _, Tryd.func11, by decide, rfl⟩
  · exact ⟨Tryd.f12, _, Tryd.func12, by decide, rfl⟩
  · exact ⟨Tryd.f13, _, Tryd.func13, by decide, rfl⟩
  · exact ⟨Tryd.f14, _, Tryd.func14, by decide, rfl⟩
  · exact ⟨Tryd.f15, _, Tryd.func15, by decide, rfl⟩
  · exact ⟨Tryd.f16, _, Tryd.func16, by decide, rfl⟩
  · exact ⟨Tryd.f17, _, Tryd.func17, by decide, rfl⟩
  · exact ⟨Tryd.f18, _, Tryd.func18, by decide, rfl⟩
  · exact ⟨Tryd.f19, _, Tryd.func19, by decide, rfl⟩
  · exact ⟨Tryd.f20, _, Tryd.func20, by decide, rfl⟩
  · exact ⟨Tryd.f21, _, Tryd.func21, by decide, rfl⟩
  · exact ⟨Tryd.f22, _, Tryd.func22, by decide, rfl⟩
  · exact ⟨Tryd.f23, _, Tryd.func23, by decide, rfl⟩
  · exact ⟨Tryd.f24, _, Tryd.func24, by decide, rfl⟩
  · exact ⟨Tryd.f25, _, Tryd.func25, by decide, rfl⟩
  · exact ⟨Tryd.f26, _, Tryd.func26, by decide, rfl⟩
  · exact ⟨Tryd.f27, _, Tryd.func27, by decide, rfl⟩
  · exact ⟨Tryd.f28, _, Tryd.func28, by decide, rfl⟩
  · exact ⟨Tryd.f29, _, Tryd.func29, by decide, rfl⟩
  · exact ⟨Tryd.f30, _, Tryd.func30, by decide, rfl⟩
  · exact ⟨Tryd.f31, _, Tryd.func31, by decide, rfl⟩
  · exact ⟨Tryd.f32, _, Tryd.func32, by decide, rfl⟩
  · exact ⟨Tryd.f33, _, Tryd.func33, by decide, rfl⟩
  · exact ⟨Tryd.f34, _, Tryd.func34, by decide, rfl⟩
  · exact ⟨Tryd.f35, _, Tryd.func35, by decide, rfl⟩
  · exact ⟨Tryd.f36, _, Tryd.func36, by decide, rfl⟩
  · exact ⟨Tryd.f37, _, Tryd.func37, by decide, rfl⟩
  · exact ⟨Tryd.f38, _, Tryd.func38, by decide, rfl⟩
  · exact ⟨Tryd.f39, _, Tryd.func39, by decide, rfl⟩
  · exact ⟨Tryd.f40, _, Tryd.func40, by decide, rfl⟩
  · exact ⟨Tryd.f41, _, Tryd.func41, by decide, rfl⟩
  · exact ⟨Tryd.f42, _, Tryd.func42, by decide, rfl⟩
  · exact ⟨Tryd.f43, _, Tryd.func43, by decide, rfl⟩
  · exact ⟨Tryd.f44, _, Tryd.func44, by decide, rfl⟩
  · exact ⟨Tryd.f45, _, Tryd.func45, by decide, rfl⟩
  · exact ⟨Tryd.f46, _, Tryd.func46, by decide, rfl⟩
  · exact ⟨Tryd.f47, _, Tryd.func47, by decide, rfl⟩
  · exact ⟨Tryd.f48, _, Tryd.func48, by decide, rfl⟩
  · exact ⟨Tryd.f49, _, Tryd.func49, by decide, rfl⟩
  · exact ⟨Tryd.f50, _, Tryd.func50, by decide, rfl⟩
  · exact ⟨Tryd.f51, _, Tryd.func51, by decide, rfl⟩
  · exact ⟨Tryd.f52, _, Tryd.func52, by decide, rfl⟩
  · exact ⟨Tryd.f53, _, Tryd.func53, by decide, rfl⟩
  · exact ⟨Tryd.f54, _, Tryd.func54, by decide, rfl⟩
  · exact ⟨Tryd.f55, _, Tryd.func55, by decide, rfl⟩
  · exact ⟨Tryd.f56, _, Tryd.func56, by decide, rfl⟩
  · exact ⟨Tryd.f57, _, Tryd.func57, by decide, rfl⟩
  · exact ⟨Tryd.f58, _, Tryd.func58, by decide, rfl⟩
  · exact ⟨Tryd.f59, _, Tryd.func59, by decide, rfl⟩
  · exact ⟨Tryd.f60, _, Tryd.func60, by decide, rfl⟩
  · exact ⟨Tryd.f61, _, Tryd.func61, by decide, rfl⟩
  · exact ⟨Tryd.f62, _, Tryd.func62, by decide, rfl⟩
  · exact ⟨Tryd.f63, _, Tryd.func63, by decide, rfl⟩
  · exact ⟨Tryd.f64, _, Tryd.func64, by decide, rfl⟩
  · exact ⟨Tryd.f65, _, Tryd.func65, by decide, rfl⟩
  · exact ⟨Tryd.f66, _, Tryd.func66, by decide, rfl⟩
  · exact ⟨Tryd.f67, _, Tryd.func67, by decide, rfl⟩
  · exact ⟨Tryd.f68, _, Tryd.func68, by decide, rfl⟩
  · exact ⟨Tryd.f69, _, Tryd.func69, by decide, rfl⟩
  · exact ⟨Tryd.f70, _, Tryd.func70, by decide, rfl⟩
  · exact ⟨Tryd.f71, _, Tryd.func71, by decide, rfl⟩
  · exact ⟨Tryd.f72, _, Tryd.func72, by decide, rfl⟩
  · exact ⟨Tryd.f73, _, Tryd.func73, by decide, rfl⟩
  · exact ⟨Tryd.f74, _, Tryd.func74, by decide, rfl⟩
  · exact ⟨Tryd.f75, _, Tryd.func75, by decide, rfl⟩
  · exact ⟨Tryd.f76, _, Tryd.func76, by decide, rfl⟩
  · exact ⟨Tryd.f77, _, Tryd.func77, by decide, rfl⟩
  · exact ⟨Tryd.f78, _, Tryd.func78, by decide, rfl⟩
  · exact ⟨Tryd.f79, _, Tryd.func79, by decide, rfl⟩
  · exact ⟨Tryd.f80, _, Tryd.func80, by decide, rfl⟩
  · exact ⟨Tryd.f81, _, Tryd.func81, by decide, rfl⟩
  · exact ⟨Tryd.f82, _, Tryd.func82, by decide, rfl⟩
  · exact ⟨Tryd.f83, _, Tryd.func83, by decide, rfl⟩
  · exact ⟨Tryd.f84, _, Tryd.func84, by decide, rfl⟩
  · exact ⟨Tryd.f85, _, Tryd.func85, by decide, rfl⟩
  · exact ⟨Tryd.f86, _, Tryd.func86, by decide, rfl⟩
  · exact ⟨Tryd.f87, _, Tryd.func87, by decide, rfl⟩
  · exact ⟨Tryd.f88, _, Tryd.func88, by decide, rfl⟩
  · exact ⟨Tryd.f89, _, Tryd.func89, by decide, rfl⟩
  · exact ⟨Tryd.f90, _, Tryd.func90, by decide, rfl⟩
  · exact ⟨Tryd.f91, _, Tryd.func91, by decide, rfl⟩
  · exact ⟨Tryd.f92, _, Tryd.func92, by decide, rfl⟩
  · exact ⟨Tryd.f93, _, Tryd.func93, by decide, rfl⟩
  · exact ⟨Tryd.f94, _, Tryd.func94, by decide, rfl⟩
  · exact ⟨Tryd.f95, _, Tryd.func95, by decide, rfl⟩
  · exact ⟨Tryd.f96, _, Tryd.func96, by decide, rfl⟩
  · exact ⟨Tryd.f97, _, Tryd.func97, by decide, rfl⟩
  · exact ⟨Tryd.f98, _, Tryd.func98, by decide, rfl⟩
  · exact ⟨Tryd.f99, _, Tryd.func99, by decide, rfl⟩
  · exact ⟨Tryd.f100, _, Tryd.func100, by decide, rfl⟩
  · exact ⟨Tryd.f101, _, Tryd.func101, by decide, rfl⟩
  · exact ⟨Tryd.f102, _, Tryd.func102, by decide, rfl⟩
  · exact ⟨Tryd.f103, _, Tryd.func103, by decide, rfl⟩
  · exact ⟨Tryd.f104, _, Tryd.func104, by decide, rfl⟩
  · exact ⟨Tryd.f105, _, Tryd.func105, by decide, rfl⟩
  · exact ⟨Tryd.f106, _, Tryd.func106, by decide, rfl⟩
  · exact ⟨Tryd.f116, _, Tryd.func116, by decide, rfl⟩
  · exact ⟨Tryd.f127, _, Tryd.func127, by decide, rfl⟩
  · exact ⟨Tryd.f129, _, Tryd.func129, by decide, rfl⟩
  · exact ⟨Tryd.f131, _, Tryd.func131, by decide, rfl⟩
theorem mixed : Tryd.prog.follows .mixedOrders = true := by kernel_rfl
/-- chiasmus/chiasmuslaw08.ArithProducts -/
noncomputable abbrev M3 (H : FuncId → Option (List V → Option V)) (n : Nat) : Mc := mcOf (Cx H) 3 Tryd.f3 n
theorem m3 (H n) : (M3 H n).E.keep = [0, 1, 4, 5, 6, 7, 8, 9, 10, 11, 12, 17, 38, 65] ∧ (M3 H n).E.cnd = [17, 38, 65] ∧ (M3 H n).E.frz = [5, 6, 7, 8, 9, 10, 11, 12] ∧ (M3 H n).E.pro = [] ∧ (M3 H n).E.imp = [] ∧ (M3 H n).E.n = 89 ∧ (M3 H n).E.lvl = 0 ∧ (M3 H n).E.P = Tryd.prog ∧ (M3 H n).fuel = n ∧ (M3 H n).C = H ∧ (M3 H n).E.ok = okL := ⟨rfl, rfl, rfl, rfl, rfl, rfl, rfl, rfl, rfl, rfl, rfl⟩
noncomputable abbrev c3 : Code := Tryd.f3.body.getD .skip
theorem s3 {H} (hH : SoundHand Tryd.prog (hand H)) {args out} (n : Nat) (hl : args.length ≤ 89) (hp : match out with | .ret v => pureR v = true | .pan v => pureR v = true) (h : Fin (M3 (hand H) n) Tryd.f3.results.toList (R (M3 (hand H) n) c3 .top ⟨params 0 args, [], fun _ => none, 0⟩) = some out) : SoundPure Tryd.prog 3 args out := sound_of (C := Cx (hand H)) hH good mixed Tryd.func3 rfl hl hp h
/-- chiasmus/chiasmuslaw08.ArithPowers -/
noncomputable abbrev M4 (H : FuncId → Option (List V → Option V)) (n : Nat) : Mc := mcOf (Cx H) 4 Tryd.f4 n
theorem m4 (H n) : (M4 H n).E.keep = [0, 1, 4, 5, 6, 7, 8, 12, 33] ∧ (M4 H n).E.cnd = [12, 33] ∧ (M4 H n).E.frz = [5, 6, 7, 8] ∧ (M4 H n).E.pro = [] ∧ (M4 H n).E.imp = [] ∧ (M4 H n).E.n = 57 ∧ (M4 H n).E.lvl = 0 ∧ (M4 H n).E.P = Tryd.prog ∧ (M4 H n).fuel = n ∧ (M4 H n).C = H ∧ (M4 H n).E.ok = okL := ⟨rfl, rfl, rfl, rfl, rfl, rfl, rfl, rfl, rfl, rfl, rfl⟩
noncomputable abbrev c4 : Code := Tryd.f4.body.getD .skip
theorem s4 {H} (hH : SoundHand Tryd.prog (hand H)) {args out} (n : Nat) (hl : args.length ≤ 57) (hp : match out with | .ret v => pureR v = true | .pan v => pureR v = true) (h : Fin (M4 (hand H) n) Tryd.f4.results.toList (R (M4 (hand H) n) c4 .top ⟨params 0 args, [], fun _ => none, 0⟩) = some out) : SoundPure Tryd.prog 4 args out := sound_of (C := Cx (hand H)) hH good mixed Tryd.func4 rfl hl hp h
/-- chiasmus/chiasmuslaw08.ArithRing -/
noncomputable abbrev M5 (H : FuncId → Option (List V → Option V)) (n : Nat) : Mc := mcOf (Cx H) 5 Tryd.f5 n
theorem m5 (H n) : (M5 H n).E.keep = [0, 1, 2, 6, 7, 8, 9, 10, 17] ∧ (M5 H n).E.cnd = [17] ∧ (M5 H n).E.frz = [8, 9, 10, 11] ∧ (M5 H n).E.pro = [] ∧ (M5 H n).E.imp = [] ∧ (M5 H n).E.n = 128 ∧ (M5 H n).E.lvl = 0 ∧ (M5 H n).E.P = Tryd.prog ∧ (M5 H n).fuel = n ∧ (M5 H n).C = H ∧ (M5 H n).E.ok = okL := ⟨rfl, rfl, rfl, rfl, rfl, rfl, rfl, rfl, rfl, rfl, rfl⟩
noncomputable abbrev c5 : Code := Tryd.f5.body.getD .skip
theorem s5 {H} (hH : SoundHand Tryd.prog (hand H)) {args out} (n : Nat) (hl : args.length ≤ 128) (hp : match out with | .ret v => pureR v = true | .pan v => pureR v = true) (h : Fin (M5 (hand H) n) Tryd.f5.results.toList (R (M5 (hand H) n) c5 .top ⟨params 0 args, [], fun _ => none, 0⟩) = some out) : SoundPure Tryd.prog 5 args out := sound_of (C := Cx (hand H)) hH good mixed Tryd.func5 rfl hl hp h
/-- chiasmus/chiasmuslaw08.ArithSums -/
noncomputable abbrev M6 (H : FuncId → Option (List V → Option V)) (n : Nat) : Mc := mcOf (Cx H) 6 Tryd.f6 n
theorem m6 (H n) : (M6 H n).E.keep = [0, 1, 4, 5, 6, 7, 8, 9, 10, 11, 12, 13, 14, 19, 47, 67] ∧ (M6 H n).E.cnd = [19, 47, 67] ∧ (M6 H n).E.frz = [5, 6, 7, 8, 9, 10, 11, 12, 13, 14] ∧ (M6 H n).E.pro = [] ∧ (M6 H n).E.imp = [] ∧ (M6 H n).E.n = 111 ∧ (M6 H n).E.lvl = 0 ∧ (M6 H n).E.P = Tryd.prog ∧ (M6 H n).fuel = n ∧ (M6 H n).C = H ∧ (M6 H n).E.ok = okL := ⟨rfl, rfl, rfl, rfl, rfl, rfl, rfl, rfl, rfl, rfl, rfl⟩
noncomputable abbrev c6 : Code := Tryd.f6.body.getD .skip
theorem s6 {H} (hH : SoundHand Tryd.prog (hand H)) {args out} (n : Nat) (hl : args.length ≤ 111) (hp : match out with | .ret v => pureR v = true | .pan v => pureR v = true) (h : Fin (M6 (hand H) n) Tryd.f6.results.toList (R (M6 (hand H) n) c6 .top ⟨params 0 args, [], fun _ => none, 0⟩) = some out) : SoundPure Tryd.prog 6 args out := sound_of (C := Cx (hand H)) hH good mixed Tryd.func6 rfl hl hp h
/-- chiasmus/chiasmuslaw08.ArithDivision -/
noncomputable abbrev M7 (H : FuncId → Option (List V → Option V)) (n : Nat) : Mc := mcOf (Cx H) 7 Tryd.f7 n
theorem m7 (H n) : (M7 H n).E.keep = [0, 1, 4, 5, 6, 7, 8, 10, 12, 13, 14, 16, 17, 19, 20, 25, 35, 96] ∧ (M7 H n).E.cnd = [25, 35, 96] ∧ (M7 H n).E.frz = [5, 6, 7, 8, 9, 10, 11, 12, 13, 14, 15, 16, 17, 18, 19, 20] ∧ (M7 H n).E.pro = [] ∧ (M7 H n).E.imp = [] ∧ (M7 H n).E.n = 138 ∧ (M7 H n).E.lvl = 0 ∧ (M7 H n).E.P = Tryd.prog ∧ (M7 H n).fuel = n ∧ (M7 H n).C = H ∧ (M7 H n).E.ok = okL := ⟨rfl, rfl, rfl, rfl, rfl, rfl, rfl, rfl, rfl, rfl, rfl⟩
noncomputable abbrev c7 : Code := Tryd.f7.body.getD .skip
theorem s7 {H} (hH : SoundHand Tryd.prog (hand H)) {args out} (n : Nat) (hl : args.length ≤ 138) (hp : match out with | .ret v => pureR v = true | .pan v => pureR v = true) (h : Fin (M7 (hand H) n) Tryd.f7.results.toList (R (M7 (hand H) n) c7 .top ⟨params 0 args, [], fun _ => none, 0⟩) = some out) : SoundPure Tryd.prog 7 args out := sound_of (C := Cx (hand H)) hH good mixed Tryd.func7 rfl hl hp h
/-- chiasmus/chiasmuslaw08.ArithRoots -/
noncomputable abbrev M8 (H : FuncId → Option (List V → Option V)) (n : Nat) : Mc := mcOf (Cx H) 8 Tryd.f8 n
theorem m8 (H n) : (M8 H n).E.keep = [0, 1, 2, 3, 4, 10, 11, 12, 13, 15, 17, 19, 20, 21, 22, 23, 24, 25, 26, 28, 30, 32, 34, 36, 37, 38, 39, 40, 41, 49, 91, 112, 157] ∧ (M8 H n).E.cnd = [49, 91, 112, 157] ∧ (M8 H n).E.frz = [11, 12, 13, 14, 15, 16, 17, 18, 19, 20, 21, 22, 23, 24, 25, 26, 27, 28, 29, 30, 31, 32, 33, 34, 35, 36, 37, 38, 39, 40, 41] ∧ (M8 H n).E.pro = [] ∧ (M8 H n).E.imp = [] ∧ (M8 H n).E.n = 203 ∧ (M8 H n).E.lvl = 0 ∧ (M8 H n).E.P = Tryd.prog ∧ (M8 H n).fuel = n ∧ (M8 H n).C = H ∧ (M8 H n).E.ok = okL := ⟨rfl, rfl, rfl, rfl, rfl, rfl, rfl, rfl, rfl, rfl, rfl⟩
noncomputable abbrev c8 : Code := Tryd.f8.body.getD .skip
theorem s8 {H} (hH : SoundHand Tryd.prog (hand H)) {args out} (n : Nat) (hl : args.length ≤ 203) (hp : match out with | .ret v => pureR v = true | .pan v => pureR v = true) (h : Fin (M8 (hand H) n) Tryd.f8.results.toList (R (M8 (hand H) n) c8 .top ⟨params 0 args, [], fun _ => none, 0⟩) = some out) : SoundPure Tryd.prog 8 args out := sound_of (C := Cx (hand H)) hH good mixed Tryd.func8 rfl hl hp h
/-- chiasmus/chiasmuslaw08.short -/
noncomputable abbrev M9 (H : FuncId → Option (List V → Option V)) (n : Nat) : Mc := mcOf (Cx H) 9 Tryd.f9 n
theorem m9 (H n) : (M9 H n).E.keep = [0, 2] ∧ (M9 H n).E.cnd = [] ∧ (M9 H n).E.frz = [] ∧ (M9 H n).E.pro = [] ∧ (M9 H n).E.imp = [] ∧ (M9 H n).E.n = 6 ∧ (M9 H n).E.lvl = 0 ∧ (M9 H n).E.P = Tryd.prog ∧ (M9 H n).fuel = n ∧ (M9 H n).C = H ∧ (M9 H n).E.ok = okL := ⟨rfl, rfl, rfl, rfl, rfl, rfl, rfl, rfl, rfl, rfl, rfl⟩
noncomputable abbrev c9 : Code := Tryd.f9.body.getD .skip
theorem s9 {H} (hH : SoundHand Tryd.prog (hand H)) {args out} (n : Nat) (hl : args.length ≤ 6) (hp : match out with | .ret v => pureR v = true | .pan v => pureR v = true) (h : Fin (M9 (hand H) n) Tryd.f9.results.toList (R (M9 (hand H) n) c9 .top ⟨params 0 args, [], fun _ => none, 0⟩) = some out) : SoundPure Tryd.prog 9 args out := sound_of (C := Cx (hand H)) hH good mixed Tryd.func9 rfl hl hp h
/-- chiasmus/chiasmuslaw08.awake -/
noncomputable abbrev M10 (H : FuncId → Option (List V → Option V)) (n : Nat) : Mc := mcOf (Cx H) 10 Tryd.f10 n
theorem m10 (H n) : (M10 H n).E.keep = [0, 1, 2, 3, 4, 5] ∧ (M10 H n).E.cnd = [] ∧ (M10 H n).E.frz = [1, 2, 3, 4, 5] ∧ (M10 H n).E.pro = [] ∧ (M10 H n).E.imp = [] ∧ (M10 H n).E.n = 37 ∧ (M10 H n).E.lvl = 0 ∧ (M10 H n).E.P = Tryd.prog ∧ (M10 H n).fuel = n ∧ (M10 H n).C = H ∧ (M10 H n).E.ok = okL := ⟨rfl, rfl, rfl, rfl, rfl, rfl, rfl, rfl, rfl, rfl, rfl⟩
noncomputable abbrev c10 : Code := Tryd.f10.body.getD .skip
theorem s10 {H} (hH : SoundHand Tryd.prog (hand H)) {args out} (n : Nat) (hl : args.length ≤ 37) (hp : match out with | .ret v => pureR v = true | .pan v => pureR v = true) (h : Fin (M10 (hand H) n) Tryd.f10.results.toList (R (M10 (hand H) n) c10 .top ⟨params 0 args, [], fun _ => none, 0⟩) = some out) : SoundPure Tryd.prog 10 args out := sound_of (C := Cx (hand H)) hH good mixed Tryd.func10 rfl hl hp h
/-- chiasmus/arith.Mul -/
noncomputable abbrev M11 (H : FuncId → Option (List V → Option V)) (n : Nat) : Mc := mcOf (Cx H) 11 Tryd.f11 n
theorem m11 (H n) : (M11 H n).E.keep = [0, 1, 4, 5] ∧ (M11 H n).E.cnd = [] ∧ (M11 H n).E.frz = [] ∧ (M11 H n).E.pro = [] ∧ (M11 H n).E.imp = [] ∧ (M11 H n).E.n = 11 ∧ (M11 H n).E.lvl = 0 ∧ (M11 H n).E.P = Tryd.prog ∧ (M11 H n).fuel = n ∧ (M11 H n).C = H ∧ (M11 H n).E.ok = okL := ⟨rfl, rfl, rfl, rfl, rfl, rfl, rfl, rfl, rfl, rfl, rfl⟩
noncomputable abbrev c11 : Code := Tryd.f11.body.getD .skip
theorem s11 {H} (hH : SoundHand Tryd.prog (hand H)) {args out} (n : Nat) (hl : args.length ≤ 11) (hp : match out with | .ret v => pureR v = true | .pan v => pureR v = true) (h : Fin (M11 (hand H) n) Tryd.f11.results.toList (R (M11 (hand H) n) c11 .top ⟨params 0 args, [], fun _ => none, 0⟩) = some out) : SoundPure Tryd.prog 11 args out := sound_of (C := Cx (hand H)) hH good mixed Tryd.func11 rfl hl hp h
/-- chiasmus/chiasmusref08.Mul -/
noncomputable abbrev M12 (H : FuncId → Option (List V → Option V)) (n : Nat) : Mc := mcOf (Cx H) 12 Tryd.f12 n
theorem m12 (H n) : (M12 H n).E.keep = [0, 1, 4, 5, 6, 7, 8, 13] ∧ (M12 H n).E.cnd = [13] ∧ (M12 H n).E.frz = [] ∧ (M12 H n).E.pro = [] ∧ (M12 H n).E.imp = [] ∧ (M12 H n).E.n = 34 ∧ (M12 H n).E.lvl = 0 ∧ (M12 H n).E.P = Tryd.prog ∧ (M12 H n).fuel = n ∧ (M12 H n).C = H ∧ (M12 H n).E.ok = okL := ⟨rfl, rfl, rfl, rfl, rfl, rfl, rfl, rfl, rfl, rfl, rfl⟩
noncomputable abbrev c12 : Code := Tryd.f12.body.getD .skip
theorem s12 {H} (hH : SoundHand Tryd.prog (hand H)) {args out} (n : Nat) (hl : args.length ≤ 34) (hp : match out with | .ret v => pureR v = true | .pan v => pureR v = true) (h : Fin (M12 (hand H) n) Tryd.f12.results.toList (R (M12 (hand H) n) c12 .top ⟨params 0 args, [], fun _ => none, 0⟩) = some out) : SoundPure Tryd.prog 12 args out := sound_of (C := Cx (hand H)) hH good mixed Tryd.func12 rfl hl hp h
/-- chiasmus/arith.Divmod -/
noncomputable abbrev M13 (H : FuncId → Option (List V → Option V)) (n : Nat) : Mc := mcOf (Cx H) 13 Tryd.f13 n
theorem m13 (H n) : (M13 H n).E.keep = [0, 1, 4, 5, 6, 7, 8, 9, 10] ∧ (M13 H n).E.cnd = [] ∧ (M13 H n).E.frz = [9, 10] ∧ (M13 H n).E.pro = [] ∧ (M13 H n).E.imp = [] ∧ (M13 H n).E.n = 41 ∧ (M13 H n).E.lvl = 0 ∧ (M13 H n).E.P = Tryd.prog ∧ (M13 H n).fuel = n ∧ (M13 H n).C = H ∧ (M13 H n).E.ok = okL := ⟨rfl, rfl, rfl, rfl, rfl, rfl, rfl, rfl, rfl, rfl, rfl⟩
noncomputable abbrev c13 : Code := Tryd.f13.body.getD .skip
theorem s13 {H} (hH : SoundHand Tryd.prog (hand H)) {args out} (n : Nat) (hl : args.length ≤ 41) (hp : match out with | .ret v => pureR v = true | .pan v => pureR v = true) (h : Fin (M13 (hand H) n) Tryd.f13.results.toList (R (M13 (hand H) n) c13 .top ⟨params 0 args, [], fun _ => none, 0⟩) = some out) : SoundPure Tryd.prog 13 args out := sound_of (C := Cx (hand H)) hH good mixed Tryd.func13 rfl hl hp h
/-- chiasmus/chiasmusref08.Divmod -/
noncomputable abbrev M14 (H : FuncId → Option (List V → Option V)) (n : Nat) : Mc := mcOf (Cx H) 14 Tryd.f14 n
theorem m14 (H n) : (M14 H n).E.keep = [0, 1, 4, 5, 6, 7, 8, 9, 10, 11, 16, 19] ∧ (M14 H n).E.cnd = [16, 19] ∧ (M14 H n).E.frz = [10, 11] ∧ (M14 H n).E.pro = [] ∧ (M14 H n).E.imp = [] ∧ (M14 H n).E.n = 47 ∧ (M14 H n).E.lvl = 0 ∧ (M14 H n).E.P = Tryd.prog ∧ (M14 H n).fuel = n ∧ (M14 H n).C = H ∧ (M14 H n).E.ok = okL := ⟨rfl, rfl, rfl, rfl, rfl, rfl, rfl, rfl, rfl, rfl, rfl⟩
noncomputable abbrev c14 : Code := Tryd.f14.body.getD .skip
theorem s14 {H} (hH : SoundHand Tryd.prog (hand H)) {args out} (n : Nat) (hl : args.length ≤ 47) (hp : match out with | .ret v => pureR v = true | .pan v => pureR v = true) (h : Fin (M14 (hand H) n) Tryd.f14.results.toList (R (M14 (hand H) n) c14 .top ⟨params 0 args, [], fun _ => none, 0⟩) = some out) : SoundPure Tryd.prog 14 args out := sound_of (C := Cx (hand H)) hH good mixed Tryd.func14 rfl hl hp h
/-- chiasmus/arith.Gcd -/
noncomputable abbrev M15 (H : FuncId → Option (List V → Option V)) (n : Nat) : Mc := mcOf (Cx H) 15 Tryd.f15 n
theorem m15 (H n) : (M15 H n).E.keep = [0, 1, 4, 5] ∧ (M15 H n).E.cnd = [] ∧ (M15 H n).E.frz = [] ∧ (M15 H n).E.pro = [] ∧ (M15 H n).E.imp = [] ∧ (M15 H n).E.n = 11 ∧ (M15 H n).E.lvl = 0 ∧ (M15 H n).E.P = Tryd.prog ∧ (M15 H n).fuel = n ∧ (M15 H n).C = H ∧ (M15 H n).E.ok = okL := ⟨rfl, rfl, rfl, rfl, rfl, rfl, rfl, rfl, rfl, rfl, rfl⟩
noncomputable abbrev c15 : Code := Tryd.f15.body.getD .skip
theorem s15 {H} (hH : SoundHand Tryd.prog (hand H)) {args out} (n : Nat) (hl : args.length ≤ 11) (hp : match out with | .ret v => pureR v = true | .pan v => pureR v = true) (h : Fin (M15 (hand H) n) Tryd.f15.results.toList (R (M15 (hand H) n) c15 .top ⟨params 0 args, [], fun _ => none, 0⟩) = some out) : SoundPure Tryd.prog 15 args out := sound_of (C := Cx (hand H)) hH good mixed Tryd.func15 rfl hl hp h
/-- chiasmus/chiasmusref08.Gcd -/
noncomputable abbrev M16 (H : FuncId → Option (List V → Option V)) (n : Nat) : Mc := mcOf (Cx H) 16 Tryd.f16 n
theorem m16 (H n) : (M16 H n).E.keep = [0, 1, 4, 5, 6, 7, 8, 10, 15, 25] ∧ (M16 H n).E.cnd = [15, 25] ∧ (M16 H n).E.frz = [7, 8, 9, 10] ∧ (M16 H n).E.pro = [] ∧ (M16 H n).E.imp = [] ∧ (M16 H n).E.n = 37 ∧ (M16 H n).E.lvl = 0 ∧ (M16 H n).E.P = Tryd.prog ∧ (M16 H n).fuel = n ∧ (M16 H n).C = H ∧ (M16 H n).E.ok = okL := ⟨rfl, rfl, rfl, rfl, rfl, rfl, rfl, rfl, rfl, rfl, rfl⟩
noncomputable abbrev c16 : Code := Tryd.f16.body.getD .skip
theorem s16 {H} (hH : SoundHand Tryd.prog (hand H)) {args out} (n : Nat) (hl : args.length ≤ 37) (hp : match out with | .ret v => pureR v = true | .pan v => pureR v = true) (h : Fin (M16 (hand H) n) Tryd.f16.results.toList (R (M16 (hand H) n) c16 .top ⟨params 0 args, [], fun _ => none, 0⟩) = some out) : SoundPure Tryd.prog 16 args out := sound_of (C := Cx (hand H)) hH good mixed Tryd.func16 rfl hl hp h
/-- chiasmus/arith.Power -/
noncomputable abbrev M17 (H : FuncId → Option (List V → Option V)) (n : Nat) : Mc := mcOf (Cx H) 17 Tryd.f17 n
theorem m17 (H n) : (M17 H n).E.keep = [0, 1, 4, 5, 6, 7, 8] ∧ (M17 H n).E.cnd = [] ∧ (M17 H n).E.frz = [7, 8] ∧ (M17 H n).E.pro = [] ∧ (M17 H n).E.imp = [] ∧ (M17 H n).E.n = 33 ∧ (M17 H n).E.lvl = 0 ∧ (M17 H n).E.P = Tryd.prog ∧ (M17 H n).fuel = n ∧ (M17 H n).C = H ∧ (M17 H n).E.ok = okL := ⟨rfl, rfl, rfl, rfl, rfl, rfl, rfl, rfl, rfl, rfl, rfl⟩
noncomputable abbrev c17 : Code := Tryd.f17.body.getD .skip
/-- chiasmus/chiasmusref08.Power -/
noncomputable abbrev M18 (H : FuncId → Option (List V → Option V)) (n : Nat) : Mc := mcOf (Cx H) 18 Tryd.f18 n
theorem m18 (H n) : (M18 H n).E.keep = [0, 1, 4, 5, 6, 7, 8, 11, 13, 24] ∧ (M18 H n).E.cnd = [11, 13, 24] ∧ (M18 H n).E.frz = [7, 8] ∧ (M18 H n).E.pro = [] ∧ (M18 H n).E.imp = [] ∧ (M18 H n).E.n = 36 ∧ (M18 H n).E.lvl = 0 ∧ (M18 H n).E.P = Tryd.prog ∧ (M18 H n).fuel = n ∧ (M18 H n).C = H ∧ (M18 H n).E.ok = okL := ⟨rfl, rfl, rfl, rfl, rfl, rfl, rfl, rfl, rfl, rfl, rfl⟩
noncomputable abbrev c18 : Code := Tryd.f18.body.getD .skip
theorem s18 {H} (hH : SoundHand Tryd.prog (hand H)) {args out} (n : Nat) (hl : args.length ≤ 36) (hp : match out with | .ret v => pureR v = true | .pan v => pureR v = true) (h : Fin (M18 (hand H) n) Tryd.f18.results.toList (R (M18 (hand H) n) c18 .top ⟨params 0 args, [], fun _ => none, 0⟩) = some out) : SoundPure Tryd.prog 18 args out := sound_of (C := Cx (hand H)) hH good mixed Tryd.func18 rfl hl hp h
/-- chiasmus/arith.Root -/
noncomputable abbrev M19 (H : FuncId → Option (List V → Option V)) (n : Nat) : Mc := mcOf (Cx H) 19 Tryd.f19 n
theorem m19 (H n) : (M19 H n).E.keep = [0, 1, 3, 4, 5, 6, 7, 8, 9, 10, 11, 37, 43, 55] ∧ (M19 H n).E.cnd = [37, 43, 55] ∧ (M19 H n).E.frz = [7, 9, 10, 11] ∧ (M19 H n).E.pro = [] ∧ (M19 H n).E.imp = [] ∧ (M19 H n).E.n = 72 ∧ (M19 H n).E.lvl = 0 ∧ (M19 H n).E.P = Tryd.prog ∧ (M19 H n).fuel = n ∧ (M19 H n).C = H ∧ (M19 H n).E.ok = okL := ⟨rfl, rfl, rfl, rfl, rfl, rfl, rfl, rfl, rfl, rfl, rfl⟩
noncomputable abbrev c19 : Code := Tryd.f19.body.getD .skip
/-- chiasmus/chiasmusref08.Root -/
noncomputable abbrev M20 (H : FuncId → Option (List V → Option V)) (n : Nat) : Mc := mcOf (Cx H) 20 Tryd.f20 n
theorem m20 (H n) : (M20 H n).E.keep = [0, 1, 4, 5, 6, 7, 8, 9, 10, 13, 19, 23, 25, 40, 47, 73] ∧ (M20 H n).E.cnd = [13, 19, 23, 25, 40, 47, 73] ∧ (M20 H n).E.frz = [8, 9, 10] ∧ (M20 H n).E.pro = [] ∧ (M20 H n).E.imp = [] ∧ (M20 H n).E.n = 84 ∧ (M20 H n).E.lvl = 0 ∧ (M20 H n).E.P = Tryd.prog ∧ (M20 H n).fuel = n ∧ (M20 H n).C = H ∧ (M20 H n).E.ok = okL := ⟨rfl, rfl, rfl, rfl, rfl, rfl, rfl, rfl, rfl, rfl, rfl⟩
noncomputable abbrev c20 : Code := Tryd.f20.body.getD .skip
theorem s20 {H} (hH : SoundHand Tryd.prog (hand H)) {args out} (n : Nat) (hl : args.length ≤ 84) (hp : match out with | .ret v => pureR v = true | .pan v => pureR v = true) (h : Fin (M20 (hand H) n) Tryd.f20.results.toList (R (M20 (hand H) n) c20 .top ⟨params 0 args, [], fun _ => none, 0⟩) = some out) : SoundPure Tryd.prog 20 args out := sound_of (C := Cx (hand H)) hH good mixed Tryd.func20 rfl hl hp h
/-- chiasmus/chiasmuslaw08.valid -/
noncomputable abbrev M21 (H : FuncId → Option (List V → Option V)) (n : Nat) : Mc := mcOf (Cx H) 21 Tryd.f21 n
theorem m21 (H n) : (M21 H n).E.keep = [0, 2] ∧ (M21 H n).E.cnd = [] ∧ (M21 H n).E.frz = [] ∧ (M21 H n).E.pro = [] ∧ (M21 H n).E.imp = [] ∧ (M21 H n).E.n = 6 ∧ (M21 H n).E.lvl = 0 ∧ (M21 H n).E.P = Tryd.prog ∧ (M21 H n).fuel = n ∧ (M21 H n).C = H ∧ (M21 H n).E.ok = okL := ⟨rfl, rfl, rfl, rfl, rfl, rfl, rfl, rfl, rfl, rfl, rfl⟩
noncomputable abbrev c21 : Code := Tryd.f21.body.getD .skip
theorem s21 {H} (hH : SoundHand Tryd.prog (hand H)) {args out} (n : Nat) (hl : args.length ≤ 6) (hp : match out with | .ret v => pureR v = true | .pan v => pureR v = true) (h : Fin (M21 (hand H) n) Tryd.f21.results.toList (R (M21 (hand H) n) c21 .top ⟨params 0 args, [], fun _ => none, 0⟩) = some out) : SoundPure Tryd.prog 21 args out := sound_of (C := Cx (hand H)) hH good mixed Tryd.func21 rfl hl hp h
/-- chiasmus/chiasmuslaw08.ArithRing$1 -/
noncomputable abbrev M22 (H : FuncId → Option (List V → Option V)) (n : Nat) : Mc := mcOf (Cx H) 22 Tryd.f22 n
theorem m22 (H n) : (M22 H n).E.keep = [0, 1, 2, 6, 7] ∧ (M22 H n).E.cnd = [] ∧ (M22 H n).E.frz = [8] ∧ (M22 H n).E.pro = [] ∧ (M22 H n).E.imp = [] ∧ (M22 H n).E.n = 17 ∧ (M22 H n).E.lvl = 0 ∧ (M22 H n).E.P = Tryd.prog ∧ (M22 H n).fuel = n ∧ (M22 H n).C = H ∧ (M22 H n).E.ok = okL := ⟨rfl, rfl, rfl, rfl, rfl, rfl, rfl, rfl, rfl, rfl, rfl⟩
noncomputable abbrev c22 : Code := Tryd.f22.body.getD .skip
theorem s22 {H} (hH : SoundHand Tryd.prog (hand H)) {args out} (n : Nat) (hl : args.length ≤ 17) (hp : match out with | .ret v => pureR v = true | .pan v => pureR v = true) (h : Fin (M22 (hand H) n) Tryd.f22.results.toList (R (M22 (hand H) n) c22 .top ⟨params 0 args, [], fun _ => none, 0⟩) = some out) : SoundPure Tryd.prog 22 args out := sound_of (C := Cx (hand H)) hH good mixed Tryd.func22 rfl hl hp h
/-- chiasmus/chiasmuslaw08.ArithRing$2 -/
noncomputable abbrev M23 (H : FuncId → Option (List V → Option V)) (n : Nat) : Mc := mcOf (Cx H) 23 Tryd.f23 n
theorem m23 (H n) : (M23 H n).E.keep = [0, 1, 2, 5] ∧ (M23 H n).E.cnd = [] ∧ (M23 H n).E.frz = [] ∧ (M23 H n).E.pro = [] ∧ (M23 H n).E.imp = [] ∧ (M23 H n).E.n = 10 ∧ (M23 H n).E.lvl = 0 ∧ (M23 H n).E.P = Tryd.prog ∧ (M23 H n).fuel = n ∧ (M23 H n).C = H ∧ (M23 H n).E.ok = okL := ⟨rfl, rfl, rfl, rfl, rfl, rfl, rfl, rfl, rfl, rfl, rfl⟩
noncomputable abbrev c23 : Code := Tryd.f23.body.getD .skip
theorem s23 {H} (hH : SoundHand Tryd.prog (hand H)) {args out} (n : Nat) (hl : args.length ≤ 10) (hp : match out with | .ret v => pureR v = true | .pan v => pureR v = true) (h : Fin (M23 (hand H) n) Tryd.f23.results.toList (R (M23 (hand H) n) c23 .top ⟨params 0 args, [], fun _ => none, 0⟩) = some out) : SoundPure Tryd.prog 23 args out := sound_of (C := Cx (hand H)) hH good mixed Tryd.func23 rfl hl hp h
/-- chiasmus/arith.Add -/
noncomputable abbrev M24 (H : FuncId → Option (List V → Option V)) (n : Nat) : Mc := mcOf (Cx H) 24 Tryd.f24 n
theorem m24 (H n) : (M24 H n).E.keep = [0, 1, 4, 5] ∧ (M24 H n).E.cnd = [] ∧ (M24 H n).E.frz = [] ∧ (M24 H n).E.pro = [] ∧ (M24 H n).E.imp = [] ∧ (M24 H n).E.n = 11 ∧ (M24 H n).E.lvl = 0 ∧ (M24 H n).E.P = Tryd.prog ∧ (M24 H n).fuel = n ∧ (M24 H n).C = H ∧ (M24 H n).E.ok = okL := ⟨rfl, rfl, rfl, rfl, rfl, rfl, rfl, rfl, rfl, rfl, rfl⟩
noncomputable abbrev c24 : Code := Tryd.f24.body.getD .skip
theorem s24 {H} (hH : SoundHand Tryd.prog (hand H)) {args out} (n : Nat) (hl : args.length ≤ 11) (hp : match out with | .ret v => pureR v = true | .pan v => pureR v = true) (h : Fin (M24 (hand H) n) Tryd.f24.results.toList (R (M24 (hand H) n) c24 .top ⟨params 0 args, [], fun _ => none, 0⟩) = some out) : SoundPure Tryd.prog 24 args out := sound_of (C := Cx (hand H)) hH good mixed Tryd.func24 rfl hl hp h
/-- chiasmus/chiasmuslaw08.ArithRing$3 -/
noncomputable abbrev M25 (H : FuncId → Option (List V → Option V)) (n : Nat) : Mc := mcOf (Cx H) 25 Tryd.f25 n
theorem m25 (H n) : (M25 H n).E.keep = [0, 1, 2, 5] ∧ (M25 H n).E.cnd = [] ∧ (M25 H n).E.frz = [] ∧ (M25 H n).E.pro = [] ∧ (M25 H n).E.imp = [] ∧ (M25 H n).E.n = 10 ∧ (M25 H n).E.lvl = 0 ∧ (M25 H n).E.P = Tryd.prog ∧ (M25 H n).fuel = n ∧ (M25 H n).C = H ∧ (M25 H n).E.ok = okL := ⟨rfl, rfl, rfl, rfl, rfl, rfl, rfl, rfl, rfl, rfl, rfl⟩
noncomputable abbrev c25 : Code := Tryd.f25.body.getD .skip
theorem s25 {H} (hH : SoundHand Tryd.prog (hand H)) {args out} (n : Nat) (hl : args.length ≤ 10) (hp : match out with | .ret v => pureR v = true | .pan v => pureR v = true) (h : Fin (M25 (hand H) n) Tryd.f25.results.toList (R (M25 (hand H) n) c25 .top ⟨params 0 args, [], fun _ => none, 0⟩) = some out) : SoundPure Tryd.prog 25 args out := sound_of (C := Cx (hand H)) hH good mixed Tryd.func25 rfl hl hp h
/-- chiasmus/arith.Neg -/
noncomputable abbrev M26 (H : FuncId → Option (List V → Option V)) (n : Nat) : Mc := mcOf (Cx H) 26 Tryd.f26 n
theorem m26 (H n) : (M26 H n).E.keep = [0, 2, 3] ∧ (M26 H n).E.cnd = [] ∧ (M26 H n).E.frz = [] ∧ (M26 H n).E.pro = [] ∧ (M26 H n).E.imp = [] ∧ (M26 H n).E.n = 8 ∧ (M26 H n).E.lvl = 0 ∧ (M26 H n).E.P = Tryd.prog ∧ (M26 H n).fuel = n ∧ (M26 H n).C = H ∧ (M26 H n).E.ok = okL := ⟨rfl, rfl, rfl, rfl, rfl, rfl, rfl, rfl, rfl, rfl, rfl⟩
noncomputable abbrev c26 : Code := Tryd.f26.body.getD .skip
theorem s26 {H} (hH : SoundHand Tryd.prog (hand H)) {args out} (n : Nat) (hl : args.length ≤ 8) (hp : match out with | .ret v => pureR v = true | .pan v => pureR v = true) (h : Fin (M26 (hand H) n) Tryd.f26.results.toList (R (M26 (hand H) n) c26 .top ⟨params 0 args, [], fun _ => none, 0⟩) = some out) : SoundPure Tryd.prog 26 args out := sound_of (C := Cx (hand H)) hH good mixed Tryd.func26 rfl hl hp h
/-- chiasmus/arith.Sub -/
noncomputable abbrev M27 (H : FuncId → Option (List V → Option V)) (n : Nat) : Mc := mcOf (Cx H) 27 Tryd.f27 n
theorem m27 (H n) : (M27 H n).E.keep = [0, 1, 4, 5] ∧ (M27 H n).E.cnd = [] ∧ (M27 H n).E.frz = [] ∧ (M27 H n).E.pro = [] ∧ (M27 H n).E.imp = [] ∧ (M27 H n).E.n = 11 ∧ (M27 H n).E.lvl = 0 ∧ (M27 H n).E.P = Tryd.prog ∧ (M27 H n).fuel = n ∧ (M27 H n).C = H ∧ (M27 H n).E.ok = okL := ⟨rfl, rfl, rfl, rfl, rfl, rfl, rfl, rfl, rfl, rfl, rfl⟩
noncomputable abbrev c27 : Code := Tryd.f27.body.getD .skip
theorem s27 {H} (hH : SoundHand Tryd.prog (hand H)) {args out} (n : Nat) (hl : args.length ≤ 11) (hp : match out with | .ret v => pureR v = true | .pan v => pureR v = true) (h : Fin (M27 (hand H) n) Tryd.f27.results.toList (R (M27 (hand H) n) c27 .top ⟨params 0 args, [], fun _ => none, 0⟩) = some out) : SoundPure Tryd.prog 27 args out := sound_of (C := Cx (hand H)) hH good mixed Tryd.func27 rfl hl hp h
/-- chiasmus/arith.Compare -/
noncomputable abbrev M28 (H : FuncId → Option (List V → Option V)) (n : Nat) : Mc := mcOf (Cx H) 28 Tryd.f28 n
theorem m28 (H n) : (M28 H n).E.keep = [0, 1, 4, 5, 6, 7, 12, 19, 20] ∧ (M28 H n).E.cnd = [12, 19, 20] ∧ (M28 H n).E.frz = [12, 20] ∧ (M28 H n).E.pro = [] ∧ (M28 H n).E.imp = [] ∧ (M28 H n).E.n = 30 ∧ (M28 H n).E.lvl = 0 ∧ (M28 H n).E.P = Tryd.prog ∧ (M28 H n).fuel = n ∧ (M28 H n).C = H ∧ (M28 H n).E.ok = okL := ⟨rfl, rfl, rfl, rfl, rfl, rfl, rfl, rfl, rfl, rfl, rfl⟩
noncomputable abbrev c28 : Code := Tryd.f28.body.getD .skip
/-- chiasmus/chiasmusref08.Compare -/
noncomputable abbrev M29 (H : FuncId → Option (List V → Option V)) (n : Nat) : Mc := mcOf (Cx H) 29 Tryd.f29 n
theorem m29 (H n) : (M29 H n).E.keep = [0, 1, 4, 5, 6, 7, 8, 13, 28, 30] ∧ (M29 H n).E.cnd = [13, 28, 30] ∧ (M29 H n).E.frz = [] ∧ (M29 H n).E.pro = [] ∧ (M29 H n).E.imp = [] ∧ (M29 H n).E.n = 31 ∧ (M29 H n).E.lvl = 0 ∧ (M29 H n).E.P = Tryd.prog ∧ (M29 H n).fuel = n ∧ (M29 H n).C = H ∧ (M29 H n).E.ok = okL := ⟨rfl, rfl, rfl, rfl, rfl, rfl, rfl, rfl, rfl, rfl, rfl⟩
noncomputable abbrev c29 : Code := Tryd.f29.body.getD .skip
theorem s29 {H} (hH : SoundHand Tryd.prog (hand H)) {args out} (n : Nat) (hl : args.length ≤ 31) (hp : match out with | .ret v => pureR v = true | .pan v => pureR v = true) (h : Fin (M29 (hand H) n) Tryd.f29.results.toList (R (M29 (hand H) n) c29 .top ⟨params 0 args, [], fun _ => none, 0⟩) = some out) : SoundPure Tryd.prog 29 args out := sound_of (C := Cx (hand H)) hH good mixed Tryd.func29 rfl hl hp h
/-- chiasmus/arith.Valid -/
noncomputable abbrev M30 (H : FuncId → Option (List V → Option V)) (n : Nat) : Mc := mcOf (Cx H) 30 Tryd.f30 n
theorem m30 (H n) : (M30 H n).E.keep = [0, 2, 4, 18] ∧ (M30 H n).E.cnd = [4, 18] ∧ (M30 H n).E.frz = [0] ∧ (M30 H n).E.pro = [] ∧ (M30 H n).E.imp = [] ∧ (M30 H n).E.n = 22 ∧ (M30 H n).E.lvl = 0 ∧ (M30 H n).E.P = Tryd.prog ∧ (M30 H n).fuel = n ∧ (M30 H n).C = H ∧ (M30 H n).E.ok = okL := ⟨rfl, rfl, rfl, rfl, rfl, rfl, rfl, rfl, rfl, rfl, rfl⟩
noncomputable abbrev c30 : Code := Tryd.f30.body.getD .skip
theorem s30 {H} (hH : SoundHand Tryd.prog (hand H)) {args out} (n : Nat) (hl : args.length ≤ 22) (hp : match out with | .ret v => pureR v = true | .pan v => pureR v = true) (h : Fin (M30 (hand H) n) Tryd.f30.results.toList (R (M30 (hand H) n) c30 .top ⟨params 0 args, [], fun _ => none, 0⟩) = some out) : SoundPure Tryd.prog 30 args out := sound_of (C := Cx (hand H)) hH good mixed Tryd.func30 rfl hl hp h
/-- chiasmus/chiasmusref08.Valid -/
noncomputable abbrev M31 (H : FuncId → Option (List V → Option V)) (n : Nat) : Mc := mcOf (Cx H) 31 Tryd.f31 n
theorem m31 (H n) : (M31 H n).E.keep = [0, 2, 3, 11, 15, 33, 37, 49] ∧ (M31 H n).E.cnd = [11, 15, 33, 37, 49] ∧ (M31 H n).E.frz = [0, 3] ∧ (M31 H n).E.pro = [] ∧ (M31 H n).E.imp = [] ∧ (M31 H n).E.n = 50 ∧ (M31 H n).E.lvl = 0 ∧ (M31 H n).E.P = Tryd.prog ∧ (M31 H n).fuel = n ∧ (M31 H n).C = H ∧ (M31 H n).E.ok = okL := ⟨rfl, rfl, rfl, rfl, rfl, rfl, rfl, rfl, rfl, rfl, rfl⟩
noncomputable abbrev c31 : Code := Tryd.f31.body.getD .skip
theorem s31 {H} (hH : SoundHand Tryd.prog (hand H)) {args out} (n : Nat) (hl : args.length ≤ 50) (hp : match out with | .ret v => pureR v = true | .pan v => pureR v = true) (h : Fin (M31 (hand H) n) Tryd.f31.results.toList (R (M31 (hand H) n) c31 .top ⟨params 0 args, [], fun _ => none, 0⟩) = some out) : SoundPure Tryd.prog 31 args out := sound_of (C := Cx (hand H)) hH good mixed Tryd.func31 rfl hl hp h
/-- chiasmus/chiasmusref08.Add -/
noncomputable abbrev M32 (H : FuncId → Option (List V → Option V)) (n : Nat) : Mc := mcOf (Cx H) 32 Tryd.f32 n
theorem m32 (H n) : (M32 H n).E.keep = [0, 1, 4, 5, 6, 11] ∧ (M32 H n).E.cnd = [11] ∧ (M32 H n).E.frz = [] ∧ (M32 H n).E.pro = [] ∧ (M32 H n).E.imp = [] ∧ (M32 H n).E.n = 21 ∧ (M32 H n).E.lvl = 0 ∧ (M32 H n).E.P = Tryd.prog ∧ (M32 H n).fuel = n ∧ (M32 H n).C = H ∧ (M32 H n).E.ok = okL := ⟨rfl, rfl, rfl, rfl, rfl, rfl, rfl, rfl, rfl, rfl, rfl⟩
noncomputable abbrev c32 : Code := Tryd.f32.body.getD .skip
theorem s32 {H} (hH : SoundHand Tryd.prog (hand H)) {args out} (n : Nat) (hl : args.length ≤ 21) (hp : match out with | .ret v => pureR v = true | .pan v => pureR v = true) (h : Fin (M32 (hand H) n) Tryd.f32.results.toList (R (M32 (hand H) n) c32 .top ⟨params 0 args, [], fun _ => none, 0⟩) = some out) : SoundPure Tryd.prog 32 args out := sound_of (C := Cx (hand H)) hH good mixed Tryd.func32 rfl hl hp h
/-- chiasmus/chiasmusref08.Sub -/
noncomputable abbrev M33 (H : FuncId → Option (List V → Option V)) (n : Nat) : Mc := mcOf (Cx H) 33 Tryd.f33 n
theorem m33 (H n) : (M33 H n).E.keep = [0, 1, 4, 5, 6, 7, 12] ∧ (M33 H n).E.cnd = [12] ∧ (M33 H n).E.frz = [] ∧ (M33 H n).E.pro = [] ∧ (M33 H n).E.imp = [] ∧ (M33 H n).E.n = 29 ∧ (M33 H n).E.lvl = 0 ∧ (M33 H n).E.P = Tryd.prog ∧ (M33 H n).fuel = n ∧ (M33 H n).C = H ∧ (M33 H n).E.ok = okL := ⟨rfl, rfl, rfl, rfl, rfl, rfl, rfl, rfl, rfl, rfl, rfl⟩
noncomputable abbrev c33 : Code := Tryd.f33.body.getD .skip
theorem s33 {H} (hH : SoundHand Tryd.prog (hand H)) {args out} (n : Nat) (hl : args.length ≤ 29) (hp : match out with | .ret v => pureR v = true | .pan v => pureR v = true) (h : Fin (M33 (hand H) n) Tryd.f33.results.toList (R (M33 (hand H) n) c33 .top ⟨params 0 args, [], fun _ => none, 0⟩) = some out) : SoundPure Tryd.prog 33 args out := sound_of (C := Cx (hand H)) hH good mixed Tryd.func33 rfl hl hp h
/-- chiasmus/chiasmusref08.Neg -/
noncomputable abbrev M34 (H : FuncId → Option (List V → Option V)) (n : Nat) : Mc := mcOf (Cx H) 34 Tryd.f34 n
theorem m34 (H n) : (M34 H n).E.keep = [0, 2, 3, 4, 7] ∧ (M34 H n).E.cnd = [7] ∧ (M34 H n).E.frz = [] ∧ (M34 H n).E.pro = [] ∧ (M34 H n).E.imp = [] ∧ (M34 H n).E.n = 20 ∧ (M34 H n).E.lvl = 0 ∧ (M34 H n).E.P = Tryd.prog ∧ (M34 H n).fuel = n ∧ (M34 H n).C = H ∧ (M34 H n).E.ok = okL := ⟨rfl, rfl, rfl, rfl, rfl, rfl, rfl, rfl, rfl, rfl, rfl⟩
noncomputable abbrev c34 : Code := Tryd.f34.body.getD .skip
theorem s34 {H} (hH : SoundHand Tryd.prog (hand H)) {args out} (n : Nat) (hl : args.length ≤ 20) (hp : match out with | .ret v => pureR v = true | .pan v => pureR v = true) (h : Fin (M34 (hand H) n) Tryd.f34.results.toList (R (M34 (hand H) n) c34 .top ⟨params 0 args, [], fun _ => none, 0⟩) = some out) : SoundPure Tryd.prog 34 args out := sound_of (C := Cx (hand H)) hH good mixed Tryd.func34 rfl hl hp h
/-- chiasmus/chiasmuslaw08.abs -/
noncomputable abbrev M35 (H : FuncId → Option (List V → Option V)) (n : Nat) : Mc := mcOf (Cx H) 35 Tryd.f35 n
theorem m35 (H n) : (M35 H n).E.keep = [0, 2, 10] ∧ (M35 H n).E.cnd = [10] ∧ (M35 H n).E.frz = [] ∧ (M35 H n).E.pro = [] ∧ (M35 H n).E.imp = [] ∧ (M35 H n).E.n = 14 ∧ (M35 H n).E.lvl = 0 ∧ (M35 H n).E.P = Tryd.prog ∧ (M35 H n).fuel = n ∧ (M35 H n).C = H ∧ (M35 H n).E.ok = okL := ⟨rfl, rfl, rfl, rfl, rfl, rfl, rfl, rfl, rfl, rfl, rfl⟩
noncomputable abbrev c35 : Code := Tryd.f35.body.getD .skip
theorem s35 {H} (hH : SoundHand Tryd.prog (hand H)) {args out} (n : Nat) (hl : args.length ≤ 14) (hp : match out with | .ret v => pureR v = true | .pan v => pureR v = true) (h : Fin (M35 (hand H) n) Tryd.f35.results.toList (R (M35 (hand H) n) c35 .top ⟨params 0 args, [], fun _ => none, 0⟩) = some out) : SoundPure Tryd.prog 35 args out := sound_of (C := Cx (hand H)) hH good mixed Tryd.func35 rfl hl hp h
/-- chiasmus/arith.Digits -/
noncomputable abbrev M36 (H : FuncId → Option (List V → Option V)) (n : Nat) : Mc := mcOf (Cx H) 36 Tryd.f36 n
theorem m36 (H n) : (M36 H n).E.keep = [0, 1, 4, 5, 6, 7, 8, 17, 21] ∧ (M36 H n).E.cnd = [17, 21] ∧ (M36 H n).E.frz = [6, 8] ∧ (M36 H n).E.pro = [7] ∧ (M36 H n).E.imp = [75] ∧ (M36 H n).E.n = 34 ∧ (M36 H n).E.lvl = 0 ∧ (M36 H n).E.P = Tryd.prog ∧ (M36 H n).fuel = n ∧ (M36 H n).C = H ∧ (M36 H n).E.ok = okL := ⟨rfl, rfl, rfl, rfl, rfl, rfl, rfl, rfl, rfl, rfl, rfl⟩
noncomputable abbrev c36 : Code := Tryd.f36.body.getD .skip
/-- chiasmus/arith.Number -/
noncomputable abbrev M37 (H : FuncId → Option (List V → Option V)) (n : Nat) : Mc := mcOf (Cx H) 37 Tryd.f37 n
theorem m37 (H n) : (M37 H n).E.keep = [0, 1, 3, 4, 5, 6, 8, 21, 22, 23, 24] ∧ (M37 H n).E.cnd = [24] ∧ (M37 H n).E.frz = [6, 8] ∧ (M37 H n).E.pro = [] ∧ (M37 H n).E.imp = [] ∧ (M37 H n).E.n = 43 ∧ (M37 H n).E.lvl = 0 ∧ (M37 H n).E.P = Tryd.prog ∧ (M37 H n).fuel = n ∧ (M37 H n).C = H ∧ (M37 H n).E.ok = okL := ⟨rfl, rfl, rfl, rfl, rfl, rfl, rfl, rfl, rfl, rfl, rfl⟩
noncomputable abbrev c37 : Code := Tryd.f37.body.getD .skip
/-- chiasmus/arith.Int -/
noncomputable abbrev M38 (H : FuncId → Option (List V → Option V)) (n : Nat) : Mc := mcOf (Cx H) 38 Tryd.f38 n
theorem m38 (H n) : (M38 H n).E.keep = [0, 2, 3, 4, 5, 8, 15] ∧ (M38 H n).E.cnd = [8, 15] ∧ (M38 H n).E.frz = [5] ∧ (M38 H n).E.pro = [] ∧ (M38 H n).E.imp = [] ∧ (M38 H n).E.n = 17 ∧ (M38 H n).E.lvl = 0 ∧ (M38 H n).E.P = Tryd.prog ∧ (M38 H n).fuel = n ∧ (M38 H n).C = H ∧ (M38 H n).E.ok = okL := ⟨rfl, rfl, rfl, rfl, rfl, rfl, rfl, rfl, rfl, rfl, rfl⟩
noncomputable abbrev c38 : Code := Tryd.f38.body.getD .skip
theorem s38 {H} (hH : SoundHand Tryd.prog (hand H)) {args out} (n : Nat) (hl : args.length ≤ 17) (hp : match out with | .ret v => pureR v = true | .pan v => pureR v = true) (h : Fin (M38 (hand H) n) Tryd.f38.results.toList (R (M38 (hand H) n) c38 .top ⟨params 0 args, [], fun _ => none, 0⟩) = some out) : SoundPure Tryd.prog 38 args out := sound_of (C := Cx (hand H)) hH good mixed Tryd.func38 rfl hl hp h
/-- chiasmus/arith.Text -/
noncomputable abbrev M39 (H : FuncId → Option (List V → Option V)) (n : Nat) : Mc := mcOf (Cx H) 39 Tryd.f39 n
theorem m39 (H n) : (M39 H n).E.keep = [0, 2] ∧ (M39 H n).E.cnd = [] ∧ (M39 H n).E.frz = [] ∧ (M39 H n).E.pro = [] ∧ (M39 H n).E.imp = [] ∧ (M39 H n).E.n = 5 ∧ (M39 H n).E.lvl = 0 ∧ (M39 H n).E.P = Tryd.prog ∧ (M39 H n).fuel = n ∧ (M39 H n).C = H ∧ (M39 H n).E.ok = okL := ⟨rfl, rfl, rfl, rfl, rfl, rfl, rfl, rfl, rfl, rfl, rfl⟩
noncomputable abbrev c39 : Code := Tryd.f39.body.getD .skip
theorem s39 {H} (hH : SoundHand Tryd.prog (hand H)) {args out} (n : Nat) (hl : args.length ≤ 5) (hp : match out with | .ret v => pureR v = true | .pan v => pureR v = true) (h : Fin (M39 (hand H) n) Tryd.f39.results.toList (R (M39 (hand H) n) c39 .top ⟨params 0 args, [], fun _ => none, 0⟩) = some out) : SoundPure Tryd.prog 39 args out := sound_of (C := Cx (hand H)) hH good mixed Tryd.func39 rfl hl hp h
/-- slices.ContainsFunc[[]string,string] -/
noncomputable abbrev M40 (H : FuncId → Option (List V → Option V)) (n : Nat) : Mc := mcOf (Cx H) 40 Tryd.f40 n
theorem m40 (H n) : (M40 H n).E.keep = [0, 1, 4] ∧ (M40 H n).E.cnd = [] ∧ (M40 H n).E.frz = [] ∧ (M40 H n).E.pro = [] ∧ (M40 H n).E.imp = [] ∧ (M40 H n).E.n = 9 ∧ (M40 H n).E.lvl = 0 ∧ (M40 H n).E.P = Tryd.prog ∧ (M40 H n).fuel = n ∧ (M40 H n).C = H ∧ (M40 H n).E.ok = okL := ⟨rfl, rfl, rfl, rfl, rfl, rfl, rfl, rfl, rfl, rfl, rfl⟩
noncomputable abbrev c40 : Code := Tryd.f40.body.getD .skip
theorem s40 {H} (hH : SoundHand Tryd.prog (hand H)) {args out} (n : Nat) (hl : args.length ≤ 9) (hp : match out with | .ret v => pureR v = true | .pan v => pureR v = true) (h : Fin (M40 (hand H) n) Tryd.f40.results.toList (R (M40 (hand H) n) c40 .top ⟨params 0 args, [], fun _ => none, 0⟩) = some out) : SoundPure Tryd.prog 40 args out := sound_of (C := Cx (hand H)) hH good mixed Tryd.func40 rfl hl hp h
/-- chiasmus/chiasmuslaw08.short$1 -/
noncomputable abbrev M41 (H : FuncId → Option (List V → Option V)) (n : Nat) : Mc := mcOf (Cx H) 41 Tryd.f41 n
theorem m41 (H n) : (M41 H n).E.keep = [0, 2] ∧ (M41 H n).E.cnd = [] ∧ (M41 H n).E.frz = [] ∧ (M41 H n).E.pro = [] ∧ (M41 H n).E.imp = [] ∧ (M41 H n).E.n = 6 ∧ (M41 H n).E.lvl = 0 ∧ (M41 H n).E.P = Tryd.prog ∧ (M41 H n).fuel = n ∧ (M41 H n).C = H ∧ (M41 H n).E.ok = okL := ⟨rfl, rfl, rfl, rfl, rfl, rfl, rfl, rfl, rfl, rfl, rfl⟩
noncomputable abbrev c41 : Code := Tryd.f41.body.getD .skip
theorem s41 {H} (hH : SoundHand Tryd.prog (hand H)) {args out} (n : Nat) (hl : args.length ≤ 6) (hp : match out with | .ret v => pureR v = true | .pan v => pureR v = true) (h : Fin (M41 (hand H) n) Tryd.f41.results.toList (R (M41 (hand H) n) c41 .top ⟨params 0 args, [], fun _ => none, 0⟩) = some out) : SoundPure Tryd.prog 41 args out := sound_of (C := Cx (hand H)) hH good mixed Tryd.func41 rfl hl hp h
/-- chiasmus/arith.with -/
noncomputable abbrev M42 (H : FuncId → Option (List V → Option V)) (n : Nat) : Mc := mcOf (Cx H) 42 Tryd.f42 n
theorem m42 (H n) : (M42 H n).E.keep = [0, 1, 2, 6, 7] ∧ (M42 H n).E.cnd = [] ∧ (M42 H n).E.frz = [] ∧ (M42 H n).E.pro = [] ∧ (M42 H n).E.imp = [] ∧ (M42 H n).E.n = 15 ∧ (M42 H n).E.lvl = 0 ∧ (M42 H n).E.P = Tryd.prog ∧ (M42 H n).fuel = n ∧ (M42 H n).C = H ∧ (M42 H n).E.ok = okL := ⟨rfl, rfl, rfl, rfl, rfl, rfl, rfl, rfl, rfl, rfl, rfl⟩
noncomputable abbrev c42 : Code := Tryd.f42.body.getD .skip
/-- chiasmus/arith.product -/
noncomputable abbrev M43 (H : FuncId → Option (List V → Option V)) (n : Nat) : Mc := mcOf (Cx H) 43 Tryd.f43 n
theorem m43 (H n) : (M43 H n).E.keep = [0, 1, 2, 3, 4] ∧ (M43 H n).E.cnd = [] ∧ (M43 H n).E.frz = [] ∧ (M43 H n).E.pro = [] ∧ (M43 H n).E.imp = [] ∧ (M43 H n).E.n = 16 ∧ (M43 H n).E.lvl = 0 ∧ (M43 H n).E.P = Tryd.prog ∧ (M43 H n).fuel = n ∧ (M43 H n).C = H ∧ (M43 H n).E.ok = okL := ⟨rfl, rfl, rfl, rfl, rfl, rfl, rfl, rfl, rfl, rfl, rfl⟩
noncomputable abbrev c43 : Code := Tryd.f43.body.getD .skip
theorem s43 {H} (hH : SoundHand Tryd.prog (hand H)) {args out} (n : Nat) (hl : args.length ≤ 16) (hp : match out with | .ret v => pureR v = true | .pan v => pureR v = true) (h : Fin (M43 (hand H) n) Tryd.f43.results.toList (R (M43 (hand H) n) c43 .top ⟨params 0 args, [], fun _ => none, 0⟩) = some out) : SoundPure Tryd.prog 43 args out := sound_of (C := Cx (hand H)) hH good mixed Tryd.func43 rfl hl hp h
/-- chiasmus/chiasmusref08.two -/
noncomputable abbrev M44 (H : FuncId → Option (List V → Option V)) (n : Nat) : Mc := mcOf (Cx H) 44 Tryd.f44 n
theorem m44 (H n) : (M44 H n).E.keep = [0, 1, 4, 12] ∧ (M44 H n).E.cnd = [12] ∧ (M44 H n).E.frz = [] ∧ (M44 H n).E.pro = [] ∧ (M44 H n).E.imp = [] ∧ (M44 H n).E.n = 13 ∧ (M44 H n).E.lvl = 0 ∧ (M44 H n).E.P = Tryd.prog ∧ (M44 H n).fuel = n ∧ (M44 H n).C = H ∧ (M44 H n).E.ok = okL := ⟨rfl, rfl, rfl, rfl, rfl, rfl, rfl, rfl, rfl, rfl, rfl⟩
noncomputable abbrev c44 : Code := Tryd.f44.body.getD .skip
theorem s44 {H} (hH : SoundHand Tryd.prog (hand H)) {args out} (n : Nat) (hl : args.length ≤ 13) (hp : match out with | .ret v => pureR v = true | .pan v => pureR v = true) (h : Fin (M44 (hand H) n) Tryd.f44.results.toList (R (M44 (hand H) n) c44 .top ⟨params 0 args, [], fun _ => none, 0⟩) = some out) : SoundPure Tryd.prog 44 args out := sound_of (C := Cx (hand H)) hH good mixed Tryd.func44 rfl hl hp h
/-- chiasmus/chiasmusref08.of -/
noncomputable abbrev M45 (H : FuncId → Option (List V → Option V)) (n : Nat) : Mc := mcOf (Cx H) 45 Tryd.f45 n
theorem m45 (H n) : (M45 H n).E.keep = [0, 2, 3, 4, 8, 16] ∧ (M45 H n).E.cnd = [8, 16] ∧ (M45 H n).E.frz = [0, 4] ∧ (M45 H n).E.pro = [] ∧ (M45 H n).E.imp = [] ∧ (M45 H n).E.n = 31 ∧ (M45 H n).E.lvl = 0 ∧ (M45 H n).E.P = Tryd.prog ∧ (M45 H n).fuel = n ∧ (M45 H n).C = H ∧ (M45 H n).E.ok = okL := ⟨rfl, rfl, rfl, rfl, rfl, rfl, rfl, rfl, rfl, rfl, rfl⟩
noncomputable abbrev c45 : Code := Tryd.f45.body.getD .skip
theorem s45 {H} (hH : SoundHand Tryd.prog (hand H)) {args out} (n : Nat) (hl : args.length ≤ 31) (hp : match out with | .ret v => pureR v = true | .pan v => pureR v = true) (h : Fin (M45 (hand H) n) Tryd.f45.results.toList (R (M45 (hand H) n) c45 .top ⟨params 0 args, [], fun _ => none, 0⟩) = some out) : SoundPure Tryd.prog 45 args out := sound_of (C := Cx (hand H)) hH good mixed Tryd.func45 rfl hl hp h
/-- chiasmus/chiasmusref08.result -/
noncomputable abbrev M46 (H : FuncId → Option (List V → Option V)) (n : Nat) : Mc := mcOf (Cx H) 46 Tryd.f46 n
theorem m46 (H n) : (M46 H n).E.keep = [0, 1, 2, 3, 7] ∧ (M46 H n).E.cnd = [7] ∧ (M46 H n).E.frz = [] ∧ (M46 H n).E.pro = [] ∧ (M46 H n).E.imp = [] ∧ (M46 H n).E.n = 10 ∧ (M46 H n).E.lvl = 0 ∧ (M46 H n).E.P = Tryd.prog ∧ (M46 H n).fuel = n ∧ (M46 H n).C = H ∧ (M46 H n).E.ok = okL := ⟨rfl, rfl, rfl, rfl, rfl, rfl, rfl, rfl, rfl, rfl, rfl⟩
noncomputable abbrev c46 : Code := Tryd.f46.body.getD .skip
theorem s46 {H} (hH : SoundHand Tryd.prog (hand H)) {args out} (n : Nat) (hl : args.length ≤ 10) (hp : match out with | .ret v => pureR v = true | .pan v => pureR v = true) (h : Fin (M46 (hand H) n) Tryd.f46.results.toList (R (M46 (hand H) n) c46 .top ⟨params 0 args, [], fun _ => none, 0⟩) = some out) : SoundPure Tryd.prog 46 args out := sound_of (C := Cx (hand H)) hH good mixed Tryd.func46 rfl hl hp h
/-- chiasmus/chiasmusref08.trimmed -/
noncomputable abbrev M47 (H : FuncId → Option (List V → Option V)) (n : Nat) : Mc := mcOf (Cx H) 47 Tryd.f47 n
theorem m47 (H n) : (M47 H n).E.keep = [0, 1, 2, 3, 17] ∧ (M47 H n).E.cnd = [17] ∧ (M47 H n).E.frz = [3] ∧ (M47 H n).E.pro = [] ∧ (M47 H n).E.imp = [] ∧ (M47 H n).E.n = 31 ∧ (M47 H n).E.lvl = 0 ∧ (M47 H n).E.P = Tryd.prog ∧ (M47 H n).fuel = n ∧ (M47 H n).C = H ∧ (M47 H n).E.ok = okL := ⟨rfl, rfl, rfl, rfl, rfl, rfl, rfl, rfl, rfl, rfl, rfl⟩
noncomputable abbrev c47 : Code := Tryd.f47.body.getD .skip
theorem s47 {H} (hH : SoundHand Tryd.prog (hand H)) {args out} (n : Nat) (hl : args.length ≤ 31) (hp : match out with | .ret v => pureR v = true | .pan v => pureR v = true) (h : Fin (M47 (hand H) n) Tryd.f47.results.toList (R (M47 (hand H) n) c47 .top ⟨params 0 args, [], fun _ => none, 0⟩) = some out) : SoundPure Tryd.prog 47 args out := sound_of (C := Cx (hand H)) hH good mixed Tryd.func47 rfl hl hp h
/-- chiasmus/chiasmusref08.times -/
noncomputable abbrev M48 (H : FuncId → Option (List V → Option V)) (n : Nat) : Mc := mcOf (Cx H) 48 Tryd.f48 n
theorem m48 (H n) : (M48 H n).E.keep = [0, 1, 4, 5, 6, 7, 8, 9, 20, 30, 44] ∧ (M48 H n).E.cnd = [20, 30, 44] ∧ (M48 H n).E.frz = [6, 7, 8, 9] ∧ (M48 H n).E.pro = [] ∧ (M48 H n).E.imp = [] ∧ (M48 H n).E.n = 69 ∧ (M48 H n).E.lvl = 0 ∧ (M48 H n).E.P = Tryd.prog ∧ (M48 H n).fuel = n ∧ (M48 H n).C = H ∧ (M48 H n).E.ok = okL := ⟨rfl, rfl, rfl, rfl, rfl, rfl, rfl, rfl, rfl, rfl, rfl⟩
noncomputable abbrev c48 : Code := Tryd.f48.body.getD .skip
theorem s48 {H} (hH : SoundHand Tryd.prog (hand H)) {args out} (n : Nat) (hl : args.length ≤ 69) (hp : match out with | .ret v => pureR v = true | .pan v => pureR v = true) (h : Fin (M48 (hand H) n) Tryd.f48.results.toList (R (M48 (hand H) n) c48 .top ⟨params 0 args, [], fun _ => none, 0⟩) = some out) : SoundPure Tryd.prog 48 args out := sound_of (C := Cx (hand H)) hH good mixed Tryd.func48 rfl hl hp h
/-- chiasmus/arith.parse -/
noncomputable abbrev M50 (H : FuncId → Option (List V → Option V)) (n : Nat) : Mc := mcOf (Cx H) 50 Tryd.f50 n
theorem m50 (H n) : (M50 H n).E.keep = [0, 2, 3, 4, 5, 6, 7, 9, 21, 30, 31, 32, 33] ∧ (M50 H n).E.cnd = [21, 33] ∧ (M50 H n).E.frz = [3, 4, 6, 7, 9] ∧ (M50 H n).E.pro = [5] ∧ (M50 H n).E.imp = [] ∧ (M50 H n).E.n = 51 ∧ (M50 H n).E.lvl = 0 ∧ (M50 H n).E.P = Tryd.prog ∧ (M50 H n).fuel = n ∧ (M50 H n).C = H ∧ (M50 H n).E.ok = okL := ⟨rfl, rfl, rfl, rfl, rfl, rfl, rfl, rfl, rfl, rfl, rfl⟩
noncomputable abbrev c50 : Code := Tryd.f50.body.getD .skip
/-- chiasmus/arith.ask -/
noncomputable abbrev M51 (H : FuncId → Option (List V → Option V)) (n : Nat) : Mc := mcOf (Cx H) 51 Tryd.f51 n
theorem m51 (H n) : (M51 H n).E.keep = [0, 1, 5] ∧ (M51 H n).E.cnd = [5] ∧ (M51 H n).E.frz = [] ∧ (M51 H n).E.pro = [] ∧ (M51 H n).E.imp = [] ∧ (M51 H n).E.n = 9 ∧ (M51 H n).E.lvl = 0 ∧ (M51 H n).E.P = Tryd.prog ∧ (M51 H n).fuel = n ∧ (M51 H n).C = H ∧ (M51 H n).E.ok = okL := ⟨rfl, rfl, rfl, rfl, rfl, rfl, rfl, rfl, rfl, rfl, rfl⟩
noncomputable abbrev c51 : Code := Tryd.f51.body.getD .skip
theorem s51 {H} (hH : SoundHand Tryd.prog (hand H)) {args out} (n : Nat) (hl : args.length ≤ 9) (hp : match out with | .ret v => pureR v = true | .pan v => pureR v = true) (h : Fin (M51 (hand H) n) Tryd.f51.results.toList (R (M51 (hand H) n) c51 .top ⟨params 0 args, [], fun _ => none, 0⟩) = some out) : SoundPure Tryd.prog 51 args out := sound_of (C := Cx (hand H)) hH good mixed Tryd.func51 rfl hl hp h
/-- chiasmus/arith.divide -/
noncomputable abbrev M52 (H : FuncId → Option (List V → Option V)) (n : Nat) : Mc := mcOf (Cx H) 52 Tryd.f52 n
theorem m52 (H n) : (M52 H n).E.keep = [0, 1, 4, 5, 6, 7, 8, 9, 10, 11, 12, 13, 14, 18, 23, 64, 97] ∧ (M52 H n).E.cnd = [18, 23, 64, 97] ∧ (M52 H n).E.frz = [0, 1, 7, 8, 9, 12, 13, 14] ∧ (M52 H n).E.pro = [] ∧ (M52 H n).E.imp = [] ∧ (M52 H n).E.n = 121 ∧ (M52 H n).E.lvl = 0 ∧ (M52 H n).E.P = Tryd.prog ∧ (M52 H n).fuel = n ∧ (M52 H n).C = H ∧ (M52 H n).E.ok = okL := ⟨rfl, rfl, rfl, rfl, rfl, rfl, rfl, rfl, rfl, rfl, rfl⟩
noncomputable abbrev c52 : Code := Tryd.f52.body.getD .skip
theorem s52 {H} (hH : SoundHand Tryd.prog (hand H)) {args out} (n : Nat) (hl : args.length ≤ 121) (hp : match out with | .ret v => pureR v = true | .pan v => pureR v = true) (h : Fin (M52 (hand H) n) Tryd.f52.results.toList (R (M52 (hand H) n) c52 .top ⟨params 0 args, [], fun _ => none, 0⟩) = some out) : SoundPure Tryd.prog 52 args out := sound_of (C := Cx (hand H)) hH good mixed Tryd.func52 rfl hl hp h
/-- chiasmus/arith.signed -/
noncomputable abbrev M53 (H : FuncId → Option (List V → Option V)) (n : Nat) : Mc := mcOf (Cx H) 53 Tryd.f53 n
theorem m53 (H n) : (M53 H n).E.keep = [0, 1, 4] ∧ (M53 H n).E.cnd = [] ∧ (M53 H n).E.frz = [] ∧ (M53 H n).E.pro = [] ∧ (M53 H n).E.imp = [] ∧ (M53 H n).E.n = 13 ∧ (M53 H n).E.lvl = 0 ∧ (M53 H n).E.P = Tryd.prog ∧ (M53 H n).fuel = n ∧ (M53 H n).C = H ∧ (M53 H n).E.ok = okL := ⟨rfl, rfl, rfl, rfl, rfl, rfl, rfl, rfl, rfl, rfl, rfl⟩
noncomputable abbrev c53 : Code := Tryd.f53.body.getD .skip
theorem s53 {H} (hH : SoundHand Tryd.prog (hand H)) {args out} (n : Nat) (hl : args.length ≤ 13) (hp : match out with | .ret v => pureR v = true | .pan v => pureR v = true) (h : Fin (M53 (hand H) n) Tryd.f53.results.toList (R (M53 (hand H) n) c53 .top ⟨params 0 args, [], fun _ => none, 0⟩) = some out) : SoundPure Tryd.prog 53 args out := sound_of (C := Cx (hand H)) hH good mixed Tryd.func53 rfl hl hp h
/-- (chiasmus/arith.integer).text -/
noncomputable abbrev M54 (H : FuncId → Option (List V → Option V)) (n : Nat) : Mc := mcOf (Cx H) 54 Tryd.f54 n
theorem m54 (H n) : (M54 H n).E.keep = [0, 1, 2, 3, 12] ∧ (M54 H n).E.cnd = [12] ∧ (M54 H n).E.frz = [] ∧ (M54 H n).E.pro = [] ∧ (M54 H n).E.imp = [] ∧ (M54 H n).E.n = 16 ∧ (M54 H n).E.lvl = 0 ∧ (M54 H n).E.P = Tryd.prog ∧ (M54 H n).fuel = n ∧ (M54 H n).C = H ∧ (M54 H n).E.ok = okL := ⟨rfl, rfl, rfl, rfl, rfl, rfl, rfl, rfl, rfl, rfl, rfl⟩
noncomputable abbrev c54 : Code := Tryd.f54.body.getD .skip
/-- chiasmus/chiasmusref08.divided -/
noncomputable abbrev M55 (H : FuncId → Option (List V → Option V)) (n : Nat) : Mc := mcOf (Cx H) 55 Tryd.f55 n
theorem m55 (H n) : (M55 H n).E.keep = [0, 1, 4, 5, 6, 7, 8, 17, 33] ∧ (M55 H n).E.cnd = [17, 33] ∧ (M55 H n).E.frz = [8] ∧ (M55 H n).E.pro = [] ∧ (M55 H n).E.imp = [] ∧ (M55 H n).E.n = 51 ∧ (M55 H n).E.lvl = 0 ∧ (M55 H n).E.P = Tryd.prog ∧ (M55 H n).fuel = n ∧ (M55 H n).C = H ∧ (M55 H n).E.ok = okL := ⟨rfl, rfl, rfl, rfl, rfl, rfl, rfl, rfl, rfl, rfl, rfl⟩
noncomputable abbrev c55 : Code := Tryd.f55.body.getD .skip
theorem s55 {H} (hH : SoundHand Tryd.prog (hand H)) {args out} (n : Nat) (hl : args.length ≤ 51) (hp : match out with | .ret v => pureR v = true | .pan v => pureR v = true) (h : Fin (M55 (hand H) n) Tryd.f55.results.toList (R (M55 (hand H) n) c55 .top ⟨params 0 args, [], fun _ => none, 0⟩) = some out) : SoundPure Tryd.prog 55 args out := sound_of (C := Cx (hand H)) hH good mixed Tryd.func55 rfl hl hp h
/-- chiasmus/chiasmusref08.text -/
noncomputable abbrev M56 (H : FuncId → Option (List V → Option V)) (n : Nat) : Mc := mcOf (Cx H) 56 Tryd.f56 n
theorem m56 (H n) : (M56 H n).E.keep = [0, 1, 2, 3, 4, 8, 11, 20] ∧ (M56 H n).E.cnd = [8, 11, 20] ∧ (M56 H n).E.frz = [4] ∧ (M56 H n).E.pro = [] ∧ (M56 H n).E.imp = [] ∧ (M56 H n).E.n = 35 ∧ (M56 H n).E.lvl = 0 ∧ (M56 H n).E.P = Tryd.prog ∧ (M56 H n).fuel = n ∧ (M56 H n).C = H ∧ (M56 H n).E.ok = okL := ⟨rfl, rfl, rfl, rfl, rfl, rfl, rfl, rfl, rfl, rfl, rfl⟩
noncomputable abbrev c56 : Code := Tryd.f56.body.getD .skip
theorem s56 {H} (hH : SoundHand Tryd.prog (hand H)) {args out} (n : Nat) (hl : args.length ≤ 35) (hp : match out with | .ret v => pureR v = true | .pan v => pureR v = true) (h : Fin (M56 (hand H) n) Tryd.f56.results.toList (R (M56 (hand H) n) c56 .top ⟨params 0 args, [], fun _ => none, 0⟩) = some out) : SoundPure Tryd.prog 56 args out := sound_of (C := Cx (hand H)) hH good mixed Tryd.func56 rfl hl hp h
/-- chiasmus/arith.Gcd$1 -/
noncomputable abbrev M57 (H : FuncId → Option (List V → Option V)) (n : Nat) : Mc := mcOf (Cx H) 57 Tryd.f57 n
theorem m57 (H n) : (M57 H n).E.keep = [0, 1, 2, 3, 4, 5, 6, 8, 15] ∧ (M57 H n).E.cnd = [15] ∧ (M57 H n).E.frz = [5, 6, 7, 8] ∧ (M57 H n).E.pro = [] ∧ (M57 H n).E.imp = [] ∧ (M57 H n).E.n = 26 ∧ (M57 H n).E.lvl = 0 ∧ (M57 H n).E.P = Tryd.prog ∧ (M57 H n).fuel = n ∧ (M57 H n).C = H ∧ (M57 H n).E.ok = okL := ⟨rfl, rfl, rfl, rfl, rfl, rfl, rfl, rfl, rfl, rfl, rfl⟩
noncomputable abbrev c57 : Code := Tryd.f57.body.getD .skip
theorem s57 {H} (hH : SoundHand Tryd.prog (hand H)) {args out} (n : Nat) (hl : args.length ≤ 26) (hp : match out with | .ret v => pureR v = true | .pan v => pureR v = true) (h : Fin (M57 (hand H) n) Tryd.f57.results.toList (R (M57 (hand H) n) c57 .top ⟨params 0 args, [], fun _ => none, 0⟩) = some out) : SoundPure Tryd.prog 57 args out := sound_of (C := Cx (hand H)) hH good mixed Tryd.func57 rfl hl hp h
/-- chiasmus/arith.power -/
noncomputable abbrev M58 (H : FuncId → Option (List V → Option V)) (n : Nat) : Mc := mcOf (Cx H) 58 Tryd.f58 n
theorem m58 (H n) : (M58 H n).E.keep = [0, 1, 2, 6, 7, 8, 13, 15, 18, 19, 20, 27] ∧ (M58 H n).E.cnd = [13, 15, 20, 27] ∧ (M58 H n).E.frz = [] ∧ (M58 H n).E.pro = [] ∧ (M58 H n).E.imp = [] ∧ (M58 H n).E.n = 30 ∧ (M58 H n).E.lvl = 0 ∧ (M58 H n).E.P = Tryd.prog ∧ (M58 H n).fuel = n ∧ (M58 H n).C = H ∧ (M58 H n).E.ok = okL := ⟨rfl, rfl, rfl, rfl, rfl, rfl, rfl, rfl, rfl, rfl, rfl⟩
noncomputable abbrev c58 : Code := Tryd.f58.body.getD .skip
theorem s58 {H} (hH : SoundHand Tryd.prog (hand H)) {args out} (n : Nat) (hl : args.length ≤ 30) (hp : match out with | .ret v => pureR v = true | .pan v => pureR v = true) (h : Fin (M58 (hand H) n) Tryd.f58.results.toList (R (M58 (hand H) n) c58 .top ⟨params 0 args, [], fun _ => none, 0⟩) = some out) : SoundPure Tryd.prog 58 args out := sound_of (C := Cx (hand H)) hH good mixed Tryd.func58 rfl hl hp h
/-- chiasmus/chiasmusref08.power -/
noncomputable abbrev M59 (H : FuncId → Option (List V → Option V)) (n : Nat) : Mc := mcOf (Cx H) 59 Tryd.f59 n
theorem m59 (H n) : (M59 H n).E.keep = [0, 1, 4, 5, 6, 7, 15, 25, 29, 37] ∧ (M59 H n).E.cnd = [15, 25, 29, 37] ∧ (M59 H n).E.frz = [7] ∧ (M59 H n).E.pro = [] ∧ (M59 H n).E.imp = [] ∧ (M59 H n).E.n = 39 ∧ (M59 H n).E.lvl = 0 ∧ (M59 H n).E.P = Tryd.prog ∧ (M59 H n).fuel = n ∧ (M59 H n).C = H ∧ (M59 H n).E.ok = okL := ⟨rfl, rfl, rfl, rfl, rfl, rfl, rfl, rfl, rfl, rfl, rfl⟩
noncomputable abbrev c59 : Code := Tryd.f59.body.getD .skip
theorem s59 {H} (hH : SoundHand Tryd.prog (hand H)) {args out} (n : Nat) (hl : args.length ≤ 39) (hp : match out with | .ret v => pureR v = true | .pan v => pureR v = true) (h : Fin (M59 (hand H) n) Tryd.f59.results.toList (R (M59 (hand H) n) c59 .top ⟨params 0 args, [], fun _ => none, 0⟩) = some out) : SoundPure Tryd.prog 59 args out := sound_of (C := Cx (hand H)) hH good mixed Tryd.func59 rfl hl hp h
/-- chiasmus/arith.Root$1 -/
noncomputable abbrev M60 (H : FuncId → Option (List V → Option V)) (n : Nat) : Mc := mcOf (Cx H) 60 Tryd.f60 n
theorem m60 (H n) : (M60 H n).E.keep = [0, 1, 2, 4, 5, 6] ∧ (M60 H n).E.cnd = [] ∧ (M60 H n).E.frz = [5] ∧ (M60 H n).E.pro = [] ∧ (M60 H n).E.imp = [] ∧ (M60 H n).E.n = 25 ∧ (M60 H n).E.lvl = 0 ∧ (M60 H n).E.P = Tryd.prog ∧ (M60 H n).fuel = n ∧ (M60 H n).C = H ∧ (M60 H n).E.ok = okL := ⟨rfl, rfl, rfl, rfl, rfl, rfl, rfl, rfl, rfl, rfl, rfl⟩
noncomputable abbrev c60 : Code := Tryd.f60.body.getD .skip
theorem s60 {H} (hH : SoundHand Tryd.prog (hand H)) {args out} (n : Nat) (hl : args.length ≤ 25) (hp : match out with | .ret v => pureR v = true | .pan v => pureR v = true) (h : Fin (M60 (hand H) n) Tryd.f60.results.toList (R (M60 (hand H) n) c60 .top ⟨params 0 args, [], fun _ => none, 0⟩) = some out) : SoundPure Tryd.prog 60 args out := sound_of (C := Cx (hand H)) hH good mixed Tryd.func60 rfl hl hp h
/-- chiasmus/arith.compare -/
noncomputable abbrev M61 (H : FuncId → Option (List V → Option V)) (n : Nat) : Mc := mcOf (Cx H) 61 Tryd.f61 n
theorem m61 (H n) : (M61 H n).E.keep = [0, 1, 4, 5, 10, 21, 32] ∧ (M61 H n).E.cnd = [10, 21, 32] ∧ (M61 H n).E.frz = [5] ∧ (M61 H n).E.pro = [] ∧ (M61 H n).E.imp = [] ∧ (M61 H n).E.n = 43 ∧ (M61 H n).E.lvl = 0 ∧ (M61 H n).E.P = Tryd.prog ∧ (M61 H n).fuel = n ∧ (M61 H n).C = H ∧ (M61 H n).E.ok = okL := ⟨rfl, rfl, rfl, rfl, rfl, rfl, rfl, rfl, rfl, rfl, rfl⟩
noncomputable abbrev c61 : Code := Tryd.f61.body.getD .skip
theorem s61 {H} (hH : SoundHand Tryd.prog (hand H)) {args out} (n : Nat) (hl : args.length ≤ 43) (hp : match out with | .ret v => pureR v = true | .pan v => pureR v = true) (h : Fin (M61 (hand H) n) Tryd.f61.results.toList (R (M61 (hand H) n) c61 .top ⟨params 0 args, [], fun _ => none, 0⟩) = some out) : SoundPure Tryd.prog 61 args out := sound_of (C := Cx (hand H)) hH good mixed Tryd.func61 rfl hl hp h
/-- slices.Clone[chiasmus/arith.natural,int] -/
noncomputable abbrev M62 (H : FuncId → Option (List V → Option V)) (n : Nat) : Mc := mcOf (Cx H) 62 Tryd.f62 n
theorem m62 (H n) : (M62 H n).E.keep = [0, 2, 4] ∧ (M62 H n).E.cnd = [4] ∧ (M62 H n).E.frz = [] ∧ (M62 H n).E.pro = [] ∧ (M62 H n).E.imp = [] ∧ (M62 H n).E.n = 8 ∧ (M62 H n).E.lvl = 0 ∧ (M62 H n).E.P = Tryd.prog ∧ (M62 H n).fuel = n ∧ (M62 H n).C = H ∧ (M62 H n).E.ok = okL := ⟨rfl, rfl, rfl, rfl, rfl, rfl, rfl, rfl, rfl, rfl, rfl⟩
noncomputable abbrev c62 : Code := Tryd.f62.body.getD .skip
theorem s62 {H} (hH : SoundHand Tryd.prog (hand H)) {args out} (n : Nat) (hl : args.length ≤ 8) (hp : match out with | .ret v => pureR v = true | .pan v => pureR v = true) (h : Fin (M62 (hand H) n) Tryd.f62.results.toList (R (M62 (hand H) n) c62 .top ⟨params 0 args, [], fun _ => none, 0⟩) = some out) : SoundPure Tryd.prog 62 args out := sound_of (C := Cx (hand H)) hH good mixed Tryd.func62 rfl hl hp h
/-- (chiasmus/arith.natural).trim -/
noncomputable abbrev M63 (H : FuncId → Option (List V → Option V)) (n : Nat) : Mc := mcOf (Cx H) 63 Tryd.f63 n
theorem m63 (H n) : (M63 H n).E.keep = [0, 2, 14] ∧ (M63 H n).E.cnd = [14] ∧ (M63 H n).E.frz = [] ∧ (M63 H n).E.pro = [] ∧ (M63 H n).E.imp = [] ∧ (M63 H n).E.n = 21 ∧ (M63 H n).E.lvl = 0 ∧ (M63 H n).E.P = Tryd.prog ∧ (M63 H n).fuel = n ∧ (M63 H n).C = H ∧ (M63 H n).E.ok = okL := ⟨rfl, rfl, rfl, rfl, rfl, rfl, rfl, rfl, rfl, rfl, rfl⟩
noncomputable abbrev c63 : Code := Tryd.f63.body.getD .skip
theorem s63 {H} (hH : SoundHand Tryd.prog (hand H)) {args out} (n : Nat) (hl : args.length ≤ 21) (hp : match out with | .ret v => pureR v = true | .pan v => pureR v = true) (h : Fin (M63 (hand H) n) Tryd.f63.results.toList (R (M63 (hand H) n) c63 .top ⟨params 0 args, [], fun _ => none, 0⟩) = some out) : SoundPure Tryd.prog 63 args out := sound_of (C := Cx (hand H)) hH good mixed Tryd.func63 rfl hl hp h
/-- chiasmus/chiasmusref08.order -/
noncomputable abbrev M64 (H : FuncId → Option (List V → Option V)) (n : Nat) : Mc := mcOf (Cx H) 64 Tryd.f64 n
theorem m64 (H n) : (M64 H n).E.keep = [0, 1, 4, 5, 10, 15, 20, 31, 40] ∧ (M64 H n).E.cnd = [10, 15, 20, 31, 40] ∧ (M64 H n).E.frz = [5] ∧ (M64 H n).E.pro = [] ∧ (M64 H n).E.imp = [] ∧ (M64 H n).E.n = 41 ∧ (M64 H n).E.lvl = 0 ∧ (M64 H n).E.P = Tryd.prog ∧ (M64 H n).fuel = n ∧ (M64 H n).C = H ∧ (M64 H n).E.ok = okL := ⟨rfl, rfl, rfl, rfl, rfl, rfl, rfl, rfl, rfl, rfl, rfl⟩
noncomputable abbrev c64 : Code := Tryd.f64.body.getD .skip
theorem s64 {H} (hH : SoundHand Tryd.prog (hand H)) {args out} (n : Nat) (hl : args.length ≤ 41) (hp : match out with | .ret v => pureR v = true | .pan v => pureR v = true) (h : Fin (M64 (hand H) n) Tryd.f64.results.toList (R (M64 (hand H) n) c64 .top ⟨params 0 args, [], fun _ => none, 0⟩) = some out) : SoundPure Tryd.prog 64 args out := sound_of (C := Cx (hand H)) hH good mixed Tryd.func64 rfl hl hp h
/-- chiasmus/chiasmuslaw08.valid$1 -/
noncomputable abbrev M65 (H : FuncId → Option (List V → Option V)) (n : Nat) : Mc := mcOf (Cx H) 65 Tryd.f65 n
theorem m65 (H n) : (M65 H n).E.keep = [0, 2] ∧ (M65 H n).E.cnd = [] ∧ (M65 H n).E.frz = [] ∧ (M65 H n).E.pro = [] ∧ (M65 H n).E.imp = [] ∧ (M65 H n).E.n = 11 ∧ (M65 H n).E.lvl = 0 ∧ (M65 H n).E.P = Tryd.prog ∧ (M65 H n).fuel = n ∧ (M65 H n).C = H ∧ (M65 H n).E.ok = okL := ⟨rfl, rfl, rfl, rfl, rfl, rfl, rfl, rfl, rfl, rfl, rfl⟩
noncomputable abbrev c65 : Code := Tryd.f65.body.getD .skip
theorem s65 {H} (hH : SoundHand Tryd.prog (hand H)) {args out} (n : Nat) (hl : args.length ≤ 11) (hp : match out with | .ret v => pureR v = true | .pan v => pureR v = true) (h : Fin (M65 (hand H) n) Tryd.f65.results.toList (R (M65 (hand H) n) c65 .top ⟨params 0 args, [], fun _ => none, 0⟩) = some out) : SoundPure Tryd.prog 65 args out := sound_of (C := Cx (hand H)) hH good mixed Tryd.func65 rfl hl hp h
/-- chiasmus/arith.sum -/
noncomputable abbrev M66 (H : FuncId → Option (List V → Option V)) (n : Nat) : Mc := mcOf (Cx H) 66 Tryd.f66 n
theorem m66 (H n) : (M66 H n).E.keep = [0, 1, 2, 3, 4, 9, 23] ∧ (M66 H n).E.cnd = [9, 23] ∧ (M66 H n).E.frz = [] ∧ (M66 H n).E.pro = [] ∧ (M66 H n).E.imp = [] ∧ (M66 H n).E.n = 34 ∧ (M66 H n).E.lvl = 0 ∧ (M66 H n).E.P = Tryd.prog ∧ (M66 H n).fuel = n ∧ (M66 H n).C = H ∧ (M66 H n).E.ok = okL := ⟨rfl, rfl, rfl, rfl, rfl, rfl, rfl, rfl, rfl, rfl, rfl⟩
noncomputable abbrev c66 : Code := Tryd.f66.body.getD .skip
theorem s66 {H} (hH : SoundHand Tryd.prog (hand H)) {args out} (n : Nat) (hl : args.length ≤ 34) (hp : match out with | .ret v => pureR v = true | .pan v => pureR v = true) (h : Fin (M66 (hand H) n) Tryd.f66.results.toList (R (M66 (hand H) n) c66 .top ⟨params 0 args, [], fun _ => none, 0⟩) = some out) : SoundPure Tryd.prog 66 args out := sound_of (C := Cx (hand H)) hH good mixed Tryd.func66 rfl hl hp h
/-- chiasmus/arith.Neg$1 -/
noncomputable abbrev M67 (H : FuncId → Option (List V → Option V)) (n : Nat) : Mc := mcOf (Cx H) 67 Tryd.f67 n
theorem m67 (H n) : (M67 H n).E.keep = [0, 1, 2, 4] ∧ (M67 H n).E.cnd = [] ∧ (M67 H n).E.frz = [] ∧ (M67 H n).E.pro = [] ∧ (M67 H n).E.imp = [] ∧ (M67 H n).E.n = 7 ∧ (M67 H n).E.lvl = 0 ∧ (M67 H n).E.P = Tryd.prog ∧ (M67 H n).fuel = n ∧ (M67 H n).C = H ∧ (M67 H n).E.ok = okL := ⟨rfl, rfl, rfl, rfl, rfl, rfl, rfl, rfl, rfl, rfl, rfl⟩
noncomputable abbrev c67 : Code := Tryd.f67.body.getD .skip
theorem s67 {H} (hH : SoundHand Tryd.prog (hand H)) {args out} (n : Nat) (hl : args.length ≤ 7) (hp : match out with | .ret v => pureR v = true | .pan v => pureR v = true) (h : Fin (M67 (hand H) n) Tryd.f67.results.toList (R (M67 (hand H) n) c67 .top ⟨params 0 args, [], fun _ => none, 0⟩) = some out) : SoundPure Tryd.prog 67 args out := sound_of (C := Cx (hand H)) hH good mixed Tryd.func67 rfl hl hp h
/-- (chiasmus/arith.integer).opposite -/
noncomputable abbrev M68 (H : FuncId → Option (List V → Option V)) (n : Nat) : Mc := mcOf (Cx H) 68 Tryd.f68 n
theorem m68 (H n) : (M68 H n).E.keep = [0, 1, 2] ∧ (M68 H n).E.cnd = [] ∧ (M68 H n).E.frz = [] ∧ (M68 H n).E.pro = [] ∧ (M68 H n).E.imp = [] ∧ (M68 H n).E.n = 9 ∧ (M68 H n).E.lvl = 0 ∧ (M68 H n).E.P = Tryd.prog ∧ (M68 H n).fuel = n ∧ (M68 H n).C = H ∧ (M68 H n).E.ok = okL := ⟨rfl, rfl, rfl, rfl, rfl, rfl, rfl, rfl, rfl, rfl, rfl⟩
noncomputable abbrev c68 : Code := Tryd.f68.body.getD .skip
theorem s68 {H} (hH : SoundHand Tryd.prog (hand H)) {args out} (n : Nat) (hl : args.length ≤ 9) (hp : match out with | .ret v => pureR v = true | .pan v => pureR v = true) (h : Fin (M68 (hand H) n) Tryd.f68.results.toList (R (M68 (hand H) n) c68 .top ⟨params 0 args, [], fun _ => none, 0⟩) = some out) : SoundPure Tryd.prog 68 args out := sound_of (C := Cx (hand H)) hH good mixed Tryd.func68 rfl hl hp h
/-- chiasmus/arith.Sub$1 -/
noncomputable abbrev M69 (H : FuncId → Option (List V → Option V)) (n : Nat) : Mc := mcOf (Cx H) 69 Tryd.f69 n
theorem m69 (H n) : (M69 H n).E.keep = [0, 1, 2, 3, 4] ∧ (M69 H n).E.cnd = [] ∧ (M69 H n).E.frz = [] ∧ (M69 H n).E.pro = [] ∧ (M69 H n).E.imp = [] ∧ (M69 H n).E.n = 9 ∧ (M69 H n).E.lvl = 0 ∧ (M69 H n).E.P = Tryd.prog ∧ (M69 H n).fuel = n ∧ (M69 H n).C = H ∧ (M69 H n).E.ok = okL := ⟨rfl, rfl, rfl, rfl, rfl, rfl, rfl, rfl, rfl, rfl, rfl⟩
noncomputable abbrev c69 : Code := Tryd.f69.body.getD .skip
theorem s69 {H} (hH : SoundHand Tryd.prog (hand H)) {args out} (n : Nat) (hl : args.length ≤ 9) (hp : match out with | .ret v => pureR v = true | .pan v => pureR v = true) (h : Fin (M69 (hand H) n) Tryd.f69.results.toList (R (M69 (hand H) n) c69 .top ⟨params 0 args, [], fun _ => none, 0⟩) = some out) : SoundPure Tryd.prog 69 args out := sound_of (C := Cx (hand H)) hH good mixed Tryd.func69 rfl hl hp h
/-- chiasmus/chiasmusref08.sum -/
noncomputable abbrev M70 (H : FuncId → Option (List V → Option V)) (n : Nat) : Mc := mcOf (Cx H) 70 Tryd.f70 n
theorem m70 (H n) : (M70 H n).E.keep = [0, 1, 2, 3, 4, 9, 24] ∧ (M70 H n).E.cnd = [9, 24] ∧ (M70 H n).E.frz = [] ∧ (M70 H n).E.pro = [] ∧ (M70 H n).E.imp = [] ∧ (M70 H n).E.n = 43 ∧ (M70 H n).E.lvl = 0 ∧ (M70 H n).E.P = Tryd.prog ∧ (M70 H n).fuel = n ∧ (M70 H n).C = H ∧ (M70 H n).E.ok = okL := ⟨rfl, rfl, rfl, rfl, rfl, rfl, rfl, rfl, rfl, rfl, rfl⟩
noncomputable abbrev c70 : Code := Tryd.f70.body.getD .skip
theorem s70 {H} (hH : SoundHand Tryd.prog (hand H)) {args out} (n : Nat) (hl : args.length ≤ 43) (hp : match out with | .ret v => pureR v = true | .pan v => pureR v = true) (h : Fin (M70 (hand H) n) Tryd.f70.results.toList (R (M70 (hand H) n) c70 .top ⟨params 0 args, [], fun _ => none, 0⟩) = some out) : SoundPure Tryd.prog 70 args out := sound_of (C := Cx (hand H)) hH good mixed Tryd.func70 rfl hl hp h
/-- strings.TrimPrefix -/
noncomputable abbrev M71 (H : FuncId → Option (List V → Option V)) (n : Nat) : Mc := mcOf (Cx H) 71 Tryd.f71 n
theorem m71 (H n) : (M71 H n).E.keep = [0, 1, 4] ∧ (M71 H n).E.cnd = [] ∧ (M71 H n).E.frz = [] ∧ (M71 H n).E.pro = [] ∧ (M71 H n).E.imp = [] ∧ (M71 H n).E.n = 8 ∧ (M71 H n).E.lvl = 0 ∧ (M71 H n).E.P = Tryd.prog ∧ (M71 H n).fuel = n ∧ (M71 H n).C = H ∧ (M71 H n).E.ok = okL := ⟨rfl, rfl, rfl, rfl, rfl, rfl, rfl, rfl, rfl, rfl, rfl⟩
noncomputable abbrev c71 : Code := Tryd.f71.body.getD .skip
theorem s71 {H} (hH : SoundHand Tryd.prog (hand H)) {args out} (n : Nat) (hl : args.length ≤ 8) (hp : match out with | .ret v => pureR v = true | .pan v => pureR v = true) (h : Fin (M71 (hand H) n) Tryd.f71.results.toList (R (M71 (hand H) n) c71 .top ⟨params 0 args, [], fun _ => none, 0⟩) = some out) : SoundPure Tryd.prog 71 args out := sound_of (C := Cx (hand H)) hH good mixed Tryd.func71 rfl hl hp h
/-- strings.Trim -/
noncomputable abbrev M72 (H : FuncId → Option (List V → Option V)) (n : Nat) : Mc := mcOf (Cx H) 72 Tryd.f72 n
theorem m72 (H n) : (M72 H n).E.keep = [0, 1, 4, 5, 6, 12, 21, 34] ∧ (M72 H n).E.cnd = [12, 21, 34] ∧ (M72 H n).E.frz = [6] ∧ (M72 H n).E.pro = [] ∧ (M72 H n).E.imp = [] ∧ (M72 H n).E.n = 43 ∧ (M72 H n).E.lvl = 0 ∧ (M72 H n).E.P = Tryd.prog ∧ (M72 H n).fuel = n ∧ (M72 H n).C = H ∧ (M72 H n).E.ok = okL := ⟨rfl, rfl, rfl, rfl, rfl, rfl, rfl, rfl, rfl, rfl, rfl⟩
noncomputable abbrev c72 : Code := Tryd.f72.body.getD .skip
theorem s72 {H} (hH : SoundHand Tryd.prog (hand H)) {args out} (n : Nat) (hl : args.length ≤ 43) (hp : match out with | .ret v => pureR v = true | .pan v => pureR v = true) (h : Fin (M72 (hand H) n) Tryd.f72.results.toList (R (M72 (hand H) n) c72 .top ⟨params 0 args, [], fun _ => none, 0⟩) = some out) : SoundPure Tryd.prog 72 args out := sound_of (C := Cx (hand H)) hH good mixed Tryd.func72 rfl hl hp h
/-- chiasmus/arith.based -/
noncomputable abbrev M73 (H : FuncId → Option (List V → Option V)) (n : Nat) : Mc := mcOf (Cx H) 73 Tryd.f73 n
theorem m73 (H n) : (M73 H n).E.keep = [0, 2] ∧ (M73 H n).E.cnd = [] ∧ (M73 H n).E.frz = [] ∧ (M73 H n).E.pro = [] ∧ (M73 H n).E.imp = [] ∧ (M73 H n).E.n = 9 ∧ (M73 H n).E.lvl = 0 ∧ (M73 H n).E.P = Tryd.prog ∧ (M73 H n).fuel = n ∧ (M73 H n).C = H ∧ (M73 H n).E.ok = okL := ⟨rfl, rfl, rfl, rfl, rfl, rfl, rfl, rfl, rfl, rfl, rfl⟩
noncomputable abbrev c73 : Code := Tryd.f73.body.getD .skip
theorem s73 {H} (hH : SoundHand Tryd.prog (hand H)) {args out} (n : Nat) (hl : args.length ≤ 9) (hp : match out with | .ret v => pureR v = true | .pan v => pureR v = true) (h : Fin (M73 (hand H) n) Tryd.f73.results.toList (R (M73 (hand H) n) c73 .top ⟨params 0 args, [], fun _ => none, 0⟩) = some out) : SoundPure Tryd.prog 73 args out := sound_of (C := Cx (hand H)) hH good mixed Tryd.func73 rfl hl hp h
/-- chiasmus/arith.small -/
noncomputable abbrev M74 (H : FuncId → Option (List V → Option V)) (n : Nat) : Mc := mcOf (Cx H) 74 Tryd.f74 n
theorem m74 (H n) : (M74 H n).E.keep = [0, 1, 4, 5, 6, 7, 8, 16] ∧ (M74 H n).E.cnd = [16] ∧ (M74 H n).E.frz = [8] ∧ (M74 H n).E.pro = [] ∧ (M74 H n).E.imp = [] ∧ (M74 H n).E.n = 38 ∧ (M74 H n).E.lvl = 0 ∧ (M74 H n).E.P = Tryd.prog ∧ (M74 H n).fuel = n ∧ (M74 H n).C = H ∧ (M74 H n).E.ok = okL := ⟨rfl, rfl, rfl, rfl, rfl, rfl, rfl, rfl, rfl, rfl, rfl⟩
noncomputable abbrev c74 : Code := Tryd.f74.body.getD .skip
theorem s74 {H} (hH : SoundHand Tryd.prog (hand H)) {args out} (n : Nat) (hl : args.length ≤ 38) (hp : match out with | .ret v => pureR v = true | .pan v => pureR v = true) (h : Fin (M74 (hand H) n) Tryd.f74.results.toList (R (M74 (hand H) n) c74 .top ⟨params 0 args, [], fun _ => none, 0⟩) = some out) : SoundPure Tryd.prog 74 args out := sound_of (C := Cx (hand H)) hH good mixed Tryd.func74 rfl hl hp h
noncomputable abbrev c75 : Code := Tryd.f75.body.getD .skip
/-- slices.ContainsFunc[[]int,int] -/
noncomputable abbrev M76 (H : FuncId → Option (List V → Option V)) (n : Nat) : Mc := mcOf (Cx H) 76 Tryd.f76 n
theorem m76 (H n) : (M76 H n).E.keep = [0, 1, 4] ∧ (M76 H n).E.cnd = [] ∧ (M76 H n).E.frz = [] ∧ (M76 H n).E.pro = [] ∧ (M76 H n).E.imp = [] ∧ (M76 H n).E.n = 9 ∧ (M76 H n).E.lvl = 0 ∧ (M76 H n).E.P = Tryd.prog ∧ (M76 H n).fuel = n ∧ (M76 H n).C = H ∧ (M76 H n).E.ok = okL := ⟨rfl, rfl, rfl, rfl, rfl, rfl, rfl, rfl, rfl, rfl, rfl⟩
noncomputable abbrev c76 : Code := Tryd.f76.body.getD .skip
theorem s76 {H} (hH : SoundHand Tryd.prog (hand H)) {args out} (n : Nat) (hl : args.length ≤ 9) (hp : match out with | .ret v => pureR v = true | .pan v => pureR v = true) (h : Fin (M76 (hand H) n) Tryd.f76.results.toList (R (M76 (hand H) n) c76 .top ⟨params 0 args, [], fun _ => none, 0⟩) = some out) : SoundPure Tryd.prog 76 args out := sound_of (C := Cx (hand H)) hH good mixed Tryd.func76 rfl hl hp h
/-- chiasmus/arith.Number$1 -/
noncomputable abbrev M77 (H : FuncId → Option (List V → Option V)) (n : Nat) : Mc := mcOf (Cx H) 77 Tryd.f77 n
theorem m77 (H n) : (M77 H n).E.keep = [0, 1, 3] ∧ (M77 H n).E.cnd = [] ∧ (M77 H n).E.frz = [] ∧ (M77 H n).E.pro = [] ∧ (M77 H n).E.imp = [] ∧ (M77 H n).E.n = 11 ∧ (M77 H n).E.lvl = 0 ∧ (M77 H n).E.P = Tryd.prog ∧ (M77 H n).fuel = n ∧ (M77 H n).C = H ∧ (M77 H n).E.ok = okL := ⟨rfl, rfl, rfl, rfl, rfl, rfl, rfl, rfl, rfl, rfl, rfl⟩
noncomputable abbrev c77 : Code := Tryd.f77.body.getD .skip
theorem s77 {H} (hH : SoundHand Tryd.prog (hand H)) {args out} (n : Nat) (hl : args.length ≤ 11) (hp : match out with | .ret v => pureR v = true | .pan v => pureR v = true) (h : Fin (M77 (hand H) n) Tryd.f77.results.toList (R (M77 (hand H) n) c77 .top ⟨params 0 args, [], fun _ => none, 0⟩) = some out) : SoundPure Tryd.prog 77 args out := sound_of (C := Cx (hand H)) hH good mixed Tryd.func77 rfl hl hp h
/-- chiasmus/arith.plus -/
noncomputable abbrev M78 (H : FuncId → Option (List V → Option V)) (n : Nat) : Mc := mcOf (Cx H) 78 Tryd.f78 n
theorem m78 (H n) : (M78 H n).E.keep = [0, 1, 4, 5, 6, 7, 18] ∧ (M78 H n).E.cnd = [18] ∧ (M78 H n).E.frz = [6, 7] ∧ (M78 H n).E.pro = [5] ∧ (M78 H n).E.imp = [] ∧ (M78 H n).E.n = 39 ∧ (M78 H n).E.lvl = 0 ∧ (M78 H n).E.P = Tryd.prog ∧ (M78 H n).fuel = n ∧ (M78 H n).C = H ∧ (M78 H n).E.ok = okL := ⟨rfl, rfl, rfl, rfl, rfl, rfl, rfl, rfl, rfl, rfl, rfl⟩
noncomputable abbrev c78 : Code := Tryd.f78.body.getD .skip
theorem s78 {H} (hH : SoundHand Tryd.prog (hand H)) {args out} (n : Nat) (hl : args.length ≤ 39) (hp : match out with | .ret v => pureR v = true | .pan v => pureR v = true) (h : Fin (M78 (hand H) n) Tryd.f78.results.toList (R (M78 (hand H) n) c78 .top ⟨params 0 args, [], fun _ => none, 0⟩) = some out) : SoundPure Tryd.prog 78 args out := sound_of (C := Cx (hand H)) hH good mixed Tryd.func78 rfl hl hp h
/-- chiasmus/arith.times -/
noncomputable abbrev M79 (H : FuncId → Option (List V → Option V)) (n : Nat) : Mc := mcOf (Cx H) 79 Tryd.f79 n
theorem m79 (H n) : (M79 H n).E.keep = [0, 1, 4, 5, 6, 7, 8, 9, 16, 17, 18, 19, 30] ∧ (M79 H n).E.cnd = [19, 30] ∧ (M79 H n).E.frz = [6, 7, 8, 9] ∧ (M79 H n).E.pro = [] ∧ (M79 H n).E.imp = [] ∧ (M79 H n).E.n = 59 ∧ (M79 H n).E.lvl = 0 ∧ (M79 H n).E.P = Tryd.prog ∧ (M79 H n).fuel = n ∧ (M79 H n).C = H ∧ (M79 H n).E.ok = okL := ⟨rfl, rfl, rfl, rfl, rfl, rfl, rfl, rfl, rfl, rfl, rfl⟩
noncomputable abbrev c79 : Code := Tryd.f79.body.getD .skip
theorem s79 {H} (hH : SoundHand Tryd.prog (hand H)) {args out} (n : Nat) (hl : args.length ≤ 59) (hp : match out with | .ret v => pureR v = true | .pan v => pureR v = true) (h : Fin (M79 (hand H) n) Tryd.f79.results.toList (R (M79 (hand H) n) c79 .top ⟨params 0 args, [], fun _ => none, 0⟩) = some out) : SoundPure Tryd.prog 79 args out := sound_of (C := Cx (hand H)) hH good mixed Tryd.func79 rfl hl hp h
noncomputable abbrev c80 : Code := Tryd.f80.body.getD .skip
/-- slices.IndexFunc[[]string,string] -/
noncomputable abbrev M82 (H : FuncId → Option (List V → Option V)) (n : Nat) : Mc := mcOf (Cx H) 82 Tryd.f82 n
theorem m82 (H n) : (M82 H n).E.keep = [0, 1, 4, 5, 7, 8, 9, 16] ∧ (M82 H n).E.cnd = [9, 16] ∧ (M82 H n).E.frz = [] ∧ (M82 H n).E.pro = [] ∧ (M82 H n).E.imp = [] ∧ (M82 H n).E.n = 19 ∧ (M82 H n).E.lvl = 0 ∧ (M82 H n).E.P = Tryd.prog ∧ (M82 H n).fuel = n ∧ (M82 H n).C = H ∧ (M82 H n).E.ok = okL := ⟨rfl, rfl, rfl, rfl, rfl, rfl, rfl, rfl, rfl, rfl, rfl⟩
noncomputable abbrev c82 : Code := Tryd.f82.body.getD .skip
theorem s82 {H} (hH : SoundHand Tryd.prog (hand H)) {args out} (n : Nat) (hl : args.length ≤ 19) (hp : match out with | .ret v => pureR v = true | .pan v => pureR v = true) (h : Fin (M82 (hand H) n) Tryd.f82.results.toList (R (M82 (hand H) n) c82 .top ⟨params 0 args, [], fun _ => none, 0⟩) = some out) : SoundPure Tryd.prog 82 args out := sound_of (C := Cx (hand H)) hH good mixed Tryd.func82 rfl hl hp h
/-- strings.CutPrefix -/
noncomputable abbrev M83 (H : FuncId → Option (List V → Option V)) (n : Nat) : Mc := mcOf (Cx H) 83 Tryd.f83 n
theorem m83 (H n) : (M83 H n).E.keep = [0, 1, 4, 5] ∧ (M83 H n).E.cnd = [] ∧ (M83 H n).E.frz = [] ∧ (M83 H n).E.pro = [] ∧ (M83 H n).E.imp = [] ∧ (M83 H n).E.n = 11 ∧ (M83 H n).E.lvl = 0 ∧ (M83 H n).E.P = Tryd.prog ∧ (M83 H n).fuel = n ∧ (M83 H n).C = H ∧ (M83 H n).E.ok = okL := ⟨rfl, rfl, rfl, rfl, rfl, rfl, rfl, rfl, rfl, rfl, rfl⟩
noncomputable abbrev c83 : Code := Tryd.f83.body.getD .skip
theorem s83 {H} (hH : SoundHand Tryd.prog (hand H)) {args out} (n : Nat) (hl : args.length ≤ 11) (hp : match out with | .ret v => pureR v = true | .pan v => pureR v = true) (h : Fin (M83 (hand H) n) Tryd.f83.results.toList (R (M83 (hand H) n) c83 .top ⟨params 0 args, [], fun _ => none, 0⟩) = some out) : SoundPure Tryd.prog 83 args out := sound_of (C := Cx (hand H)) hH good mixed Tryd.func83 rfl hl hp h
/-- (chiasmus/arith.natural).at -/
noncomputable abbrev M84 (H : FuncId → Option (List V → Option V)) (n : Nat) : Mc := mcOf (Cx H) 84 Tryd.f84 n
theorem m84 (H n) : (M84 H n).E.keep = [0, 1, 4, 8] ∧ (M84 H n).E.cnd = [8] ∧ (M84 H n).E.frz = [] ∧ (M84 H n).E.pro = [] ∧ (M84 H n).E.imp = [] ∧ (M84 H n).E.n = 13 ∧ (M84 H n).E.lvl = 0 ∧ (M84 H n).E.P = Tryd.prog ∧ (M84 H n).fuel = n ∧ (M84 H n).C = H ∧ (M84 H n).E.ok = okL := ⟨rfl, rfl, rfl, rfl, rfl, rfl, rfl, rfl, rfl, rfl, rfl⟩
noncomputable abbrev c84 : Code := Tryd.f84.body.getD .skip
theorem s84 {H} (hH : SoundHand Tryd.prog (hand H)) {args out} (n : Nat) (hl : args.length ≤ 13) (hp : match out with | .ret v => pureR v = true | .pan v => pureR v = true) (h : Fin (M84 (hand H) n) Tryd.f84.results.toList (R (M84 (hand H) n) c84 .top ⟨params 0 args, [], fun _ => none, 0⟩) = some out) : SoundPure Tryd.prog 84 args out := sound_of (C := Cx (hand H)) hH good mixed Tryd.func84 rfl hl hp h
/-- chiasmus/arith.minus -/
noncomputable abbrev M85 (H : FuncId → Option (List V → Option V)) (n : Nat) : Mc := mcOf (Cx H) 85 Tryd.f85 n
theorem m85 (H n) : (M85 H n).E.keep = [0, 1, 4, 5, 6, 7, 8, 13, 14, 15, 28] ∧ (M85 H n).E.cnd = [15, 28] ∧ (M85 H n).E.frz = [6, 7, 8] ∧ (M85 H n).E.pro = [] ∧ (M85 H n).E.imp = [] ∧ (M85 H n).E.n = 38 ∧ (M85 H n).E.lvl = 0 ∧ (M85 H n).E.P = Tryd.prog ∧ (M85 H n).fuel = n ∧ (M85 H n).C = H ∧ (M85 H n).E.ok = okL := ⟨rfl, rfl, rfl, rfl, rfl, rfl, rfl, rfl, rfl, rfl, rfl⟩
noncomputable abbrev c85 : Code := Tryd.f85.body.getD .skip
theorem s85 {H} (hH : SoundHand Tryd.prog (hand H)) {args out} (n : Nat) (hl : args.length ≤ 38) (hp : match out with | .ret v => pureR v = true | .pan v => pureR v = true) (h : Fin (M85 (hand H) n) Tryd.f85.results.toList (R (M85 (hand H) n) c85 .top ⟨params 0 args, [], fun _ => none, 0⟩) = some out) : SoundPure Tryd.prog 85 args out := sound_of (C := Cx (hand H)) hH good mixed Tryd.func85 rfl hl hp h
/-- (chiasmus/arith.natural).text -/
noncomputable abbrev M86 (H : FuncId → Option (List V → Option V)) (n : Nat) : Mc := mcOf (Cx H) 86 Tryd.f86 n
theorem m86 (H n) : (M86 H n).E.keep = [0, 2, 3, 4, 5, 6, 9, 10, 11, 12, 13, 29] ∧ (M86 H n).E.cnd = [9, 13, 29] ∧ (M86 H n).E.frz = [4, 5, 6] ∧ (M86 H n).E.pro = [3] ∧ (M86 H n).E.imp = [104] ∧ (M86 H n).E.n = 45 ∧ (M86 H n).E.lvl = 0 ∧ (M86 H n).E.P = Tryd.prog ∧ (M86 H n).fuel = n ∧ (M86 H n).C = H ∧ (M86 H n).E.ok = okL := ⟨rfl, rfl, rfl, rfl, rfl, rfl, rfl, rfl, rfl, rfl, rfl⟩
noncomputable abbrev c86 : Code := Tryd.f86.body.getD .skip
theorem s86 {H} (hH : SoundHand Tryd.prog (hand H)) {args out} (n : Nat) (hl : args.length ≤ 45) (hp : match out with | .ret v => pureR v = true | .pan v => pureR v = true) (h : Fin (M86 (hand H) n) Tryd.f86.results.toList (R (M86 (hand H) n) c86 .top ⟨params 0 args, [], fun _ => none, 0⟩) = some out) : SoundPure Tryd.prog 86 args out := sound_of (C := Cx (hand H)) hH good mixed Tryd.func86 rfl hl hp h
/-- chiasmus/chiasmusref08.minus -/
noncomputable abbrev M87 (H : FuncId → Option (List V → Option V)) (n : Nat) : Mc := mcOf (Cx H) 87 Tryd.f87 n
theorem m87 (H n) : (M87 H n).E.keep = [0, 1, 4, 5, 6, 7, 8, 13, 25, 33] ∧ (M87 H n).E.cnd = [13, 25, 33] ∧ (M87 H n).E.frz = [6, 7, 8] ∧ (M87 H n).E.pro = [] ∧ (M87 H n).E.imp = [] ∧ (M87 H n).E.n = 41 ∧ (M87 H n).E.lvl = 0 ∧ (M87 H n).E.P = Tryd.prog ∧ (M87 H n).fuel = n ∧ (M87 H n).C = H ∧ (M87 H n).E.ok = okL := ⟨rfl, rfl, rfl, rfl, rfl, rfl, rfl, rfl, rfl, rfl, rfl⟩
noncomputable abbrev c87 : Code := Tryd.f87.body.getD .skip
theorem s87 {H} (hH : SoundHand Tryd.prog (hand H)) {args out} (n : Nat) (hl : args.length ≤ 41) (hp : match out with | .ret v => pureR v = true | .pan v => pureR v = true) (h : Fin (M87 (hand H) n) Tryd.f87.results.toList (R (M87 (hand H) n) c87 .top ⟨params 0 args, [], fun _ => none, 0⟩) = some out) : SoundPure Tryd.prog 87 args out := sound_of (C := Cx (hand H)) hH good mixed Tryd.func87 rfl hl hp h
/-- chiasmus/arith.sign -/
noncomputable abbrev M88 (H : FuncId → Option (List V → Option V)) (n : Nat) : Mc := mcOf (Cx H) 88 Tryd.f88 n
theorem m88 (H n) : (M88 H n).E.keep = [0, 2] ∧ (M88 H n).E.cnd = [] ∧ (M88 H n).E.frz = [] ∧ (M88 H n).E.pro = [] ∧ (M88 H n).E.imp = [] ∧ (M88 H n).E.n = 6 ∧ (M88 H n).E.lvl = 0 ∧ (M88 H n).E.P = Tryd.prog ∧ (M88 H n).fuel = n ∧ (M88 H n).C = H ∧ (M88 H n).E.ok = okL := ⟨rfl, rfl, rfl, rfl, rfl, rfl, rfl, rfl, rfl, rfl, rfl⟩
noncomputable abbrev c88 : Code := Tryd.f88.body.getD .skip
theorem s88 {H} (hH : SoundHand Tryd.prog (hand H)) {args out} (n : Nat) (hl : args.length ≤ 6) (hp : match out with | .ret v => pureR v = true | .pan v => pureR v = true) (h : Fin (M88 (hand H) n) Tryd.f88.results.toList (R (M88 (hand H) n) c88 .top ⟨params 0 args, [], fun _ => none, 0⟩) = some out) : SoundPure Tryd.prog 88 args out := sound_of (C := Cx (hand H)) hH good mixed Tryd.func88 rfl hl hp h
/-- chiasmus/chiasmusref08.plus -/
noncomputable abbrev M89 (H : FuncId → Option (List V → Option V)) (n : Nat) : Mc := mcOf (Cx H) 89 Tryd.f89 n
theorem m89 (H n) : (M89 H n).E.keep = [0, 1, 4, 5, 6, 7, 22, 28, 38] ∧ (M89 H n).E.cnd = [22, 28, 38] ∧ (M89 H n).E.frz = [6, 7] ∧ (M89 H n).E.pro = [] ∧ (M89 H n).E.imp = [] ∧ (M89 H n).E.n = 53 ∧ (M89 H n).E.lvl = 0 ∧ (M89 H n).E.P = Tryd.prog ∧ (M89 H n).fuel = n ∧ (M89 H n).C = H ∧ (M89 H n).E.ok = okL := ⟨rfl, rfl, rfl, rfl, rfl, rfl, rfl, rfl, rfl, rfl, rfl⟩
noncomputable abbrev c89 : Code := Tryd.f89.body.getD .skip
theorem s89 {H} (hH : SoundHand Tryd.prog (hand H)) {args out} (n : Nat) (hl : args.length ≤ 53) (hp : match out with | .ret v => pureR v = true | .pan v => pureR v = true) (h : Fin (M89 (hand H) n) Tryd.f89.results.toList (R (M89 (hand H) n) c89 .top ⟨params 0 args, [], fun _ => none, 0⟩) = some out) : SoundPure Tryd.prog 89 args out := sound_of (C := Cx (hand H)) hH good mixed Tryd.func89 rfl hl hp h
/-- internal/stringslite.TrimPrefix -/
noncomputable abbrev M90 (H : FuncId → Option (List V → Option V)) (n : Nat) : Mc := mcOf (Cx H) 90 Tryd.f90 n
theorem m90 (H n) : (M90 H n).E.keep = [0, 1, 4, 7] ∧ (M90 H n).E.cnd = [7] ∧ (M90 H n).E.frz = [] ∧ (M90 H n).E.pro = [] ∧ (M90 H n).E.imp = [] ∧ (M90 H n).E.n = 13 ∧ (M90 H n).E.lvl = 0 ∧ (M90 H n).E.P = Tryd.prog ∧ (M90 H n).fuel = n ∧ (M90 H n).C = H ∧ (M90 H n).E.ok = okL := ⟨rfl, rfl, rfl, rfl, rfl, rfl, rfl, rfl, rfl, rfl, rfl⟩
noncomputable abbrev c90 : Code := Tryd.f90.body.getD .skip
theorem s90 {H} (hH : SoundHand Tryd.prog (hand H)) {args out} (n : Nat) (hl : args.length ≤ 13) (hp : match out with | .ret v => pureR v = true | .pan v => pureR v = true) (h : Fin (M90 (hand H) n) Tryd.f90.results.toList (R (M90 (hand H) n) c90 .top ⟨params 0 args, [], fun _ => none, 0⟩) = some out) : SoundPure Tryd.prog 90 args out := sound_of (C := Cx (hand H)) hH good mixed Tryd.func90 rfl hl hp h
/-- strings.trimLeftASCII -/
noncomputable abbrev M94 (H : FuncId → Option (List V → Option V)) (n : Nat) : Mc := mcOf (Cx H) 94 Tryd.f94 n
theorem m94 (H n) : (M94 H n).E.keep = [0, 1, 4, 7, 12] ∧ (M94 H n).E.cnd = [7, 12] ∧ (M94 H n).E.frz = [] ∧ (M94 H n).E.pro = [] ∧ (M94 H n).E.imp = [] ∧ (M94 H n).E.n = 16 ∧ (M94 H n).E.lvl = 0 ∧ (M94 H n).E.P = Tryd.prog ∧ (M94 H n).fuel = n ∧ (M94 H n).C = H ∧ (M94 H n).E.ok = okL := ⟨rfl, rfl, rfl, rfl, rfl, rfl, rfl, rfl, rfl, rfl, rfl⟩
noncomputable abbrev c94 : Code := Tryd.f94.body.getD .skip
theorem s94 {H} (hH : SoundHand Tryd.prog (hand H)) {args out} (n : Nat) (hl : args.length ≤ 16) (hp : match out with | .ret v => pureR v = true | .pan v => pureR v = true) (h : Fin (M94 (hand H) n) Tryd.f94.results.toList (R (M94 (hand H) n) c94 .top ⟨params 0 args, [], fun _ => none, 0⟩) = some out) : SoundPure Tryd.prog 94 args out := sound_of (C := Cx (hand H)) hH good mixed Tryd.func94 rfl hl hp h
/-- strings.trimRightASCII -/
noncomputable abbrev M95 (H : FuncId → Option (List V → Option V)) (n : Nat) : Mc := mcOf (Cx H) 95 Tryd.f95 n
theorem m95 (H n) : (M95 H n).E.keep = [0, 1, 4, 7, 15] ∧ (M95 H n).E.cnd = [7, 15] ∧ (M95 H n).E.frz = [] ∧ (M95 H n).E.pro = [] ∧ (M95 H n).E.imp = [] ∧ (M95 H n).E.n = 22 ∧ (M95 H n).E.lvl = 0 ∧ (M95 H n).E.P = Tryd.prog ∧ (M95 H n).fuel = n ∧ (M95 H n).C = H ∧ (M95 H n).E.ok = okL := ⟨rfl, rfl, rfl, rfl, rfl, rfl, rfl, rfl, rfl, rfl, rfl⟩
noncomputable abbrev c95 : Code := Tryd.f95.body.getD .skip
theorem s95 {H} (hH : SoundHand Tryd.prog (hand H)) {args out} (n : Nat) (hl : args.length ≤ 22) (hp : match out with | .ret v => pureR v = true | .pan v => pureR v = true) (h : Fin (M95 (hand H) n) Tryd.f95.results.toList (R (M95 (hand H) n) c95 .top ⟨params 0 args, [], fun _ => none, 0⟩) = some out) : SoundPure Tryd.prog 95 args out := sound_of (C := Cx (hand H)) hH good mixed Tryd.func95 rfl hl hp h
noncomputable abbrev c98 : Code := Tryd.f98.body.getD .skip
/-- slices.IndexFunc[[]int,int] -/
noncomputable abbrev M99 (H : FuncId → Option (List V → Option V)) (n : Nat) : Mc := mcOf (Cx H) 99 Tryd.f99 n
theorem m99 (H n) : (M99 H n).E.keep = [0, 1, 4, 5, 7, 8, 9, 16] ∧ (M99 H n).E.cnd = [9, 16] ∧ (M99 H n).E.frz = [] ∧ (M99 H n).E.pro = [] ∧ (M99 H n).E.imp = [] ∧ (M99 H n).E.n = 19 ∧ (M99 H n).E.lvl = 0 ∧ (M99 H n).E.P = Tryd.prog ∧ (M99 H n).fuel = n ∧ (M99 H n).C = H ∧ (M99 H n).E.ok = okL := ⟨rfl, rfl, rfl, rfl, rfl, rfl, rfl, rfl, rfl, rfl, rfl⟩
noncomputable abbrev c99 : Code := Tryd.f99.body.getD .skip
theorem s99 {H} (hH : SoundHand Tryd.prog (hand H)) {args out} (n : Nat) (hl : args.length ≤ 19) (hp : match out with | .ret v => pureR v = true | .pan v => pureR v = true) (h : Fin (M99 (hand H) n) Tryd.f99.results.toList (R (M99 (hand H) n) c99 .top ⟨params 0 args, [], fun _ => none, 0⟩) = some out) : SoundPure Tryd.prog 99 args out := sound_of (C := Cx (hand H)) hH good mixed Tryd.func99 rfl hl hp h
/-- internal/stringslite.CutPrefix -/
noncomputable abbrev M103 (H : FuncId → Option (List V → Option V)) (n : Nat) : Mc := mcOf (Cx H) 103 Tryd.f103 n
theorem m103 (H n) : (M103 H n).E.keep = [0, 1, 4, 5, 9] ∧ (M103 H n).E.cnd = [9] ∧ (M103 H n).E.frz = [] ∧ (M103 H n).E.pro = [] ∧ (M103 H n).E.imp = [] ∧ (M103 H n).E.n = 15 ∧ (M103 H n).E.lvl = 0 ∧ (M103 H n).E.P = Tryd.prog ∧ (M103 H n).fuel = n ∧ (M103 H n).C = H ∧ (M103 H n).E.ok = okL := ⟨rfl, rfl, rfl, rfl, rfl, rfl, rfl, rfl, rfl, rfl, rfl⟩
noncomputable abbrev c103 : Code := Tryd.f103.body.getD .skip
theorem s103 {H} (hH : SoundHand Tryd.prog (hand H)) {args out} (n : Nat) (hl : args.length ≤ 15) (hp : match out with | .ret v => pureR v = true | .pan v => pureR v = true) (h : Fin (M103 (hand H) n) Tryd.f103.results.toList (R (M103 (hand H) n) c103 .top ⟨params 0 args, [], fun _ => none, 0⟩) = some out) : SoundPure Tryd.prog 103 args out := sound_of (C := Cx (hand H)) hH good mixed Tryd.func103 rfl hl hp h
noncomputable abbrev c104 : Code := Tryd.f104.body.getD .skip
/-- internal/stringslite.HasPrefix -/
noncomputable abbrev M105 (H : FuncId → Option (List V → Option V)) (n : Nat) : Mc := mcOf (Cx H) 105 Tryd.f105 n
theorem m105 (H n) : (M105 H n).E.keep = [0, 1, 4] ∧ (M105 H n).E.cnd = [] ∧ (M105 H n).E.frz = [] ∧ (M105 H n).E.pro = [] ∧ (M105 H n).E.imp = [] ∧ (M105 H n).E.n = 18 ∧ (M105 H n).E.lvl = 0 ∧ (M105 H n).E.P = Tryd.prog ∧ (M105 H n).fuel = n ∧ (M105 H n).C = H ∧ (M105 H n).E.ok = okL := ⟨rfl, rfl, rfl, rfl, rfl, rfl, rfl, rfl, rfl, rfl, rfl⟩
noncomputable abbrev c105 : Code := Tryd.f105.body.getD .skip
theorem s105 {H} (hH : SoundHand Tryd.prog (hand H)) {args out} (n : Nat) (hl : args.length ≤ 18) (hp : match out with | .ret v => pureR v = true | .pan v => pureR v = true) (h : Fin (M105 (hand H) n) Tryd.f105.results.toList (R (M105 (hand H) n) c105 .top ⟨params 0 args, [], fun _ => none, 0⟩) = some out) : SoundPure Tryd.prog 105 args out := sound_of (C := Cx (hand H)) hH good mixed Tryd.func105 rfl hl hp h
/-- (*strings.asciiSet).contains -/
noncomputable abbrev M106 (H : FuncId → Option (List V → Option V)) (n : Nat) : Mc := mcOf (Cx H) 106 Tryd.f106 n
theorem m106 (H n) : (M106 H n).E.keep = [0, 1, 4] ∧ (M106 H n).E.cnd = [] ∧ (M106 H n).E.frz = [] ∧ (M106 H n).E.pro = [] ∧ (M106 H n).E.imp = [] ∧ (M106 H n).E.n = 10 ∧ (M106 H n).E.lvl = 0 ∧ (M106 H n).E.P = Tryd.prog ∧ (M106 H n).fuel = n ∧ (M106 H n).C = H ∧ (M106 H n).E.ok = okL := ⟨rfl, rfl, rfl, rfl, rfl, rfl, rfl, rfl, rfl, rfl, rfl⟩
noncomputable abbrev c106 : Code := Tryd.f106.body.getD .skip
theorem s106 {H} (hH : SoundHand Tryd.prog (hand H)) {args out} (n : Nat) (hl : args.length ≤ 10) (hp : match out with | .ret v => pureR v = true | .pan v => pureR v = true) (h : Fin (M106 (hand H) n) Tryd.f106.results.toList (R (M106 (hand H) n) c106 .top ⟨params 0 args, [], fun _ => none, 0⟩) = some out) : SoundPure Tryd.prog 106 args out := sound_of (C := Cx (hand H)) hH good mixed Tryd.func106 rfl hl hp h
noncomputable abbrev c116 : Code := Tryd.f116.body.getD .skip
noncomputable abbrev c127 : Code := Tryd.f127.body.getD .skip
theorem oks : okL.contains 3 = true ∧ okL.contains 4 = true ∧ okL.contains 5 = true ∧ okL.contains 6 = true ∧ okL.contains 7 = true ∧ okL.contains 8 = true ∧ okL.contains 9 = true ∧ okL.contains 10 = true ∧ okL.contains 11 = true ∧ okL.contains 12 = true ∧ okL.contains 13 = true ∧ okL.contains 14 = true ∧ okL.contains 15 = true ∧ okL.contains 16 = true ∧ okL.contains 17 = true ∧ okL.contains 18 = true ∧ okL.contains 19 = true ∧ okL.contains 20 = true ∧ okL.contains 21 = true ∧ okL.contains 22 = true ∧ okL.contains 23 = true ∧ okL.contains 24 = true ∧ okL.contains 25 = true ∧ okL.contains 26 = true ∧ okL.contains 27 = true ∧ okL.contains 28 = true ∧ okL.contains 29 = true ∧ okL.contains 30 = true ∧ okL.contains 31 = true ∧ okL.contains 32 = true ∧ okL.contains 33 = true ∧ okL.contains 34 = true ∧ okL.contains 35 = true ∧ okL.contains 36 = true ∧ okL.contains 37 = true ∧ okL.contains 38 = true ∧ okL.contains 39 = true ∧ okL.contains 40 = true ∧ okL.contains 41 = true ∧ okL.contains 42 = true ∧ okL.contains 43 = true ∧ okL.contains 44 = true ∧ okL.contains 45 = true ∧ okL.contains 46 = true ∧ okL.contains 47 = true ∧ okL.contains 48 = true ∧ okL.contains 49 = true ∧ okL.contains 50 = true ∧ okL.contains 51 = true ∧ okL.contains 52 = true ∧ okL.contains 53 = true ∧ okL.contains 54 = true ∧ okL.contains 55 = true ∧ okL.contains 56 = true ∧ okL.contains 57 = true ∧ okL.contains 58 = true ∧ okL.contains 59 = true ∧ okL.contains 60 = true ∧ okL.contains 61 = true ∧ okL.contains 62 = true ∧ okL.contains 63 = true ∧ okL.contains 64 = true ∧ okL.contains 65 = true ∧ okL.contains 66 = true ∧ okL.contains 67 = true ∧ okL.contains 68 = true ∧ okL.contains 69 = true ∧ okL.contains 70 = true ∧ okL.contains 71 = true ∧ okL.contains 72 = true ∧ okL.contains 73 = true ∧ okL.contains 74 = true ∧ okL.contains 75 = true ∧ okL.contains 76 = true ∧ okL.contains 77 = true ∧ okL.contains 78 = true ∧ okL.contains 79 = true ∧ okL.contains 80 = true ∧ okL.contains 81 = true ∧ okL.contains 82 = true ∧ okL.contains 83 = true ∧ okL.contains 84 = true ∧ okL.contains 85 = true ∧ okL.contains 86 = true ∧ okL.contains 87 = true ∧ okL.contains 88 = true ∧ okL.contains 89 = true ∧ okL.contains 90 = true ∧ okL.contains 91 = true ∧ okL.contains 92 = true ∧ okL.contains 93 = true ∧ okL.contains 94 = true ∧ okL.contains 95 = true ∧ okL.contains 96 = true ∧ okL.contains 97 = true ∧ okL.contains 98 = true ∧ okL.contains 99 = true ∧ okL.contains 100 = true ∧ okL.contains 101 = true ∧ okL.contains 102 = true ∧ okL.contains 103 = true ∧ okL.contains 104 = true ∧ okL.contains 105 = true ∧ okL.contains 106 = true ∧ okL.contains 116 = true ∧ okL.contains 127 = true ∧ okL.contains 129 = true ∧ okL.contains 131 = true := ⟨rfl, rfl, rfl, rfl, rfl, rfl, rfl, rfl, rfl, rfl, rfl, rfl, rfl, rfl, rfl, rfl, rfl, rfl, rfl, rfl, rfl, rfl, rfl, rfl, rfl, rfl, rfl, rfl, rfl, rfl, rfl, rfl, rfl, rfl, rfl, rfl, rfl, rfl, rfl, rfl, rfl, rfl, rfl, rfl, rfl, rfl, rfl, rfl, rfl, rfl, rfl, rfl, rfl, rfl, rfl, rfl, rfl, rfl, rfl, rfl, rfl, rfl, rfl, rfl, rfl, rfl, rfl, rfl, rfl, rfl, rfl, rfl, rfl, rfl, rfl, rfl, rfl, rfl, rfl, rfl, rfl, rfl, rfl, rfl, rfl, rfl, rfl, rfl, rfl, rfl, rfl, rfl, rfl, rfl, rfl, rfl, rfl, rfl, rfl, rfl, rfl, rfl, rfl, rfl, rfl, rfl, rfl, rfl⟩
/-- Facts on types. -/
def zB : List Bool := List.replicate 256 false
theorem ty :
  szT Tryd.prog 0 = 1 ∧
  aggT Tryd.prog 0 = some false ∧
  bytesT Tryd.prog 0 = 0 ∧
  zeroT Tryd.prog 0 = some V.junk ∧
  szT Tryd.prog 2 = 1 ∧
  aggT Tryd.prog 2 = some false ∧
  bytesT Tryd.prog 2 = 8 ∧
  zeroT Tryd.prog 2 = some (V.int IntKind.i64 (0)) ∧
  intT Tryd.prog 2 = some IntKind.i64 ∧
  szT Tryd.prog 3 = 1 ∧
  aggT Tryd.prog 3 = some false ∧
  bytesT Tryd.prog 3 = 8 ∧
  zeroT Tryd.prog 3 = some (V.int IntKind.i64 (0)) ∧
  intT Tryd.prog 3 = some IntKind.i64 ∧
  szT Tryd.prog 4 = 1 ∧
  aggT Tryd.prog 4 = some false ∧
  bytesT Tryd.prog 4 = 1 ∧
  zeroT Tryd.prog 4 = some (V.bool false) ∧
  szT Tryd.prog 5 = 1 ∧
  aggT Tryd.prog 5 = some false ∧
  bytesT Tryd.prog 5 = 1 ∧
  zeroT Tryd.prog 5 = some (V.int IntKind.u8 (0)) ∧
  intT Tryd.prog 5 = some IntKind.u8 ∧
  szT Tryd.prog 9 = 1 ∧
  aggT Tryd.prog 9 = some false ∧
  bytesT Tryd.prog 9 = 16 ∧
  zeroT Tryd.prog 9 = some (V.str []) ∧
  strT Tryd.prog 9 = true ∧
  rowT Tryd.prog 9 = true ∧
  szT Tryd.prog 20 = 1 ∧
  aggT Tryd.prog 20 = some false ∧
  bytesT Tryd.prog 20 = 16 ∧
  zeroT Tryd.prog 20 = some V.nilI ∧
  szT Tryd.prog 21 = 1 ∧
  aggT Tryd.prog 21 = some false ∧
  bytesT Tryd.prog 21 = 4 ∧
  zeroT Tryd.prog 21 = some (V.int IntKind.i32 (0)) ∧
  intT Tryd.prog 21 = some IntKind.i32 ∧
  szT Tryd.prog 24 = 1 ∧
  aggT Tryd.prog 24 = some false ∧
  bytesT Tryd.prog 24 = 8 ∧
  zeroT Tryd.prog 24 = some (V.int IntKind.i64 (0)) ∧
  intT Tryd.prog 24 = some IntKind.i64 ∧
  szT Tryd.prog 25 = 1 ∧
  aggT Tryd.prog 25 = some false ∧
  bytesT Tryd.prog 25 = 0 ∧
  zeroT Tryd.prog 25 = some V.junk ∧
  szT Tryd.prog 26 = 1 ∧
  aggT Tryd.prog 26 = some false ∧
  bytesT Tryd.prog 26 = 8 ∧
  zeroT Tryd.prog 26 = some V.nilF ∧
  szT Tryd.prog 27 = 1 ∧
  aggT Tryd.prog 27 = some false ∧
  bytesT Tryd.prog 27 = 0 ∧
  zeroT Tryd.prog 27 = some V.junk ∧
  szT Tryd.prog 32 = 1 ∧
  aggT Tryd.prog 32 = some false ∧
  bytesT Tryd.prog 32 = 8 ∧
  zeroT Tryd.prog 32 = some V.nilF ∧
  szT Tryd.prog 33 = 1 ∧
  aggT Tryd.prog 33 = some false ∧
  bytesT Tryd.prog 33 = 8 ∧
  zeroT Tryd.prog 33 = some V.nilF ∧
  szT Tryd.prog 36 = 1 ∧
  aggT Tryd.prog 36 = some false ∧
  bytesT Tryd.prog 36 = 0 ∧
  zeroT Tryd.prog 36 = some V.junk ∧
  szT Tryd.prog 38 = 1 ∧
  aggT Tryd.prog 38 = some false ∧
  bytesT Tryd.prog 38 = 8 ∧
  zeroT Tryd.prog 38 = some V.nilF ∧
  szT Tryd.prog 40 = 1 ∧
  aggT Tryd.prog 40 = some false ∧
  bytesT Tryd.prog 40 = 2 ∧
  zeroT Tryd.prog 40 = some (V.int IntKind.u16 (0)) ∧
  intT Tryd.prog 40 = some IntKind.u16 ∧
  szT Tryd.prog 41 = 1 ∧
  aggT Tryd.prog 41 = some false ∧
  bytesT Tryd.prog 41 = 24 ∧
  zeroT Tryd.prog 41 = some V.nilS ∧
  elemT Tryd.prog 41 = some 3 ∧
  rowT Tryd.prog 41 = true ∧
  szT Tryd.prog 42 = 1 ∧
  aggT Tryd.prog 42 = some false ∧
  bytesT Tryd.prog 42 = 0 ∧
  zeroT Tryd.prog 42 = some V.junk ∧
  szT Tryd.prog 48 = 1 ∧
  aggT Tryd.prog 48 = some false ∧
  bytesT Tryd.prog 48 = 24 ∧
  zeroT Tryd.prog 48 = some V.nilS ∧
  elemT Tryd.prog 48 = some 9 ∧
  rowT Tryd.prog 48 = true ∧
  szT Tryd.prog 51 = 1 ∧
  aggT Tryd.prog 51 = some false ∧
  bytesT Tryd.prog 51 = 8 ∧
  zeroT Tryd.prog 51 = some V.nilF ∧
  szT Tryd.prog 54 = 2 ∧
  aggT Tryd.prog 54 = some true ∧
  bytesT Tryd.prog 54 = 32 ∧
  zeroT Tryd.prog 54 = some (V.agg [V.bool false, V.nilS]) ∧
  fldT Tryd.prog 54 0 = some (0, 4) ∧
  fldT Tryd.prog 54 1 = some (1, 41) ∧
  structT Tryd.prog 54 = true ∧
  szT Tryd.prog 60 = 1 ∧
  aggT Tryd.prog 60 = some false ∧
  bytesT Tryd.prog 60 = 8 ∧
  zeroT Tryd.prog 60 = some V.nilP ∧
  szT Tryd.prog 61 = 1 ∧
  aggT Tryd.prog 61 = some false ∧
  bytesT Tryd.prog 61 = 24 ∧
  zeroT Tryd.prog 61 = some V.nilS ∧
  elemT Tryd.prog 61 = some 3 ∧
  rowT Tryd.prog 61 = true ∧
  szT Tryd.prog 63 = 2 ∧
  aggT Tryd.prog 63 = some true ∧
  bytesT Tryd.prog 63 = 32 ∧
  zeroT Tryd.prog 63 = some (V.agg [V.bool false, V.nilS]) ∧
  fldT Tryd.prog 63 0 = some (0, 4) ∧
  fldT Tryd.prog 63 1 = some (1, 61) ∧
  structT Tryd.prog 63 = true ∧
  szT Tryd.prog 66 = 1 ∧
  aggT Tryd.prog 66 = some false ∧
  bytesT Tryd.prog 66 = 0 ∧
  zeroT Tryd.prog 66 = some V.junk ∧
  szT Tryd.prog 70 = 1 ∧
  aggT Tryd.prog 70 = some false ∧
  bytesT Tryd.prog 70 = 0 ∧
  zeroT Tryd.prog 70 = some V.junk ∧
  szT Tryd.prog 73 = 1 ∧
  aggT Tryd.prog 73 = some false ∧
  bytesT Tryd.prog 73 = 0 ∧
  zeroT Tryd.prog 73 = some V.junk ∧
  szT Tryd.prog 75 = 1 ∧
  aggT Tryd.prog 75 = some false ∧
  bytesT Tryd.prog 75 = 0 ∧
  zeroT Tryd.prog 75 = some V.junk ∧
  szT Tryd.prog 78 = 1 ∧
  aggT Tryd.prog 78 = some false ∧
  bytesT Tryd.prog 78 = 8 ∧
  zeroT Tryd.prog 78 = some V.nilF ∧
  szT Tryd.prog 84 = 1 ∧
  aggT Tryd.prog 84 = some false ∧
  bytesT Tryd.prog 84 = 8 ∧
  zeroT Tryd.prog 84 = some V.nilF ∧
  szT Tryd.prog 85 = 1 ∧
  aggT Tryd.prog 85 = some false ∧
  bytesT Tryd.prog 85 = 0 ∧
  zeroT Tryd.prog 85 = some V.junk ∧
  szT Tryd.prog 91 = 1 ∧
  aggT Tryd.prog 91 = some false ∧
  bytesT Tryd.prog 91 = 16 ∧
  zeroT Tryd.prog 91 = some V.nilI ∧
  szT Tryd.prog 92 = 1 ∧
  aggT Tryd.prog 92 = some false ∧
  bytesT Tryd.prog 92 = 0 ∧
  zeroT Tryd.prog 92 = some V.junk ∧
  szT Tryd.prog 96 = 1 ∧
  aggT Tryd.prog 96 = some true ∧
  bytesT Tryd.prog 96 = 8 ∧
  zeroT Tryd.prog 96 = some (V.agg [V.int IntKind.i64 (0)]) ∧
  fldT Tryd.prog 96 0 = some (0, 24) ∧
  structT Tryd.prog 96 = true ∧
  szT Tryd.prog 97 = 1 ∧
  aggT Tryd.prog 97 = some false ∧
  bytesT Tryd.prog 97 = 0 ∧
  zeroT Tryd.prog 97 = some V.junk ∧
  szT Tryd.prog 98 = 1 ∧
  aggT Tryd.prog 98 = some false ∧
  bytesT Tryd.prog 98 = 0 ∧
  zeroT Tryd.prog 98 = some V.junk ∧
  szT Tryd.prog 100 = 1 ∧
  aggT Tryd.prog 100 = some false ∧
  bytesT Tryd.prog 100 = 24 ∧
  zeroT Tryd.prog 100 = some V.nilS ∧
  elemT Tryd.prog 100 = some 5 ∧
  rowT Tryd.prog 100 = true ∧
  szT Tryd.prog 104 = 256 ∧
  aggT Tryd.prog 104 = some true ∧
  bytesT Tryd.prog 104 = 256 ∧
  zeroT Tryd.prog 104 = some (V.agg (zB.map V.bool)) ∧
  arrT Tryd.prog 104 = some (256, 4) ∧
  szT Tryd.prog 105 = 1 ∧
  aggT Tryd.prog 105 = some false ∧
  bytesT Tryd.prog 105 = 0 ∧
  zeroT Tryd.prog 105 = some V.junk ∧
  szT Tryd.prog 108 = 1 ∧
  aggT Tryd.prog 108 = some false ∧
  bytesT Tryd.prog 108 = 8 ∧
  zeroT Tryd.prog 108 = some V.nilP ∧
  szT Tryd.prog 114 = 1 ∧
  aggT Tryd.prog 114 = some false ∧
  bytesT Tryd.prog 114 = 0 ∧
  zeroT Tryd.prog 114 = some V.junk ∧
  szT Tryd.prog 117 = 1 ∧
  aggT Tryd.prog 117 = some false ∧
  bytesT Tryd.prog 117 = 8 ∧
  zeroT Tryd.prog 117 = some (V.int IntKind.i64 (0)) ∧
  intT Tryd.prog 117 = some IntKind.i64 ∧
  szT Tryd.prog 118 = 1 ∧
  aggT Tryd.prog 118 = some false ∧
  bytesT Tryd.prog 118 = 0 ∧
  zeroT Tryd.prog 118 = some V.junk ∧
  szT Tryd.prog 120 = 1 ∧
  aggT Tryd.prog 120 = some false ∧
  bytesT Tryd.prog 120 = 8 ∧
  zeroT Tryd.prog 120 = some V.nilP ∧
  hasT Tryd.prog 0 = true ∧
  concT Tryd.prog 0 = true ∧
  hasT Tryd.prog 2 = true ∧
  concT Tryd.prog 2 = true ∧
  hasT Tryd.prog 3 = true ∧
  concT Tryd.prog 3 = true ∧
  Tryd.prog.underlying 4 = some TypeDesc.bool ∧
  hasT Tryd.prog 4 = true ∧
  concT Tryd.prog 4 = true ∧
  hasT Tryd.prog 5 = true ∧
  concT Tryd.prog 5 = true ∧
  elemT Tryd.prog 9 = none ∧
  arrT Tryd.prog 9 = none ∧
  hasT Tryd.prog 9 = true ∧
  concT Tryd.prog 9 = true ∧
  hasT Tryd.prog 21 = true ∧
  concT Tryd.prog 21 = true ∧
  hasT Tryd.prog 24 = true ∧
  concT Tryd.prog 24 = true ∧
  hasT Tryd.prog 25 = true ∧
  concT Tryd.prog 25 = true ∧
  hasT Tryd.prog 26 = true ∧
  concT Tryd.prog 26 = true ∧
  hasT Tryd.prog 27 = true ∧
  concT Tryd.prog 27 = true ∧
  hasT Tryd.prog 32 = true ∧
  concT Tryd.prog 32 = true ∧
  hasT Tryd.prog 33 = true ∧
  concT Tryd.prog 33 = true ∧
  hasT Tryd.prog 36 = true ∧
  concT Tryd.prog 36 = true ∧
  hasT Tryd.prog 38 = true ∧
  concT Tryd.prog 38 = true ∧
  hasT Tryd.prog 40 = true ∧
  concT Tryd.prog 40 = true ∧
  arrT Tryd.prog 41 = none ∧
  Tryd.prog.underlying 41 = some (TypeDesc.slice 3) ∧
  hasT Tryd.prog 41 = true ∧
  concT Tryd.prog 41 = true ∧
  hasT Tryd.prog 42 = true ∧
  concT Tryd.prog 42 = true ∧
  arrT Tryd.prog 48 = none ∧
  Tryd.prog.underlying 48 = some (TypeDesc.slice 9) ∧
  hasT Tryd.prog 48 = true ∧
  concT Tryd.prog 48 = true ∧
  hasT Tryd.prog 51 = true ∧
  concT Tryd.prog 51 = true ∧
  hasT Tryd.prog 54 = true ∧
  concT Tryd.prog 54 = true ∧
  hasT Tryd.prog 60 = true ∧
  concT Tryd.prog 60 = true ∧
  arrT Tryd.prog 61 = none ∧
  Tryd.prog.underlying 61 = some (TypeDesc.slice 3) ∧
  hasT Tryd.prog 61 = true ∧
  concT Tryd.prog 61 = true ∧
  hasT Tryd.prog 63 = true ∧
  concT Tryd.prog 63 = true ∧
  hasT Tryd.prog 66 = true ∧
  concT Tryd.prog 66 = true ∧
  hasT Tryd.prog 70 = true ∧
  concT Tryd.prog 70 = true ∧
  hasT Tryd.prog 73 = true ∧
  concT Tryd.prog 73 = true ∧
  hasT Tryd.prog 75 = true ∧
  concT Tryd.prog 75 = true ∧
  hasT Tryd.prog 78 = true ∧
  concT Tryd.prog 78 = true ∧
  hasT Tryd.prog 84 = true ∧
  concT Tryd.prog 84 = true ∧
  hasT Tryd.prog 85 = true ∧
  concT Tryd.prog 85 = true ∧
  hasT Tryd.prog 92 = true ∧
  concT Tryd.prog 92 = true ∧
  hasT Tryd.prog 96 = true ∧
  concT Tryd.prog 96 = true ∧
  hasT Tryd.prog 97 = true ∧
  concT Tryd.prog 97 = true ∧
  hasT Tryd.prog 98 = true ∧
  concT Tryd.prog 98 = true ∧
  arrT Tryd.prog 100 = none ∧
  Tryd.prog.underlying 100 = some (TypeDesc.slice 5) ∧
  hasT Tryd.prog 100 = true ∧
  concT Tryd.prog 100 = true ∧
  hasT Tryd.prog 104 = true ∧
  concT Tryd.prog 104 = true ∧
  hasT Tryd.prog 105 = true ∧
  concT Tryd.prog 105 = true ∧
  hasT Tryd.prog 108 = true ∧
  concT Tryd.prog 108 = true ∧
  hasT Tryd.prog 114 = true ∧
  concT Tryd.prog 114 = true ∧
  hasT Tryd.prog 117 = true ∧
  concT Tryd.prog 117 = true ∧
  hasT Tryd.prog 118 = true ∧
  concT Tryd.prog 118 = true ∧
  hasT Tryd.prog 120 = true ∧
  concT Tryd.prog 120 = true :=
  ⟨by kernel_rfl, by kernel_rfl, by kernel_rfl, by kernel_rfl, by kernel_rfl, by kernel_rfl, by kernel_rfl, by kernel_rfl, by kernel_rfl, by kernel_rfl, by kernel_rfl, by kernel_rfl, by kernel_rfl, by kernel_rfl, by kernel_rfl, by kernel_rfl, by kernel_rfl, by kernel_rfl, by kernel_rfl, by kernel_rfl, by kernel_rfl, by kernel_rfl, by kernel_rfl, by kernel_rfl, by kernel_rfl, by kernel_rfl, by kernel_rfl, by kernel_rfl, by kernel_rfl, by kernel_rfl, by kernel_rfl, by kernel_rfl, by kernel_rfl, by kernel_rfl, by kernel_rfl, by kernel_rfl, by kernel_rfl, by kernel_rfl, by kernel_rfl, by kernel_rfl, by kernel_rfl, by kernel_rfl, by kernel_rfl, by kernel_rfl, by kernel_rfl, by kernel_rfl, by kernel_rfl, by kernel_rfl, by kernel_rfl, by kernel_rfl, by kernel_rfl, by kernel_rfl, by kernel_rfl, by kernel_rfl, by kernel_rfl, by kernel_rfl, by kernel_rfl, by kernel_rfl, by kernel_rfl, by kernel_rfl, by kernel_rfl, by kernel_rfl, by kernel_rfl, by kernel_rfl, by kernel_rfl, by kernel_rfl, by kernel_rfl, by kernel_rfl, by kernel_rfl, by kernel_rfl, by kernel_rfl, by kernel_rfl, by kernel_rfl, by kernel_rfl, by kernel_rfl, by kernel_rfl, by kernel_rfl, by kernel_rfl, by kernel_rfl, by kernel_rfl, by kernel_rfl, by kernel_rfl, by kernel_rfl, by kernel_rfl, by kernel_rfl, by kernel_rfl, by kernel_rfl, by kernel_rfl, by kernel_rfl, by kernel_rfl, by kernel_rfl, by kernel_rfl, by kernel_rfl, by kernel_rfl, by kernel_rfl, by kernel_rfl, by kernel_rfl, by kernel_rfl, by kernel_rfl, by kernel_rfl, by kernel_rfl, by kernel_rfl, by kernel_rfl, by kernel_rfl, by kernel_rfl, by kernel_rfl, by kernel_rfl, by kernel_rfl, by kernel_rfl, by kernel_rfl, by kernel_rfl, by kernel_rfl, by kernel_rfl, by kernel_rfl, by kernel_rfl, by kernel_rfl, by kernel_rfl, by kernel_rfl, by kernel_rfl, by kernel_rfl, by kernel_rfl, by kernel_rfl, by kernel_rfl, by kernel_rfl, by kernel_rfl, by kernel_rfl, by kernel_rfl, by kernel_rfl, by kernel_rfl, by kernel_rfl, by kernel_rfl, by kernel_rfl, by kernel_rfl, by kernel_rfl, by kernel_rfl, by kernel_rfl, by kernel_rfl, by kernel_rfl, by kernel_rfl, by kernel_rfl, by kernel_rfl, by kernel_rfl, by kernel_rfl, by kernel_rfl, by kernel_rfl, by kernel_rfl, by kernel_rfl, by kernel_rfl, by kernel_rfl, by kernel_rfl, by kernel_rfl, by kernel_rfl, by kernel_rfl, by kernel_rfl, by kernel_rfl, by kernel_rfl, by kernel_rfl, by kernel_rfl, by kernel_rfl, by kernel_rfl, by kernel_rfl, by kernel_rfl, by kernel_rfl, by kernel_rfl, by kernel_rfl, by kernel_rfl, by kernel_rfl, by kernel_rfl, by kernel_rfl, by kernel_rfl, by kernel_rfl, by kernel_rfl, by kernel_rfl, by kernel_rfl, by kernel_rfl, by kernel_rfl, by kernel_rfl, by kernel_rfl, by kernel_rfl, by kernel_rfl, by kernel_rfl, by kernel_rfl, by kernel_rfl, by kernel_rfl, by kernel_rfl, by kernel_rfl, by kernel_rfl, by kernel_rfl, by kernel_rfl, by kernel_rfl, by kernel_rfl, by kernel_rfl, by kernel_rfl, by kernel_rfl, by kernel_rfl, by kernel_rfl, by kernel_rfl, by kernel_rfl, by kernel_rfl, by kernel_rfl, by kernel_rfl, by kernel_rfl, by kernel_rfl, by kernel_rfl, by kernel_rfl, by kernel_rfl, by kernel_rfl, by kernel_rfl, by kernel_rfl, by kernel_rfl, by kernel_rfl, by kernel_rfl, by kernel_rfl, by kernel_rfl, by kernel_rfl, by kernel_rfl, by kernel_rfl, by kernel_rfl, by kernel_rfl, by kernel_rfl, by kernel_rfl, by kernel_rfl, by kernel_rfl, by kernel_rfl, by kernel_rfl, by kernel_rfl, by kernel_rfl, by kernel_rfl, by kernel_rfl, by kernel_rfl, by kernel_rfl, by kernel_rfl, by kernel_rfl, by kernel_rfl, by kernel_rfl, by kernel_rfl, by kernel_rfl, by kernel_rfl, by kernel_rfl, by kernel_rfl, by kernel_rfl, by kernel_rfl, by kernel_rfl, by kernel_rfl, by kernel_rfl, by kernel_rfl, by kernel_rfl, by kernel_rfl, by kernel_rfl, by kernel_rfl, by kernel_rfl, by kernel_rfl, by kernel_rfl, by kernel_rfl, by kernel_rfl, by kernel_rfl, by kernel_rfl, by kernel_rfl, by kernel_rfl, by kernel_rfl, by kernel_rfl, by kernel_rfl, by kernel_rfl, by kernel_rfl, by kernel_rfl, by kernel_rfl, by kernel_rfl, by kernel_rfl, by kernel_rfl, by kernel_rfl, by kernel_rfl, by kernel_rfl, by kernel_rfl, by kernel_rfl, by kernel_rfl, by kernel_rfl, by kernel_rfl, by kernel_rfl, by kernel_rfl, by kernel_rfl, by kernel_rfl, by kernel_rfl, by kernel_rfl, by kernel_rfl, by kernel_rfl, by kernel_rfl, by kernel_rfl, by kernel_rfl, by kernel_rfl, by kernel_rfl, by kernel_rfl, by kernel_rfl, by kernel_rfl, by kernel_rfl, by kernel_rfl, by kernel_rfl, by kernel_rfl, by kernel_rfl, by kernel_rfl, by kernel_rfl, by kernel_rfl, by kernel_rfl, by kernel_rfl⟩
end Go.Vi
