/-
  THE FUNCTIONS' FRAMES AND THE TYPES' FACTS, written by a program of mine (gen.py) off Lean's print of the loaded program.
-/
import Derived.Test.YtkpcgnjjkaamgaaDoorVD
import Derived.Test.YtkpcgnjjkaamgaaDoorProg
import Derived.KernelRfl
set_option linter.unusedSimpArgs false
set_option linter.unusedVariables false
set_option maxRecDepth 100000
namespace Go.Vi
open Go Go.Proofs

def h0 : FuncId → Hint
  | 2 => { keep := [], cnd := [], frz := [], pro := [], imp := [] }
  | 3 => { keep := [0, 1, 2, 3, 6, 7, 8, 9, 10, 11, 12, 13, 14, 15, 41, 63, 90], cnd := [41, 63, 90], frz := [3, 9, 11, 14, 15], pro := [], imp := [] }
  | 4 => { keep := [0, 1, 2, 3, 4, 20, 25, 55, 60, 69], cnd := [20, 25, 55, 60, 69], frz := [3, 4], pro := [], imp := [] }
  | 5 => { keep := [0, 1, 2, 3, 4], cnd := [], frz := [2, 4], pro := [], imp := [] }
  | 6 => { keep := [0, 1, 2, 3, 4, 5, 17], cnd := [17], frz := [4], pro := [], imp := [] }
  | 7 => { keep := [0, 1, 2, 3, 4, 8], cnd := [8], frz := [1], pro := [], imp := [] }
  | 8 => { keep := [0, 1, 2, 3, 4, 5, 6, 7, 8, 9, 10, 11, 12, 13, 17, 30, 62, 96, 108], cnd := [17, 30, 62, 96, 108], frz := [1, 5, 7, 9, 11], pro := [], imp := [] }
  | 9 => { keep := [0, 1, 2, 3, 4, 5, 6, 7, 8, 9, 10, 17, 22, 55, 60, 104], cnd := [17, 22, 55, 60, 104], frz := [2, 3, 5, 8], pro := [], imp := [] }
  | 10 => { keep := [0, 1, 2, 3, 4, 8], cnd := [8], frz := [1], pro := [], imp := [] }
  | 11 => { keep := [0, 1, 2, 3, 4, 8], cnd := [8], frz := [1], pro := [], imp := [] }
  | 12 => { keep := [0, 1, 4], cnd := [], frz := [], pro := [], imp := [] }
  | 13 => { keep := [0, 1, 2, 3, 6, 7, 8, 9, 11, 15, 19, 20, 21, 22, 23, 34, 46], cnd := [15, 19, 23, 34, 46], frz := [3, 11], pro := [9], imp := [] }
  | 14 => { keep := [0, 1, 2, 3, 6, 7, 8, 9, 10, 14, 18, 22, 39, 54], cnd := [14, 18, 22, 39, 54], frz := [3, 10], pro := [9], imp := [] }
  | 15 => { keep := [0, 1, 2, 3, 6, 7, 8, 9, 10, 11, 15, 30, 34, 35, 36, 37, 41], cnd := [15, 30, 37, 41], frz := [9, 11, 37, 41], pro := [], imp := [] }
  | 16 => { keep := [0, 1, 2, 3, 24, 52], cnd := [24, 52], frz := [], pro := [], imp := [] }
  | 17 => { keep := [0, 1, 2, 3, 4, 5, 6, 7, 8, 9, 11, 12, 13, 14, 23, 24, 25, 26, 54, 55, 56, 57], cnd := [26, 57], frz := [1, 3, 7, 9, 11, 12], pro := [], imp := [] }
  | 18 => { keep := [0, 1, 2, 3, 4, 5, 26, 42, 47, 57, 62, 72], cnd := [26, 42, 47, 57, 62, 72], frz := [3, 4, 5], pro := [], imp := [] }
  | 19 => { keep := [0, 2, 3, 4, 8], cnd := [8], frz := [4], pro := [3], imp := [] }
  | 20 => { keep := [0, 1, 2, 4, 5, 6, 7, 8, 9, 10, 31, 50, 59, 64, 73], cnd := [31, 50, 59, 64, 73], frz := [2, 6, 8, 10], pro := [], imp := [] }
  | 21 => { keep := [0, 2], cnd := [], frz := [], pro := [], imp := [] }
  | 22 => { keep := [0, 1, 4], cnd := [], frz := [], pro := [], imp := [] }
  | 23 => { keep := [0, 2], cnd := [], frz := [], pro := [], imp := [] }
  | 24 => { keep := [0, 2], cnd := [], frz := [], pro := [], imp := [] }
  | 25 => { keep := [0, 2, 3, 4, 7], cnd := [7], frz := [4], pro := [3], imp := [] }
  | 26 => { keep := [0, 1, 4], cnd := [], frz := [], pro := [], imp := [] }
  | 27 => { keep := [0, 2], cnd := [], frz := [], pro := [], imp := [] }
  | 28 => { keep := [0, 2], cnd := [], frz := [], pro := [], imp := [] }
  | 29 => { keep := [0, 1, 4, 5, 6, 7, 17, 30, 41, 54, 68, 74, 79], cnd := [17, 30, 41, 54, 68, 74, 79], frz := [5], pro := [], imp := [] }
  | 30 => { keep := [0, 2], cnd := [], frz := [], pro := [], imp := [] }
  | 31 => { keep := [0, 2], cnd := [], frz := [], pro := [], imp := [] }
  | 32 => { keep := [0, 2, 3, 11], cnd := [11], frz := [], pro := [], imp := [] }
  | 33 => { keep := [0, 1, 2, 3, 4, 5, 6], cnd := [], frz := [], pro := [], imp := [] }
  | 34 => { keep := [0, 1, 2, 3, 4], cnd := [], frz := [], pro := [], imp := [] }
  | 35 => { keep := [0, 1, 2, 5, 6], cnd := [], frz := [], pro := [], imp := [] }
  | 36 => { keep := [0, 1, 4], cnd := [], frz := [], pro := [], imp := [] }
  | 37 => { keep := [0, 1, 2, 3], cnd := [], frz := [], pro := [], imp := [] }
  | 38 => { keep := [0, 1, 2, 4, 5, 6, 18, 20, 21, 22, 23, 47], cnd := [18, 23, 47], frz := [5, 6], pro := [], imp := [] }
  | 39 => { keep := [0, 1, 4], cnd := [], frz := [], pro := [], imp := [] }
  | 40 => { keep := [0, 1, 3], cnd := [], frz := [], pro := [], imp := [] }
  | 41 => { keep := [0, 1, 2, 4, 5, 6], cnd := [], frz := [2, 6], pro := [], imp := [] }
  | 42 => { keep := [0, 2], cnd := [], frz := [], pro := [], imp := [] }
  | 43 => { keep := [0, 2], cnd := [], frz := [], pro := [], imp := [] }
  | 44 => { keep := [0, 1, 4, 5, 6, 7, 8, 9, 10, 11], cnd := [11], frz := [6, 7], pro := [5], imp := [] }
  | 45 => { keep := [0, 1, 3, 7], cnd := [7], frz := [], pro := [], imp := [] }
  | 46 => { keep := [0, 1, 4, 5, 9, 12, 26], cnd := [9, 12, 26], frz := [5], pro := [], imp := [] }
  | 47 => { keep := [0, 1, 2, 4, 5, 17, 22, 57], cnd := [17, 22, 57], frz := [5], pro := [], imp := [] }
  | 48 => { keep := [0, 2], cnd := [], frz := [], pro := [], imp := [] }
  | 49 => { keep := [0, 1, 4, 5, 9, 17], cnd := [9, 17], frz := [5], pro := [], imp := [] }
  | 50 => { keep := [0, 1, 4, 7, 10], cnd := [7, 10], frz := [], pro := [], imp := [] }
  | 51 => { keep := [0, 2], cnd := [], frz := [], pro := [], imp := [] }
  | 52 => { keep := [0, 1, 4, 5, 6, 7, 8, 10, 26, 37], cnd := [10, 26, 37], frz := [5, 6], pro := [], imp := [] }
  | 53 => { keep := [0, 1, 2, 3, 5, 6, 7, 8, 9, 10, 11, 12, 26, 35, 40, 42, 43, 44, 45, 57, 69, 75], cnd := [26, 35, 40, 45, 57, 69, 75], frz := [9, 11, 12], pro := [], imp := [] }
  | 54 => { keep := [0, 1, 2, 4, 5], cnd := [], frz := [], pro := [], imp := [] }
  | 55 => { keep := [0, 2], cnd := [], frz := [], pro := [], imp := [] }
  | 56 => { keep := [0, 1, 2, 4, 5, 6, 7, 8, 9, 11, 12, 13, 18, 22, 23, 24, 25, 38, 39, 40, 41, 47, 60, 70, 71, 72, 73, 87], cnd := [18, 25, 41, 47, 60, 73, 87], frz := [7, 8, 9, 11, 12, 13], pro := [], imp := [] }
  | 57 => { keep := [0, 2, 4], cnd := [4], frz := [], pro := [], imp := [] }
  | 58 => { keep := [0, 1, 3], cnd := [], frz := [], pro := [], imp := [] }
  | 59 => { keep := [0, 1, 4, 5, 6, 7, 8, 9, 10, 19], cnd := [10, 19], frz := [5, 6], pro := [], imp := [] }
  | 60 => { keep := [0, 1, 4], cnd := [], frz := [], pro := [], imp := [] }
  | 61 => { keep := [0, 1, 3], cnd := [], frz := [], pro := [], imp := [] }
  | 62 => { keep := [0, 1, 4, 5, 7, 8, 9, 16], cnd := [9, 16], frz := [], pro := [], imp := [] }
  | 63 => { keep := [0, 1, 4, 5, 7, 8, 9, 16], cnd := [9, 16], frz := [], pro := [], imp := [] }
  | 64 => { keep := [0, 1, 3, 4, 6, 17, 26, 28, 29, 30, 31, 36], cnd := [17, 26, 31, 36], frz := [6], pro := [4], imp := [] }
  | 65 => { keep := [0, 1, 4], cnd := [], frz := [], pro := [], imp := [] }
  | 66 => { keep := [0, 2], cnd := [], frz := [], pro := [], imp := [] }
  | 67 => { keep := [0, 2], cnd := [], frz := [], pro := [], imp := [] }
  | 68 => { keep := [0, 2], cnd := [], frz := [], pro := [], imp := [] }
  | 69 => { keep := [0, 1, 4, 5, 6, 7, 8, 9], cnd := [], frz := [6, 7], pro := [], imp := [] }
  | 70 => { keep := [0, 2, 3, 4, 7, 15], cnd := [7, 15], frz := [4], pro := [], imp := [] }
  | 71 => { keep := [0, 1, 4, 5, 7, 8, 9, 16], cnd := [9, 16], frz := [], pro := [], imp := [] }
  | 72 => { keep := [0, 1, 4, 5, 7, 8, 9, 16], cnd := [9, 16], frz := [], pro := [], imp := [] }
  | 73 => { keep := [0, 1, 4, 5, 6, 7, 9, 11, 17, 23, 34], cnd := [11, 17, 23, 34], frz := [6, 7, 8], pro := [], imp := [] }
  | 74 => { keep := [0, 1, 4, 5, 6], cnd := [], frz := [6], pro := [], imp := [] }
  | 75 => { keep := [0, 1, 4, 5, 6, 7, 8, 9, 10, 11, 12, 13], cnd := [], frz := [6, 7, 8, 9, 10, 11, 12, 13], pro := [], imp := [] }
  | 76 => { keep := [0, 2, 4], cnd := [4], frz := [], pro := [], imp := [] }
  | 77 => { keep := [0, 2, 3], cnd := [], frz := [3], pro := [], imp := [] }
  | 78 => { keep := [0, 1, 4, 5, 6, 7, 8, 9, 10, 11, 12, 13, 14, 15, 16, 20, 99, 139, 161], cnd := [20, 99, 139, 161], frz := [1, 4, 5, 6, 7, 8, 9, 10, 11, 12, 13, 14, 15, 16], pro := [], imp := [] }
  | 79 => { keep := [0, 1, 2, 3, 4, 10, 11, 12, 13, 14, 15, 16, 17, 18, 28, 30, 34, 46, 68, 89, 94], cnd := [28, 30, 34, 46, 68, 89, 94], frz := [1, 13, 14, 15, 16, 17, 18], pro := [], imp := [] }
  | 80 => { keep := [0, 2], cnd := [], frz := [], pro := [], imp := [] }
  | 81 => { keep := [0, 2, 4, 8, 14], cnd := [4, 8, 14], frz := [0], pro := [], imp := [] }
  | 82 => { keep := [0, 2, 3], cnd := [3], frz := [], pro := [], imp := [] }
  | 83 => { keep := [0, 2], cnd := [], frz := [], pro := [], imp := [] }
  | 84 => { keep := [0, 2], cnd := [], frz := [], pro := [], imp := [] }
  | 85 => { keep := [0, 2, 4], cnd := [4], frz := [], pro := [], imp := [] }
  | 86 => { keep := [0, 2, 4], cnd := [4], frz := [], pro := [], imp := [] }
  | _ => { keep := [], cnd := [], frz := [], pro := [], imp := [] }
def okL : List FuncId := [2, 3, 4, 5, 6, 7, 8, 9, 10, 11, 12, 13, 14, 15, 16, 17, 18, 19, 20, 21, 22, 23, 24, 25, 26, 27, 28, 29, 30, 31, 32, 33, 34, 35, 36, 37, 38, 39, 40, 41, 42, 43, 44, 45, 46, 47, 48, 49, 50, 51, 52, 53, 54, 55, 56, 57, 58, 59, 60, 61, 62, 63, 64, 65, 66, 67, 68, 69, 70, 71, 72, 73, 74, 75, 76, 77, 78, 79, 80, 81, 82, 83, 84, 85, 86]
noncomputable abbrev Cx (H : FuncId → Option (List V → Option V)) : Ctx := { P := Tryd.prog, ok := okL, hint := h0, hand := H }
theorem good : ∀ g ∈ okL, GoodF Tryd.prog g := by
  intro g hg
  simp only [okL, List.mem_cons, List.not_mem_nil, or_false] at hg
  rcases hg with rfl | rfl | rfl | rfl | rfl | rfl | rfl | rfl | rfl | rfl | rfl | rfl | rfl | rfl | rfl | rfl | rfl | rfl | rfl | rfl | rfl | rfl | rfl | rfl | rfl | rfl | rfl | rfl | rfl | rfl | rfl | rfl | rfl | rfl | rfl | rfl | rfl | rfl | rfl | rfl | rfl | rfl | rfl | rfl | rfl | rfl | rfl | rfl | rfl | rfl | rfl | rfl | rfl | rfl | rfl | rfl | rfl | rfl | rfl | rfl | rfl | rfl | rfl | rfl | rfl | rfl | rfl | rfl | rfl | rfl | rfl | rfl | rfl | rfl | rfl | rfl | rfl | rfl | rfl | rfl | rfl | rfl | rfl | rfl | rfl
  · exact ⟨Tryd.f2, _, Tryd.func2, by decide, rfl⟩
  · exact ⟨Tryd.f3, _, Tryd.func3, by decide, rfl⟩
  · exact ⟨Tryd.f4, _, Tryd.func4, by decide, rfl⟩
  · exact ⟨Tryd.f5, _, Tryd.func5, by decide, rfl⟩
  · exact ⟨Tryd.f6, _, Tryd.func6, by decide, rfl⟩
  · exact ⟨Tryd.f7, _, Tryd.func7, by decide, rfl⟩
  · exact ⟨Tryd.f8, _, Tryd.func8, by decide, rfl⟩
  · exact ⟨Tryd.f9, _, Tryd.func9, by decide, rfl⟩
  · exact ⟨Tryd.f10, _, Tryd.func10, by decide, rfl⟩
  · exact ⟨Tryd.f11, _, Tryd.func11, by decide, rfl⟩
  · exact ⟨Tryd.f12, _, Tryd.func12, by decide, rfl⟩
  · exact ⟨Tryd.f13, _, Tryd.func13, by decide, rfl⟩
  · exact ⟨Tryd.f14, _, Tryd.func14, by decide, rfl⟩
  · exact ⟨Tryd.f15, _, Tryd.func15, by decide, rfl⟩
  · exact ⟨Tryd.f16, _, Tryd.func16, by decide, rfl⟩
  · exact ⟨Tryd.f17, _, Tryd.func17, by decide, rfl⟩
  · exact ⟨Tryd.f18, _, Tryd.func18, by decide, rfl⟩
  · exact ⟨Tryd.f19, _, Tryd.func19, by decide, rfl⟩
  · exact ⟨Tryd.f20, _, Tryd.func20, by decide, rfl⟩
  · exact ⟨Tryd.f21, _, Tryd.func21, by decide, rfl⟩
  · exact ⟨Tryd.f22, _, Tryd.func22, by decide, rfl⟩
  · exact ⟨Tryd.f23, _, Tryd.func23, by decide, rfl⟩
  · exact ⟨Tryd.f24, _, Tryd.func24, by decide, rfl⟩
  · exact ⟨Tryd.f25, _, Tryd.func25, by decide, rfl⟩
  · exact ⟨Tryd.f26, _, Tryd.func26, by decide, rfl⟩
  · exact ⟨Tryd.f27, _, Tryd.func27, by decide, rfl⟩
  · exact ⟨Tryd.f28, _, Tryd.func28, by decide, rfl⟩
  · exact ⟨Tryd.f29, _, Tryd.func29, by decide, rfl⟩
  · exact ⟨Tryd.f30, _, Tryd.func30, by decide, rfl⟩
  · exact ⟨Tryd.f31, _, Tryd.func31, by decide, rfl⟩
  · exact ⟨Tryd.f32, _, Tryd.func32, by decide, rfl⟩
  · exact ⟨Tryd.f33, _, Tryd.func33, by decide, rfl⟩
  · exact ⟨Tryd.f34, _, Tryd.func34, by decide, rfl⟩
  · exact ⟨Tryd.f35, _, Tryd.func35, by decide, rfl⟩
  · exact ⟨Tryd.f36, _, Tryd.func36, by decide, rfl⟩
  · exact ⟨Tryd.f37, _, Tryd.func37, by decide, rfl⟩
  · exact ⟨Tryd.f38, _, Tryd.func38, by decide, rfl⟩
  · exact ⟨Tryd.f39, _, Tryd.func39, by decide, rfl⟩
  · exact ⟨Tryd.f40, _, Tryd.func40, by decide, rfl⟩
  · exact ⟨Tryd.f41, _, Tryd.func41, by decide, rfl⟩
  · exact ⟨Tryd.f42, _, Tryd.func42, by decide, rfl⟩
  · exact ⟨Tryd.f43, _, Tryd.func43, by decide, rfl⟩
  · exact ⟨Tryd.f44, _, Tryd.func44, by decide, rfl⟩
  · exact ⟨Tryd.f45, _, Tryd.func45, by decide, rfl⟩
  · exact ⟨Tryd.f46, _, Tryd.func46, by decide, rfl⟩
  · exact ⟨Tryd.f47, _, Tryd.func47, by decide, rfl⟩
  · exact ⟨Tryd.f48, _, Tryd.func48, by decide, rfl⟩
  · exact ⟨Tryd.f49, _, Tryd.func49, by decide, rfl⟩
  · exact ⟨Tryd.f50, _, Tryd.func50, by decide, rfl⟩
  · exact ⟨Tryd.f51, _, Tryd.func51, by decide, rfl⟩
  · exact ⟨Tryd.f52, _, Tryd.func52, by decide, rfl⟩
  · exact ⟨Tryd.f53, _, Tryd.func53, by decide, rfl⟩
  · exact ⟨Tryd.f54, _, Tryd.func54, by decide, rfl⟩
  · exact ⟨Tryd.f55, _, Tryd.func55, by decide, rfl⟩
  · exact ⟨Tryd.f56, _, Tryd.func56, by decide, rfl⟩
  · exact ⟨Tryd.f57, _, Tryd.func57, by decide, rfl⟩
  · exact ⟨Tryd.f58, _, Tryd.func58, by decide, rfl⟩
  · exact ⟨Tryd.f59, _, Tryd.func59, by decide, rfl⟩
  · exact ⟨Tryd.f60, _, Tryd.func60, by decide, rfl⟩
  · exact ⟨Tryd.f61, _, Tryd.func61, by decide, rfl⟩
  · exact ⟨Tryd.f62, _, Tryd.func62, by decide, rfl⟩
  · exact ⟨Tryd.f63, _, Tryd.func63, by decide, rfl⟩
  · exact ⟨Tryd.f64, _, Tryd.func64, by decide, rfl⟩
  · exact ⟨Tryd.f65, _, Tryd.func65, by decide, rfl⟩
  · exact ⟨Tryd.f66, _, Tryd.func66, by decide, rfl⟩
  · exact ⟨Tryd.f67, _, Tryd.func67, by decide, rfl⟩
  · exact ⟨Tryd.f68, _, Tryd.func68, by decide, rfl⟩
  · exact ⟨Tryd.f69, _, Tryd.func69, by decide, rfl⟩
  · exact ⟨Tryd.f70, _, Tryd.func70, by decide, rfl⟩
  · exact ⟨Tryd.f71, _, Tryd.func71, by decide, rfl⟩
  · exact ⟨Tryd.f72, _, Tryd.func72, by decide, rfl⟩
  · exact ⟨Tryd.f73, _, Tryd.func73, by decide, rfl⟩
  · exact ⟨Tryd.f74, _, Tryd.func74, by decide, rfl⟩
  · exact ⟨Tryd.f75, _, Tryd.func75, by decide, rfl⟩
  · exact ⟨Tryd.f76, _, Tryd.func76, by decide, rfl⟩
  · exact ⟨Tryd.f77, _, Tryd.func77, by decide, rfl⟩
  · exact ⟨Tryd.f78, _, Tryd.func78, by decide, rfl⟩
  · exact ⟨Tryd.f79, _, Tryd.func79, by decide, rfl⟩
  · exact ⟨Tryd.f80, _, Tryd.func80, by decide, rfl⟩
  · exact ⟨Tryd.f81, _, Tryd.func81, by decide, rfl⟩
  · exact ⟨Tryd.f82, _, Tryd.func82, by decide, rfl⟩
  · exact ⟨Tryd.f83, _, Tryd.func83, by decide, rfl⟩
  · exact ⟨Tryd.f84, _, Tryd.func84, by decide, rfl⟩
  · exact ⟨Tryd.f85, _, Tryd.func85, by decide, rfl⟩
  · exact ⟨Tryd.f86, _, Tryd.func86, by decide, rfl⟩
theorem mixed : Tryd.prog.follows .mixedOrders = true := by kernel_rfl
/-- gosem.cut.init -/
noncomputable abbrev M2 (H : FuncId → Option (List V → Option V)) (n : Nat) : Mc := mcOf (Cx H) 2 Tryd.f2 n
theorem m2 (H n) : (M2 H n).E.keep = [] ∧ (M2 H n).E.cnd = [] ∧ (M2 H n).E.frz = [] ∧ (M2 H n).E.pro = [] ∧ (M2 H n).E.imp = [] ∧ (M2 H n).E.n = 1 ∧ (M2 H n).E.lvl = 0 ∧ (M2 H n).E.P = Tryd.prog ∧ (M2 H n).fuel = n ∧ (M2 H n).C = H ∧ (M2 H n).E.ok = okL := ⟨rfl, rfl, rfl, rfl, rfl, rfl, rfl, rfl, rfl, rfl, rfl⟩
noncomputable abbrev c2 : Code := Tryd.f2.body.getD .skip
theorem s2 {H} (hH : SoundHand Tryd.prog (hand H)) {args out} (n : Nat) (hl : args.length ≤ 1) (hp : match out with | .ret v => pureR v = true | .pan v => pureR v = true) (h : Fin (M2 (hand H) n) Tryd.f2.results.toList (R (M2 (hand H) n) c2 .top ⟨params 0 args, [], fun _ => none, 0⟩) = some out) : SoundPure Tryd.prog 2 args out := sound_of (C := Cx (hand H)) hH good mixed Tryd.func2 rfl hl hp h
/-- chiasmus/chiasmuslaw34.ProtocolPrograms -/
noncomputable abbrev M303 (H : FuncId → Option (List V → Option V)) (n : Nat) : Mc := mcOf (Cx H) 3 Tryd.f3 n
theorem m303 (H n) : (M303 H n).E.keep = [0, 1, 2, 3, 6, 7, 8, 9, 10, 11, 12, 13, 14, 15, 41, 63, 90] ∧ (M303 H n).E.cnd = [41, 63, 90] ∧ (M303 H n).E.frz = [3, 9, 11, 14, 15] ∧ (M303 H n).E.pro = [] ∧ (M303 H n).E.imp = [] ∧ (M303 H n).E.n = 116 ∧ (M303 H n).E.lvl = 0 ∧ (M303 H n).E.P = Tryd.prog ∧ (M303 H n).fuel = n ∧ (M303 H n).C = H ∧ (M303 H n).E.ok = okL := ⟨rfl, rfl, rfl, rfl, rfl, rfl, rfl, rfl, rfl, rfl, rfl⟩
noncomputable abbrev c303 : Code := Tryd.f3.body.getD .skip
theorem s303 {H} (hH : SoundHand Tryd.prog (hand H)) {args out} (n : Nat) (hl : args.length ≤ 116) (hp : match out with | .ret v => pureR v = true | .pan v => pureR v = true) (h : Fin (M303 (hand H) n) Tryd.f3.results.toList (R (M303 (hand H) n) c303 .top ⟨params 0 args, [], fun _ => none, 0⟩) = some out) : SoundPure Tryd.prog 3 args out := sound_of (C := Cx (hand H)) hH good mixed Tryd.func3 rfl hl hp h
/-- chiasmus/chiasmuslaw34.few -/
noncomputable abbrev M6 (H : FuncId → Option (List V → Option V)) (n : Nat) : Mc := mcOf (Cx H) 4 Tryd.f4 n
theorem m6 (H n) : (M6 H n).E.keep = [0, 1, 2, 3, 4, 20, 25, 55, 60, 69] ∧ (M6 H n).E.cnd = [20, 25, 55, 60, 69] ∧ (M6 H n).E.frz = [3, 4] ∧ (M6 H n).E.pro = [] ∧ (M6 H n).E.imp = [] ∧ (M6 H n).E.n = 70 ∧ (M6 H n).E.lvl = 0 ∧ (M6 H n).E.P = Tryd.prog ∧ (M6 H n).fuel = n ∧ (M6 H n).C = H ∧ (M6 H n).E.ok = okL := ⟨rfl, rfl, rfl, rfl, rfl, rfl, rfl, rfl, rfl, rfl, rfl⟩
noncomputable abbrev c6 : Code := Tryd.f4.body.getD .skip
theorem s6 {H} (hH : SoundHand Tryd.prog (hand H)) {args out} (n : Nat) (hl : args.length ≤ 70) (hp : match out with | .ret v => pureR v = true | .pan v => pureR v = true) (h : Fin (M6 (hand H) n) Tryd.f4.results.toList (R (M6 (hand H) n) c6 .top ⟨params 0 args, [], fun _ => none, 0⟩) = some out) : SoundPure Tryd.prog 4 args out := sound_of (C := Cx (hand H)) hH good mixed Tryd.func4 rfl hl hp h
/-- chiasmus/chiasmuslaw34.given -/
noncomputable abbrev M9 (H : FuncId → Option (List V → Option V)) (n : Nat) : Mc := mcOf (Cx H) 6 Tryd.f6 n
theorem m9 (H n) : (M9 H n).E.keep = [0, 1, 2, 3, 4, 5, 17] ∧ (M9 H n).E.cnd = [17] ∧ (M9 H n).E.frz = [4] ∧ (M9 H n).E.pro = [] ∧ (M9 H n).E.imp = [] ∧ (M9 H n).E.n = 40 ∧ (M9 H n).E.lvl = 0 ∧ (M9 H n).E.P = Tryd.prog ∧ (M9 H n).fuel = n ∧ (M9 H n).C = H ∧ (M9 H n).E.ok = okL := ⟨rfl, rfl, rfl, rfl, rfl, rfl, rfl, rfl, rfl, rfl, rfl⟩
noncomputable abbrev c9 : Code := Tryd.f6.body.getD .skip
theorem s9 {H} (hH : SoundHand Tryd.prog (hand H)) {args out} (n : Nat) (hl : args.length ≤ 40) (hp : match out with | .ret v => pureR v = true | .pan v => pureR v = true) (h : Fin (M9 (hand H) n) Tryd.f6.results.toList (R (M9 (hand H) n) c9 .top ⟨params 0 args, [], fun _ => none, 0⟩) = some out) : SoundPure Tryd.prog 6 args out := sound_of (C := Cx (hand H)) hH good mixed Tryd.func6 rfl hl hp h
/-- chiasmus/protocol.Program -/
noncomputable abbrev M307 (H : FuncId → Option (List V → Option V)) (n : Nat) : Mc := mcOf (Cx H) 7 Tryd.f7 n
theorem m307 (H n) : (M307 H n).E.keep = [0, 1, 2, 3, 4, 8] ∧ (M307 H n).E.cnd = [8] ∧ (M307 H n).E.frz = [1] ∧ (M307 H n).E.pro = [] ∧ (M307 H n).E.imp = [] ∧ (M307 H n).E.n = 13 ∧ (M307 H n).E.lvl = 0 ∧ (M307 H n).E.P = Tryd.prog ∧ (M307 H n).fuel = n ∧ (M307 H n).C = H ∧ (M307 H n).E.ok = okL := ⟨rfl, rfl, rfl, rfl, rfl, rfl, rfl, rfl, rfl, rfl, rfl⟩
noncomputable abbrev c307 : Code := Tryd.f7.body.getD .skip
theorem s307 {H} (hH : SoundHand Tryd.prog (hand H)) {args out} (n : Nat) (hl : args.length ≤ 13) (hp : match out with | .ret v => pureR v = true | .pan v => pureR v = true) (h : Fin (M307 (hand H) n) Tryd.f7.results.toList (R (M307 (hand H) n) c307 .top ⟨params 0 args, [], fun _ => none, 0⟩) = some out) : SoundPure Tryd.prog 7 args out := sound_of (C := Cx (hand H)) hH good mixed Tryd.func7 rfl hl hp h
/-- chiasmus/chiasmusref34.Program -/
noncomputable abbrev M308 (H : FuncId → Option (List V → Option V)) (n : Nat) : Mc := mcOf (Cx H) 8 Tryd.f8 n
theorem m308 (H n) : (M308 H n).E.keep = [0, 1, 2, 3, 4, 5, 6, 7, 8, 9, 10, 11, 12, 13, 17, 30, 62, 96, 108] ∧ (M308 H n).E.cnd = [17, 30, 62, 96, 108] ∧ (M308 H n).E.frz = [1, 5, 7, 9, 11] ∧ (M308 H n).E.pro = [] ∧ (M308 H n).E.imp = [] ∧ (M308 H n).E.n = 135 ∧ (M308 H n).E.lvl = 0 ∧ (M308 H n).E.P = Tryd.prog ∧ (M308 H n).fuel = n ∧ (M308 H n).C = H ∧ (M308 H n).E.ok = okL := ⟨rfl, rfl, rfl, rfl, rfl, rfl, rfl, rfl, rfl, rfl, rfl⟩
noncomputable abbrev c308 : Code := Tryd.f8.body.getD .skip
theorem s308 {H} (hH : SoundHand Tryd.prog (hand H)) {args out} (n : Nat) (hl : args.length ≤ 135) (hp : match out with | .ret v => pureR v = true | .pan v => pureR v = true) (h : Fin (M308 (hand H) n) Tryd.f8.results.toList (R (M308 (hand H) n) c308 .top ⟨params 0 args, [], fun _ => none, 0⟩) = some out) : SoundPure Tryd.prog 8 args out := sound_of (C := Cx (hand H)) hH good mixed Tryd.func8 rfl hl hp h
/-- chiasmus/chiasmuslaw09.SameProgram -/
noncomputable abbrev M309 (H : FuncId → Option (List V → Option V)) (n : Nat) : Mc := mcOf (Cx H) 9 Tryd.f9 n
theorem m309 (H n) : (M309 H n).E.keep = [0, 1, 2, 3, 4, 5, 6, 7, 8, 9, 10, 17, 22, 55, 60, 104] ∧ (M309 H n).E.cnd = [17, 22, 55, 60, 104] ∧ (M309 H n).E.frz = [2, 3, 5, 8] ∧ (M309 H n).E.pro = [] ∧ (M309 H n).E.imp = [] ∧ (M309 H n).E.n = 105 ∧ (M309 H n).E.lvl = 0 ∧ (M309 H n).E.P = Tryd.prog ∧ (M309 H n).fuel = n ∧ (M309 H n).C = H ∧ (M309 H n).E.ok = okL := ⟨rfl, rfl, rfl, rfl, rfl, rfl, rfl, rfl, rfl, rfl, rfl⟩
noncomputable abbrev c309 : Code := Tryd.f9.body.getD .skip
theorem s309 {H} (hH : SoundHand Tryd.prog (hand H)) {args out} (n : Nat) (hl : args.length ≤ 105) (hp : match out with | .ret v => pureR v = true | .pan v => pureR v = true) (h : Fin (M309 (hand H) n) Tryd.f9.results.toList (R (M309 (hand H) n) c309 .top ⟨params 0 args, [], fun _ => none, 0⟩) = some out) : SoundPure Tryd.prog 9 args out := sound_of (C := Cx (hand H)) hH good mixed Tryd.func9 rfl hl hp h
/-- chiasmus/protocol.Config -/
noncomputable abbrev M310 (H : FuncId → Option (List V → Option V)) (n : Nat) : Mc := mcOf (Cx H) 10 Tryd.f10 n
theorem m310 (H n) : (M310 H n).E.keep = [0, 1, 2, 3, 4, 8] ∧ (M310 H n).E.cnd = [8] ∧ (M310 H n).E.frz = [1] ∧ (M310 H n).E.pro = [] ∧ (M310 H n).E.imp = [] ∧ (M310 H n).E.n = 20 ∧ (M310 H n).E.lvl = 0 ∧ (M310 H n).E.P = Tryd.prog ∧ (M310 H n).fuel = n ∧ (M310 H n).C = H ∧ (M310 H n).E.ok = okL := ⟨rfl, rfl, rfl, rfl, rfl, rfl, rfl, rfl, rfl, rfl, rfl⟩
noncomputable abbrev c310 : Code := Tryd.f10.body.getD .skip
theorem s310 {H} (hH : SoundHand Tryd.prog (hand H)) {args out} (n : Nat) (hl : args.length ≤ 20) (hp : match out with | .ret v => pureR v = true | .pan v => pureR v = true) (h : Fin (M310 (hand H) n) Tryd.f10.results.toList (R (M310 (hand H) n) c310 .top ⟨params 0 args, [], fun _ => none, 0⟩) = some out) : SoundPure Tryd.prog 10 args out := sound_of (C := Cx (hand H)) hH good mixed Tryd.func10 rfl hl hp h
/-- chiasmus/chiasmusref34.Config -/
noncomputable abbrev M311 (H : FuncId → Option (List V → Option V)) (n : Nat) : Mc := mcOf (Cx H) 11 Tryd.f11 n
theorem m311 (H n) : (M311 H n).E.keep = [0, 1, 2, 3, 4, 8] ∧ (M311 H n).E.cnd = [8] ∧ (M311 H n).E.frz = [1] ∧ (M311 H n).E.pro = [] ∧ (M311 H n).E.imp = [] ∧ (M311 H n).E.n = 20 ∧ (M311 H n).E.lvl = 0 ∧ (M311 H n).E.P = Tryd.prog ∧ (M311 H n).fuel = n ∧ (M311 H n).C = H ∧ (M311 H n).E.ok = okL := ⟨rfl, rfl, rfl, rfl, rfl, rfl, rfl, rfl, rfl, rfl, rfl⟩
noncomputable abbrev c311 : Code := Tryd.f11.body.getD .skip
theorem s311 {H} (hH : SoundHand Tryd.prog (hand H)) {args out} (n : Nat) (hl : args.length ≤ 20) (hp : match out with | .ret v => pureR v = true | .pan v => pureR v = true) (h : Fin (M311 (hand H) n) Tryd.f11.results.toList (R (M311 (hand H) n) c311 .top ⟨params 0 args, [], fun _ => none, 0⟩) = some out) : SoundPure Tryd.prog 11 args out := sound_of (C := Cx (hand H)) hH good mixed Tryd.func11 rfl hl hp h
/-- chiasmus/chiasmusref01.Equal -/
noncomputable abbrev M312 (H : FuncId → Option (List V → Option V)) (n : Nat) : Mc := mcOf (Cx H) 12 Tryd.f12 n
theorem m312 (H n) : (M312 H n).E.keep = [0, 1, 4] ∧ (M312 H n).E.cnd = [] ∧ (M312 H n).E.frz = [] ∧ (M312 H n).E.pro = [] ∧ (M312 H n).E.imp = [] ∧ (M312 H n).E.n = 9 ∧ (M312 H n).E.lvl = 0 ∧ (M312 H n).E.P = Tryd.prog ∧ (M312 H n).fuel = n ∧ (M312 H n).C = H ∧ (M312 H n).E.ok = okL := ⟨rfl, rfl, rfl, rfl, rfl, rfl, rfl, rfl, rfl, rfl, rfl⟩
noncomputable abbrev c312 : Code := Tryd.f12.body.getD .skip
theorem s312 {H} (hH : SoundHand Tryd.prog (hand H)) {args out} (n : Nat) (hl : args.length ≤ 9) (hp : match out with | .ret v => pureR v = true | .pan v => pureR v = true) (h : Fin (M312 (hand H) n) Tryd.f12.results.toList (R (M312 (hand H) n) c312 .top ⟨params 0 args, [], fun _ => none, 0⟩) = some out) : SoundPure Tryd.prog 12 args out := sound_of (C := Cx (hand H)) hH good mixed Tryd.func12 rfl hl hp h
/-- chiasmus/protocol.Call -/
noncomputable abbrev M313 (H : FuncId → Option (List V → Option V)) (n : Nat) : Mc := mcOf (Cx H) 13 Tryd.f13 n
theorem m313 (H n) : (M313 H n).E.keep = [0, 1, 2, 3, 6, 7, 8, 9, 11, 15, 19, 20, 21, 22, 23, 34, 46] ∧ (M313 H n).E.cnd = [15, 19, 23, 34, 46] ∧ (M313 H n).E.frz = [3, 11] ∧ (M313 H n).E.pro = [9] ∧ (M313 H n).E.imp = [] ∧ (M313 H n).E.n = 54 ∧ (M313 H n).E.lvl = 0 ∧ (M313 H n).E.P = Tryd.prog ∧ (M313 H n).fuel = n ∧ (M313 H n).C = H ∧ (M313 H n).E.ok = okL := ⟨rfl, rfl, rfl, rfl, rfl, rfl, rfl, rfl, rfl, rfl, rfl⟩
noncomputable abbrev c313 : Code := Tryd.f13.body.getD .skip
theorem s313 {H} (hH : SoundHand Tryd.prog (hand H)) {args out} (n : Nat) (hl : args.length ≤ 54) (hp : match out with | .ret v => pureR v = true | .pan v => pureR v = true) (h : Fin (M313 (hand H) n) Tryd.f13.results.toList (R (M313 (hand H) n) c313 .top ⟨params 0 args, [], fun _ => none, 0⟩) = some out) : SoundPure Tryd.prog 13 args out := sound_of (C := Cx (hand H)) hH good mixed Tryd.func13 rfl hl hp h
/-- chiasmus/chiasmusref34.Call -/
noncomputable abbrev M314 (H : FuncId → Option (List V → Option V)) (n : Nat) : Mc := mcOf (Cx H) 14 Tryd.f14 n
theorem m314 (H n) : (M314 H n).E.keep = [0, 1, 2, 3, 6, 7, 8, 9, 10, 14, 18, 22, 39, 54] ∧ (M314 H n).E.cnd = [14, 18, 22, 39, 54] ∧ (M314 H n).E.frz = [3, 10] ∧ (M314 H n).E.pro = [9] ∧ (M314 H n).E.imp = [] ∧ (M314 H n).E.n = 62 ∧ (M314 H n).E.lvl = 0 ∧ (M314 H n).E.P = Tryd.prog ∧ (M314 H n).fuel = n ∧ (M314 H n).C = H ∧ (M314 H n).E.ok = okL := ⟨rfl, rfl, rfl, rfl, rfl, rfl, rfl, rfl, rfl, rfl, rfl⟩
noncomputable abbrev c314 : Code := Tryd.f14.body.getD .skip
theorem s314 {H} (hH : SoundHand Tryd.prog (hand H)) {args out} (n : Nat) (hl : args.length ≤ 62) (hp : match out with | .ret v => pureR v = true | .pan v => pureR v = true) (h : Fin (M314 (hand H) n) Tryd.f14.results.toList (R (M314 (hand H) n) c314 .top ⟨params 0 args, [], fun _ => none, 0⟩) = some out) : SoundPure Tryd.prog 14 args out := sound_of (C := Cx (hand H)) hH good mixed Tryd.func14 rfl hl hp h
/-- chiasmus/protocol.Check -/
noncomputable abbrev M14 (H : FuncId → Option (List V → Option V)) (n : Nat) : Mc := mcOf (Cx H) 16 Tryd.f16 n
theorem m14 (H n) : (M14 H n).E.keep = [0, 1, 2, 3, 24, 52] ∧ (M14 H n).E.cnd = [24, 52] ∧ (M14 H n).E.frz = [] ∧ (M14 H n).E.pro = [] ∧ (M14 H n).E.imp = [] ∧ (M14 H n).E.n = 53 ∧ (M14 H n).E.lvl = 0 ∧ (M14 H n).E.P = Tryd.prog ∧ (M14 H n).fuel = n ∧ (M14 H n).C = H ∧ (M14 H n).E.ok = okL := ⟨rfl, rfl, rfl, rfl, rfl, rfl, rfl, rfl, rfl, rfl, rfl⟩
noncomputable abbrev c14 : Code := Tryd.f16.body.getD .skip
theorem s14 {H} (hH : SoundHand Tryd.prog (hand H)) {args out} (n : Nat) (hl : args.length ≤ 53) (hp : match out with | .ret v => pureR v = true | .pan v => pureR v = true) (h : Fin (M14 (hand H) n) Tryd.f16.results.toList (R (M14 (hand H) n) c14 .top ⟨params 0 args, [], fun _ => none, 0⟩) = some out) : SoundPure Tryd.prog 16 args out := sound_of (C := Cx (hand H)) hH good mixed Tryd.func16 rfl hl hp h
/-- (chiasmus/protocol.Protocol).program -/
noncomputable abbrev M64 (H : FuncId → Option (List V → Option V)) (n : Nat) : Mc := mcOf (Cx H) 17 Tryd.f17 n
theorem m64 (H n) : (M64 H n).E.keep = [0, 1, 2, 3, 4, 5, 6, 7, 8, 9, 11, 12, 13, 14, 23, 24, 25, 26, 54, 55, 56, 57] ∧ (M64 H n).E.cnd = [26, 57] ∧ (M64 H n).E.frz = [1, 3, 7, 9, 11, 12] ∧ (M64 H n).E.pro = [] ∧ (M64 H n).E.imp = [] ∧ (M64 H n).E.n = 109 ∧ (M64 H n).E.lvl = 0 ∧ (M64 H n).E.P = Tryd.prog ∧ (M64 H n).fuel = n ∧ (M64 H n).C = H ∧ (M64 H n).E.ok = okL := ⟨rfl, rfl, rfl, rfl, rfl, rfl, rfl, rfl, rfl, rfl, rfl⟩
noncomputable abbrev c64 : Code := Tryd.f17.body.getD .skip
theorem s64 {H} (hH : SoundHand Tryd.prog (hand H)) {args out} (n : Nat) (hl : args.length ≤ 109) (hp : match out with | .ret v => pureR v = true | .pan v => pureR v = true) (h : Fin (M64 (hand H) n) Tryd.f17.results.toList (R (M64 (hand H) n) c64 .top ⟨params 0 args, [], fun _ => none, 0⟩) = some out) : SoundPure Tryd.prog 17 args out := sound_of (C := Cx (hand H)) hH good mixed Tryd.func17 rfl hl hp h
/-- chiasmus/chiasmusref34.Check -/
noncomputable abbrev M15 (H : FuncId → Option (List V → Option V)) (n : Nat) : Mc := mcOf (Cx H) 18 Tryd.f18 n
theorem m15 (H n) : (M15 H n).E.keep = [0, 1, 2, 3, 4, 5, 26, 42, 47, 57, 62, 72] ∧ (M15 H n).E.cnd = [26, 42, 47, 57, 62, 72] ∧ (M15 H n).E.frz = [3, 4, 5] ∧ (M15 H n).E.pro = [] ∧ (M15 H n).E.imp = [] ∧ (M15 H n).E.n = 73 ∧ (M15 H n).E.lvl = 0 ∧ (M15 H n).E.P = Tryd.prog ∧ (M15 H n).fuel = n ∧ (M15 H n).C = H ∧ (M15 H n).E.ok = okL := ⟨rfl, rfl, rfl, rfl, rfl, rfl, rfl, rfl, rfl, rfl, rfl⟩
noncomputable abbrev c15 : Code := Tryd.f18.body.getD .skip
theorem s15 {H} (hH : SoundHand Tryd.prog (hand H)) {args out} (n : Nat) (hl : args.length ≤ 73) (hp : match out with | .ret v => pureR v = true | .pan v => pureR v = true) (h : Fin (M15 (hand H) n) Tryd.f18.results.toList (R (M15 (hand H) n) c15 .top ⟨params 0 args, [], fun _ => none, 0⟩) = some out) : SoundPure Tryd.prog 18 args out := sound_of (C := Cx (hand H)) hH good mixed Tryd.func18 rfl hl hp h
/-- chiasmus/chiasmusref34.counters -/
noncomputable abbrev M319 (H : FuncId → Option (List V → Option V)) (n : Nat) : Mc := mcOf (Cx H) 19 Tryd.f19 n
theorem m319 (H n) : (M319 H n).E.keep = [0, 2, 3, 4, 8] ∧ (M319 H n).E.cnd = [8] ∧ (M319 H n).E.frz = [4] ∧ (M319 H n).E.pro = [3] ∧ (M319 H n).E.imp = [] ∧ (M319 H n).E.n = 25 ∧ (M319 H n).E.lvl = 0 ∧ (M319 H n).E.P = Tryd.prog ∧ (M319 H n).fuel = n ∧ (M319 H n).C = H ∧ (M319 H n).E.ok = okL := ⟨rfl, rfl, rfl, rfl, rfl, rfl, rfl, rfl, rfl, rfl, rfl⟩
noncomputable abbrev c319 : Code := Tryd.f19.body.getD .skip
theorem s319 {H} (hH : SoundHand Tryd.prog (hand H)) {args out} (n : Nat) (hl : args.length ≤ 25) (hp : match out with | .ret v => pureR v = true | .pan v => pureR v = true) (h : Fin (M319 (hand H) n) Tryd.f19.results.toList (R (M319 (hand H) n) c319 .top ⟨params 0 args, [], fun _ => none, 0⟩) = some out) : SoundPure Tryd.prog 19 args out := sound_of (C := Cx (hand H)) hH good mixed Tryd.func19 rfl hl hp h
/-- chiasmus/chiasmusref34.used -/
noncomputable abbrev M320 (H : FuncId → Option (List V → Option V)) (n : Nat) : Mc := mcOf (Cx H) 20 Tryd.f20 n
theorem m320 (H n) : (M320 H n).E.keep = [0, 1, 2, 4, 5, 6, 7, 8, 9, 10, 31, 50, 59, 64, 73] ∧ (M320 H n).E.cnd = [31, 50, 59, 64, 73] ∧ (M320 H n).E.frz = [2, 6, 8, 10] ∧ (M320 H n).E.pro = [] ∧ (M320 H n).E.imp = [] ∧ (M320 H n).E.n = 92 ∧ (M320 H n).E.lvl = 0 ∧ (M320 H n).E.P = Tryd.prog ∧ (M320 H n).fuel = n ∧ (M320 H n).C = H ∧ (M320 H n).E.ok = okL := ⟨rfl, rfl, rfl, rfl, rfl, rfl, rfl, rfl, rfl, rfl, rfl⟩
noncomputable abbrev c320 : Code := Tryd.f20.body.getD .skip
theorem s320 {H} (hH : SoundHand Tryd.prog (hand H)) {args out} (n : Nat) (hl : args.length ≤ 92) (hp : match out with | .ret v => pureR v = true | .pan v => pureR v = true) (h : Fin (M320 (hand H) n) Tryd.f20.results.toList (R (M320 (hand H) n) c320 .top ⟨params 0 args, [], fun _ => none, 0⟩) = some out) : SoundPure Tryd.prog 20 args out := sound_of (C := Cx (hand H)) hH good mixed Tryd.func20 rfl hl hp h
/-- chiasmus/chiasmusref34.group -/
noncomputable abbrev M321 (H : FuncId → Option (List V → Option V)) (n : Nat) : Mc := mcOf (Cx H) 21 Tryd.f21 n
theorem m321 (H n) : (M321 H n).E.keep = [0, 2] ∧ (M321 H n).E.cnd = [] ∧ (M321 H n).E.frz = [] ∧ (M321 H n).E.pro = [] ∧ (M321 H n).E.imp = [] ∧ (M321 H n).E.n = 5 ∧ (M321 H n).E.lvl = 0 ∧ (M321 H n).E.P = Tryd.prog ∧ (M321 H n).fuel = n ∧ (M321 H n).C = H ∧ (M321 H n).E.ok = okL := ⟨rfl, rfl, rfl, rfl, rfl, rfl, rfl, rfl, rfl, rfl, rfl⟩
noncomputable abbrev c321 : Code := Tryd.f21.body.getD .skip
theorem s321 {H} (hH : SoundHand Tryd.prog (hand H)) {args out} (n : Nat) (hl : args.length ≤ 5) (hp : match out with | .ret v => pureR v = true | .pan v => pureR v = true) (h : Fin (M321 (hand H) n) Tryd.f21.results.toList (R (M321 (hand H) n) c321 .top ⟨params 0 args, [], fun _ => none, 0⟩) = some out) : SoundPure Tryd.prog 21 args out := sound_of (C := Cx (hand H)) hH good mixed Tryd.func21 rfl hl hp h
/-- chiasmus/chiasmusref34.call -/
noncomputable abbrev M322 (H : FuncId → Option (List V → Option V)) (n : Nat) : Mc := mcOf (Cx H) 22 Tryd.f22 n
theorem m322 (H n) : (M322 H n).E.keep = [0, 1, 4] ∧ (M322 H n).E.cnd = [] ∧ (M322 H n).E.frz = [] ∧ (M322 H n).E.pro = [] ∧ (M322 H n).E.imp = [] ∧ (M322 H n).E.n = 9 ∧ (M322 H n).E.lvl = 0 ∧ (M322 H n).E.P = Tryd.prog ∧ (M322 H n).fuel = n ∧ (M322 H n).C = H ∧ (M322 H n).E.ok = okL := ⟨rfl, rfl, rfl, rfl, rfl, rfl, rfl, rfl, rfl, rfl, rfl⟩
noncomputable abbrev c322 : Code := Tryd.f22.body.getD .skip
theorem s322 {H} (hH : SoundHand Tryd.prog (hand H)) {args out} (n : Nat) (hl : args.length ≤ 9) (hp : match out with | .ret v => pureR v = true | .pan v => pureR v = true) (h : Fin (M322 (hand H) n) Tryd.f22.results.toList (R (M322 (hand H) n) c322 .top ⟨params 0 args, [], fun _ => none, 0⟩) = some out) : SoundPure Tryd.prog 22 args out := sound_of (C := Cx (hand H)) hH good mixed Tryd.func22 rfl hl hp h
/-- chiasmus/chiasmusref34.word -/
noncomputable abbrev M323 (H : FuncId → Option (List V → Option V)) (n : Nat) : Mc := mcOf (Cx H) 23 Tryd.f23 n
theorem m323 (H n) : (M323 H n).E.keep = [0, 2] ∧ (M323 H n).E.cnd = [] ∧ (M323 H n).E.frz = [] ∧ (M323 H n).E.pro = [] ∧ (M323 H n).E.imp = [] ∧ (M323 H n).E.n = 5 ∧ (M323 H n).E.lvl = 0 ∧ (M323 H n).E.P = Tryd.prog ∧ (M323 H n).fuel = n ∧ (M323 H n).C = H ∧ (M323 H n).E.ok = okL := ⟨rfl, rfl, rfl, rfl, rfl, rfl, rfl, rfl, rfl, rfl, rfl⟩
noncomputable abbrev c323 : Code := Tryd.f23.body.getD .skip
theorem s323 {H} (hH : SoundHand Tryd.prog (hand H)) {args out} (n : Nat) (hl : args.length ≤ 5) (hp : match out with | .ret v => pureR v = true | .pan v => pureR v = true) (h : Fin (M323 (hand H) n) Tryd.f23.results.toList (R (M323 (hand H) n) c323 .top ⟨params 0 args, [], fun _ => none, 0⟩) = some out) : SoundPure Tryd.prog 23 args out := sound_of (C := Cx (hand H)) hH good mixed Tryd.func23 rfl hl hp h
/-- chiasmus/chiasmusref34.free -/
noncomputable abbrev M324 (H : FuncId → Option (List V → Option V)) (n : Nat) : Mc := mcOf (Cx H) 24 Tryd.f24 n
theorem m324 (H n) : (M324 H n).E.keep = [0, 2] ∧ (M324 H n).E.cnd = [] ∧ (M324 H n).E.frz = [] ∧ (M324 H n).E.pro = [] ∧ (M324 H n).E.imp = [] ∧ (M324 H n).E.n = 5 ∧ (M324 H n).E.lvl = 0 ∧ (M324 H n).E.P = Tryd.prog ∧ (M324 H n).fuel = n ∧ (M324 H n).C = H ∧ (M324 H n).E.ok = okL := ⟨rfl, rfl, rfl, rfl, rfl, rfl, rfl, rfl, rfl, rfl, rfl⟩
noncomputable abbrev c324 : Code := Tryd.f24.body.getD .skip
theorem s324 {H} (hH : SoundHand Tryd.prog (hand H)) {args out} (n : Nat) (hl : args.length ≤ 5) (hp : match out with | .ret v => pureR v = true | .pan v => pureR v = true) (h : Fin (M324 (hand H) n) Tryd.f24.results.toList (R (M324 (hand H) n) c324 .top ⟨params 0 args, [], fun _ => none, 0⟩) = some out) : SoundPure Tryd.prog 24 args out := sound_of (C := Cx (hand H)) hH good mixed Tryd.func24 rfl hl hp h
/-- chiasmus/protocol.call -/
noncomputable abbrev M326 (H : FuncId → Option (List V → Option V)) (n : Nat) : Mc := mcOf (Cx H) 26 Tryd.f26 n
theorem m326 (H n) : (M326 H n).E.keep = [0, 1, 4] ∧ (M326 H n).E.cnd = [] ∧ (M326 H n).E.frz = [] ∧ (M326 H n).E.pro = [] ∧ (M326 H n).E.imp = [] ∧ (M326 H n).E.n = 9 ∧ (M326 H n).E.lvl = 0 ∧ (M326 H n).E.P = Tryd.prog ∧ (M326 H n).fuel = n ∧ (M326 H n).C = H ∧ (M326 H n).E.ok = okL := ⟨rfl, rfl, rfl, rfl, rfl, rfl, rfl, rfl, rfl, rfl, rfl⟩
noncomputable abbrev c326 : Code := Tryd.f26.body.getD .skip
theorem s326 {H} (hH : SoundHand Tryd.prog (hand H)) {args out} (n : Nat) (hl : args.length ≤ 9) (hp : match out with | .ret v => pureR v = true | .pan v => pureR v = true) (h : Fin (M326 (hand H) n) Tryd.f26.results.toList (R (M326 (hand H) n) c326 .top ⟨params 0 args, [], fun _ => none, 0⟩) = some out) : SoundPure Tryd.prog 26 args out := sound_of (C := Cx (hand H)) hH good mixed Tryd.func26 rfl hl hp h
/-- chiasmus/protocol.group -/
noncomputable abbrev M327 (H : FuncId → Option (List V → Option V)) (n : Nat) : Mc := mcOf (Cx H) 27 Tryd.f27 n
theorem m327 (H n) : (M327 H n).E.keep = [0, 2] ∧ (M327 H n).E.cnd = [] ∧ (M327 H n).E.frz = [] ∧ (M327 H n).E.pro = [] ∧ (M327 H n).E.imp = [] ∧ (M327 H n).E.n = 5 ∧ (M327 H n).E.lvl = 0 ∧ (M327 H n).E.P = Tryd.prog ∧ (M327 H n).fuel = n ∧ (M327 H n).C = H ∧ (M327 H n).E.ok = okL := ⟨rfl, rfl, rfl, rfl, rfl, rfl, rfl, rfl, rfl, rfl, rfl⟩
noncomputable abbrev c327 : Code := Tryd.f27.body.getD .skip
theorem s327 {H} (hH : SoundHand Tryd.prog (hand H)) {args out} (n : Nat) (hl : args.length ≤ 5) (hp : match out with | .ret v => pureR v = true | .pan v => pureR v = true) (h : Fin (M327 (hand H) n) Tryd.f27.results.toList (R (M327 (hand H) n) c327 .top ⟨params 0 args, [], fun _ => none, 0⟩) = some out) : SoundPure Tryd.prog 27 args out := sound_of (C := Cx (hand H)) hH good mixed Tryd.func27 rfl hl hp h
/-- chiasmus/protocol.expression -/
noncomputable abbrev M328 (H : FuncId → Option (List V → Option V)) (n : Nat) : Mc := mcOf (Cx H) 28 Tryd.f28 n
theorem m328 (H n) : (M328 H n).E.keep = [0, 2] ∧ (M328 H n).E.cnd = [] ∧ (M328 H n).E.frz = [] ∧ (M328 H n).E.pro = [] ∧ (M328 H n).E.imp = [] ∧ (M328 H n).E.n = 5 ∧ (M328 H n).E.lvl = 0 ∧ (M328 H n).E.P = Tryd.prog ∧ (M328 H n).fuel = n ∧ (M328 H n).C = H ∧ (M328 H n).E.ok = okL := ⟨rfl, rfl, rfl, rfl, rfl, rfl, rfl, rfl, rfl, rfl, rfl⟩
noncomputable abbrev c328 : Code := Tryd.f28.body.getD .skip
theorem s328 {H} (hH : SoundHand Tryd.prog (hand H)) {args out} (n : Nat) (hl : args.length ≤ 5) (hp : match out with | .ret v => pureR v = true | .pan v => pureR v = true) (h : Fin (M328 (hand H) n) Tryd.f28.results.toList (R (M328 (hand H) n) c328 .top ⟨params 0 args, [], fun _ => none, 0⟩) = some out) : SoundPure Tryd.prog 28 args out := sound_of (C := Cx (hand H)) hH good mixed Tryd.func28 rfl hl hp h
/-- chiasmus/chiasmusref01.Compare -/
noncomputable abbrev M329 (H : FuncId → Option (List V → Option V)) (n : Nat) : Mc := mcOf (Cx H) 29 Tryd.f29 n
theorem m329 (H n) : (M329 H n).E.keep = [0, 1, 4, 5, 6, 7, 17, 30, 41, 54, 68, 74, 79] ∧ (M329 H n).E.cnd = [17, 30, 41, 54, 68, 74, 79] ∧ (M329 H n).E.frz = [5] ∧ (M329 H n).E.pro = [] ∧ (M329 H n).E.imp = [] ∧ (M329 H n).E.n = 80 ∧ (M329 H n).E.lvl = 0 ∧ (M329 H n).E.P = Tryd.prog ∧ (M329 H n).fuel = n ∧ (M329 H n).C = H ∧ (M329 H n).E.ok = okL := ⟨rfl, rfl, rfl, rfl, rfl, rfl, rfl, rfl, rfl, rfl, rfl⟩
noncomputable abbrev c329 : Code := Tryd.f29.body.getD .skip
theorem s329 {H} (hH : SoundHand Tryd.prog (hand H)) {args out} (n : Nat) (hl : args.length ≤ 80) (hp : match out with | .ret v => pureR v = true | .pan v => pureR v = true) (h : Fin (M329 (hand H) n) Tryd.f29.results.toList (R (M329 (hand H) n) c329 .top ⟨params 0 args, [], fun _ => none, 0⟩) = some out) : SoundPure Tryd.prog 29 args out := sound_of (C := Cx (hand H)) hH good mixed Tryd.func29 rfl hl hp h
/-- (chiasmus/protocol.Protocol).bad -/
noncomputable abbrev M22 (H : FuncId → Option (List V → Option V)) (n : Nat) : Mc := mcOf (Cx H) 34 Tryd.f34 n
theorem m22 (H n) : (M22 H n).E.keep = [0, 1, 2, 3, 4] ∧ (M22 H n).E.cnd = [] ∧ (M22 H n).E.frz = [] ∧ (M22 H n).E.pro = [] ∧ (M22 H n).E.imp = [] ∧ (M22 H n).E.n = 9 ∧ (M22 H n).E.lvl = 0 ∧ (M22 H n).E.P = Tryd.prog ∧ (M22 H n).fuel = n ∧ (M22 H n).C = H ∧ (M22 H n).E.ok = okL := ⟨rfl, rfl, rfl, rfl, rfl, rfl, rfl, rfl, rfl, rfl, rfl⟩
noncomputable abbrev c22 : Code := Tryd.f34.body.getD .skip
theorem s22 {H} (hH : SoundHand Tryd.prog (hand H)) {args out} (n : Nat) (hl : args.length ≤ 9) (hp : match out with | .ret v => pureR v = true | .pan v => pureR v = true) (h : Fin (M22 (hand H) n) Tryd.f34.results.toList (R (M22 (hand H) n) c22 .top ⟨params 0 args, [], fun _ => none, 0⟩) = some out) : SoundPure Tryd.prog 34 args out := sound_of (C := Cx (hand H)) hH good mixed Tryd.func34 rfl hl hp h
/-- chiasmus/protocol.within -/
noncomputable abbrev M27 (H : FuncId → Option (List V → Option V)) (n : Nat) : Mc := mcOf (Cx H) 35 Tryd.f35 n
theorem m27 (H n) : (M27 H n).E.keep = [0, 1, 2, 5, 6] ∧ (M27 H n).E.cnd = [] ∧ (M27 H n).E.frz = [] ∧ (M27 H n).E.pro = [] ∧ (M27 H n).E.imp = [] ∧ (M27 H n).E.n = 17 ∧ (M27 H n).E.lvl = 0 ∧ (M27 H n).E.P = Tryd.prog ∧ (M27 H n).fuel = n ∧ (M27 H n).C = H ∧ (M27 H n).E.ok = okL := ⟨rfl, rfl, rfl, rfl, rfl, rfl, rfl, rfl, rfl, rfl, rfl⟩
noncomputable abbrev c27 : Code := Tryd.f35.body.getD .skip
theorem s27 {H} (hH : SoundHand Tryd.prog (hand H)) {args out} (n : Nat) (hl : args.length ≤ 17) (hp : match out with | .ret v => pureR v = true | .pan v => pureR v = true) (h : Fin (M27 (hand H) n) Tryd.f35.results.toList (R (M27 (hand H) n) c27 .top ⟨params 0 args, [], fun _ => none, 0⟩) = some out) : SoundPure Tryd.prog 35 args out := sound_of (C := Cx (hand H)) hH good mixed Tryd.func35 rfl hl hp h
/-- slices.ContainsFunc[[]chiasmus/protocol.Rule,chiasmus/protocol.Rule] -/
noncomputable abbrev M29 (H : FuncId → Option (List V → Option V)) (n : Nat) : Mc := mcOf (Cx H) 36 Tryd.f36 n
theorem m29 (H n) : (M29 H n).E.keep = [0, 1, 4] ∧ (M29 H n).E.cnd = [] ∧ (M29 H n).E.frz = [] ∧ (M29 H n).E.pro = [] ∧ (M29 H n).E.imp = [] ∧ (M29 H n).E.n = 9 ∧ (M29 H n).E.lvl = 0 ∧ (M29 H n).E.P = Tryd.prog ∧ (M29 H n).fuel = n ∧ (M29 H n).C = H ∧ (M29 H n).E.ok = okL := ⟨rfl, rfl, rfl, rfl, rfl, rfl, rfl, rfl, rfl, rfl, rfl⟩
noncomputable abbrev c29 : Code := Tryd.f36.body.getD .skip
theorem s29 {H} (hH : SoundHand Tryd.prog (hand H)) {args out} (n : Nat) (hl : args.length ≤ 9) (hp : match out with | .ret v => pureR v = true | .pan v => pureR v = true) (h : Fin (M29 (hand H) n) Tryd.f36.results.toList (R (M29 (hand H) n) c29 .top ⟨params 0 args, [], fun _ => none, 0⟩) = some out) : SoundPure Tryd.prog 36 args out := sound_of (C := Cx (hand H)) hH good mixed Tryd.func36 rfl hl hp h
/-- chiasmus/protocol.Check$1 -/
noncomputable abbrev M30 (H : FuncId → Option (List V → Option V)) (n : Nat) : Mc := mcOf (Cx H) 37 Tryd.f37 n
theorem m30 (H n) : (M30 H n).E.keep = [0, 1, 2, 3] ∧ (M30 H n).E.cnd = [] ∧ (M30 H n).E.frz = [] ∧ (M30 H n).E.pro = [] ∧ (M30 H n).E.imp = [] ∧ (M30 H n).E.n = 8 ∧ (M30 H n).E.lvl = 0 ∧ (M30 H n).E.P = Tryd.prog ∧ (M30 H n).fuel = n ∧ (M30 H n).C = H ∧ (M30 H n).E.ok = okL := ⟨rfl, rfl, rfl, rfl, rfl, rfl, rfl, rfl, rfl, rfl, rfl⟩
noncomputable abbrev c30 : Code := Tryd.f37.body.getD .skip
theorem s30 {H} (hH : SoundHand Tryd.prog (hand H)) {args out} (n : Nat) (hl : args.length ≤ 8) (hp : match out with | .ret v => pureR v = true | .pan v => pureR v = true) (h : Fin (M30 (hand H) n) Tryd.f37.results.toList (R (M30 (hand H) n) c30 .top ⟨params 0 args, [], fun _ => none, 0⟩) = some out) : SoundPure Tryd.prog 37 args out := sound_of (C := Cx (hand H)) hH good mixed Tryd.func37 rfl hl hp h
/-- (chiasmus/protocol.Rule).right -/
noncomputable abbrev M31 (H : FuncId → Option (List V → Option V)) (n : Nat) : Mc := mcOf (Cx H) 38 Tryd.f38 n
theorem m31 (H n) : (M31 H n).E.keep = [0, 1, 2, 4, 5, 6, 18, 20, 21, 22, 23, 47] ∧ (M31 H n).E.cnd = [18, 23, 47] ∧ (M31 H n).E.frz = [5, 6] ∧ (M31 H n).E.pro = [] ∧ (M31 H n).E.imp = [] ∧ (M31 H n).E.n = 69 ∧ (M31 H n).E.lvl = 0 ∧ (M31 H n).E.P = Tryd.prog ∧ (M31 H n).fuel = n ∧ (M31 H n).C = H ∧ (M31 H n).E.ok = okL := ⟨rfl, rfl, rfl, rfl, rfl, rfl, rfl, rfl, rfl, rfl, rfl⟩
noncomputable abbrev c31 : Code := Tryd.f38.body.getD .skip
theorem s31 {H} (hH : SoundHand Tryd.prog (hand H)) {args out} (n : Nat) (hl : args.length ≤ 69) (hp : match out with | .ret v => pureR v = true | .pan v => pureR v = true) (h : Fin (M31 (hand H) n) Tryd.f38.results.toList (R (M31 (hand H) n) c31 .top ⟨params 0 args, [], fun _ => none, 0⟩) = some out) : SoundPure Tryd.prog 38 args out := sound_of (C := Cx (hand H)) hH good mixed Tryd.func38 rfl hl hp h
/-- slices.ContainsFunc[[][]int,[]int] -/
noncomputable abbrev M32 (H : FuncId → Option (List V → Option V)) (n : Nat) : Mc := mcOf (Cx H) 39 Tryd.f39 n
theorem m32 (H n) : (M32 H n).E.keep = [0, 1, 4] ∧ (M32 H n).E.cnd = [] ∧ (M32 H n).E.frz = [] ∧ (M32 H n).E.pro = [] ∧ (M32 H n).E.imp = [] ∧ (M32 H n).E.n = 9 ∧ (M32 H n).E.lvl = 0 ∧ (M32 H n).E.P = Tryd.prog ∧ (M32 H n).fuel = n ∧ (M32 H n).C = H ∧ (M32 H n).E.ok = okL := ⟨rfl, rfl, rfl, rfl, rfl, rfl, rfl, rfl, rfl, rfl, rfl⟩
noncomputable abbrev c32 : Code := Tryd.f39.body.getD .skip
theorem s32 {H} (hH : SoundHand Tryd.prog (hand H)) {args out} (n : Nat) (hl : args.length ≤ 9) (hp : match out with | .ret v => pureR v = true | .pan v => pureR v = true) (h : Fin (M32 (hand H) n) Tryd.f39.results.toList (R (M32 (hand H) n) c32 .top ⟨params 0 args, [], fun _ => none, 0⟩) = some out) : SoundPure Tryd.prog 39 args out := sound_of (C := Cx (hand H)) hH good mixed Tryd.func39 rfl hl hp h
/-- chiasmus/protocol.Check$2 -/
noncomputable abbrev M33 (H : FuncId → Option (List V → Option V)) (n : Nat) : Mc := mcOf (Cx H) 40 Tryd.f40 n
theorem m33 (H n) : (M33 H n).E.keep = [0, 1, 3] ∧ (M33 H n).E.cnd = [] ∧ (M33 H n).E.frz = [] ∧ (M33 H n).E.pro = [] ∧ (M33 H n).E.imp = [] ∧ (M33 H n).E.n = 8 ∧ (M33 H n).E.lvl = 0 ∧ (M33 H n).E.P = Tryd.prog ∧ (M33 H n).fuel = n ∧ (M33 H n).C = H ∧ (M33 H n).E.ok = okL := ⟨rfl, rfl, rfl, rfl, rfl, rfl, rfl, rfl, rfl, rfl, rfl⟩
noncomputable abbrev c33 : Code := Tryd.f40.body.getD .skip
theorem s33 {H} (hH : SoundHand Tryd.prog (hand H)) {args out} (n : Nat) (hl : args.length ≤ 8) (hp : match out with | .ret v => pureR v = true | .pan v => pureR v = true) (h : Fin (M33 (hand H) n) Tryd.f40.results.toList (R (M33 (hand H) n) c33 .top ⟨params 0 args, [], fun _ => none, 0⟩) = some out) : SoundPure Tryd.prog 40 args out := sound_of (C := Cx (hand H)) hH good mixed Tryd.func40 rfl hl hp h
/-- (chiasmus/protocol.Rule).sentence -/
noncomputable abbrev M341 (H : FuncId → Option (List V → Option V)) (n : Nat) : Mc := mcOf (Cx H) 41 Tryd.f41 n
theorem m341 (H n) : (M341 H n).E.keep = [0, 1, 2, 4, 5, 6] ∧ (M341 H n).E.cnd = [] ∧ (M341 H n).E.frz = [2, 6] ∧ (M341 H n).E.pro = [] ∧ (M341 H n).E.imp = [] ∧ (M341 H n).E.n = 30 ∧ (M341 H n).E.lvl = 0 ∧ (M341 H n).E.P = Tryd.prog ∧ (M341 H n).fuel = n ∧ (M341 H n).C = H ∧ (M341 H n).E.ok = okL := ⟨rfl, rfl, rfl, rfl, rfl, rfl, rfl, rfl, rfl, rfl, rfl⟩
noncomputable abbrev c341 : Code := Tryd.f41.body.getD .skip
theorem s341 {H} (hH : SoundHand Tryd.prog (hand H)) {args out} (n : Nat) (hl : args.length ≤ 30) (hp : match out with | .ret v => pureR v = true | .pan v => pureR v = true) (h : Fin (M341 (hand H) n) Tryd.f41.results.toList (R (M341 (hand H) n) c341 .top ⟨params 0 args, [], fun _ => none, 0⟩) = some out) : SoundPure Tryd.prog 41 args out := sound_of (C := Cx (hand H)) hH good mixed Tryd.func41 rfl hl hp h
/-- chiasmus/protocol.atLeast -/
noncomputable abbrev M342 (H : FuncId → Option (List V → Option V)) (n : Nat) : Mc := mcOf (Cx H) 42 Tryd.f42 n
theorem m342 (H n) : (M342 H n).E.keep = [0, 2] ∧ (M342 H n).E.cnd = [] ∧ (M342 H n).E.frz = [] ∧ (M342 H n).E.pro = [] ∧ (M342 H n).E.imp = [] ∧ (M342 H n).E.n = 5 ∧ (M342 H n).E.lvl = 0 ∧ (M342 H n).E.P = Tryd.prog ∧ (M342 H n).fuel = n ∧ (M342 H n).C = H ∧ (M342 H n).E.ok = okL := ⟨rfl, rfl, rfl, rfl, rfl, rfl, rfl, rfl, rfl, rfl, rfl⟩
noncomputable abbrev c342 : Code := Tryd.f42.body.getD .skip
theorem s342 {H} (hH : SoundHand Tryd.prog (hand H)) {args out} (n : Nat) (hl : args.length ≤ 5) (hp : match out with | .ret v => pureR v = true | .pan v => pureR v = true) (h : Fin (M342 (hand H) n) Tryd.f42.results.toList (R (M342 (hand H) n) c342 .top ⟨params 0 args, [], fun _ => none, 0⟩) = some out) : SoundPure Tryd.prog 42 args out := sound_of (C := Cx (hand H)) hH good mixed Tryd.func42 rfl hl hp h
/-- (chiasmus/protocol.Protocol).program$1 -/
noncomputable abbrev M343 (H : FuncId → Option (List V → Option V)) (n : Nat) : Mc := mcOf (Cx H) 43 Tryd.f43 n
theorem m343 (H n) : (M343 H n).E.keep = [0, 2] ∧ (M343 H n).E.cnd = [] ∧ (M343 H n).E.frz = [] ∧ (M343 H n).E.pro = [] ∧ (M343 H n).E.imp = [] ∧ (M343 H n).E.n = 6 ∧ (M343 H n).E.lvl = 0 ∧ (M343 H n).E.P = Tryd.prog ∧ (M343 H n).fuel = n ∧ (M343 H n).C = H ∧ (M343 H n).E.ok = okL := ⟨rfl, rfl, rfl, rfl, rfl, rfl, rfl, rfl, rfl, rfl, rfl⟩
noncomputable abbrev c343 : Code := Tryd.f43.body.getD .skip
theorem s343 {H} (hH : SoundHand Tryd.prog (hand H)) {args out} (n : Nat) (hl : args.length ≤ 6) (hp : match out with | .ret v => pureR v = true | .pan v => pureR v = true) (h : Fin (M343 (hand H) n) Tryd.f43.results.toList (R (M343 (hand H) n) c343 .top ⟨params 0 args, [], fun _ => none, 0⟩) = some out) : SoundPure Tryd.prog 43 args out := sound_of (C := Cx (hand H)) hH good mixed Tryd.func43 rfl hl hp h
/-- chiasmus/protocol.counters -/
noncomputable abbrev M344 (H : FuncId → Option (List V → Option V)) (n : Nat) : Mc := mcOf (Cx H) 44 Tryd.f44 n
theorem m344 (H n) : (M344 H n).E.keep = [0, 1, 4, 5, 6, 7, 8, 9, 10, 11] ∧ (M344 H n).E.cnd = [11] ∧ (M344 H n).E.frz = [6, 7] ∧ (M344 H n).E.pro = [5] ∧ (M344 H n).E.imp = [] ∧ (M344 H n).E.n = 27 ∧ (M344 H n).E.lvl = 0 ∧ (M344 H n).E.P = Tryd.prog ∧ (M344 H n).fuel = n ∧ (M344 H n).C = H ∧ (M344 H n).E.ok = okL := ⟨rfl, rfl, rfl, rfl, rfl, rfl, rfl, rfl, rfl, rfl, rfl⟩
noncomputable abbrev c344 : Code := Tryd.f44.body.getD .skip
theorem s344 {H} (hH : SoundHand Tryd.prog (hand H)) {args out} (n : Nat) (hl : args.length ≤ 27) (hp : match out with | .ret v => pureR v = true | .pan v => pureR v = true) (h : Fin (M344 (hand H) n) Tryd.f44.results.toList (R (M344 (hand H) n) c344 .top ⟨params 0 args, [], fun _ => none, 0⟩) = some out) : SoundPure Tryd.prog 44 args out := sound_of (C := Cx (hand H)) hH good mixed Tryd.func44 rfl hl hp h
/-- (chiasmus/protocol.Protocol).program$2 -/
noncomputable abbrev M345 (H : FuncId → Option (List V → Option V)) (n : Nat) : Mc := mcOf (Cx H) 45 Tryd.f45 n
theorem m345 (H n) : (M345 H n).E.keep = [0, 1, 3, 7] ∧ (M345 H n).E.cnd = [7] ∧ (M345 H n).E.frz = [] ∧ (M345 H n).E.pro = [] ∧ (M345 H n).E.imp = [] ∧ (M345 H n).E.n = 10 ∧ (M345 H n).E.lvl = 0 ∧ (M345 H n).E.P = Tryd.prog ∧ (M345 H n).fuel = n ∧ (M345 H n).C = H ∧ (M345 H n).E.ok = okL := ⟨rfl, rfl, rfl, rfl, rfl, rfl, rfl, rfl, rfl, rfl, rfl⟩
noncomputable abbrev c345 : Code := Tryd.f45.body.getD .skip
theorem s345 {H} (hH : SoundHand Tryd.prog (hand H)) {args out} (n : Nat) (hl : args.length ≤ 10) (hp : match out with | .ret v => pureR v = true | .pan v => pureR v = true) (h : Fin (M345 (hand H) n) Tryd.f45.results.toList (R (M345 (hand H) n) c345 .top ⟨params 0 args, [], fun _ => none, 0⟩) = some out) : SoundPure Tryd.prog 45 args out := sound_of (C := Cx (hand H)) hH good mixed Tryd.func45 rfl hl hp h
/-- chiasmus/chiasmusref34.tokens -/
noncomputable abbrev M34 (H : FuncId → Option (List V → Option V)) (n : Nat) : Mc := mcOf (Cx H) 46 Tryd.f46 n
theorem m34 (H n) : (M34 H n).E.keep = [0, 1, 4, 5, 9, 12, 26] ∧ (M34 H n).E.cnd = [9, 12, 26] ∧ (M34 H n).E.frz = [5] ∧ (M34 H n).E.pro = [] ∧ (M34 H n).E.imp = [] ∧ (M34 H n).E.n = 27 ∧ (M34 H n).E.lvl = 0 ∧ (M34 H n).E.P = Tryd.prog ∧ (M34 H n).fuel = n ∧ (M34 H n).C = H ∧ (M34 H n).E.ok = okL := ⟨rfl, rfl, rfl, rfl, rfl, rfl, rfl, rfl, rfl, rfl, rfl⟩
noncomputable abbrev c34 : Code := Tryd.f46.body.getD .skip
theorem s34 {H} (hH : SoundHand Tryd.prog (hand H)) {args out} (n : Nat) (hl : args.length ≤ 27) (hp : match out with | .ret v => pureR v = true | .pan v => pureR v = true) (h : Fin (M34 (hand H) n) Tryd.f46.results.toList (R (M34 (hand H) n) c34 .top ⟨params 0 args, [], fun _ => none, 0⟩) = some out) : SoundPure Tryd.prog 46 args out := sound_of (C := Cx (hand H)) hH good mixed Tryd.func46 rfl hl hp h
/-- chiasmus/chiasmusref34.right -/
noncomputable abbrev M35 (H : FuncId → Option (List V → Option V)) (n : Nat) : Mc := mcOf (Cx H) 47 Tryd.f47 n
theorem m35 (H n) : (M35 H n).E.keep = [0, 1, 2, 4, 5, 17, 22, 57] ∧ (M35 H n).E.cnd = [17, 22, 57] ∧ (M35 H n).E.frz = [5] ∧ (M35 H n).E.pro = [] ∧ (M35 H n).E.imp = [] ∧ (M35 H n).E.n = 78 ∧ (M35 H n).E.lvl = 0 ∧ (M35 H n).E.P = Tryd.prog ∧ (M35 H n).fuel = n ∧ (M35 H n).C = H ∧ (M35 H n).E.ok = okL := ⟨rfl, rfl, rfl, rfl, rfl, rfl, rfl, rfl, rfl, rfl, rfl⟩
noncomputable abbrev c35 : Code := Tryd.f47.body.getD .skip
theorem s35 {H} (hH : SoundHand Tryd.prog (hand H)) {args out} (n : Nat) (hl : args.length ≤ 78) (hp : match out with | .ret v => pureR v = true | .pan v => pureR v = true) (h : Fin (M35 (hand H) n) Tryd.f47.results.toList (R (M35 (hand H) n) c35 .top ⟨params 0 args, [], fun _ => none, 0⟩) = some out) : SoundPure Tryd.prog 47 args out := sound_of (C := Cx (hand H)) hH good mixed Tryd.func47 rfl hl hp h
/-- chiasmus/chiasmusref34.in -/
noncomputable abbrev M349 (H : FuncId → Option (List V → Option V)) (n : Nat) : Mc := mcOf (Cx H) 49 Tryd.f49 n
theorem m349 (H n) : (M349 H n).E.keep = [0, 1, 4, 5, 9, 17] ∧ (M349 H n).E.cnd = [9, 17] ∧ (M349 H n).E.frz = [5] ∧ (M349 H n).E.pro = [] ∧ (M349 H n).E.imp = [] ∧ (M349 H n).E.n = 18 ∧ (M349 H n).E.lvl = 0 ∧ (M349 H n).E.P = Tryd.prog ∧ (M349 H n).fuel = n ∧ (M349 H n).C = H ∧ (M349 H n).E.ok = okL := ⟨rfl, rfl, rfl, rfl, rfl, rfl, rfl, rfl, rfl, rfl, rfl⟩
noncomputable abbrev c349 : Code := Tryd.f49.body.getD .skip
theorem s349 {H} (hH : SoundHand Tryd.prog (hand H)) {args out} (n : Nat) (hl : args.length ≤ 18) (hp : match out with | .ret v => pureR v = true | .pan v => pureR v = true) (h : Fin (M349 (hand H) n) Tryd.f49.results.toList (R (M349 (hand H) n) c349 .top ⟨params 0 args, [], fun _ => none, 0⟩) = some out) : SoundPure Tryd.prog 49 args out := sound_of (C := Cx (hand H)) hH good mixed Tryd.func49 rfl hl hp h
/-- chiasmus/chiasmusref01.Sign -/
noncomputable abbrev M350 (H : FuncId → Option (List V → Option V)) (n : Nat) : Mc := mcOf (Cx H) 50 Tryd.f50 n
theorem m350 (H n) : (M350 H n).E.keep = [0, 1, 4, 7, 10] ∧ (M350 H n).E.cnd = [7, 10] ∧ (M350 H n).E.frz = [] ∧ (M350 H n).E.pro = [] ∧ (M350 H n).E.imp = [] ∧ (M350 H n).E.n = 11 ∧ (M350 H n).E.lvl = 0 ∧ (M350 H n).E.P = Tryd.prog ∧ (M350 H n).fuel = n ∧ (M350 H n).C = H ∧ (M350 H n).E.ok = okL := ⟨rfl, rfl, rfl, rfl, rfl, rfl, rfl, rfl, rfl, rfl, rfl⟩
noncomputable abbrev c350 : Code := Tryd.f50.body.getD .skip
theorem s350 {H} (hH : SoundHand Tryd.prog (hand H)) {args out} (n : Nat) (hl : args.length ≤ 11) (hp : match out with | .ret v => pureR v = true | .pan v => pureR v = true) (h : Fin (M350 (hand H) n) Tryd.f50.results.toList (R (M350 (hand H) n) c350 .top ⟨params 0 args, [], fun _ => none, 0⟩) = some out) : SoundPure Tryd.prog 50 args out := sound_of (C := Cx (hand H)) hH good mixed Tryd.func50 rfl hl hp h
/-- (chiasmus/protocol.Protocol).start -/
noncomputable abbrev M36 (H : FuncId → Option (List V → Option V)) (n : Nat) : Mc := mcOf (Cx H) 54 Tryd.f54 n
theorem m36 (H n) : (M36 H n).E.keep = [0, 1, 2, 4, 5] ∧ (M36 H n).E.cnd = [] ∧ (M36 H n).E.frz = [] ∧ (M36 H n).E.pro = [] ∧ (M36 H n).E.imp = [] ∧ (M36 H n).E.n = 18 ∧ (M36 H n).E.lvl = 0 ∧ (M36 H n).E.P = Tryd.prog ∧ (M36 H n).fuel = n ∧ (M36 H n).C = H ∧ (M36 H n).E.ok = okL := ⟨rfl, rfl, rfl, rfl, rfl, rfl, rfl, rfl, rfl, rfl, rfl⟩
noncomputable abbrev c36 : Code := Tryd.f54.body.getD .skip
theorem s36 {H} (hH : SoundHand Tryd.prog (hand H)) {args out} (n : Nat) (hl : args.length ≤ 18) (hp : match out with | .ret v => pureR v = true | .pan v => pureR v = true) (h : Fin (M36 (hand H) n) Tryd.f54.results.toList (R (M36 (hand H) n) c36 .top ⟨params 0 args, [], fun _ => none, 0⟩) = some out) : SoundPure Tryd.prog 54 args out := sound_of (C := Cx (hand H)) hH good mixed Tryd.func54 rfl hl hp h
/-- (chiasmus/protocol.Rule).use -/
noncomputable abbrev M28 (H : FuncId → Option (List V → Option V)) (n : Nat) : Mc := mcOf (Cx H) 56 Tryd.f56 n
theorem m28 (H n) : (M28 H n).E.keep = [0, 1, 2, 4, 5, 6, 7, 8, 9, 11, 12, 13, 18, 22, 23, 24, 25, 38, 39, 40, 41, 47, 60, 70, 71, 72, 73, 87] ∧ (M28 H n).E.cnd = [18, 25, 41, 47, 60, 73, 87] ∧ (M28 H n).E.frz = [7, 8, 9, 11, 12, 13] ∧ (M28 H n).E.pro = [] ∧ (M28 H n).E.imp = [] ∧ (M28 H n).E.n = 89 ∧ (M28 H n).E.lvl = 0 ∧ (M28 H n).E.P = Tryd.prog ∧ (M28 H n).fuel = n ∧ (M28 H n).C = H ∧ (M28 H n).E.ok = okL := ⟨rfl, rfl, rfl, rfl, rfl, rfl, rfl, rfl, rfl, rfl, rfl⟩
noncomputable abbrev c28 : Code := Tryd.f56.body.getD .skip
theorem s28 {H} (hH : SoundHand Tryd.prog (hand H)) {args out} (n : Nat) (hl : args.length ≤ 89) (hp : match out with | .ret v => pureR v = true | .pan v => pureR v = true) (h : Fin (M28 (hand H) n) Tryd.f56.results.toList (R (M28 (hand H) n) c28 .top ⟨params 0 args, [], fun _ => none, 0⟩) = some out) : SoundPure Tryd.prog 56 args out := sound_of (C := Cx (hand H)) hH good mixed Tryd.func56 rfl hl hp h
/-- slices.Clone[[]int,int] -/
noncomputable abbrev M39 (H : FuncId → Option (List V → Option V)) (n : Nat) : Mc := mcOf (Cx H) 57 Tryd.f57 n
theorem m39 (H n) : (M39 H n).E.keep = [0, 2, 4] ∧ (M39 H n).E.cnd = [4] ∧ (M39 H n).E.frz = [] ∧ (M39 H n).E.pro = [] ∧ (M39 H n).E.imp = [] ∧ (M39 H n).E.n = 8 ∧ (M39 H n).E.lvl = 0 ∧ (M39 H n).E.P = Tryd.prog ∧ (M39 H n).fuel = n ∧ (M39 H n).C = H ∧ (M39 H n).E.ok = okL := ⟨rfl, rfl, rfl, rfl, rfl, rfl, rfl, rfl, rfl, rfl, rfl⟩
noncomputable abbrev c39 : Code := Tryd.f57.body.getD .skip
theorem s39 {H} (hH : SoundHand Tryd.prog (hand H)) {args out} (n : Nat) (hl : args.length ≤ 8) (hp : match out with | .ret v => pureR v = true | .pan v => pureR v = true) (h : Fin (M39 (hand H) n) Tryd.f57.results.toList (R (M39 (hand H) n) c39 .top ⟨params 0 args, [], fun _ => none, 0⟩) = some out) : SoundPure Tryd.prog 57 args out := sound_of (C := Cx (hand H)) hH good mixed Tryd.func57 rfl hl hp h
/-- (chiasmus/protocol.Protocol).bad$1 -/
noncomputable abbrev M40 (H : FuncId → Option (List V → Option V)) (n : Nat) : Mc := mcOf (Cx H) 58 Tryd.f58 n
theorem m40 (H n) : (M40 H n).E.keep = [0, 1, 3] ∧ (M40 H n).E.cnd = [] ∧ (M40 H n).E.frz = [] ∧ (M40 H n).E.pro = [] ∧ (M40 H n).E.imp = [] ∧ (M40 H n).E.n = 7 ∧ (M40 H n).E.lvl = 0 ∧ (M40 H n).E.P = Tryd.prog ∧ (M40 H n).fuel = n ∧ (M40 H n).C = H ∧ (M40 H n).E.ok = okL := ⟨rfl, rfl, rfl, rfl, rfl, rfl, rfl, rfl, rfl, rfl, rfl⟩
noncomputable abbrev c40 : Code := Tryd.f58.body.getD .skip
theorem s40 {H} (hH : SoundHand Tryd.prog (hand H)) {args out} (n : Nat) (hl : args.length ≤ 7) (hp : match out with | .ret v => pureR v = true | .pan v => pureR v = true) (h : Fin (M40 (hand H) n) Tryd.f58.results.toList (R (M40 (hand H) n) c40 .top ⟨params 0 args, [], fun _ => none, 0⟩) = some out) : SoundPure Tryd.prog 58 args out := sound_of (C := Cx (hand H)) hH good mixed Tryd.func58 rfl hl hp h
/-- chiasmus/protocol.covers -/
noncomputable abbrev M41 (H : FuncId → Option (List V → Option V)) (n : Nat) : Mc := mcOf (Cx H) 59 Tryd.f59 n
theorem m41 (H n) : (M41 H n).E.keep = [0, 1, 4, 5, 6, 7, 8, 9, 10, 19] ∧ (M41 H n).E.cnd = [10, 19] ∧ (M41 H n).E.frz = [5, 6] ∧ (M41 H n).E.pro = [] ∧ (M41 H n).E.imp = [] ∧ (M41 H n).E.n = 21 ∧ (M41 H n).E.lvl = 0 ∧ (M41 H n).E.P = Tryd.prog ∧ (M41 H n).fuel = n ∧ (M41 H n).C = H ∧ (M41 H n).E.ok = okL := ⟨rfl, rfl, rfl, rfl, rfl, rfl, rfl, rfl, rfl, rfl, rfl⟩
noncomputable abbrev c41 : Code := Tryd.f59.body.getD .skip
theorem s41 {H} (hH : SoundHand Tryd.prog (hand H)) {args out} (n : Nat) (hl : args.length ≤ 21) (hp : match out with | .ret v => pureR v = true | .pan v => pureR v = true) (h : Fin (M41 (hand H) n) Tryd.f59.results.toList (R (M41 (hand H) n) c41 .top ⟨params 0 args, [], fun _ => none, 0⟩) = some out) : SoundPure Tryd.prog 59 args out := sound_of (C := Cx (hand H)) hH good mixed Tryd.func59 rfl hl hp h
/-- slices.ContainsFunc[[]int,int] -/
noncomputable abbrev M42 (H : FuncId → Option (List V → Option V)) (n : Nat) : Mc := mcOf (Cx H) 60 Tryd.f60 n
theorem m42 (H n) : (M42 H n).E.keep = [0, 1, 4] ∧ (M42 H n).E.cnd = [] ∧ (M42 H n).E.frz = [] ∧ (M42 H n).E.pro = [] ∧ (M42 H n).E.imp = [] ∧ (M42 H n).E.n = 9 ∧ (M42 H n).E.lvl = 0 ∧ (M42 H n).E.P = Tryd.prog ∧ (M42 H n).fuel = n ∧ (M42 H n).C = H ∧ (M42 H n).E.ok = okL := ⟨rfl, rfl, rfl, rfl, rfl, rfl, rfl, rfl, rfl, rfl, rfl⟩
noncomputable abbrev c42 : Code := Tryd.f60.body.getD .skip
theorem s42 {H} (hH : SoundHand Tryd.prog (hand H)) {args out} (n : Nat) (hl : args.length ≤ 9) (hp : match out with | .ret v => pureR v = true | .pan v => pureR v = true) (h : Fin (M42 (hand H) n) Tryd.f60.results.toList (R (M42 (hand H) n) c42 .top ⟨params 0 args, [], fun _ => none, 0⟩) = some out) : SoundPure Tryd.prog 60 args out := sound_of (C := Cx (hand H)) hH good mixed Tryd.func60 rfl hl hp h
/-- chiasmus/protocol.within$1 -/
noncomputable abbrev M43 (H : FuncId → Option (List V → Option V)) (n : Nat) : Mc := mcOf (Cx H) 61 Tryd.f61 n
theorem m43 (H n) : (M43 H n).E.keep = [0, 1, 3] ∧ (M43 H n).E.cnd = [] ∧ (M43 H n).E.frz = [] ∧ (M43 H n).E.pro = [] ∧ (M43 H n).E.imp = [] ∧ (M43 H n).E.n = 11 ∧ (M43 H n).E.lvl = 0 ∧ (M43 H n).E.P = Tryd.prog ∧ (M43 H n).fuel = n ∧ (M43 H n).C = H ∧ (M43 H n).E.ok = okL := ⟨rfl, rfl, rfl, rfl, rfl, rfl, rfl, rfl, rfl, rfl, rfl⟩
noncomputable abbrev c43 : Code := Tryd.f61.body.getD .skip
theorem s43 {H} (hH : SoundHand Tryd.prog (hand H)) {args out} (n : Nat) (hl : args.length ≤ 11) (hp : match out with | .ret v => pureR v = true | .pan v => pureR v = true) (h : Fin (M43 (hand H) n) Tryd.f61.results.toList (R (M43 (hand H) n) c43 .top ⟨params 0 args, [], fun _ => none, 0⟩) = some out) : SoundPure Tryd.prog 61 args out := sound_of (C := Cx (hand H)) hH good mixed Tryd.func61 rfl hl hp h
/-- slices.IndexFunc[[]chiasmus/protocol.Rule,chiasmus/protocol.Rule] -/
noncomputable abbrev M45 (H : FuncId → Option (List V → Option V)) (n : Nat) : Mc := mcOf (Cx H) 62 Tryd.f62 n
theorem m45 (H n) : (M45 H n).E.keep = [0, 1, 4, 5, 7, 8, 9, 16] ∧ (M45 H n).E.cnd = [9, 16] ∧ (M45 H n).E.frz = [] ∧ (M45 H n).E.pro = [] ∧ (M45 H n).E.imp = [] ∧ (M45 H n).E.n = 19 ∧ (M45 H n).E.lvl = 0 ∧ (M45 H n).E.P = Tryd.prog ∧ (M45 H n).fuel = n ∧ (M45 H n).C = H ∧ (M45 H n).E.ok = okL := ⟨rfl, rfl, rfl, rfl, rfl, rfl, rfl, rfl, rfl, rfl, rfl⟩
noncomputable abbrev c45 : Code := Tryd.f62.body.getD .skip
theorem s45 {H} (hH : SoundHand Tryd.prog (hand H)) {args out} (n : Nat) (hl : args.length ≤ 19) (hp : match out with | .ret v => pureR v = true | .pan v => pureR v = true) (h : Fin (M45 (hand H) n) Tryd.f62.results.toList (R (M45 (hand H) n) c45 .top ⟨params 0 args, [], fun _ => none, 0⟩) = some out) : SoundPure Tryd.prog 62 args out := sound_of (C := Cx (hand H)) hH good mixed Tryd.func62 rfl hl hp h
/-- slices.IndexFunc[[][]int,[]int] -/
noncomputable abbrev M46 (H : FuncId → Option (List V → Option V)) (n : Nat) : Mc := mcOf (Cx H) 63 Tryd.f63 n
theorem m46 (H n) : (M46 H n).E.keep = [0, 1, 4, 5, 7, 8, 9, 16] ∧ (M46 H n).E.cnd = [9, 16] ∧ (M46 H n).E.frz = [] ∧ (M46 H n).E.pro = [] ∧ (M46 H n).E.imp = [] ∧ (M46 H n).E.n = 19 ∧ (M46 H n).E.lvl = 0 ∧ (M46 H n).E.P = Tryd.prog ∧ (M46 H n).fuel = n ∧ (M46 H n).C = H ∧ (M46 H n).E.ok = okL := ⟨rfl, rfl, rfl, rfl, rfl, rfl, rfl, rfl, rfl, rfl, rfl⟩
noncomputable abbrev c46 : Code := Tryd.f63.body.getD .skip
theorem s46 {H} (hH : SoundHand Tryd.prog (hand H)) {args out} (n : Nat) (hl : args.length ≤ 19) (hp : match out with | .ret v => pureR v = true | .pan v => pureR v = true) (h : Fin (M46 (hand H) n) Tryd.f63.results.toList (R (M46 (hand H) n) c46 .top ⟨params 0 args, [], fun _ => none, 0⟩) = some out) : SoundPure Tryd.prog 63 args out := sound_of (C := Cx (hand H)) hH good mixed Tryd.func63 rfl hl hp h
/-- (chiasmus/protocol.Rule).sentence$1 -/
noncomputable abbrev M364 (H : FuncId → Option (List V → Option V)) (n : Nat) : Mc := mcOf (Cx H) 64 Tryd.f64 n
theorem m364 (H n) : (M364 H n).E.keep = [0, 1, 3, 4, 6, 17, 26, 28, 29, 30, 31, 36] ∧ (M364 H n).E.cnd = [17, 26, 31, 36] ∧ (M364 H n).E.frz = [6] ∧ (M364 H n).E.pro = [4] ∧ (M364 H n).E.imp = [] ∧ (M364 H n).E.n = 44 ∧ (M364 H n).E.lvl = 0 ∧ (M364 H n).E.P = Tryd.prog ∧ (M364 H n).fuel = n ∧ (M364 H n).C = H ∧ (M364 H n).E.ok = okL := ⟨rfl, rfl, rfl, rfl, rfl, rfl, rfl, rfl, rfl, rfl, rfl⟩
noncomputable abbrev c364 : Code := Tryd.f64.body.getD .skip
theorem s364 {H} (hH : SoundHand Tryd.prog (hand H)) {args out} (n : Nat) (hl : args.length ≤ 44) (hp : match out with | .ret v => pureR v = true | .pan v => pureR v = true) (h : Fin (M364 (hand H) n) Tryd.f64.results.toList (R (M364 (hand H) n) c364 .top ⟨params 0 args, [], fun _ => none, 0⟩) = some out) : SoundPure Tryd.prog 64 args out := sound_of (C := Cx (hand H)) hH good mixed Tryd.func64 rfl hl hp h
/-- slices.Contains[[]int,int] -/
noncomputable abbrev M365 (H : FuncId → Option (List V → Option V)) (n : Nat) : Mc := mcOf (Cx H) 65 Tryd.f65 n
theorem m365 (H n) : (M365 H n).E.keep = [0, 1, 4] ∧ (M365 H n).E.cnd = [] ∧ (M365 H n).E.frz = [] ∧ (M365 H n).E.pro = [] ∧ (M365 H n).E.imp = [] ∧ (M365 H n).E.n = 9 ∧ (M365 H n).E.lvl = 0 ∧ (M365 H n).E.P = Tryd.prog ∧ (M365 H n).fuel = n ∧ (M365 H n).C = H ∧ (M365 H n).E.ok = okL := ⟨rfl, rfl, rfl, rfl, rfl, rfl, rfl, rfl, rfl, rfl, rfl⟩
noncomputable abbrev c365 : Code := Tryd.f65.body.getD .skip
theorem s365 {H} (hH : SoundHand Tryd.prog (hand H)) {args out} (n : Nat) (hl : args.length ≤ 9) (hp : match out with | .ret v => pureR v = true | .pan v => pureR v = true) (h : Fin (M365 (hand H) n) Tryd.f65.results.toList (R (M365 (hand H) n) c365 .top ⟨params 0 args, [], fun _ => none, 0⟩) = some out) : SoundPure Tryd.prog 65 args out := sound_of (C := Cx (hand H)) hH good mixed Tryd.func65 rfl hl hp h
/-- slices.Max[[]int,int] -/
noncomputable abbrev M44 (H : FuncId → Option (List V → Option V)) (n : Nat) : Mc := mcOf (Cx H) 70 Tryd.f70 n
theorem m44 (H n) : (M44 H n).E.keep = [0, 2, 3, 4, 7, 15] ∧ (M44 H n).E.cnd = [7, 15] ∧ (M44 H n).E.frz = [4] ∧ (M44 H n).E.pro = [] ∧ (M44 H n).E.imp = [] ∧ (M44 H n).E.n = 25 ∧ (M44 H n).E.lvl = 0 ∧ (M44 H n).E.P = Tryd.prog ∧ (M44 H n).fuel = n ∧ (M44 H n).C = H ∧ (M44 H n).E.ok = okL := ⟨rfl, rfl, rfl, rfl, rfl, rfl, rfl, rfl, rfl, rfl, rfl⟩
noncomputable abbrev c44 : Code := Tryd.f70.body.getD .skip
theorem s44 {H} (hH : SoundHand Tryd.prog (hand H)) {args out} (n : Nat) (hl : args.length ≤ 25) (hp : match out with | .ret v => pureR v = true | .pan v => pureR v = true) (h : Fin (M44 (hand H) n) Tryd.f70.results.toList (R (M44 (hand H) n) c44 .top ⟨params 0 args, [], fun _ => none, 0⟩) = some out) : SoundPure Tryd.prog 70 args out := sound_of (C := Cx (hand H)) hH good mixed Tryd.func70 rfl hl hp h
/-- slices.IndexFunc[[]int,int] -/
noncomputable abbrev M47 (H : FuncId → Option (List V → Option V)) (n : Nat) : Mc := mcOf (Cx H) 71 Tryd.f71 n
theorem m47 (H n) : (M47 H n).E.keep = [0, 1, 4, 5, 7, 8, 9, 16] ∧ (M47 H n).E.cnd = [9, 16] ∧ (M47 H n).E.frz = [] ∧ (M47 H n).E.pro = [] ∧ (M47 H n).E.imp = [] ∧ (M47 H n).E.n = 19 ∧ (M47 H n).E.lvl = 0 ∧ (M47 H n).E.P = Tryd.prog ∧ (M47 H n).fuel = n ∧ (M47 H n).C = H ∧ (M47 H n).E.ok = okL := ⟨rfl, rfl, rfl, rfl, rfl, rfl, rfl, rfl, rfl, rfl, rfl⟩
noncomputable abbrev c47 : Code := Tryd.f71.body.getD .skip
theorem s47 {H} (hH : SoundHand Tryd.prog (hand H)) {args out} (n : Nat) (hl : args.length ≤ 19) (hp : match out with | .ret v => pureR v = true | .pan v => pureR v = true) (h : Fin (M47 (hand H) n) Tryd.f71.results.toList (R (M47 (hand H) n) c47 .top ⟨params 0 args, [], fun _ => none, 0⟩) = some out) : SoundPure Tryd.prog 71 args out := sound_of (C := Cx (hand H)) hH good mixed Tryd.func71 rfl hl hp h
/-- slices.Index[[]int,int] -/
noncomputable abbrev M372 (H : FuncId → Option (List V → Option V)) (n : Nat) : Mc := mcOf (Cx H) 72 Tryd.f72 n
theorem m372 (H n) : (M372 H n).E.keep = [0, 1, 4, 5, 7, 8, 9, 16] ∧ (M372 H n).E.cnd = [9, 16] ∧ (M372 H n).E.frz = [] ∧ (M372 H n).E.pro = [] ∧ (M372 H n).E.imp = [] ∧ (M372 H n).E.n = 19 ∧ (M372 H n).E.lvl = 0 ∧ (M372 H n).E.P = Tryd.prog ∧ (M372 H n).fuel = n ∧ (M372 H n).C = H ∧ (M372 H n).E.ok = okL := ⟨rfl, rfl, rfl, rfl, rfl, rfl, rfl, rfl, rfl, rfl, rfl⟩
noncomputable abbrev c372 : Code := Tryd.f72.body.getD .skip
theorem s372 {H} (hH : SoundHand Tryd.prog (hand H)) {args out} (n : Nat) (hl : args.length ≤ 19) (hp : match out with | .ret v => pureR v = true | .pan v => pureR v = true) (h : Fin (M372 (hand H) n) Tryd.f72.results.toList (R (M372 (hand H) n) c372 .top ⟨params 0 args, [], fun _ => none, 0⟩) = some out) : SoundPure Tryd.prog 72 args out := sound_of (C := Cx (hand H)) hH good mixed Tryd.func72 rfl hl hp h
theorem oks : okL.contains 2 = true ∧ okL.contains 3 = true ∧ okL.contains 4 = true ∧ okL.contains 5 = true ∧ okL.contains 6 = true ∧ okL.contains 7 = true ∧ okL.contains 8 = true ∧ okL.contains 9 = true ∧ okL.contains 10 = true ∧ okL.contains 11 = true ∧ okL.contains 12 = true ∧ okL.contains 13 = true ∧ okL.contains 14 = true ∧ okL.contains 15 = true ∧ okL.contains 16 = true ∧ okL.contains 17 = true ∧ okL.contains 18 = true ∧ okL.contains 19 = true ∧ okL.contains 20 = true ∧ okL.contains 21 = true ∧ okL.contains 22 = true ∧ okL.contains 23 = true ∧ okL.contains 24 = true ∧ okL.contains 25 = true ∧ okL.contains 26 = true ∧ okL.contains 27 = true ∧ okL.contains 28 = true ∧ okL.contains 29 = true ∧ okL.contains 30 = true ∧ okL.contains 31 = true ∧ okL.contains 32 = true ∧ okL.contains 33 = true ∧ okL.contains 34 = true ∧ okL.contains 35 = true ∧ okL.contains 36 = true ∧ okL.contains 37 = true ∧ okL.contains 38 = true ∧ okL.contains 39 = true ∧ okL.contains 40 = true ∧ okL.contains 41 = true ∧ okL.contains 42 = true ∧ okL.contains 43 = true ∧ okL.contains 44 = true ∧ okL.contains 45 = true ∧ okL.contains 46 = true ∧ okL.contains 47 = true ∧ okL.contains 48 = true ∧ okL.contains 49 = true ∧ okL.contains 50 = true ∧ okL.contains 51 = true ∧ okL.contains 52 = true ∧ okL.contains 53 = true ∧ okL.contains 54 = true ∧ okL.contains 55 = true ∧ okL.contains 56 = true ∧ okL.contains 57 = true ∧ okL.contains 58 = true ∧ okL.contains 59 = true ∧ okL.contains 60 = true ∧ okL.contains 61 = true ∧ okL.contains 62 = true ∧ okL.contains 63 = true ∧ okL.contains 64 = true ∧ okL.contains 65 = true ∧ okL.contains 66 = true ∧ okL.contains 67 = true ∧ okL.contains 68 = true ∧ okL.contains 69 = true ∧ okL.contains 70 = true ∧ okL.contains 71 = true ∧ okL.contains 72 = true ∧ okL.contains 73 = true ∧ okL.contains 74 = true ∧ okL.contains 75 = true ∧ okL.contains 76 = true ∧ okL.contains 77 = true ∧ okL.contains 78 = true ∧ okL.contains 79 = true ∧ okL.contains 80 = true ∧ okL.contains 81 = true ∧ okL.contains 82 = true ∧ okL.contains 83 = true ∧ okL.contains 84 = true ∧ okL.contains 85 = true ∧ okL.contains 86 = true := ⟨rfl, rfl, rfl, rfl, rfl, rfl, rfl, rfl, rfl, rfl, rfl, rfl, rfl, rfl, rfl, rfl, rfl, rfl, rfl, rfl, rfl, rfl, rfl, rfl, rfl, rfl, rfl, rfl, rfl, rfl, rfl, rfl, rfl, rfl, rfl, rfl, rfl, rfl, rfl, rfl, rfl, rfl, rfl, rfl, rfl, rfl, rfl, rfl, rfl, rfl, rfl, rfl, rfl, rfl, rfl, rfl, rfl, rfl, rfl, rfl, rfl, rfl, rfl, rfl, rfl, rfl, rfl, rfl, rfl, rfl, rfl, rfl, rfl, rfl, rfl, rfl, rfl, rfl, rfl, rfl, rfl, rfl, rfl, rfl, rfl⟩
/-- Facts on types. -/
theorem ty :
  szT Tryd.prog 0 = 1 ∧
  aggT Tryd.prog 0 = some false ∧
  bytesT Tryd.prog 0 = 0 ∧
  zeroT Tryd.prog 0 = some V.junk ∧
  szT Tryd.prog 2 = 1 ∧
  aggT Tryd.prog 2 = some false ∧
  bytesT Tryd.prog 2 = 8 ∧
  zeroT Tryd.prog 2 = some (V.int IntKind.i64 (0)) ∧
  intT Tryd.prog 2 = some IntKind.i64 ∧
  szT Tryd.prog 3 = 1 ∧
  aggT Tryd.prog 3 = some false ∧
  bytesT Tryd.prog 3 = 8 ∧
  zeroT Tryd.prog 3 = some (V.int IntKind.i64 (0)) ∧
  intT Tryd.prog 3 = some IntKind.i64 ∧
  szT Tryd.prog 4 = 1 ∧
  aggT Tryd.prog 4 = some false ∧
  bytesT Tryd.prog 4 = 1 ∧
  zeroT Tryd.prog 4 = some (V.bool false) ∧
  szT Tryd.prog 5 = 1 ∧
  aggT Tryd.prog 5 = some false ∧
  bytesT Tryd.prog 5 = 1 ∧
  zeroT Tryd.prog 5 = some (V.int IntKind.u8 (0)) ∧
  intT Tryd.prog 5 = some IntKind.u8 ∧
  szT Tryd.prog 9 = 1 ∧
  aggT Tryd.prog 9 = some false ∧
  bytesT Tryd.prog 9 = 16 ∧
  zeroT Tryd.prog 9 = some (V.str []) ∧
  strT Tryd.prog 9 = true ∧
  rowT Tryd.prog 9 = true ∧
  szT Tryd.prog 20 = 1 ∧
  aggT Tryd.prog 20 = some false ∧
  bytesT Tryd.prog 20 = 16 ∧
  zeroT Tryd.prog 20 = some V.nilI ∧
  szT Tryd.prog 22 = 1 ∧
  aggT Tryd.prog 22 = some false ∧
  bytesT Tryd.prog 22 = 24 ∧
  zeroT Tryd.prog 22 = some V.nilS ∧
  elemT Tryd.prog 22 = some 3 ∧
  rowT Tryd.prog 22 = true ∧
  szT Tryd.prog 23 = 1 ∧
  aggT Tryd.prog 23 = some false ∧
  bytesT Tryd.prog 23 = 24 ∧
  zeroT Tryd.prog 23 = some V.nilS ∧
  elemT Tryd.prog 23 = some 54 ∧
  rowT Tryd.prog 23 = true ∧
  szT Tryd.prog 24 = 1 ∧
  aggT Tryd.prog 24 = some false ∧
  bytesT Tryd.prog 24 = 24 ∧
  zeroT Tryd.prog 24 = some V.nilS ∧
  elemT Tryd.prog 24 = some 22 ∧
  rowT Tryd.prog 24 = true ∧
  szT Tryd.prog 26 = 4 ∧
  aggT Tryd.prog 26 = some true ∧
  bytesT Tryd.prog 26 = 80 ∧
  zeroT Tryd.prog 26 = some (V.agg [V.nilS, V.int IntKind.i64 (0), V.nilS, V.nilS]) ∧
  fldT Tryd.prog 26 0 = some (0, 22) ∧
  fldT Tryd.prog 26 1 = some (1, 3) ∧
  fldT Tryd.prog 26 2 = some (2, 23) ∧
  fldT Tryd.prog 26 3 = some (3, 24) ∧
  structT Tryd.prog 26 = true ∧
  szT Tryd.prog 29 = 1 ∧
  aggT Tryd.prog 29 = some false ∧
  bytesT Tryd.prog 29 = 24 ∧
  zeroT Tryd.prog 29 = some V.nilS ∧
  elemT Tryd.prog 29 = some 55 ∧
  rowT Tryd.prog 29 = true ∧
  szT Tryd.prog 31 = 4 ∧
  aggT Tryd.prog 31 = some true ∧
  bytesT Tryd.prog 31 = 80 ∧
  zeroT Tryd.prog 31 = some (V.agg [V.nilS, V.int IntKind.i64 (0), V.nilS, V.nilS]) ∧
  fldT Tryd.prog 31 0 = some (0, 22) ∧
  fldT Tryd.prog 31 1 = some (1, 3) ∧
  fldT Tryd.prog 31 2 = some (2, 29) ∧
  fldT Tryd.prog 31 3 = some (3, 24) ∧
  structT Tryd.prog 31 = true ∧
  szT Tryd.prog 33 = 1 ∧
  aggT Tryd.prog 33 = some false ∧
  bytesT Tryd.prog 33 = 24 ∧
  zeroT Tryd.prog 33 = some V.nilS ∧
  elemT Tryd.prog 33 = some 64 ∧
  rowT Tryd.prog 33 = true ∧
  szT Tryd.prog 35 = 1 ∧
  aggT Tryd.prog 35 = some true ∧
  bytesT Tryd.prog 35 = 24 ∧
  zeroT Tryd.prog 35 = some (V.agg [V.nilS]) ∧
  fldT Tryd.prog 35 0 = some (0, 33) ∧
  structT Tryd.prog 35 = true ∧
  szT Tryd.prog 36 = 1 ∧
  aggT Tryd.prog 36 = some false ∧
  bytesT Tryd.prog 36 = 8 ∧
  zeroT Tryd.prog 36 = some (V.int IntKind.i64 (0)) ∧
  intT Tryd.prog 36 = some IntKind.i64 ∧
  szT Tryd.prog 37 = 1 ∧
  aggT Tryd.prog 37 = some false ∧
  bytesT Tryd.prog 37 = 0 ∧
  zeroT Tryd.prog 37 = some V.junk ∧
  szT Tryd.prog 41 = 1 ∧
  aggT Tryd.prog 41 = some false ∧
  bytesT Tryd.prog 41 = 24 ∧
  zeroT Tryd.prog 41 = some V.nilS ∧
  elemT Tryd.prog 41 = some 70 ∧
  rowT Tryd.prog 41 = true ∧
  szT Tryd.prog 42 = 1 ∧
  aggT Tryd.prog 42 = some false ∧
  bytesT Tryd.prog 42 = 24 ∧
  zeroT Tryd.prog 42 = some V.nilS ∧
  elemT Tryd.prog 42 = some 155 ∧
  rowT Tryd.prog 42 = true ∧
  szT Tryd.prog 44 = 2 ∧
  aggT Tryd.prog 44 = some true ∧
  bytesT Tryd.prog 44 = 48 ∧
  zeroT Tryd.prog 44 = some (V.agg [V.nilS, V.nilS]) ∧
  fldT Tryd.prog 44 0 = some (0, 41) ∧
  fldT Tryd.prog 44 1 = some (1, 42) ∧
  structT Tryd.prog 44 = true ∧
  szT Tryd.prog 45 = 1 ∧
  aggT Tryd.prog 45 = some false ∧
  bytesT Tryd.prog 45 = 0 ∧
  zeroT Tryd.prog 45 = some V.junk ∧
  szT Tryd.prog 49 = 1 ∧
  aggT Tryd.prog 49 = some false ∧
  bytesT Tryd.prog 49 = 0 ∧
  zeroT Tryd.prog 49 = some V.junk ∧
  szT Tryd.prog 54 = 4 ∧
  aggT Tryd.prog 54 = some true ∧
  bytesT Tryd.prog 54 = 80 ∧
  zeroT Tryd.prog 54 = some (V.agg [V.nilS, V.nilS, V.nilS, V.int IntKind.i64 (0)]) ∧
  fldT Tryd.prog 54 0 = some (0, 22) ∧
  fldT Tryd.prog 54 1 = some (1, 22) ∧
  fldT Tryd.prog 54 2 = some (2, 22) ∧
  fldT Tryd.prog 54 3 = some (3, 3) ∧
  structT Tryd.prog 54 = true ∧
  szT Tryd.prog 55 = 4 ∧
  aggT Tryd.prog 55 = some true ∧
  bytesT Tryd.prog 55 = 80 ∧
  zeroT Tryd.prog 55 = some (V.agg [V.nilS, V.nilS, V.nilS, V.int IntKind.i64 (0)]) ∧
  fldT Tryd.prog 55 0 = some (0, 22) ∧
  fldT Tryd.prog 55 1 = some (1, 22) ∧
  fldT Tryd.prog 55 2 = some (2, 22) ∧
  fldT Tryd.prog 55 3 = some (3, 3) ∧
  structT Tryd.prog 55 = true ∧
  szT Tryd.prog 56 = 1 ∧
  aggT Tryd.prog 56 = some false ∧
  bytesT Tryd.prog 56 = 0 ∧
  zeroT Tryd.prog 56 = some V.junk ∧
  szT Tryd.prog 62 = 1 ∧
  aggT Tryd.prog 62 = some false ∧
  bytesT Tryd.prog 62 = 24 ∧
  zeroT Tryd.prog 62 = some V.nilS ∧
  elemT Tryd.prog 62 = some 67 ∧
  rowT Tryd.prog 62 = true ∧
  szT Tryd.prog 64 = 3 ∧
  aggT Tryd.prog 64 = some true ∧
  bytesT Tryd.prog 64 = 48 ∧
  zeroT Tryd.prog 64 = some (V.agg [V.str [], V.bool false, V.nilS]) ∧
  fldT Tryd.prog 64 0 = some (0, 9) ∧
  fldT Tryd.prog 64 1 = some (1, 4) ∧
  fldT Tryd.prog 64 2 = some (2, 62) ∧
  structT Tryd.prog 64 = true ∧
  szT Tryd.prog 65 = 1 ∧
  aggT Tryd.prog 65 = some false ∧
  bytesT Tryd.prog 65 = 24 ∧
  zeroT Tryd.prog 65 = some V.nilS ∧
  elemT Tryd.prog 65 = some 157 ∧
  rowT Tryd.prog 65 = true ∧
  szT Tryd.prog 67 = 5 ∧
  aggT Tryd.prog 67 = some true ∧
  bytesT Tryd.prog 67 = 120 ∧
  zeroT Tryd.prog 67 = some (V.agg [V.nilS, V.nilS, V.nilS, V.nilS, V.nilS]) ∧
  fldT Tryd.prog 67 0 = some (0, 41) ∧
  fldT Tryd.prog 67 1 = some (1, 65) ∧
  fldT Tryd.prog 67 2 = some (2, 41) ∧
  fldT Tryd.prog 67 3 = some (3, 41) ∧
  fldT Tryd.prog 67 4 = some (4, 62) ∧
  structT Tryd.prog 67 = true ∧
  szT Tryd.prog 70 = 3 ∧
  aggT Tryd.prog 70 = some true ∧
  bytesT Tryd.prog 70 = 48 ∧
  zeroT Tryd.prog 70 = some (V.agg [V.int IntKind.i64 (0), V.str [], V.nilS]) ∧
  fldT Tryd.prog 70 0 = some (0, 3) ∧
  fldT Tryd.prog 70 1 = some (1, 9) ∧
  fldT Tryd.prog 70 2 = some (2, 41) ∧
  structT Tryd.prog 70 = true ∧
  szT Tryd.prog 74 = 1 ∧
  aggT Tryd.prog 74 = some false ∧
  bytesT Tryd.prog 74 = 8 ∧
  zeroT Tryd.prog 74 = some V.nilF ∧
  szT Tryd.prog 80 = 1 ∧
  aggT Tryd.prog 80 = some false ∧
  bytesT Tryd.prog 80 = 8 ∧
  zeroT Tryd.prog 80 = some V.nilF ∧
  szT Tryd.prog 81 = 1 ∧
  aggT Tryd.prog 81 = some false ∧
  bytesT Tryd.prog 81 = 8 ∧
  zeroT Tryd.prog 81 = some V.nilF ∧
  szT Tryd.prog 84 = 2 ∧
  aggT Tryd.prog 84 = some true ∧
  bytesT Tryd.prog 84 = 48 ∧
  zeroT Tryd.prog 84 = some (V.agg [V.nilS, V.nilS]) ∧
  fldT Tryd.prog 84 0 = some (0, 22) ∧
  fldT Tryd.prog 84 1 = some (1, 22) ∧
  structT Tryd.prog 84 = true ∧
  szT Tryd.prog 85 = 1 ∧
  aggT Tryd.prog 85 = some false ∧
  bytesT Tryd.prog 85 = 8 ∧
  zeroT Tryd.prog 85 = some V.nilF ∧
  szT Tryd.prog 88 = 1 ∧
  aggT Tryd.prog 88 = some false ∧
  bytesT Tryd.prog 88 = 8 ∧
  zeroT Tryd.prog 88 = some V.nilF ∧
  szT Tryd.prog 89 = 1 ∧
  aggT Tryd.prog 89 = some false ∧
  bytesT Tryd.prog 89 = 8 ∧
  zeroT Tryd.prog 89 = some V.nilF ∧
  szT Tryd.prog 92 = 1 ∧
  aggT Tryd.prog 92 = some false ∧
  bytesT Tryd.prog 92 = 8 ∧
  zeroT Tryd.prog 92 = some V.nilF ∧
  szT Tryd.prog 98 = 1 ∧
  aggT Tryd.prog 98 = some false ∧
  bytesT Tryd.prog 98 = 24 ∧
  zeroT Tryd.prog 98 = some V.nilS ∧
  elemT Tryd.prog 98 = some 5 ∧
  rowT Tryd.prog 98 = true ∧
  szT Tryd.prog 99 = 1 ∧
  aggT Tryd.prog 99 = some false ∧
  bytesT Tryd.prog 99 = 8 ∧
  zeroT Tryd.prog 99 = some V.nilF ∧
  szT Tryd.prog 102 = 8 ∧
  aggT Tryd.prog 102 = some true ∧
  bytesT Tryd.prog 102 = 64 ∧
  zeroT Tryd.prog 102 = some   (V.agg     [V.int IntKind.i64 (0), V.int IntKind.i64 (0), V.int IntKind.i64 (0),       V.int IntKind.i64 (0), V.int IntKind.i64 (0), V.int IntKind.i64 (0),       V.int IntKind.i64 (0), V.int IntKind.i64 (0)]) ∧
  arrT Tryd.prog 102 = some (8, 3) ∧
  szT Tryd.prog 104 = 1 ∧
  aggT Tryd.prog 104 = some false ∧
  bytesT Tryd.prog 104 = 8 ∧
  zeroT Tryd.prog 104 = some V.nilM ∧
  mapT Tryd.prog 104 = some (102, 4) ∧
  szT Tryd.prog 105 = 1 ∧
  aggT Tryd.prog 105 = some false ∧
  bytesT Tryd.prog 105 = 24 ∧
  zeroT Tryd.prog 105 = some V.nilS ∧
  elemT Tryd.prog 105 = some 84 ∧
  rowT Tryd.prog 105 = true ∧
  szT Tryd.prog 106 = 1 ∧
  aggT Tryd.prog 106 = some false ∧
  bytesT Tryd.prog 106 = 0 ∧
  zeroT Tryd.prog 106 = some V.junk ∧
  szT Tryd.prog 113 = 1 ∧
  aggT Tryd.prog 113 = some false ∧
  bytesT Tryd.prog 113 = 8 ∧
  zeroT Tryd.prog 113 = some (V.int IntKind.u64 (0)) ∧
  intT Tryd.prog 113 = some IntKind.u64 ∧
  szT Tryd.prog 114 = 1 ∧
  aggT Tryd.prog 114 = some false ∧
  bytesT Tryd.prog 114 = 0 ∧
  zeroT Tryd.prog 114 = some V.junk ∧
  szT Tryd.prog 120 = 1 ∧
  aggT Tryd.prog 120 = some false ∧
  bytesT Tryd.prog 120 = 4 ∧
  zeroT Tryd.prog 120 = some (V.int IntKind.u32 (0)) ∧
  intT Tryd.prog 120 = some IntKind.u32 ∧
  szT Tryd.prog 121 = 1 ∧
  aggT Tryd.prog 121 = some false ∧
  bytesT Tryd.prog 121 = 0 ∧
  zeroT Tryd.prog 121 = some V.junk ∧
  szT Tryd.prog 123 = 1 ∧
  aggT Tryd.prog 123 = some false ∧
  bytesT Tryd.prog 123 = 8 ∧
  zeroT Tryd.prog 123 = some (V.int IntKind.u64 (0)) ∧
  intT Tryd.prog 123 = some IntKind.u64 ∧
  szT Tryd.prog 124 = 1 ∧
  aggT Tryd.prog 124 = some false ∧
  bytesT Tryd.prog 124 = 0 ∧
  zeroT Tryd.prog 124 = some V.junk ∧
  szT Tryd.prog 126 = 24 ∧
  aggT Tryd.prog 126 = some true ∧
  bytesT Tryd.prog 126 = 24 ∧
  zeroT Tryd.prog 126 = some   (V.agg     [V.int IntKind.u8 (0), V.int IntKind.u8 (0), V.int IntKind.u8 (0),       V.int IntKind.u8 (0), V.int IntKind.u8 (0), V.int IntKind.u8 (0),       V.int IntKind.u8 (0), V.int IntKind.u8 (0), V.int IntKind.u8 (0),       V.int IntKind.u8 (0), V.int IntKind.u8 (0), V.int IntKind.u8 (0),       V.int IntKind.u8 (0), V.int IntKind.u8 (0), V.int IntKind.u8 (0),       V.int IntKind.u8 (0), V.int IntKind.u8 (0), V.int IntKind.u8 (0),       V.int IntKind.u8 (0), V.int IntKind.u8 (0), V.int IntKind.u8 (0),       V.int IntKind.u8 (0), V.int IntKind.u8 (0), V.int IntKind.u8 (0)]) ∧
  arrT Tryd.prog 126 = some (24, 5) ∧
  szT Tryd.prog 129 = 1 ∧
  aggT Tryd.prog 129 = some false ∧
  bytesT Tryd.prog 129 = 0 ∧
  zeroT Tryd.prog 129 = some V.junk ∧
  szT Tryd.prog 133 = 20 ∧
  aggT Tryd.prog 133 = some true ∧
  bytesT Tryd.prog 133 = 160 ∧
  zeroT Tryd.prog 133 = some   (V.agg     [V.int IntKind.u64 (0), V.int IntKind.u64 (0), V.int IntKind.u64 (0),       V.int IntKind.u64 (0), V.int IntKind.u64 (0), V.int IntKind.u64 (0),       V.int IntKind.u64 (0), V.int IntKind.u64 (0), V.int IntKind.u64 (0),       V.int IntKind.u64 (0), V.int IntKind.u64 (0), V.int IntKind.u64 (0),       V.int IntKind.u64 (0), V.int IntKind.u64 (0), V.int IntKind.u64 (0),       V.int IntKind.u64 (0), V.int IntKind.u64 (0), V.int IntKind.u64 (0),       V.int IntKind.u64 (0), V.int IntKind.u64 (0)]) ∧
  arrT Tryd.prog 133 = some (20, 123) ∧
  szT Tryd.prog 134 = 65 ∧
  aggT Tryd.prog 134 = some true ∧
  bytesT Tryd.prog 134 = 65 ∧
  zeroT Tryd.prog 134 = some   (V.agg     [V.int IntKind.u8 (0), V.int IntKind.u8 (0), V.int IntKind.u8 (0),       V.int IntKind.u8 (0), V.int IntKind.u8 (0), V.int IntKind.u8 (0),       V.int IntKind.u8 (0), V.int IntKind.u8 (0), V.int IntKind.u8 (0),       V.int IntKind.u8 (0), V.int IntKind.u8 (0), V.int IntKind.u8 (0),       V.int IntKind.u8 (0), V.int IntKind.u8 (0), V.int IntKind.u8 (0),       V.int IntKind.u8 (0), V.int IntKind.u8 (0), V.int IntKind.u8 (0),       V.int IntKind.u8 (0), V.int IntKind.u8 (0), V.int IntKind.u8 (0),       V.int IntKind.u8 (0), V.int IntKind.u8 (0), V.int IntKind.u8 (0),       V.int IntKind.u8 (0), V.int IntKind.u8 (0), V.int IntKind.u8 (0),       V.int IntKind.u8 (0), V.int IntKind.u8 (0), V.int IntKind.u8 (0),       V.int IntKind.u8 (0), V.int IntKind.u8 (0), V.int IntKind.u8 (0),       V.int IntKind.u8 (0), V.int IntKind.u8 (0), V.int IntKind.u8 (0),       V.int IntKind.u8 (0), V.int IntKind.u8 (0), V.int IntKind.u8 (0),       V.int IntKind.u8 (0), V.int IntKind.u8 (0), V.int IntKind.u8 (0),       V.int IntKind.u8 (0), V.int IntKind.u8 (0), V.int IntKind.u8 (0),       V.int IntKind.u8 (0), V.int IntKind.u8 (0), V.int IntKind.u8 (0),       V.int IntKind.u8 (0), V.int IntKind.u8 (0), V.int IntKind.u8 (0),       V.int IntKind.u8 (0), V.int IntKind.u8 (0), V.int IntKind.u8 (0),       V.int IntKind.u8 (0), V.int IntKind.u8 (0), V.int IntKind.u8 (0),       V.int IntKind.u8 (0), V.int IntKind.u8 (0), V.int IntKind.u8 (0),       V.int IntKind.u8 (0), V.int IntKind.u8 (0), V.int IntKind.u8 (0),       V.int IntKind.u8 (0), V.int IntKind.u8 (0)]) ∧
  arrT Tryd.prog 134 = some (65, 5) ∧
  szT Tryd.prog 137 = 32 ∧
  aggT Tryd.prog 137 = some true ∧
  bytesT Tryd.prog 137 = 32 ∧
  zeroT Tryd.prog 137 = some   (V.agg     [V.int IntKind.u8 (0), V.int IntKind.u8 (0), V.int IntKind.u8 (0),       V.int IntKind.u8 (0), V.int IntKind.u8 (0), V.int IntKind.u8 (0),       V.int IntKind.u8 (0), V.int IntKind.u8 (0), V.int IntKind.u8 (0),       V.int IntKind.u8 (0), V.int IntKind.u8 (0), V.int IntKind.u8 (0),       V.int IntKind.u8 (0), V.int IntKind.u8 (0), V.int IntKind.u8 (0),       V.int IntKind.u8 (0), V.int IntKind.u8 (0), V.int IntKind.u8 (0),       V.int IntKind.u8 (0), V.int IntKind.u8 (0), V.int IntKind.u8 (0),       V.int IntKind.u8 (0), V.int IntKind.u8 (0), V.int IntKind.u8 (0),       V.int IntKind.u8 (0), V.int IntKind.u8 (0), V.int IntKind.u8 (0),       V.int IntKind.u8 (0), V.int IntKind.u8 (0), V.int IntKind.u8 (0),       V.int IntKind.u8 (0), V.int IntKind.u8 (0)]) ∧
  arrT Tryd.prog 137 = some (32, 5) ∧
  szT Tryd.prog 138 = 64 ∧
  aggT Tryd.prog 138 = some true ∧
  bytesT Tryd.prog 138 = 64 ∧
  zeroT Tryd.prog 138 = some   (V.agg     [V.int IntKind.u8 (0), V.int IntKind.u8 (0), V.int IntKind.u8 (0),       V.int IntKind.u8 (0), V.int IntKind.u8 (0), V.int IntKind.u8 (0),       V.int IntKind.u8 (0), V.int IntKind.u8 (0), V.int IntKind.u8 (0),       V.int IntKind.u8 (0), V.int IntKind.u8 (0), V.int IntKind.u8 (0),       V.int IntKind.u8 (0), V.int IntKind.u8 (0), V.int IntKind.u8 (0),       V.int IntKind.u8 (0), V.int IntKind.u8 (0), V.int IntKind.u8 (0),       V.int IntKind.u8 (0), V.int IntKind.u8 (0), V.int IntKind.u8 (0),       V.int IntKind.u8 (0), V.int IntKind.u8 (0), V.int IntKind.u8 (0),       V.int IntKind.u8 (0), V.int IntKind.u8 (0), V.int IntKind.u8 (0),       V.int IntKind.u8 (0), V.int IntKind.u8 (0), V.int IntKind.u8 (0),       V.int IntKind.u8 (0), V.int IntKind.u8 (0), V.int IntKind.u8 (0),       V.int IntKind.u8 (0), V.int IntKind.u8 (0), V.int IntKind.u8 (0),       V.int IntKind.u8 (0), V.int IntKind.u8 (0), V.int IntKind.u8 (0),       V.int IntKind.u8 (0), V.int IntKind.u8 (0), V.int IntKind.u8 (0),       V.int IntKind.u8 (0), V.int IntKind.u8 (0), V.int IntKind.u8 (0),       V.int IntKind.u8 (0), V.int IntKind.u8 (0), V.int IntKind.u8 (0),       V.int IntKind.u8 (0), V.int IntKind.u8 (0), V.int IntKind.u8 (0),       V.int IntKind.u8 (0), V.int IntKind.u8 (0), V.int IntKind.u8 (0),       V.int IntKind.u8 (0), V.int IntKind.u8 (0), V.int IntKind.u8 (0),       V.int IntKind.u8 (0), V.int IntKind.u8 (0), V.int IntKind.u8 (0),       V.int IntKind.u8 (0), V.int IntKind.u8 (0), V.int IntKind.u8 (0),       V.int IntKind.u8 (0)]) ∧
  arrT Tryd.prog 138 = some (64, 5) ∧
  szT Tryd.prog 155 = 6 ∧
  aggT Tryd.prog 155 = some true ∧
  bytesT Tryd.prog 155 = 96 ∧
  zeroT Tryd.prog 155 = some (V.agg [V.int IntKind.i64 (0), V.str [], V.nilS, V.int IntKind.i64 (0), V.str [], V.nilS]) ∧
  fldT Tryd.prog 155 0 = some (0, 70) ∧
  fldT Tryd.prog 155 1 = some (3, 70) ∧
  structT Tryd.prog 155 = true ∧
  szT Tryd.prog 157 = 2 ∧
  aggT Tryd.prog 157 = some true ∧
  bytesT Tryd.prog 157 = 48 ∧
  zeroT Tryd.prog 157 = some (V.agg [V.nilS, V.nilS]) ∧
  fldT Tryd.prog 157 0 = some (0, 41) ∧
  fldT Tryd.prog 157 1 = some (1, 41) ∧
  structT Tryd.prog 157 = true ∧
  hasT Tryd.prog 0 = true ∧
  concT Tryd.prog 0 = true ∧
  hasT Tryd.prog 2 = true ∧
  concT Tryd.prog 2 = true ∧
  hasT Tryd.prog 3 = true ∧
  concT Tryd.prog 3 = true ∧
  Tryd.prog.underlying 4 = some TypeDesc.bool ∧
  hasT Tryd.prog 4 = true ∧
  concT Tryd.prog 4 = true ∧
  hasT Tryd.prog 5 = true ∧
  concT Tryd.prog 5 = true ∧
  elemT Tryd.prog 9 = none ∧
  arrT Tryd.prog 9 = none ∧
  hasT Tryd.prog 9 = true ∧
  concT Tryd.prog 9 = true ∧
  Tryd.prog.underlying 20 = some (TypeDesc.interface { toList := [] }) ∧
  arrT Tryd.prog 22 = none ∧
  Tryd.prog.underlying 22 = some (TypeDesc.slice 3) ∧
  hasT Tryd.prog 22 = true ∧
  concT Tryd.prog 22 = true ∧
  arrT Tryd.prog 23 = none ∧
  Tryd.prog.underlying 23 = some (TypeDesc.slice 54) ∧
  hasT Tryd.prog 23 = true ∧
  concT Tryd.prog 23 = true ∧
  arrT Tryd.prog 24 = none ∧
  Tryd.prog.underlying 24 = some (TypeDesc.slice 22) ∧
  hasT Tryd.prog 24 = true ∧
  concT Tryd.prog 24 = true ∧
  hasT Tryd.prog 26 = true ∧
  concT Tryd.prog 26 = true ∧
  arrT Tryd.prog 29 = none ∧
  Tryd.prog.underlying 29 = some (TypeDesc.slice 55) ∧
  hasT Tryd.prog 29 = true ∧
  concT Tryd.prog 29 = true ∧
  hasT Tryd.prog 31 = true ∧
  concT Tryd.prog 31 = true ∧
  arrT Tryd.prog 33 = none ∧
  Tryd.prog.underlying 33 = some (TypeDesc.slice 64) ∧
  hasT Tryd.prog 33 = true ∧
  concT Tryd.prog 33 = true ∧
  hasT Tryd.prog 35 = true ∧
  concT Tryd.prog 35 = true ∧
  hasT Tryd.prog 36 = true ∧
  concT Tryd.prog 36 = true ∧
  hasT Tryd.prog 37 = true ∧
  concT Tryd.prog 37 = true ∧
  arrT Tryd.prog 41 = none ∧
  Tryd.prog.underlying 41 = some (TypeDesc.slice 70) ∧
  hasT Tryd.prog 41 = true ∧
  concT Tryd.prog 41 = true ∧
  arrT Tryd.prog 42 = none ∧
  Tryd.prog.underlying 42 = some (TypeDesc.slice 155) ∧
  hasT Tryd.prog 42 = true ∧
  concT Tryd.prog 42 = true ∧
  hasT Tryd.prog 44 = true ∧
  concT Tryd.prog 44 = true ∧
  hasT Tryd.prog 45 = true ∧
  concT Tryd.prog 45 = true ∧
  hasT Tryd.prog 49 = true ∧
  concT Tryd.prog 49 = true ∧
  hasT Tryd.prog 54 = true ∧
  concT Tryd.prog 54 = true ∧
  hasT Tryd.prog 55 = true ∧
  concT Tryd.prog 55 = true ∧
  hasT Tryd.prog 56 = true ∧
  concT Tryd.prog 56 = true ∧
  arrT Tryd.prog 62 = none ∧
  Tryd.prog.underlying 62 = some (TypeDesc.slice 67) ∧
  hasT Tryd.prog 62 = true ∧
  concT Tryd.prog 62 = true ∧
  hasT Tryd.prog 64 = true ∧
  concT Tryd.prog 64 = true ∧
  arrT Tryd.prog 65 = none ∧
  Tryd.prog.underlying 65 = some (TypeDesc.slice 157) ∧
  hasT Tryd.prog 65 = true ∧
  concT Tryd.prog 65 = true ∧
  hasT Tryd.prog 67 = true ∧
  concT Tryd.prog 67 = true ∧
  hasT Tryd.prog 70 = true ∧
  concT Tryd.prog 70 = true ∧
  hasT Tryd.prog 74 = true ∧
  concT Tryd.prog 74 = true ∧
  hasT Tryd.prog 80 = true ∧
  concT Tryd.prog 80 = true ∧
  hasT Tryd.prog 81 = true ∧
  concT Tryd.prog 81 = true ∧
  hasT Tryd.prog 84 = true ∧
  concT Tryd.prog 84 = true ∧
  hasT Tryd.prog 85 = true ∧
  concT Tryd.prog 85 = true ∧
  hasT Tryd.prog 88 = true ∧
  concT Tryd.prog 88 = true ∧
  hasT Tryd.prog 89 = true ∧
  concT Tryd.prog 89 = true ∧
  hasT Tryd.prog 92 = true ∧
  concT Tryd.prog 92 = true ∧
  arrT Tryd.prog 98 = none ∧
  Tryd.prog.underlying 98 = some (TypeDesc.slice 5) ∧
  hasT Tryd.prog 98 = true ∧
  concT Tryd.prog 98 = true ∧
  hasT Tryd.prog 99 = true ∧
  concT Tryd.prog 99 = true ∧
  hasT Tryd.prog 102 = true ∧
  concT Tryd.prog 102 = true ∧
  elemT Tryd.prog 104 = none ∧
  hasT Tryd.prog 104 = true ∧
  concT Tryd.prog 104 = true ∧
  arrT Tryd.prog 105 = none ∧
  Tryd.prog.underlying 105 = some (TypeDesc.slice 84) ∧
  hasT Tryd.prog 105 = true ∧
  concT Tryd.prog 105 = true ∧
  hasT Tryd.prog 106 = true ∧
  concT Tryd.prog 106 = true ∧
  hasT Tryd.prog 113 = true ∧
  concT Tryd.prog 113 = true ∧
  hasT Tryd.prog 114 = true ∧
  concT Tryd.prog 114 = true ∧
  hasT Tryd.prog 120 = true ∧
  concT Tryd.prog 120 = true ∧
  hasT Tryd.prog 121 = true ∧
  concT Tryd.prog 121 = true ∧
  hasT Tryd.prog 123 = true ∧
  concT Tryd.prog 123 = true ∧
  hasT Tryd.prog 124 = true ∧
  concT Tryd.prog 124 = true ∧
  hasT Tryd.prog 126 = true ∧
  concT Tryd.prog 126 = true ∧
  hasT Tryd.prog 129 = true ∧
  concT Tryd.prog 129 = true ∧
  hasT Tryd.prog 133 = true ∧
  concT Tryd.prog 133 = true ∧
  hasT Tryd.prog 134 = true ∧
  concT Tryd.prog 134 = true ∧
  hasT Tryd.prog 137 = true ∧
  concT Tryd.prog 137 = true ∧
  hasT Tryd.prog 138 = true ∧
  concT Tryd.prog 138 = true ∧
  hasT Tryd.prog 155 = true ∧
  concT Tryd.prog 155 = true ∧
  hasT Tryd.prog 157 = true ∧
  concT Tryd.prog 157 = true :=
  ⟨by kernel_rfl, by kernel_rfl, by kernel_rfl, by kernel_rfl, by kernel_rfl, by kernel_rfl, by kernel_rfl, by kernel_rfl, by kernel_rfl, by kernel_rfl, by kernel_rfl, by kernel_rfl, by kernel_rfl, by kernel_rfl, by kernel_rfl, by kernel_rfl, by kernel_rfl, by kernel_rfl, by kernel_rfl, by kernel_rfl, by kernel_rfl, by kernel_rfl, by kernel_rfl, by kernel_rfl, by kernel_rfl, by kernel_rfl, by kernel_rfl, by kernel_rfl, by kernel_rfl, by kernel_rfl, by kernel_rfl, by kernel_rfl, by kernel_rfl, by kernel_rfl, by kernel_rfl, by kernel_rfl, by kernel_rfl, by kernel_rfl, by kernel_rfl, by kernel_rfl, by kernel_rfl, by kernel_rfl, by kernel_rfl, by kernel_rfl, by kernel_rfl, by kernel_rfl, by kernel_rfl, by kernel_rfl, by kernel_rfl, by kernel_rfl, by kernel_rfl, by kernel_rfl, by kernel_rfl, by kernel_rfl, by kernel_rfl, by kernel_rfl, by kernel_rfl, by kernel_rfl, by kernel_rfl, by kernel_rfl, by kernel_rfl, by kernel_rfl, by kernel_rfl, by kernel_rfl, by kernel_rfl, by kernel_rfl, by kernel_rfl, by kernel_rfl, by kernel_rfl, by kernel_rfl, by kernel_rfl, by kernel_rfl, by kernel_rfl, by kernel_rfl, by kernel_rfl, by kernel_rfl, by kernel_rfl, by kernel_rfl, by kernel_rfl, by kernel_rfl, by kernel_rfl, by kernel_rfl, by kernel_rfl, by kernel_rfl, by kernel_rfl, by kernel_rfl, by kernel_rfl, by kernel_rfl, by kernel_rfl, by kernel_rfl, by kernel_rfl, by kernel_rfl, by kernel_rfl, by kernel_rfl, by kernel_rfl, by kernel_rfl, by kernel_rfl, by kernel_rfl, by kernel_rfl, by kernel_rfl, by kernel_rfl, by kernel_rfl, by kernel_rfl, by kernel_rfl, by kernel_rfl, by kernel_rfl, by kernel_rfl, by kernel_rfl, by kernel_rfl, by kernel_rfl, by kernel_rfl, by kernel_rfl, by kernel_rfl, by kernel_rfl, by kernel_rfl, by kernel_rfl, by kernel_rfl, by kernel_rfl, by kernel_rfl, by kernel_rfl, by kernel_rfl, by kernel_rfl, by kernel_rfl, by kernel_rfl, by kernel_rfl, by kernel_rfl, by kernel_rfl, by kernel_rfl, by kernel_rfl, by kernel_rfl, by kernel_rfl, by kernel_rfl, by kernel_rfl, by kernel_rfl, by kernel_rfl, by kernel_rfl, by kernel_rfl, by kernel_rfl, by kernel_rfl, by kernel_rfl, by kernel_rfl, by kernel_rfl, by kernel_rfl, by kernel_rfl, by kernel_rfl, by kernel_rfl, by kernel_rfl, by kernel_rfl, by kernel_rfl, by kernel_rfl, by kernel_rfl, by kernel_rfl, by kernel_rfl, by kernel_rfl, by kernel_rfl, by kernel_rfl, by kernel_rfl, by kernel_rfl, by kernel_rfl, by kernel_rfl, by kernel_rfl, by kernel_rfl, by kernel_rfl, by kernel_rfl, by kernel_rfl, by kernel_rfl, by kernel_rfl, by kernel_rfl, by kernel_rfl, by kernel_rfl, by kernel_rfl, by kernel_rfl, by kernel_rfl, by kernel_rfl, by kernel_rfl, by kernel_rfl, by kernel_rfl, by kernel_rfl, by kernel_rfl, by kernel_rfl, by kernel_rfl, by kernel_rfl, by kernel_rfl, by kernel_rfl, by kernel_rfl, by kernel_rfl, by kernel_rfl, by kernel_rfl, by kernel_rfl, by kernel_rfl, by kernel_rfl, by kernel_rfl, by kernel_rfl, by kernel_rfl, by kernel_rfl, by kernel_rfl, by kernel_rfl, by kernel_rfl, by kernel_rfl, by kernel_rfl, by kernel_rfl, by kernel_rfl, by kernel_rfl, by kernel_rfl, by kernel_rfl, by kernel_rfl, by kernel_rfl, by kernel_rfl, by kernel_rfl, by kernel_rfl, by kernel_rfl, by kernel_rfl, by kernel_rfl, by kernel_rfl, by kernel_rfl, by kernel_rfl, by kernel_rfl, by kernel_rfl, by kernel_rfl, by kernel_rfl, by kernel_rfl, by kernel_rfl, by kernel_rfl, by kernel_rfl, by kernel_rfl, by kernel_rfl, by kernel_rfl, by kernel_rfl, by kernel_rfl, by kernel_rfl, by kernel_rfl, by kernel_rfl, by kernel_rfl, by kernel_rfl, by kernel_rfl, by kernel_rfl, by kernel_rfl, by kernel_rfl, by kernel_rfl, by kernel_rfl, by kernel_rfl, by kernel_rfl, by kernel_rfl, by kernel_rfl, by kernel_rfl, by kernel_rfl, by kernel_rfl, by kernel_rfl, by kernel_rfl, by kernel_rfl, by kernel_rfl, by kernel_rfl, by kernel_rfl, by kernel_rfl, by kernel_rfl, by kernel_rfl, by kernel_rfl, by kernel_rfl, by kernel_rfl, by kernel_rfl, by kernel_rfl, by kernel_rfl, by kernel_rfl, by kernel_rfl, by kernel_rfl, by kernel_rfl, by kernel_rfl, by kernel_rfl, by kernel_rfl, by kernel_rfl, by kernel_rfl, by kernel_rfl, by kernel_rfl, by kernel_rfl, by kernel_rfl, by kernel_rfl, by kernel_rfl, by kernel_rfl, by kernel_rfl, by kernel_rfl, by kernel_rfl, by kernel_rfl, by kernel_rfl, by kernel_rfl, by kernel_rfl, by kernel_rfl, by kernel_rfl, by kernel_rfl, by kernel_rfl, by kernel_rfl, by kernel_rfl, by kernel_rfl, by kernel_rfl, by kernel_rfl, by kernel_rfl, by kernel_rfl, by kernel_rfl, by kernel_rfl, by kernel_rfl, by kernel_rfl, by kernel_rfl, by kernel_rfl, by kernel_rfl, by kernel_rfl, by kernel_rfl, by kernel_rfl, by kernel_rfl, by kernel_rfl, by kernel_rfl, by kernel_rfl, by kernel_rfl, by kernel_rfl, by kernel_rfl, by kernel_rfl, by kernel_rfl, by kernel_rfl, by kernel_rfl, by kernel_rfl, by kernel_rfl, by kernel_rfl, by kernel_rfl, by kernel_rfl, by kernel_rfl, by kernel_rfl, by kernel_rfl, by kernel_rfl, by kernel_rfl, by kernel_rfl, by kernel_rfl, by kernel_rfl, by kernel_rfl, by kernel_rfl, by kernel_rfl, by kernel_rfl, by kernel_rfl, by kernel_rfl, by kernel_rfl, by kernel_rfl, by kernel_rfl, by kernel_rfl, by kernel_rfl, by kernel_rfl, by kernel_rfl, by kernel_rfl, by kernel_rfl, by kernel_rfl, by kernel_rfl, by kernel_rfl, by kernel_rfl, by kernel_rfl, by kernel_rfl, by kernel_rfl, by kernel_rfl, by kernel_rfl, by kernel_rfl, by kernel_rfl, by kernel_rfl, by kernel_rfl, by kernel_rfl, by kernel_rfl, by kernel_rfl, by kernel_rfl, by kernel_rfl, by kernel_rfl, by kernel_rfl, by kernel_rfl, by kernel_rfl, by kernel_rfl, by kernel_rfl, by kernel_rfl, by kernel_rfl, by kernel_rfl, by kernel_rfl, by kernel_rfl, by kernel_rfl, by kernel_rfl, by kernel_rfl, by kernel_rfl, by kernel_rfl, by kernel_rfl, by kernel_rfl, by kernel_rfl, by kernel_rfl, by kernel_rfl, by kernel_rfl, by kernel_rfl, by kernel_rfl, by kernel_rfl, by kernel_rfl, by kernel_rfl, by kernel_rfl, by kernel_rfl, by kernel_rfl, by kernel_rfl, by kernel_rfl, by kernel_rfl, by kernel_rfl, by kernel_rfl, by kernel_rfl, by kernel_rfl, by kernel_rfl, by kernel_rfl, by kernel_rfl, by kernel_rfl, by kernel_rfl, by kernel_rfl, by kernel_rfl, by kernel_rfl, by kernel_rfl, by kernel_rfl, by kernel_rfl, by kernel_rfl, by kernel_rfl, by kernel_rfl, by kernel_rfl, by kernel_rfl, by kernel_rfl, by kernel_rfl, by kernel_rfl, by kernel_rfl, by kernel_rfl, by kernel_rfl, by kernel_rfl, by kernel_rfl, by kernel_rfl, by kernel_rfl, by kernel_rfl, by kernel_rfl, by kernel_rfl, by kernel_rfl, by kernel_rfl, by kernel_rfl, by kernel_rfl, by kernel_rfl, by kernel_rfl, by kernel_rfl, by kernel_rfl, by kernel_rfl, by kernel_rfl, by kernel_rfl, by kernel_rfl, by kernel_rfl, by kernel_rfl, by kernel_rfl, by kernel_rfl, by kernel_rfl, by kernel_rfl, by kernel_rfl, by kernel_rfl, by kernel_rfl, by kernel_rfl, by kernel_rfl, by kernel_rfl, by kernel_rfl, by kernel_rfl, by kernel_rfl, by kernel_rfl, by kernel_rfl, by kernel_rfl⟩
/-! ### Drawn regions -/
/-! ### Drawn regions -/
theorem d308_9 {H n} : regionInf (M308 H n).E (opsAt (sub [1, 1, 1, 1, 0, 1, 0, 0, 1, 0, 0] c308)) = some [Inf.mk false (some [⟨0, 42, 0⟩]) none false [6], Inf.mk false (some [⟨0, 42, 0⟩]) none false [33], Inf.mk false (some []) none false [1], Inf.mk false (some []) none false [35], Inf.mk false (some []) none false [7], Inf.mk false (some []) none false [36, 37], Inf.mk false (some []) none false [38], Inf.mk false (some []) none false [7], Inf.mk false (some []) none false [39, 40], Inf.mk true (some []) (some [⟨0, 42, 0⟩]) false [41], Inf.mk true (some []) none false [34, 42], Inf.mk false (some []) none false [6], Inf.mk true (some []) none false [44, 43]] := by kernel_rfl
theorem d308_10 {H n} : regionInf (M308 H n).E (opsAt (sub [1, 1, 1, 1, 1, 0] c308)) = some [Inf.mk false (some [⟨0, 48, 0⟩, ⟨0, 50, 0⟩, ⟨0, 48, 0⟩, ⟨0, 54, 0⟩, ⟨0, 50, 0⟩]) none false [6], Inf.mk false (some [⟨0, 48, 0⟩, ⟨0, 50, 0⟩, ⟨0, 48, 0⟩, ⟨0, 54, 0⟩, ⟨0, 50, 0⟩]) none false [45], Inf.mk false (some []) none false [], Inf.mk true (some []) (some [⟨0, 48, 0⟩]) false [47], Inf.mk false (some [⟨0, 48, 0⟩]) none false [5], Inf.mk true (some []) (some [⟨0, 50, 0⟩, ⟨0, 48, 0⟩]) false [48, 49], Inf.mk false (some [⟨0, 48, 0⟩, ⟨0, 50, 0⟩, ⟨0, 48, 0⟩]) none false [5], Inf.mk false (some []) none false [51], Inf.mk false (some []) none false [50, 52], Inf.mk true (some []) (some [⟨0, 54, 0⟩, ⟨0, 50, 0⟩]) false [53], Inf.mk true (some []) none false [46, 54], Inf.mk false (some []) none false [6], Inf.mk true (some []) none false [56, 55]] := by kernel_rfl
theorem d308_15 {H n} : regionInf (M308 H n).E (opsAt (sub [1, 1, 1, 1, 1, 1, 1, 0, 1, 0, 0, 1, 0, 0] c308)) = some [Inf.mk false (some [⟨0, 74, 0⟩, ⟨0, 76, 0⟩, ⟨0, 74, 0⟩]) none false [8], Inf.mk false (some [⟨0, 74, 0⟩, ⟨0, 76, 0⟩, ⟨0, 74, 0⟩]) none false [65], Inf.mk false (some []) none false [1], Inf.mk false (some []) none false [67], Inf.mk false (some []) none false [9], Inf.mk false (some []) none false [68, 69], Inf.mk false (some []) none false [70], Inf.mk false (some []) none false [71], Inf.mk false (some []) none false [], Inf.mk true (some []) (some [⟨0, 74, 0⟩]) false [73], Inf.mk false (some []) none false [72, 74], Inf.mk true (some []) (some [⟨0, 76, 0⟩, ⟨0, 74, 0⟩]) false [75], Inf.mk true (some []) none false [66, 76], Inf.mk false (some []) none false [8], Inf.mk true (some []) none false [78, 77]] := by kernel_rfl
theorem d308_16 {H n} : regionInf (M308 H n).E (opsAt (sub [1, 1, 1, 1, 1, 1, 1, 1, 0] c308)) = some [Inf.mk false (some [⟨0, 83, 0⟩, ⟨0, 85, 0⟩, ⟨0, 83, 0⟩]) none false [8], Inf.mk false (some [⟨0, 83, 0⟩, ⟨0, 85, 0⟩, ⟨0, 83, 0⟩]) none false [79], Inf.mk false (some [⟨0, 83, 0⟩]) none false [5], Inf.mk false (some []) none false [], Inf.mk true (some []) (some [⟨0, 83, 0⟩]) false [82], Inf.mk false (some []) none false [81, 83], Inf.mk true (some []) (some [⟨0, 85, 0⟩, ⟨0, 83, 0⟩]) false [84], Inf.mk true (some []) none false [80, 85], Inf.mk false (some []) none false [8], Inf.mk true (some []) none false [87, 86]] := by kernel_rfl
theorem d309_6 {H n} : regionInf (M309 H n).E (opsAt (sub [1, 1, 0, 1, 0, 0, 1, 0, 0, 0] c309)) = some [Inf.mk false (some [⟨0, 6, 0⟩, ⟨0, 7, 0⟩]) none false [2], Inf.mk false (some [⟨0, 6, 0⟩, ⟨0, 7, 0⟩]) none false [25], Inf.mk false (some [⟨0, 6, 0⟩, ⟨0, 7, 0⟩]) none false [5], Inf.mk false (some [⟨0, 6, 0⟩, ⟨0, 7, 0⟩]) none false [26, 27], Inf.mk false (some [⟨0, 6, 0⟩, ⟨0, 7, 0⟩]) none false [28], Inf.mk false (some [⟨0, 6, 0⟩, ⟨0, 7, 0⟩, ⟨0, 6, 0⟩]) none false [3], Inf.mk false (some [⟨0, 6, 0⟩, ⟨0, 7, 0⟩, ⟨0, 6, 0⟩]) none false [30], Inf.mk false (some [⟨0, 6, 0⟩, ⟨0, 7, 0⟩, ⟨0, 6, 0⟩]) none false [5], Inf.mk false (some [⟨0, 6, 0⟩, ⟨0, 7, 0⟩, ⟨0, 6, 0⟩]) none false [31, 32], Inf.mk false (some [⟨0, 6, 0⟩, ⟨0, 7, 0⟩, ⟨0, 6, 0⟩]) none false [33], Inf.mk true (some []) (some [⟨0, 6, 0⟩]) true [], Inf.mk true (some []) (some [⟨0, 7, 0⟩]) true [], Inf.mk true (some []) (some [⟨0, 6, 0⟩]) false [6, 29], Inf.mk true (some []) none false [7, 34]] := by kernel_rfl
theorem d309_12 {H n} : regionInf (M309 H n).E (opsAt (sub [1, 1, 0, 1, 0, 0, 1, 0, 0, 1, 1, 1, 0, 0, 1, 0, 0, 0] c309)) = some [Inf.mk false (some [⟨0, 9, 0⟩, ⟨0, 10, 0⟩]) none false [6], Inf.mk false (some [⟨0, 9, 0⟩, ⟨0, 10, 0⟩]) none false [63], Inf.mk false (some [⟨0, 9, 0⟩, ⟨0, 10, 0⟩]) none false [8], Inf.mk false (some [⟨0, 9, 0⟩, ⟨0, 10, 0⟩]) none false [64, 65], Inf.mk false (some [⟨0, 9, 0⟩, ⟨0, 10, 0⟩]) none false [66], Inf.mk false (some [⟨0, 9, 0⟩, ⟨0, 10, 0⟩, ⟨0, 9, 0⟩]) none false [7], Inf.mk false (some [⟨0, 9, 0⟩, ⟨0, 10, 0⟩, ⟨0, 9, 0⟩]) none false [68], Inf.mk false (some [⟨0, 9, 0⟩, ⟨0, 10, 0⟩, ⟨0, 9, 0⟩]) none false [8], Inf.mk false (some [⟨0, 9, 0⟩, ⟨0, 10, 0⟩, ⟨0, 9, 0⟩]) none false [69, 70], Inf.mk false (some [⟨0, 9, 0⟩, ⟨0, 10, 0⟩, ⟨0, 9, 0⟩]) none false [71], Inf.mk true (some []) (some [⟨0, 9, 0⟩]) true [], Inf.mk true (some []) (some [⟨0, 10, 0⟩]) true [], Inf.mk true (some []) (some [⟨0, 9, 0⟩]) false [9, 67], Inf.mk true (some []) none false [10, 72]] := by kernel_rfl
theorem d314_10 {H n} : regionInf (M314 H n).E (opsAt (sub [1, 1, 1, 1, 0, 1, 0, 0, 1, 0, 0, 0, 0] c314)) = some [Inf.mk false (some []) none false [1], Inf.mk false (some []) none false [10], Inf.mk false (some []) none false [25, 26], Inf.mk false (some []) none false [27], Inf.mk false (some []) none false [28], Inf.mk false (some []) none false [29], Inf.mk false (some []) none false [1, 30], Inf.mk false (some []) none false [10, 30], Inf.mk false (some []) none false [31, 32, 30], Inf.mk false (some []) none false [33, 30], Inf.mk false (some []) none false [3, 30], Inf.mk false (some []) none false [35, 30], Inf.mk false (some []) none false [36, 30], Inf.mk false (some []) none false [34, 37, 30], Inf.mk false (some []) none false [30, 38]] := by kernel_rfl
theorem d64_6 {H n} : regionInf (M64 H n).E (opsAt (sub [1, 1, 1, 0, 1, 0, 0, 1, 1, 0, 0, 1] c64)) = some [Inf.mk false (some [⟨0, 35, 0⟩]) none false [4], Inf.mk false (some [⟨0, 35, 0⟩]) none false [30], Inf.mk false (some []) none false [8], Inf.mk false (some []) none false [7], Inf.mk false (some []) none false [32, 33], Inf.mk true (some []) (some [⟨0, 35, 0⟩]) false [34], Inf.mk true (some []) none false [31, 35], Inf.mk false (some []) none false [4], Inf.mk true (some []) none false [37, 36]] := by kernel_rfl
theorem d64_8 {H n} : regionInf (M64 H n).E (opsAt (sub [1, 1, 1, 1, 0] c64)) = some [Inf.mk false (some [⟨0, 42, 0⟩, ⟨0, 45, 0⟩, ⟨0, 42, 0⟩, ⟨0, 50, 0⟩, ⟨0, 45, 0⟩]) none false [4], Inf.mk false (some [⟨0, 42, 0⟩, ⟨0, 45, 0⟩, ⟨0, 42, 0⟩, ⟨0, 50, 0⟩, ⟨0, 45, 0⟩]) none false [39], Inf.mk false (some []) none false [], Inf.mk true (some []) (some [⟨0, 42, 0⟩]) false [41], Inf.mk false (some [⟨0, 42, 0⟩]) none false [3], Inf.mk false (some [⟨0, 42, 0⟩]) none false [43], Inf.mk true (some []) (some [⟨0, 45, 0⟩, ⟨0, 42, 0⟩]) false [42, 44], Inf.mk false (some [⟨0, 42, 0⟩, ⟨0, 45, 0⟩, ⟨0, 42, 0⟩]) none false [3], Inf.mk false (some []) none false [46], Inf.mk false (some []) none false [47], Inf.mk false (some []) none false [45, 48], Inf.mk true (some []) (some [⟨0, 50, 0⟩, ⟨0, 45, 0⟩]) false [49], Inf.mk true (some []) none false [40, 50], Inf.mk false (some []) none false [4], Inf.mk true (some []) none false [52, 51]] := by kernel_rfl
theorem d64_13 {H n} : regionInf (M64 H n).E (opsAt (sub [1, 1, 1, 1, 1, 1, 0, 1, 0, 0, 1, 1, 0, 0, 1] c64)) = some [Inf.mk false (some [⟨0, 67, 0⟩]) none false [5], Inf.mk false (some [⟨0, 67, 0⟩]) none false [60], Inf.mk false (some []) none false [11], Inf.mk false (some []) none false [62], Inf.mk false (some []) none false [9], Inf.mk false (some []) none false [64], Inf.mk false (some []) none false [63, 65], Inf.mk true (some []) (some [⟨0, 67, 0⟩]) false [66], Inf.mk true (some []) none false [61, 67], Inf.mk false (some []) none false [5], Inf.mk true (some []) none false [69, 68]] := by kernel_rfl
theorem d64_15 {H n} : regionInf (M64 H n).E (opsAt (sub [1, 1, 1, 1, 1, 1, 1, 0] c64)) = some [Inf.mk false (some [⟨0, 78, 0⟩]) none false [5], Inf.mk false (some [⟨0, 78, 0⟩]) none false [71], Inf.mk false (some []) none false [3], Inf.mk false (some []) none false [73], Inf.mk false (some []) none false [9], Inf.mk false (some []) none false [75], Inf.mk false (some []) none false [74, 76], Inf.mk true (some []) (some [⟨0, 78, 0⟩]) false [77], Inf.mk true (some []) none false [72, 78], Inf.mk false (some []) none false [5], Inf.mk true (some []) none false [80, 79]] := by kernel_rfl
theorem d64_18 {H n} : regionInf (M64 H n).E (opsAt (sub [1, 1, 1, 1, 1, 1, 1, 1, 1, 1, 0] c64)) = some [Inf.mk false (some [⟨0, 91, 0⟩, ⟨0, 95, 0⟩]) none false [13], Inf.mk true (some []) (some [⟨0, 88, 0⟩]) true [87], Inf.mk true (some []) (some [⟨0, 88, 0⟩]) true [88], Inf.mk false (some [⟨0, 88, 0⟩, ⟨0, 88, 0⟩, ⟨0, 95, 0⟩]) none false [14], Inf.mk true (some []) (some [⟨0, 91, 0⟩]) true [90], Inf.mk true (some []) (some [⟨0, 91, 0⟩]) true [91], Inf.mk true (some []) (some [⟨0, 93, 0⟩]) true [89, 92], Inf.mk false (some [⟨0, 88, 0⟩, ⟨0, 88, 0⟩, ⟨0, 91, 0⟩, ⟨0, 91, 0⟩, ⟨0, 93, 0⟩]) none false [13], Inf.mk true (some []) (some [⟨0, 95, 0⟩]) true [94], Inf.mk true (some []) (some [⟨0, 95, 0⟩]) true [95], Inf.mk true (some []) (some [⟨0, 97, 0⟩]) true [96], Inf.mk false (some [⟨0, 88, 0⟩, ⟨0, 88, 0⟩, ⟨0, 91, 0⟩, ⟨0, 91, 0⟩, ⟨0, 93, 0⟩, ⟨0, 95, 0⟩, ⟨0, 95, 0⟩, ⟨0, 97, 0⟩]) none false [12], Inf.mk true (some []) (some [⟨0, 99, 0⟩, ⟨0, 97, 0⟩]) true [97, 98], Inf.mk true (some []) (some [⟨0, 99, 0⟩]) true [99], Inf.mk false (some []) none false [93, 100], Inf.mk true (some []) none false [101], Inf.mk false (some []) none false [6], Inf.mk true (some []) none false [103, 102]] := by kernel_rfl
theorem d320_2 {H n} : regionInf (M320 H n).E (opsAt (sub [1, 1, 0] c320)) = some [Inf.mk false (some []) none false [5], Inf.mk false (some []) none false [], Inf.mk true (some []) (some [⟨0, 16, 0⟩]) false [14, 15], Inf.mk true (some []) (some [⟨0, 16, 0⟩]) false [16], Inf.mk true (some []) (some [⟨0, 18, 0⟩]) false [17], Inf.mk false (some [⟨0, 16, 0⟩, ⟨0, 16, 0⟩, ⟨0, 18, 0⟩]) none false [2], Inf.mk false (some [⟨0, 16, 0⟩, ⟨0, 16, 0⟩, ⟨0, 18, 0⟩]) none false [19], Inf.mk false (some [⟨0, 18, 0⟩]) none false [20], Inf.mk true (some []) none false [18, 21], Inf.mk true (some []) none false [22]] := by kernel_rfl
theorem d329_4 {H n} : regionInf (M329 H n).E (opsAt (sub [1, 0, 1, 0, 0, 1, 0, 0, 0, 0] c329)) = some [Inf.mk false (some []) none false [0], Inf.mk false (some []) none false [5], Inf.mk false (some []) none false [20, 21], Inf.mk false (some []) none false [22], Inf.mk false (some []) none false [23], Inf.mk false (some []) none false [1], Inf.mk false (some []) none false [5], Inf.mk false (some []) none false [25, 26], Inf.mk false (some []) none false [27], Inf.mk false (some []) none false [28], Inf.mk false (some []) none false [24, 29]] := by kernel_rfl
theorem d329_5 {H n} : regionInf (M329 H n).E (opsAt (sub [1, 0, 1, 0, 0, 1, 0, 0, 0, 1, 0, 0, 0] c329)) = some [Inf.mk false (some []) none false [0], Inf.mk false (some []) none false [5], Inf.mk false (some []) none false [31, 32], Inf.mk false (some []) none false [33], Inf.mk false (some []) none false [34], Inf.mk false (some []) none false [1], Inf.mk false (some []) none false [5], Inf.mk false (some []) none false [36, 37], Inf.mk false (some []) none false [38], Inf.mk false (some []) none false [39], Inf.mk false (some []) none false [35, 40]] := by kernel_rfl
theorem d329_8 {H n} : regionInf (M329 H n).E (opsAt (sub [1, 0, 1, 0, 0, 1, 0, 0, 1, 0, 0] c329)) = some [Inf.mk false (some []) none false [0], Inf.mk false (some []) none false [5], Inf.mk false (some []) none false [42, 43], Inf.mk false (some []) none false [44], Inf.mk false (some []) none false [45], Inf.mk false (some []) none false [1], Inf.mk false (some []) none false [5], Inf.mk false (some []) none false [47, 48], Inf.mk false (some []) none false [49], Inf.mk false (some []) none false [50], Inf.mk false (some []) none false [46, 51], Inf.mk true (some []) none false [52]] := by kernel_rfl
theorem d329_11 {H n} : regionInf (M329 H n).E (opsAt (sub [1, 0, 1, 0, 0, 1, 0, 0, 1, 1, 0] c329)) = some [Inf.mk false (some []) none false [0], Inf.mk false (some []) none false [5], Inf.mk false (some []) none false [56, 57], Inf.mk false (some []) none false [58], Inf.mk false (some []) none false [59], Inf.mk false (some []) none false [1], Inf.mk false (some []) none false [5], Inf.mk false (some []) none false [61, 62], Inf.mk false (some []) none false [63], Inf.mk false (some []) none false [64], Inf.mk false (some []) none false [60, 65], Inf.mk true (some []) none false [66]] := by kernel_rfl
theorem d341_3 {H n} : regionInf (M341 H n).E (opsAt (sub [1, 1, 1, 0] c341)) = some [Inf.mk false (some [⟨0, 23, 0⟩]) none false [1], Inf.mk false (some [⟨0, 23, 0⟩]) none false [12], Inf.mk false (some [⟨0, 23, 0⟩]) none false [5], Inf.mk true (some []) (some [⟨0, 15, 0⟩]) true [13, 14], Inf.mk true (some []) (some [⟨0, 15, 0⟩]) true [15], Inf.mk true (some []) (some [⟨0, 17, 0⟩]) true [16], Inf.mk false (some [⟨0, 15, 0⟩, ⟨0, 15, 0⟩, ⟨0, 17, 0⟩, ⟨0, 23, 0⟩]) none false [2], Inf.mk false (some [⟨0, 15, 0⟩, ⟨0, 15, 0⟩, ⟨0, 17, 0⟩, ⟨0, 23, 0⟩]) none false [18], Inf.mk false (some [⟨0, 17, 0⟩, ⟨0, 23, 0⟩]) none false [19], Inf.mk true (some []) (some [⟨0, 21, 0⟩, ⟨0, 17, 0⟩]) true [17, 20], Inf.mk false (some [⟨0, 15, 0⟩, ⟨0, 15, 0⟩, ⟨0, 17, 0⟩, ⟨0, 21, 0⟩, ⟨0, 17, 0⟩]) none false [5], Inf.mk true (some []) (some [⟨0, 23, 0⟩]) true [22], Inf.mk true (some []) (some [⟨0, 23, 0⟩]) false [23], Inf.mk true (some []) (some [⟨0, 25, 0⟩]) false [24], Inf.mk false (some [⟨0, 15, 0⟩, ⟨0, 15, 0⟩, ⟨0, 17, 0⟩, ⟨0, 21, 0⟩, ⟨0, 17, 0⟩, ⟨0, 23, 0⟩, ⟨0, 23, 0⟩, ⟨0, 25, 0⟩]) none false [6], Inf.mk true (some []) none false [25, 26], Inf.mk true (some []) none false [27], Inf.mk false (some []) none false [21, 28], Inf.mk true (some []) none false [4, 29]] := by kernel_rfl
theorem d35_6 {H n} : regionInf (M35 H n).E (opsAt (sub [1, 1, 0, 1, 0, 0, 1, 0, 0, 0] c35)) = some [Inf.mk false (some []) none false [2], Inf.mk false (some []) none false [25], Inf.mk false (some []) none false [5], Inf.mk false (some []) none false [26, 27], Inf.mk false (some []) none false [28], Inf.mk false (some []) none false [29], Inf.mk false (some []) none false [30], Inf.mk false (some []) none false [2, 31], Inf.mk false (some []) none false [32, 31], Inf.mk false (some []) none false [5, 31], Inf.mk false (some []) none false [33, 34, 31], Inf.mk false (some []) none false [35, 31], Inf.mk false (some []) none false [1, 31], Inf.mk false (some []) none false [36, 37, 31], Inf.mk false (some []) none false [31, 38], Inf.mk false (some []) none false [39], Inf.mk false (some []) none false [5, 40], Inf.mk false (some []) none false [41, 40], Inf.mk false (some []) none false [42, 40], Inf.mk false (some []) none false [2, 43], Inf.mk false (some []) none false [44, 43], Inf.mk false (some []) none false [5, 43], Inf.mk false (some []) none false [46, 43], Inf.mk false (some []) none false [45, 47, 43], Inf.mk false (some []) none false [48, 43], Inf.mk false (some []) none false [2, 43], Inf.mk false (some []) none false [50, 43], Inf.mk false (some []) none false [5, 43], Inf.mk false (some []) none false [51, 52, 43], Inf.mk false (some []) none false [53, 43], Inf.mk false (some []) none false [49, 54, 43], Inf.mk false (some []) none false [43, 55, 40], Inf.mk false (some []) none false [40, 56]] := by kernel_rfl
end Go.Vi
