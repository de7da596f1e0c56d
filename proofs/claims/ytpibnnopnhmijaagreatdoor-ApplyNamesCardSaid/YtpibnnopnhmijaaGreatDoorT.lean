/-
  THE FUNCTIONS' FRAMES AND THE TYPES' FACTS, written by a program of mine (gen.py) off Lean's print of the loaded program.
-/
import Derived.Test.YtpibnnopnhmijaaGreatDoorVD
import Derived.Test.YtpibnnopnhmijaaGreatDoorProg
import Derived.KernelRfl
set_option linter.unusedSimpArgs false
set_option linter.unusedVariables false
set_option maxRecDepth 100000
namespace Go.Vi
open Go Go.Proofs
def h0 : FuncId → Hint
  | 2 => { keep := [], cnd := [], frz := [], pro := [], imp := [] }
  | 3 => { keep := [0, 1, 4, 5, 6, 7, 8, 16], cnd := [16], frz := [5, 6, 7, 8], pro := [], imp := [] }
  | 4 => { keep := [0, 1, 4, 5, 6, 7, 8, 16], cnd := [16], frz := [5, 6, 7, 8], pro := [], imp := [] }
  | 5 => { keep := [0, 1, 2, 6, 7, 8, 9, 10, 11, 12, 13, 14, 15, 16, 24], cnd := [24], frz := [7, 8, 9, 10, 11, 12, 13, 14, 15, 16], pro := [], imp := [] }
  | 6 => { keep := [0, 1, 4, 5, 7, 8, 9, 10, 11, 18], cnd := [11, 18], frz := [], pro := [], imp := [] }
  | 7 => { keep := [0, 1, 2, 3, 4, 5, 6, 7, 8, 9], cnd := [], frz := [3, 4, 5, 6, 7, 8, 9], pro := [], imp := [] }
  | 8 => { keep := [0, 1, 4, 5, 6, 7, 8, 9, 11, 15, 20, 25, 26, 27, 28, 35, 38], cnd := [15, 20, 28, 35, 38], frz := [8], pro := [9], imp := [] }
  | 9 => { keep := [0, 1, 4, 5, 6, 7, 8, 9, 10, 14, 19, 27, 38, 44], cnd := [14, 19, 27, 38, 44], frz := [9, 10], pro := [], imp := [] }
  | 10 => { keep := [0, 1, 2, 6, 7, 8, 9, 14, 15, 16, 17, 18, 30], cnd := [14, 18, 30], frz := [7], pro := [], imp := [] }
  | 11 => { keep := [0, 2, 3, 4, 5, 6, 7, 8, 11, 12, 22], cnd := [22], frz := [6, 7, 8], pro := [], imp := [] }
  | 12 => { keep := [0, 2], cnd := [], frz := [], pro := [], imp := [] }
  | 13 => { keep := [0, 1, 2, 3, 4], cnd := [], frz := [2, 3], pro := [], imp := [] }
  | 14 => { keep := [0, 1, 4, 5, 10, 12, 13, 14, 24], cnd := [10, 14, 24], frz := [5], pro := [], imp := [] }
  | 15 => { keep := [0, 1, 4, 5, 7, 10, 11, 12, 13, 18], cnd := [13, 18], frz := [5], pro := [], imp := [] }
  | 16 => { keep := [0, 1, 4, 5, 6, 7, 8, 10, 11, 12, 14, 16, 20, 25, 27, 28, 29, 30, 41, 51, 52, 53, 54, 65, 78], cnd := [20, 25, 30, 41, 54, 65, 78], frz := [11, 15, 16], pro := [8], imp := [] }
  | 17 => { keep := [0, 1, 4, 5, 6, 7, 8, 9, 10, 11, 12, 14, 18, 23, 29, 43, 58, 72, 91], cnd := [18, 23, 29, 43, 58, 72, 91], frz := [9, 10, 12, 13, 14], pro := [], imp := [] }
  | 18 => { keep := [0, 1, 4], cnd := [], frz := [], pro := [], imp := [] }
  | 19 => { keep := [0, 1, 4, 5, 6, 14, 18, 23], cnd := [14, 23], frz := [6], pro := [], imp := [48] }
  | 20 => { keep := [0, 1, 4, 5, 13], cnd := [13], frz := [], pro := [], imp := [] }
  | 21 => { keep := [0, 1, 4, 5, 6, 7, 8, 9, 10, 11, 16, 23, 25, 26, 27, 28], cnd := [16, 23, 28], frz := [9, 10, 12], pro := [8], imp := [53] }
  | 22 => { keep := [0, 1, 4, 5, 6, 7, 8, 9, 10, 14, 21, 28], cnd := [14, 21, 28], frz := [9, 10, 51], pro := [], imp := [] }
  | 23 => { keep := [0, 1, 4], cnd := [], frz := [], pro := [], imp := [] }
  | 24 => { keep := [0, 2, 3, 4, 5, 6, 8, 9, 32], cnd := [32], frz := [5, 6], pro := [], imp := [] }
  | 25 => { keep := [0, 2, 3, 4, 8, 15], cnd := [8, 15], frz := [4], pro := [], imp := [] }
  | 26 => { keep := [0, 1, 4], cnd := [], frz := [], pro := [], imp := [] }
  | 27 => { keep := [0, 1, 4, 5, 6, 7, 11, 16], cnd := [11, 16], frz := [], pro := [], imp := [] }
  | 28 => { keep := [0, 2], cnd := [], frz := [], pro := [], imp := [] }
  | 29 => { keep := [0, 2], cnd := [], frz := [], pro := [], imp := [] }
  | 30 => { keep := [0, 2, 3, 4, 5, 6, 9, 10, 20], cnd := [20], frz := [6], pro := [], imp := [] }
  | 31 => { keep := [0, 1, 4], cnd := [], frz := [], pro := [], imp := [] }
  | 32 => { keep := [0, 2], cnd := [], frz := [], pro := [], imp := [] }
  | 33 => { keep := [0, 2], cnd := [], frz := [], pro := [], imp := [] }
  | 34 => { keep := [0, 1, 4, 5, 9, 17], cnd := [9, 17], frz := [5], pro := [], imp := [] }
  | 35 => { keep := [0, 2], cnd := [], frz := [], pro := [], imp := [] }
  | 36 => { keep := [0, 1, 2], cnd := [], frz := [1], pro := [], imp := [] }
  | 37 => { keep := [0, 1, 2, 5], cnd := [5], frz := [1], pro := [], imp := [] }
  | 38 => { keep := [0, 1, 4, 5, 6, 7, 8, 12, 19, 23, 36, 42], cnd := [12, 19, 23, 36, 42], frz := [5, 6, 7], pro := [], imp := [] }
  | 39 => { keep := [0, 2, 3, 5, 6, 7, 8, 11, 13, 14, 15, 16, 26, 30, 38, 44], cnd := [11, 16, 26, 30, 38, 44], frz := [7], pro := [], imp := [] }
  | 40 => { keep := [0, 1, 4, 5, 6, 7, 8, 22], cnd := [22], frz := [6, 7, 8], pro := [], imp := [] }
  | 41 => { keep := [0, 1, 3, 4, 5, 6, 11], cnd := [11], frz := [3, 6], pro := [], imp := [] }
  | 42 => { keep := [0, 2, 3, 4, 8, 9, 10], cnd := [10], frz := [4], pro := [], imp := [] }
  | 43 => { keep := [0, 2, 3, 5, 6, 9, 13, 22, 35, 43, 56], cnd := [9, 13, 22, 35, 43, 56], frz := [3, 4, 5], pro := [], imp := [] }
  | 44 => { keep := [0, 1, 2, 3, 8, 9, 10, 11, 26], cnd := [26], frz := [10, 11], pro := [], imp := [] }
  | 45 => { keep := [0, 1, 4, 5, 6, 10, 19], cnd := [10, 19], frz := [6], pro := [], imp := [] }
  | 46 => { keep := [0, 1, 2, 6, 7, 8, 9, 14, 15, 16, 17, 18, 30], cnd := [14, 18, 30], frz := [7], pro := [], imp := [] }
  | 47 => { keep := [0, 1, 2, 3, 4], cnd := [], frz := [2, 3], pro := [], imp := [] }
  | 48 => { keep := [0, 1, 2, 6], cnd := [], frz := [], pro := [], imp := [77] }
  | 49 => { keep := [0, 1, 2, 6, 7, 8, 9, 10, 11, 12, 13, 18, 22, 35, 41, 71, 95, 96, 100, 132], cnd := [18, 22, 35, 41, 71, 95, 96, 100, 132], frz := [2, 8, 10, 11, 12, 13], pro := [], imp := [] }
  | 50 => { keep := [0, 2, 3, 4, 18, 29], cnd := [18, 29], frz := [], pro := [], imp := [] }
  | 51 => { keep := [0, 2], cnd := [], frz := [], pro := [], imp := [] }
  | 52 => { keep := [0, 1, 4, 5, 7, 8, 9, 10, 11, 12, 13, 22], cnd := [13, 22], frz := [8, 9], pro := [5], imp := [] }
  | 53 => { keep := [0, 2, 3, 5, 7, 8, 9, 10], cnd := [10], frz := [], pro := [], imp := [] }
  | 54 => { keep := [0, 2, 5, 8], cnd := [5, 8], frz := [], pro := [], imp := [] }
  | 55 => { keep := [0, 2, 4], cnd := [4], frz := [], pro := [], imp := [] }
  | 56 => { keep := [0, 1, 4, 5, 6, 7, 8, 9, 14, 22, 30], cnd := [14, 22, 30], frz := [6, 8, 9], pro := [], imp := [] }
  | 57 => { keep := [0, 1, 4, 5, 6, 7, 17, 30, 41, 54, 68, 74, 79], cnd := [17, 30, 41, 54, 68, 74, 79], frz := [5], pro := [], imp := [] }
  | 58 => { keep := [0, 2, 3, 4, 5, 12], cnd := [12], frz := [5], pro := [], imp := [] }
  | 59 => { keep := [0, 1, 2], cnd := [], frz := [1], pro := [], imp := [] }
  | 60 => { keep := [0, 2, 3, 4, 22, 26, 38, 48], cnd := [22, 26, 38, 48], frz := [4], pro := [], imp := [] }
  | 61 => { keep := [0, 1, 3, 4, 5, 6, 8, 9, 13, 16, 18, 19, 28], cnd := [13, 16, 28], frz := [3], pro := [], imp := [] }
  | 62 => { keep := [0, 1, 2], cnd := [], frz := [1], pro := [], imp := [] }
  | 63 => { keep := [0, 1, 4, 5, 7, 8, 9, 16], cnd := [9, 16], frz := [], pro := [], imp := [] }
  | 64 => { keep := [0, 1, 4, 5, 6, 13, 15, 19], cnd := [13, 15, 19], frz := [5, 6], pro := [], imp := [] }
  | 65 => { keep := [0, 1, 4, 5, 6, 10, 25], cnd := [10, 25], frz := [5, 6], pro := [], imp := [] }
  | 66 => { keep := [0, 1, 2, 4, 5, 6, 7, 8, 9, 19, 22, 23, 27], cnd := [9, 19, 27], frz := [], pro := [], imp := [] }
  | 67 => { keep := [0, 1, 2], cnd := [], frz := [1], pro := [], imp := [] }
  | 68 => { keep := [0, 1, 2, 5, 11], cnd := [5, 11], frz := [1], pro := [], imp := [] }
  | 69 => { keep := [0, 1, 2, 4, 5, 9, 13], cnd := [5, 9, 13], frz := [2, 5, 9, 13], pro := [], imp := [] }
  | 70 => { keep := [0, 1, 2, 6, 7, 9, 10, 11, 12, 13, 14, 15, 16, 17, 18, 19, 24, 31, 58], cnd := [19, 24, 31, 58], frz := [10, 11, 12, 13, 14, 15], pro := [], imp := [] }
  | 71 => { keep := [0, 1, 4, 5, 7, 8, 9, 16], cnd := [9, 16], frz := [], pro := [], imp := [] }
  | 72 => { keep := [0, 1, 2, 3], cnd := [], frz := [2], pro := [], imp := [] }
  | 73 => { keep := [0, 2, 4], cnd := [4], frz := [], pro := [], imp := [] }
  | 74 => { keep := [0, 2, 3, 31, 35, 72], cnd := [31, 35, 72], frz := [3], pro := [], imp := [] }
  | 75 => { keep := [0, 1, 4, 7, 10, 13], cnd := [7, 10, 13], frz := [], pro := [], imp := [] }
  | 76 => { keep := [0, 1, 2, 6, 7, 8, 9, 10, 11, 12, 13, 14, 15, 16, 17, 26, 34, 42, 73], cnd := [26, 34, 42, 73], frz := [8, 10, 12, 13, 14, 15, 16, 17], pro := [], imp := [] }
  | 77 => { keep := [0, 1, 2, 6, 7, 8, 9, 14, 15, 16, 17, 18, 30], cnd := [14, 18, 30], frz := [7], pro := [], imp := [78] }
  | 78 => { keep := [0, 1, 2, 4, 5, 6, 7, 8, 9, 10, 11, 12, 17, 20, 59], cnd := [17, 20, 59], frz := [4, 5, 7, 8, 9, 11], pro := [], imp := [48] }
  | 79 => { keep := [0, 1, 4], cnd := [], frz := [], pro := [], imp := [] }
  | 80 => { keep := [0, 1, 4], cnd := [], frz := [], pro := [], imp := [] }
  | 81 => { keep := [0, 1, 2, 4, 5, 10, 18, 20, 21, 27, 44, 49], cnd := [5, 10, 18, 21, 27, 44], frz := [1, 5, 10, 21, 27, 44, 49], pro := [], imp := [] }
  | 82 => { keep := [0, 2], cnd := [], frz := [], pro := [], imp := [] }
  | 83 => { keep := [0, 1, 2, 3, 4, 5, 6, 9], cnd := [9], frz := [2], pro := [], imp := [] }
  | 84 => { keep := [0, 1, 4, 7, 10], cnd := [7, 10], frz := [], pro := [], imp := [] }
  | 85 => { keep := [0, 2, 3, 4, 5, 6, 8, 9, 10, 30, 39, 44, 47, 48, 49, 50, 56, 66], cnd := [30, 39, 44, 50, 56, 66], frz := [0, 4, 5, 8], pro := [], imp := [] }
  | 86 => { keep := [0, 1, 2, 3, 4, 10, 11, 12, 19, 26, 34], cnd := [12, 19, 26, 34], frz := [12, 19, 26, 34], pro := [], imp := [] }
  | 87 => { keep := [0, 2, 3, 5, 6, 7, 8, 9, 25], cnd := [9, 25], frz := [], pro := [], imp := [] }
  | 88 => { keep := [0, 1, 2, 3], cnd := [], frz := [], pro := [], imp := [89] }
  | 89 => { keep := [0, 1, 2, 4, 6, 7, 8, 9, 10, 23], cnd := [10, 23], frz := [], pro := [], imp := [89] }
  | 90 => { keep := [0, 2, 3, 4, 5, 6, 7, 8, 12, 46], cnd := [12, 46], frz := [6, 7, 8], pro := [], imp := [] }
  | 91 => { keep := [0, 1, 4, 5, 9, 36], cnd := [9, 36], frz := [5], pro := [], imp := [] }
  | 92 => { keep := [0, 1, 2, 4, 5, 10, 15], cnd := [5, 10, 15], frz := [1, 5, 10, 15], pro := [], imp := [] }
  | 93 => { keep := [0, 1, 4, 5, 9, 17], cnd := [9, 17], frz := [5], pro := [], imp := [] }
  | 94 => { keep := [0, 1, 2], cnd := [], frz := [1], pro := [], imp := [] }
  | 95 => { keep := [0, 2, 3, 4, 7, 8], cnd := [], frz := [], pro := [], imp := [110] }
  | 96 => { keep := [0, 1, 2], cnd := [], frz := [1], pro := [], imp := [] }
  | 97 => { keep := [0, 1, 4, 5, 6, 7, 8, 9, 10, 11, 12, 13, 16, 24, 31, 36, 59, 64, 73, 93, 107, 114, 132, 139], cnd := [16, 24, 31, 36, 59, 64, 73, 93, 107, 114, 132, 139], frz := [5, 6, 7, 9, 10, 11, 12, 13, 16, 24, 31, 36], pro := [], imp := [] }
  | 98 => { keep := [0, 1, 4], cnd := [], frz := [], pro := [], imp := [] }
  | 99 => { keep := [0, 1, 4], cnd := [], frz := [], pro := [], imp := [] }
  | 100 => { keep := [0, 2], cnd := [], frz := [], pro := [], imp := [] }
  | 101 => { keep := [0, 2, 3, 4, 21], cnd := [21], frz := [3, 4], pro := [], imp := [] }
  | 102 => { keep := [0, 1, 4, 5, 7, 8, 9, 16], cnd := [9, 16], frz := [5], pro := [], imp := [] }
  | 103 => { keep := [0, 1, 4, 5, 6, 7, 9, 11, 17, 23, 34], cnd := [11, 17, 23, 34], frz := [6, 7, 8], pro := [], imp := [] }
  | 104 => { keep := [0, 1, 2, 6, 7, 8, 9, 10, 11, 13, 16, 17, 21, 38, 41, 52, 62, 69], cnd := [13, 17, 21, 38, 41, 52, 62, 69], frz := [0, 2, 8, 9, 10, 17, 21], pro := [], imp := [] }
  | 105 => { keep := [0, 1, 4], cnd := [], frz := [], pro := [], imp := [] }
  | 106 => { keep := [0, 1, 4], cnd := [], frz := [], pro := [], imp := [] }
  | 107 => { keep := [0, 1, 2, 6], cnd := [], frz := [], pro := [], imp := [] }
  | 108 => { keep := [0, 1, 2, 6], cnd := [], frz := [], pro := [], imp := [] }
  | 109 => { keep := [0, 1, 2, 16, 18, 19, 25, 30, 35, 40, 47], cnd := [16, 19, 25, 30, 35, 47], frz := [1, 19, 25, 30, 35, 40, 47], pro := [], imp := [] }
  | 110 => { keep := [0], cnd := [], frz := [], pro := [], imp := [] }
  | 111 => { keep := [0, 1, 4], cnd := [], frz := [], pro := [], imp := [] }
  | 113 => { keep := [0, 2], cnd := [], frz := [], pro := [], imp := [] }
  | 114 => { keep := [0, 1, 4, 5, 6, 7, 8, 9, 10, 20, 39, 44, 77], cnd := [20, 39, 44, 77], frz := [5, 6, 7, 8, 9, 10], pro := [], imp := [] }
  | 115 => { keep := [0, 1, 4], cnd := [], frz := [], pro := [], imp := [] }
  | 116 => { keep := [0, 1, 4], cnd := [], frz := [], pro := [], imp := [] }
  | 117 => { keep := [0, 1, 4, 5], cnd := [], frz := [], pro := [], imp := [] }
  | 118 => { keep := [0, 2, 4], cnd := [4], frz := [], pro := [], imp := [] }
  | 119 => { keep := [0, 2, 3], cnd := [], frz := [3], pro := [], imp := [] }
  | 120 => { keep := [0, 1, 4, 5, 6, 7, 8, 9, 10, 11, 12, 13, 14, 15, 16, 20, 99, 139, 161], cnd := [20, 99, 139, 161], frz := [1, 4, 5, 6, 7, 8, 9, 10, 11, 12, 13, 14, 15, 16], pro := [], imp := [] }
  | 121 => { keep := [0, 1, 2, 3, 4, 10, 11, 12, 13, 14, 15, 16, 17, 18, 28, 30, 34, 46, 68, 89, 94], cnd := [28, 30, 34, 46, 68, 89, 94], frz := [1, 13, 14, 15, 16, 17, 18], pro := [], imp := [] }
  | 122 => { keep := [0, 1, 2, 6, 7, 8, 9, 10, 11, 12, 13, 15, 16, 17, 19, 25, 32, 37, 40, 52, 64, 77, 83, 85, 90, 92, 99, 100, 101, 102, 106, 112, 121, 137, 141, 159, 169], cnd := [19, 25, 32, 37, 40, 52, 64, 77, 83, 90, 92, 102, 106, 112, 121, 137, 141, 159, 169], frz := [0, 1, 2, 8, 9, 10, 12, 15, 16, 25, 32, 40, 52, 64, 90, 92, 106, 112, 121], pro := [], imp := [] }
  | 123 => { keep := [0, 2, 3, 6], cnd := [6], frz := [], pro := [], imp := [] }
  | 124 => { keep := [0, 2], cnd := [], frz := [], pro := [], imp := [] }
  | 125 => { keep := [0, 2, 3, 7, 19], cnd := [7, 19], frz := [3], pro := [], imp := [] }
  | 126 => { keep := [0, 2, 3, 5, 12, 18, 25], cnd := [5, 12, 18, 25], frz := [0, 3], pro := [], imp := [] }
  | 127 => { keep := [0, 2, 3, 7, 21], cnd := [7, 21], frz := [3], pro := [], imp := [] }
  | 128 => { keep := [0, 1, 4, 5, 19, 23, 30], cnd := [19, 23, 30], frz := [5], pro := [], imp := [] }
  | 130 => { keep := [0, 2, 3, 4, 5, 6, 7, 8, 12, 25, 30], cnd := [12, 25, 30], frz := [5, 7, 8], pro := [], imp := [] }
  | 131 => { keep := [0, 2, 3, 18, 25, 32], cnd := [3, 18, 25, 32], frz := [3, 18, 25, 32], pro := [], imp := [] }
  | 132 => { keep := [0, 1, 2, 6, 7, 8, 10, 11, 12, 19], cnd := [12, 19], frz := [8], pro := [], imp := [] }
  | 133 => { keep := [0, 1, 4, 5, 9], cnd := [9], frz := [], pro := [], imp := [] }
  | 134 => { keep := [0, 2], cnd := [], frz := [], pro := [], imp := [] }
  | 135 => { keep := [0, 2, 4, 8, 14], cnd := [4, 8, 14], frz := [0], pro := [], imp := [] }
  | 136 => { keep := [0, 2, 3], cnd := [3], frz := [], pro := [], imp := [] }
  | 137 => { keep := [0, 2], cnd := [], frz := [], pro := [], imp := [] }
  | 138 => { keep := [0, 2], cnd := [], frz := [], pro := [], imp := [] }
  | 139 => { keep := [0, 2], cnd := [], frz := [], pro := [], imp := [] }
  | 140 => { keep := [0, 2, 3, 4, 5, 18, 46, 54, 83, 87, 89, 91], cnd := [18, 46, 54, 83, 87, 89, 91], frz := [0, 3, 4, 5], pro := [], imp := [] }
  | 141 => { keep := [0, 2], cnd := [], frz := [], pro := [], imp := [] }
  | 142 => { keep := [0, 2], cnd := [], frz := [], pro := [], imp := [] }
  | 143 => { keep := [0, 2], cnd := [], frz := [], pro := [], imp := [] }
  | 144 => { keep := [0, 1, 4], cnd := [], frz := [], pro := [], imp := [] }
  | 145 => { keep := [0, 2, 4], cnd := [4], frz := [], pro := [], imp := [] }
  | 146 => { keep := [0, 2, 4], cnd := [4], frz := [], pro := [], imp := [] }
  | _ => { keep := [], cnd := [], frz := [], pro := [], imp := [] }
def okL : List FuncId := [2, 3, 4, 5, 6, 7, 8, 9, 10, 11, 12, 13, 14, 15, 16, 17, 18, 19, 20, 21, 22, 23, 24, 25, 26, 27, 28, 29, 30, 31, 32, 33, 34, 35, 36, 37, 38, 39, 40, 41, 42, 43, 44, 45, 46, 47, 48, 49, 50, 51, 52, 53, 54, 55, 56, 57, 58, 59, 60, 61, 62, 63, 64, 65, 66, 67, 68, 69, 70, 71, 72, 73, 74, 75, 76, 77, 78, 79, 80, 81, 82, 83, 84, 85, 86, 87, 88, 89, 90, 91, 92, 93, 94, 95, 96, 97, 98, 99, 100, 101, 102, 103, 104, 105, 106, 107, 108, 109, 110, 111, 113, 114, 115, 116, 117, 118, 119, 120, 121, 122, 123, 124, 125, 126, 127, 128, 130, 131, 132, 133, 134, 135, 136, 137, 138, 139, 140, 141, 142, 143, 144, 145, 146]
noncomputable abbrev Cx (H : FuncId → Option (List V → Option V)) : Ctx := { P := Tryz.prog, ok := okL, hint := h0, hand := H }
theorem good : ∀ g ∈ okL, GoodF Tryz.prog g := by
  intro g hg
  simp only [okL, List.mem_cons, List.not_mem_nil, or_false] at hg
  rcases hg with rfl | rfl | rfl | rfl | rfl | rfl | rfl | rfl | rfl | rfl | rfl | rfl | rfl | rfl | rfl | rfl | rfl | rfl | rfl | rfl | rfl | rfl | rfl | rfl | rfl | rfl | rfl | rfl | rfl | rfl | rfl | rfl | rfl | rfl | rfl | rfl | rfl | rfl | rfl | rfl | rfl | rfl | rfl | rfl | rfl | rfl | rfl | rfl | rfl | rfl | rfl | rfl | rfl | rfl | rfl | rfl | rfl | rfl | rfl | rfl | rfl | rfl | rfl | rfl | rfl | rfl | rfl | rfl | rfl | rfl | rfl | rfl | rfl | rfl | rfl | rfl | rfl | rfl | rfl | rfl | rfl | rfl | rfl | rfl | rfl | rfl | rfl | rfl | rfl | rfl | rfl | rfl | rfl | rfl | rfl | rfl | rfl | rfl | rfl | rfl | rfl | rfl | rfl | rfl | rfl | rfl | rfl | rfl | rfl | rfl | rfl | rfl | rfl | rfl | rfl | rfl | rfl | rfl | rfl | rfl | rfl | rfl | rfl | rfl | rfl | rfl | rfl | rfl | rfl | rfl | rfl | rfl | rfl | rfl | rfl | rfl | rfl | rfl | rfl | rfl | rfl | rfl | rfl
  · exact ⟨Tryz.f2, _, Tryz.func2, by decide, rfl⟩
  · exact ⟨Tryz.f3, _, Tryz.func3, by decide, rfl⟩
  · exact ⟨Tryz.f4, _, Tryz.func4, by decide, rfl⟩
  · exact ⟨Tryz.f5, _, Tryz.func5, by decide, rfl⟩
  · exact ⟨Tryz.f6, _, Tryz.func6, by decide, rfl⟩
  · exact ⟨Tryz.f7, _, Tryz.func7, by decide, rfl⟩
  · exact ⟨Tryz.f8, _, Tryz.func8, by decide, rfl⟩
  · exact ⟨Tryz.f9, _, Tryz.func9, by decide, rfl⟩
  · exact ⟨Tryz.f10, _, Tryz.func10, by decide, rfl⟩
  · exact ⟨Tryz.f11, _, Tryz.func11, by decide, rfl⟩
  · exact ⟨Tryz.f12, _, Tryz.func12, by decide, rfl⟩
  · exact ⟨Tryz.f13, _, Tryz.func13, by decide, rfl⟩
  · exact ⟨Tryz.f14, _, Tryz.func14, by decide, rfl⟩
  · exact ⟨Tryz.f15, _, Tryz.func15, by decide, rfl⟩
  · exact ⟨Tryz.f16, _, Tryz.func16, by decide, rfl⟩
  · exact ⟨Tryz.f17, _, Tryz.func17, by decide, rfl⟩
  · exact ⟨Tryz.f18, _, Tryz.func18, by decide, rfl⟩
  · exact ⟨Tryz.f19, _, Tryz.func19, by decide, rfl⟩
  · exact ⟨Tryz.f20, _, Tryz.func20, by decide, rfl⟩
  · exact ⟨Tryz.f21, _, Tryz.func21, by decide, rfl⟩
  · exact ⟨Tryz.f22, _, Tryz.func22, by decide, rfl⟩
  · exact ⟨Tryz.f23, _, Tryz.func23, by decide, rfl⟩
  · exact ⟨Tryz.f24, _, Tryz.func24, by decide, rfl⟩
  · exact ⟨Tryz.f25, _, Tryz.func25, by decide, rfl⟩
  · exact ⟨Tryz.f26, _, Tryz.func26, by decide, rfl⟩
  · exact ⟨Tryz.f27, _, Tryz.func27, by decide, rfl⟩
  · exact ⟨Tryz.f28, _, Tryz.func28, by decide, rfl⟩
  · exact ⟨Tryz.f29, _, Tryz.func29, by decide, rfl⟩
  · exact ⟨Tryz.f30, _, Tryz.func30, by decide, rfl⟩
  · exact ⟨Tryz.f31, _, Tryz.func31, by decide, rfl⟩
  · exact ⟨Tryz.f32, _, Tryz.func32, by decide, rfl⟩
  · exact ⟨Tryz.f33, _, Tryz.func33, by decide, rfl⟩
  · exact ⟨Tryz.f34, _, Tryz.func34, by decide, rfl⟩
  · exact ⟨Tryz.f35, _, Tryz.func35, by decide, rfl⟩
  · exact ⟨Tryz.f36, _, Tryz.func36, by decide, rfl⟩
  · exact ⟨Tryz.f37, _, Tryz.func37, by decide, rfl⟩
  · exact ⟨Tryz.f38, _, Tryz.func38, by decide, rfl⟩
  · exact ⟨Tryz.f39, _, Tryz.func39, by decide, rfl⟩
  · exact ⟨Tryz.f40, _, Tryz.func40, by decide, rfl⟩
  · exact ⟨Tryz.f41, _, Tryz.func41, by decide, rfl⟩
  · exact ⟨Tryz.f42, _, Tryz.func42, by decide, rfl⟩
  · exact ⟨Tryz.f43, _, Tryz.func43, by decide, rfl⟩
  · exact ⟨Tryz.f44, _, Tryz.func44, by decide, rfl⟩
  · exact ⟨Tryz.f45, _, Tryz.func45, by decide, rfl⟩
  · exact ⟨Tryz.f46, _, Tryz.func46, by decide, rfl⟩
  · exact ⟨Tryz.f47, _, Tryz.func47, by decide, rfl⟩
  · exact ⟨Tryz.f48, _, Tryz.func48, by decide, rfl⟩
  · exact ⟨Tryz.f49, _, Tryz.func49, by decide, rfl⟩
  · exact ⟨Tryz.f50, _, Tryz.func50, by decide, rfl⟩
  · exact ⟨Tryz.f51, _, Tryz.func51, by decide, rfl⟩
  · exact ⟨Tryz.f52, _, Tryz.func52, by decide, rfl⟩
  · exact ⟨Tryz.f53, _, Tryz.func53, by decide, rfl⟩
  · exact ⟨Tryz.f54, _, Tryz.func54, by decide, rfl⟩
  · exact ⟨Tryz.f55, _, Tryz.func55, by decide, rfl⟩
  · exact ⟨Tryz.f56, _, Tryz.func56, by decide, rfl⟩
  · exact ⟨Tryz.f57, _, Tryz.func57, by decide, rfl⟩
  · exact ⟨Tryz.f58, _, Tryz.func58, by decide, rfl⟩
  · exact ⟨Tryz.f59, _, Tryz.func59, by decide, rfl⟩
  · exact ⟨Tryz.f60, _, Tryz.func60, by decide, rfl⟩
  · exact ⟨Tryz.f61, _, Tryz.func61, by decide, rfl⟩
  · exact ⟨Tryz.f62, _, Tryz.func62, by decide, rfl⟩
  · exact ⟨Tryz.f63, _, Tryz.func63, by decide, rfl⟩
  · exact ⟨Tryz.f64, _, Tryz.func64, by decide, rfl⟩
  · exact ⟨Tryz.f65, _, Tryz.func65, by decide, rfl⟩
  · exact ⟨Tryz.f66, _, Tryz.func66, by decide, rfl⟩
  · exact ⟨Tryz.f67, _, Tryz.func67, by decide, rfl⟩
  · exact ⟨Tryz.f68, _, Tryz.func68, by decide, rfl⟩
  · exact ⟨Tryz.f69, _, Tryz.func69, by decide, rfl⟩
  · exact ⟨Tryz.f70, _, Tryz.func70, by decide, rfl⟩
  · exact ⟨Tryz.f71, _, Tryz.func71, by decide, rfl⟩
  · exact ⟨Tryz.f72, _, Tryz.func72, by decide, rfl⟩
  · exact ⟨Tryz.f73, _, Tryz.func73, by decide, rfl⟩
  · exact ⟨Tryz.f74, _, Tryz.func74, by decide, rfl⟩
  · exact ⟨Tryz.f75, _, Tryz.func75, by decide, rfl⟩
  · exact ⟨Tryz.f76, _, Tryz.func76, by decide, rfl⟩
  · exact ⟨Tryz.f77, _, Tryz.func77, by decide, rfl⟩
  · exact ⟨Tryz.f78, _, Tryz.func78, by decide, rfl⟩
  · exact ⟨Tryz.f79, _, Tryz.func79, by decide, rfl⟩
  · exact ⟨Tryz.f80, _, Tryz.func80, by decide, rfl⟩
  · exact ⟨Tryz.f81, _, Tryz.func81, by decide, rfl⟩
  · exact ⟨Tryz.f82, _, Tryz.func82, by decide, rfl⟩
  · exact ⟨Tryz.f83, _, Tryz.func83, by decide, rfl⟩
  · exact ⟨Tryz.f84, _, Tryz.func84, by decide, rfl⟩
  · exact ⟨Tryz.f85, _, Tryz.func85, by decide, rfl⟩
  · exact ⟨Tryz.f86, _, Tryz.func86, by decide, rfl⟩
  · exact ⟨Tryz.f87, _, Tryz.func87, by decide, rfl⟩
  · exact ⟨Tryz.f88, _, Tryz.func88, by decide, rfl⟩
  · exact ⟨Tryz.f89, _, Tryz.func89, by decide, rfl⟩
  · exact ⟨Tryz.f90, _, Tryz.func90, by decide, rfl⟩
  · exact ⟨Tryz.f91, _, Tryz.func91, by decide, rfl⟩
  · exact ⟨Tryz.f92, _, Tryz.func92, by decide, rfl⟩
  · exact ⟨Tryz.f93, _, Tryz.func93, by decide, rfl⟩
  · exact ⟨Tryz.f94, _, Tryz.func94, by decide, rfl⟩
  · exact ⟨Tryz.f95, _, Tryz.func95, by decide, rfl⟩
  · exact ⟨Tryz.f96, _, Tryz.func96, by decide, rfl⟩
  · exact ⟨Tryz.f97, _, Tryz.func97, by decide, rfl⟩
  · exact ⟨Tryz.f98, _, Tryz.func98, by decide, rfl⟩
  · exact ⟨Tryz.f99, _, Tryz.func99, by decide, rfl⟩
  · exact ⟨Tryz.f100, _, Tryz.func100, by decide, rfl⟩
  · exact ⟨Tryz.f101, _, Tryz.func101, by decide, rfl⟩
  · exact ⟨Tryz.f102, _, Tryz.func102, by decide, rfl⟩
  · exact ⟨Tryz.f103, _, Tryz.func103, by decide, rfl⟩
  · exact ⟨Tryz.f104, _, Tryz.func104, by decide, rfl⟩
  · exact ⟨Tryz.f105, _, Tryz.func105, by decide, rfl⟩
  · exact ⟨Tryz.f106, _, Tryz.func106, by decide, rfl⟩
  · exact ⟨Tryz.f107, _, Tryz.func107, by decide, rfl⟩
  · exact ⟨Tryz.f108, _, Tryz.func108, by decide, rfl⟩
  · exact ⟨Tryz.f109, _, Tryz.func109, by decide, rfl⟩
  · exact ⟨Tryz.f110, _, Tryz.func110, by decide, rfl⟩
  · exact ⟨Tryz.f111, _, Tryz.func111, by decide, rfl⟩
  · exact ⟨Tryz.f113, _, Tryz.func113, by decide, rfl⟩
  · exact ⟨Tryz.f114, _, Tryz.func114, by decide, rfl⟩
  · exact ⟨Tryz.f115, _, Tryz.func115, by decide, rfl⟩
  · exact ⟨Tryz.f116, _, Tryz.func116, by decide, rfl⟩
  · exact ⟨Tryz.f117, _, Tryz.func117, by decide, rfl⟩
  · exact ⟨Tryz.f118, _, Tryz.func118, by decide, rfl⟩
  · exact ⟨Tryz.f119, _, Tryz.func119, by decide, rfl⟩
  · exact ⟨Tryz.f120, _, Tryz.func120, by decide, rfl⟩
  · exact ⟨Tryz.f121, _, Tryz.func121, by decide, rfl⟩
  · exact ⟨Tryz.f122, _, Tryz.func122, by decide, rfl⟩
  · exact ⟨Tryz.f123, _, Tryz.func123, by decide, rfl⟩
  · exact ⟨Tryz.f124, _, Tryz.func124, by decide, rfl⟩
  · exact ⟨Tryz.f125, _, Tryz.func125, by decide, rfl⟩
  · exact ⟨Tryz.f126, _, Tryz.func126, by decide, rfl⟩
  · exact ⟨Tryz.f127, _, Tryz.func127, by decide, rfl⟩
  · exact ⟨Tryz.f128, _, Tryz.func128, by decide, rfl⟩
  · exact ⟨Tryz.f130, _, Tryz.func130, by decide, rfl⟩
  · exact ⟨Tryz.f131, _, Tryz.func131, by decide, rfl⟩
  · exact ⟨Tryz.f132, _, Tryz.func132, by decide, rfl⟩
  · exact ⟨Tryz.f133, _, Tryz.func133, by decide, rfl⟩
  · exact ⟨Tryz.f134, _, Tryz.func134, by decide, rfl⟩
  · exact ⟨Tryz.f135, _, Tryz.func135, by decide, rfl⟩
  · exact ⟨Tryz.f136, _, Tryz.func136, by decide, rfl⟩
  · exact ⟨Tryz.f137, _, Tryz.func137, by decide, rfl⟩
  · exact ⟨Tryz.f138, _, Tryz.func138, by decide, rfl⟩
  · exact ⟨Tryz.f139, _, Tryz.func139, by decide, rfl⟩
  · exact ⟨Tryz.f140, _, Tryz.func140, by decide, rfl⟩
  · exact ⟨Tryz.f141, _, Tryz.func141, by decide, rfl⟩
  · exact ⟨Tryz.f142, _, Tryz.func142, by decide, rfl⟩
  · exact ⟨Tryz.f143, _, Tryz.func143, by decide, rfl⟩
  · exact ⟨Tryz.f144, _, Tryz.func144, by decide, rfl⟩
  · exact ⟨Tryz.f145, _, Tryz.func145, by decide, rfl⟩
  · exact ⟨Tryz.f146, _, Tryz.func146, by decide, rfl⟩
theorem mixed : Tryz.prog.follows .mixedOrders = true := by kernel_rfl
noncomputable abbrev M1005 (H : FuncId → Option (List V → Option V)) (n : Nat) : Mc := mcOf (Cx H) 5 Tryz.f5 n
theorem m1005 (H n) : (M1005 H n).E.keep = [0, 1, 2, 6, 7, 8, 9, 10, 11, 12, 13, 14, 15, 16, 24] ∧ (M1005 H n).E.cnd = [24] ∧ (M1005 H n).E.frz = [7, 8, 9, 10, 11, 12, 13, 14, 15, 16] ∧ (M1005 H n).E.pro = [] ∧ (M1005 H n).E.imp = [] ∧ (M1005 H n).E.n = 85 ∧ (M1005 H n).E.lvl = 0 ∧ (M1005 H n).E.P = Tryz.prog ∧ (M1005 H n).fuel = n ∧ (M1005 H n).C = H ∧ (M1005 H n).E.ok = okL := ⟨rfl, rfl, rfl, rfl, rfl, rfl, rfl, rfl, rfl, rfl, rfl⟩
noncomputable abbrev c1005 : Code := Tryz.f5.body.getD .skip
theorem s1005 {H} (hH : SoundHand Tryz.prog (hand H)) {args out} (n : Nat) (hl : args.length ≤ 85) (hp : match out with | .ret v => pureR v = true | .pan v => pureR v = true) (h : Fin (M1005 (hand H) n) Tryz.f5.results.toList (R (M1005 (hand H) n) c1005 .top ⟨params 0 args, [], fun _ => none, 0⟩) = some out) : SoundPure Tryz.prog 5 args out := sound_of (C := Cx (hand H)) hH good mixed Tryz.func5 rfl hl hp h
noncomputable abbrev M708 (H : FuncId → Option (List V → Option V)) (n : Nat) : Mc := mcOf (Cx H) 6 Tryz.f6 n
theorem m708 (H n) : (M708 H n).E.keep = [0, 1, 4, 5, 7, 8, 9, 10, 11, 18] ∧ (M708 H n).E.cnd = [11, 18] ∧ (M708 H n).E.frz = [] ∧ (M708 H n).E.pro = [] ∧ (M708 H n).E.imp = [] ∧ (M708 H n).E.n = 29 ∧ (M708 H n).E.lvl = 0 ∧ (M708 H n).E.P = Tryz.prog ∧ (M708 H n).fuel = n ∧ (M708 H n).C = H ∧ (M708 H n).E.ok = okL := ⟨rfl, rfl, rfl, rfl, rfl, rfl, rfl, rfl, rfl, rfl, rfl⟩
noncomputable abbrev c708 : Code := Tryz.f6.body.getD .skip
theorem s708 {H} (hH : SoundHand Tryz.prog (hand H)) {args out} (n : Nat) (hl : args.length ≤ 29) (hp : match out with | .ret v => pureR v = true | .pan v => pureR v = true) (h : Fin (M708 (hand H) n) Tryz.f6.results.toList (R (M708 (hand H) n) c708 .top ⟨params 0 args, [], fun _ => none, 0⟩) = some out) : SoundPure Tryz.prog 6 args out := sound_of (C := Cx (hand H)) hH good mixed Tryz.func6 rfl hl hp h
noncomputable abbrev M710 (H : FuncId → Option (List V → Option V)) (n : Nat) : Mc := mcOf (Cx H) 7 Tryz.f7 n
theorem m710 (H n) : (M710 H n).E.keep = [0, 1, 2, 3, 4, 5, 6, 7, 8, 9] ∧ (M710 H n).E.cnd = [] ∧ (M710 H n).E.frz = [3, 4, 5, 6, 7, 8, 9] ∧ (M710 H n).E.pro = [] ∧ (M710 H n).E.imp = [] ∧ (M710 H n).E.n = 75 ∧ (M710 H n).E.lvl = 0 ∧ (M710 H n).E.P = Tryz.prog ∧ (M710 H n).fuel = n ∧ (M710 H n).C = H ∧ (M710 H n).E.ok = okL := ⟨rfl, rfl, rfl, rfl, rfl, rfl, rfl, rfl, rfl, rfl, rfl⟩
noncomputable abbrev c710 : Code := Tryz.f7.body.getD .skip
theorem s710 {H} (hH : SoundHand Tryz.prog (hand H)) {args out} (n : Nat) (hl : args.length ≤ 75) (hp : match out with | .ret v => pureR v = true | .pan v => pureR v = true) (h : Fin (M710 (hand H) n) Tryz.f7.results.toList (R (M710 (hand H) n) c710 .top ⟨params 0 args, [], fun _ => none, 0⟩) = some out) : SoundPure Tryz.prog 7 args out := sound_of (C := Cx (hand H)) hH good mixed Tryz.func7 rfl hl hp h
noncomputable abbrev M720 (H : FuncId → Option (List V → Option V)) (n : Nat) : Mc := mcOf (Cx H) 18 Tryz.f18 n
theorem m720 (H n) : (M720 H n).E.keep = [0, 1, 4] ∧ (M720 H n).E.cnd = [] ∧ (M720 H n).E.frz = [] ∧ (M720 H n).E.pro = [] ∧ (M720 H n).E.imp = [] ∧ (M720 H n).E.n = 8 ∧ (M720 H n).E.lvl = 0 ∧ (M720 H n).E.P = Tryz.prog ∧ (M720 H n).fuel = n ∧ (M720 H n).C = H ∧ (M720 H n).E.ok = okL := ⟨rfl, rfl, rfl, rfl, rfl, rfl, rfl, rfl, rfl, rfl, rfl⟩
noncomputable abbrev c720 : Code := Tryz.f18.body.getD .skip
theorem s720 {H} (hH : SoundHand Tryz.prog (hand H)) {args out} (n : Nat) (hl : args.length ≤ 8) (hp : match out with | .ret v => pureR v = true | .pan v => pureR v = true) (h : Fin (M720 (hand H) n) Tryz.f18.results.toList (R (M720 (hand H) n) c720 .top ⟨params 0 args, [], fun _ => none, 0⟩) = some out) : SoundPure Tryz.prog 18 args out := sound_of (C := Cx (hand H)) hH good mixed Tryz.func18 rfl hl hp h
noncomputable abbrev M718 (H : FuncId → Option (List V → Option V)) (n : Nat) : Mc := mcOf (Cx H) 19 Tryz.f19 n
theorem m718 (H n) : (M718 H n).E.keep = [0, 1, 4, 5, 6, 14, 18, 23] ∧ (M718 H n).E.cnd = [14, 23] ∧ (M718 H n).E.frz = [6] ∧ (M718 H n).E.pro = [] ∧ (M718 H n).E.imp = [48] ∧ (M718 H n).E.n = 28 ∧ (M718 H n).E.lvl = 0 ∧ (M718 H n).E.P = Tryz.prog ∧ (M718 H n).fuel = n ∧ (M718 H n).C = H ∧ (M718 H n).E.ok = okL := ⟨rfl, rfl, rfl, rfl, rfl, rfl, rfl, rfl, rfl, rfl, rfl⟩
noncomputable abbrev c718 : Code := Tryz.f19.body.getD .skip
theorem s718 {H} (hH : SoundHand Tryz.prog (hand H)) {args out} (n : Nat) (hl : args.length ≤ 28) (hp : match out with | .ret v => pureR v = true | .pan v => pureR v = true) (h : Fin (M718 (hand H) n) Tryz.f19.results.toList (R (M718 (hand H) n) c718 .top ⟨params 0 args, [], fun _ => none, 0⟩) = some out) : SoundPure Tryz.prog 19 args out := sound_of (C := Cx (hand H)) hH good mixed Tryz.func19 rfl hl hp h
noncomputable abbrev M1020 (H : FuncId → Option (List V → Option V)) (n : Nat) : Mc := mcOf (Cx H) 20 Tryz.f20 n
theorem m1020 (H n) : (M1020 H n).E.keep = [0, 1, 4, 5, 13] ∧ (M1020 H n).E.cnd = [13] ∧ (M1020 H n).E.frz = [] ∧ (M1020 H n).E.pro = [] ∧ (M1020 H n).E.imp = [] ∧ (M1020 H n).E.n = 20 ∧ (M1020 H n).E.lvl = 0 ∧ (M1020 H n).E.P = Tryz.prog ∧ (M1020 H n).fuel = n ∧ (M1020 H n).C = H ∧ (M1020 H n).E.ok = okL := ⟨rfl, rfl, rfl, rfl, rfl, rfl, rfl, rfl, rfl, rfl, rfl⟩
noncomputable abbrev c1020 : Code := Tryz.f20.body.getD .skip
theorem s1020 {H} (hH : SoundHand Tryz.prog (hand H)) {args out} (n : Nat) (hl : args.length ≤ 20) (hp : match out with | .ret v => pureR v = true | .pan v => pureR v = true) (h : Fin (M1020 (hand H) n) Tryz.f20.results.toList (R (M1020 (hand H) n) c1020 .top ⟨params 0 args, [], fun _ => none, 0⟩) = some out) : SoundPure Tryz.prog 20 args out := sound_of (C := Cx (hand H)) hH good mixed Tryz.func20 rfl hl hp h
noncomputable abbrev M719 (H : FuncId → Option (List V → Option V)) (n : Nat) : Mc := mcOf (Cx H) 21 Tryz.f21 n
theorem m719 (H n) : (M719 H n).E.keep = [0, 1, 4, 5, 6, 7, 8, 9, 10, 11, 16, 23, 25, 26, 27, 28] ∧ (M719 H n).E.cnd = [16, 23, 28] ∧ (M719 H n).E.frz = [9, 10, 12] ∧ (M719 H n).E.pro = [8] ∧ (M719 H n).E.imp = [53] ∧ (M719 H n).E.n = 55 ∧ (M719 H n).E.lvl = 0 ∧ (M719 H n).E.P = Tryz.prog ∧ (M719 H n).fuel = n ∧ (M719 H n).C = H ∧ (M719 H n).E.ok = okL := ⟨rfl, rfl, rfl, rfl, rfl, rfl, rfl, rfl, rfl, rfl, rfl⟩
noncomputable abbrev c719 : Code := Tryz.f21.body.getD .skip
theorem s719 {H} (hH : SoundHand Tryz.prog (hand H)) {args out} (n : Nat) (hl : args.length ≤ 55) (hp : match out with | .ret v => pureR v = true | .pan v => pureR v = true) (h : Fin (M719 (hand H) n) Tryz.f21.results.toList (R (M719 (hand H) n) c719 .top ⟨params 0 args, [], fun _ => none, 0⟩) = some out) : SoundPure Tryz.prog 21 args out := sound_of (C := Cx (hand H)) hH good mixed Tryz.func21 rfl hl hp h
noncomputable abbrev M1022 (H : FuncId → Option (List V → Option V)) (n : Nat) : Mc := mcOf (Cx H) 22 Tryz.f22 n
theorem m1022 (H n) : (M1022 H n).E.keep = [0, 1, 4, 5, 6, 7, 8, 9, 10, 14, 21, 28] ∧ (M1022 H n).E.cnd = [14, 21, 28] ∧ (M1022 H n).E.frz = [9, 10, 51] ∧ (M1022 H n).E.pro = [] ∧ (M1022 H n).E.imp = [] ∧ (M1022 H n).E.n = 54 ∧ (M1022 H n).E.lvl = 0 ∧ (M1022 H n).E.P = Tryz.prog ∧ (M1022 H n).fuel = n ∧ (M1022 H n).C = H ∧ (M1022 H n).E.ok = okL := ⟨rfl, rfl, rfl, rfl, rfl, rfl, rfl, rfl, rfl, rfl, rfl⟩
noncomputable abbrev c1022 : Code := Tryz.f22.body.getD .skip
theorem s1022 {H} (hH : SoundHand Tryz.prog (hand H)) {args out} (n : Nat) (hl : args.length ≤ 54) (hp : match out with | .ret v => pureR v = true | .pan v => pureR v = true) (h : Fin (M1022 (hand H) n) Tryz.f22.results.toList (R (M1022 (hand H) n) c1022 .top ⟨params 0 args, [], fun _ => none, 0⟩) = some out) : SoundPure Tryz.prog 22 args out := sound_of (C := Cx (hand H)) hH good mixed Tryz.func22 rfl hl hp h
noncomputable abbrev M312 (H : FuncId → Option (List V → Option V)) (n : Nat) : Mc := mcOf (Cx H) 23 Tryz.f23 n
theorem m312 (H n) : (M312 H n).E.keep = [0, 1, 4] ∧ (M312 H n).E.cnd = [] ∧ (M312 H n).E.frz = [] ∧ (M312 H n).E.pro = [] ∧ (M312 H n).E.imp = [] ∧ (M312 H n).E.n = 9 ∧ (M312 H n).E.lvl = 0 ∧ (M312 H n).E.P = Tryz.prog ∧ (M312 H n).fuel = n ∧ (M312 H n).C = H ∧ (M312 H n).E.ok = okL := ⟨rfl, rfl, rfl, rfl, rfl, rfl, rfl, rfl, rfl, rfl, rfl⟩
noncomputable abbrev c312 : Code := Tryz.f23.body.getD .skip
theorem s312 {H} (hH : SoundHand Tryz.prog (hand H)) {args out} (n : Nat) (hl : args.length ≤ 9) (hp : match out with | .ret v => pureR v = true | .pan v => pureR v = true) (h : Fin (M312 (hand H) n) Tryz.f23.results.toList (R (M312 (hand H) n) c312 .top ⟨params 0 args, [], fun _ => none, 0⟩) = some out) : SoundPure Tryz.prog 23 args out := sound_of (C := Cx (hand H)) hH good mixed Tryz.func23 rfl hl hp h
noncomputable abbrev M1024 (H : FuncId → Option (List V → Option V)) (n : Nat) : Mc := mcOf (Cx H) 24 Tryz.f24 n
theorem m1024 (H n) : (M1024 H n).E.keep = [0, 2, 3, 4, 5, 6, 8, 9, 32] ∧ (M1024 H n).E.cnd = [32] ∧ (M1024 H n).E.frz = [5, 6] ∧ (M1024 H n).E.pro = [] ∧ (M1024 H n).E.imp = [] ∧ (M1024 H n).E.n = 38 ∧ (M1024 H n).E.lvl = 0 ∧ (M1024 H n).E.P = Tryz.prog ∧ (M1024 H n).fuel = n ∧ (M1024 H n).C = H ∧ (M1024 H n).E.ok = okL := ⟨rfl, rfl, rfl, rfl, rfl, rfl, rfl, rfl, rfl, rfl, rfl⟩
noncomputable abbrev c1024 : Code := Tryz.f24.body.getD .skip
theorem s1024 {H} (hH : SoundHand Tryz.prog (hand H)) {args out} (n : Nat) (hl : args.length ≤ 38) (hp : match out with | .ret v => pureR v = true | .pan v => pureR v = true) (h : Fin (M1024 (hand H) n) Tryz.f24.results.toList (R (M1024 (hand H) n) c1024 .top ⟨params 0 args, [], fun _ => none, 0⟩) = some out) : SoundPure Tryz.prog 24 args out := sound_of (C := Cx (hand H)) hH good mixed Tryz.func24 rfl hl hp h
noncomputable abbrev M1025 (H : FuncId → Option (List V → Option V)) (n : Nat) : Mc := mcOf (Cx H) 25 Tryz.f25 n
theorem m1025 (H n) : (M1025 H n).E.keep = [0, 2, 3, 4, 8, 15] ∧ (M1025 H n).E.cnd = [8, 15] ∧ (M1025 H n).E.frz = [4] ∧ (M1025 H n).E.pro = [] ∧ (M1025 H n).E.imp = [] ∧ (M1025 H n).E.n = 34 ∧ (M1025 H n).E.lvl = 0 ∧ (M1025 H n).E.P = Tryz.prog ∧ (M1025 H n).fuel = n ∧ (M1025 H n).C = H ∧ (M1025 H n).E.ok = okL := ⟨rfl, rfl, rfl, rfl, rfl, rfl, rfl, rfl, rfl, rfl, rfl⟩
noncomputable abbrev c1025 : Code := Tryz.f25.body.getD .skip
theorem s1025 {H} (hH : SoundHand Tryz.prog (hand H)) {args out} (n : Nat) (hl : args.length ≤ 34) (hp : match out with | .ret v => pureR v = true | .pan v => pureR v = true) (h : Fin (M1025 (hand H) n) Tryz.f25.results.toList (R (M1025 (hand H) n) c1025 .top ⟨params 0 args, [], fun _ => none, 0⟩) = some out) : SoundPure Tryz.prog 25 args out := sound_of (C := Cx (hand H)) hH good mixed Tryz.func25 rfl hl hp h
noncomputable abbrev M728 (H : FuncId → Option (List V → Option V)) (n : Nat) : Mc := mcOf (Cx H) 26 Tryz.f26 n
theorem m728 (H n) : (M728 H n).E.keep = [0, 1, 4] ∧ (M728 H n).E.cnd = [] ∧ (M728 H n).E.frz = [] ∧ (M728 H n).E.pro = [] ∧ (M728 H n).E.imp = [] ∧ (M728 H n).E.n = 8 ∧ (M728 H n).E.lvl = 0 ∧ (M728 H n).E.P = Tryz.prog ∧ (M728 H n).fuel = n ∧ (M728 H n).C = H ∧ (M728 H n).E.ok = okL := ⟨rfl, rfl, rfl, rfl, rfl, rfl, rfl, rfl, rfl, rfl, rfl⟩
noncomputable abbrev c728 : Code := Tryz.f26.body.getD .skip
theorem s728 {H} (hH : SoundHand Tryz.prog (hand H)) {args out} (n : Nat) (hl : args.length ≤ 8) (hp : match out with | .ret v => pureR v = true | .pan v => pureR v = true) (h : Fin (M728 (hand H) n) Tryz.f26.results.toList (R (M728 (hand H) n) c728 .top ⟨params 0 args, [], fun _ => none, 0⟩) = some out) : SoundPure Tryz.prog 26 args out := sound_of (C := Cx (hand H)) hH good mixed Tryz.func26 rfl hl hp h
noncomputable abbrev M711 (H : FuncId → Option (List V → Option V)) (n : Nat) : Mc := mcOf (Cx H) 27 Tryz.f27 n
theorem m711 (H n) : (M711 H n).E.keep = [0, 1, 4, 5, 6, 7, 11, 16] ∧ (M711 H n).E.cnd = [11, 16] ∧ (M711 H n).E.frz = [] ∧ (M711 H n).E.pro = [] ∧ (M711 H n).E.imp = [] ∧ (M711 H n).E.n = 23 ∧ (M711 H n).E.lvl = 0 ∧ (M711 H n).E.P = Tryz.prog ∧ (M711 H n).fuel = n ∧ (M711 H n).C = H ∧ (M711 H n).E.ok = okL := ⟨rfl, rfl, rfl, rfl, rfl, rfl, rfl, rfl, rfl, rfl, rfl⟩
noncomputable abbrev c711 : Code := Tryz.f27.body.getD .skip
theorem s711 {H} (hH : SoundHand Tryz.prog (hand H)) {args out} (n : Nat) (hl : args.length ≤ 23) (hp : match out with | .ret v => pureR v = true | .pan v => pureR v = true) (h : Fin (M711 (hand H) n) Tryz.f27.results.toList (R (M711 (hand H) n) c711 .top ⟨params 0 args, [], fun _ => none, 0⟩) = some out) : SoundPure Tryz.prog 27 args out := sound_of (C := Cx (hand H)) hH good mixed Tryz.func27 rfl hl hp h
noncomputable abbrev M717 (H : FuncId → Option (List V → Option V)) (n : Nat) : Mc := mcOf (Cx H) 29 Tryz.f29 n
theorem m717 (H n) : (M717 H n).E.keep = [0, 2] ∧ (M717 H n).E.cnd = [] ∧ (M717 H n).E.frz = [] ∧ (M717 H n).E.pro = [] ∧ (M717 H n).E.imp = [] ∧ (M717 H n).E.n = 5 ∧ (M717 H n).E.lvl = 0 ∧ (M717 H n).E.P = Tryz.prog ∧ (M717 H n).fuel = n ∧ (M717 H n).C = H ∧ (M717 H n).E.ok = okL := ⟨rfl, rfl, rfl, rfl, rfl, rfl, rfl, rfl, rfl, rfl, rfl⟩
noncomputable abbrev c717 : Code := Tryz.f29.body.getD .skip
theorem s717 {H} (hH : SoundHand Tryz.prog (hand H)) {args out} (n : Nat) (hl : args.length ≤ 5) (hp : match out with | .ret v => pureR v = true | .pan v => pureR v = true) (h : Fin (M717 (hand H) n) Tryz.f29.results.toList (R (M717 (hand H) n) c717 .top ⟨params 0 args, [], fun _ => none, 0⟩) = some out) : SoundPure Tryz.prog 29 args out := sound_of (C := Cx (hand H)) hH good mixed Tryz.func29 rfl hl hp h
noncomputable abbrev M727 (H : FuncId → Option (List V → Option V)) (n : Nat) : Mc := mcOf (Cx H) 30 Tryz.f30 n
theorem m727 (H n) : (M727 H n).E.keep = [0, 2, 3, 4, 5, 6, 9, 10, 20] ∧ (M727 H n).E.cnd = [20] ∧ (M727 H n).E.frz = [6] ∧ (M727 H n).E.pro = [] ∧ (M727 H n).E.imp = [] ∧ (M727 H n).E.n = 28 ∧ (M727 H n).E.lvl = 0 ∧ (M727 H n).E.P = Tryz.prog ∧ (M727 H n).fuel = n ∧ (M727 H n).C = H ∧ (M727 H n).E.ok = okL := ⟨rfl, rfl, rfl, rfl, rfl, rfl, rfl, rfl, rfl, rfl, rfl⟩
noncomputable abbrev c727 : Code := Tryz.f30.body.getD .skip
theorem s727 {H} (hH : SoundHand Tryz.prog (hand H)) {args out} (n : Nat) (hl : args.length ≤ 28) (hp : match out with | .ret v => pureR v = true | .pan v => pureR v = true) (h : Fin (M727 (hand H) n) Tryz.f30.results.toList (R (M727 (hand H) n) c727 .top ⟨params 0 args, [], fun _ => none, 0⟩) = some out) : SoundPure Tryz.prog 30 args out := sound_of (C := Cx (hand H)) hH good mixed Tryz.func30 rfl hl hp h
noncomputable abbrev M731 (H : FuncId → Option (List V → Option V)) (n : Nat) : Mc := mcOf (Cx H) 33 Tryz.f33 n
theorem m731 (H n) : (M731 H n).E.keep = [0, 2] ∧ (M731 H n).E.cnd = [] ∧ (M731 H n).E.frz = [] ∧ (M731 H n).E.pro = [] ∧ (M731 H n).E.imp = [] ∧ (M731 H n).E.n = 5 ∧ (M731 H n).E.lvl = 0 ∧ (M731 H n).E.P = Tryz.prog ∧ (M731 H n).fuel = n ∧ (M731 H n).C = H ∧ (M731 H n).E.ok = okL := ⟨rfl, rfl, rfl, rfl, rfl, rfl, rfl, rfl, rfl, rfl, rfl⟩
noncomputable abbrev c731 : Code := Tryz.f33.body.getD .skip
theorem s731 {H} (hH : SoundHand Tryz.prog (hand H)) {args out} (n : Nat) (hl : args.length ≤ 5) (hp : match out with | .ret v => pureR v = true | .pan v => pureR v = true) (h : Fin (M731 (hand H) n) Tryz.f33.results.toList (R (M731 (hand H) n) c731 .top ⟨params 0 args, [], fun _ => none, 0⟩) = some out) : SoundPure Tryz.prog 33 args out := sound_of (C := Cx (hand H)) hH good mixed Tryz.func33 rfl hl hp h
noncomputable abbrev M1035 (H : FuncId → Option (List V → Option V)) (n : Nat) : Mc := mcOf (Cx H) 35 Tryz.f35 n
theorem m1035 (H n) : (M1035 H n).E.keep = [0, 2] ∧ (M1035 H n).E.cnd = [] ∧ (M1035 H n).E.frz = [] ∧ (M1035 H n).E.pro = [] ∧ (M1035 H n).E.imp = [] ∧ (M1035 H n).E.n = 5 ∧ (M1035 H n).E.lvl = 0 ∧ (M1035 H n).E.P = Tryz.prog ∧ (M1035 H n).fuel = n ∧ (M1035 H n).C = H ∧ (M1035 H n).E.ok = okL := ⟨rfl, rfl, rfl, rfl, rfl, rfl, rfl, rfl, rfl, rfl, rfl⟩
noncomputable abbrev c1035 : Code := Tryz.f35.body.getD .skip
theorem s1035 {H} (hH : SoundHand Tryz.prog (hand H)) {args out} (n : Nat) (hl : args.length ≤ 5) (hp : match out with | .ret v => pureR v = true | .pan v => pureR v = true) (h : Fin (M1035 (hand H) n) Tryz.f35.results.toList (R (M1035 (hand H) n) c1035 .top ⟨params 0 args, [], fun _ => none, 0⟩) = some out) : SoundPure Tryz.prog 35 args out := sound_of (C := Cx (hand H)) hH good mixed Tryz.func35 rfl hl hp h
noncomputable abbrev M751 (H : FuncId → Option (List V → Option V)) (n : Nat) : Mc := mcOf (Cx H) 36 Tryz.f36 n
theorem m751 (H n) : (M751 H n).E.keep = [0, 1, 2] ∧ (M751 H n).E.cnd = [] ∧ (M751 H n).E.frz = [1] ∧ (M751 H n).E.pro = [] ∧ (M751 H n).E.imp = [] ∧ (M751 H n).E.n = 4 ∧ (M751 H n).E.lvl = 0 ∧ (M751 H n).E.P = Tryz.prog ∧ (M751 H n).fuel = n ∧ (M751 H n).C = H ∧ (M751 H n).E.ok = okL := ⟨rfl, rfl, rfl, rfl, rfl, rfl, rfl, rfl, rfl, rfl, rfl⟩
noncomputable abbrev c751 : Code := Tryz.f36.body.getD .skip
theorem s751 {H} (hH : SoundHand Tryz.prog (hand H)) {args out} (n : Nat) (hl : args.length ≤ 4) (hp : match out with | .ret v => pureR v = true | .pan v => pureR v = true) (h : Fin (M751 (hand H) n) Tryz.f36.results.toList (R (M751 (hand H) n) c751 .top ⟨params 0 args, [], fun _ => none, 0⟩) = some out) : SoundPure Tryz.prog 36 args out := sound_of (C := Cx (hand H)) hH good mixed Tryz.func36 rfl hl hp h
noncomputable abbrev M752 (H : FuncId → Option (List V → Option V)) (n : Nat) : Mc := mcOf (Cx H) 37 Tryz.f37 n
theorem m752 (H n) : (M752 H n).E.keep = [0, 1, 2, 5] ∧ (M752 H n).E.cnd = [5] ∧ (M752 H n).E.frz = [1] ∧ (M752 H n).E.pro = [] ∧ (M752 H n).E.imp = [] ∧ (M752 H n).E.n = 15 ∧ (M752 H n).E.lvl = 0 ∧ (M752 H n).E.P = Tryz.prog ∧ (M752 H n).fuel = n ∧ (M752 H n).C = H ∧ (M752 H n).E.ok = okL := ⟨rfl, rfl, rfl, rfl, rfl, rfl, rfl, rfl, rfl, rfl, rfl⟩
noncomputable abbrev c752 : Code := Tryz.f37.body.getD .skip
theorem s752 {H} (hH : SoundHand Tryz.prog (hand H)) {args out} (n : Nat) (hl : args.length ≤ 15) (hp : match out with | .ret v => pureR v = true | .pan v => pureR v = true) (h : Fin (M752 (hand H) n) Tryz.f37.results.toList (R (M752 (hand H) n) c752 .top ⟨params 0 args, [], fun _ => none, 0⟩) = some out) : SoundPure Tryz.prog 37 args out := sound_of (C := Cx (hand H)) hH good mixed Tryz.func37 rfl hl hp h
noncomputable abbrev M714 (H : FuncId → Option (List V → Option V)) (n : Nat) : Mc := mcOf (Cx H) 39 Tryz.f39 n
theorem m714 (H n) : (M714 H n).E.keep = [0, 2, 3, 5, 6, 7, 8, 11, 13, 14, 15, 16, 26, 30, 38, 44] ∧ (M714 H n).E.cnd = [11, 16, 26, 30, 38, 44] ∧ (M714 H n).E.frz = [7] ∧ (M714 H n).E.pro = [] ∧ (M714 H n).E.imp = [] ∧ (M714 H n).E.n = 46 ∧ (M714 H n).E.lvl = 0 ∧ (M714 H n).E.P = Tryz.prog ∧ (M714 H n).fuel = n ∧ (M714 H n).C = H ∧ (M714 H n).E.ok = okL := ⟨rfl, rfl, rfl, rfl, rfl, rfl, rfl, rfl, rfl, rfl, rfl⟩
noncomputable abbrev c714 : Code := Tryz.f39.body.getD .skip
theorem s714 {H} (hH : SoundHand Tryz.prog (hand H)) {args out} (n : Nat) (hl : args.length ≤ 46) (hp : match out with | .ret v => pureR v = true | .pan v => pureR v = true) (h : Fin (M714 (hand H) n) Tryz.f39.results.toList (R (M714 (hand H) n) c714 .top ⟨params 0 args, [], fun _ => none, 0⟩) = some out) : SoundPure Tryz.prog 39 args out := sound_of (C := Cx (hand H)) hH good mixed Tryz.func39 rfl hl hp h
noncomputable abbrev M730 (H : FuncId → Option (List V → Option V)) (n : Nat) : Mc := mcOf (Cx H) 40 Tryz.f40 n
theorem m730 (H n) : (M730 H n).E.keep = [0, 1, 4, 5, 6, 7, 8, 22] ∧ (M730 H n).E.cnd = [22] ∧ (M730 H n).E.frz = [6, 7, 8] ∧ (M730 H n).E.pro = [] ∧ (M730 H n).E.imp = [] ∧ (M730 H n).E.n = 26 ∧ (M730 H n).E.lvl = 0 ∧ (M730 H n).E.P = Tryz.prog ∧ (M730 H n).fuel = n ∧ (M730 H n).C = H ∧ (M730 H n).E.ok = okL := ⟨rfl, rfl, rfl, rfl, rfl, rfl, rfl, rfl, rfl, rfl, rfl⟩
noncomputable abbrev c730 : Code := Tryz.f40.body.getD .skip
theorem s730 {H} (hH : SoundHand Tryz.prog (hand H)) {args out} (n : Nat) (hl : args.length ≤ 26) (hp : match out with | .ret v => pureR v = true | .pan v => pureR v = true) (h : Fin (M730 (hand H) n) Tryz.f40.results.toList (R (M730 (hand H) n) c730 .top ⟨params 0 args, [], fun _ => none, 0⟩) = some out) : SoundPure Tryz.prog 40 args out := sound_of (C := Cx (hand H)) hH good mixed Tryz.func40 rfl hl hp h
noncomputable abbrev M748 (H : FuncId → Option (List V → Option V)) (n : Nat) : Mc := mcOf (Cx H) 42 Tryz.f42 n
theorem m748 (H n) : (M748 H n).E.keep = [0, 2, 3, 4, 8, 9, 10] ∧ (M748 H n).E.cnd = [10] ∧ (M748 H n).E.frz = [4] ∧ (M748 H n).E.pro = [] ∧ (M748 H n).E.imp = [] ∧ (M748 H n).E.n = 24 ∧ (M748 H n).E.lvl = 0 ∧ (M748 H n).E.P = Tryz.prog ∧ (M748 H n).fuel = n ∧ (M748 H n).C = H ∧ (M748 H n).E.ok = okL := ⟨rfl, rfl, rfl, rfl, rfl, rfl, rfl, rfl, rfl, rfl, rfl⟩
noncomputable abbrev c748 : Code := Tryz.f42.body.getD .skip
theorem s748 {H} (hH : SoundHand Tryz.prog (hand H)) {args out} (n : Nat) (hl : args.length ≤ 24) (hp : match out with | .ret v => pureR v = true | .pan v => pureR v = true) (h : Fin (M748 (hand H) n) Tryz.f42.results.toList (R (M748 (hand H) n) c748 .top ⟨params 0 args, [], fun _ => none, 0⟩) = some out) : SoundPure Tryz.prog 42 args out := sound_of (C := Cx (hand H)) hH good mixed Tryz.func42 rfl hl hp h
noncomputable abbrev M737 (H : FuncId → Option (List V → Option V)) (n : Nat) : Mc := mcOf (Cx H) 45 Tryz.f45 n
theorem m737 (H n) : (M737 H n).E.keep = [0, 1, 4, 5, 6, 10, 19] ∧ (M737 H n).E.cnd = [10, 19] ∧ (M737 H n).E.frz = [6] ∧ (M737 H n).E.pro = [] ∧ (M737 H n).E.imp = [] ∧ (M737 H n).E.n = 27 ∧ (M737 H n).E.lvl = 0 ∧ (M737 H n).E.P = Tryz.prog ∧ (M737 H n).fuel = n ∧ (M737 H n).C = H ∧ (M737 H n).E.ok = okL := ⟨rfl, rfl, rfl, rfl, rfl, rfl, rfl, rfl, rfl, rfl, rfl⟩
noncomputable abbrev c737 : Code := Tryz.f45.body.getD .skip
theorem s737 {H} (hH : SoundHand Tryz.prog (hand H)) {args out} (n : Nat) (hl : args.length ≤ 27) (hp : match out with | .ret v => pureR v = true | .pan v => pureR v = true) (h : Fin (M737 (hand H) n) Tryz.f45.results.toList (R (M737 (hand H) n) c737 .top ⟨params 0 args, [], fun _ => none, 0⟩) = some out) : SoundPure Tryz.prog 45 args out := sound_of (C := Cx (hand H)) hH good mixed Tryz.func45 rfl hl hp h
noncomputable abbrev M745 (H : FuncId → Option (List V → Option V)) (n : Nat) : Mc := mcOf (Cx H) 46 Tryz.f46 n
theorem m745 (H n) : (M745 H n).E.keep = [0, 1, 2, 6, 7, 8, 9, 14, 15, 16, 17, 18, 30] ∧ (M745 H n).E.cnd = [14, 18, 30] ∧ (M745 H n).E.frz = [7] ∧ (M745 H n).E.pro = [] ∧ (M745 H n).E.imp = [] ∧ (M745 H n).E.n = 32 ∧ (M745 H n).E.lvl = 0 ∧ (M745 H n).E.P = Tryz.prog ∧ (M745 H n).fuel = n ∧ (M745 H n).C = H ∧ (M745 H n).E.ok = okL := ⟨rfl, rfl, rfl, rfl, rfl, rfl, rfl, rfl, rfl, rfl, rfl⟩
noncomputable abbrev c745 : Code := Tryz.f46.body.getD .skip
theorem s745 {H} (hH : SoundHand Tryz.prog (hand H)) {args out} (n : Nat) (hl : args.length ≤ 32) (hp : match out with | .ret v => pureR v = true | .pan v => pureR v = true) (h : Fin (M745 (hand H) n) Tryz.f46.results.toList (R (M745 (hand H) n) c745 .top ⟨params 0 args, [], fun _ => none, 0⟩) = some out) : SoundPure Tryz.prog 46 args out := sound_of (C := Cx (hand H)) hH good mixed Tryz.func46 rfl hl hp h
noncomputable abbrev M746 (H : FuncId → Option (List V → Option V)) (n : Nat) : Mc := mcOf (Cx H) 47 Tryz.f47 n
theorem m746 (H n) : (M746 H n).E.keep = [0, 1, 2, 3, 4] ∧ (M746 H n).E.cnd = [] ∧ (M746 H n).E.frz = [2, 3] ∧ (M746 H n).E.pro = [] ∧ (M746 H n).E.imp = [] ∧ (M746 H n).E.n = 17 ∧ (M746 H n).E.lvl = 0 ∧ (M746 H n).E.P = Tryz.prog ∧ (M746 H n).fuel = n ∧ (M746 H n).C = H ∧ (M746 H n).E.ok = okL := ⟨rfl, rfl, rfl, rfl, rfl, rfl, rfl, rfl, rfl, rfl, rfl⟩
noncomputable abbrev c746 : Code := Tryz.f47.body.getD .skip
theorem s746 {H} (hH : SoundHand Tryz.prog (hand H)) {args out} (n : Nat) (hl : args.length ≤ 17) (hp : match out with | .ret v => pureR v = true | .pan v => pureR v = true) (h : Fin (M746 (hand H) n) Tryz.f47.results.toList (R (M746 (hand H) n) c746 .top ⟨params 0 args, [], fun _ => none, 0⟩) = some out) : SoundPure Tryz.prog 47 args out := sound_of (C := Cx (hand H)) hH good mixed Tryz.func47 rfl hl hp h
noncomputable abbrev M1049 (H : FuncId → Option (List V → Option V)) (n : Nat) : Mc := mcOf (Cx H) 49 Tryz.f49 n
theorem m1049 (H n) : (M1049 H n).E.keep = [0, 1, 2, 6, 7, 8, 9, 10, 11, 12, 13, 18, 22, 35, 41, 71, 95, 96, 100, 132] ∧ (M1049 H n).E.cnd = [18, 22, 35, 41, 71, 95, 96, 100, 132] ∧ (M1049 H n).E.frz = [2, 8, 10, 11, 12, 13] ∧ (M1049 H n).E.pro = [] ∧ (M1049 H n).E.imp = [] ∧ (M1049 H n).E.n = 157 ∧ (M1049 H n).E.lvl = 0 ∧ (M1049 H n).E.P = Tryz.prog ∧ (M1049 H n).fuel = n ∧ (M1049 H n).C = H ∧ (M1049 H n).E.ok = okL := ⟨rfl, rfl, rfl, rfl, rfl, rfl, rfl, rfl, rfl, rfl, rfl⟩
noncomputable abbrev c1049 : Code := Tryz.f49.body.getD .skip
theorem s1049 {H} (hH : SoundHand Tryz.prog (hand H)) {args out} (n : Nat) (hl : args.length ≤ 157) (hp : match out with | .ret v => pureR v = true | .pan v => pureR v = true) (h : Fin (M1049 (hand H) n) Tryz.f49.results.toList (R (M1049 (hand H) n) c1049 .top ⟨params 0 args, [], fun _ => none, 0⟩) = some out) : SoundPure Tryz.prog 49 args out := sound_of (C := Cx (hand H)) hH good mixed Tryz.func49 rfl hl hp h
noncomputable abbrev M734 (H : FuncId → Option (List V → Option V)) (n : Nat) : Mc := mcOf (Cx H) 50 Tryz.f50 n
theorem m734 (H n) : (M734 H n).E.keep = [0, 2, 3, 4, 18, 29] ∧ (M734 H n).E.cnd = [18, 29] ∧ (M734 H n).E.frz = [] ∧ (M734 H n).E.pro = [] ∧ (M734 H n).E.imp = [] ∧ (M734 H n).E.n = 32 ∧ (M734 H n).E.lvl = 0 ∧ (M734 H n).E.P = Tryz.prog ∧ (M734 H n).fuel = n ∧ (M734 H n).C = H ∧ (M734 H n).E.ok = okL := ⟨rfl, rfl, rfl, rfl, rfl, rfl, rfl, rfl, rfl, rfl, rfl⟩
noncomputable abbrev c734 : Code := Tryz.f50.body.getD .skip
theorem s734 {H} (hH : SoundHand Tryz.prog (hand H)) {args out} (n : Nat) (hl : args.length ≤ 32) (hp : match out with | .ret v => pureR v = true | .pan v => pureR v = true) (h : Fin (M734 (hand H) n) Tryz.f50.results.toList (R (M734 (hand H) n) c734 .top ⟨params 0 args, [], fun _ => none, 0⟩) = some out) : SoundPure Tryz.prog 50 args out := sound_of (C := Cx (hand H)) hH good mixed Tryz.func50 rfl hl hp h
noncomputable abbrev M743 (H : FuncId → Option (List V → Option V)) (n : Nat) : Mc := mcOf (Cx H) 52 Tryz.f52 n
theorem m743 (H n) : (M743 H n).E.keep = [0, 1, 4, 5, 7, 8, 9, 10, 11, 12, 13, 22] ∧ (M743 H n).E.cnd = [13, 22] ∧ (M743 H n).E.frz = [8, 9] ∧ (M743 H n).E.pro = [5] ∧ (M743 H n).E.imp = [] ∧ (M743 H n).E.n = 41 ∧ (M743 H n).E.lvl = 0 ∧ (M743 H n).E.P = Tryz.prog ∧ (M743 H n).fuel = n ∧ (M743 H n).C = H ∧ (M743 H n).E.ok = okL := ⟨rfl, rfl, rfl, rfl, rfl, rfl, rfl, rfl, rfl, rfl, rfl⟩
noncomputable abbrev c743 : Code := Tryz.f52.body.getD .skip
theorem s743 {H} (hH : SoundHand Tryz.prog (hand H)) {args out} (n : Nat) (hl : args.length ≤ 41) (hp : match out with | .ret v => pureR v = true | .pan v => pureR v = true) (h : Fin (M743 (hand H) n) Tryz.f52.results.toList (R (M743 (hand H) n) c743 .top ⟨params 0 args, [], fun _ => none, 0⟩) = some out) : SoundPure Tryz.prog 52 args out := sound_of (C := Cx (hand H)) hH good mixed Tryz.func52 rfl hl hp h
noncomputable abbrev M744 (H : FuncId → Option (List V → Option V)) (n : Nat) : Mc := mcOf (Cx H) 53 Tryz.f53 n
theorem m744 (H n) : (M744 H n).E.keep = [0, 2, 3, 5, 7, 8, 9, 10] ∧ (M744 H n).E.cnd = [10] ∧ (M744 H n).E.frz = [] ∧ (M744 H n).E.pro = [] ∧ (M744 H n).E.imp = [] ∧ (M744 H n).E.n = 20 ∧ (M744 H n).E.lvl = 0 ∧ (M744 H n).E.P = Tryz.prog ∧ (M744 H n).fuel = n ∧ (M744 H n).C = H ∧ (M744 H n).E.ok = okL := ⟨rfl, rfl, rfl, rfl, rfl, rfl, rfl, rfl, rfl, rfl, rfl⟩
noncomputable abbrev c744 : Code := Tryz.f53.body.getD .skip
theorem s744 {H} (hH : SoundHand Tryz.prog (hand H)) {args out} (n : Nat) (hl : args.length ≤ 20) (hp : match out with | .ret v => pureR v = true | .pan v => pureR v = true) (h : Fin (M744 (hand H) n) Tryz.f53.results.toList (R (M744 (hand H) n) c744 .top ⟨params 0 args, [], fun _ => none, 0⟩) = some out) : SoundPure Tryz.prog 53 args out := sound_of (C := Cx (hand H)) hH good mixed Tryz.func53 rfl hl hp h
noncomputable abbrev M1054 (H : FuncId → Option (List V → Option V)) (n : Nat) : Mc := mcOf (Cx H) 54 Tryz.f54 n
theorem m1054 (H n) : (M1054 H n).E.keep = [0, 2, 5, 8] ∧ (M1054 H n).E.cnd = [5, 8] ∧ (M1054 H n).E.frz = [] ∧ (M1054 H n).E.pro = [] ∧ (M1054 H n).E.imp = [] ∧ (M1054 H n).E.n = 9 ∧ (M1054 H n).E.lvl = 0 ∧ (M1054 H n).E.P = Tryz.prog ∧ (M1054 H n).fuel = n ∧ (M1054 H n).C = H ∧ (M1054 H n).E.ok = okL := ⟨rfl, rfl, rfl, rfl, rfl, rfl, rfl, rfl, rfl, rfl, rfl⟩
noncomputable abbrev c1054 : Code := Tryz.f54.body.getD .skip
theorem s1054 {H} (hH : SoundHand Tryz.prog (hand H)) {args out} (n : Nat) (hl : args.length ≤ 9) (hp : match out with | .ret v => pureR v = true | .pan v => pureR v = true) (h : Fin (M1054 (hand H) n) Tryz.f54.results.toList (R (M1054 (hand H) n) c1054 .top ⟨params 0 args, [], fun _ => none, 0⟩) = some out) : SoundPure Tryz.prog 54 args out := sound_of (C := Cx (hand H)) hH good mixed Tryz.func54 rfl hl hp h
noncomputable abbrev M1055 (H : FuncId → Option (List V → Option V)) (n : Nat) : Mc := mcOf (Cx H) 55 Tryz.f55 n
theorem m1055 (H n) : (M1055 H n).E.keep = [0, 2, 4] ∧ (M1055 H n).E.cnd = [4] ∧ (M1055 H n).E.frz = [] ∧ (M1055 H n).E.pro = [] ∧ (M1055 H n).E.imp = [] ∧ (M1055 H n).E.n = 20 ∧ (M1055 H n).E.lvl = 0 ∧ (M1055 H n).E.P = Tryz.prog ∧ (M1055 H n).fuel = n ∧ (M1055 H n).C = H ∧ (M1055 H n).E.ok = okL := ⟨rfl, rfl, rfl, rfl, rfl, rfl, rfl, rfl, rfl, rfl, rfl⟩
noncomputable abbrev c1055 : Code := Tryz.f55.body.getD .skip
theorem s1055 {H} (hH : SoundHand Tryz.prog (hand H)) {args out} (n : Nat) (hl : args.length ≤ 20) (hp : match out with | .ret v => pureR v = true | .pan v => pureR v = true) (h : Fin (M1055 (hand H) n) Tryz.f55.results.toList (R (M1055 (hand H) n) c1055 .top ⟨params 0 args, [], fun _ => none, 0⟩) = some out) : SoundPure Tryz.prog 55 args out := sound_of (C := Cx (hand H)) hH good mixed Tryz.func55 rfl hl hp h
noncomputable abbrev M759 (H : FuncId → Option (List V → Option V)) (n : Nat) : Mc := mcOf (Cx H) 56 Tryz.f56 n
theorem m759 (H n) : (M759 H n).E.keep = [0, 1, 4, 5, 6, 7, 8, 9, 14, 22, 30] ∧ (M759 H n).E.cnd = [14, 22, 30] ∧ (M759 H n).E.frz = [6, 8, 9] ∧ (M759 H n).E.pro = [] ∧ (M759 H n).E.imp = [] ∧ (M759 H n).E.n = 55 ∧ (M759 H n).E.lvl = 0 ∧ (M759 H n).E.P = Tryz.prog ∧ (M759 H n).fuel = n ∧ (M759 H n).C = H ∧ (M759 H n).E.ok = okL := ⟨rfl, rfl, rfl, rfl, rfl, rfl, rfl, rfl, rfl, rfl, rfl⟩
noncomputable abbrev c759 : Code := Tryz.f56.body.getD .skip
theorem s759 {H} (hH : SoundHand Tryz.prog (hand H)) {args out} (n : Nat) (hl : args.length ≤ 55) (hp : match out with | .ret v => pureR v = true | .pan v => pureR v = true) (h : Fin (M759 (hand H) n) Tryz.f56.results.toList (R (M759 (hand H) n) c759 .top ⟨params 0 args, [], fun _ => none, 0⟩) = some out) : SoundPure Tryz.prog 56 args out := sound_of (C := Cx (hand H)) hH good mixed Tryz.func56 rfl hl hp h
noncomputable abbrev M329 (H : FuncId → Option (List V → Option V)) (n : Nat) : Mc := mcOf (Cx H) 57 Tryz.f57 n
theorem m329 (H n) : (M329 H n).E.keep = [0, 1, 4, 5, 6, 7, 17, 30, 41, 54, 68, 74, 79] ∧ (M329 H n).E.cnd = [17, 30, 41, 54, 68, 74, 79] ∧ (M329 H n).E.frz = [5] ∧ (M329 H n).E.pro = [] ∧ (M329 H n).E.imp = [] ∧ (M329 H n).E.n = 80 ∧ (M329 H n).E.lvl = 0 ∧ (M329 H n).E.P = Tryz.prog ∧ (M329 H n).fuel = n ∧ (M329 H n).C = H ∧ (M329 H n).E.ok = okL := ⟨rfl, rfl, rfl, rfl, rfl, rfl, rfl, rfl, rfl, rfl, rfl⟩
noncomputable abbrev c329 : Code := Tryz.f57.body.getD .skip
theorem s329 {H} (hH : SoundHand Tryz.prog (hand H)) {args out} (n : Nat) (hl : args.length ≤ 80) (hp : match out with | .ret v => pureR v = true | .pan v => pureR v = true) (h : Fin (M329 (hand H) n) Tryz.f57.results.toList (R (M329 (hand H) n) c329 .top ⟨params 0 args, [], fun _ => none, 0⟩) = some out) : SoundPure Tryz.prog 57 args out := sound_of (C := Cx (hand H)) hH good mixed Tryz.func57 rfl hl hp h
noncomputable abbrev M788 (H : FuncId → Option (List V → Option V)) (n : Nat) : Mc := mcOf (Cx H) 59 Tryz.f59 n
theorem m788 (H n) : (M788 H n).E.keep = [0, 1, 2] ∧ (M788 H n).E.cnd = [] ∧ (M788 H n).E.frz = [1] ∧ (M788 H n).E.pro = [] ∧ (M788 H n).E.imp = [] ∧ (M788 H n).E.n = 16 ∧ (M788 H n).E.lvl = 0 ∧ (M788 H n).E.P = Tryz.prog ∧ (M788 H n).fuel = n ∧ (M788 H n).C = H ∧ (M788 H n).E.ok = okL := ⟨rfl, rfl, rfl, rfl, rfl, rfl, rfl, rfl, rfl, rfl, rfl⟩
noncomputable abbrev c788 : Code := Tryz.f59.body.getD .skip
theorem s788 {H} (hH : SoundHand Tryz.prog (hand H)) {args out} (n : Nat) (hl : args.length ≤ 16) (hp : match out with | .ret v => pureR v = true | .pan v => pureR v = true) (h : Fin (M788 (hand H) n) Tryz.f59.results.toList (R (M788 (hand H) n) c788 .top ⟨params 0 args, [], fun _ => none, 0⟩) = some out) : SoundPure Tryz.prog 59 args out := sound_of (C := Cx (hand H)) hH good mixed Tryz.func59 rfl hl hp h
noncomputable abbrev M1060 (H : FuncId → Option (List V → Option V)) (n : Nat) : Mc := mcOf (Cx H) 60 Tryz.f60 n
theorem m1060 (H n) : (M1060 H n).E.keep = [0, 2, 3, 4, 22, 26, 38, 48] ∧ (M1060 H n).E.cnd = [22, 26, 38, 48] ∧ (M1060 H n).E.frz = [4] ∧ (M1060 H n).E.pro = [] ∧ (M1060 H n).E.imp = [] ∧ (M1060 H n).E.n = 50 ∧ (M1060 H n).E.lvl = 0 ∧ (M1060 H n).E.P = Tryz.prog ∧ (M1060 H n).fuel = n ∧ (M1060 H n).C = H ∧ (M1060 H n).E.ok = okL := ⟨rfl, rfl, rfl, rfl, rfl, rfl, rfl, rfl, rfl, rfl, rfl⟩
noncomputable abbrev c1060 : Code := Tryz.f60.body.getD .skip
theorem s1060 {H} (hH : SoundHand Tryz.prog (hand H)) {args out} (n : Nat) (hl : args.length ≤ 50) (hp : match out with | .ret v => pureR v = true | .pan v => pureR v = true) (h : Fin (M1060 (hand H) n) Tryz.f60.results.toList (R (M1060 (hand H) n) c1060 .top ⟨params 0 args, [], fun _ => none, 0⟩) = some out) : SoundPure Tryz.prog 60 args out := sound_of (C := Cx (hand H)) hH good mixed Tryz.func60 rfl hl hp h
noncomputable abbrev M740 (H : FuncId → Option (List V → Option V)) (n : Nat) : Mc := mcOf (Cx H) 61 Tryz.f61 n
theorem m740 (H n) : (M740 H n).E.keep = [0, 1, 3, 4, 5, 6, 8, 9, 13, 16, 18, 19, 28] ∧ (M740 H n).E.cnd = [13, 16, 28] ∧ (M740 H n).E.frz = [3] ∧ (M740 H n).E.pro = [] ∧ (M740 H n).E.imp = [] ∧ (M740 H n).E.n = 29 ∧ (M740 H n).E.lvl = 0 ∧ (M740 H n).E.P = Tryz.prog ∧ (M740 H n).fuel = n ∧ (M740 H n).C = H ∧ (M740 H n).E.ok = okL := ⟨rfl, rfl, rfl, rfl, rfl, rfl, rfl, rfl, rfl, rfl, rfl⟩
noncomputable abbrev c740 : Code := Tryz.f61.body.getD .skip
theorem s740 {H} (hH : SoundHand Tryz.prog (hand H)) {args out} (n : Nat) (hl : args.length ≤ 29) (hp : match out with | .ret v => pureR v = true | .pan v => pureR v = true) (h : Fin (M740 (hand H) n) Tryz.f61.results.toList (R (M740 (hand H) n) c740 .top ⟨params 0 args, [], fun _ => none, 0⟩) = some out) : SoundPure Tryz.prog 61 args out := sound_of (C := Cx (hand H)) hH good mixed Tryz.func61 rfl hl hp h
noncomputable abbrev M753 (H : FuncId → Option (List V → Option V)) (n : Nat) : Mc := mcOf (Cx H) 62 Tryz.f62 n
theorem m753 (H n) : (M753 H n).E.keep = [0, 1, 2] ∧ (M753 H n).E.cnd = [] ∧ (M753 H n).E.frz = [1] ∧ (M753 H n).E.pro = [] ∧ (M753 H n).E.imp = [] ∧ (M753 H n).E.n = 4 ∧ (M753 H n).E.lvl = 0 ∧ (M753 H n).E.P = Tryz.prog ∧ (M753 H n).fuel = n ∧ (M753 H n).C = H ∧ (M753 H n).E.ok = okL := ⟨rfl, rfl, rfl, rfl, rfl, rfl, rfl, rfl, rfl, rfl, rfl⟩
noncomputable abbrev c753 : Code := Tryz.f62.body.getD .skip
theorem s753 {H} (hH : SoundHand Tryz.prog (hand H)) {args out} (n : Nat) (hl : args.length ≤ 4) (hp : match out with | .ret v => pureR v = true | .pan v => pureR v = true) (h : Fin (M753 (hand H) n) Tryz.f62.results.toList (R (M753 (hand H) n) c753 .top ⟨params 0 args, [], fun _ => none, 0⟩) = some out) : SoundPure Tryz.prog 62 args out := sound_of (C := Cx (hand H)) hH good mixed Tryz.func62 rfl hl hp h
noncomputable abbrev M757 (H : FuncId → Option (List V → Option V)) (n : Nat) : Mc := mcOf (Cx H) 64 Tryz.f64 n
theorem m757 (H n) : (M757 H n).E.keep = [0, 1, 4, 5, 6, 13, 15, 19] ∧ (M757 H n).E.cnd = [13, 15, 19] ∧ (M757 H n).E.frz = [5, 6] ∧ (M757 H n).E.pro = [] ∧ (M757 H n).E.imp = [] ∧ (M757 H n).E.n = 20 ∧ (M757 H n).E.lvl = 0 ∧ (M757 H n).E.P = Tryz.prog ∧ (M757 H n).fuel = n ∧ (M757 H n).C = H ∧ (M757 H n).E.ok = okL := ⟨rfl, rfl, rfl, rfl, rfl, rfl, rfl, rfl, rfl, rfl, rfl⟩
noncomputable abbrev c757 : Code := Tryz.f64.body.getD .skip
theorem s757 {H} (hH : SoundHand Tryz.prog (hand H)) {args out} (n : Nat) (hl : args.length ≤ 20) (hp : match out with | .ret v => pureR v = true | .pan v => pureR v = true) (h : Fin (M757 (hand H) n) Tryz.f64.results.toList (R (M757 (hand H) n) c757 .top ⟨params 0 args, [], fun _ => none, 0⟩) = some out) : SoundPure Tryz.prog 64 args out := sound_of (C := Cx (hand H)) hH good mixed Tryz.func64 rfl hl hp h
noncomputable abbrev M1065 (H : FuncId → Option (List V → Option V)) (n : Nat) : Mc := mcOf (Cx H) 65 Tryz.f65 n
theorem m1065 (H n) : (M1065 H n).E.keep = [0, 1, 4, 5, 6, 10, 25] ∧ (M1065 H n).E.cnd = [10, 25] ∧ (M1065 H n).E.frz = [5, 6] ∧ (M1065 H n).E.pro = [] ∧ (M1065 H n).E.imp = [] ∧ (M1065 H n).E.n = 40 ∧ (M1065 H n).E.lvl = 0 ∧ (M1065 H n).E.P = Tryz.prog ∧ (M1065 H n).fuel = n ∧ (M1065 H n).C = H ∧ (M1065 H n).E.ok = okL := ⟨rfl, rfl, rfl, rfl, rfl, rfl, rfl, rfl, rfl, rfl, rfl⟩
noncomputable abbrev c1065 : Code := Tryz.f65.body.getD .skip
theorem s1065 {H} (hH : SoundHand Tryz.prog (hand H)) {args out} (n : Nat) (hl : args.length ≤ 40) (hp : match out with | .ret v => pureR v = true | .pan v => pureR v = true) (h : Fin (M1065 (hand H) n) Tryz.f65.results.toList (R (M1065 (hand H) n) c1065 .top ⟨params 0 args, [], fun _ => none, 0⟩) = some out) : SoundPure Tryz.prog 65 args out := sound_of (C := Cx (hand H)) hH good mixed Tryz.func65 rfl hl hp h
noncomputable abbrev c781 : Code := Tryz.f66.body.getD .skip
noncomputable abbrev M725 (H : FuncId → Option (List V → Option V)) (n : Nat) : Mc := mcOf (Cx H) 67 Tryz.f67 n
theorem m725 (H n) : (M725 H n).E.keep = [0, 1, 2] ∧ (M725 H n).E.cnd = [] ∧ (M725 H n).E.frz = [1] ∧ (M725 H n).E.pro = [] ∧ (M725 H n).E.imp = [] ∧ (M725 H n).E.n = 11 ∧ (M725 H n).E.lvl = 0 ∧ (M725 H n).E.P = Tryz.prog ∧ (M725 H n).fuel = n ∧ (M725 H n).C = H ∧ (M725 H n).E.ok = okL := ⟨rfl, rfl, rfl, rfl, rfl, rfl, rfl, rfl, rfl, rfl, rfl⟩
noncomputable abbrev c725 : Code := Tryz.f67.body.getD .skip
theorem s725 {H} (hH : SoundHand Tryz.prog (hand H)) {args out} (n : Nat) (hl : args.length ≤ 11) (hp : match out with | .ret v => pureR v = true | .pan v => pureR v = true) (h : Fin (M725 (hand H) n) Tryz.f67.results.toList (R (M725 (hand H) n) c725 .top ⟨params 0 args, [], fun _ => none, 0⟩) = some out) : SoundPure Tryz.prog 67 args out := sound_of (C := Cx (hand H)) hH good mixed Tryz.func67 rfl hl hp h
noncomputable abbrev M789 (H : FuncId → Option (List V → Option V)) (n : Nat) : Mc := mcOf (Cx H) 68 Tryz.f68 n
theorem m789 (H n) : (M789 H n).E.keep = [0, 1, 2, 5, 11] ∧ (M789 H n).E.cnd = [5, 11] ∧ (M789 H n).E.frz = [1] ∧ (M789 H n).E.pro = [] ∧ (M789 H n).E.imp = [] ∧ (M789 H n).E.n = 18 ∧ (M789 H n).E.lvl = 0 ∧ (M789 H n).E.P = Tryz.prog ∧ (M789 H n).fuel = n ∧ (M789 H n).C = H ∧ (M789 H n).E.ok = okL := ⟨rfl, rfl, rfl, rfl, rfl, rfl, rfl, rfl, rfl, rfl, rfl⟩
noncomputable abbrev c789 : Code := Tryz.f68.body.getD .skip
theorem s789 {H} (hH : SoundHand Tryz.prog (hand H)) {args out} (n : Nat) (hl : args.length ≤ 18) (hp : match out with | .ret v => pureR v = true | .pan v => pureR v = true) (h : Fin (M789 (hand H) n) Tryz.f68.results.toList (R (M789 (hand H) n) c789 .top ⟨params 0 args, [], fun _ => none, 0⟩) = some out) : SoundPure Tryz.prog 68 args out := sound_of (C := Cx (hand H)) hH good mixed Tryz.func68 rfl hl hp h
noncomputable abbrev M735 (H : FuncId → Option (List V → Option V)) (n : Nat) : Mc := mcOf (Cx H) 69 Tryz.f69 n
theorem m735 (H n) : (M735 H n).E.keep = [0, 1, 2, 4, 5, 9, 13] ∧ (M735 H n).E.cnd = [5, 9, 13] ∧ (M735 H n).E.frz = [2, 5, 9, 13] ∧ (M735 H n).E.pro = [] ∧ (M735 H n).E.imp = [] ∧ (M735 H n).E.n = 40 ∧ (M735 H n).E.lvl = 0 ∧ (M735 H n).E.P = Tryz.prog ∧ (M735 H n).fuel = n ∧ (M735 H n).C = H ∧ (M735 H n).E.ok = okL := ⟨rfl, rfl, rfl, rfl, rfl, rfl, rfl, rfl, rfl, rfl, rfl⟩
noncomputable abbrev c735 : Code := Tryz.f69.body.getD .skip
theorem s735 {H} (hH : SoundHand Tryz.prog (hand H)) {args out} (n : Nat) (hl : args.length ≤ 40) (hp : match out with | .ret v => pureR v = true | .pan v => pureR v = true) (h : Fin (M735 (hand H) n) Tryz.f69.results.toList (R (M735 (hand H) n) c735 .top ⟨params 0 args, [], fun _ => none, 0⟩) = some out) : SoundPure Tryz.prog 69 args out := sound_of (C := Cx (hand H)) hH good mixed Tryz.func69 rfl hl hp h
noncomputable abbrev M756 (H : FuncId → Option (List V → Option V)) (n : Nat) : Mc := mcOf (Cx H) 70 Tryz.f70 n
theorem m756 (H n) : (M756 H n).E.keep = [0, 1, 2, 6, 7, 9, 10, 11, 12, 13, 14, 15, 16, 17, 18, 19, 24, 31, 58] ∧ (M756 H n).E.cnd = [19, 24, 31, 58] ∧ (M756 H n).E.frz = [10, 11, 12, 13, 14, 15] ∧ (M756 H n).E.pro = [] ∧ (M756 H n).E.imp = [] ∧ (M756 H n).E.n = 74 ∧ (M756 H n).E.lvl = 0 ∧ (M756 H n).E.P = Tryz.prog ∧ (M756 H n).fuel = n ∧ (M756 H n).C = H ∧ (M756 H n).E.ok = okL := ⟨rfl, rfl, rfl, rfl, rfl, rfl, rfl, rfl, rfl, rfl, rfl⟩
noncomputable abbrev c756 : Code := Tryz.f70.body.getD .skip
theorem s756 {H} (hH : SoundHand Tryz.prog (hand H)) {args out} (n : Nat) (hl : args.length ≤ 74) (hp : match out with | .ret v => pureR v = true | .pan v => pureR v = true) (h : Fin (M756 (hand H) n) Tryz.f70.results.toList (R (M756 (hand H) n) c756 .top ⟨params 0 args, [], fun _ => none, 0⟩) = some out) : SoundPure Tryz.prog 70 args out := sound_of (C := Cx (hand H)) hH good mixed Tryz.func70 rfl hl hp h
noncomputable abbrev M773 (H : FuncId → Option (List V → Option V)) (n : Nat) : Mc := mcOf (Cx H) 73 Tryz.f73 n
theorem m773 (H n) : (M773 H n).E.keep = [0, 2, 4] ∧ (M773 H n).E.cnd = [4] ∧ (M773 H n).E.frz = [] ∧ (M773 H n).E.pro = [] ∧ (M773 H n).E.imp = [] ∧ (M773 H n).E.n = 8 ∧ (M773 H n).E.lvl = 0 ∧ (M773 H n).E.P = Tryz.prog ∧ (M773 H n).fuel = n ∧ (M773 H n).C = H ∧ (M773 H n).E.ok = okL := ⟨rfl, rfl, rfl, rfl, rfl, rfl, rfl, rfl, rfl, rfl, rfl⟩
noncomputable abbrev c773 : Code := Tryz.f73.body.getD .skip
theorem s773 {H} (hH : SoundHand Tryz.prog (hand H)) {args out} (n : Nat) (hl : args.length ≤ 8) (hp : match out with | .ret v => pureR v = true | .pan v => pureR v = true) (h : Fin (M773 (hand H) n) Tryz.f73.results.toList (R (M773 (hand H) n) c773 .top ⟨params 0 args, [], fun _ => none, 0⟩) = some out) : SoundPure Tryz.prog 73 args out := sound_of (C := Cx (hand H)) hH good mixed Tryz.func73 rfl hl hp h
noncomputable abbrev c767 : Code := Tryz.f77.body.getD .skip
noncomputable abbrev c768 : Code := Tryz.f78.body.getD .skip
noncomputable abbrev M763 (H : FuncId → Option (List V → Option V)) (n : Nat) : Mc := mcOf (Cx H) 81 Tryz.f81 n
theorem m763 (H n) : (M763 H n).E.keep = [0, 1, 2, 4, 5, 10, 18, 20, 21, 27, 44, 49] ∧ (M763 H n).E.cnd = [5, 10, 18, 21, 27, 44] ∧ (M763 H n).E.frz = [1, 5, 10, 21, 27, 44, 49] ∧ (M763 H n).E.pro = [] ∧ (M763 H n).E.imp = [] ∧ (M763 H n).E.n = 67 ∧ (M763 H n).E.lvl = 0 ∧ (M763 H n).E.P = Tryz.prog ∧ (M763 H n).fuel = n ∧ (M763 H n).C = H ∧ (M763 H n).E.ok = okL := ⟨rfl, rfl, rfl, rfl, rfl, rfl, rfl, rfl, rfl, rfl, rfl⟩
noncomputable abbrev c763 : Code := Tryz.f81.body.getD .skip
theorem s763 {H} (hH : SoundHand Tryz.prog (hand H)) {args out} (n : Nat) (hl : args.length ≤ 67) (hp : match out with | .ret v => pureR v = true | .pan v => pureR v = true) (h : Fin (M763 (hand H) n) Tryz.f81.results.toList (R (M763 (hand H) n) c763 .top ⟨params 0 args, [], fun _ => none, 0⟩) = some out) : SoundPure Tryz.prog 81 args out := sound_of (C := Cx (hand H)) hH good mixed Tryz.func81 rfl hl hp h
noncomputable abbrev M770 (H : FuncId → Option (List V → Option V)) (n : Nat) : Mc := mcOf (Cx H) 83 Tryz.f83 n
theorem m770 (H n) : (M770 H n).E.keep = [0, 1, 2, 3, 4, 5, 6, 9] ∧ (M770 H n).E.cnd = [9] ∧ (M770 H n).E.frz = [2] ∧ (M770 H n).E.pro = [] ∧ (M770 H n).E.imp = [] ∧ (M770 H n).E.n = 19 ∧ (M770 H n).E.lvl = 0 ∧ (M770 H n).E.P = Tryz.prog ∧ (M770 H n).fuel = n ∧ (M770 H n).C = H ∧ (M770 H n).E.ok = okL := ⟨rfl, rfl, rfl, rfl, rfl, rfl, rfl, rfl, rfl, rfl, rfl⟩
noncomputable abbrev c770 : Code := Tryz.f83.body.getD .skip
theorem s770 {H} (hH : SoundHand Tryz.prog (hand H)) {args out} (n : Nat) (hl : args.length ≤ 19) (hp : match out with | .ret v => pureR v = true | .pan v => pureR v = true) (h : Fin (M770 (hand H) n) Tryz.f83.results.toList (R (M770 (hand H) n) c770 .top ⟨params 0 args, [], fun _ => none, 0⟩) = some out) : SoundPure Tryz.prog 83 args out := sound_of (C := Cx (hand H)) hH good mixed Tryz.func83 rfl hl hp h
noncomputable abbrev M350 (H : FuncId → Option (List V → Option V)) (n : Nat) : Mc := mcOf (Cx H) 84 Tryz.f84 n
theorem m350 (H n) : (M350 H n).E.keep = [0, 1, 4, 7, 10] ∧ (M350 H n).E.cnd = [7, 10] ∧ (M350 H n).E.frz = [] ∧ (M350 H n).E.pro = [] ∧ (M350 H n).E.imp = [] ∧ (M350 H n).E.n = 11 ∧ (M350 H n).E.lvl = 0 ∧ (M350 H n).E.P = Tryz.prog ∧ (M350 H n).fuel = n ∧ (M350 H n).C = H ∧ (M350 H n).E.ok = okL := ⟨rfl, rfl, rfl, rfl, rfl, rfl, rfl, rfl, rfl, rfl, rfl⟩
noncomputable abbrev c350 : Code := Tryz.f84.body.getD .skip
theorem s350 {H} (hH : SoundHand Tryz.prog (hand H)) {args out} (n : Nat) (hl : args.length ≤ 11) (hp : match out with | .ret v => pureR v = true | .pan v => pureR v = true) (h : Fin (M350 (hand H) n) Tryz.f84.results.toList (R (M350 (hand H) n) c350 .top ⟨params 0 args, [], fun _ => none, 0⟩) = some out) : SoundPure Tryz.prog 84 args out := sound_of (C := Cx (hand H)) hH good mixed Tryz.func84 rfl hl hp h
noncomputable abbrev M766 (H : FuncId → Option (List V → Option V)) (n : Nat) : Mc := mcOf (Cx H) 87 Tryz.f87 n
theorem m766 (H n) : (M766 H n).E.keep = [0, 2, 3, 5, 6, 7, 8, 9, 25] ∧ (M766 H n).E.cnd = [9, 25] ∧ (M766 H n).E.frz = [] ∧ (M766 H n).E.pro = [] ∧ (M766 H n).E.imp = [] ∧ (M766 H n).E.n = 34 ∧ (M766 H n).E.lvl = 0 ∧ (M766 H n).E.P = Tryz.prog ∧ (M766 H n).fuel = n ∧ (M766 H n).C = H ∧ (M766 H n).E.ok = okL := ⟨rfl, rfl, rfl, rfl, rfl, rfl, rfl, rfl, rfl, rfl, rfl⟩
noncomputable abbrev c766 : Code := Tryz.f87.body.getD .skip
theorem s766 {H} (hH : SoundHand Tryz.prog (hand H)) {args out} (n : Nat) (hl : args.length ≤ 34) (hp : match out with | .ret v => pureR v = true | .pan v => pureR v = true) (h : Fin (M766 (hand H) n) Tryz.f87.results.toList (R (M766 (hand H) n) c766 .top ⟨params 0 args, [], fun _ => none, 0⟩) = some out) : SoundPure Tryz.prog 87 args out := sound_of (C := Cx (hand H)) hH good mixed Tryz.func87 rfl hl hp h
noncomputable abbrev c782 : Code := Tryz.f88.body.getD .skip
noncomputable abbrev c783 : Code := Tryz.f89.body.getD .skip
noncomputable abbrev M786 (H : FuncId → Option (List V → Option V)) (n : Nat) : Mc := mcOf (Cx H) 90 Tryz.f90 n
theorem m786 (H n) : (M786 H n).E.keep = [0, 2, 3, 4, 5, 6, 7, 8, 12, 46] ∧ (M786 H n).E.cnd = [12, 46] ∧ (M786 H n).E.frz = [6, 7, 8] ∧ (M786 H n).E.pro = [] ∧ (M786 H n).E.imp = [] ∧ (M786 H n).E.n = 58 ∧ (M786 H n).E.lvl = 0 ∧ (M786 H n).E.P = Tryz.prog ∧ (M786 H n).fuel = n ∧ (M786 H n).C = H ∧ (M786 H n).E.ok = okL := ⟨rfl, rfl, rfl, rfl, rfl, rfl, rfl, rfl, rfl, rfl, rfl⟩
noncomputable abbrev c786 : Code := Tryz.f90.body.getD .skip
theorem s786 {H} (hH : SoundHand Tryz.prog (hand H)) {args out} (n : Nat) (hl : args.length ≤ 58) (hp : match out with | .ret v => pureR v = true | .pan v => pureR v = true) (h : Fin (M786 (hand H) n) Tryz.f90.results.toList (R (M786 (hand H) n) c786 .top ⟨params 0 args, [], fun _ => none, 0⟩) = some out) : SoundPure Tryz.prog 90 args out := sound_of (C := Cx (hand H)) hH good mixed Tryz.func90 rfl hl hp h
noncomputable abbrev M787 (H : FuncId → Option (List V → Option V)) (n : Nat) : Mc := mcOf (Cx H) 91 Tryz.f91 n
theorem m787 (H n) : (M787 H n).E.keep = [0, 1, 4, 5, 9, 36] ∧ (M787 H n).E.cnd = [9, 36] ∧ (M787 H n).E.frz = [5] ∧ (M787 H n).E.pro = [] ∧ (M787 H n).E.imp = [] ∧ (M787 H n).E.n = 37 ∧ (M787 H n).E.lvl = 0 ∧ (M787 H n).E.P = Tryz.prog ∧ (M787 H n).fuel = n ∧ (M787 H n).C = H ∧ (M787 H n).E.ok = okL := ⟨rfl, rfl, rfl, rfl, rfl, rfl, rfl, rfl, rfl, rfl, rfl⟩
noncomputable abbrev c787 : Code := Tryz.f91.body.getD .skip
theorem s787 {H} (hH : SoundHand Tryz.prog (hand H)) {args out} (n : Nat) (hl : args.length ≤ 37) (hp : match out with | .ret v => pureR v = true | .pan v => pureR v = true) (h : Fin (M787 (hand H) n) Tryz.f91.results.toList (R (M787 (hand H) n) c787 .top ⟨params 0 args, [], fun _ => none, 0⟩) = some out) : SoundPure Tryz.prog 91 args out := sound_of (C := Cx (hand H)) hH good mixed Tryz.func91 rfl hl hp h
noncomputable abbrev M1092 (H : FuncId → Option (List V → Option V)) (n : Nat) : Mc := mcOf (Cx H) 92 Tryz.f92 n
theorem m1092 (H n) : (M1092 H n).E.keep = [0, 1, 2, 4, 5, 10, 15] ∧ (M1092 H n).E.cnd = [5, 10, 15] ∧ (M1092 H n).E.frz = [1, 5, 10, 15] ∧ (M1092 H n).E.pro = [] ∧ (M1092 H n).E.imp = [] ∧ (M1092 H n).E.n = 20 ∧ (M1092 H n).E.lvl = 0 ∧ (M1092 H n).E.P = Tryz.prog ∧ (M1092 H n).fuel = n ∧ (M1092 H n).C = H ∧ (M1092 H n).E.ok = okL := ⟨rfl, rfl, rfl, rfl, rfl, rfl, rfl, rfl, rfl, rfl, rfl⟩
noncomputable abbrev c1092 : Code := Tryz.f92.body.getD .skip
theorem s1092 {H} (hH : SoundHand Tryz.prog (hand H)) {args out} (n : Nat) (hl : args.length ≤ 20) (hp : match out with | .ret v => pureR v = true | .pan v => pureR v = true) (h : Fin (M1092 (hand H) n) Tryz.f92.results.toList (R (M1092 (hand H) n) c1092 .top ⟨params 0 args, [], fun _ => none, 0⟩) = some out) : SoundPure Tryz.prog 92 args out := sound_of (C := Cx (hand H)) hH good mixed Tryz.func92 rfl hl hp h
noncomputable abbrev M1093 (H : FuncId → Option (List V → Option V)) (n : Nat) : Mc := mcOf (Cx H) 93 Tryz.f93 n
theorem m1093 (H n) : (M1093 H n).E.keep = [0, 1, 4, 5, 9, 17] ∧ (M1093 H n).E.cnd = [9, 17] ∧ (M1093 H n).E.frz = [5] ∧ (M1093 H n).E.pro = [] ∧ (M1093 H n).E.imp = [] ∧ (M1093 H n).E.n = 18 ∧ (M1093 H n).E.lvl = 0 ∧ (M1093 H n).E.P = Tryz.prog ∧ (M1093 H n).fuel = n ∧ (M1093 H n).C = H ∧ (M1093 H n).E.ok = okL := ⟨rfl, rfl, rfl, rfl, rfl, rfl, rfl, rfl, rfl, rfl, rfl⟩
noncomputable abbrev c1093 : Code := Tryz.f93.body.getD .skip
theorem s1093 {H} (hH : SoundHand Tryz.prog (hand H)) {args out} (n : Nat) (hl : args.length ≤ 18) (hp : match out with | .ret v => pureR v = true | .pan v => pureR v = true) (h : Fin (M1093 (hand H) n) Tryz.f93.results.toList (R (M1093 (hand H) n) c1093 .top ⟨params 0 args, [], fun _ => none, 0⟩) = some out) : SoundPure Tryz.prog 93 args out := sound_of (C := Cx (hand H)) hH good mixed Tryz.func93 rfl hl hp h
noncomputable abbrev M764 (H : FuncId → Option (List V → Option V)) (n : Nat) : Mc := mcOf (Cx H) 94 Tryz.f94 n
theorem m764 (H n) : (M764 H n).E.keep = [0, 1, 2] ∧ (M764 H n).E.cnd = [] ∧ (M764 H n).E.frz = [1] ∧ (M764 H n).E.pro = [] ∧ (M764 H n).E.imp = [] ∧ (M764 H n).E.n = 11 ∧ (M764 H n).E.lvl = 0 ∧ (M764 H n).E.P = Tryz.prog ∧ (M764 H n).fuel = n ∧ (M764 H n).C = H ∧ (M764 H n).E.ok = okL := ⟨rfl, rfl, rfl, rfl, rfl, rfl, rfl, rfl, rfl, rfl, rfl⟩
noncomputable abbrev c764 : Code := Tryz.f94.body.getD .skip
theorem s764 {H} (hH : SoundHand Tryz.prog (hand H)) {args out} (n : Nat) (hl : args.length ≤ 11) (hp : match out with | .ret v => pureR v = true | .pan v => pureR v = true) (h : Fin (M764 (hand H) n) Tryz.f94.results.toList (R (M764 (hand H) n) c764 .top ⟨params 0 args, [], fun _ => none, 0⟩) = some out) : SoundPure Tryz.prog 94 args out := sound_of (C := Cx (hand H)) hH good mixed Tryz.func94 rfl hl hp h
noncomputable abbrev M785 (H : FuncId → Option (List V → Option V)) (n : Nat) : Mc := mcOf (Cx H) 95 Tryz.f95 n
theorem m785 (H n) : (M785 H n).E.keep = [0, 2, 3, 4, 7, 8] ∧ (M785 H n).E.cnd = [] ∧ (M785 H n).E.frz = [] ∧ (M785 H n).E.pro = [] ∧ (M785 H n).E.imp = [110] ∧ (M785 H n).E.n = 14 ∧ (M785 H n).E.lvl = 0 ∧ (M785 H n).E.P = Tryz.prog ∧ (M785 H n).fuel = n ∧ (M785 H n).C = H ∧ (M785 H n).E.ok = okL := ⟨rfl, rfl, rfl, rfl, rfl, rfl, rfl, rfl, rfl, rfl, rfl⟩
noncomputable abbrev c785 : Code := Tryz.f95.body.getD .skip
theorem s785 {H} (hH : SoundHand Tryz.prog (hand H)) {args out} (n : Nat) (hl : args.length ≤ 14) (hp : match out with | .ret v => pureR v = true | .pan v => pureR v = true) (h : Fin (M785 (hand H) n) Tryz.f95.results.toList (R (M785 (hand H) n) c785 .top ⟨params 0 args, [], fun _ => none, 0⟩) = some out) : SoundPure Tryz.prog 95 args out := sound_of (C := Cx (hand H)) hH good mixed Tryz.func95 rfl hl hp h
noncomputable abbrev M791 (H : FuncId → Option (List V → Option V)) (n : Nat) : Mc := mcOf (Cx H) 98 Tryz.f98 n
theorem m791 (H n) : (M791 H n).E.keep = [0, 1, 4] ∧ (M791 H n).E.cnd = [] ∧ (M791 H n).E.frz = [] ∧ (M791 H n).E.pro = [] ∧ (M791 H n).E.imp = [] ∧ (M791 H n).E.n = 22 ∧ (M791 H n).E.lvl = 0 ∧ (M791 H n).E.P = Tryz.prog ∧ (M791 H n).fuel = n ∧ (M791 H n).C = H ∧ (M791 H n).E.ok = okL := ⟨rfl, rfl, rfl, rfl, rfl, rfl, rfl, rfl, rfl, rfl, rfl⟩
noncomputable abbrev c791 : Code := Tryz.f98.body.getD .skip
theorem s791 {H} (hH : SoundHand Tryz.prog (hand H)) {args out} (n : Nat) (hl : args.length ≤ 22) (hp : match out with | .ret v => pureR v = true | .pan v => pureR v = true) (h : Fin (M791 (hand H) n) Tryz.f98.results.toList (R (M791 (hand H) n) c791 .top ⟨params 0 args, [], fun _ => none, 0⟩) = some out) : SoundPure Tryz.prog 98 args out := sound_of (C := Cx (hand H)) hH good mixed Tryz.func98 rfl hl hp h
noncomputable abbrev M794 (H : FuncId → Option (List V → Option V)) (n : Nat) : Mc := mcOf (Cx H) 101 Tryz.f101 n
theorem m794 (H n) : (M794 H n).E.keep = [0, 2, 3, 4, 21] ∧ (M794 H n).E.cnd = [21] ∧ (M794 H n).E.frz = [3, 4] ∧ (M794 H n).E.pro = [] ∧ (M794 H n).E.imp = [] ∧ (M794 H n).E.n = 34 ∧ (M794 H n).E.lvl = 0 ∧ (M794 H n).E.P = Tryz.prog ∧ (M794 H n).fuel = n ∧ (M794 H n).C = H ∧ (M794 H n).E.ok = okL := ⟨rfl, rfl, rfl, rfl, rfl, rfl, rfl, rfl, rfl, rfl, rfl⟩
noncomputable abbrev c794 : Code := Tryz.f101.body.getD .skip
theorem s794 {H} (hH : SoundHand Tryz.prog (hand H)) {args out} (n : Nat) (hl : args.length ≤ 34) (hp : match out with | .ret v => pureR v = true | .pan v => pureR v = true) (h : Fin (M794 (hand H) n) Tryz.f101.results.toList (R (M794 (hand H) n) c794 .top ⟨params 0 args, [], fun _ => none, 0⟩) = some out) : SoundPure Tryz.prog 101 args out := sound_of (C := Cx (hand H)) hH good mixed Tryz.func101 rfl hl hp h
noncomputable abbrev M795 (H : FuncId → Option (List V → Option V)) (n : Nat) : Mc := mcOf (Cx H) 102 Tryz.f102 n
theorem m795 (H n) : (M795 H n).E.keep = [0, 1, 4, 5, 7, 8, 9, 16] ∧ (M795 H n).E.cnd = [9, 16] ∧ (M795 H n).E.frz = [5] ∧ (M795 H n).E.pro = [] ∧ (M795 H n).E.imp = [] ∧ (M795 H n).E.n = 18 ∧ (M795 H n).E.lvl = 0 ∧ (M795 H n).E.P = Tryz.prog ∧ (M795 H n).fuel = n ∧ (M795 H n).C = H ∧ (M795 H n).E.ok = okL := ⟨rfl, rfl, rfl, rfl, rfl, rfl, rfl, rfl, rfl, rfl, rfl⟩
noncomputable abbrev c795 : Code := Tryz.f102.body.getD .skip
theorem s795 {H} (hH : SoundHand Tryz.prog (hand H)) {args out} (n : Nat) (hl : args.length ≤ 18) (hp : match out with | .ret v => pureR v = true | .pan v => pureR v = true) (h : Fin (M795 (hand H) n) Tryz.f102.results.toList (R (M795 (hand H) n) c795 .top ⟨params 0 args, [], fun _ => none, 0⟩) = some out) : SoundPure Tryz.prog 102 args out := sound_of (C := Cx (hand H)) hH good mixed Tryz.func102 rfl hl hp h
noncomputable abbrev M805 (H : FuncId → Option (List V → Option V)) (n : Nat) : Mc := mcOf (Cx H) 109 Tryz.f109 n
theorem m805 (H n) : (M805 H n).E.keep = [0, 1, 2, 16, 18, 19, 25, 30, 35, 40, 47] ∧ (M805 H n).E.cnd = [16, 19, 25, 30, 35, 47] ∧ (M805 H n).E.frz = [1, 19, 25, 30, 35, 40, 47] ∧ (M805 H n).E.pro = [] ∧ (M805 H n).E.imp = [] ∧ (M805 H n).E.n = 52 ∧ (M805 H n).E.lvl = 0 ∧ (M805 H n).E.P = Tryz.prog ∧ (M805 H n).fuel = n ∧ (M805 H n).C = H ∧ (M805 H n).E.ok = okL := ⟨rfl, rfl, rfl, rfl, rfl, rfl, rfl, rfl, rfl, rfl, rfl⟩
noncomputable abbrev c805 : Code := Tryz.f109.body.getD .skip
theorem s805 {H} (hH : SoundHand Tryz.prog (hand H)) {args out} (n : Nat) (hl : args.length ≤ 52) (hp : match out with | .ret v => pureR v = true | .pan v => pureR v = true) (h : Fin (M805 (hand H) n) Tryz.f109.results.toList (R (M805 (hand H) n) c805 .top ⟨params 0 args, [], fun _ => none, 0⟩) = some out) : SoundPure Tryz.prog 109 args out := sound_of (C := Cx (hand H)) hH good mixed Tryz.func109 rfl hl hp h
noncomputable abbrev M812 (H : FuncId → Option (List V → Option V)) (n : Nat) : Mc := mcOf (Cx H) 117 Tryz.f117 n
theorem m812 (H n) : (M812 H n).E.keep = [0, 1, 4, 5] ∧ (M812 H n).E.cnd = [] ∧ (M812 H n).E.frz = [] ∧ (M812 H n).E.pro = [] ∧ (M812 H n).E.imp = [] ∧ (M812 H n).E.n = 11 ∧ (M812 H n).E.lvl = 0 ∧ (M812 H n).E.P = Tryz.prog ∧ (M812 H n).fuel = n ∧ (M812 H n).C = H ∧ (M812 H n).E.ok = okL := ⟨rfl, rfl, rfl, rfl, rfl, rfl, rfl, rfl, rfl, rfl, rfl⟩
noncomputable abbrev c812 : Code := Tryz.f117.body.getD .skip
theorem s812 {H} (hH : SoundHand Tryz.prog (hand H)) {args out} (n : Nat) (hl : args.length ≤ 11) (hp : match out with | .ret v => pureR v = true | .pan v => pureR v = true) (h : Fin (M812 (hand H) n) Tryz.f117.results.toList (R (M812 (hand H) n) c812 .top ⟨params 0 args, [], fun _ => none, 0⟩) = some out) : SoundPure Tryz.prog 117 args out := sound_of (C := Cx (hand H)) hH good mixed Tryz.func117 rfl hl hp h
noncomputable abbrev M819 (H : FuncId → Option (List V → Option V)) (n : Nat) : Mc := mcOf (Cx H) 125 Tryz.f125 n
theorem m819 (H n) : (M819 H n).E.keep = [0, 2, 3, 7, 19] ∧ (M819 H n).E.cnd = [7, 19] ∧ (M819 H n).E.frz = [3] ∧ (M819 H n).E.pro = [] ∧ (M819 H n).E.imp = [] ∧ (M819 H n).E.n = 27 ∧ (M819 H n).E.lvl = 0 ∧ (M819 H n).E.P = Tryz.prog ∧ (M819 H n).fuel = n ∧ (M819 H n).C = H ∧ (M819 H n).E.ok = okL := ⟨rfl, rfl, rfl, rfl, rfl, rfl, rfl, rfl, rfl, rfl, rfl⟩
noncomputable abbrev c819 : Code := Tryz.f125.body.getD .skip
theorem s819 {H} (hH : SoundHand Tryz.prog (hand H)) {args out} (n : Nat) (hl : args.length ≤ 27) (hp : match out with | .ret v => pureR v = true | .pan v => pureR v = true) (h : Fin (M819 (hand H) n) Tryz.f125.results.toList (R (M819 (hand H) n) c819 .top ⟨params 0 args, [], fun _ => none, 0⟩) = some out) : SoundPure Tryz.prog 125 args out := sound_of (C := Cx (hand H)) hH good mixed Tryz.func125 rfl hl hp h
noncomputable abbrev M820 (H : FuncId → Option (List V → Option V)) (n : Nat) : Mc := mcOf (Cx H) 126 Tryz.f126 n
theorem m820 (H n) : (M820 H n).E.keep = [0, 2, 3, 5, 12, 18, 25] ∧ (M820 H n).E.cnd = [5, 12, 18, 25] ∧ (M820 H n).E.frz = [0, 3] ∧ (M820 H n).E.pro = [] ∧ (M820 H n).E.imp = [] ∧ (M820 H n).E.n = 38 ∧ (M820 H n).E.lvl = 0 ∧ (M820 H n).E.P = Tryz.prog ∧ (M820 H n).fuel = n ∧ (M820 H n).C = H ∧ (M820 H n).E.ok = okL := ⟨rfl, rfl, rfl, rfl, rfl, rfl, rfl, rfl, rfl, rfl, rfl⟩
noncomputable abbrev c820 : Code := Tryz.f126.body.getD .skip
theorem s820 {H} (hH : SoundHand Tryz.prog (hand H)) {args out} (n : Nat) (hl : args.length ≤ 38) (hp : match out with | .ret v => pureR v = true | .pan v => pureR v = true) (h : Fin (M820 (hand H) n) Tryz.f126.results.toList (R (M820 (hand H) n) c820 .top ⟨params 0 args, [], fun _ => none, 0⟩) = some out) : SoundPure Tryz.prog 126 args out := sound_of (C := Cx (hand H)) hH good mixed Tryz.func126 rfl hl hp h
noncomputable abbrev M821 (H : FuncId → Option (List V → Option V)) (n : Nat) : Mc := mcOf (Cx H) 127 Tryz.f127 n
theorem m821 (H n) : (M821 H n).E.keep = [0, 2, 3, 7, 21] ∧ (M821 H n).E.cnd = [7, 21] ∧ (M821 H n).E.frz = [3] ∧ (M821 H n).E.pro = [] ∧ (M821 H n).E.imp = [] ∧ (M821 H n).E.n = 29 ∧ (M821 H n).E.lvl = 0 ∧ (M821 H n).E.P = Tryz.prog ∧ (M821 H n).fuel = n ∧ (M821 H n).C = H ∧ (M821 H n).E.ok = okL := ⟨rfl, rfl, rfl, rfl, rfl, rfl, rfl, rfl, rfl, rfl, rfl⟩
noncomputable abbrev c821 : Code := Tryz.f127.body.getD .skip
theorem s821 {H} (hH : SoundHand Tryz.prog (hand H)) {args out} (n : Nat) (hl : args.length ≤ 29) (hp : match out with | .ret v => pureR v = true | .pan v => pureR v = true) (h : Fin (M821 (hand H) n) Tryz.f127.results.toList (R (M821 (hand H) n) c821 .top ⟨params 0 args, [], fun _ => none, 0⟩) = some out) : SoundPure Tryz.prog 127 args out := sound_of (C := Cx (hand H)) hH good mixed Tryz.func127 rfl hl hp h
noncomputable abbrev M822 (H : FuncId → Option (List V → Option V)) (n : Nat) : Mc := mcOf (Cx H) 128 Tryz.f128 n
theorem m822 (H n) : (M822 H n).E.keep = [0, 1, 4, 5, 19, 23, 30] ∧ (M822 H n).E.cnd = [19, 23, 30] ∧ (M822 H n).E.frz = [5] ∧ (M822 H n).E.pro = [] ∧ (M822 H n).E.imp = [] ∧ (M822 H n).E.n = 31 ∧ (M822 H n).E.lvl = 0 ∧ (M822 H n).E.P = Tryz.prog ∧ (M822 H n).fuel = n ∧ (M822 H n).C = H ∧ (M822 H n).E.ok = okL := ⟨rfl, rfl, rfl, rfl, rfl, rfl, rfl, rfl, rfl, rfl, rfl⟩
noncomputable abbrev c822 : Code := Tryz.f128.body.getD .skip
theorem s822 {H} (hH : SoundHand Tryz.prog (hand H)) {args out} (n : Nat) (hl : args.length ≤ 31) (hp : match out with | .ret v => pureR v = true | .pan v => pureR v = true) (h : Fin (M822 (hand H) n) Tryz.f128.results.toList (R (M822 (hand H) n) c822 .top ⟨params 0 args, [], fun _ => none, 0⟩) = some out) : SoundPure Tryz.prog 128 args out := sound_of (C := Cx (hand H)) hH good mixed Tryz.func128 rfl hl hp h
noncomputable abbrev M827 (H : FuncId → Option (List V → Option V)) (n : Nat) : Mc := mcOf (Cx H) 133 Tryz.f133 n
theorem m827 (H n) : (M827 H n).E.keep = [0, 1, 4, 5, 9] ∧ (M827 H n).E.cnd = [9] ∧ (M827 H n).E.frz = [] ∧ (M827 H n).E.pro = [] ∧ (M827 H n).E.imp = [] ∧ (M827 H n).E.n = 15 ∧ (M827 H n).E.lvl = 0 ∧ (M827 H n).E.P = Tryz.prog ∧ (M827 H n).fuel = n ∧ (M827 H n).C = H ∧ (M827 H n).E.ok = okL := ⟨rfl, rfl, rfl, rfl, rfl, rfl, rfl, rfl, rfl, rfl, rfl⟩
noncomputable abbrev c827 : Code := Tryz.f133.body.getD .skip
theorem s827 {H} (hH : SoundHand Tryz.prog (hand H)) {args out} (n : Nat) (hl : args.length ≤ 15) (hp : match out with | .ret v => pureR v = true | .pan v => pureR v = true) (h : Fin (M827 (hand H) n) Tryz.f133.results.toList (R (M827 (hand H) n) c827 .top ⟨params 0 args, [], fun _ => none, 0⟩) = some out) : SoundPure Tryz.prog 133 args out := sound_of (C := Cx (hand H)) hH good mixed Tryz.func133 rfl hl hp h
noncomputable abbrev M835 (H : FuncId → Option (List V → Option V)) (n : Nat) : Mc := mcOf (Cx H) 141 Tryz.f141 n
theorem m835 (H n) : (M835 H n).E.keep = [0, 2] ∧ (M835 H n).E.cnd = [] ∧ (M835 H n).E.frz = [] ∧ (M835 H n).E.pro = [] ∧ (M835 H n).E.imp = [] ∧ (M835 H n).E.n = 9 ∧ (M835 H n).E.lvl = 0 ∧ (M835 H n).E.P = Tryz.prog ∧ (M835 H n).fuel = n ∧ (M835 H n).C = H ∧ (M835 H n).E.ok = okL := ⟨rfl, rfl, rfl, rfl, rfl, rfl, rfl, rfl, rfl, rfl, rfl⟩
noncomputable abbrev c835 : Code := Tryz.f141.body.getD .skip
theorem s835 {H} (hH : SoundHand Tryz.prog (hand H)) {args out} (n : Nat) (hl : args.length ≤ 9) (hp : match out with | .ret v => pureR v = true | .pan v => pureR v = true) (h : Fin (M835 (hand H) n) Tryz.f141.results.toList (R (M835 (hand H) n) c835 .top ⟨params 0 args, [], fun _ => none, 0⟩) = some out) : SoundPure Tryz.prog 141 args out := sound_of (C := Cx (hand H)) hH good mixed Tryz.func141 rfl hl hp h
noncomputable abbrev M836 (H : FuncId → Option (List V → Option V)) (n : Nat) : Mc := mcOf (Cx H) 142 Tryz.f142 n
theorem m836 (H n) : (M836 H n).E.keep = [0, 2] ∧ (M836 H n).E.cnd = [] ∧ (M836 H n).E.frz = [] ∧ (M836 H n).E.pro = [] ∧ (M836 H n).E.imp = [] ∧ (M836 H n).E.n = 17 ∧ (M836 H n).E.lvl = 0 ∧ (M836 H n).E.P = Tryz.prog ∧ (M836 H n).fuel = n ∧ (M836 H n).C = H ∧ (M836 H n).E.ok = okL := ⟨rfl, rfl, rfl, rfl, rfl, rfl, rfl, rfl, rfl, rfl, rfl⟩
noncomputable abbrev c836 : Code := Tryz.f142.body.getD .skip
theorem s836 {H} (hH : SoundHand Tryz.prog (hand H)) {args out} (n : Nat) (hl : args.length ≤ 17) (hp : match out with | .ret v => pureR v = true | .pan v => pureR v = true) (h : Fin (M836 (hand H) n) Tryz.f142.results.toList (R (M836 (hand H) n) c836 .top ⟨params 0 args, [], fun _ => none, 0⟩) = some out) : SoundPure Tryz.prog 142 args out := sound_of (C := Cx (hand H)) hH good mixed Tryz.func142 rfl hl hp h
noncomputable abbrev M837 (H : FuncId → Option (List V → Option V)) (n : Nat) : Mc := mcOf (Cx H) 143 Tryz.f143 n
theorem m837 (H n) : (M837 H n).E.keep = [0, 2] ∧ (M837 H n).E.cnd = [] ∧ (M837 H n).E.frz = [] ∧ (M837 H n).E.pro = [] ∧ (M837 H n).E.imp = [] ∧ (M837 H n).E.n = 17 ∧ (M837 H n).E.lvl = 0 ∧ (M837 H n).E.P = Tryz.prog ∧ (M837 H n).fuel = n ∧ (M837 H n).C = H ∧ (M837 H n).E.ok = okL := ⟨rfl, rfl, rfl, rfl, rfl, rfl, rfl, rfl, rfl, rfl, rfl⟩
noncomputable abbrev c837 : Code := Tryz.f143.body.getD .skip
theorem s837 {H} (hH : SoundHand Tryz.prog (hand H)) {args out} (n : Nat) (hl : args.length ≤ 17) (hp : match out with | .ret v => pureR v = true | .pan v => pureR v = true) (h : Fin (M837 (hand H) n) Tryz.f143.results.toList (R (M837 (hand H) n) c837 .top ⟨params 0 args, [], fun _ => none, 0⟩) = some out) : SoundPure Tryz.prog 143 args out := sound_of (C := Cx (hand H)) hH good mixed Tryz.func143 rfl hl hp h
noncomputable abbrev M838 (H : FuncId → Option (List V → Option V)) (n : Nat) : Mc := mcOf (Cx H) 144 Tryz.f144 n
theorem m838 (H n) : (M838 H n).E.keep = [0, 1, 4] ∧ (M838 H n).E.cnd = [] ∧ (M838 H n).E.frz = [] ∧ (M838 H n).E.pro = [] ∧ (M838 H n).E.imp = [] ∧ (M838 H n).E.n = 18 ∧ (M838 H n).E.lvl = 0 ∧ (M838 H n).E.P = Tryz.prog ∧ (M838 H n).fuel = n ∧ (M838 H n).C = H ∧ (M838 H n).E.ok = okL := ⟨rfl, rfl, rfl, rfl, rfl, rfl, rfl, rfl, rfl, rfl, rfl⟩
noncomputable abbrev c838 : Code := Tryz.f144.body.getD .skip
theorem s838 {H} (hH : SoundHand Tryz.prog (hand H)) {args out} (n : Nat) (hl : args.length ≤ 18) (hp : match out with | .ret v => pureR v = true | .pan v => pureR v = true) (h : Fin (M838 (hand H) n) Tryz.f144.results.toList (R (M838 (hand H) n) c838 .top ⟨params 0 args, [], fun _ => none, 0⟩) = some out) : SoundPure Tryz.prog 144 args out := sound_of (C := Cx (hand H)) hH good mixed Tryz.func144 rfl hl hp h
theorem oks : okL.contains 2 = true ∧ okL.contains 3 = true ∧ okL.contains 4 = true ∧ okL.contains 5 = true ∧ okL.contains 6 = true ∧ okL.contains 7 = true ∧ okL.contains 8 = true ∧ okL.contains 9 = true ∧ okL.contains 10 = true ∧ okL.contains 11 = true ∧ okL.contains 12 = true ∧ okL.contains 13 = true ∧ okL.contains 14 = true ∧ okL.contains 15 = true ∧ okL.contains 16 = true ∧ okL.contains 17 = true ∧ okL.contains 18 = true ∧ okL.contains 19 = true ∧ okL.contains 20 = true ∧ okL.contains 21 = true ∧ okL.contains 22 = true ∧ okL.contains 23 = true ∧ okL.contains 24 = true ∧ okL.contains 25 = true ∧ okL.contains 26 = true ∧ okL.contains 27 = true ∧ okL.contains 28 = true ∧ okL.contains 29 = true ∧ okL.contains 30 = true ∧ okL.contains 31 = true ∧ okL.contains 32 = true ∧ okL.contains 33 = true ∧ okL.contains 34 = true ∧ okL.contains 35 = true ∧ okL.contains 36 = true ∧ okL.contains 37 = true ∧ okL.contains 38 = true ∧ okL.contains 39 = true ∧ okL.contains 40 = true ∧ okL.contains 41 = true ∧ okL.contains 42 = true ∧ okL.contains 43 = true ∧ okL.contains 44 = true ∧ okL.contains 45 = true ∧ okL.contains 46 = true ∧ okL.contains 47 = true ∧ okL.contains 48 = true ∧ okL.contains 49 = true ∧ okL.contains 50 = true ∧ okL.contains 51 = true ∧ okL.contains 52 = true ∧ okL.contains 53 = true ∧ okL.contains 54 = true ∧ okL.contains 55 = true ∧ okL.contains 56 = true ∧ okL.contains 57 = true ∧ okL.contains 58 = true ∧ okL.contains 59 = true ∧ okL.contains 60 = true ∧ okL.contains 61 = true ∧ okL.contains 62 = true ∧ okL.contains 63 = true ∧ okL.contains 64 = true ∧ okL.contains 65 = true ∧ okL.contains 66 = true ∧ okL.contains 67 = true ∧ okL.contains 68 = true ∧ okL.contains 69 = true ∧ okL.contains 70 = true ∧ okL.contains 71 = true ∧ okL.contains 72 = true ∧ okL.contains 73 = true ∧ okL.contains 74 = true ∧ okL.contains 75 = true ∧ okL.contains 76 = true ∧ okL.contains 77 = true ∧ okL.contains 78 = true ∧ okL.contains 79 = true ∧ okL.contains 80 = true ∧ okL.contains 81 = true ∧ okL.contains 82 = true ∧ okL.contains 83 = true ∧ okL.contains 84 = true ∧ okL.contains 85 = true ∧ okL.contains 86 = true ∧ okL.contains 87 = true ∧ okL.contains 88 = true ∧ okL.contains 89 = true ∧ okL.contains 90 = true ∧ okL.contains 91 = true ∧ okL.contains 92 = true ∧ okL.contains 93 = true ∧ okL.contains 94 = true ∧ okL.contains 95 = true ∧ okL.contains 96 = true ∧ okL.contains 97 = true ∧ okL.contains 98 = true ∧ okL.contains 99 = true ∧ okL.contains 100 = true ∧ okL.contains 101 = true ∧ okL.contains 102 = true ∧ okL.contains 103 = true ∧ okL.contains 104 = true ∧ okL.contains 105 = true ∧ okL.contains 106 = true ∧ okL.contains 107 = true ∧ okL.contains 108 = true ∧ okL.contains 109 = true ∧ okL.contains 110 = true ∧ okL.contains 111 = true ∧ okL.contains 113 = true ∧ okL.contains 114 = true ∧ okL.contains 115 = true ∧ okL.contains 116 = true ∧ okL.contains 117 = true ∧ okL.contains 118 = true ∧ okL.contains 119 = true ∧ okL.contains 120 = true ∧ okL.contains 121 = true ∧ okL.contains 122 = true ∧ okL.contains 123 = true ∧ okL.contains 124 = true ∧ okL.contains 125 = true ∧ okL.contains 126 = true ∧ okL.contains 127 = true ∧ okL.contains 128 = true ∧ okL.contains 130 = true ∧ okL.contains 131 = true ∧ okL.contains 132 = true ∧ okL.contains 133 = true ∧ okL.contains 134 = true ∧ okL.contains 135 = true ∧ okL.contains 136 = true ∧ okL.contains 137 = true ∧ okL.contains 138 = true ∧ okL.contains 139 = true ∧ okL.contains 140 = true ∧ okL.contains 141 = true ∧ okL.contains 142 = true ∧ okL.contains 143 = true ∧ okL.contains 144 = true ∧ okL.contains 145 = true ∧ okL.contains 146 = true := ⟨rfl, rfl, rfl, rfl, rfl, rfl, rfl, rfl, rfl, rfl, rfl, rfl, rfl, rfl, rfl, rfl, rfl, rfl, rfl, rfl, rfl, rfl, rfl, rfl, rfl, rfl, rfl, rfl, rfl, rfl, rfl, rfl, rfl, rfl, rfl, rfl, rfl, rfl, rfl, rfl, rfl, rfl, rfl, rfl, rfl, rfl, rfl, rfl, rfl, rfl, rfl, rfl, rfl, rfl, rfl, rfl, rfl, rfl, rfl, rfl, rfl, rfl, rfl, rfl, rfl, rfl, rfl, rfl, rfl, rfl, rfl, rfl, rfl, rfl, rfl, rfl, rfl, rfl, rfl, rfl, rfl, rfl, rfl, rfl, rfl, rfl, rfl, rfl, rfl, rfl, rfl, rfl, rfl, rfl, rfl, rfl, rfl, rfl, rfl, rfl, rfl, rfl, rfl, rfl, rfl, rfl, rfl, rfl, rfl, rfl, rfl, rfl, rfl, rfl, rfl, rfl, rfl, rfl, rfl, rfl, rfl, rfl, rfl, rfl, rfl, rfl, rfl, rfl, rfl, rfl, rfl, rfl, rfl, rfl, rfl, rfl, rfl, rfl, rfl, rfl, rfl, rfl, rfl⟩
theorem ty :
  szT Tryz.prog 0 = 1 ∧
  aggT Tryz.prog 0 = some false ∧
  bytesT Tryz.prog 0 = 0 ∧
  zeroT Tryz.prog 0 = some V.junk ∧
  szT Tryz.prog 1 = 1 ∧
  aggT Tryz.prog 1 = some false ∧
  bytesT Tryz.prog 1 = 8 ∧
  zeroT Tryz.prog 1 = some V.nilF ∧
  szT Tryz.prog 2 = 1 ∧
  aggT Tryz.prog 2 = some false ∧
  bytesT Tryz.prog 2 = 8 ∧
  zeroT Tryz.prog 2 = some (V.int IntKind.i64 (0)) ∧
  intT Tryz.prog 2 = some IntKind.i64 ∧
  szT Tryz.prog 3 = 1 ∧
  aggT Tryz.prog 3 = some false ∧
  bytesT Tryz.prog 3 = 8 ∧
  zeroT Tryz.prog 3 = some (V.int IntKind.i64 (0)) ∧
  intT Tryz.prog 3 = some IntKind.i64 ∧
  szT Tryz.prog 4 = 1 ∧
  aggT Tryz.prog 4 = some false ∧
  bytesT Tryz.prog 4 = 1 ∧
  zeroT Tryz.prog 4 = some (V.bool false) ∧
  szT Tryz.prog 5 = 1 ∧
  aggT Tryz.prog 5 = some false ∧
  bytesT Tryz.prog 5 = 1 ∧
  zeroT Tryz.prog 5 = some (V.int IntKind.u8 (0)) ∧
  intT Tryz.prog 5 = some IntKind.u8 ∧
  szT Tryz.prog 9 = 1 ∧
  aggT Tryz.prog 9 = some false ∧
  bytesT Tryz.prog 9 = 16 ∧
  zeroT Tryz.prog 9 = some (V.str []) ∧
  strT Tryz.prog 9 = true ∧
  rowT Tryz.prog 9 = true ∧
  szT Tryz.prog 20 = 1 ∧
  aggT Tryz.prog 20 = some false ∧
  bytesT Tryz.prog 20 = 16 ∧
  zeroT Tryz.prog 20 = some V.nilI ∧
  szT Tryz.prog 21 = 1 ∧
  aggT Tryz.prog 21 = some false ∧
  bytesT Tryz.prog 21 = 4 ∧
  zeroT Tryz.prog 21 = some (V.int IntKind.i32 (0)) ∧
  intT Tryz.prog 21 = some IntKind.i32 ∧
  szT Tryz.prog 22 = 1 ∧
  aggT Tryz.prog 22 = some false ∧
  bytesT Tryz.prog 22 = 24 ∧
  zeroT Tryz.prog 22 = some V.nilS ∧
  elemT Tryz.prog 22 = some 52 ∧
  rowT Tryz.prog 22 = true ∧
  szT Tryz.prog 25 = 1 ∧
  aggT Tryz.prog 25 = some false ∧
  bytesT Tryz.prog 25 = 24 ∧
  zeroT Tryz.prog 25 = some V.nilS ∧
  elemT Tryz.prog 25 = some 9 ∧
  rowT Tryz.prog 25 = true ∧
  szT Tryz.prog 26 = 1 ∧
  aggT Tryz.prog 26 = some false ∧
  bytesT Tryz.prog 26 = 8 ∧
  zeroT Tryz.prog 26 = some (V.int IntKind.i64 (0)) ∧
  intT Tryz.prog 26 = some IntKind.i64 ∧
  szT Tryz.prog 27 = 1 ∧
  aggT Tryz.prog 27 = some false ∧
  bytesT Tryz.prog 27 = 0 ∧
  zeroT Tryz.prog 27 = some V.junk ∧
  szT Tryz.prog 30 = 1 ∧
  aggT Tryz.prog 30 = some false ∧
  bytesT Tryz.prog 30 = 24 ∧
  zeroT Tryz.prog 30 = some V.nilS ∧
  elemT Tryz.prog 30 = some 33 ∧
  rowT Tryz.prog 30 = true ∧
  szT Tryz.prog 31 = 1 ∧
  aggT Tryz.prog 31 = some false ∧
  bytesT Tryz.prog 31 = 24 ∧
  zeroT Tryz.prog 31 = some V.nilS ∧
  elemT Tryz.prog 31 = some 34 ∧
  rowT Tryz.prog 31 = true ∧
  szT Tryz.prog 33 = 2 ∧
  aggT Tryz.prog 33 = some true ∧
  bytesT Tryz.prog 33 = 24 ∧
  zeroT Tryz.prog 33 = some (V.agg [V.str [], V.int IntKind.i64 (0)]) ∧
  fldT Tryz.prog 33 0 = some (0, 9) ∧
  fldT Tryz.prog 33 1 = some (1, 3) ∧
  structT Tryz.prog 33 = true ∧
  szT Tryz.prog 34 = 2 ∧
  aggT Tryz.prog 34 = some true ∧
  bytesT Tryz.prog 34 = 24 ∧
  zeroT Tryz.prog 34 = some (V.agg [V.str [], V.int IntKind.i64 (0)]) ∧
  fldT Tryz.prog 34 0 = some (0, 9) ∧
  fldT Tryz.prog 34 1 = some (1, 3) ∧
  structT Tryz.prog 34 = true ∧
  szT Tryz.prog 37 = 1 ∧
  aggT Tryz.prog 37 = some false ∧
  bytesT Tryz.prog 37 = 8 ∧
  zeroT Tryz.prog 37 = some V.nilF ∧
  szT Tryz.prog 40 = 1 ∧
  aggT Tryz.prog 40 = some false ∧
  bytesT Tryz.prog 40 = 24 ∧
  zeroT Tryz.prog 40 = some V.nilS ∧
  elemT Tryz.prog 40 = some 57 ∧
  rowT Tryz.prog 40 = true ∧
  szT Tryz.prog 42 = 1 ∧
  aggT Tryz.prog 42 = some false ∧
  bytesT Tryz.prog 42 = 0 ∧
  zeroT Tryz.prog 42 = some V.junk ∧
  szT Tryz.prog 45 = 1 ∧
  aggT Tryz.prog 45 = some false ∧
  bytesT Tryz.prog 45 = 0 ∧
  zeroT Tryz.prog 45 = some V.junk ∧
  szT Tryz.prog 47 = 1 ∧
  aggT Tryz.prog 47 = some false ∧
  bytesT Tryz.prog 47 = 0 ∧
  zeroT Tryz.prog 47 = some V.junk ∧
  szT Tryz.prog 52 = 3 ∧
  aggT Tryz.prog 52 = some true ∧
  bytesT Tryz.prog 52 = 48 ∧
  zeroT Tryz.prog 52 = some (V.agg [V.int IntKind.i64 (0), V.str [], V.nilS]) ∧
  fldT Tryz.prog 52 0 = some (0, 3) ∧
  fldT Tryz.prog 52 1 = some (1, 9) ∧
  fldT Tryz.prog 52 2 = some (2, 22) ∧
  structT Tryz.prog 52 = true ∧
  szT Tryz.prog 54 = 1 ∧
  aggT Tryz.prog 54 = some false ∧
  bytesT Tryz.prog 54 = 0 ∧
  zeroT Tryz.prog 54 = some V.junk ∧
  szT Tryz.prog 57 = 2 ∧
  aggT Tryz.prog 57 = some true ∧
  bytesT Tryz.prog 57 = 40 ∧
  zeroT Tryz.prog 57 = some (V.agg [V.str [], V.nilS]) ∧
  fldT Tryz.prog 57 0 = some (0, 9) ∧
  fldT Tryz.prog 57 1 = some (1, 22) ∧
  structT Tryz.prog 57 = true ∧
  szT Tryz.prog 61 = 1 ∧
  aggT Tryz.prog 61 = some false ∧
  bytesT Tryz.prog 61 = 8 ∧
  zeroT Tryz.prog 61 = some V.nilM ∧
  mapT Tryz.prog 61 = some (9, 3) ∧
  szT Tryz.prog 62 = 1 ∧
  aggT Tryz.prog 62 = some false ∧
  bytesT Tryz.prog 62 = 8 ∧
  zeroT Tryz.prog 62 = some V.nilF ∧
  szT Tryz.prog 63 = 1 ∧
  aggT Tryz.prog 63 = some false ∧
  bytesT Tryz.prog 63 = 8 ∧
  zeroT Tryz.prog 63 = some V.nilF ∧
  szT Tryz.prog 66 = 1 ∧
  aggT Tryz.prog 66 = some false ∧
  bytesT Tryz.prog 66 = 0 ∧
  zeroT Tryz.prog 66 = some V.junk ∧
  szT Tryz.prog 69 = 1 ∧
  aggT Tryz.prog 69 = some false ∧
  bytesT Tryz.prog 69 = 0 ∧
  zeroT Tryz.prog 69 = some V.junk ∧
  szT Tryz.prog 74 = 1 ∧
  aggT Tryz.prog 74 = some false ∧
  bytesT Tryz.prog 74 = 8 ∧
  zeroT Tryz.prog 74 = some V.nilF ∧
  szT Tryz.prog 75 = 1 ∧
  aggT Tryz.prog 75 = some false ∧
  bytesT Tryz.prog 75 = 8 ∧
  zeroT Tryz.prog 75 = some V.nilP ∧
  szT Tryz.prog 76 = 1 ∧
  aggT Tryz.prog 76 = some false ∧
  bytesT Tryz.prog 76 = 8 ∧
  zeroT Tryz.prog 76 = some V.nilM ∧
  mapT Tryz.prog 76 = some (9, 9) ∧
  szT Tryz.prog 78 = 3 ∧
  aggT Tryz.prog 78 = some true ∧
  bytesT Tryz.prog 78 = 40 ∧
  zeroT Tryz.prog 78 = some (V.agg [V.nilM, V.nilM, V.nilS]) ∧
  fldT Tryz.prog 78 0 = some (0, 76) ∧
  fldT Tryz.prog 78 1 = some (1, 76) ∧
  fldT Tryz.prog 78 2 = some (2, 40) ∧
  structT Tryz.prog 78 = true ∧
  szT Tryz.prog 80 = 1 ∧
  aggT Tryz.prog 80 = some false ∧
  bytesT Tryz.prog 80 = 0 ∧
  zeroT Tryz.prog 80 = some V.junk ∧
  szT Tryz.prog 84 = 1 ∧
  aggT Tryz.prog 84 = some false ∧
  bytesT Tryz.prog 84 = 8 ∧
  zeroT Tryz.prog 84 = some V.nilF ∧
  szT Tryz.prog 90 = 1 ∧
  aggT Tryz.prog 90 = some false ∧
  bytesT Tryz.prog 90 = 16 ∧
  zeroT Tryz.prog 90 = some V.nilI ∧
  szT Tryz.prog 91 = 1 ∧
  aggT Tryz.prog 91 = some false ∧
  bytesT Tryz.prog 91 = 0 ∧
  zeroT Tryz.prog 91 = some V.junk ∧
  szT Tryz.prog 93 = 1 ∧
  aggT Tryz.prog 93 = some false ∧
  bytesT Tryz.prog 93 = 8 ∧
  zeroT Tryz.prog 93 = some V.nilF ∧
  szT Tryz.prog 95 = 1 ∧
  aggT Tryz.prog 95 = some false ∧
  bytesT Tryz.prog 95 = 8 ∧
  zeroT Tryz.prog 95 = some V.nilM ∧
  mapT Tryz.prog 95 = some (9, 4) ∧
  szT Tryz.prog 99 = 1 ∧
  aggT Tryz.prog 99 = some false ∧
  bytesT Tryz.prog 99 = 0 ∧
  zeroT Tryz.prog 99 = some V.junk ∧
  szT Tryz.prog 102 = 1 ∧
  aggT Tryz.prog 102 = some false ∧
  bytesT Tryz.prog 102 = 8 ∧
  zeroT Tryz.prog 102 = some V.nilF ∧
  szT Tryz.prog 107 = 1 ∧
  aggT Tryz.prog 107 = some false ∧
  bytesT Tryz.prog 107 = 8 ∧
  zeroT Tryz.prog 107 = some V.nilF ∧
  szT Tryz.prog 110 = 1 ∧
  aggT Tryz.prog 110 = some false ∧
  bytesT Tryz.prog 110 = 8 ∧
  zeroT Tryz.prog 110 = some V.nilM ∧
  mapT Tryz.prog 110 = some (9, 22) ∧
  szT Tryz.prog 111 = 1 ∧
  aggT Tryz.prog 111 = some false ∧
  bytesT Tryz.prog 111 = 24 ∧
  zeroT Tryz.prog 111 = some V.nilS ∧
  elemT Tryz.prog 111 = some 5 ∧
  rowT Tryz.prog 111 = true ∧
  szT Tryz.prog 113 = 1 ∧
  aggT Tryz.prog 113 = some false ∧
  bytesT Tryz.prog 113 = 8 ∧
  zeroT Tryz.prog 113 = some V.nilF ∧
  szT Tryz.prog 116 = 1 ∧
  aggT Tryz.prog 116 = some false ∧
  bytesT Tryz.prog 116 = 0 ∧
  zeroT Tryz.prog 116 = some V.junk ∧
  szT Tryz.prog 119 = 1 ∧
  aggT Tryz.prog 119 = some false ∧
  bytesT Tryz.prog 119 = 8 ∧
  zeroT Tryz.prog 119 = some V.nilF ∧
  szT Tryz.prog 122 = 1 ∧
  aggT Tryz.prog 122 = some false ∧
  bytesT Tryz.prog 122 = 8 ∧
  zeroT Tryz.prog 122 = some (V.int IntKind.i64 (0)) ∧
  intT Tryz.prog 122 = some IntKind.i64 ∧
  szT Tryz.prog 123 = 1 ∧
  aggT Tryz.prog 123 = some false ∧
  bytesT Tryz.prog 123 = 0 ∧
  zeroT Tryz.prog 123 = some V.junk ∧
  szT Tryz.prog 125 = 1 ∧
  aggT Tryz.prog 125 = some false ∧
  bytesT Tryz.prog 125 = 8 ∧
  zeroT Tryz.prog 125 = some V.nilP ∧
  szT Tryz.prog 130 = 1 ∧
  aggT Tryz.prog 130 = some false ∧
  bytesT Tryz.prog 130 = 8 ∧
  zeroT Tryz.prog 130 = some (V.int IntKind.u64 (0)) ∧
  intT Tryz.prog 130 = some IntKind.u64 ∧
  szT Tryz.prog 134 = 24 ∧
  aggT Tryz.prog 134 = some true ∧
  bytesT Tryz.prog 134 = 24 ∧
  zeroT Tryz.prog 134 = some   (V.agg     [V.int IntKind.u8 (0), V.int IntKind.u8 (0), V.int IntKind.u8 (0),       V.int IntKind.u8 (0), V.int IntKind.u8 (0), V.int IntKind.u8 (0),       V.int IntKind.u8 (0), V.int IntKind.u8 (0), V.int IntKind.u8 (0),       V.int IntKind.u8 (0), V.int IntKind.u8 (0), V.int IntKind.u8 (0),       V.int IntKind.u8 (0), V.int IntKind.u8 (0), V.int IntKind.u8 (0),       V.int IntKind.u8 (0), V.int IntKind.u8 (0), V.int IntKind.u8 (0),       V.int IntKind.u8 (0), V.int IntKind.u8 (0), V.int IntKind.u8 (0),       V.int IntKind.u8 (0), V.int IntKind.u8 (0), V.int IntKind.u8 (0)]) ∧
  arrT Tryz.prog 134 = some (24, 5) ∧
  szT Tryz.prog 135 = 1 ∧
  aggT Tryz.prog 135 = some false ∧
  bytesT Tryz.prog 135 = 8 ∧
  zeroT Tryz.prog 135 = some (V.int IntKind.u64 (0)) ∧
  intT Tryz.prog 135 = some IntKind.u64 ∧
  szT Tryz.prog 138 = 1 ∧
  aggT Tryz.prog 138 = some false ∧
  bytesT Tryz.prog 138 = 0 ∧
  zeroT Tryz.prog 138 = some V.junk ∧
  szT Tryz.prog 140 = 1 ∧
  aggT Tryz.prog 140 = some false ∧
  bytesT Tryz.prog 140 = 0 ∧
  zeroT Tryz.prog 140 = some V.junk ∧
  szT Tryz.prog 144 = 3 ∧
  aggT Tryz.prog 144 = some true ∧
  bytesT Tryz.prog 144 = 48 ∧
  zeroT Tryz.prog 144 = some (V.agg [V.str [], V.str [], V.nilI]) ∧
  fldT Tryz.prog 144 0 = some (0, 9) ∧
  fldT Tryz.prog 144 1 = some (1, 9) ∧
  fldT Tryz.prog 144 2 = some (2, 90) ∧
  structT Tryz.prog 144 = true ∧
  szT Tryz.prog 146 = 1 ∧
  aggT Tryz.prog 146 = some false ∧
  bytesT Tryz.prog 146 = 4 ∧
  zeroT Tryz.prog 146 = some (V.int IntKind.u32 (0)) ∧
  intT Tryz.prog 146 = some IntKind.u32 ∧
  szT Tryz.prog 147 = 1 ∧
  aggT Tryz.prog 147 = some false ∧
  bytesT Tryz.prog 147 = 0 ∧
  zeroT Tryz.prog 147 = some V.junk ∧
  szT Tryz.prog 152 = 20 ∧
  aggT Tryz.prog 152 = some true ∧
  bytesT Tryz.prog 152 = 160 ∧
  zeroT Tryz.prog 152 = some   (V.agg     [V.int IntKind.u64 (0), V.int IntKind.u64 (0), V.int IntKind.u64 (0),       V.int IntKind.u64 (0), V.int IntKind.u64 (0), V.int IntKind.u64 (0),       V.int IntKind.u64 (0), V.int IntKind.u64 (0), V.int IntKind.u64 (0),       V.int IntKind.u64 (0), V.int IntKind.u64 (0), V.int IntKind.u64 (0),       V.int IntKind.u64 (0), V.int IntKind.u64 (0), V.int IntKind.u64 (0),       V.int IntKind.u64 (0), V.int IntKind.u64 (0), V.int IntKind.u64 (0),       V.int IntKind.u64 (0), V.int IntKind.u64 (0)]) ∧
  arrT Tryz.prog 152 = some (20, 135) ∧
  szT Tryz.prog 153 = 65 ∧
  aggT Tryz.prog 153 = some true ∧
  bytesT Tryz.prog 153 = 65 ∧
  zeroT Tryz.prog 153 = some   (V.agg     [V.int IntKind.u8 (0), V.int IntKind.u8 (0), V.int IntKind.u8 (0),       V.int IntKind.u8 (0), V.int IntKind.u8 (0), V.int IntKind.u8 (0),       V.int IntKind.u8 (0), V.int IntKind.u8 (0), V.int IntKind.u8 (0),       V.int IntKind.u8 (0), V.int IntKind.u8 (0), V.int IntKind.u8 (0),       V.int IntKind.u8 (0), V.int IntKind.u8 (0), V.int IntKind.u8 (0),       V.int IntKind.u8 (0), V.int IntKind.u8 (0), V.int IntKind.u8 (0),       V.int IntKind.u8 (0), V.int IntKind.u8 (0), V.int IntKind.u8 (0),       V.int IntKind.u8 (0), V.int IntKind.u8 (0), V.int IntKind.u8 (0),       V.int IntKind.u8 (0), V.int IntKind.u8 (0), V.int IntKind.u8 (0),       V.int IntKind.u8 (0), V.int IntKind.u8 (0), V.int IntKind.u8 (0),       V.int IntKind.u8 (0), V.int IntKind.u8 (0), V.int IntKind.u8 (0),       V.int IntKind.u8 (0), V.int IntKind.u8 (0), V.int IntKind.u8 (0),       V.int IntKind.u8 (0), V.int IntKind.u8 (0), V.int IntKind.u8 (0),       V.int IntKind.u8 (0), V.int IntKind.u8 (0), V.int IntKind.u8 (0),       V.int IntKind.u8 (0), V.int IntKind.u8 (0), V.int IntKind.u8 (0),       V.int IntKind.u8 (0), V.int IntKind.u8 (0), V.int IntKind.u8 (0),       V.int IntKind.u8 (0), V.int IntKind.u8 (0), V.int IntKind.u8 (0),       V.int IntKind.u8 (0), V.int IntKind.u8 (0), V.int IntKind.u8 (0),       V.int IntKind.u8 (0), V.int IntKind.u8 (0), V.int IntKind.u8 (0),       V.int IntKind.u8 (0), V.int IntKind.u8 (0), V.int IntKind.u8 (0),       V.int IntKind.u8 (0), V.int IntKind.u8 (0), V.int IntKind.u8 (0),       V.int IntKind.u8 (0), V.int IntKind.u8 (0)]) ∧
  arrT Tryz.prog 153 = some (65, 5) ∧
  szT Tryz.prog 156 = 1 ∧
  aggT Tryz.prog 156 = some false ∧
  bytesT Tryz.prog 156 = 8 ∧
  zeroT Tryz.prog 156 = some V.nilP ∧
  szT Tryz.prog 157 = 1 ∧
  aggT Tryz.prog 157 = some false ∧
  bytesT Tryz.prog 157 = 8 ∧
  zeroT Tryz.prog 157 = some V.nilP ∧
  szT Tryz.prog 159 = 1 ∧
  aggT Tryz.prog 159 = some true ∧
  bytesT Tryz.prog 159 = 16 ∧
  zeroT Tryz.prog 159 = some (V.agg [V.str []]) ∧
  fldT Tryz.prog 159 0 = some (0, 9) ∧
  structT Tryz.prog 159 = true ∧
  szT Tryz.prog 162 = 32 ∧
  aggT Tryz.prog 162 = some true ∧
  bytesT Tryz.prog 162 = 32 ∧
  zeroT Tryz.prog 162 = some   (V.agg     [V.int IntKind.u8 (0), V.int IntKind.u8 (0), V.int IntKind.u8 (0),       V.int IntKind.u8 (0), V.int IntKind.u8 (0), V.int IntKind.u8 (0),       V.int IntKind.u8 (0), V.int IntKind.u8 (0), V.int IntKind.u8 (0),       V.int IntKind.u8 (0), V.int IntKind.u8 (0), V.int IntKind.u8 (0),       V.int IntKind.u8 (0), V.int IntKind.u8 (0), V.int IntKind.u8 (0),       V.int IntKind.u8 (0), V.int IntKind.u8 (0), V.int IntKind.u8 (0),       V.int IntKind.u8 (0), V.int IntKind.u8 (0), V.int IntKind.u8 (0),       V.int IntKind.u8 (0), V.int IntKind.u8 (0), V.int IntKind.u8 (0),       V.int IntKind.u8 (0), V.int IntKind.u8 (0), V.int IntKind.u8 (0),       V.int IntKind.u8 (0), V.int IntKind.u8 (0), V.int IntKind.u8 (0),       V.int IntKind.u8 (0), V.int IntKind.u8 (0)]) ∧
  arrT Tryz.prog 162 = some (32, 5) ∧
  szT Tryz.prog 163 = 64 ∧
  aggT Tryz.prog 163 = some true ∧
  bytesT Tryz.prog 163 = 64 ∧
  zeroT Tryz.prog 163 = some   (V.agg     [V.int IntKind.u8 (0), V.int IntKind.u8 (0), V.int IntKind.u8 (0),       V.int IntKind.u8 (0), V.int IntKind.u8 (0), V.int IntKind.u8 (0),       V.int IntKind.u8 (0), V.int IntKind.u8 (0), V.int IntKind.u8 (0),       V.int IntKind.u8 (0), V.int IntKind.u8 (0), V.int IntKind.u8 (0),       V.int IntKind.u8 (0), V.int IntKind.u8 (0), V.int IntKind.u8 (0),       V.int IntKind.u8 (0), V.int IntKind.u8 (0), V.int IntKind.u8 (0),       V.int IntKind.u8 (0), V.int IntKind.u8 (0), V.int IntKind.u8 (0),       V.int IntKind.u8 (0), V.int IntKind.u8 (0), V.int IntKind.u8 (0),       V.int IntKind.u8 (0), V.int IntKind.u8 (0), V.int IntKind.u8 (0),       V.int IntKind.u8 (0), V.int IntKind.u8 (0), V.int IntKind.u8 (0),       V.int IntKind.u8 (0), V.int IntKind.u8 (0), V.int IntKind.u8 (0),       V.int IntKind.u8 (0), V.int IntKind.u8 (0), V.int IntKind.u8 (0),       V.int IntKind.u8 (0), V.int IntKind.u8 (0), V.int IntKind.u8 (0),       V.int IntKind.u8 (0), V.int IntKind.u8 (0), V.int IntKind.u8 (0),       V.int IntKind.u8 (0), V.int IntKind.u8 (0), V.int IntKind.u8 (0),       V.int IntKind.u8 (0), V.int IntKind.u8 (0), V.int IntKind.u8 (0),       V.int IntKind.u8 (0), V.int IntKind.u8 (0), V.int IntKind.u8 (0),       V.int IntKind.u8 (0), V.int IntKind.u8 (0), V.int IntKind.u8 (0),       V.int IntKind.u8 (0), V.int IntKind.u8 (0), V.int IntKind.u8 (0),       V.int IntKind.u8 (0), V.int IntKind.u8 (0), V.int IntKind.u8 (0),       V.int IntKind.u8 (0), V.int IntKind.u8 (0), V.int IntKind.u8 (0),       V.int IntKind.u8 (0)]) ∧
  arrT Tryz.prog 163 = some (64, 5) ∧
  hasT Tryz.prog 0 = true ∧
  concT Tryz.prog 0 = true ∧
  hasT Tryz.prog 1 = true ∧
  concT Tryz.prog 1 = true ∧
  hasT Tryz.prog 2 = true ∧
  concT Tryz.prog 2 = true ∧
  hasT Tryz.prog 3 = true ∧
  concT Tryz.prog 3 = true ∧
  Tryz.prog.underlying 4 = some TypeDesc.bool ∧
  hasT Tryz.prog 4 = true ∧
  concT Tryz.prog 4 = true ∧
  hasT Tryz.prog 5 = true ∧
  concT Tryz.prog 5 = true ∧
  intT Tryz.prog 9 = none ∧
  elemT Tryz.prog 9 = none ∧
  arrT Tryz.prog 9 = none ∧
  hasT Tryz.prog 9 = true ∧
  concT Tryz.prog 9 = true ∧
  Tryz.prog.underlying 20 = some (TypeDesc.interface { toList := [] }) ∧
  hasT Tryz.prog 21 = true ∧
  concT Tryz.prog 21 = true ∧
  arrT Tryz.prog 22 = none ∧
  Tryz.prog.underlying 22 = some (TypeDesc.slice 52) ∧
  hasT Tryz.prog 22 = true ∧
  concT Tryz.prog 22 = true ∧
  arrT Tryz.prog 25 = none ∧
  Tryz.prog.underlying 25 = some (TypeDesc.slice 9) ∧
  hasT Tryz.prog 25 = true ∧
  concT Tryz.prog 25 = true ∧
  hasT Tryz.prog 26 = true ∧
  concT Tryz.prog 26 = true ∧
  hasT Tryz.prog 27 = true ∧
  concT Tryz.prog 27 = true ∧
  arrT Tryz.prog 30 = none ∧
  Tryz.prog.underlying 30 = some (TypeDesc.slice 33) ∧
  hasT Tryz.prog 30 = true ∧
  concT Tryz.prog 30 = true ∧
  arrT Tryz.prog 31 = none ∧
  Tryz.prog.underlying 31 = some (TypeDesc.slice 34) ∧
  hasT Tryz.prog 31 = true ∧
  concT Tryz.prog 31 = true ∧
  hasT Tryz.prog 33 = true ∧
  concT Tryz.prog 33 = true ∧
  hasT Tryz.prog 34 = true ∧
  concT Tryz.prog 34 = true ∧
  hasT Tryz.prog 37 = true ∧
  concT Tryz.prog 37 = true ∧
  arrT Tryz.prog 40 = none ∧
  Tryz.prog.underlying 40 = some (TypeDesc.slice 57) ∧
  hasT Tryz.prog 40 = true ∧
  concT Tryz.prog 40 = true ∧
  hasT Tryz.prog 42 = true ∧
  concT Tryz.prog 42 = true ∧
  hasT Tryz.prog 45 = true ∧
  concT Tryz.prog 45 = true ∧
  hasT Tryz.prog 47 = true ∧
  concT Tryz.prog 47 = true ∧
  hasT Tryz.prog 52 = true ∧
  concT Tryz.prog 52 = true ∧
  hasT Tryz.prog 54 = true ∧
  concT Tryz.prog 54 = true ∧
  hasT Tryz.prog 57 = true ∧
  concT Tryz.prog 57 = true ∧
  elemT Tryz.prog 61 = none ∧
  hasT Tryz.prog 61 = true ∧
  concT Tryz.prog 61 = true ∧
  hasT Tryz.prog 62 = true ∧
  concT Tryz.prog 62 = true ∧
  hasT Tryz.prog 63 = true ∧
  concT Tryz.prog 63 = true ∧
  hasT Tryz.prog 66 = true ∧
  concT Tryz.prog 66 = true ∧
  hasT Tryz.prog 69 = true ∧
  concT Tryz.prog 69 = true ∧
  hasT Tryz.prog 74 = true ∧
  concT Tryz.prog 74 = true ∧
  hasT Tryz.prog 75 = true ∧
  concT Tryz.prog 75 = true ∧
  elemT Tryz.prog 76 = none ∧
  hasT Tryz.prog 76 = true ∧
  concT Tryz.prog 76 = true ∧
  hasT Tryz.prog 78 = true ∧
  concT Tryz.prog 78 = true ∧
  hasT Tryz.prog 80 = true ∧
  concT Tryz.prog 80 = true ∧
  hasT Tryz.prog 84 = true ∧
  concT Tryz.prog 84 = true ∧
  Tryz.prog.underlying 90 = some (TypeDesc.interface { toList := [("Error", 164)] }) ∧
  hasT Tryz.prog 91 = true ∧
  concT Tryz.prog 91 = true ∧
  hasT Tryz.prog 93 = true ∧
  concT Tryz.prog 93 = true ∧
  elemT Tryz.prog 95 = none ∧
  hasT Tryz.prog 95 = true ∧
  concT Tryz.prog 95 = true ∧
  hasT Tryz.prog 99 = true ∧
  concT Tryz.prog 99 = true ∧
  hasT Tryz.prog 102 = true ∧
  concT Tryz.prog 102 = true ∧
  hasT Tryz.prog 107 = true ∧
  concT Tryz.prog 107 = true ∧
  elemT Tryz.prog 110 = none ∧
  hasT Tryz.prog 110 = true ∧
  concT Tryz.prog 110 = true ∧
  arrT Tryz.prog 111 = none ∧
  Tryz.prog.underlying 111 = some (TypeDesc.slice 5) ∧
  hasT Tryz.prog 111 = true ∧
  concT Tryz.prog 111 = true ∧
  hasT Tryz.prog 113 = true ∧
  concT Tryz.prog 113 = true ∧
  hasT Tryz.prog 116 = true ∧
  concT Tryz.prog 116 = true ∧
  hasT Tryz.prog 119 = true ∧
  concT Tryz.prog 119 = true ∧
  hasT Tryz.prog 122 = true ∧
  concT Tryz.prog 122 = true ∧
  hasT Tryz.prog 123 = true ∧
  concT Tryz.prog 123 = true ∧
  hasT Tryz.prog 125 = true ∧
  concT Tryz.prog 125 = true ∧
  hasT Tryz.prog 130 = true ∧
  concT Tryz.prog 130 = true ∧
  hasT Tryz.prog 134 = true ∧
  concT Tryz.prog 134 = true ∧
  hasT Tryz.prog 135 = true ∧
  concT Tryz.prog 135 = true ∧
  hasT Tryz.prog 138 = true ∧
  concT Tryz.prog 138 = true ∧
  hasT Tryz.prog 140 = true ∧
  concT Tryz.prog 140 = true ∧
  hasT Tryz.prog 144 = true ∧
  concT Tryz.prog 144 = true ∧
  hasT Tryz.prog 146 = true ∧
  concT Tryz.prog 146 = true ∧
  hasT Tryz.prog 147 = true ∧
  concT Tryz.prog 147 = true ∧
  hasT Tryz.prog 152 = true ∧
  concT Tryz.prog 152 = true ∧
  hasT Tryz.prog 153 = true ∧
  concT Tryz.prog 153 = true ∧
  hasT Tryz.prog 156 = true ∧
  concT Tryz.prog 156 = true ∧
  hasT Tryz.prog 157 = true ∧
  concT Tryz.prog 157 = true ∧
  hasT Tryz.prog 159 = true ∧
  concT Tryz.prog 159 = true ∧
  hasT Tryz.prog 162 = true ∧
  concT Tryz.prog 162 = true ∧
  hasT Tryz.prog 163 = true ∧
  concT Tryz.prog 163 = true :=
  ⟨by kernel_rfl, by kernel_rfl, by kernel_rfl, by kernel_rfl, by kernel_rfl, by kernel_rfl, by kernel_rfl, by kernel_rfl, by kernel_rfl, by kernel_rfl, by kernel_rfl, by kernel_rfl, by kernel_rfl, by kernel_rfl, by kernel_rfl, by kernel_rfl, by kernel_rfl, by kernel_rfl, by kernel_rfl, by kernel_rfl, by kernel_rfl, by kernel_rfl, by kernel_rfl, by kernel_rfl, by kernel_rfl, by kernel_rfl, by kernel_rfl, by kernel_rfl, by kernel_rfl, by kernel_rfl, by kernel_rfl, by kernel_rfl, by kernel_rfl, by kernel_rfl, by kernel_rfl, by kernel_rfl, by kernel_rfl, by kernel_rfl, by kernel_rfl, by kernel_rfl, by kernel_rfl, by kernel_rfl, by kernel_rfl, by kernel_rfl, by kernel_rfl, by kernel_rfl, by kernel_rfl, by kernel_rfl, by kernel_rfl, by kernel_rfl, by kernel_rfl, by kernel_rfl, by kernel_rfl, by kernel_rfl, by kernel_rfl, by kernel_rfl, by kernel_rfl, by kernel_rfl, by kernel_rfl, by kernel_rfl, by kernel_rfl, by kernel_rfl, by kernel_rfl, by kernel_rfl, by kernel_rfl, by kernel_rfl, by kernel_rfl, by kernel_rfl, by kernel_rfl, by kernel_rfl, by kernel_rfl, by kernel_rfl, by kernel_rfl, by kernel_rfl, by kernel_rfl, by kernel_rfl, by kernel_rfl, by kernel_rfl, by kernel_rfl, by kernel_rfl, by kernel_rfl, by kernel_rfl, by kernel_rfl, by kernel_rfl, by kernel_rfl, by kernel_rfl, by kernel_rfl, by kernel_rfl, by kernel_rfl, by kernel_rfl, by kernel_rfl, by kernel_rfl, by kernel_rfl, by kernel_rfl, by kernel_rfl, by kernel_rfl, by kernel_rfl, by kernel_rfl, by kernel_rfl, by kernel_rfl, by kernel_rfl, by kernel_rfl, by kernel_rfl, by kernel_rfl, by kernel_rfl, by kernel_rfl, by kernel_rfl, by kernel_rfl, by kernel_rfl, by kernel_rfl, by kernel_rfl, by kernel_rfl, by kernel_rfl, by kernel_rfl, by kernel_rfl, by kernel_rfl, by kernel_rfl, by kernel_rfl, by kernel_rfl, by kernel_rfl, by kernel_rfl, by kernel_rfl, by kernel_rfl, by kernel_rfl, by kernel_rfl, by kernel_rfl, by kernel_rfl, by kernel_rfl, by kernel_rfl, by kernel_rfl, by kernel_rfl, by kernel_rfl, by kernel_rfl, by kernel_rfl, by kernel_rfl, by kernel_rfl, by kernel_rfl, by kernel_rfl, by kernel_rfl, by kernel_rfl, by kernel_rfl, by kernel_rfl, by kernel_rfl, by kernel_rfl, by kernel_rfl, by kernel_rfl, by kernel_rfl, by kernel_rfl, by kernel_rfl, by kernel_rfl, by kernel_rfl, by kernel_rfl, by kernel_rfl, by kernel_rfl, by kernel_rfl, by kernel_rfl, by kernel_rfl, by kernel_rfl, by kernel_rfl, by kernel_rfl, by kernel_rfl, by kernel_rfl, by kernel_rfl, by kernel_rfl, by kernel_rfl, by kernel_rfl, by kernel_rfl, by kernel_rfl, by kernel_rfl, by kernel_rfl, by kernel_rfl, by kernel_rfl, by kernel_rfl, by kernel_rfl, by kernel_rfl, by kernel_rfl, by kernel_rfl, by kernel_rfl, by kernel_rfl, by kernel_rfl, by kernel_rfl, by kernel_rfl, by kernel_rfl, by kernel_rfl, by kernel_rfl, by kernel_rfl, by kernel_rfl, by kernel_rfl, by kernel_rfl, by kernel_rfl, by kernel_rfl, by kernel_rfl, by kernel_rfl, by kernel_rfl, by kernel_rfl, by kernel_rfl, by kernel_rfl, by kernel_rfl, by kernel_rfl, by kernel_rfl, by kernel_rfl, by kernel_rfl, by kernel_rfl, by kernel_rfl, by kernel_rfl, by kernel_rfl, by kernel_rfl, by kernel_rfl, by kernel_rfl, by kernel_rfl, by kernel_rfl, by kernel_rfl, by kernel_rfl, by kernel_rfl, by kernel_rfl, by kernel_rfl, by kernel_rfl, by kernel_rfl, by kernel_rfl, by kernel_rfl, by kernel_rfl, by kernel_rfl, by kernel_rfl, by kernel_rfl, by kernel_rfl, by kernel_rfl, by kernel_rfl, by kernel_rfl, by kernel_rfl, by kernel_rfl, by kernel_rfl, by kernel_rfl, by kernel_rfl, by kernel_rfl, by kernel_rfl, by kernel_rfl, by kernel_rfl, by kernel_rfl, by kernel_rfl, by kernel_rfl, by kernel_rfl, by kernel_rfl, by kernel_rfl, by kernel_rfl, by kernel_rfl, by kernel_rfl, by kernel_rfl, by kernel_rfl, by kernel_rfl, by kernel_rfl, by kernel_rfl, by kernel_rfl, by kernel_rfl, by kernel_rfl, by kernel_rfl, by kernel_rfl, by kernel_rfl, by kernel_rfl, by kernel_rfl, by kernel_rfl, by kernel_rfl, by kernel_rfl, by kernel_rfl, by kernel_rfl, by kernel_rfl, by kernel_rfl, by kernel_rfl, by kernel_rfl, by kernel_rfl, by kernel_rfl, by kernel_rfl, by kernel_rfl, by kernel_rfl, by kernel_rfl, by kernel_rfl, by kernel_rfl, by kernel_rfl, by kernel_rfl, by kernel_rfl, by kernel_rfl, by kernel_rfl, by kernel_rfl, by kernel_rfl, by kernel_rfl, by kernel_rfl, by kernel_rfl, by kernel_rfl, by kernel_rfl, by kernel_rfl, by kernel_rfl, by kernel_rfl, by kernel_rfl, by kernel_rfl, by kernel_rfl, by kernel_rfl, by kernel_rfl, by kernel_rfl, by kernel_rfl, by kernel_rfl, by kernel_rfl, by kernel_rfl, by kernel_rfl, by kernel_rfl, by kernel_rfl, by kernel_rfl, by kernel_rfl, by kernel_rfl, by kernel_rfl, by kernel_rfl, by kernel_rfl, by kernel_rfl, by kernel_rfl, by kernel_rfl, by kernel_rfl, by kernel_rfl, by kernel_rfl, by kernel_rfl, by kernel_rfl, by kernel_rfl, by kernel_rfl, by kernel_rfl, by kernel_rfl, by kernel_rfl, by kernel_rfl, by kernel_rfl, by kernel_rfl, by kernel_rfl, by kernel_rfl, by kernel_rfl, by kernel_rfl, by kernel_rfl, by kernel_rfl, by kernel_rfl, by kernel_rfl, by kernel_rfl, by kernel_rfl, by kernel_rfl, by kernel_rfl, by kernel_rfl, by kernel_rfl, by kernel_rfl, by kernel_rfl, by kernel_rfl, by kernel_rfl, by kernel_rfl, by kernel_rfl, by kernel_rfl, by kernel_rfl, by kernel_rfl, by kernel_rfl, by kernel_rfl, by kernel_rfl, by kernel_rfl, by kernel_rfl, by kernel_rfl, by kernel_rfl, by kernel_rfl, by kernel_rfl, by kernel_rfl, by kernel_rfl, by kernel_rfl, by kernel_rfl, by kernel_rfl, by kernel_rfl, by kernel_rfl, by kernel_rfl, by kernel_rfl, by kernel_rfl, by kernel_rfl, by kernel_rfl, by kernel_rfl, by kernel_rfl, by kernel_rfl, by kernel_rfl, by kernel_rfl, by kernel_rfl, by kernel_rfl, by kernel_rfl, by kernel_rfl, by kernel_rfl, by kernel_rfl, by kernel_rfl, by kernel_rfl, by kernel_rfl, by kernel_rfl, by kernel_rfl, by kernel_rfl, by kernel_rfl, by kernel_rfl, by kernel_rfl, by kernel_rfl, by kernel_rfl, by kernel_rfl, by kernel_rfl, by kernel_rfl, by kernel_rfl, by kernel_rfl, by kernel_rfl, by kernel_rfl, by kernel_rfl, by kernel_rfl, by kernel_rfl, by kernel_rfl, by kernel_rfl, by kernel_rfl, by kernel_rfl, by kernel_rfl, by kernel_rfl, by kernel_rfl, by kernel_rfl, by kernel_rfl, by kernel_rfl, by kernel_rfl, by kernel_rfl, by kernel_rfl, by kernel_rfl, by kernel_rfl, by kernel_rfl, by kernel_rfl, by kernel_rfl, by kernel_rfl, by kernel_rfl, by kernel_rfl, by kernel_rfl, by kernel_rfl, by kernel_rfl, by kernel_rfl, by kernel_rfl, by kernel_rfl, by kernel_rfl, by kernel_rfl, by kernel_rfl, by kernel_rfl, by kernel_rfl, by kernel_rfl, by kernel_rfl, by kernel_rfl, by kernel_rfl, by kernel_rfl, by kernel_rfl, by kernel_rfl, by kernel_rfl, by kernel_rfl, by kernel_rfl, by kernel_rfl, by kernel_rfl, by kernel_rfl, by kernel_rfl, by kernel_rfl, by kernel_rfl, by kernel_rfl, by kernel_rfl, by kernel_rfl, by kernel_rfl, by kernel_rfl, by kernel_rfl, by kernel_rfl, by kernel_rfl, by kernel_rfl, by kernel_rfl, by kernel_rfl, by kernel_rfl, by kernel_rfl, by kernel_rfl, by kernel_rfl, by kernel_rfl, by kernel_rfl, by kernel_rfl, by kernel_rfl⟩
theorem d1022_11 {H n} : regionInf (M1022 H n).E (opsAt (sub [1, 1, 1, 1, 1, 0, 1, 0, 0, 1, 0, 0] c1022)) = some   [Inf.mk false (some [⟨0, 46, 0⟩, ⟨0, 48, 0⟩, ⟨0, 46, 0⟩]) none false [8],     Inf.mk false (some [⟨0, 46, 0⟩]) none false [9], Inf.mk false (some [⟨0, 46, 0⟩]) none false [10],     Inf.mk false (some [⟨0, 46, 0⟩]) none false [32, 33], Inf.mk false (some [⟨0, 46, 0⟩]) none false [34],     Inf.mk false (some []) none false [9], Inf.mk false (some []) none false [10],     Inf.mk false (some []) none false [36, 37], Inf.mk false (some []) none false [38],     Inf.mk false (some []) none false [39], Inf.mk false (some []) none false [1],     Inf.mk false (some []) none false [10], Inf.mk false (some []) none false [41, 42],     Inf.mk false (some []) none false [43], Inf.mk false (some []) none false [40, 44],     Inf.mk true (some []) (some [⟨0, 46, 0⟩]) false [45], Inf.mk false (some []) none false [35, 46],     Inf.mk true (some []) (some [⟨0, 48, 0⟩, ⟨0, 46, 0⟩]) false [47], Inf.mk true (some []) none false [31, 48],     Inf.mk true (some []) none false [49]] := by kernel_rfl
theorem d752_3 {H n} : regionInf (M752 H n).E (opsAt (sub [1, 1, 0] c752)) = some   [Inf.mk false (some []) none false [1], Inf.mk false (some []) none false [6], Inf.mk false (some []) none false [7],     Inf.mk false (some []) none false [8], Inf.mk false (some []) none false [9],     Inf.mk false (some []) none false [10], Inf.mk false (some []) none false [1],     Inf.mk false (some []) none false [12], Inf.mk false (some []) none false [11, 13],     Inf.mk true (some []) none false [14]] := by kernel_rfl
theorem d1049_6 {H n} : regionInf (M1049 H n).E (opsAt (sub [1, 1, 0, 1, 0, 0, 1, 0, 0, 0, 0] c1049)) = some   [Inf.mk false (some []) none false [0], Inf.mk false (some []) none false [8],     Inf.mk false (some []) none false [25, 26], Inf.mk false (some []) none false [27],     Inf.mk false (some []) none false [28], Inf.mk false (some []) none false [1],     Inf.mk false (some []) none false [8], Inf.mk false (some []) none false [30, 31],     Inf.mk false (some []) none false [32], Inf.mk false (some []) none false [33],     Inf.mk false (some []) none false [29, 34]] := by kernel_rfl
theorem d1049_9 {H n} : regionInf (M1049 H n).E (opsAt (sub [1, 1, 0, 1, 0, 0, 1, 0, 0, 1, 0, 1, 0, 0] c1049)) = some   [Inf.mk false (some []) none false [0], Inf.mk false (some []) none false [8],     Inf.mk false (some []) none false [43, 44], Inf.mk false (some []) none false [45],     Inf.mk false (some []) none false [46], Inf.mk false (some []) none false [1],     Inf.mk false (some []) none false [8], Inf.mk false (some []) none false [48, 49],     Inf.mk false (some []) none false [50], Inf.mk false (some []) none false [51],     Inf.mk false (some []) none false [2], Inf.mk false (some []) none false [47, 52, 53],     Inf.mk false (some []) none false [54], Inf.mk false (some []) none false [42],     Inf.mk false (some []) none false [42], Inf.mk true (some []) (some []) false [55],     Inf.mk true (some []) none false [56]] := by kernel_rfl
theorem d1049_10 {H n} : regionInf (M1049 H n).E (opsAt (sub [1, 1, 0, 1, 0, 0, 1, 0, 0, 1, 0, 1, 0, 1, 0, 0] c1049)) = some   [Inf.mk false (some []) none false [10], Inf.mk false (some []) none false [57],     Inf.mk false (some []) none false [58], Inf.mk false (some []) none false [0, 59],     Inf.mk false (some []) none false [8, 59], Inf.mk false (some []) none false [60, 61, 59],     Inf.mk false (some []) none false [62, 59], Inf.mk false (some []) none false [63, 59],     Inf.mk false (some []) none false [1, 59], Inf.mk false (some []) none false [8, 59],     Inf.mk false (some []) none false [65, 66, 59], Inf.mk false (some []) none false [67, 59],     Inf.mk false (some []) none false [68, 59], Inf.mk false (some []) none false [64, 69, 59],     Inf.mk false (some []) none false [59, 70]] := by kernel_rfl
theorem d1049_14 {H n} : regionInf (M1049 H n).E (opsAt (sub [1, 1, 0, 1, 0, 0, 1, 0, 0, 1, 1, 1, 0, 0] c1049)) = some   [Inf.mk false (some []) none false [12], Inf.mk false (some []) none false [83],     Inf.mk false (some []) none false [11, 84], Inf.mk false (some []) none false [85, 84],     Inf.mk false (some []) none false [86, 84], Inf.mk false (some []) none false [87, 84],     Inf.mk false (some []) none false [1, 84], Inf.mk false (some []) none false [8, 84],     Inf.mk false (some []) none false [89, 90, 84], Inf.mk false (some []) none false [91, 84],     Inf.mk false (some []) none false [92, 84], Inf.mk false (some []) none false [88, 93, 84],     Inf.mk false (some []) none false [84, 94]] := by kernel_rfl
theorem d1049_20 {H n} : regionInf (M1049 H n).E (opsAt (sub [1, 1, 0, 1, 0, 0, 1, 0, 0, 1, 1, 1, 1, 1, 0, 1, 0, 0, 1, 0, 0, 0] c1049)) = some   [Inf.mk false (some []) none false [2], Inf.mk false (some []) none false [13],     Inf.mk false (some []) none false [103, 104], Inf.mk false (some []) none false [105],     Inf.mk false (some []) none false [106], Inf.mk false (some []) none false [107],     Inf.mk false (some []) none false [108], Inf.mk false (some []) none false [109],     Inf.mk false (some []) none false [1], Inf.mk false (some []) none false [8],     Inf.mk false (some []) none false [111, 112], Inf.mk false (some []) none false [113],     Inf.mk false (some []) none false [114], Inf.mk false (some []) none false [110, 115],     Inf.mk false (some []) none false [116], Inf.mk false (some []) none false [2, 117],     Inf.mk false (some []) none false [13, 117], Inf.mk false (some []) none false [118, 119, 117],     Inf.mk false (some []) none false [120, 117], Inf.mk false (some []) none false [121, 117],     Inf.mk false (some []) none false [122, 117], Inf.mk false (some []) none false [123, 117],     Inf.mk false (some []) none false [124, 117], Inf.mk false (some []) none false [1, 117],     Inf.mk false (some []) none false [8, 117], Inf.mk false (some []) none false [126, 127, 117],     Inf.mk false (some []) none false [128, 117], Inf.mk false (some []) none false [129, 117],     Inf.mk false (some []) none false [125, 130, 117], Inf.mk false (some []) none false [117, 131]] := by kernel_rfl
theorem d1049_22 {H n} : regionInf (M1049 H n).E (opsAt (sub [1, 1, 0, 1, 0, 0, 1, 0, 0, 1, 1, 1, 1, 1, 1] c1049)) = some   [Inf.mk true (some []) (some [⟨0, 133, 0⟩]) true [],     Inf.mk false (some [⟨0, 133, 0⟩, ⟨0, 152, 0⟩]) none false [2],     Inf.mk true (some []) (some [⟨0, 135, 0⟩, ⟨0, 133, 0⟩]) true [133, 134],     Inf.mk false (some [⟨0, 133, 0⟩, ⟨0, 135, 0⟩, ⟨0, 133, 0⟩, ⟨0, 152, 0⟩]) none false [0],     Inf.mk false (some [⟨0, 133, 0⟩, ⟨0, 135, 0⟩, ⟨0, 133, 0⟩, ⟨0, 152, 0⟩]) none false [8],     Inf.mk false (some [⟨0, 133, 0⟩, ⟨0, 135, 0⟩, ⟨0, 133, 0⟩, ⟨0, 152, 0⟩]) none false [136, 137],     Inf.mk false (some [⟨0, 133, 0⟩, ⟨0, 135, 0⟩, ⟨0, 133, 0⟩, ⟨0, 152, 0⟩]) none false [138],     Inf.mk false (some [⟨0, 152, 0⟩]) none false [139],     Inf.mk false (some [⟨0, 133, 0⟩, ⟨0, 135, 0⟩, ⟨0, 133, 0⟩]) none false [1],     Inf.mk false (some [⟨0, 133, 0⟩, ⟨0, 135, 0⟩, ⟨0, 133, 0⟩]) none false [8],     Inf.mk false (some [⟨0, 133, 0⟩, ⟨0, 135, 0⟩, ⟨0, 133, 0⟩]) none false [141, 142],     Inf.mk false (some [⟨0, 133, 0⟩, ⟨0, 135, 0⟩, ⟨0, 133, 0⟩]) none false [143],     Inf.mk false (some [⟨0, 133, 0⟩, ⟨0, 135, 0⟩, ⟨0, 133, 0⟩]) none false [144],     Inf.mk false (some [⟨0, 133, 0⟩, ⟨0, 135, 0⟩, ⟨0, 133, 0⟩]) none false [1],     Inf.mk false (some [⟨0, 133, 0⟩, ⟨0, 135, 0⟩, ⟨0, 133, 0⟩]) none false [8],     Inf.mk false (some [⟨0, 133, 0⟩, ⟨0, 135, 0⟩, ⟨0, 133, 0⟩]) none false [146, 147],     Inf.mk false (some [⟨0, 133, 0⟩, ⟨0, 135, 0⟩, ⟨0, 133, 0⟩]) none false [148],     Inf.mk false (some [⟨0, 133, 0⟩, ⟨0, 135, 0⟩, ⟨0, 133, 0⟩]) none false [149],     Inf.mk false (some [⟨0, 133, 0⟩, ⟨0, 135, 0⟩, ⟨0, 133, 0⟩]) none false [145, 150],     Inf.mk true (some []) (some [⟨0, 152, 0⟩]) true [151], Inf.mk false (some []) none false [140, 152],     Inf.mk true (some []) none false [153], Inf.mk true (some []) none false [135, 154],     Inf.mk true (some []) none false [155]] := by kernel_rfl
theorem d734_3 {H n} : regionInf (M734 H n).E (opsAt (sub [1, 1, 0] c734)) = some   [Inf.mk false (some [⟨0, 4, 0⟩]) none false [0], Inf.mk false (some [⟨0, 4, 0⟩]) none false [20],     Inf.mk false (some [⟨0, 4, 0⟩]) none false [21], Inf.mk false (some [⟨0, 4, 0⟩]) none false [22],     Inf.mk false (some [⟨0, 4, 0⟩]) none false [0], Inf.mk false (some [⟨0, 4, 0⟩]) none false [24],     Inf.mk false (some [⟨0, 4, 0⟩]) none false [23, 25], Inf.mk true (some []) (some [⟨0, 4, 0⟩]) false [],     Inf.mk true (some []) none false [4, 26]] := by kernel_rfl
theorem d743_8 {H n} : regionInf (M743 H n).E (opsAt (sub [1, 1, 0, 1, 0, 0, 1, 1, 0, 0, 1, 1] c743)) = some   [Inf.mk false (some [⟨0, 37, 0⟩]) none false [5], Inf.mk false (some []) none false [7],     Inf.mk false (some []) none false [28], Inf.mk false (some []) none false [7],     Inf.mk false (some []) none false [30], Inf.mk false (some []) none false [7],     Inf.mk false (some []) none false [32], Inf.mk false (some []) none false [1],     Inf.mk false (some []) none false [33, 34], Inf.mk false (some []) none false [29, 31, 35],     Inf.mk true (some []) (some [⟨0, 37, 0⟩]) false [36], Inf.mk true (some []) none false [27, 37],     Inf.mk true (some []) none false [38]] := by kernel_rfl
theorem d1055_3 {H n} : regionInf (M1055 H n).E (opsAt (sub [1, 1, 0] c1055)) = some   [Inf.mk false (some [⟨0, 17, 0⟩]) none false [0], Inf.mk false (some [⟨0, 17, 0⟩]) none false [10],     Inf.mk false (some [⟨0, 17, 0⟩]) none false [11], Inf.mk false (some []) none false [0],     Inf.mk false (some []) none false [13], Inf.mk false (some []) none false [14],     Inf.mk false (some []) none false [15], Inf.mk true (some []) (some [⟨0, 17, 0⟩]) false [16],     Inf.mk false (some []) none false [17], Inf.mk false (some []) none false [12, 18],     Inf.mk true (some []) none false [19]] := by kernel_rfl
theorem d759_11 {H n} : regionInf (M759 H n).E (opsAt (sub [1, 1, 0, 1, 0, 0, 1, 0, 0, 1, 1] c759)) = some   [Inf.mk false (some [⟨0, 52, 0⟩]) none false [5], Inf.mk false (some []) none false [7],     Inf.mk false (some []) none false [43], Inf.mk false (some []) none false [7],     Inf.mk false (some []) none false [45], Inf.mk false (some []) none false [7],     Inf.mk false (some []) none false [47], Inf.mk false (some []) none false [1],     Inf.mk false (some []) none false [48, 49], Inf.mk false (some []) none false [44, 46, 50],     Inf.mk true (some []) (some [⟨0, 52, 0⟩]) false [51], Inf.mk true (some []) none false [42, 52],     Inf.mk true (some []) none false [53]] := by kernel_rfl
theorem d329_4 {H n} : regionInf (M329 H n).E (opsAt (sub [1, 0, 1, 0, 0, 1, 0, 0, 0, 0] c329)) = some   [Inf.mk false (some []) none false [0], Inf.mk false (some []) none false [5],     Inf.mk false (some []) none false [20, 21], Inf.mk false (some []) none false [22],     Inf.mk false (some []) none false [23], Inf.mk false (some []) none false [1],     Inf.mk false (some []) none false [5], Inf.mk false (some []) none false [25, 26],     Inf.mk false (some []) none false [27], Inf.mk false (some []) none false [28],     Inf.mk false (some []) none false [24, 29]] := by kernel_rfl
theorem d329_5 {H n} : regionInf (M329 H n).E (opsAt (sub [1, 0, 1, 0, 0, 1, 0, 0, 0, 1, 0, 0, 0] c329)) = some   [Inf.mk false (some []) none false [0], Inf.mk false (some []) none false [5],     Inf.mk false (some []) none false [31, 32], Inf.mk false (some []) none false [33],     Inf.mk false (some []) none false [34], Inf.mk false (some []) none false [1],     Inf.mk false (some []) none false [5], Inf.mk false (some []) none false [36, 37],     Inf.mk false (some []) none false [38], Inf.mk false (some []) none false [39],     Inf.mk false (some []) none false [35, 40]] := by kernel_rfl
theorem d329_8 {H n} : regionInf (M329 H n).E (opsAt (sub [1, 0, 1, 0, 0, 1, 0, 0, 1, 0, 0] c329)) = some   [Inf.mk false (some []) none false [0], Inf.mk false (some []) none false [5],     Inf.mk false (some []) none false [42, 43], Inf.mk false (some []) none false [44],     Inf.mk false (some []) none false [45], Inf.mk false (some []) none false [1],     Inf.mk false (some []) none false [5], Inf.mk false (some []) none false [47, 48],     Inf.mk false (some []) none false [49], Inf.mk false (some []) none false [50],     Inf.mk false (some []) none false [46, 51], Inf.mk true (some []) none false [52]] := by kernel_rfl
theorem d329_11 {H n} : regionInf (M329 H n).E (opsAt (sub [1, 0, 1, 0, 0, 1, 0, 0, 1, 1, 0] c329)) = some   [Inf.mk false (some []) none false [0], Inf.mk false (some []) none false [5],     Inf.mk false (some []) none false [56, 57], Inf.mk false (some []) none false [58],     Inf.mk false (some []) none false [59], Inf.mk false (some []) none false [1],     Inf.mk false (some []) none false [5], Inf.mk false (some []) none false [61, 62],     Inf.mk false (some []) none false [63], Inf.mk false (some []) none false [64],     Inf.mk false (some []) none false [60, 65], Inf.mk true (some []) none false [66]] := by kernel_rfl
theorem d770_3 {H n} : regionInf (M770 H n).E (opsAt (sub [1, 1, 0] c770)) = some   [Inf.mk false (some []) none false [1], Inf.mk false (some []) none false [2], Inf.mk false (some []) none false [12],     Inf.mk false (some []) none false [11, 13], Inf.mk false (some []) none false [14],     Inf.mk false (some []) none false [10], Inf.mk false (some []) none false [10],     Inf.mk true (some []) (some []) false [15], Inf.mk true (some []) none false [16]] := by kernel_rfl
theorem d785_4 {H n} : regionInf (M785 H n).E (opsAt (sub [1, 1, 1, 0] c785)) = some   [Inf.mk false (some []) none false [2], Inf.mk false (some []) none false [0], Inf.mk false (some []) none false [12],     Inf.mk true (some []) none false [2, 11], Inf.mk true (some []) none false [13]] := by kernel_rfl
end Go.Vi
