/-
  THE FUNCTIONS' FRAMES AND THE TYPES' FACTS, written by a program of mine (gen.py) off Lean's print of the loaded program.
-/
import Derived.Test.YtpibnnopnhmijaaDoorVD
import Derived.Test.YtpibnnopnhmijaaDoorProg
import Derived.KernelRfl
set_option linter.unusedSimpArgs false
set_option linter.unusedVariables false
set_option maxRecDepth 100000
namespace Go.Vi
open Go Go.Proofs

def h0 : FuncId → Hint
  | 2 => { keep := [], cnd := [], frz := [], pro := [], imp := [] }
  | 3 => { keep := [0, 1, 4, 5, 6, 7, 8, 16], cnd := [16], frz := [5, 6, 7, 8], pro := [], imp := [] }
  | 4 => { keep := [0, 1, 2, 6, 7, 8, 9, 10, 11, 12, 13, 14, 27, 59], cnd := [27, 59], frz := [7, 8, 9, 10, 11, 12, 13, 14], pro := [], imp := [] }
  | 5 => { keep := [0, 1, 2, 6, 7, 8, 10, 11, 12, 13, 14, 16, 17, 18, 19, 20, 38, 85, 86, 100], cnd := [38, 85, 86, 100], frz := [7, 8, 9, 10, 11, 12, 13, 14, 15, 16, 17, 18, 19], pro := [], imp := [] }
  | 6 => { keep := [0, 1, 2, 3, 8, 9, 10, 11, 12, 13, 14, 15, 16, 17, 18, 19, 37, 46, 55, 81, 89], cnd := [37, 46, 55, 81, 89], frz := [9, 10, 11, 12, 13, 14, 15, 16, 17, 18, 19], pro := [], imp := [] }
  | 7 => { keep := [0, 1, 4, 5, 6, 7, 8, 9, 11, 12, 13, 21, 30, 45, 47, 48, 49, 50], cnd := [21, 30, 45, 50], frz := [5, 6, 7, 9], pro := [8], imp := [24] }
  | 8 => { keep := [0, 1, 4, 5, 7, 8, 9, 10, 11, 18], cnd := [11, 18], frz := [], pro := [], imp := [] }
  | 9 => { keep := [0, 1, 4, 5, 7, 10, 11, 12, 13, 18], cnd := [13, 18], frz := [5], pro := [], imp := [] }
  | 10 => { keep := [0, 1, 2, 3, 4, 5, 6, 7, 8, 9], cnd := [], frz := [3, 4, 5, 6, 7, 8, 9], pro := [], imp := [] }
  | 11 => { keep := [0, 1, 4, 5, 6, 7, 11, 16], cnd := [11, 16], frz := [], pro := [], imp := [] }
  | 12 => { keep := [0, 1, 4, 5, 6, 7, 11, 16], cnd := [11, 16], frz := [], pro := [], imp := [] }
  | 13 => { keep := [0, 1, 4], cnd := [], frz := [], pro := [], imp := [] }
  | 14 => { keep := [0, 2, 3, 5, 6, 7, 8, 11, 13, 14, 15, 16, 26, 30, 38, 44], cnd := [11, 16, 26, 30, 38, 44], frz := [7], pro := [], imp := [] }
  | 15 => { keep := [0, 2, 3, 5, 6, 9, 13, 22, 35, 43, 56], cnd := [9, 13, 22, 35, 43, 56], frz := [3, 4, 5], pro := [], imp := [] }
  | 16 => { keep := [0, 2, 3, 5, 6, 8, 9, 10, 11, 12, 20, 25, 26, 27, 28], cnd := [12, 20, 28], frz := [3, 5, 8], pro := [], imp := [] }
  | 17 => { keep := [0, 2], cnd := [], frz := [], pro := [], imp := [] }
  | 18 => { keep := [0, 1, 4, 5, 6, 14, 18, 23], cnd := [14, 23], frz := [6], pro := [], imp := [41] }
  | 19 => { keep := [0, 1, 4, 5, 6, 7, 8, 9, 10, 11, 16, 23, 25, 26, 27, 28], cnd := [16, 23, 28], frz := [9, 10, 12], pro := [8], imp := [44] }
  | 20 => { keep := [0, 1, 4], cnd := [], frz := [], pro := [], imp := [] }
  | 21 => { keep := [0, 1, 4, 5, 6, 7, 8, 10, 11, 12, 14, 16, 20, 25, 27, 28, 29, 30, 41, 51, 52, 53, 54, 65, 78], cnd := [20, 25, 30, 41, 54, 65, 78], frz := [11, 15, 16], pro := [8], imp := [] }
  | 22 => { keep := [0, 1, 2, 6, 7, 8, 9, 15, 20, 21], cnd := [15], frz := [8, 9], pro := [], imp := [] }
  | 23 => { keep := [0, 2, 3, 4, 5, 6, 7, 8, 11, 12, 22], cnd := [22], frz := [6, 7, 8], pro := [], imp := [] }
  | 24 => { keep := [0, 1, 2, 5, 6, 7, 8, 9, 13], cnd := [9, 13], frz := [], pro := [], imp := [24] }
  | 25 => { keep := [0, 1, 2], cnd := [], frz := [1], pro := [], imp := [] }
  | 26 => { keep := [0, 1, 4, 5, 10, 12, 13, 14, 24], cnd := [10, 14, 24], frz := [5], pro := [], imp := [] }
  | 27 => { keep := [0, 2, 3, 4, 5, 6, 9, 10, 20], cnd := [20], frz := [6], pro := [], imp := [] }
  | 28 => { keep := [0, 1, 4], cnd := [], frz := [], pro := [], imp := [] }
  | 29 => { keep := [0, 1, 4, 5, 6, 7, 8, 9, 11, 15, 20, 25, 26, 27, 28, 35, 38], cnd := [15, 20, 28, 35, 38], frz := [8], pro := [9], imp := [] }
  | 30 => { keep := [0, 1, 4, 5, 6, 7, 8, 22], cnd := [22], frz := [6, 7, 8], pro := [], imp := [] }
  | 31 => { keep := [0, 2], cnd := [], frz := [], pro := [], imp := [] }
  | 32 => { keep := [0, 1, 2, 3, 8, 9, 10, 11, 26], cnd := [26], frz := [10, 11], pro := [], imp := [] }
  | 33 => { keep := [0, 1, 4, 5, 6, 7, 17, 30, 41, 54, 68, 74, 79], cnd := [17, 30, 41, 54, 68, 74, 79], frz := [5], pro := [], imp := [] }
  | 34 => { keep := [0, 2, 3, 4, 18, 29], cnd := [18, 29], frz := [], pro := [], imp := [] }
  | 35 => { keep := [0, 1, 2, 4, 5, 9, 13], cnd := [5, 9, 13], frz := [2, 5, 9, 13], pro := [], imp := [] }
  | 36 => { keep := [0, 2, 3, 31, 35, 72], cnd := [31, 35, 72], frz := [3], pro := [], imp := [] }
  | 37 => { keep := [0, 1, 4, 5, 6, 10, 19], cnd := [10, 19], frz := [6], pro := [], imp := [] }
  | 38 => { keep := [0, 1, 4, 7, 10, 13], cnd := [7, 10, 13], frz := [], pro := [], imp := [] }
  | 39 => { keep := [0, 1, 4, 6, 16], cnd := [6, 16], frz := [1], pro := [], imp := [] }
  | 40 => { keep := [0, 1, 3, 4, 5, 6, 8, 9, 13, 16, 18, 19, 28], cnd := [13, 16, 28], frz := [3], pro := [], imp := [] }
  | 41 => { keep := [0, 1, 2, 6], cnd := [], frz := [], pro := [], imp := [67] }
  | 42 => { keep := [0, 2], cnd := [], frz := [], pro := [], imp := [] }
  | 43 => { keep := [0, 1, 4, 5, 7, 8, 9, 10, 11, 12, 13, 22], cnd := [13, 22], frz := [8, 9], pro := [5], imp := [] }
  | 44 => { keep := [0, 2, 3, 5, 7, 8, 9, 10], cnd := [10], frz := [], pro := [], imp := [] }
  | 45 => { keep := [0, 1, 2, 6, 7, 8, 9, 14, 15, 16, 17, 18, 30], cnd := [14, 18, 30], frz := [7], pro := [], imp := [] }
  | 46 => { keep := [0, 1, 2, 3, 4], cnd := [], frz := [2, 3], pro := [], imp := [] }
  | 47 => { keep := [0, 1, 3, 4, 5, 6, 11], cnd := [11], frz := [3, 6], pro := [], imp := [] }
  | 48 => { keep := [0, 2, 3, 4, 8, 9, 10], cnd := [10], frz := [4], pro := [], imp := [] }
  | 49 => { keep := [0, 1, 2, 6, 7, 8, 12, 17], cnd := [12, 17], frz := [], pro := [], imp := [] }
  | 50 => { keep := [0, 1, 2, 3, 4, 5, 6], cnd := [], frz := [], pro := [], imp := [] }
  | 51 => { keep := [0, 1, 2], cnd := [], frz := [1], pro := [], imp := [] }
  | 52 => { keep := [0, 1, 2, 5], cnd := [5], frz := [1], pro := [], imp := [] }
  | 53 => { keep := [0, 1, 2], cnd := [], frz := [1], pro := [], imp := [] }
  | 54 => { keep := [0, 2], cnd := [], frz := [], pro := [], imp := [] }
  | 55 => { keep := [0, 1, 4], cnd := [], frz := [], pro := [], imp := [] }
  | 56 => { keep := [0, 1, 2, 6, 7, 9, 10, 11, 12, 13, 14, 15, 16, 17, 18, 19, 24, 31, 58], cnd := [19, 24, 31, 58], frz := [10, 11, 12, 13, 14, 15], pro := [], imp := [] }
  | 57 => { keep := [0, 1, 4, 5, 6, 13, 15, 19], cnd := [13, 15, 19], frz := [5, 6], pro := [], imp := [] }
  | 58 => { keep := [0, 1, 2, 6, 7, 8, 9, 10, 11, 12, 13, 14, 15, 16, 17, 26, 34, 42, 73], cnd := [26, 34, 42, 73], frz := [8, 10, 12, 13, 14, 15, 16, 17], pro := [], imp := [] }
  | 59 => { keep := [0, 1, 4, 5, 6, 7, 8, 9, 14, 22, 30], cnd := [14, 22, 30], frz := [6, 8, 9], pro := [], imp := [] }
  | 60 => { keep := [0, 1, 4, 7, 10], cnd := [7, 10], frz := [], pro := [], imp := [] }
  | 61 => { keep := [0, 1, 4], cnd := [], frz := [], pro := [], imp := [] }
  | 62 => { keep := [0, 1, 4], cnd := [], frz := [], pro := [], imp := [] }
  | 63 => { keep := [0, 1, 2, 4, 5, 10, 18, 20, 21, 27, 44, 49], cnd := [5, 10, 18, 21, 27, 44], frz := [1, 5, 10, 21, 27, 44, 49], pro := [], imp := [] }
  | 64 => { keep := [0, 1, 2], cnd := [], frz := [1], pro := [], imp := [] }
  | 65 => { keep := [0, 1, 2], cnd := [], frz := [1], pro := [], imp := [] }
  | 66 => { keep := [0, 2, 3, 5, 6, 7, 8, 9, 25], cnd := [9, 25], frz := [], pro := [], imp := [] }
  | 67 => { keep := [0, 1, 2, 6, 7, 8, 9, 14, 15, 16, 17, 18, 30], cnd := [14, 18, 30], frz := [7], pro := [], imp := [68] }
  | 68 => { keep := [0, 1, 2, 4, 5, 6, 7, 8, 9, 10, 11, 12, 17, 20, 59], cnd := [17, 20, 59], frz := [4, 5, 7, 8, 9, 11], pro := [], imp := [41] }
  | 69 => { keep := [0, 2], cnd := [], frz := [], pro := [], imp := [] }
  | 70 => { keep := [0, 1, 2, 3, 4, 5, 6, 9], cnd := [9], frz := [2], pro := [], imp := [] }
  | 71 => { keep := [0, 1, 4, 5, 7, 8, 9, 16], cnd := [9, 16], frz := [], pro := [], imp := [] }
  | 72 => { keep := [0, 1, 2, 3], cnd := [], frz := [2], pro := [], imp := [] }
  | 73 => { keep := [0, 2, 4], cnd := [4], frz := [], pro := [], imp := [] }
  | 74 => { keep := [0, 2], cnd := [], frz := [], pro := [], imp := [] }
  | 75 => { keep := [0, 2, 3, 5, 7, 8, 11, 13, 14, 15, 16, 26, 30, 38, 45], cnd := [11, 16, 26, 30, 38, 45], frz := [7], pro := [], imp := [] }
  | 76 => { keep := [0, 1, 2, 3, 4, 5, 7, 8, 12, 13, 14, 15], cnd := [15], frz := [], pro := [], imp := [] }
  | 77 => { keep := [0, 1, 4, 5, 6, 7, 12, 19, 29], cnd := [12, 19, 29], frz := [6, 7], pro := [], imp := [] }
  | 78 => { keep := [0, 1, 3, 5], cnd := [], frz := [4], pro := [], imp := [] }
  | 79 => { keep := [0, 1, 2, 3, 4, 5, 6, 7, 8, 9, 10, 11, 12, 13, 14, 15, 25, 31, 37, 69, 85, 105, 110, 111, 121, 143, 153, 164, 183], cnd := [25, 31, 37, 69, 85, 105, 111, 121, 153, 164, 183], frz := [5, 9, 10, 11, 12, 13, 14, 111, 143, 164], pro := [], imp := [] }
  | 80 => { keep := [0, 1, 2, 3, 4, 6, 7, 8, 9, 10], cnd := [10], frz := [6], pro := [4], imp := [] }
  | 81 => { keep := [0, 1, 2, 4, 5, 6, 7, 8, 9, 19, 22, 23, 27], cnd := [9, 19, 27], frz := [], pro := [], imp := [] }
  | 82 => { keep := [0, 1, 2, 3], cnd := [], frz := [], pro := [], imp := [83] }
  | 83 => { keep := [0, 1, 2, 4, 6, 7, 8, 9, 10, 23], cnd := [10, 23], frz := [], pro := [], imp := [83] }
  | 84 => { keep := [0, 1, 4, 5, 7, 8, 9, 16], cnd := [9, 16], frz := [], pro := [], imp := [] }
  | 85 => { keep := [0, 2, 3, 4, 7, 8], cnd := [], frz := [], pro := [], imp := [104] }
  | 86 => { keep := [0, 2, 3, 4, 5, 6, 7, 8, 12, 46], cnd := [12, 46], frz := [6, 7, 8], pro := [], imp := [] }
  | 87 => { keep := [0, 1, 4, 5, 9, 36], cnd := [9, 36], frz := [5], pro := [], imp := [] }
  | 88 => { keep := [0, 1, 2], cnd := [], frz := [1], pro := [], imp := [] }
  | 89 => { keep := [0, 1, 2, 5, 11], cnd := [5, 11], frz := [1], pro := [], imp := [] }
  | 90 => { keep := [0, 1, 4, 5, 6, 7, 8, 9, 10, 11, 12, 13, 16, 24, 31, 36, 59, 64, 73, 93, 107, 114, 132, 139], cnd := [16, 24, 31, 36, 59, 64, 73, 93, 107, 114, 132, 139], frz := [5, 6, 7, 9, 10, 11, 12, 13, 16, 24, 31, 36], pro := [], imp := [] }
  | 91 => { keep := [0, 1, 4], cnd := [], frz := [], pro := [], imp := [] }
  | 92 => { keep := [0, 1, 4], cnd := [], frz := [], pro := [], imp := [] }
  | 93 => { keep := [0, 2], cnd := [], frz := [], pro := [], imp := [] }
  | 94 => { keep := [0, 2, 3, 4, 21], cnd := [21], frz := [3, 4], pro := [], imp := [] }
  | 95 => { keep := [0, 1, 4, 5, 7, 8, 9, 16], cnd := [9, 16], frz := [5], pro := [], imp := [] }
  | 96 => { keep := [0, 1, 4, 5, 6, 7, 9, 11, 17, 23, 34], cnd := [11, 17, 23, 34], frz := [6, 7, 8], pro := [], imp := [] }
  | 97 => { keep := [0, 1, 4, 6, 7, 18], cnd := [7, 18], frz := [7, 18], pro := [], imp := [] }
  | 98 => { keep := [0, 1, 4, 5, 7, 8, 9, 16], cnd := [9, 16], frz := [], pro := [], imp := [] }
  | 99 => { keep := [0, 1, 4, 11], cnd := [11], frz := [4], pro := [], imp := [] }
  | 100 => { keep := [0, 1, 2, 3, 4, 6], cnd := [], frz := [], pro := [], imp := [] }
  | 101 => { keep := [0, 1, 4], cnd := [], frz := [], pro := [], imp := [] }
  | 102 => { keep := [0, 1, 2], cnd := [], frz := [], pro := [], imp := [] }
  | 103 => { keep := [0, 1, 2, 3, 4, 10, 11, 12, 13, 14, 15, 16, 30, 41, 56], cnd := [30, 41, 56], frz := [11, 12, 13, 14, 15, 16], pro := [], imp := [] }
  | 104 => { keep := [0], cnd := [], frz := [], pro := [], imp := [] }
  | 105 => { keep := [0, 1, 2, 16, 18, 19, 25, 30, 35, 40, 47], cnd := [16, 19, 25, 30, 35, 47], frz := [1, 19, 25, 30, 35, 40, 47], pro := [], imp := [] }
  | 106 => { keep := [0, 1, 4], cnd := [], frz := [], pro := [], imp := [] }
  | 108 => { keep := [0, 2], cnd := [], frz := [], pro := [], imp := [] }
  | 109 => { keep := [0, 1, 4, 5, 6, 7, 8, 9, 10, 20, 39, 44, 77], cnd := [20, 39, 44, 77], frz := [5, 6, 7, 8, 9, 10], pro := [], imp := [] }
  | 110 => { keep := [0, 1, 4], cnd := [], frz := [], pro := [], imp := [] }
  | 111 => { keep := [0, 1, 4], cnd := [], frz := [], pro := [], imp := [] }
  | 112 => { keep := [0, 1, 4, 5], cnd := [], frz := [], pro := [], imp := [] }
  | 113 => { keep := [0, 2, 4], cnd := [4], frz := [], pro := [], imp := [] }
  | 114 => { keep := [0, 2, 3], cnd := [], frz := [3], pro := [], imp := [] }
  | 115 => { keep := [0, 1, 4, 5, 6, 7, 8, 9, 10, 11, 12, 13, 14, 15, 16, 20, 99, 139, 161], cnd := [20, 99, 139, 161], frz := [1, 4, 5, 6, 7, 8, 9, 10, 11, 12, 13, 14, 15, 16], pro := [], imp := [] }
  | 116 => { keep := [0, 1, 2, 3, 4, 10, 11, 12, 13, 14, 15, 16, 17, 18, 28, 30, 34, 46, 68, 89, 94], cnd := [28, 30, 34, 46, 68, 89, 94], frz := [1, 13, 14, 15, 16, 17, 18], pro := [], imp := [] }
  | 117 => { keep := [0, 1, 4, 5, 6, 11, 12, 13, 15, 38, 73], cnd := [13, 15, 38, 73], frz := [5, 15, 38], pro := [], imp := [] }
  | 118 => { keep := [0, 1, 4, 5, 7, 8, 9, 10, 11, 12, 13, 18], cnd := [13, 18], frz := [8], pro := [], imp := [] }
  | 119 => { keep := [0, 2, 3, 7, 19], cnd := [7, 19], frz := [3], pro := [], imp := [] }
  | 120 => { keep := [0, 2, 3, 5, 12, 18, 25], cnd := [5, 12, 18, 25], frz := [0, 3], pro := [], imp := [] }
  | 121 => { keep := [0, 2, 3, 7, 21], cnd := [7, 21], frz := [3], pro := [], imp := [] }
  | 122 => { keep := [0, 1, 4, 5, 19, 23, 30], cnd := [19, 23, 30], frz := [5], pro := [], imp := [] }
  | 124 => { keep := [0, 2, 3, 4, 5, 6, 7, 8, 12, 25, 30], cnd := [12, 25, 30], frz := [5, 7, 8], pro := [], imp := [] }
  | 125 => { keep := [0, 2, 3, 18, 25, 32], cnd := [3, 18, 25, 32], frz := [3, 18, 25, 32], pro := [], imp := [] }
  | 126 => { keep := [0, 1, 2, 6, 7, 8, 10, 11, 12, 19], cnd := [12, 19], frz := [8], pro := [], imp := [] }
  | 127 => { keep := [0, 1, 4, 5, 9], cnd := [9], frz := [], pro := [], imp := [] }
  | 128 => { keep := [0, 2], cnd := [], frz := [], pro := [], imp := [] }
  | 129 => { keep := [0, 2, 4, 8, 14], cnd := [4, 8, 14], frz := [0], pro := [], imp := [] }
  | 130 => { keep := [0, 2, 3], cnd := [3], frz := [], pro := [], imp := [] }
  | 131 => { keep := [0, 2], cnd := [], frz := [], pro := [], imp := [] }
  | 132 => { keep := [0, 2], cnd := [], frz := [], pro := [], imp := [] }
  | 133 => { keep := [0, 1, 4, 5, 6, 11, 12, 13, 16, 19], cnd := [11, 12, 13, 16, 19], frz := [5, 6], pro := [], imp := [] }
  | 134 => { keep := [0, 1, 4, 5, 6, 11, 12, 13, 16, 19], cnd := [11, 12, 13, 16, 19], frz := [5, 6], pro := [], imp := [] }
  | 135 => { keep := [0, 2], cnd := [], frz := [], pro := [], imp := [] }
  | 136 => { keep := [0, 2], cnd := [], frz := [], pro := [], imp := [] }
  | 137 => { keep := [0, 2], cnd := [], frz := [], pro := [], imp := [] }
  | 138 => { keep := [0, 1, 4], cnd := [], frz := [], pro := [], imp := [] }
  | 139 => { keep := [0, 2, 4], cnd := [4], frz := [], pro := [], imp := [] }
  | 140 => { keep := [0, 2, 4], cnd := [4], frz := [], pro := [], imp := [] }
  | 141 => { keep := [0, 2], cnd := [], frz := [], pro := [], imp := [] }
  | 142 => { keep := [0, 2], cnd := [], frz := [], pro := [], imp := [] }
  | _ => { keep := [], cnd := [], frz := [], pro := [], imp := [] }
def okL : List FuncId := [2, 3, 4, 5, 6, 7, 8, 9, 10, 11, 12, 13, 14, 15, 16, 17, 18, 19, 20, 21, 22, 23, 24, 25, 26, 27, 28, 29, 30, 31, 32, 33, 34, 35, 36, 37, 38, 39, 40, 41, 42, 43, 44, 45, 46, 47, 48, 49, 50, 51, 52, 53, 54, 55, 56, 57, 58, 59, 60, 61, 62, 63, 64, 65, 66, 67, 68, 69, 70, 71, 72, 73, 74, 75, 76, 77, 78, 79, 80, 81, 82, 83, 84, 85, 86, 87, 88, 89, 90, 91, 92, 93, 94, 95, 96, 97, 98, 99, 100, 101, 102, 103, 104, 105, 106, 108, 109, 110, 111, 112, 113, 114, 115, 116, 117, 118, 119, 120, 121, 122, 124, 125, 126, 127, 128, 129, 130, 131, 132, 133, 134, 135, 136, 137, 138, 139, 140, 141, 142]
noncomputable abbrev Cx (H : FuncId → Option (List V → Option V)) : Ctx := { P := Tryd.prog, ok := okL, hint := h0, hand := H }
theorem good : ∀ g ∈ okL, GoodF Tryd.prog g := by
  intro g hg
  simp only [okL, List.mem_cons, List.not_mem_nil, or_false] at hg
  rcases hg with rfl | rfl | rfl | rfl | rfl | rfl | rfl | rfl | rfl | rfl | rfl | rfl | rfl | rfl | rfl | rfl | rfl | rfl | rfl | rfl | rfl | rfl | rfl | rfl | rfl | rfl | rfl | rfl | rfl | rfl | rfl | rfl | rfl | rfl | rfl | rfl | rfl | rfl | rfl | rfl | rfl | rfl | rfl | rfl | rfl | rfl | rfl | rfl | rfl | rfl | rfl | rfl | rfl | rfl | rfl | rfl | rfl | rfl | rfl | rfl | rfl | rfl | rfl | rfl | rfl | rfl | rfl | rfl | rfl | rfl | rfl | rfl | rfl | rfl | rfl | rfl | rfl | rfl | rfl | rfl | rfl | rfl | rfl | rfl | rfl | rfl | rfl | rfl | rfl | rfl | rfl | rfl | rfl | rfl | rfl | rfl | rfl | rfl | rfl | rfl | rfl | rfl | rfl | rfl | rfl | rfl | rfl | rfl | rfl | rfl | rfl | rfl | rfl | rfl | rfl | rfl | rfl | rfl | rfl | rfl | rfl | rfl | rfl | rfl | rfl | rfl | rfl | rfl | rfl | rfl | rfl | rfl | rfl | rfl | rfl | rfl | rfl | rfl | rfl
  · exact ⟨Tryd.f2, _, Tryd.func2, by decide, rfl⟩
  · exact ⟨Tryd.f3, _, Tryd.func3, by decide, rfl⟩
  · exact ⟨Tryd.f4, _, Tryd.func4, by decide, rfl⟩
  · exact ⟨Tryd.f5, _, Tryd.func5, by decide, rfl⟩
  · exact ⟨Tryd.f6, _, Tryd.func6, by decide, rfl⟩
  · exact ⟨Tryd.f7, _, Tryd.func7, by decide, rfl⟩
  · exact ⟨Tryd.f8, _, Tryd.func8, by decide, rfl⟩
  · exact ⟨Tryd.f9, _, Tryd.func9, by decide, rfl⟩
  · exact ⟨Tryd.f10, _, Tryd.func10, by decide, rfl⟩
  · exact ⟨Tryd.f11, _, Tryd.func11, by decide, rfl⟩
  · exact ⟨Tryd.f12, _, Tryd.func12, by decide, rfl⟩
  · exact ⟨Tryd.f13, _, Tryd.func13, by decide, rfl⟩
  · exact ⟨Tryd.f14, _, Tryd.func14, by decide, rfl⟩
  · exact ⟨Tryd.f15, _, Tryd.func15, by decide, rfl⟩
  · exact ⟨Tryd.f16, _, Tryd.func16, by decide, rfl⟩
  · exact ⟨Tryd.f17, _, Tryd.func17, by decide, rfl⟩
  · exact ⟨Tryd.f18, _, Tryd.func18, by decide, rfl⟩
  · exact ⟨Tryd.f19, _, Tryd.func19, by decide, rfl⟩
  · exact ⟨Tryd.f20, _, Tryd.func20, by decide, rfl⟩
  · exact ⟨Tryd.f21, _, Tryd.func21, by decide, rfl⟩
  · exact ⟨Tryd.f22, _, Tryd.func22, by decide, rfl⟩
  · exact ⟨Tryd.f23, _, Tryd.func23, by decide, rfl⟩
  · exact ⟨Tryd.f24, _, Tryd.func24, by decide, rfl⟩
  · exact ⟨Tryd.f25, _, Tryd.func25, by decide, rfl⟩
  · exact ⟨Tryd.f26, _, Tryd.func26, by decide, rfl⟩
  · exact ⟨Tryd.f27, _, Tryd.func27, by decide, rfl⟩
  · exact ⟨Tryd.f28, _, Tryd.func28, by decide, rfl⟩
  · exact ⟨Tryd.f29, _, Tryd.func29, by decide, rfl⟩
  · exact ⟨Tryd.f30, _, Tryd.func30, by decide, rfl⟩
  · exact ⟨Tryd.f31, _, Tryd.func31, by decide, rfl⟩
  · exact ⟨Tryd.f32, _, Tryd.func32, by decide, rfl⟩
  · exact ⟨Tryd.f33, _, Tryd.func33, by decide, rfl⟩
  · exact ⟨Tryd.f34, _, Tryd.func34, by decide, rfl⟩
  · exact ⟨Tryd.f35, _, Tryd.func35, by decide, rfl⟩
  · exact ⟨Tryd.f36, _, Tryd.func36, by decide, rfl⟩
  · exact ⟨Tryd.f37, _, Tryd.func37, by decide, rfl⟩
  · exact ⟨Tryd.f38, _, Tryd.func38, by decide, rfl⟩
  · exact ⟨Tryd.f39, _, Tryd.func39, by decide, rfl⟩
  · exact ⟨Tryd.f40, _, Tryd.func40, by decide, rfl⟩
  · exact ⟨Tryd.f41, _, Tryd.func41, by decide, rfl⟩
  · exact ⟨Tryd.f42, _, Tryd.func42, by decide, rfl⟩
  · exact ⟨Tryd.f43, _, Tryd.func43, by decide, rfl⟩
  · exact ⟨Tryd.f44, _, Tryd.func44, by decide, rfl⟩
  · exact ⟨Tryd.f45, _, Tryd.func45, by decide, rfl⟩
  · exact ⟨Tryd.f46, _, Tryd.func46, by decide, rfl⟩
  · exact ⟨Tryd.f47, _, Tryd.func47, by decide, rfl⟩
  · exact ⟨Tryd.f48, _, Tryd.func48, by decide, rfl⟩
  · exact ⟨Tryd.f49, _, Tryd.func49, by decide, rfl⟩
  · exact ⟨Tryd.f50, _, Tryd.func50, by decide, rfl⟩
  · exact ⟨Tryd.f51, _, Tryd.func51, by decide, rfl⟩
  · exact ⟨Tryd.f52, _, Tryd.func52, by decide, rfl⟩
  · exact ⟨Tryd.f53, _, Tryd.func53, by decide, rfl⟩
  · exact ⟨Tryd.f54, _, Tryd.func54, by decide, rfl⟩
  · exact ⟨Tryd.f55, _, Tryd.func55, by decide, rfl⟩
  · exact ⟨Tryd.f56, _, Tryd.func56, by decide, rfl⟩
  · exact ⟨Tryd.f57, _, Tryd.func57, by decide, rfl⟩
  · exact ⟨Tryd.f58, _, Tryd.func58, by decide, rfl⟩
  · exact ⟨Tryd.f59, _, Tryd.func59, by decide, rfl⟩
  · exact ⟨Tryd.f60, _, Tryd.func60, by decide, rfl⟩
  · exact ⟨Tryd.f61, _, Tryd.func61, by decide, rfl⟩
  · exact ⟨Tryd.f62, _, Tryd.func62, by decide, rfl⟩
  · exact ⟨Tryd.f63, _, Tryd.func63, by decide, rfl⟩
  · exact ⟨Tryd.f64, _, Tryd.func64, by decide, rfl⟩
  · exact ⟨Tryd.f65, _, Tryd.func65, by decide, rfl⟩
  · exact ⟨Tryd.f66, _, Tryd.func66, by decide, rfl⟩
  · exact ⟨Tryd.f67, _, Tryd.func67, by decide, rfl⟩
  · exact ⟨Tryd.f68, _, Tryd.func68, by decide, rfl⟩
  · exact ⟨Tryd.f69, _, Tryd.func69, by decide, rfl⟩
  · exact ⟨Tryd.f70, _, Tryd.func70, by decide, rfl⟩
  · exact ⟨Tryd.f71, _, Tryd.func71, by decide, rfl⟩
  · exact ⟨Tryd.f72, _, Tryd.func72, by decide, rfl⟩
  · exact ⟨Tryd.f73, _, Tryd.func73, by decide, rfl⟩
  · exact ⟨Tryd.f74, _, Tryd.func74, by decide, rfl⟩
  · exact ⟨Tryd.f75, _, Tryd.func75, by decide, rfl⟩
  · exact ⟨Tryd.f76, _, Tryd.func76, by decide, rfl⟩
  · exact ⟨Tryd.f77, _, Tryd.func77, by decide, rfl⟩
  · exact ⟨Tryd.f78, _, Tryd.func78, by decide, rfl⟩
  · exact ⟨Tryd.f79, _, Tryd.func79, by decide, rfl⟩
  · exact ⟨Tryd.f80, _, Tryd.func80, by decide, rfl⟩
  · exact ⟨Tryd.f81, _, Tryd.func81, by decide, rfl⟩
  · exact ⟨Tryd.f82, _, Tryd.func82, by decide, rfl⟩
  · exact ⟨Tryd.f83, _, Tryd.func83, by decide, rfl⟩
  · exact ⟨Tryd.f84, _, Tryd.func84, by decide, rfl⟩
  · exact ⟨Tryd.f85, _, Tryd.func85, by decide, rfl⟩
  · exact ⟨Tryd.f86, _, Tryd.func86, by decide, rfl⟩
  · exact ⟨Tryd.f87, _, Tryd.func87, by decide, rfl⟩
  · exact ⟨Tryd.f88, _, Tryd.func88, by decide, rfl⟩
  · exact ⟨Tryd.f89, _, Tryd.func89, by decide, rfl⟩
  · exact ⟨Tryd.f90, _, Tryd.func90, by decide, rfl⟩
  · exact ⟨Tryd.f91, _, Tryd.func91, by decide, rfl⟩
  · exact ⟨Tryd.f92, _, Tryd.func92, by decide, rfl⟩
  · exact ⟨Tryd.f93, _, Tryd.func93, by decide, rfl⟩
  · exact ⟨Tryd.f94, _, Tryd.func94, by decide, rfl⟩
  · exact ⟨Tryd.f95, _, Tryd.func95, by decide, rfl⟩
  · exact ⟨Tryd.f96, _, Tryd.func96, by decide, rfl⟩
  · exact ⟨Tryd.f97, _, Tryd.func97, by decide, rfl⟩
  · exact ⟨Tryd.f98, _, Tryd.func98, by decide, rfl⟩
  · exact ⟨Tryd.f99, _, Tryd.func99, by decide, rfl⟩
  · exact ⟨Tryd.f100, _, Tryd.func100, by decide, rfl⟩
  · exact ⟨Tryd.f101, _, Tryd.func101, by decide, rfl⟩
  · exact ⟨Tryd.f102, _, Tryd.func102, by decide, rfl⟩
  · exact ⟨Tryd.f103, _, Tryd.func103, by decide, rfl⟩
  · exact ⟨Tryd.f104, _, Tryd.func104, by decide, rfl⟩
  · exact ⟨Tryd.f105, _, Tryd.func105, by decide, rfl⟩
  · exact ⟨Tryd.f106, _, Tryd.func106, by decide, rfl⟩
  · exact ⟨Tryd.f108, _, Tryd.func108, by decide, rfl⟩
  · exact ⟨Tryd.f109, _, Tryd.func109, by decide, rfl⟩
  · exact ⟨Tryd.f110, _, Tryd.func110, by decide, rfl⟩
  · exact ⟨Tryd.f111, _, Tryd.func111, by decide, rfl⟩
  · exact ⟨Tryd.f112, _, Tryd.func112, by decide, rfl⟩
  · exact ⟨Tryd.f113, _, Tryd.func113, by decide, rfl⟩
  · exact ⟨Tryd.f114, _, Tryd.func114, by decide, rfl⟩
  · exact ⟨Tryd.f115, _, Tryd.func115, by decide, rfl⟩
  · exact ⟨Tryd.f116, _, Tryd.func116, by decide, rfl⟩
  · exact ⟨Tryd.f117, _, Tryd.func117, by decide, rfl⟩
  · exact ⟨Tryd.f118, _, Tryd.func118, by decide, rfl⟩
  · exact ⟨Tryd.f119, _, Tryd.func119, by decide, rfl⟩
  · exact ⟨Tryd.f120, _, Tryd.func120, by decide, rfl⟩
  · exact ⟨Tryd.f121, _, Tryd.func121, by decide, rfl⟩
  · exact ⟨Tryd.f122, _, Tryd.func122, by decide, rfl⟩
  · exact ⟨Tryd.f124, _, Tryd.func124, by decide, rfl⟩
  · exact ⟨Tryd.f125, _, Tryd.func125, by decide, rfl⟩
  · exact ⟨Tryd.f126, _, Tryd.func126, by decide, rfl⟩
  · exact ⟨Tryd.f127, _, Tryd.func127, by decide, rfl⟩
  · exact ⟨Tryd.f128, _, Tryd.func128, by decide, rfl⟩
  · exact ⟨Tryd.f129, _, Tryd.func129, by decide, rfl⟩
  · exact ⟨Tryd.f130, _, Tryd.func130, by decide, rfl⟩
  · exact ⟨Tryd.f131, _, Tryd.func131, by decide, rfl⟩
  · exact ⟨Tryd.f132, _, Tryd.func132, by decide, rfl⟩
  · exact ⟨Tryd.f133, _, Tryd.func133, by decide, rfl⟩
  · exact ⟨Tryd.f134, _, Tryd.func134, by decide, rfl⟩
  · exact ⟨Tryd.f135, _, Tryd.func135, by decide, rfl⟩
  · exact ⟨Tryd.f136, _, Tryd.func136, by decide, rfl⟩
  · exact ⟨Tryd.f137, _, Tryd.func137, by decide, rfl⟩
  · exact ⟨Tryd.f138, _, Tryd.func138, by decide, rfl⟩
  · exact ⟨Tryd.f139, _, Tryd.func139, by decide, rfl⟩
  · exact ⟨Tryd.f140, _, Tryd.func140, by decide, rfl⟩
  · exact ⟨Tryd.f141, _, Tryd.func141, by decide, rfl⟩
  · exact ⟨Tryd.f142, _, Tryd.func142, by decide, rfl⟩
theorem mixed : Tryd.prog.follows .mixedOrders = true := by kernel_rfl
/-- chiasmus/chiasmuslaw07.ApplyParts -/
noncomputable abbrev M704 (H : FuncId → Option (List V → Option V)) (n : Nat) : Mc := mcOf (Cx H) 4 Tryd.f4 n
theorem m704 (H n) : (M704 H n).E.keep = [0, 1, 2, 6, 7, 8, 9, 10, 11, 12, 13, 14, 27, 59] ∧ (M704 H n).E.cnd = [27, 59] ∧ (M704 H n).E.frz = [7, 8, 9, 10, 11, 12, 13, 14] ∧ (M704 H n).E.pro = [] ∧ (M704 H n).E.imp = [] ∧ (M704 H n).E.n = 89 ∧ (M704 H n).E.lvl = 0 ∧ (M704 H n).E.P = Tryd.prog ∧ (M704 H n).fuel = n ∧ (M704 H n).C = H ∧ (M704 H n).E.ok = okL := ⟨rfl, rfl, rfl, rfl, rfl, rfl, rfl, rfl, rfl, rfl, rfl⟩
noncomputable abbrev c704 : Code := Tryd.f4.body.getD .skip
theorem s704 {H} (hH : SoundHand Tryd.prog (hand H)) {args out} (n : Nat) (hl : args.length ≤ 89) (hp : match out with | .ret v => pureR v = true | .pan v => pureR v = true) (h : Fin (M704 (hand H) n) Tryd.f4.results.toList (R (M704 (hand H) n) c704 .top ⟨params 0 args, [], fun _ => none, 0⟩) = some out) : SoundPure Tryd.prog 4 args out := sound_of (C := Cx (hand H)) hH good mixed Tryd.func4 rfl hl hp h
/-- chiasmus/chiasmuslaw07.ApplyRenames -/
noncomputable abbrev M705 (H : FuncId → Option (List V → Option V)) (n : Nat) : Mc := mcOf (Cx H) 5 Tryd.f5 n
theorem m705 (H n) : (M705 H n).E.keep = [0, 1, 2, 6, 7, 8, 10, 11, 12, 13, 14, 16, 17, 18, 19, 20, 38, 85, 86, 100] ∧ (M705 H n).E.cnd = [38, 85, 86, 100] ∧ (M705 H n).E.frz = [7, 8, 9, 10, 11, 12, 13, 14, 15, 16, 17, 18, 19] ∧ (M705 H n).E.pro = [] ∧ (M705 H n).E.imp = [] ∧ (M705 H n).E.n = 116 ∧ (M705 H n).E.lvl = 0 ∧ (M705 H n).E.P = Tryd.prog ∧ (M705 H n).fuel = n ∧ (M705 H n).C = H ∧ (M705 H n).E.ok = okL := ⟨rfl, rfl, rfl, rfl, rfl, rfl, rfl, rfl, rfl, rfl, rfl⟩
noncomputable abbrev c705 : Code := Tryd.f5.body.getD .skip
theorem s705 {H} (hH : SoundHand Tryd.prog (hand H)) {args out} (n : Nat) (hl : args.length ≤ 116) (hp : match out with | .ret v => pureR v = true | .pan v => pureR v = true) (h : Fin (M705 (hand H) n) Tryd.f5.results.toList (R (M705 (hand H) n) c705 .top ⟨params 0 args, [], fun _ => none, 0⟩) = some out) : SoundPure Tryd.prog 5 args out := sound_of (C := Cx (hand H)) hH good mixed Tryd.func5 rfl hl hp h
/-- chiasmus/chiasmuslaw06.Size -/
noncomputable abbrev M708 (H : FuncId → Option (List V → Option V)) (n : Nat) : Mc := mcOf (Cx H) 8 Tryd.f8 n
theorem m708 (H n) : (M708 H n).E.keep = [0, 1, 4, 5, 7, 8, 9, 10, 11, 18] ∧ (M708 H n).E.cnd = [11, 18] ∧ (M708 H n).E.frz = [] ∧ (M708 H n).E.pro = [] ∧ (M708 H n).E.imp = [] ∧ (M708 H n).E.n = 29 ∧ (M708 H n).E.lvl = 0 ∧ (M708 H n).E.P = Tryd.prog ∧ (M708 H n).fuel = n ∧ (M708 H n).C = H ∧ (M708 H n).E.ok = okL := ⟨rfl, rfl, rfl, rfl, rfl, rfl, rfl, rfl, rfl, rfl, rfl⟩
noncomputable abbrev c708 : Code := Tryd.f8.body.getD .skip
theorem s708 {H} (hH : SoundHand Tryd.prog (hand H)) {args out} (n : Nat) (hl : args.length ≤ 29) (hp : match out with | .ret v => pureR v = true | .pan v => pureR v = true) (h : Fin (M708 (hand H) n) Tryd.f8.results.toList (R (M708 (hand H) n) c708 .top ⟨params 0 args, [], fun _ => none, 0⟩) = some out) : SoundPure Tryd.prog 8 args out := sound_of (C := Cx (hand H)) hH good mixed Tryd.func8 rfl hl hp h
/-- chiasmus/chiasmuslaw06.Few -/
noncomputable abbrev M709 (H : FuncId → Option (List V → Option V)) (n : Nat) : Mc := mcOf (Cx H) 9 Tryd.f9 n
theorem m709 (H n) : (M709 H n).E.keep = [0, 1, 4, 5, 7, 10, 11, 12, 13, 18] ∧ (M709 H n).E.cnd = [13, 18] ∧ (M709 H n).E.frz = [5] ∧ (M709 H n).E.pro = [] ∧ (M709 H n).E.imp = [] ∧ (M709 H n).E.n = 33 ∧ (M709 H n).E.lvl = 0 ∧ (M709 H n).E.P = Tryd.prog ∧ (M709 H n).fuel = n ∧ (M709 H n).C = H ∧ (M709 H n).E.ok = okL := ⟨rfl, rfl, rfl, rfl, rfl, rfl, rfl, rfl, rfl, rfl, rfl⟩
noncomputable abbrev c709 : Code := Tryd.f9.body.getD .skip
theorem s709 {H} (hH : SoundHand Tryd.prog (hand H)) {args out} (n : Nat) (hl : args.length ≤ 33) (hp : match out with | .ret v => pureR v = true | .pan v => pureR v = true) (h : Fin (M709 (hand H) n) Tryd.f9.results.toList (R (M709 (hand H) n) c709 .top ⟨params 0 args, [], fun _ => none, 0⟩) = some out) : SoundPure Tryd.prog 9 args out := sound_of (C := Cx (hand H)) hH good mixed Tryd.func9 rfl hl hp h
/-- chiasmus/chiasmuslaw07.awake -/
noncomputable abbrev M710 (H : FuncId → Option (List V → Option V)) (n : Nat) : Mc := mcOf (Cx H) 10 Tryd.f10 n
theorem m710 (H n) : (M710 H n).E.keep = [0, 1, 2, 3, 4, 5, 6, 7, 8, 9] ∧ (M710 H n).E.cnd = [] ∧ (M710 H n).E.frz = [3, 4, 5, 6, 7, 8, 9] ∧ (M710 H n).E.pro = [] ∧ (M710 H n).E.imp = [] ∧ (M710 H n).E.n = 75 ∧ (M710 H n).E.lvl = 0 ∧ (M710 H n).E.P = Tryd.prog ∧ (M710 H n).fuel = n ∧ (M710 H n).C = H ∧ (M710 H n).E.ok = okL := ⟨rfl, rfl, rfl, rfl, rfl, rfl, rfl, rfl, rfl, rfl, rfl⟩
noncomputable abbrev c710 : Code := Tryd.f10.body.getD .skip
theorem s710 {H} (hH : SoundHand Tryd.prog (hand H)) {args out} (n : Nat) (hl : args.length ≤ 75) (hp : match out with | .ret v => pureR v = true | .pan v => pureR v = true) (h : Fin (M710 (hand H) n) Tryd.f10.results.toList (R (M710 (hand H) n) c710 .top ⟨params 0 args, [], fun _ => none, 0⟩) = some out) : SoundPure Tryd.prog 10 args out := sound_of (C := Cx (hand H)) hH good mixed Tryd.func10 rfl hl hp h
/-- chiasmus/apply.To -/
noncomputable abbrev M711 (H : FuncId → Option (List V → Option V)) (n : Nat) : Mc := mcOf (Cx H) 11 Tryd.f11 n
theorem m711 (H n) : (M711 H n).E.keep = [0, 1, 4, 5, 6, 7, 11, 16] ∧ (M711 H n).E.cnd = [11, 16] ∧ (M711 H n).E.frz = [] ∧ (M711 H n).E.pro = [] ∧ (M711 H n).E.imp = [] ∧ (M711 H n).E.n = 23 ∧ (M711 H n).E.lvl = 0 ∧ (M711 H n).E.P = Tryd.prog ∧ (M711 H n).fuel = n ∧ (M711 H n).C = H ∧ (M711 H n).E.ok = okL := ⟨rfl, rfl, rfl, rfl, rfl, rfl, rfl, rfl, rfl, rfl, rfl⟩
noncomputable abbrev c711 : Code := Tryd.f11.body.getD .skip
theorem s711 {H} (hH : SoundHand Tryd.prog (hand H)) {args out} (n : Nat) (hl : args.length ≤ 23) (hp : match out with | .ret v => pureR v = true | .pan v => pureR v = true) (h : Fin (M711 (hand H) n) Tryd.f11.results.toList (R (M711 (hand H) n) c711 .top ⟨params 0 args, [], fun _ => none, 0⟩) = some out) : SoundPure Tryd.prog 11 args out := sound_of (C := Cx (hand H)) hH good mixed Tryd.func11 rfl hl hp h
/-- chiasmus/chiasmusref01.Equal -/
noncomputable abbrev M312 (H : FuncId → Option (List V → Option V)) (n : Nat) : Mc := mcOf (Cx H) 13 Tryd.f13 n
theorem m312 (H n) : (M312 H n).E.keep = [0, 1, 4] ∧ (M312 H n).E.cnd = [] ∧ (M312 H n).E.frz = [] ∧ (M312 H n).E.pro = [] ∧ (M312 H n).E.imp = [] ∧ (M312 H n).E.n = 9 ∧ (M312 H n).E.lvl = 0 ∧ (M312 H n).E.P = Tryd.prog ∧ (M312 H n).fuel = n ∧ (M312 H n).C = H ∧ (M312 H n).E.ok = okL := ⟨rfl, rfl, rfl, rfl, rfl, rfl, rfl, rfl, rfl, rfl, rfl⟩
noncomputable abbrev c312 : Code := Tryd.f13.body.getD .skip
theorem s312 {H} (hH : SoundHand Tryd.prog (hand H)) {args out} (n : Nat) (hl : args.length ≤ 9) (hp : match out with | .ret v => pureR v = true | .pan v => pureR v = true) (h : Fin (M312 (hand H) n) Tryd.f13.results.toList (R (M312 (hand H) n) c312 .top ⟨params 0 args, [], fun _ => none, 0⟩) = some out) : SoundPure Tryd.prog 13 args out := sound_of (C := Cx (hand H)) hH good mixed Tryd.func13 rfl hl hp h
/-- chiasmus/apply.Check -/
noncomputable abbrev M714 (H : FuncId → Option (List V → Option V)) (n : Nat) : Mc := mcOf (Cx H) 14 Tryd.f14 n
theorem m714 (H n) : (M714 H n).E.keep = [0, 2, 3, 5, 6, 7, 8, 11, 13, 14, 15, 16, 26, 30, 38, 44] ∧ (M714 H n).E.cnd = [11, 16, 26, 30, 38, 44] ∧ (M714 H n).E.frz = [7] ∧ (M714 H n).E.pro = [] ∧ (M714 H n).E.imp = [] ∧ (M714 H n).E.n = 46 ∧ (M714 H n).E.lvl = 0 ∧ (M714 H n).E.P = Tryd.prog ∧ (M714 H n).fuel = n ∧ (M714 H n).C = H ∧ (M714 H n).E.ok = okL := ⟨rfl, rfl, rfl, rfl, rfl, rfl, rfl, rfl, rfl, rfl, rfl⟩
noncomputable abbrev c714 : Code := Tryd.f14.body.getD .skip
theorem s714 {H} (hH : SoundHand Tryd.prog (hand H)) {args out} (n : Nat) (hl : args.length ≤ 46) (hp : match out with | .ret v => pureR v = true | .pan v => pureR v = true) (h : Fin (M714 (hand H) n) Tryd.f14.results.toList (R (M714 (hand H) n) c714 .top ⟨params 0 args, [], fun _ => none, 0⟩) = some out) : SoundPure Tryd.prog 14 args out := sound_of (C := Cx (hand H)) hH good mixed Tryd.func14 rfl hl hp h
/-- slices.Concat[[]chiasmus/api.Term,chiasmus/api.Term] -/
noncomputable abbrev M716 (H : FuncId → Option (List V → Option V)) (n : Nat) : Mc := mcOf (Cx H) 16 Tryd.f16 n
theorem m716 (H n) : (M716 H n).E.keep = [0, 2, 3, 5, 6, 8, 9, 10, 11, 12, 20, 25, 26, 27, 28] ∧ (M716 H n).E.cnd = [12, 20, 28] ∧ (M716 H n).E.frz = [3, 5, 8] ∧ (M716 H n).E.pro = [] ∧ (M716 H n).E.imp = [] ∧ (M716 H n).E.n = 36 ∧ (M716 H n).E.lvl = 0 ∧ (M716 H n).E.P = Tryd.prog ∧ (M716 H n).fuel = n ∧ (M716 H n).C = H ∧ (M716 H n).E.ok = okL := ⟨rfl, rfl, rfl, rfl, rfl, rfl, rfl, rfl, rfl, rfl, rfl⟩
noncomputable abbrev c716 : Code := Tryd.f16.body.getD .skip
theorem s716 {H} (hH : SoundHand Tryd.prog (hand H)) {args out} (n : Nat) (hl : args.length ≤ 36) (hp : match out with | .ret v => pureR v = true | .pan v => pureR v = true) (h : Fin (M716 (hand H) n) Tryd.f16.results.toList (R (M716 (hand H) n) c716 .top ⟨params 0 args, [], fun _ => none, 0⟩) = some out) : SoundPure Tryd.prog 16 args out := sound_of (C := Cx (hand H)) hH good mixed Tryd.func16 rfl hl hp h
/-- chiasmus/term.Result -/
noncomputable abbrev M717 (H : FuncId → Option (List V → Option V)) (n : Nat) : Mc := mcOf (Cx H) 17 Tryd.f17 n
theorem m717 (H n) : (M717 H n).E.keep = [0, 2] ∧ (M717 H n).E.cnd = [] ∧ (M717 H n).E.frz = [] ∧ (M717 H n).E.pro = [] ∧ (M717 H n).E.imp = [] ∧ (M717 H n).E.n = 5 ∧ (M717 H n).E.lvl = 0 ∧ (M717 H n).E.P = Tryd.prog ∧ (M717 H n).fuel = n ∧ (M717 H n).C = H ∧ (M717 H n).E.ok = okL := ⟨rfl, rfl, rfl, rfl, rfl, rfl, rfl, rfl, rfl, rfl, rfl⟩
noncomputable abbrev c717 : Code := Tryd.f17.body.getD .skip
theorem s717 {H} (hH : SoundHand Tryd.prog (hand H)) {args out} (n : Nat) (hl : args.length ≤ 5) (hp : match out with | .ret v => pureR v = true | .pan v => pureR v = true) (h : Fin (M717 (hand H) n) Tryd.f17.results.toList (R (M717 (hand H) n) c717 .top ⟨params 0 args, [], fun _ => none, 0⟩) = some out) : SoundPure Tryd.prog 17 args out := sound_of (C := Cx (hand H)) hH good mixed Tryd.func17 rfl hl hp h
/-- chiasmus/apply.Renaming -/
noncomputable abbrev M718 (H : FuncId → Option (List V → Option V)) (n : Nat) : Mc := mcOf (Cx H) 18 Tryd.f18 n
theorem m718 (H n) : (M718 H n).E.keep = [0, 1, 4, 5, 6, 14, 18, 23] ∧ (M718 H n).E.cnd = [14, 23] ∧ (M718 H n).E.frz = [6] ∧ (M718 H n).E.pro = [] ∧ (M718 H n).E.imp = [41] ∧ (M718 H n).E.n = 28 ∧ (M718 H n).E.lvl = 0 ∧ (M718 H n).E.P = Tryd.prog ∧ (M718 H n).fuel = n ∧ (M718 H n).C = H ∧ (M718 H n).E.ok = okL := ⟨rfl, rfl, rfl, rfl, rfl, rfl, rfl, rfl, rfl, rfl, rfl⟩
noncomputable abbrev c718 : Code := Tryd.f18.body.getD .skip
theorem s718 {H} (hH : SoundHand Tryd.prog (hand H)) {args out} (n : Nat) (hl : args.length ≤ 28) (hp : match out with | .ret v => pureR v = true | .pan v => pureR v = true) (h : Fin (M718 (hand H) n) Tryd.f18.results.toList (R (M718 (hand H) n) c718 .top ⟨params 0 args, [], fun _ => none, 0⟩) = some out) : SoundPure Tryd.prog 18 args out := sound_of (C := Cx (hand H)) hH good mixed Tryd.func18 rfl hl hp h
/-- chiasmus/apply.Fresh -/
noncomputable abbrev M719 (H : FuncId → Option (List V → Option V)) (n : Nat) : Mc := mcOf (Cx H) 19 Tryd.f19 n
theorem m719 (H n) : (M719 H n).E.keep = [0, 1, 4, 5, 6, 7, 8, 9, 10, 11, 16, 23, 25, 26, 27, 28] ∧ (M719 H n).E.cnd = [16, 23, 28] ∧ (M719 H n).E.frz = [9, 10, 12] ∧ (M719 H n).E.pro = [8] ∧ (M719 H n).E.imp = [44] ∧ (M719 H n).E.n = 55 ∧ (M719 H n).E.lvl = 0 ∧ (M719 H n).E.P = Tryd.prog ∧ (M719 H n).fuel = n ∧ (M719 H n).C = H ∧ (M719 H n).E.ok = okL := ⟨rfl, rfl, rfl, rfl, rfl, rfl, rfl, rfl, rfl, rfl, rfl⟩
noncomputable abbrev c719 : Code := Tryd.f19.body.getD .skip
theorem s719 {H} (hH : SoundHand Tryd.prog (hand H)) {args out} (n : Nat) (hl : args.length ≤ 55) (hp : match out with | .ret v => pureR v = true | .pan v => pureR v = true) (h : Fin (M719 (hand H) n) Tryd.f19.results.toList (R (M719 (hand H) n) c719 .top ⟨params 0 args, [], fun _ => none, 0⟩) = some out) : SoundPure Tryd.prog 19 args out := sound_of (C := Cx (hand H)) hH good mixed Tryd.func19 rfl hl hp h
/-- chiasmus/chiasmuslaw06.Alike -/
noncomputable abbrev M720 (H : FuncId → Option (List V → Option V)) (n : Nat) : Mc := mcOf (Cx H) 20 Tryd.f20 n
theorem m720 (H n) : (M720 H n).E.keep = [0, 1, 4] ∧ (M720 H n).E.cnd = [] ∧ (M720 H n).E.frz = [] ∧ (M720 H n).E.pro = [] ∧ (M720 H n).E.imp = [] ∧ (M720 H n).E.n = 8 ∧ (M720 H n).E.lvl = 0 ∧ (M720 H n).E.P = Tryd.prog ∧ (M720 H n).fuel = n ∧ (M720 H n).C = H ∧ (M720 H n).E.ok = okL := ⟨rfl, rfl, rfl, rfl, rfl, rfl, rfl, rfl, rfl, rfl, rfl⟩
noncomputable abbrev c720 : Code := Tryd.f20.body.getD .skip
theorem s720 {H} (hH : SoundHand Tryd.prog (hand H)) {args out} (n : Nat) (hl : args.length ≤ 8) (hp : match out with | .ret v => pureR v = true | .pan v => pureR v = true) (h : Fin (M720 (hand H) n) Tryd.f20.results.toList (R (M720 (hand H) n) c720 .top ⟨params 0 args, [], fun _ => none, 0⟩) = some out) : SoundPure Tryd.prog 20 args out := sound_of (C := Cx (hand H)) hH good mixed Tryd.func20 rfl hl hp h
/-- chiasmus/term.IsVariable -/
noncomputable abbrev M725 (H : FuncId → Option (List V → Option V)) (n : Nat) : Mc := mcOf (Cx H) 25 Tryd.f25 n
theorem m725 (H n) : (M725 H n).E.keep = [0, 1, 2] ∧ (M725 H n).E.cnd = [] ∧ (M725 H n).E.frz = [1] ∧ (M725 H n).E.pro = [] ∧ (M725 H n).E.imp = [] ∧ (M725 H n).E.n = 11 ∧ (M725 H n).E.lvl = 0 ∧ (M725 H n).E.P = Tryd.prog ∧ (M725 H n).fuel = n ∧ (M725 H n).C = H ∧ (M725 H n).E.ok = okL := ⟨rfl, rfl, rfl, rfl, rfl, rfl, rfl, rfl, rfl, rfl, rfl⟩
noncomputable abbrev c725 : Code := Tryd.f25.body.getD .skip
theorem s725 {H} (hH : SoundHand Tryd.prog (hand H)) {args out} (n : Nat) (hl : args.length ≤ 11) (hp : match out with | .ret v => pureR v = true | .pan v => pureR v = true) (h : Fin (M725 (hand H) n) Tryd.f25.results.toList (R (M725 (hand H) n) c725 .top ⟨params 0 args, [], fun _ => none, 0⟩) = some out) : SoundPure Tryd.prog 25 args out := sound_of (C := Cx (hand H)) hH good mixed Tryd.func25 rfl hl hp h
/-- chiasmus/term.Variables -/
noncomputable abbrev M727 (H : FuncId → Option (List V → Option V)) (n : Nat) : Mc := mcOf (Cx H) 27 Tryd.f27 n
theorem m727 (H n) : (M727 H n).E.keep = [0, 2, 3, 4, 5, 6, 9, 10, 20] ∧ (M727 H n).E.cnd = [20] ∧ (M727 H n).E.frz = [6] ∧ (M727 H n).E.pro = [] ∧ (M727 H n).E.imp = [] ∧ (M727 H n).E.n = 28 ∧ (M727 H n).E.lvl = 0 ∧ (M727 H n).E.P = Tryd.prog ∧ (M727 H n).fuel = n ∧ (M727 H n).C = H ∧ (M727 H n).E.ok = okL := ⟨rfl, rfl, rfl, rfl, rfl, rfl, rfl, rfl, rfl, rfl, rfl⟩
noncomputable abbrev c727 : Code := Tryd.f27.body.getD .skip
theorem s727 {H} (hH : SoundHand Tryd.prog (hand H)) {args out} (n : Nat) (hl : args.length ≤ 28) (hp : match out with | .ret v => pureR v = true | .pan v => pureR v = true) (h : Fin (M727 (hand H) n) Tryd.f27.results.toList (R (M727 (hand H) n) c727 .top ⟨params 0 args, [], fun _ => none, 0⟩) = some out) : SoundPure Tryd.prog 27 args out := sound_of (C := Cx (hand H)) hH good mixed Tryd.func27 rfl hl hp h
/-- chiasmus/chiasmuslaw07.v -/
noncomputable abbrev M728 (H : FuncId → Option (List V → Option V)) (n : Nat) : Mc := mcOf (Cx H) 28 Tryd.f28 n
theorem m728 (H n) : (M728 H n).E.keep = [0, 1, 4] ∧ (M728 H n).E.cnd = [] ∧ (M728 H n).E.frz = [] ∧ (M728 H n).E.pro = [] ∧ (M728 H n).E.imp = [] ∧ (M728 H n).E.n = 8 ∧ (M728 H n).E.lvl = 0 ∧ (M728 H n).E.P = Tryd.prog ∧ (M728 H n).fuel = n ∧ (M728 H n).C = H ∧ (M728 H n).E.ok = okL := ⟨rfl, rfl, rfl, rfl, rfl, rfl, rfl, rfl, rfl, rfl, rfl⟩
noncomputable abbrev c728 : Code := Tryd.f28.body.getD .skip
theorem s728 {H} (hH : SoundHand Tryd.prog (hand H)) {args out} (n : Nat) (hl : args.length ≤ 8) (hp : match out with | .ret v => pureR v = true | .pan v => pureR v = true) (h : Fin (M728 (hand H) n) Tryd.f28.results.toList (R (M728 (hand H) n) c728 .top ⟨params 0 args, [], fun _ => none, 0⟩) = some out) : SoundPure Tryd.prog 28 args out := sound_of (C := Cx (hand H)) hH good mixed Tryd.func28 rfl hl hp h
/-- chiasmus/apply.to -/
noncomputable abbrev M730 (H : FuncId → Option (List V → Option V)) (n : Nat) : Mc := mcOf (Cx H) 30 Tryd.f30 n
theorem m730 (H n) : (M730 H n).E.keep = [0, 1, 4, 5, 6, 7, 8, 22] ∧ (M730 H n).E.cnd = [22] ∧ (M730 H n).E.frz = [6, 7, 8] ∧ (M730 H n).E.pro = [] ∧ (M730 H n).E.imp = [] ∧ (M730 H n).E.n = 26 ∧ (M730 H n).E.lvl = 0 ∧ (M730 H n).E.P = Tryd.prog ∧ (M730 H n).fuel = n ∧ (M730 H n).C = H ∧ (M730 H n).E.ok = okL := ⟨rfl, rfl, rfl, rfl, rfl, rfl, rfl, rfl, rfl, rfl, rfl⟩
noncomputable abbrev c730 : Code := Tryd.f30.body.getD .skip
theorem s730 {H} (hH : SoundHand Tryd.prog (hand H)) {args out} (n : Nat) (hl : args.length ≤ 26) (hp : match out with | .ret v => pureR v = true | .pan v => pureR v = true) (h : Fin (M730 (hand H) n) Tryd.f30.results.toList (R (M730 (hand H) n) c730 .top ⟨params 0 args, [], fun _ => none, 0⟩) = some out) : SoundPure Tryd.prog 30 args out := sound_of (C := Cx (hand H)) hH good mixed Tryd.func30 rfl hl hp h
/-- chiasmus/chiasmusref01.Compare -/
noncomputable abbrev M329 (H : FuncId → Option (List V → Option V)) (n : Nat) : Mc := mcOf (Cx H) 33 Tryd.f33 n
theorem m329 (H n) : (M329 H n).E.keep = [0, 1, 4, 5, 6, 7, 17, 30, 41, 54, 68, 74, 79] ∧ (M329 H n).E.cnd = [17, 30, 41, 54, 68, 74, 79] ∧ (M329 H n).E.frz = [5] ∧ (M329 H n).E.pro = [] ∧ (M329 H n).E.imp = [] ∧ (M329 H n).E.n = 80 ∧ (M329 H n).E.lvl = 0 ∧ (M329 H n).E.P = Tryd.prog ∧ (M329 H n).fuel = n ∧ (M329 H n).C = H ∧ (M329 H n).E.ok = okL := ⟨rfl, rfl, rfl, rfl, rfl, rfl, rfl, rfl, rfl, rfl, rfl⟩
noncomputable abbrev c329 : Code := Tryd.f33.body.getD .skip
theorem s329 {H} (hH : SoundHand Tryd.prog (hand H)) {args out} (n : Nat) (hl : args.length ≤ 80) (hp : match out with | .ret v => pureR v = true | .pan v => pureR v = true) (h : Fin (M329 (hand H) n) Tryd.f33.results.toList (R (M329 (hand H) n) c329 .top ⟨params 0 args, [], fun _ => none, 0⟩) = some out) : SoundPure Tryd.prog 33 args out := sound_of (C := Cx (hand H)) hH good mixed Tryd.func33 rfl hl hp h
/-- chiasmus/term.Variable -/
noncomputable abbrev M734 (H : FuncId → Option (List V → Option V)) (n : Nat) : Mc := mcOf (Cx H) 34 Tryd.f34 n
theorem m734 (H n) : (M734 H n).E.keep = [0, 2, 3, 4, 18, 29] ∧ (M734 H n).E.cnd = [18, 29] ∧ (M734 H n).E.frz = [] ∧ (M734 H n).E.pro = [] ∧ (M734 H n).E.imp = [] ∧ (M734 H n).E.n = 32 ∧ (M734 H n).E.lvl = 0 ∧ (M734 H n).E.P = Tryd.prog ∧ (M734 H n).fuel = n ∧ (M734 H n).C = H ∧ (M734 H n).E.ok = okL := ⟨rfl, rfl, rfl, rfl, rfl, rfl, rfl, rfl, rfl, rfl, rfl⟩
noncomputable abbrev c734 : Code := Tryd.f34.body.getD .skip
theorem s734 {H} (hH : SoundHand Tryd.prog (hand H)) {args out} (n : Nat) (hl : args.length ≤ 32) (hp : match out with | .ret v => pureR v = true | .pan v => pureR v = true) (h : Fin (M734 (hand H) n) Tryd.f34.results.toList (R (M734 (hand H) n) c734 .top ⟨params 0 args, [], fun _ => none, 0⟩) = some out) : SoundPure Tryd.prog 34 args out := sound_of (C := Cx (hand H)) hH good mixed Tryd.func34 rfl hl hp h
/-- chiasmus/apply.fits -/
noncomputable abbrev M735 (H : FuncId → Option (List V → Option V)) (n : Nat) : Mc := mcOf (Cx H) 35 Tryd.f35 n
theorem m735 (H n) : (M735 H n).E.keep = [0, 1, 2, 4, 5, 9, 13] ∧ (M735 H n).E.cnd = [5, 9, 13] ∧ (M735 H n).E.frz = [2, 5, 9, 13] ∧ (M735 H n).E.pro = [] ∧ (M735 H n).E.imp = [] ∧ (M735 H n).E.n = 40 ∧ (M735 H n).E.lvl = 0 ∧ (M735 H n).E.P = Tryd.prog ∧ (M735 H n).fuel = n ∧ (M735 H n).C = H ∧ (M735 H n).E.ok = okL := ⟨rfl, rfl, rfl, rfl, rfl, rfl, rfl, rfl, rfl, rfl, rfl⟩
noncomputable abbrev c735 : Code := Tryd.f35.body.getD .skip
theorem s735 {H} (hH : SoundHand Tryd.prog (hand H)) {args out} (n : Nat) (hl : args.length ≤ 40) (hp : match out with | .ret v => pureR v = true | .pan v => pureR v = true) (h : Fin (M735 (hand H) n) Tryd.f35.results.toList (R (M735 (hand H) n) c735 .top ⟨params 0 args, [], fun _ => none, 0⟩) = some out) : SoundPure Tryd.prog 35 args out := sound_of (C := Cx (hand H)) hH good mixed Tryd.func35 rfl hl hp h
/-- chiasmus/term.check -/
noncomputable abbrev M740 (H : FuncId → Option (List V → Option V)) (n : Nat) : Mc := mcOf (Cx H) 40 Tryd.f40 n
theorem m740 (H n) : (M740 H n).E.keep = [0, 1, 3, 4, 5, 6, 8, 9, 13, 16, 18, 19, 28] ∧ (M740 H n).E.cnd = [13, 16, 28] ∧ (M740 H n).E.frz = [3] ∧ (M740 H n).E.pro = [] ∧ (M740 H n).E.imp = [] ∧ (M740 H n).E.n = 29 ∧ (M740 H n).E.lvl = 0 ∧ (M740 H n).E.P = Tryd.prog ∧ (M740 H n).fuel = n ∧ (M740 H n).C = H ∧ (M740 H n).E.ok = okL := ⟨rfl, rfl, rfl, rfl, rfl, rfl, rfl, rfl, rfl, rfl, rfl⟩
noncomputable abbrev c740 : Code := Tryd.f40.body.getD .skip
theorem s740 {H} (hH : SoundHand Tryd.prog (hand H)) {args out} (n : Nat) (hl : args.length ≤ 29) (hp : match out with | .ret v => pureR v = true | .pan v => pureR v = true) (h : Fin (M740 (hand H) n) Tryd.f40.results.toList (R (M740 (hand H) n) c740 .top ⟨params 0 args, [], fun _ => none, 0⟩) = some out) : SoundPure Tryd.prog 40 args out := sound_of (C := Cx (hand H)) hH good mixed Tryd.func40 rfl hl hp h
/-- chiasmus/apply.under -/
noncomputable abbrev M743 (H : FuncId → Option (List V → Option V)) (n : Nat) : Mc := mcOf (Cx H) 43 Tryd.f43 n
theorem m743 (H n) : (M743 H n).E.keep = [0, 1, 4, 5, 7, 8, 9, 10, 11, 12, 13, 22] ∧ (M743 H n).E.cnd = [13, 22] ∧ (M743 H n).E.frz = [8, 9] ∧ (M743 H n).E.pro = [5] ∧ (M743 H n).E.imp = [] ∧ (M743 H n).E.n = 41 ∧ (M743 H n).E.lvl = 0 ∧ (M743 H n).E.P = Tryd.prog ∧ (M743 H n).fuel = n ∧ (M743 H n).C = H ∧ (M743 H n).E.ok = okL := ⟨rfl, rfl, rfl, rfl, rfl, rfl, rfl, rfl, rfl, rfl, rfl⟩
noncomputable abbrev c743 : Code := Tryd.f43.body.getD .skip
theorem s743 {H} (hH : SoundHand Tryd.prog (hand H)) {args out} (n : Nat) (hl : args.length ≤ 41) (hp : match out with | .ret v => pureR v = true | .pan v => pureR v = true) (h : Fin (M743 (hand H) n) Tryd.f43.results.toList (R (M743 (hand H) n) c743 .top ⟨params 0 args, [], fun _ => none, 0⟩) = some out) : SoundPure Tryd.prog 43 args out := sound_of (C := Cx (hand H)) hH good mixed Tryd.func43 rfl hl hp h
/-- chiasmus/apply.values -/
noncomputable abbrev M744 (H : FuncId → Option (List V → Option V)) (n : Nat) : Mc := mcOf (Cx H) 44 Tryd.f44 n
theorem m744 (H n) : (M744 H n).E.keep = [0, 2, 3, 5, 7, 8, 9, 10] ∧ (M744 H n).E.cnd = [10] ∧ (M744 H n).E.frz = [] ∧ (M744 H n).E.pro = [] ∧ (M744 H n).E.imp = [] ∧ (M744 H n).E.n = 20 ∧ (M744 H n).E.lvl = 0 ∧ (M744 H n).E.P = Tryd.prog ∧ (M744 H n).fuel = n ∧ (M744 H n).C = H ∧ (M744 H n).E.ok = okL := ⟨rfl, rfl, rfl, rfl, rfl, rfl, rfl, rfl, rfl, rfl, rfl⟩
noncomputable abbrev c744 : Code := Tryd.f44.body.getD .skip
theorem s744 {H} (hH : SoundHand Tryd.prog (hand H)) {args out} (n : Nat) (hl : args.length ≤ 20) (hp : match out with | .ret v => pureR v = true | .pan v => pureR v = true) (h : Fin (M744 (hand H) n) Tryd.f44.results.toList (R (M744 (hand H) n) c744 .top ⟨params 0 args, [], fun _ => none, 0⟩) = some out) : SoundPure Tryd.prog 44 args out := sound_of (C := Cx (hand H)) hH good mixed Tryd.func44 rfl hl hp h
/-- slices.EqualFunc[[]chiasmus/api.Binding,[]chiasmus/api.Binding,chiasmus/api.Binding,chiasmus/api.Binding] -/
noncomputable abbrev M745 (H : FuncId → Option (List V → Option V)) (n : Nat) : Mc := mcOf (Cx H) 45 Tryd.f45 n
theorem m745 (H n) : (M745 H n).E.keep = [0, 1, 2, 6, 7, 8, 9, 14, 15, 16, 17, 18, 30] ∧ (M745 H n).E.cnd = [14, 18, 30] ∧ (M745 H n).E.frz = [7] ∧ (M745 H n).E.pro = [] ∧ (M745 H n).E.imp = [] ∧ (M745 H n).E.n = 32 ∧ (M745 H n).E.lvl = 0 ∧ (M745 H n).E.P = Tryd.prog ∧ (M745 H n).fuel = n ∧ (M745 H n).C = H ∧ (M745 H n).E.ok = okL := ⟨rfl, rfl, rfl, rfl, rfl, rfl, rfl, rfl, rfl, rfl, rfl⟩
noncomputable abbrev c745 : Code := Tryd.f45.body.getD .skip
theorem s745 {H} (hH : SoundHand Tryd.prog (hand H)) {args out} (n : Nat) (hl : args.length ≤ 32) (hp : match out with | .ret v => pureR v = true | .pan v => pureR v = true) (h : Fin (M745 (hand H) n) Tryd.f45.results.toList (R (M745 (hand H) n) c745 .top ⟨params 0 args, [], fun _ => none, 0⟩) = some out) : SoundPure Tryd.prog 45 args out := sound_of (C := Cx (hand H)) hH good mixed Tryd.func45 rfl hl hp h
/-- chiasmus/chiasmuslaw06.Alike$1 -/
noncomputable abbrev M746 (H : FuncId → Option (List V → Option V)) (n : Nat) : Mc := mcOf (Cx H) 46 Tryd.f46 n
theorem m746 (H n) : (M746 H n).E.keep = [0, 1, 2, 3, 4] ∧ (M746 H n).E.cnd = [] ∧ (M746 H n).E.frz = [2, 3] ∧ (M746 H n).E.pro = [] ∧ (M746 H n).E.imp = [] ∧ (M746 H n).E.n = 17 ∧ (M746 H n).E.lvl = 0 ∧ (M746 H n).E.P = Tryd.prog ∧ (M746 H n).fuel = n ∧ (M746 H n).C = H ∧ (M746 H n).E.ok = okL := ⟨rfl, rfl, rfl, rfl, rfl, rfl, rfl, rfl, rfl, rfl, rfl⟩
noncomputable abbrev c746 : Code := Tryd.f46.body.getD .skip
theorem s746 {H} (hH : SoundHand Tryd.prog (hand H)) {args out} (n : Nat) (hl : args.length ≤ 17) (hp : match out with | .ret v => pureR v = true | .pan v => pureR v = true) (h : Fin (M746 (hand H) n) Tryd.f46.results.toList (R (M746 (hand H) n) c746 .top ⟨params 0 args, [], fun _ => none, 0⟩) = some out) : SoundPure Tryd.prog 46 args out := sound_of (C := Cx (hand H)) hH good mixed Tryd.func46 rfl hl hp h
/-- chiasmus/term.Copy -/
noncomputable abbrev M748 (H : FuncId → Option (List V → Option V)) (n : Nat) : Mc := mcOf (Cx H) 48 Tryd.f48 n
theorem m748 (H n) : (M748 H n).E.keep = [0, 2, 3, 4, 8, 9, 10] ∧ (M748 H n).E.cnd = [10] ∧ (M748 H n).E.frz = [4] ∧ (M748 H n).E.pro = [] ∧ (M748 H n).E.imp = [] ∧ (M748 H n).E.n = 24 ∧ (M748 H n).E.lvl = 0 ∧ (M748 H n).E.P = Tryd.prog ∧ (M748 H n).fuel = n ∧ (M748 H n).C = H ∧ (M748 H n).E.ok = okL := ⟨rfl, rfl, rfl, rfl, rfl, rfl, rfl, rfl, rfl, rfl, rfl⟩
noncomputable abbrev c748 : Code := Tryd.f48.body.getD .skip
theorem s748 {H} (hH : SoundHand Tryd.prog (hand H)) {args out} (n : Nat) (hl : args.length ≤ 24) (hp : match out with | .ret v => pureR v = true | .pan v => pureR v = true) (h : Fin (M748 (hand H) n) Tryd.f48.results.toList (R (M748 (hand H) n) c748 .top ⟨params 0 args, [], fun _ => none, 0⟩) = some out) : SoundPure Tryd.prog 48 args out := sound_of (C := Cx (hand H)) hH good mixed Tryd.func48 rfl hl hp h
/-- chiasmus/term.Name -/
noncomputable abbrev M752 (H : FuncId → Option (List V → Option V)) (n : Nat) : Mc := mcOf (Cx H) 52 Tryd.f52 n
theorem m752 (H n) : (M752 H n).E.keep = [0, 1, 2, 5] ∧ (M752 H n).E.cnd = [5] ∧ (M752 H n).E.frz = [1] ∧ (M752 H n).E.pro = [] ∧ (M752 H n).E.imp = [] ∧ (M752 H n).E.n = 15 ∧ (M752 H n).E.lvl = 0 ∧ (M752 H n).E.P = Tryd.prog ∧ (M752 H n).fuel = n ∧ (M752 H n).C = H ∧ (M752 H n).E.ok = okL := ⟨rfl, rfl, rfl, rfl, rfl, rfl, rfl, rfl, rfl, rfl, rfl⟩
noncomputable abbrev c752 : Code := Tryd.f52.body.getD .skip
theorem s752 {H} (hH : SoundHand Tryd.prog (hand H)) {args out} (n : Nat) (hl : args.length ≤ 15) (hp : match out with | .ret v => pureR v = true | .pan v => pureR v = true) (h : Fin (M752 (hand H) n) Tryd.f52.results.toList (R (M752 (hand H) n) c752 .top ⟨params 0 args, [], fun _ => none, 0⟩) = some out) : SoundPure Tryd.prog 52 args out := sound_of (C := Cx (hand H)) hH good mixed Tryd.func52 rfl hl hp h
/-- chiasmus/term.all -/
noncomputable abbrev M753 (H : FuncId → Option (List V → Option V)) (n : Nat) : Mc := mcOf (Cx H) 53 Tryd.f53 n
theorem m753 (H n) : (M753 H n).E.keep = [0, 1, 2] ∧ (M753 H n).E.cnd = [] ∧ (M753 H n).E.frz = [1] ∧ (M753 H n).E.pro = [] ∧ (M753 H n).E.imp = [] ∧ (M753 H n).E.n = 4 ∧ (M753 H n).E.lvl = 0 ∧ (M753 H n).E.P = Tryd.prog ∧ (M753 H n).fuel = n ∧ (M753 H n).C = H ∧ (M753 H n).E.ok = okL := ⟨rfl, rfl, rfl, rfl, rfl, rfl, rfl, rfl, rfl, rfl, rfl⟩
noncomputable abbrev c753 : Code := Tryd.f53.body.getD .skip
theorem s753 {H} (hH : SoundHand Tryd.prog (hand H)) {args out} (n : Nat) (hl : args.length ≤ 4) (hp : match out with | .ret v => pureR v = true | .pan v => pureR v = true) (h : Fin (M753 (hand H) n) Tryd.f53.results.toList (R (M753 (hand H) n) c753 .top ⟨params 0 args, [], fun _ => none, 0⟩) = some out) : SoundPure Tryd.prog 53 args out := sound_of (C := Cx (hand H)) hH good mixed Tryd.func53 rfl hl hp h
/-- chiasmus/apply.size -/
noncomputable abbrev M756 (H : FuncId → Option (List V → Option V)) (n : Nat) : Mc := mcOf (Cx H) 56 Tryd.f56 n
theorem m756 (H n) : (M756 H n).E.keep = [0, 1, 2, 6, 7, 9, 10, 11, 12, 13, 14, 15, 16, 17, 18, 19, 24, 31, 58] ∧ (M756 H n).E.cnd = [19, 24, 31, 58] ∧ (M756 H n).E.frz = [10, 11, 12, 13, 14, 15] ∧ (M756 H n).E.pro = [] ∧ (M756 H n).E.imp = [] ∧ (M756 H n).E.n = 74 ∧ (M756 H n).E.lvl = 0 ∧ (M756 H n).E.P = Tryd.prog ∧ (M756 H n).fuel = n ∧ (M756 H n).C = H ∧ (M756 H n).E.ok = okL := ⟨rfl, rfl, rfl, rfl, rfl, rfl, rfl, rfl, rfl, rfl, rfl⟩
noncomputable abbrev c756 : Code := Tryd.f56.body.getD .skip
theorem s756 {H} (hH : SoundHand Tryd.prog (hand H)) {args out} (n : Nat) (hl : args.length ≤ 74) (hp : match out with | .ret v => pureR v = true | .pan v => pureR v = true) (h : Fin (M756 (hand H) n) Tryd.f56.results.toList (R (M756 (hand H) n) c756 .top ⟨params 0 args, [], fun _ => none, 0⟩) = some out) : SoundPure Tryd.prog 56 args out := sound_of (C := Cx (hand H)) hH good mixed Tryd.func56 rfl hl hp h
/-- chiasmus/chiasmusref01.Sign -/
noncomputable abbrev M350 (H : FuncId → Option (List V → Option V)) (n : Nat) : Mc := mcOf (Cx H) 60 Tryd.f60 n
theorem m350 (H n) : (M350 H n).E.keep = [0, 1, 4, 7, 10] ∧ (M350 H n).E.cnd = [7, 10] ∧ (M350 H n).E.frz = [] ∧ (M350 H n).E.pro = [] ∧ (M350 H n).E.imp = [] ∧ (M350 H n).E.n = 11 ∧ (M350 H n).E.lvl = 0 ∧ (M350 H n).E.P = Tryd.prog ∧ (M350 H n).fuel = n ∧ (M350 H n).C = H ∧ (M350 H n).E.ok = okL := ⟨rfl, rfl, rfl, rfl, rfl, rfl, rfl, rfl, rfl, rfl, rfl⟩
noncomputable abbrev c350 : Code := Tryd.f60.body.getD .skip
theorem s350 {H} (hH : SoundHand Tryd.prog (hand H)) {args out} (n : Nat) (hl : args.length ≤ 11) (hp : match out with | .ret v => pureR v = true | .pan v => pureR v = true) (h : Fin (M350 (hand H) n) Tryd.f60.results.toList (R (M350 (hand H) n) c350 .top ⟨params 0 args, [], fun _ => none, 0⟩) = some out) : SoundPure Tryd.prog 60 args out := sound_of (C := Cx (hand H)) hH good mixed Tryd.func60 rfl hl hp h
/-- chiasmus/term.right -/
noncomputable abbrev M763 (H : FuncId → Option (List V → Option V)) (n : Nat) : Mc := mcOf (Cx H) 63 Tryd.f63 n
theorem m763 (H n) : (M763 H n).E.keep = [0, 1, 2, 4, 5, 10, 18, 20, 21, 27, 44, 49] ∧ (M763 H n).E.cnd = [5, 10, 18, 21, 27, 44] ∧ (M763 H n).E.frz = [1, 5, 10, 21, 27, 44, 49] ∧ (M763 H n).E.pro = [] ∧ (M763 H n).E.imp = [] ∧ (M763 H n).E.n = 67 ∧ (M763 H n).E.lvl = 0 ∧ (M763 H n).E.P = Tryd.prog ∧ (M763 H n).fuel = n ∧ (M763 H n).C = H ∧ (M763 H n).E.ok = okL := ⟨rfl, rfl, rfl, rfl, rfl, rfl, rfl, rfl, rfl, rfl, rfl⟩
noncomputable abbrev c763 : Code := Tryd.f63.body.getD .skip
theorem s763 {H} (hH : SoundHand Tryd.prog (hand H)) {args out} (n : Nat) (hl : args.length ≤ 67) (hp : match out with | .ret v => pureR v = true | .pan v => pureR v = true) (h : Fin (M763 (hand H) n) Tryd.f63.results.toList (R (M763 (hand H) n) c763 .top ⟨params 0 args, [], fun _ => none, 0⟩) = some out) : SoundPure Tryd.prog 63 args out := sound_of (C := Cx (hand H)) hH good mixed Tryd.func63 rfl hl hp h
/-- chiasmus/term.IsSymbol -/
noncomputable abbrev M764 (H : FuncId → Option (List V → Option V)) (n : Nat) : Mc := mcOf (Cx H) 64 Tryd.f64 n
theorem m764 (H n) : (M764 H n).E.keep = [0, 1, 2] ∧ (M764 H n).E.cnd = [] ∧ (M764 H n).E.frz = [1] ∧ (M764 H n).E.pro = [] ∧ (M764 H n).E.imp = [] ∧ (M764 H n).E.n = 11 ∧ (M764 H n).E.lvl = 0 ∧ (M764 H n).E.P = Tryd.prog ∧ (M764 H n).fuel = n ∧ (M764 H n).C = H ∧ (M764 H n).E.ok = okL := ⟨rfl, rfl, rfl, rfl, rfl, rfl, rfl, rfl, rfl, rfl, rfl⟩
noncomputable abbrev c764 : Code := Tryd.f64.body.getD .skip
theorem s764 {H} (hH : SoundHand Tryd.prog (hand H)) {args out} (n : Nat) (hl : args.length ≤ 11) (hp : match out with | .ret v => pureR v = true | .pan v => pureR v = true) (h : Fin (M764 (hand H) n) Tryd.f64.results.toList (R (M764 (hand H) n) c764 .top ⟨params 0 args, [], fun _ => none, 0⟩) = some out) : SoundPure Tryd.prog 64 args out := sound_of (C := Cx (hand H)) hH good mixed Tryd.func64 rfl hl hp h
/-- chiasmus/term.depth -/
noncomputable abbrev M766 (H : FuncId → Option (List V → Option V)) (n : Nat) : Mc := mcOf (Cx H) 66 Tryd.f66 n
theorem m766 (H n) : (M766 H n).E.keep = [0, 2, 3, 5, 6, 7, 8, 9, 25] ∧ (M766 H n).E.cnd = [9, 25] ∧ (M766 H n).E.frz = [] ∧ (M766 H n).E.pro = [] ∧ (M766 H n).E.imp = [] ∧ (M766 H n).E.n = 34 ∧ (M766 H n).E.lvl = 0 ∧ (M766 H n).E.P = Tryd.prog ∧ (M766 H n).fuel = n ∧ (M766 H n).C = H ∧ (M766 H n).E.ok = okL := ⟨rfl, rfl, rfl, rfl, rfl, rfl, rfl, rfl, rfl, rfl, rfl⟩
noncomputable abbrev c766 : Code := Tryd.f66.body.getD .skip
theorem s766 {H} (hH : SoundHand Tryd.prog (hand H)) {args out} (n : Nat) (hl : args.length ≤ 34) (hp : match out with | .ret v => pureR v = true | .pan v => pureR v = true) (h : Fin (M766 (hand H) n) Tryd.f66.results.toList (R (M766 (hand H) n) c766 .top ⟨params 0 args, [], fun _ => none, 0⟩) = some out) : SoundPure Tryd.prog 66 args out := sound_of (C := Cx (hand H)) hH good mixed Tryd.func66 rfl hl hp h
noncomputable abbrev c767 : Code := Tryd.f67.body.getD .skip
noncomputable abbrev c768 : Code := Tryd.f68.body.getD .skip
/-- chiasmus/apply.values$1 -/
noncomputable abbrev M770 (H : FuncId → Option (List V → Option V)) (n : Nat) : Mc := mcOf (Cx H) 70 Tryd.f70 n
theorem m770 (H n) : (M770 H n).E.keep = [0, 1, 2, 3, 4, 5, 6, 9] ∧ (M770 H n).E.cnd = [9] ∧ (M770 H n).E.frz = [2] ∧ (M770 H n).E.pro = [] ∧ (M770 H n).E.imp = [] ∧ (M770 H n).E.n = 19 ∧ (M770 H n).E.lvl = 0 ∧ (M770 H n).E.P = Tryd.prog ∧ (M770 H n).fuel = n ∧ (M770 H n).C = H ∧ (M770 H n).E.ok = okL := ⟨rfl, rfl, rfl, rfl, rfl, rfl, rfl, rfl, rfl, rfl, rfl⟩
noncomputable abbrev c770 : Code := Tryd.f70.body.getD .skip
theorem s770 {H} (hH : SoundHand Tryd.prog (hand H)) {args out} (n : Nat) (hl : args.length ≤ 19) (hp : match out with | .ret v => pureR v = true | .pan v => pureR v = true) (h : Fin (M770 (hand H) n) Tryd.f70.results.toList (R (M770 (hand H) n) c770 .top ⟨params 0 args, [], fun _ => none, 0⟩) = some out) : SoundPure Tryd.prog 70 args out := sound_of (C := Cx (hand H)) hH good mixed Tryd.func70 rfl hl hp h
/-- slices.Clone[[]chiasmus/api.Term,chiasmus/api.Term] -/
noncomputable abbrev M773 (H : FuncId → Option (List V → Option V)) (n : Nat) : Mc := mcOf (Cx H) 73 Tryd.f73 n
theorem m773 (H n) : (M773 H n).E.keep = [0, 2, 4] ∧ (M773 H n).E.cnd = [4] ∧ (M773 H n).E.frz = [] ∧ (M773 H n).E.pro = [] ∧ (M773 H n).E.imp = [] ∧ (M773 H n).E.n = 8 ∧ (M773 H n).E.lvl = 0 ∧ (M773 H n).E.P = Tryd.prog ∧ (M773 H n).fuel = n ∧ (M773 H n).C = H ∧ (M773 H n).E.ok = okL := ⟨rfl, rfl, rfl, rfl, rfl, rfl, rfl, rfl, rfl, rfl, rfl⟩
noncomputable abbrev c773 : Code := Tryd.f73.body.getD .skip
theorem s773 {H} (hH : SoundHand Tryd.prog (hand H)) {args out} (n : Nat) (hl : args.length ≤ 8) (hp : match out with | .ret v => pureR v = true | .pan v => pureR v = true) (h : Fin (M773 (hand H) n) Tryd.f73.results.toList (R (M773 (hand H) n) c773 .top ⟨params 0 args, [], fun _ => none, 0⟩) = some out) : SoundPure Tryd.prog 73 args out := sound_of (C := Cx (hand H)) hH good mixed Tryd.func73 rfl hl hp h
noncomputable abbrev c782 : Code := Tryd.f82.body.getD .skip
noncomputable abbrev c783 : Code := Tryd.f83.body.getD .skip
/-- chiasmus/term.Size -/
noncomputable abbrev M785 (H : FuncId → Option (List V → Option V)) (n : Nat) : Mc := mcOf (Cx H) 85 Tryd.f85 n
theorem m785 (H n) : (M785 H n).E.keep = [0, 2, 3, 4, 7, 8] ∧ (M785 H n).E.cnd = [] ∧ (M785 H n).E.frz = [] ∧ (M785 H n).E.pro = [] ∧ (M785 H n).E.imp = [104] ∧ (M785 H n).E.n = 14 ∧ (M785 H n).E.lvl = 0 ∧ (M785 H n).E.P = Tryd.prog ∧ (M785 H n).fuel = n ∧ (M785 H n).C = H ∧ (M785 H n).E.ok = okL := ⟨rfl, rfl, rfl, rfl, rfl, rfl, rfl, rfl, rfl, rfl, rfl⟩
noncomputable abbrev c785 : Code := Tryd.f85.body.getD .skip
theorem s785 {H} (hH : SoundHand Tryd.prog (hand H)) {args out} (n : Nat) (hl : args.length ≤ 14) (hp : match out with | .ret v => pureR v = true | .pan v => pureR v = true) (h : Fin (M785 (hand H) n) Tryd.f85.results.toList (R (M785 (hand H) n) c785 .top ⟨params 0 args, [], fun _ => none, 0⟩) = some out) : SoundPure Tryd.prog 85 args out := sound_of (C := Cx (hand H)) hH good mixed Tryd.func85 rfl hl hp h
/-- chiasmus/term.identifier -/
noncomputable abbrev M791 (H : FuncId → Option (List V → Option V)) (n : Nat) : Mc := mcOf (Cx H) 91 Tryd.f91 n
theorem m791 (H n) : (M791 H n).E.keep = [0, 1, 4] ∧ (M791 H n).E.cnd = [] ∧ (M791 H n).E.frz = [] ∧ (M791 H n).E.pro = [] ∧ (M791 H n).E.imp = [] ∧ (M791 H n).E.n = 22 ∧ (M791 H n).E.lvl = 0 ∧ (M791 H n).E.P = Tryd.prog ∧ (M791 H n).fuel = n ∧ (M791 H n).C = H ∧ (M791 H n).E.ok = okL := ⟨rfl, rfl, rfl, rfl, rfl, rfl, rfl, rfl, rfl, rfl, rfl⟩
noncomputable abbrev c791 : Code := Tryd.f91.body.getD .skip
theorem s791 {H} (hH : SoundHand Tryd.prog (hand H)) {args out} (n : Nat) (hl : args.length ≤ 22) (hp : match out with | .ret v => pureR v = true | .pan v => pureR v = true) (h : Fin (M791 (hand H) n) Tryd.f91.results.toList (R (M791 (hand H) n) c791 .top ⟨params 0 args, [], fun _ => none, 0⟩) = some out) : SoundPure Tryd.prog 91 args out := sound_of (C := Cx (hand H)) hH good mixed Tryd.func91 rfl hl hp h
/-- chiasmus/term.isNumber -/
noncomputable abbrev M794 (H : FuncId → Option (List V → Option V)) (n : Nat) : Mc := mcOf (Cx H) 94 Tryd.f94 n
theorem m794 (H n) : (M794 H n).E.keep = [0, 2, 3, 4, 21] ∧ (M794 H n).E.cnd = [21] ∧ (M794 H n).E.frz = [3, 4] ∧ (M794 H n).E.pro = [] ∧ (M794 H n).E.imp = [] ∧ (M794 H n).E.n = 34 ∧ (M794 H n).E.lvl = 0 ∧ (M794 H n).E.P = Tryd.prog ∧ (M794 H n).fuel = n ∧ (M794 H n).C = H ∧ (M794 H n).E.ok = okL := ⟨rfl, rfl, rfl, rfl, rfl, rfl, rfl, rfl, rfl, rfl, rfl⟩
noncomputable abbrev c794 : Code := Tryd.f94.body.getD .skip
theorem s794 {H} (hH : SoundHand Tryd.prog (hand H)) {args out} (n : Nat) (hl : args.length ≤ 34) (hp : match out with | .ret v => pureR v = true | .pan v => pureR v = true) (h : Fin (M794 (hand H) n) Tryd.f94.results.toList (R (M794 (hand H) n) c794 .top ⟨params 0 args, [], fun _ => none, 0⟩) = some out) : SoundPure Tryd.prog 94 args out := sound_of (C := Cx (hand H)) hH good mixed Tryd.func94 rfl hl hp h
/-- chiasmus/term.every -/
noncomputable abbrev M795 (H : FuncId → Option (List V → Option V)) (n : Nat) : Mc := mcOf (Cx H) 95 Tryd.f95 n
theorem m795 (H n) : (M795 H n).E.keep = [0, 1, 4, 5, 7, 8, 9, 16] ∧ (M795 H n).E.cnd = [9, 16] ∧ (M795 H n).E.frz = [5] ∧ (M795 H n).E.pro = [] ∧ (M795 H n).E.imp = [] ∧ (M795 H n).E.n = 18 ∧ (M795 H n).E.lvl = 0 ∧ (M795 H n).E.P = Tryd.prog ∧ (M795 H n).fuel = n ∧ (M795 H n).C = H ∧ (M795 H n).E.ok = okL := ⟨rfl, rfl, rfl, rfl, rfl, rfl, rfl, rfl, rfl, rfl, rfl⟩
noncomputable abbrev c795 : Code := Tryd.f95.body.getD .skip
theorem s795 {H} (hH : SoundHand Tryd.prog (hand H)) {args out} (n : Nat) (hl : args.length ≤ 18) (hp : match out with | .ret v => pureR v = true | .pan v => pureR v = true) (h : Fin (M795 (hand H) n) Tryd.f95.results.toList (R (M795 (hand H) n) c795 .top ⟨params 0 args, [], fun _ => none, 0⟩) = some out) : SoundPure Tryd.prog 95 args out := sound_of (C := Cx (hand H)) hH good mixed Tryd.func95 rfl hl hp h
/-- strings.CutPrefix -/
noncomputable abbrev M812 (H : FuncId → Option (List V → Option V)) (n : Nat) : Mc := mcOf (Cx H) 112 Tryd.f112 n
theorem m812 (H n) : (M812 H n).E.keep = [0, 1, 4, 5] ∧ (M812 H n).E.cnd = [] ∧ (M812 H n).E.frz = [] ∧ (M812 H n).E.pro = [] ∧ (M812 H n).E.imp = [] ∧ (M812 H n).E.n = 11 ∧ (M812 H n).E.lvl = 0 ∧ (M812 H n).E.P = Tryd.prog ∧ (M812 H n).fuel = n ∧ (M812 H n).C = H ∧ (M812 H n).E.ok = okL := ⟨rfl, rfl, rfl, rfl, rfl, rfl, rfl, rfl, rfl, rfl, rfl⟩
noncomputable abbrev c812 : Code := Tryd.f112.body.getD .skip
theorem s812 {H} (hH : SoundHand Tryd.prog (hand H)) {args out} (n : Nat) (hl : args.length ≤ 11) (hp : match out with | .ret v => pureR v = true | .pan v => pureR v = true) (h : Fin (M812 (hand H) n) Tryd.f112.results.toList (R (M812 (hand H) n) c812 .top ⟨params 0 args, [], fun _ => none, 0⟩) = some out) : SoundPure Tryd.prog 112 args out := sound_of (C := Cx (hand H)) hH good mixed Tryd.func112 rfl hl hp h
/-- internal/stringslite.CutPrefix -/
noncomputable abbrev M827 (H : FuncId → Option (List V → Option V)) (n : Nat) : Mc := mcOf (Cx H) 127 Tryd.f127 n
theorem m827 (H n) : (M827 H n).E.keep = [0, 1, 4, 5, 9] ∧ (M827 H n).E.cnd = [9] ∧ (M827 H n).E.frz = [] ∧ (M827 H n).E.pro = [] ∧ (M827 H n).E.imp = [] ∧ (M827 H n).E.n = 15 ∧ (M827 H n).E.lvl = 0 ∧ (M827 H n).E.P = Tryd.prog ∧ (M827 H n).fuel = n ∧ (M827 H n).C = H ∧ (M827 H n).E.ok = okL := ⟨rfl, rfl, rfl, rfl, rfl, rfl, rfl, rfl, rfl, rfl, rfl⟩
noncomputable abbrev c827 : Code := Tryd.f127.body.getD .skip
theorem s827 {H} (hH : SoundHand Tryd.prog (hand H)) {args out} (n : Nat) (hl : args.length ≤ 15) (hp : match out with | .ret v => pureR v = true | .pan v => pureR v = true) (h : Fin (M827 (hand H) n) Tryd.f127.results.toList (R (M827 (hand H) n) c827 .top ⟨params 0 args, [], fun _ => none, 0⟩) = some out) : SoundPure Tryd.prog 127 args out := sound_of (C := Cx (hand H)) hH good mixed Tryd.func127 rfl hl hp h
/-- internal/stringslite.HasPrefix -/
noncomputable abbrev M838 (H : FuncId → Option (List V → Option V)) (n : Nat) : Mc := mcOf (Cx H) 138 Tryd.f138 n
theorem m838 (H n) : (M838 H n).E.keep = [0, 1, 4] ∧ (M838 H n).E.cnd = [] ∧ (M838 H n).E.frz = [] ∧ (M838 H n).E.pro = [] ∧ (M838 H n).E.imp = [] ∧ (M838 H n).E.n = 18 ∧ (M838 H n).E.lvl = 0 ∧ (M838 H n).E.P = Tryd.prog ∧ (M838 H n).fuel = n ∧ (M838 H n).C = H ∧ (M838 H n).E.ok = okL := ⟨rfl, rfl, rfl, rfl, rfl, rfl, rfl, rfl, rfl, rfl, rfl⟩
noncomputable abbrev c838 : Code := Tryd.f138.body.getD .skip
theorem s838 {H} (hH : SoundHand Tryd.prog (hand H)) {args out} (n : Nat) (hl : args.length ≤ 18) (hp : match out with | .ret v => pureR v = true | .pan v => pureR v = true) (h : Fin (M838 (hand H) n) Tryd.f138.results.toList (R (M838 (hand H) n) c838 .top ⟨params 0 args, [], fun _ => none, 0⟩) = some out) : SoundPure Tryd.prog 138 args out := sound_of (C := Cx (hand H)) hH good mixed Tryd.func138 rfl hl hp h
theorem oks : okL.contains 2 = true ∧ okL.contains 3 = true ∧ okL.contains 4 = true ∧ okL.contains 5 = true ∧ okL.contains 6 = true ∧ okL.contains 7 = true ∧ okL.contains 8 = true ∧ okL.contains 9 = true ∧ okL.contains 10 = true ∧ okL.contains 11 = true ∧ okL.contains 12 = true ∧ okL.contains 13 = true ∧ okL.contains 14 = true ∧ okL.contains 15 = true ∧ okL.contains 16 = true ∧ okL.contains 17 = true ∧ okL.contains 18 = true ∧ okL.contains 19 = true ∧ okL.contains 20 = true ∧ okL.contains 21 = true ∧ okL.contains 22 = true ∧ okL.contains 23 = true ∧ okL.contains 24 = true ∧ okL.contains 25 = true ∧ okL.contains 26 = true ∧ okL.contains 27 = true ∧ okL.contains 28 = true ∧ okL.contains 29 = true ∧ okL.contains 30 = true ∧ okL.contains 31 = true ∧ okL.contains 32 = true ∧ okL.contains 33 = true ∧ okL.contains 34 = true ∧ okL.contains 35 = true ∧ okL.contains 36 = true ∧ okL.contains 37 = true ∧ okL.contains 38 = true ∧ okL.contains 39 = true ∧ okL.contains 40 = true ∧ okL.contains 41 = true ∧ okL.contains 42 = true ∧ okL.contains 43 = true ∧ okL.contains 44 = true ∧ okL.contains 45 = true ∧ okL.contains 46 = true ∧ okL.contains 47 = true ∧ okL.contains 48 = true ∧ okL.contains 49 = true ∧ okL.contains 50 = true ∧ okL.contains 51 = true ∧ okL.contains 52 = true ∧ okL.contains 53 = true ∧ okL.contains 54 = true ∧ okL.contains 55 = true ∧ okL.contains 56 = true ∧ okL.contains 57 = true ∧ okL.contains 58 = true ∧ okL.contains 59 = true ∧ okL.contains 60 = true ∧ okL.contains 61 = true ∧ okL.contains 62 = true ∧ okL.contains 63 = true ∧ okL.contains 64 = true ∧ okL.contains 65 = true ∧ okL.contains 66 = true ∧ okL.contains 67 = true ∧ okL.contains 68 = true ∧ okL.contains 69 = true ∧ okL.contains 70 = true ∧ okL.contains 71 = true ∧ okL.contains 72 = true ∧ okL.contains 73 = true ∧ okL.contains 74 = true ∧ okL.contains 75 = true ∧ okL.contains 76 = true ∧ okL.contains 77 = true ∧ okL.contains 78 = true ∧ okL.contains 79 = true ∧ okL.contains 80 = true ∧ okL.contains 81 = true ∧ okL.contains 82 = true ∧ okL.contains 83 = true ∧ okL.contains 84 = true ∧ okL.contains 85 = true ∧ okL.contains 86 = true ∧ okL.contains 87 = true ∧ okL.contains 88 = true ∧ okL.contains 89 = true ∧ okL.contains 90 = true ∧ okL.contains 91 = true ∧ okL.contains 92 = true ∧ okL.contains 93 = true ∧ okL.contains 94 = true ∧ okL.contains 95 = true ∧ okL.contains 96 = true ∧ okL.contains 97 = true ∧ okL.contains 98 = true ∧ okL.contains 99 = true ∧ okL.contains 100 = true ∧ okL.contains 101 = true ∧ okL.contains 102 = true ∧ okL.contains 103 = true ∧ okL.contains 104 = true ∧ okL.contains 105 = true ∧ okL.contains 106 = true ∧ okL.contains 108 = true ∧ okL.contains 109 = true ∧ okL.contains 110 = true ∧ okL.contains 111 = true ∧ okL.contains 112 = true ∧ okL.contains 113 = true ∧ okL.contains 114 = true ∧ okL.contains 115 = true ∧ okL.contains 116 = true ∧ okL.contains 117 = true ∧ okL.contains 118 = true ∧ okL.contains 119 = true ∧ okL.contains 120 = true ∧ okL.contains 121 = true ∧ okL.contains 122 = true ∧ okL.contains 124 = true ∧ okL.contains 125 = true ∧ okL.contains 126 = true ∧ okL.contains 127 = true ∧ okL.contains 128 = true ∧ okL.contains 129 = true ∧ okL.contains 130 = true ∧ okL.contains 131 = true ∧ okL.contains 132 = true ∧ okL.contains 133 = true ∧ okL.contains 134 = true ∧ okL.contains 135 = true ∧ okL.contains 136 = true ∧ okL.contains 137 = true ∧ okL.contains 138 = true ∧ okL.contains 139 = true ∧ okL.contains 140 = true ∧ okL.contains 141 = true ∧ okL.contains 142 = true := ⟨rfl, rfl, rfl, rfl, rfl, rfl, rfl, rfl, rfl, rfl, rfl, rfl, rfl, rfl, rfl, rfl, rfl, rfl, rfl, rfl, rfl, rfl, rfl, rfl, rfl, rfl, rfl, rfl, rfl, rfl, rfl, rfl, rfl, rfl, rfl, rfl, rfl, rfl, rfl, rfl, rfl, rfl, rfl, rfl, rfl, rfl, rfl, rfl, rfl, rfl, rfl, rfl, rfl, rfl, rfl, rfl, rfl, rfl, rfl, rfl, rfl, rfl, rfl, rfl, rfl, rfl, rfl, rfl, rfl, rfl, rfl, rfl, rfl, rfl, rfl, rfl, rfl, rfl, rfl, rfl, rfl, rfl, rfl, rfl, rfl, rfl, rfl, rfl, rfl, rfl, rfl, rfl, rfl, rfl, rfl, rfl, rfl, rfl, rfl, rfl, rfl, rfl, rfl, rfl, rfl, rfl, rfl, rfl, rfl, rfl, rfl, rfl, rfl, rfl, rfl, rfl, rfl, rfl, rfl, rfl, rfl, rfl, rfl, rfl, rfl, rfl, rfl, rfl, rfl, rfl, rfl, rfl, rfl, rfl, rfl, rfl, rfl, rfl, rfl⟩
/-- Facts on types. -/
theorem ty :
  szT Tryd.prog 0 = 1 ∧
  aggT Tryd.prog 0 = some false ∧
  bytesT Tryd.prog 0 = 0 ∧
  zeroT Tryd.prog 0 = some V.junk ∧
  szT Tryd.prog 1 = 1 ∧
  aggT Tryd.prog 1 = some false ∧
  bytesT Tryd.prog 1 = 8 ∧
  zeroT Tryd.prog 1 = some V.nilF ∧
  szT Tryd.prog 2 = 1 ∧
  aggT Tryd.prog 2 = some false ∧
  bytesT Tryd.prog 2 = 8 ∧
  zeroT Tryd.prog 2 = some (V.int IntKind.i64 (0)) ∧
  intT Tryd.prog 2 = some IntKind.i64 ∧
  szT Tryd.prog 3 = 1 ∧
  aggT Tryd.prog 3 = some false ∧
  bytesT Tryd.prog 3 = 8 ∧
  zeroT Tryd.prog 3 = some (V.int IntKind.i64 (0)) ∧
  intT Tryd.prog 3 = some IntKind.i64 ∧
  szT Tryd.prog 4 = 1 ∧
  aggT Tryd.prog 4 = some false ∧
  bytesT Tryd.prog 4 = 1 ∧
  zeroT Tryd.prog 4 = some (V.bool false) ∧
  szT Tryd.prog 5 = 1 ∧
  aggT Tryd.prog 5 = some false ∧
  bytesT Tryd.prog 5 = 1 ∧
  zeroT Tryd.prog 5 = some (V.int IntKind.u8 (0)) ∧
  intT Tryd.prog 5 = some IntKind.u8 ∧
  szT Tryd.prog 9 = 1 ∧
  aggT Tryd.prog 9 = some false ∧
  bytesT Tryd.prog 9 = 16 ∧
  zeroT Tryd.prog 9 = some (V.str []) ∧
  strT Tryd.prog 9 = true ∧
  rowT Tryd.prog 9 = true ∧
  szT Tryd.prog 20 = 1 ∧
  aggT Tryd.prog 20 = some false ∧
  bytesT Tryd.prog 20 = 16 ∧
  zeroT Tryd.prog 20 = some V.nilI ∧
  szT Tryd.prog 21 = 1 ∧
  aggT Tryd.prog 21 = some false ∧
  bytesT Tryd.prog 21 = 4 ∧
  zeroT Tryd.prog 21 = some (V.int IntKind.i32 (0)) ∧
  intT Tryd.prog 21 = some IntKind.i32 ∧
  szT Tryd.prog 22 = 1 ∧
  aggT Tryd.prog 22 = some false ∧
  bytesT Tryd.prog 22 = 24 ∧
  zeroT Tryd.prog 22 = some V.nilS ∧
  elemT Tryd.prog 22 = some 35 ∧
  rowT Tryd.prog 22 = true ∧
  szT Tryd.prog 23 = 1 ∧
  aggT Tryd.prog 23 = some false ∧
  bytesT Tryd.prog 23 = 24 ∧
  zeroT Tryd.prog 23 = some V.nilS ∧
  elemT Tryd.prog 23 = some 59 ∧
  rowT Tryd.prog 23 = true ∧
  szT Tryd.prog 26 = 1 ∧
  aggT Tryd.prog 26 = some false ∧
  bytesT Tryd.prog 26 = 8 ∧
  zeroT Tryd.prog 26 = some V.nilF ∧
  szT Tryd.prog 27 = 1 ∧
  aggT Tryd.prog 27 = some false ∧
  bytesT Tryd.prog 27 = 8 ∧
  zeroT Tryd.prog 27 = some (V.int IntKind.i64 (0)) ∧
  intT Tryd.prog 27 = some IntKind.i64 ∧
  szT Tryd.prog 28 = 1 ∧
  aggT Tryd.prog 28 = some false ∧
  bytesT Tryd.prog 28 = 0 ∧
  zeroT Tryd.prog 28 = some V.junk ∧
  szT Tryd.prog 35 = 3 ∧
  aggT Tryd.prog 35 = some true ∧
  bytesT Tryd.prog 35 = 48 ∧
  zeroT Tryd.prog 35 = some (V.agg [V.int IntKind.i64 (0), V.str [], V.nilS]) ∧
  fldT Tryd.prog 35 0 = some (0, 3) ∧
  fldT Tryd.prog 35 1 = some (1, 9) ∧
  fldT Tryd.prog 35 2 = some (2, 22) ∧
  structT Tryd.prog 35 = true ∧
  szT Tryd.prog 37 = 1 ∧
  aggT Tryd.prog 37 = some false ∧
  bytesT Tryd.prog 37 = 2 ∧
  zeroT Tryd.prog 37 = some (V.int IntKind.u16 (0)) ∧
  intT Tryd.prog 37 = some IntKind.u16 ∧
  szT Tryd.prog 39 = 1 ∧
  aggT Tryd.prog 39 = some false ∧
  bytesT Tryd.prog 39 = 0 ∧
  zeroT Tryd.prog 39 = some V.junk ∧
  szT Tryd.prog 41 = 1 ∧
  aggT Tryd.prog 41 = some false ∧
  bytesT Tryd.prog 41 = 0 ∧
  zeroT Tryd.prog 41 = some V.junk ∧
  szT Tryd.prog 45 = 1 ∧
  aggT Tryd.prog 45 = some false ∧
  bytesT Tryd.prog 45 = 0 ∧
  zeroT Tryd.prog 45 = some V.junk ∧
  szT Tryd.prog 49 = 1 ∧
  aggT Tryd.prog 49 = some false ∧
  bytesT Tryd.prog 49 = 24 ∧
  zeroT Tryd.prog 49 = some V.nilS ∧
  elemT Tryd.prog 49 = some 9 ∧
  rowT Tryd.prog 49 = true ∧
  szT Tryd.prog 50 = 1 ∧
  aggT Tryd.prog 50 = some false ∧
  bytesT Tryd.prog 50 = 24 ∧
  zeroT Tryd.prog 50 = some V.nilS ∧
  elemT Tryd.prog 50 = some 53 ∧
  rowT Tryd.prog 50 = true ∧
  szT Tryd.prog 53 = 2 ∧
  aggT Tryd.prog 53 = some true ∧
  bytesT Tryd.prog 53 = 24 ∧
  zeroT Tryd.prog 53 = some (V.agg [V.str [], V.int IntKind.i64 (0)]) ∧
  fldT Tryd.prog 53 0 = some (0, 9) ∧
  fldT Tryd.prog 53 1 = some (1, 3) ∧
  structT Tryd.prog 53 = true ∧
  szT Tryd.prog 54 = 1 ∧
  aggT Tryd.prog 54 = some false ∧
  bytesT Tryd.prog 54 = 8 ∧
  zeroT Tryd.prog 54 = some V.nilF ∧
  szT Tryd.prog 55 = 1 ∧
  aggT Tryd.prog 55 = some false ∧
  bytesT Tryd.prog 55 = 8 ∧
  zeroT Tryd.prog 55 = some V.nilF ∧
  szT Tryd.prog 59 = 2 ∧
  aggT Tryd.prog 59 = some true ∧
  bytesT Tryd.prog 59 = 40 ∧
  zeroT Tryd.prog 59 = some (V.agg [V.str [], V.nilS]) ∧
  fldT Tryd.prog 59 0 = some (0, 9) ∧
  fldT Tryd.prog 59 1 = some (1, 22) ∧
  structT Tryd.prog 59 = true ∧
  szT Tryd.prog 61 = 1 ∧
  aggT Tryd.prog 61 = some false ∧
  bytesT Tryd.prog 61 = 0 ∧
  zeroT Tryd.prog 61 = some V.junk ∧
  szT Tryd.prog 65 = 1 ∧
  aggT Tryd.prog 65 = some false ∧
  bytesT Tryd.prog 65 = 8 ∧
  zeroT Tryd.prog 65 = some V.nilM ∧
  mapT Tryd.prog 65 = some (9, 4) ∧
  szT Tryd.prog 66 = 1 ∧
  aggT Tryd.prog 66 = some false ∧
  bytesT Tryd.prog 66 = 0 ∧
  zeroT Tryd.prog 66 = some V.junk ∧
  szT Tryd.prog 69 = 1 ∧
  aggT Tryd.prog 69 = some false ∧
  bytesT Tryd.prog 69 = 8 ∧
  zeroT Tryd.prog 69 = some V.nilF ∧
  szT Tryd.prog 70 = 1 ∧
  aggT Tryd.prog 70 = some false ∧
  bytesT Tryd.prog 70 = 0 ∧
  zeroT Tryd.prog 70 = some V.junk ∧
  szT Tryd.prog 73 = 1 ∧
  aggT Tryd.prog 73 = some false ∧
  bytesT Tryd.prog 73 = 24 ∧
  zeroT Tryd.prog 73 = some V.nilS ∧
  elemT Tryd.prog 73 = some 22 ∧
  rowT Tryd.prog 73 = true ∧
  szT Tryd.prog 76 = 1 ∧
  aggT Tryd.prog 76 = some false ∧
  bytesT Tryd.prog 76 = 8 ∧
  zeroT Tryd.prog 76 = some V.nilP ∧
  szT Tryd.prog 77 = 1 ∧
  aggT Tryd.prog 77 = some false ∧
  bytesT Tryd.prog 77 = 8 ∧
  zeroT Tryd.prog 77 = some V.nilM ∧
  mapT Tryd.prog 77 = some (9, 9) ∧
  szT Tryd.prog 79 = 3 ∧
  aggT Tryd.prog 79 = some true ∧
  bytesT Tryd.prog 79 = 40 ∧
  zeroT Tryd.prog 79 = some (V.agg [V.nilM, V.nilM, V.nilS]) ∧
  fldT Tryd.prog 79 0 = some (0, 77) ∧
  fldT Tryd.prog 79 1 = some (1, 77) ∧
  fldT Tryd.prog 79 2 = some (2, 23) ∧
  structT Tryd.prog 79 = true ∧
  szT Tryd.prog 82 = 1 ∧
  aggT Tryd.prog 82 = some false ∧
  bytesT Tryd.prog 82 = 8 ∧
  zeroT Tryd.prog 82 = some V.nilF ∧
  szT Tryd.prog 85 = 1 ∧
  aggT Tryd.prog 85 = some false ∧
  bytesT Tryd.prog 85 = 8 ∧
  zeroT Tryd.prog 85 = some V.nilF ∧
  szT Tryd.prog 88 = 1 ∧
  aggT Tryd.prog 88 = some false ∧
  bytesT Tryd.prog 88 = 8 ∧
  zeroT Tryd.prog 88 = some V.nilF ∧
  szT Tryd.prog 89 = 1 ∧
  aggT Tryd.prog 89 = some false ∧
  bytesT Tryd.prog 89 = 8 ∧
  zeroT Tryd.prog 89 = some V.nilF ∧
  szT Tryd.prog 91 = 1 ∧
  aggT Tryd.prog 91 = some false ∧
  bytesT Tryd.prog 91 = 8 ∧
  zeroT Tryd.prog 91 = some V.nilM ∧
  mapT Tryd.prog 91 = some (9, 3) ∧
  szT Tryd.prog 92 = 1 ∧
  aggT Tryd.prog 92 = some false ∧
  bytesT Tryd.prog 92 = 8 ∧
  zeroT Tryd.prog 92 = some V.nilF ∧
  szT Tryd.prog 93 = 1 ∧
  aggT Tryd.prog 93 = some false ∧
  bytesT Tryd.prog 93 = 8 ∧
  zeroT Tryd.prog 93 = some V.nilF ∧
  szT Tryd.prog 96 = 1 ∧
  aggT Tryd.prog 96 = some false ∧
  bytesT Tryd.prog 96 = 0 ∧
  zeroT Tryd.prog 96 = some V.junk ∧
  szT Tryd.prog 98 = 1 ∧
  aggT Tryd.prog 98 = some false ∧
  bytesT Tryd.prog 98 = 0 ∧
  zeroT Tryd.prog 98 = some V.junk ∧
  szT Tryd.prog 106 = 1 ∧
  aggT Tryd.prog 106 = some false ∧
  bytesT Tryd.prog 106 = 8 ∧
  zeroT Tryd.prog 106 = some V.nilF ∧
  szT Tryd.prog 107 = 1 ∧
  aggT Tryd.prog 107 = some false ∧
  bytesT Tryd.prog 107 = 8 ∧
  zeroT Tryd.prog 107 = some V.nilM ∧
  mapT Tryd.prog 107 = some (9, 22) ∧
  szT Tryd.prog 109 = 1 ∧
  aggT Tryd.prog 109 = some false ∧
  bytesT Tryd.prog 109 = 8 ∧
  zeroT Tryd.prog 109 = some V.nilF ∧
  szT Tryd.prog 110 = 1 ∧
  aggT Tryd.prog 110 = some false ∧
  bytesT Tryd.prog 110 = 8 ∧
  zeroT Tryd.prog 110 = some V.nilF ∧
  szT Tryd.prog 111 = 1 ∧
  aggT Tryd.prog 111 = some false ∧
  bytesT Tryd.prog 111 = 8 ∧
  zeroT Tryd.prog 111 = some V.nilP ∧
  szT Tryd.prog 113 = 2 ∧
  aggT Tryd.prog 113 = some true ∧
  bytesT Tryd.prog 113 = 32 ∧
  zeroT Tryd.prog 113 = some (V.agg [V.nilM, V.nilS]) ∧
  fldT Tryd.prog 113 0 = some (0, 107) ∧
  fldT Tryd.prog 113 1 = some (1, 49) ∧
  structT Tryd.prog 113 = true ∧
  szT Tryd.prog 116 = 1 ∧
  aggT Tryd.prog 116 = some false ∧
  bytesT Tryd.prog 116 = 8 ∧
  zeroT Tryd.prog 116 = some V.nilP ∧
  szT Tryd.prog 118 = 3 ∧
  aggT Tryd.prog 118 = some true ∧
  bytesT Tryd.prog 118 = 56 ∧
  zeroT Tryd.prog 118 = some (V.agg [V.nilS, V.nilS, V.nilP]) ∧
  fldT Tryd.prog 118 0 = some (0, 22) ∧
  fldT Tryd.prog 118 1 = some (1, 22) ∧
  fldT Tryd.prog 118 2 = some (2, 116) ∧
  structT Tryd.prog 118 = true ∧
  szT Tryd.prog 119 = 1 ∧
  aggT Tryd.prog 119 = some false ∧
  bytesT Tryd.prog 119 = 8 ∧
  zeroT Tryd.prog 119 = some V.nilF ∧
  szT Tryd.prog 125 = 1 ∧
  aggT Tryd.prog 125 = some false ∧
  bytesT Tryd.prog 125 = 8 ∧
  zeroT Tryd.prog 125 = some V.nilF ∧
  szT Tryd.prog 127 = 1 ∧
  aggT Tryd.prog 127 = some false ∧
  bytesT Tryd.prog 127 = 0 ∧
  zeroT Tryd.prog 127 = some V.junk ∧
  szT Tryd.prog 131 = 1 ∧
  aggT Tryd.prog 131 = some false ∧
  bytesT Tryd.prog 131 = 8 ∧
  zeroT Tryd.prog 131 = some V.nilF ∧
  szT Tryd.prog 136 = 1 ∧
  aggT Tryd.prog 136 = some false ∧
  bytesT Tryd.prog 136 = 8 ∧
  zeroT Tryd.prog 136 = some (V.int IntKind.u64 (0)) ∧
  intT Tryd.prog 136 = some IntKind.u64 ∧
  szT Tryd.prog 140 = 24 ∧
  aggT Tryd.prog 140 = some true ∧
  bytesT Tryd.prog 140 = 24 ∧
  zeroT Tryd.prog 140 = some   (V.agg     [V.int IntKind.u8 (0), V.int IntKind.u8 (0), V.int IntKind.u8 (0),       V.int IntKind.u8 (0), V.int IntKind.u8 (0), V.int IntKind.u8 (0),       V.int IntKind.u8 (0), V.int IntKind.u8 (0), V.int IntKind.u8 (0),       V.int IntKind.u8 (0), V.int IntKind.u8 (0), V.int IntKind.u8 (0),       V.int IntKind.u8 (0), V.int IntKind.u8 (0), V.int IntKind.u8 (0),       V.int IntKind.u8 (0), V.int IntKind.u8 (0), V.int IntKind.u8 (0),       V.int IntKind.u8 (0), V.int IntKind.u8 (0), V.int IntKind.u8 (0),       V.int IntKind.u8 (0), V.int IntKind.u8 (0), V.int IntKind.u8 (0)]) ∧
  arrT Tryd.prog 140 = some (24, 5) ∧
  szT Tryd.prog 141 = 1 ∧
  aggT Tryd.prog 141 = some false ∧
  bytesT Tryd.prog 141 = 8 ∧
  zeroT Tryd.prog 141 = some (V.int IntKind.u64 (0)) ∧
  intT Tryd.prog 141 = some IntKind.u64 ∧
  szT Tryd.prog 144 = 1 ∧
  aggT Tryd.prog 144 = some false ∧
  bytesT Tryd.prog 144 = 24 ∧
  zeroT Tryd.prog 144 = some V.nilS ∧
  elemT Tryd.prog 144 = some 5 ∧
  rowT Tryd.prog 144 = true ∧
  szT Tryd.prog 145 = 1 ∧
  aggT Tryd.prog 145 = some false ∧
  bytesT Tryd.prog 145 = 0 ∧
  zeroT Tryd.prog 145 = some V.junk ∧
  szT Tryd.prog 148 = 1 ∧
  aggT Tryd.prog 148 = some false ∧
  bytesT Tryd.prog 148 = 4 ∧
  zeroT Tryd.prog 148 = some (V.int IntKind.u32 (0)) ∧
  intT Tryd.prog 148 = some IntKind.u32 ∧
  szT Tryd.prog 149 = 1 ∧
  aggT Tryd.prog 149 = some false ∧
  bytesT Tryd.prog 149 = 0 ∧
  zeroT Tryd.prog 149 = some V.junk ∧
  szT Tryd.prog 154 = 20 ∧
  aggT Tryd.prog 154 = some true ∧
  bytesT Tryd.prog 154 = 160 ∧
  zeroT Tryd.prog 154 = some   (V.agg     [V.int IntKind.u64 (0), V.int IntKind.u64 (0), V.int IntKind.u64 (0),       V.int IntKind.u64 (0), V.int IntKind.u64 (0), V.int IntKind.u64 (0),       V.int IntKind.u64 (0), V.int IntKind.u64 (0), V.int IntKind.u64 (0),       V.int IntKind.u64 (0), V.int IntKind.u64 (0), V.int IntKind.u64 (0),       V.int IntKind.u64 (0), V.int IntKind.u64 (0), V.int IntKind.u64 (0),       V.int IntKind.u64 (0), V.int IntKind.u64 (0), V.int IntKind.u64 (0),       V.int IntKind.u64 (0), V.int IntKind.u64 (0)]) ∧
  arrT Tryd.prog 154 = some (20, 141) ∧
  szT Tryd.prog 155 = 65 ∧
  aggT Tryd.prog 155 = some true ∧
  bytesT Tryd.prog 155 = 65 ∧
  zeroT Tryd.prog 155 = some   (V.agg     [V.int IntKind.u8 (0), V.int IntKind.u8 (0), V.int IntKind.u8 (0),       V.int IntKind.u8 (0), V.int IntKind.u8 (0), V.int IntKind.u8 (0),       V.int IntKind.u8 (0), V.int IntKind.u8 (0), V.int IntKind.u8 (0),       V.int IntKind.u8 (0), V.int IntKind.u8 (0), V.int IntKind.u8 (0),       V.int IntKind.u8 (0), V.int IntKind.u8 (0), V.int IntKind.u8 (0),       V.int IntKind.u8 (0), V.int IntKind.u8 (0), V.int IntKind.u8 (0),       V.int IntKind.u8 (0), V.int IntKind.u8 (0), V.int IntKind.u8 (0),       V.int IntKind.u8 (0), V.int IntKind.u8 (0), V.int IntKind.u8 (0),       V.int IntKind.u8 (0), V.int IntKind.u8 (0), V.int IntKind.u8 (0),       V.int IntKind.u8 (0), V.int IntKind.u8 (0), V.int IntKind.u8 (0),       V.int IntKind.u8 (0), V.int IntKind.u8 (0), V.int IntKind.u8 (0),       V.int IntKind.u8 (0), V.int IntKind.u8 (0), V.int IntKind.u8 (0),       V.int IntKind.u8 (0), V.int IntKind.u8 (0), V.int IntKind.u8 (0),       V.int IntKind.u8 (0), V.int IntKind.u8 (0), V.int IntKind.u8 (0),       V.int IntKind.u8 (0), V.int IntKind.u8 (0), V.int IntKind.u8 (0),       V.int IntKind.u8 (0), V.int IntKind.u8 (0), V.int IntKind.u8 (0),       V.int IntKind.u8 (0), V.int IntKind.u8 (0), V.int IntKind.u8 (0),       V.int IntKind.u8 (0), V.int IntKind.u8 (0), V.int IntKind.u8 (0),       V.int IntKind.u8 (0), V.int IntKind.u8 (0), V.int IntKind.u8 (0),       V.int IntKind.u8 (0), V.int IntKind.u8 (0), V.int IntKind.u8 (0),       V.int IntKind.u8 (0), V.int IntKind.u8 (0), V.int IntKind.u8 (0),       V.int IntKind.u8 (0), V.int IntKind.u8 (0)]) ∧
  arrT Tryd.prog 155 = some (65, 5) ∧
  szT Tryd.prog 160 = 32 ∧
  aggT Tryd.prog 160 = some true ∧
  bytesT Tryd.prog 160 = 32 ∧
  zeroT Tryd.prog 160 = some   (V.agg     [V.int IntKind.u8 (0), V.int IntKind.u8 (0), V.int IntKind.u8 (0),       V.int IntKind.u8 (0), V.int IntKind.u8 (0), V.int IntKind.u8 (0),       V.int IntKind.u8 (0), V.int IntKind.u8 (0), V.int IntKind.u8 (0),       V.int IntKind.u8 (0), V.int IntKind.u8 (0), V.int IntKind.u8 (0),       V.int IntKind.u8 (0), V.int IntKind.u8 (0), V.int IntKind.u8 (0),       V.int IntKind.u8 (0), V.int IntKind.u8 (0), V.int IntKind.u8 (0),       V.int IntKind.u8 (0), V.int IntKind.u8 (0), V.int IntKind.u8 (0),       V.int IntKind.u8 (0), V.int IntKind.u8 (0), V.int IntKind.u8 (0),       V.int IntKind.u8 (0), V.int IntKind.u8 (0), V.int IntKind.u8 (0),       V.int IntKind.u8 (0), V.int IntKind.u8 (0), V.int IntKind.u8 (0),       V.int IntKind.u8 (0), V.int IntKind.u8 (0)]) ∧
  arrT Tryd.prog 160 = some (32, 5) ∧
  szT Tryd.prog 161 = 64 ∧
  aggT Tryd.prog 161 = some true ∧
  bytesT Tryd.prog 161 = 64 ∧
  zeroT Tryd.prog 161 = some   (V.agg     [V.int IntKind.u8 (0), V.int IntKind.u8 (0), V.int IntKind.u8 (0),       V.int IntKind.u8 (0), V.int IntKind.u8 (0), V.int IntKind.u8 (0),       V.int IntKind.u8 (0), V.int IntKind.u8 (0), V.int IntKind.u8 (0),       V.int IntKind.u8 (0), V.int IntKind.u8 (0), V.int IntKind.u8 (0),       V.int IntKind.u8 (0), V.int IntKind.u8 (0), V.int IntKind.u8 (0),       V.int IntKind.u8 (0), V.int IntKind.u8 (0), V.int IntKind.u8 (0),       V.int IntKind.u8 (0), V.int IntKind.u8 (0), V.int IntKind.u8 (0),       V.int IntKind.u8 (0), V.int IntKind.u8 (0), V.int IntKind.u8 (0),       V.int IntKind.u8 (0), V.int IntKind.u8 (0), V.int IntKind.u8 (0),       V.int IntKind.u8 (0), V.int IntKind.u8 (0), V.int IntKind.u8 (0),       V.int IntKind.u8 (0), V.int IntKind.u8 (0), V.int IntKind.u8 (0),       V.int IntKind.u8 (0), V.int IntKind.u8 (0), V.int IntKind.u8 (0),       V.int IntKind.u8 (0), V.int IntKind.u8 (0), V.int IntKind.u8 (0),       V.int IntKind.u8 (0), V.int IntKind.u8 (0), V.int IntKind.u8 (0),       V.int IntKind.u8 (0), V.int IntKind.u8 (0), V.int IntKind.u8 (0),       V.int IntKind.u8 (0), V.int IntKind.u8 (0), V.int IntKind.u8 (0),       V.int IntKind.u8 (0), V.int IntKind.u8 (0), V.int IntKind.u8 (0),       V.int IntKind.u8 (0), V.int IntKind.u8 (0), V.int IntKind.u8 (0),       V.int IntKind.u8 (0), V.int IntKind.u8 (0), V.int IntKind.u8 (0),       V.int IntKind.u8 (0), V.int IntKind.u8 (0), V.int IntKind.u8 (0),       V.int IntKind.u8 (0), V.int IntKind.u8 (0), V.int IntKind.u8 (0),       V.int IntKind.u8 (0)]) ∧
  arrT Tryd.prog 161 = some (64, 5) ∧
  hasT Tryd.prog 0 = true ∧
  concT Tryd.prog 0 = true ∧
  hasT Tryd.prog 1 = true ∧
  concT Tryd.prog 1 = true ∧
  hasT Tryd.prog 2 = true ∧
  concT Tryd.prog 2 = true ∧
  hasT Tryd.prog 3 = true ∧
  concT Tryd.prog 3 = true ∧
  Tryd.prog.underlying 4 = some TypeDesc.bool ∧
  hasT Tryd.prog 4 = true ∧
  concT Tryd.prog 4 = true ∧
  hasT Tryd.prog 5 = true ∧
  concT Tryd.prog 5 = true ∧
  intT Tryd.prog 9 = none ∧
  elemT Tryd.prog 9 = none ∧
  arrT Tryd.prog 9 = none ∧
  hasT Tryd.prog 9 = true ∧
  concT Tryd.prog 9 = true ∧
  Tryd.prog.underlying 20 = some (TypeDesc.interface { toList := [] }) ∧
  hasT Tryd.prog 21 = true ∧
  concT Tryd.prog 21 = true ∧
  arrT Tryd.prog 22 = none ∧
  Tryd.prog.underlying 22 = some (TypeDesc.slice 35) ∧
  hasT Tryd.prog 22 = true ∧
  concT Tryd.prog 22 = true ∧
  arrT Tryd.prog 23 = none ∧
  Tryd.prog.underlying 23 = some (TypeDesc.slice 59) ∧
  hasT Tryd.prog 23 = true ∧
  concT Tryd.prog 23 = true ∧
  hasT Tryd.prog 26 = true ∧
  concT Tryd.prog 26 = true ∧
  hasT Tryd.prog 27 = true ∧
  concT Tryd.prog 27 = true ∧
  hasT Tryd.prog 28 = true ∧
  concT Tryd.prog 28 = true ∧
  hasT Tryd.prog 35 = true ∧
  concT Tryd.prog 35 = true ∧
  hasT Tryd.prog 37 = true ∧
  concT Tryd.prog 37 = true ∧
  hasT Tryd.prog 39 = true ∧
  concT Tryd.prog 39 = true ∧
  hasT Tryd.prog 41 = true ∧
  concT Tryd.prog 41 = true ∧
  hasT Tryd.prog 45 = true ∧
  concT Tryd.prog 45 = true ∧
  arrT Tryd.prog 49 = none ∧
  Tryd.prog.underlying 49 = some (TypeDesc.slice 9) ∧
  hasT Tryd.prog 49 = true ∧
  concT Tryd.prog 49 = true ∧
  arrT Tryd.prog 50 = none ∧
  Tryd.prog.underlying 50 = some (TypeDesc.slice 53) ∧
  hasT Tryd.prog 50 = true ∧
  concT Tryd.prog 50 = true ∧
  hasT Tryd.prog 53 = true ∧
  concT Tryd.prog 53 = true ∧
  hasT Tryd.prog 54 = true ∧
  concT Tryd.prog 54 = true ∧
  hasT Tryd.prog 55 = true ∧
  concT Tryd.prog 55 = true ∧
  hasT Tryd.prog 59 = true ∧
  concT Tryd.prog 59 = true ∧
  hasT Tryd.prog 61 = true ∧
  concT Tryd.prog 61 = true ∧
  elemT Tryd.prog 65 = none ∧
  hasT Tryd.prog 65 = true ∧
  concT Tryd.prog 65 = true ∧
  hasT Tryd.prog 66 = true ∧
  concT Tryd.prog 66 = true ∧
  hasT Tryd.prog 69 = true ∧
  concT Tryd.prog 69 = true ∧
  hasT Tryd.prog 70 = true ∧
  concT Tryd.prog 70 = true ∧
  arrT Tryd.prog 73 = none ∧
  Tryd.prog.underlying 73 = some (TypeDesc.slice 22) ∧
  hasT Tryd.prog 73 = true ∧
  concT Tryd.prog 73 = true ∧
  hasT Tryd.prog 76 = true ∧
  concT Tryd.prog 76 = true ∧
  elemT Tryd.prog 77 = none ∧
  hasT Tryd.prog 77 = true ∧
  concT Tryd.prog 77 = true ∧
  hasT Tryd.prog 79 = true ∧
  concT Tryd.prog 79 = true ∧
  hasT Tryd.prog 82 = true ∧
  concT Tryd.prog 82 = true ∧
  hasT Tryd.prog 85 = true ∧
  concT Tryd.prog 85 = true ∧
  hasT Tryd.prog 88 = true ∧
  concT Tryd.prog 88 = true ∧
  hasT Tryd.prog 89 = true ∧
  concT Tryd.prog 89 = true ∧
  elemT Tryd.prog 91 = none ∧
  hasT Tryd.prog 91 = true ∧
  concT Tryd.prog 91 = true ∧
  hasT Tryd.prog 92 = true ∧
  concT Tryd.prog 92 = true ∧
  hasT Tryd.prog 93 = true ∧
  concT Tryd.prog 93 = true ∧
  hasT Tryd.prog 96 = true ∧
  concT Tryd.prog 96 = true ∧
  hasT Tryd.prog 98 = true ∧
  concT Tryd.prog 98 = true ∧
  hasT Tryd.prog 106 = true ∧
  concT Tryd.prog 106 = true ∧
  elemT Tryd.prog 107 = none ∧
  hasT Tryd.prog 107 = true ∧
  concT Tryd.prog 107 = true ∧
  hasT Tryd.prog 109 = true ∧
  concT Tryd.prog 109 = true ∧
  hasT Tryd.prog 110 = true ∧
  concT Tryd.prog 110 = true ∧
  hasT Tryd.prog 111 = true ∧
  concT Tryd.prog 111 = true ∧
  hasT Tryd.prog 113 = true ∧
  concT Tryd.prog 113 = true ∧
  hasT Tryd.prog 116 = true ∧
  concT Tryd.prog 116 = true ∧
  hasT Tryd.prog 118 = true ∧
  concT Tryd.prog 118 = true ∧
  hasT Tryd.prog 119 = true ∧
  concT Tryd.prog 119 = true ∧
  hasT Tryd.prog 125 = true ∧
  concT Tryd.prog 125 = true ∧
  hasT Tryd.prog 127 = true ∧
  concT Tryd.prog 127 = true ∧
  hasT Tryd.prog 131 = true ∧
  concT Tryd.prog 131 = true ∧
  hasT Tryd.prog 136 = true ∧
  concT Tryd.prog 136 = true ∧
  hasT Tryd.prog 140 = true ∧
  concT Tryd.prog 140 = true ∧
  hasT Tryd.prog 141 = true ∧
  concT Tryd.prog 141 = true ∧
  arrT Tryd.prog 144 = none ∧
  Tryd.prog.underlying 144 = some (TypeDesc.slice 5) ∧
  hasT Tryd.prog 144 = true ∧
  concT Tryd.prog 144 = true ∧
  hasT Tryd.prog 145 = true ∧
  concT Tryd.prog 145 = true ∧
  hasT Tryd.prog 148 = true ∧
  concT Tryd.prog 148 = true ∧
  hasT Tryd.prog 149 = true ∧
  concT Tryd.prog 149 = true ∧
  hasT Tryd.prog 154 = true ∧
  concT Tryd.prog 154 = true ∧
  hasT Tryd.prog 155 = true ∧
  concT Tryd.prog 155 = true ∧
  hasT Tryd.prog 160 = true ∧
  concT Tryd.prog 160 = true ∧
  hasT Tryd.prog 161 = true ∧
  concT Tryd.prog 161 = true :=
  ⟨by kernel_rfl, by kernel_rfl, by kernel_rfl, by kernel_rfl, by kernel_rfl, by kernel_rfl, by kernel_rfl, by kernel_rfl, by kernel_rfl, by kernel_rfl, by kernel_rfl, by kernel_rfl, by kernel_rfl, by kernel_rfl, by kernel_rfl, by kernel_rfl, by kernel_rfl, by kernel_rfl, by kernel_rfl, by kernel_rfl, by kernel_rfl, by kernel_rfl, by kernel_rfl, by kernel_rfl, by kernel_rfl, by kernel_rfl, by kernel_rfl, by kernel_rfl, by kernel_rfl, by kernel_rfl, by kernel_rfl, by kernel_rfl, by kernel_rfl, by kernel_rfl, by kernel_rfl, by kernel_rfl, by kernel_rfl, by kernel_rfl, by kernel_rfl, by kernel_rfl, by kernel_rfl, by kernel_rfl, by kernel_rfl, by kernel_rfl, by kernel_rfl, by kernel_rfl, by kernel_rfl, by kernel_rfl, by kernel_rfl, by kernel_rfl, by kernel_rfl, by kernel_rfl, by kernel_rfl, by kernel_rfl, by kernel_rfl, by kernel_rfl, by kernel_rfl, by kernel_rfl, by kernel_rfl, by kernel_rfl, by kernel_rfl, by kernel_rfl, by kernel_rfl, by kernel_rfl, by kernel_rfl, by kernel_rfl, by kernel_rfl, by kernel_rfl, by kernel_rfl, by kernel_rfl, by kernel_rfl, by kernel_rfl, by kernel_rfl, by kernel_rfl, by kernel_rfl, by kernel_rfl, by kernel_rfl, by kernel_rfl, by kernel_rfl, by kernel_rfl, by kernel_rfl, by kernel_rfl, by kernel_rfl, by kernel_rfl, by kernel_rfl, by kernel_rfl, by kernel_rfl, by kernel_rfl, by kernel_rfl, by kernel_rfl, by kernel_rfl, by kernel_rfl, by kernel_rfl, by kernel_rfl, by kernel_rfl, by kernel_rfl, by kernel_rfl, by kernel_rfl, by kernel_rfl, by kernel_rfl, by kernel_rfl, by kernel_rfl, by kernel_rfl, by kernel_rfl, by kernel_rfl, by kernel_rfl, by kernel_rfl, by kernel_rfl, by kernel_rfl, by kernel_rfl, by kernel_rfl, by kernel_rfl, by kernel_rfl, by kernel_rfl, by kernel_rfl, by kernel_rfl, by kernel_rfl, by kernel_rfl, by kernel_rfl, by kernel_rfl, by kernel_rfl, by kernel_rfl, by kernel_rfl, by kernel_rfl, by kernel_rfl, by kernel_rfl, by kernel_rfl, by kernel_rfl, by kernel_rfl, by kernel_rfl, by kernel_rfl, by kernel_rfl, by kernel_rfl, by kernel_rfl, by kernel_rfl, by kernel_rfl, by kernel_rfl, by kernel_rfl, by kernel_rfl, by kernel_rfl, by kernel_rfl, by kernel_rfl, by kernel_rfl, by kernel_rfl, by kernel_rfl, by kernel_rfl, by kernel_rfl, by kernel_rfl, by kernel_rfl, by kernel_rfl, by kernel_rfl, by kernel_rfl, by kernel_rfl, by kernel_rfl, by kernel_rfl, by kernel_rfl, by kernel_rfl, by kernel_rfl, by kernel_rfl, by kernel_rfl, by kernel_rfl, by kernel_rfl, by kernel_rfl, by kernel_rfl, by kernel_rfl, by kernel_rfl, by kernel_rfl, by kernel_rfl, by kernel_rfl, by kernel_rfl, by kernel_rfl, by kernel_rfl, by kernel_rfl, by kernel_rfl, by kernel_rfl, by kernel_rfl, by kernel_rfl, by kernel_rfl, by kernel_rfl, by kernel_rfl, by kernel_rfl, by kernel_rfl, by kernel_rfl, by kernel_rfl, by kernel_rfl, by kernel_rfl, by kernel_rfl, by kernel_rfl, by kernel_rfl, by kernel_rfl, by kernel_rfl, by kernel_rfl, by kernel_rfl, by kernel_rfl, by kernel_rfl, by kernel_rfl, by kernel_rfl, by kernel_rfl, by kernel_rfl, by kernel_rfl, by kernel_rfl, by kernel_rfl, by kernel_rfl, by kernel_rfl, by kernel_rfl, by kernel_rfl, by kernel_rfl, by kernel_rfl, by kernel_rfl, by kernel_rfl, by kernel_rfl, by kernel_rfl, by kernel_rfl, by kernel_rfl, by kernel_rfl, by kernel_rfl, by kernel_rfl, by kernel_rfl, by kernel_rfl, by kernel_rfl, by kernel_rfl, by kernel_rfl, by kernel_rfl, by kernel_rfl, by kernel_rfl, by kernel_rfl, by kernel_rfl, by kernel_rfl, by kernel_rfl, by kernel_rfl, by kernel_rfl, by kernel_rfl, by kernel_rfl, by kernel_rfl, by kernel_rfl, by kernel_rfl, by kernel_rfl, by kernel_rfl, by kernel_rfl, by kernel_rfl, by kernel_rfl, by kernel_rfl, by kernel_rfl, by kernel_rfl, by kernel_rfl, by kernel_rfl, by kernel_rfl, by kernel_rfl, by kernel_rfl, by kernel_rfl, by kernel_rfl, by kernel_rfl, by kernel_rfl, by kernel_rfl, by kernel_rfl, by kernel_rfl, by kernel_rfl, by kernel_rfl, by kernel_rfl, by kernel_rfl, by kernel_rfl, by kernel_rfl, by kernel_rfl, by kernel_rfl, by kernel_rfl, by kernel_rfl, by kernel_rfl, by kernel_rfl, by kernel_rfl, by kernel_rfl, by kernel_rfl, by kernel_rfl, by kernel_rfl, by kernel_rfl, by kernel_rfl, by kernel_rfl, by kernel_rfl, by kernel_rfl, by kernel_rfl, by kernel_rfl, by kernel_rfl, by kernel_rfl, by kernel_rfl, by kernel_rfl, by kernel_rfl, by kernel_rfl, by kernel_rfl, by kernel_rfl, by kernel_rfl, by kernel_rfl, by kernel_rfl, by kernel_rfl, by kernel_rfl, by kernel_rfl, by kernel_rfl, by kernel_rfl, by kernel_rfl, by kernel_rfl, by kernel_rfl, by kernel_rfl, by kernel_rfl, by kernel_rfl, by kernel_rfl, by kernel_rfl, by kernel_rfl, by kernel_rfl, by kernel_rfl, by kernel_rfl, by kernel_rfl, by kernel_rfl, by kernel_rfl, by kernel_rfl, by kernel_rfl, by kernel_rfl, by kernel_rfl, by kernel_rfl, by kernel_rfl, by kernel_rfl, by kernel_rfl, by kernel_rfl, by kernel_rfl, by kernel_rfl, by kernel_rfl, by kernel_rfl, by kernel_rfl, by kernel_rfl, by kernel_rfl, by kernel_rfl, by kernel_rfl, by kernel_rfl, by kernel_rfl, by kernel_rfl, by kernel_rfl, by kernel_rfl, by kernel_rfl, by kernel_rfl, by kernel_rfl, by kernel_rfl, by kernel_rfl, by kernel_rfl, by kernel_rfl, by kernel_rfl, by kernel_rfl, by kernel_rfl, by kernel_rfl, by kernel_rfl, by kernel_rfl, by kernel_rfl, by kernel_rfl, by kernel_rfl, by kernel_rfl, by kernel_rfl, by kernel_rfl, by kernel_rfl, by kernel_rfl, by kernel_rfl, by kernel_rfl, by kernel_rfl, by kernel_rfl, by kernel_rfl, by kernel_rfl, by kernel_rfl, by kernel_rfl, by kernel_rfl, by kernel_rfl, by kernel_rfl, by kernel_rfl, by kernel_rfl, by kernel_rfl, by kernel_rfl, by kernel_rfl, by kernel_rfl, by kernel_rfl, by kernel_rfl, by kernel_rfl, by kernel_rfl, by kernel_rfl, by kernel_rfl, by kernel_rfl, by kernel_rfl, by kernel_rfl, by kernel_rfl, by kernel_rfl, by kernel_rfl, by kernel_rfl, by kernel_rfl, by kernel_rfl, by kernel_rfl, by kernel_rfl, by kernel_rfl, by kernel_rfl, by kernel_rfl, by kernel_rfl, by kernel_rfl, by kernel_rfl, by kernel_rfl, by kernel_rfl, by kernel_rfl, by kernel_rfl, by kernel_rfl, by kernel_rfl, by kernel_rfl, by kernel_rfl, by kernel_rfl, by kernel_rfl, by kernel_rfl, by kernel_rfl, by kernel_rfl, by kernel_rfl, by kernel_rfl, by kernel_rfl, by kernel_rfl, by kernel_rfl, by kernel_rfl, by kernel_rfl, by kernel_rfl, by kernel_rfl, by kernel_rfl, by kernel_rfl, by kernel_rfl, by kernel_rfl, by kernel_rfl, by kernel_rfl, by kernel_rfl, by kernel_rfl, by kernel_rfl, by kernel_rfl, by kernel_rfl, by kernel_rfl, by kernel_rfl, by kernel_rfl, by kernel_rfl, by kernel_rfl, by kernel_rfl, by kernel_rfl, by kernel_rfl, by kernel_rfl, by kernel_rfl, by kernel_rfl, by kernel_rfl, by kernel_rfl, by kernel_rfl, by kernel_rfl, by kernel_rfl, by kernel_rfl, by kernel_rfl, by kernel_rfl, by kernel_rfl, by kernel_rfl, by kernel_rfl, by kernel_rfl, by kernel_rfl, by kernel_rfl, by kernel_rfl, by kernel_rfl, by kernel_rfl, by kernel_rfl, by kernel_rfl, by kernel_rfl, by kernel_rfl, by kernel_rfl, by kernel_rfl, by kernel_rfl, by kernel_rfl, by kernel_rfl, by kernel_rfl, by kernel_rfl, by kernel_rfl⟩
/-! ### Drawn regions -/
theorem d329_4 {H n} : regionInf (M329 H n).E (opsAt (sub [1, 0, 1, 0, 0, 1, 0, 0, 0, 0] c329)) = some   [Inf.mk false (some []) none false [0], Inf.mk false (some []) none false [5],     Inf.mk false (some []) none false [20, 21], Inf.mk false (some []) none false [22],     Inf.mk false (some []) none false [23], Inf.mk false (some []) none false [1],     Inf.mk false (some []) none false [5], Inf.mk false (some []) none false [25, 26],     Inf.mk false (some []) none false [27], Inf.mk false (some []) none false [28],     Inf.mk false (some []) none false [24, 29]] := by kernel_rfl
theorem d329_5 {H n} : regionInf (M329 H n).E (opsAt (sub [1, 0, 1, 0, 0, 1, 0, 0, 0, 1, 0, 0, 0] c329)) = some   [Inf.mk false (some []) none false [0], Inf.mk false (some []) none false [5],     Inf.mk false (some []) none false [31, 32], Inf.mk false (some []) none false [33],     Inf.mk false (some []) none false [34], Inf.mk false (some []) none false [1],     Inf.mk false (some []) none false [5], Inf.mk false (some []) none false [36, 37],     Inf.mk false (some []) none false [38], Inf.mk false (some []) none false [39],     Inf.mk false (some []) none false [35, 40]] := by kernel_rfl
theorem d329_8 {H n} : regionInf (M329 H n).E (opsAt (sub [1, 0, 1, 0, 0, 1, 0, 0, 1, 0, 0] c329)) = some   [Inf.mk false (some []) none false [0], Inf.mk false (some []) none false [5],     Inf.mk false (some []) none false [42, 43], Inf.mk false (some []) none false [44],     Inf.mk false (some []) none false [45], Inf.mk false (some []) none false [1],     Inf.mk false (some []) none false [5], Inf.mk false (some []) none false [47, 48],     Inf.mk false (some []) none false [49], Inf.mk false (some []) none false [50],     Inf.mk false (some []) none false [46, 51], Inf.mk true (some []) none false [52]] := by kernel_rfl
theorem d329_11 {H n} : regionInf (M329 H n).E (opsAt (sub [1, 0, 1, 0, 0, 1, 0, 0, 1, 1, 0] c329)) = some   [Inf.mk false (some []) none false [0], Inf.mk false (some []) none false [5],     Inf.mk false (some []) none false [56, 57], Inf.mk false (some []) none false [58],     Inf.mk false (some []) none false [59], Inf.mk false (some []) none false [1],     Inf.mk false (some []) none false [5], Inf.mk false (some []) none false [61, 62],     Inf.mk false (some []) none false [63], Inf.mk false (some []) none false [64],     Inf.mk false (some []) none false [60, 65], Inf.mk true (some []) none false [66]] := by kernel_rfl
theorem d734_3 {H n} : regionInf (M734 H n).E (opsAt (sub [1, 1, 0] c734)) = some   [Inf.mk false (some [⟨0, 4, 0⟩]) none false [0], Inf.mk false (some [⟨0, 4, 0⟩]) none false [20],     Inf.mk false (some [⟨0, 4, 0⟩]) none false [21], Inf.mk false (some [⟨0, 4, 0⟩]) none false [22],     Inf.mk false (some [⟨0, 4, 0⟩]) none false [0], Inf.mk false (some [⟨0, 4, 0⟩]) none false [24],     Inf.mk false (some [⟨0, 4, 0⟩]) none false [23, 25], Inf.mk true (some []) (some [⟨0, 4, 0⟩]) false [],     Inf.mk true (some []) none false [4, 26]] := by kernel_rfl
theorem d743_8 {H n} : regionInf (M743 H n).E (opsAt (sub [1, 1, 0, 1, 0, 0, 1, 1, 0, 0, 1, 1] c743)) = some   [Inf.mk false (some [⟨0, 37, 0⟩]) none false [5], Inf.mk false (some []) none false [7],     Inf.mk false (some []) none false [28], Inf.mk false (some []) none false [7],     Inf.mk false (some []) none false [30], Inf.mk false (some []) none false [7],     Inf.mk false (some []) none false [32], Inf.mk false (some []) none false [1],     Inf.mk false (some []) none false [33, 34], Inf.mk false (some []) none false [29, 31, 35],     Inf.mk true (some []) (some [⟨0, 37, 0⟩]) false [36], Inf.mk true (some []) none false [27, 37],     Inf.mk true (some []) none false [38]] := by kernel_rfl
theorem d752_3 {H n} : regionInf (M752 H n).E (opsAt (sub [1, 1, 0] c752)) = some   [Inf.mk false (some []) none false [1], Inf.mk false (some []) none false [6], Inf.mk false (some []) none false [7],     Inf.mk false (some []) none false [8], Inf.mk false (some []) none false [9],     Inf.mk false (some []) none false [10], Inf.mk false (some []) none false [1],     Inf.mk false (some []) none false [12], Inf.mk false (some []) none false [11, 13],     Inf.mk true (some []) none false [14]] := by kernel_rfl
theorem d770_3 {H n} : regionInf (M770 H n).E (opsAt (sub [1, 1, 0] c770)) = some   [Inf.mk false (some []) none false [1], Inf.mk false (some []) none false [2], Inf.mk false (some []) none false [12],     Inf.mk false (some []) none false [11, 13], Inf.mk false (some []) none false [14],     Inf.mk false (some []) none false [10], Inf.mk false (some []) none false [10],     Inf.mk true (some []) (some []) false [15], Inf.mk true (some []) none false [16]] := by kernel_rfl
theorem d785_4 {H n} : regionInf (M785 H n).E (opsAt (sub [1, 1, 1, 0] c785)) = some   [Inf.mk false (some []) none false [2], Inf.mk false (some []) none false [0], Inf.mk false (some []) none false [12],     Inf.mk true (some []) none false [2, 11], Inf.mk true (some []) none false [13]] := by kernel_rfl
end Go.Vi
