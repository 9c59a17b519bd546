/- Texts joined: AvF1, AvTab, AvSym, AvLib, AvNum, AvBits, AvInt1, AvUn, AvSto, AvOrd1, AvOrd2. -/
import Derived.Test.YtlpbjbgfgfjnlaaGreatAvMatch4
import Derived.Test.YtlpbjbgfgfjnlaaGreatAvMatch1
set_option linter.unusedVariables false
set_option linter.unusedSimpArgs false
set_option linter.unusedSectionVars false
namespace Go.AVM
def f127_0m : List Bool := [false, false, false, false, false, true, false, true, true, true, true, true]
def f127_0 : AC :=
 (.seq
 ((.seq
 (.reg [oA 31 .mv [.t 11],
 oA 32 .mv [.t 9],
 oA 33 .len [.t 32],
 oA 34 (.bin .lss) [.t 31, .t 33]])
 (.cond (.t 34)
 (.skip)
 (.exit 0))))
 ((.seq
 (.block 1 ((.seq
 (.reg [oA 37 .mv [.t 8],
 oA 38 .mv [.t 9],
 oA 39 (.ias 8) [.t 38, .c (.int .i64 0)],
 oA 40 (.load true 8) [.t 39],
 oA 41 .mv [.t 9],
 oA 42 .mv [.t 11],
 oA 43 (.ias 8) [.t 41, .t 42],
 oA 44 (.load true 8) [.t 43],
 oA 45 (.call .pure true 13) [.t 37, .t 40, .t 44],
 oA 46 .mv [.t 8],
 oA 47 .mv [.t 9],
 oA 48 (.ias 8) [.t 47, .c (.int .i64 0)],
 oA 49 (.load true 8) [.t 48],
 oA 50 .mv [.t 9],
 oA 51 .mv [.t 11],
 oA 52 (.ias 8) [.t 50, .t 51],
 oA 53 (.load true 8) [.t 52],
 oA 54 (.call .pure true 129) [.t 46, .t 49, .t 53],
 oA 55 (.bin .neq) [.t 45, .t 54]])
 (.cond (.t 55)
 ((.seq
 (.reg [oA 6 .mv [.c (.bool false)]])
 (.ret)))
 (.skip)))))
 (.reg [oA 35 .mv [.t 11],
 oA 36 (.bin .add) [.t 35, .c (.int .i64 1)],
 oA 11 .mv [.t 36]]))))
def f127 : AF := ⟨3, 143, [.t 6],
 (.seq
 (.reg [oA 3 (.box 1) [.t 0],
 oA 5 (.box 2) [.t 2],
 oA 6 .mv [.c (.bool false)]])
 ((.seq
 (.reg [oA 21 (.call .pure false 8) [],
 oA 7 .mv [.t 21]])
 ((.seq
 ((.seq
 (.reg [oA 22 .mv [.t 7],
 oA 23 (.un .not) [.t 22]])
 (.cond (.t 23)
 ((.seq
 (.reg [oA 6 .mv [.c (.bool false)]])
 (.ret)))
 (.skip))))
 ((.seq
 (.reg [oA 24 (.load true 1) [.t 3],
 oA 25 (.call .pure true 9) [.t 24],
 oA 26 .mv [.t 1],
 oA 27 (.call .pure true 10) [.t 26],
 oA 28 (.iaa 2 1) [.t 5, .c (.int .i64 0)],
 oA 29 (.load false 1) [.t 28],
 oA 30 (.conv .u8) [.t 29],
 oA 8 .mv [.t 25],
 oA 9 .mv [.t 27],
 oA 10 .mv [.t 30]])
 ((.seq
 ((.seq
 (.reg [oA 11 .mv [.c (.int .i64 0)]])
 (.block 0 (.loop f127_0m f127_0))))
 ((.seq
 (.reg [oA 56 (.iaa 2 1) [.t 5, .c (.int .i64 1)],
 oA 57 (.load false 1) [.t 56],
 oA 58 (.call .pure false 27) [.t 57],
 oA 12 (.alloc (List.replicate 8 (.int .i64 0))) [],
 oN (.store 8) [.t 12, .t 58]])
 ((.seq
 (.reg [oA 60 .mv [.t 8],
 oA 61 (.call .pure false 28) [.t 60],
 oA 59 .mv [.t 61],
 oA 62 (.ext 0) [.t 59],
 oA 63 (.ext 1) [.t 59],
 oA 13 .mv [.t 62],
 oA 14 .mv [.t 63]])
 ((.seq
 (.reg [oA 65 .mv [.t 8],
 oA 66 (.call .pure false 130) [.t 65],
 oA 64 .mv [.t 66],
 oA 67 (.ext 0) [.t 64],
 oA 68 (.ext 1) [.t 64],
 oA 15 .mv [.t 67],
 oA 16 .mv [.t 68]])
 ((.seq
 (.reg [oA 70 .mv [.t 8],
 oA 71 (.load true 8) [.t 12],
 oA 72 (.call .pure false 29) [.t 70, .t 71],
 oA 69 .mv [.t 72],
 oA 73 (.ext 0) [.t 69],
 oA 74 (.ext 1) [.t 69],
 oA 17 .mv [.t 73],
 oA 18 .mv [.t 74]])
 ((.seq
 (.reg [oA 76 .mv [.t 8],
 oA 77 (.load true 8) [.t 12],
 oA 78 (.call .pure false 131) [.t 76, .t 77],
 oA 75 .mv [.t 78],
 oA 79 (.ext 0) [.t 75],
 oA 80 (.ext 1) [.t 75],
 oA 19 .mv [.t 79],
 oA 20 .mv [.t 80]])
 ((.seq
 ((.seq
 (.reg [oA 81 .mv [.t 14],
 oA 82 .mv [.t 16],
 oA 83 (.bin .neq) [.t 81, .t 82],
 oA 84 .mv [.t 83],
 oG 85 .mv [.t 18] 84 false,
 oG 86 .mv [.t 20] 84 false,
 oG 87 (.bin .neq) [.t 85, .t 86] 84 false,
 oA 88 .pick [.t 84, .c (.bool true), .t 87],
 oA 89 .mv [.t 88],
 oG 90 .mv [.t 13] 89 false,
 oG 91 .mv [.t 15] 89 false,
 oG 92 (.call .pure false 32) [.t 90, .t 91] 89 false,
 oG 93 (.un .not) [.t 92] 89 false,
 oA 94 .pick [.t 89, .c (.bool true), .t 93],
 oA 95 .mv [.t 94],
 oG 96 .mv [.t 17] 95 false,
 oG 97 .mv [.t 19] 95 false,
 oG 98 (.call .pure false 32) [.t 96, .t 97] 95 false,
 oG 99 (.un .not) [.t 98] 95 false,
 oA 100 .pick [.t 95, .c (.bool true), .t 99],
 oA 101 .mv [.t 100],
 oG 102 .mv [.t 8] 101 false,
 oG 103 .mv [.t 9] 101 false,
 oG 104 (.call .pure false 11) [.t 102, .t 103] 101 false,
 oG 105 .mv [.t 8] 101 false,
 oG 106 .mv [.t 9] 101 false,
 oG 107 (.call .pure false 132) [.t 105, .t 106] 101 false,
 oG 108 (.call .pure false 14) [.t 104, .t 107] 101 false,
 oG 109 (.un .not) [.t 108] 101 false,
 oA 110 .pick [.t 101, .c (.bool true), .t 109],
 oA 111 .mv [.t 110],
 oG 112 .mv [.t 8] 111 false,
 oG 113 .mv [.t 10] 111 false,
 oG 114 (.call .pure false 22) [.t 112, .t 113] 111 false,
 oG 115 .mv [.t 8] 111 false,
 oG 116 .mv [.t 10] 111 false,
 oG 117 (.call .pure false 133) [.t 115, .t 116] 111 false,
 oG 118 (.eqb true) [.t 114, .t 117] 111 false,
 oA 119 .pick [.t 111, .c (.bool true), .t 118]])
 (.cond (.t 119)
 ((.seq
 (.reg [oA 6 .mv [.c (.bool false)]])
 (.ret)))
 (.skip))))
 ((.seq
 (.reg [oA 120 (.call .pure false 19) [],
 oA 121 (.call .pure false 134) [],
 oA 122 (.call .pure false 32) [.t 120, .t 121],
 oA 123 .mv [.t 122],
 oG 124 (.call .pure false 20) [] 123 true,
 oG 125 (.call .pure false 135) [] 123 true,
 oG 126 (.call .pure false 32) [.t 124, .t 125] 123 true,
 oA 127 .pick [.t 123, .t 126, .c (.bool false)],
 oA 128 .mv [.t 127],
 oG 129 (.call .pure false 21) [] 128 true,
 oG 130 (.call .pure false 136) [] 128 true,
 oG 131 (.call .pure false 32) [.t 129, .t 130] 128 true,
 oA 132 .pick [.t 128, .t 131, .c (.bool false)],
 oA 133 .mv [.t 132],
 oG 134 .mv [.t 10] 133 true,
 oG 135 (.call .pure false 23) [.t 134] 133 true,
 oG 136 .mv [.t 10] 133 true,
 oG 137 (.call .pure false 137) [.t 136] 133 true,
 oG 138 (.call .pure false 32) [.t 135, .t 137] 133 true,
 oA 139 .pick [.t 133, .t 138, .c (.bool false)],
 oA 140 .mv [.t 139],
 oG 141 .mv [.t 7] 140 true,
 oA 142 .pick [.t 140, .t 141, .c (.bool false)],
 oA 6 .mv [.t 142]])
 (.ret))))))))))))))))))))))))⟩
def f129_0m : List Bool := [true, false, false, false, true, true, false, true]
def f129_0 : AC :=
 (.seq
 ((.seq
 (.reg [oA 10 .mv [.t 7],
 oA 11 .mv [.t 0],
 oA 12 .len [.t 11],
 oA 13 (.bin .lss) [.t 10, .t 12]])
 (.cond (.t 13)
 (.skip)
 (.exit 0))))
 ((.seq
 (.block 1 ((.seq
 (.reg [oA 16 .mv [.t 0],
 oA 17 .mv [.t 7],
 oA 18 (.ias 8) [.t 16, .t 17],
 oA 19 (.load true 8) [.t 18],
 oA 20 (.load true 8) [.t 4],
 oA 21 (.call .pure true 139) [.t 19, .t 20],
 oA 22 .mv [.t 0],
 oA 23 .mv [.t 7],
 oA 24 (.ias 8) [.t 22, .t 23],
 oA 25 (.load true 8) [.t 24],
 oA 26 (.load true 8) [.t 5],
 oA 27 (.call .pure true 139) [.t 25, .t 26],
 oA 8 .mv [.t 21],
 oA 9 .mv [.t 27]])
 ((.seq
 ((.seq
 (.reg [oA 28 .mv [.t 8],
 oA 29 .mv [.t 9],
 oA 30 (.bin .lss) [.t 28, .t 29]])
 (.cond (.t 30)
 ((.seq
 (.reg [oA 6 .mv [.c (.int .i64 (-1))]])
 (.ret)))
 (.skip))))
 ((.seq
 (.reg [oA 31 .mv [.t 8],
 oA 32 .mv [.t 9],
 oA 33 (.bin .gtr) [.t 31, .t 32]])
 (.cond (.t 33)
 ((.seq
 (.reg [oA 6 .mv [.c (.int .i64 1)]])
 (.ret)))
 (.skip)))))))))
 (.reg [oA 14 .mv [.t 7],
 oA 15 (.bin .add) [.t 14, .c (.int .i64 1)],
 oA 7 .mv [.t 15]]))))
def f129 : AF := ⟨3, 37, [.t 6],
 (.seq
 (.reg [oA 4 (.box 8) [.t 1],
 oA 5 (.box 8) [.t 2],
 oA 6 .mv [.c (.int .i64 0)]])
 ((.seq
 ((.seq
 (.reg [oA 7 .mv [.c (.int .i64 0)]])
 (.block 0 (.loop f129_0m f129_0))))
 ((.seq
 (.reg [oA 34 (.load true 8) [.t 4],
 oA 35 (.load true 8) [.t 5],
 oA 36 (.call .pure false 140) [.t 34, .t 35],
 oA 6 .mv [.t 36]])
 (.ret))))))⟩
def f130_0m : List Bool := [false, false, false, false, true, true]
def f130_0 : AC :=
 (.seq
 ((.seq
 (.reg [oA 19 .mv [.t 5],
 oA 20 (.bin .lss) [.t 19, .c (.int .i64 8)]])
 (.cond (.t 20)
 (.skip)
 (.exit 0))))
 ((.seq
 (.block 1 (.reg [oA 23 .mv [.t 4],
 oA 24 .mv [.t 5],
 oA 25 (.call .pure false 142) [.t 24, .c (.int .i64 1)],
 oA 26 (.lit 8 (.agg (List.replicate 8 (.int .i64 0))) 1 [0]) [.t 25],
 oA 27 (.app 8 64) [.t 23, .t 26],
 oA 4 .mv [.t 27]]))
 (.reg [oA 21 .mv [.t 5],
 oA 22 (.bin .add) [.t 21, .c (.int .i64 1)],
 oA 5 .mv [.t 22]]))))
def f130 : AF := ⟨1, 29, [.t 2, .t 3],
 (.seq
 (.reg [oA 2 .mv [.c (.sl [] 8 true)],
 oA 3 .mv [.c (.int .i64 0)]])
 ((.seq
 ((.seq
 (.reg [oA 6 .mv [.t 0],
 oA 7 (.call .pure false 138) [.t 6],
 oA 8 (.un .not) [.t 7]])
 (.cond (.t 8)
 ((.seq
 (.reg [oA 2 .mv [.c (.sl [] 8 true)],
 oA 3 .mv [.c (.int .i64 50)]])
 (.ret)))
 (.skip))))
 ((.seq
 (.reg [oA 9 (.lit 8 (.agg (List.replicate 8 (.int .i64 0))) 0 []) [],
 oA 10 .mv [.t 0],
 oA 11 (.app 8 64) [.t 9, .t 10],
 oA 4 .mv [.t 11]])
 ((.seq
 ((.seq
 (.reg [oA 12 .mv [.t 0],
 oA 13 (.call .pure false 141) [.t 12],
 oA 14 (.bin .eql) [.t 13, .c (.int .i64 8)]])
 (.cond (.t 14)
 ((.seq
 (.reg [oA 15 .mv [.t 4],
 oA 2 .mv [.t 15],
 oA 3 .mv [.c (.int .i64 0)]])
 (.ret)))
 (.skip))))
 ((.seq
 ((.seq
 (.reg [oA 16 .mv [.t 0],
 oA 17 .len [.t 16],
 oA 18 (.bin .gtr) [.t 17, .c (.int .i64 16)]])
 (.cond (.t 18)
 ((.seq
 (.reg [oA 2 .mv [.c (.sl [] 8 true)],
 oA 3 .mv [.c (.int .i64 2)]])
 (.ret)))
 (.skip))))
 ((.seq
 ((.seq
 (.reg [oA 5 .mv [.c (.int .i64 0)]])
 (.block 0 (.loop f130_0m f130_0))))
 ((.seq
 (.reg [oA 28 .mv [.t 4],
 oA 2 .mv [.t 28],
 oA 3 .mv [.c (.int .i64 0)]])
 (.ret))))))))))))))⟩
def f131_0m : List Bool := [false, false, false, true, false, false, true, false, true, true, true, true]
def f131_0 : AC :=
 (.seq
 ((.seq
 (.reg [oA 34 .mv [.t 11],
 oA 35 (.bin .lss) [.t 34, .c (.int .i64 8)]])
 (.cond (.t 35)
 (.skip)
 (.exit 2))))
 ((.seq
 (.block 3 (.reg [oA 38 .mv [.t 11],
 oA 39 (.iaa 8 1) [.t 3, .t 38],
 oA 40 (.load false 1) [.t 39],
 oA 41 .mv [.t 6],
 oA 42 .mv [.t 9],
 oA 43 .mv [.t 11],
 oA 44 (.ias 8) [.t 41, .t 42],
 oA 45 (.iaa 8 1) [.t 44, .t 43],
 oA 46 (.load false 1) [.t 45],
 oA 47 (.iaa 8 1) [.t 10, .t 40],
 oN (.store 1) [.t 47, .t 46]]))
 (.reg [oA 36 .mv [.t 11],
 oA 37 (.bin .add) [.t 36, .c (.int .i64 1)],
 oA 11 .mv [.t 37]]))))
def f131_1m : List Bool := [false, false, false, true, false, false, true, false, true, true]
def f131_1 : AC :=
 (.seq
 ((.seq
 (.reg [oA 27 .mv [.t 9],
 oA 28 .mv [.t 6],
 oA 29 .len [.t 28],
 oA 30 (.bin .lss) [.t 27, .t 29]])
 (.cond (.t 30)
 (.skip)
 (.exit 0))))
 ((.seq
 (.block 1 ((.seq
 (.reg [oA 33 (.build (List.replicate 8 (.int .i64 0)) []) [],
 oA 10 (.alloc (List.replicate 8 (.int .i64 0))) [],
 oN (.store 8) [.t 10, .t 33]])
 ((.seq
 ((.seq
 (.reg [oA 11 .mv [.c (.int .i64 0)]])
 (.block 2 (.loop f131_0m f131_0))))
 (.reg [oA 48 .mv [.t 8],
 oA 49 (.load true 8) [.t 10],
 oA 50 (.lit 8 (.agg (List.replicate 8 (.int .i64 0))) 1 [0]) [.t 49],
 oA 51 (.app 8 64) [.t 48, .t 50],
 oA 8 .mv [.t 51]]))))))
 (.reg [oA 31 .mv [.t 9],
 oA 32 (.bin .add) [.t 31, .c (.int .i64 1)],
 oA 9 .mv [.t 32]]))))
def f131 : AF := ⟨2, 53, [.t 4, .t 5],
 (.seq
 (.reg [oA 3 (.box 8) [.t 1],
 oA 4 .mv [.c (.sl [] 8 true)],
 oA 5 .mv [.c (.int .i64 0)]])
 ((.seq
 ((.seq
 (.reg [oA 12 .mv [.t 0],
 oA 13 (.call .pure false 138) [.t 12],
 oA 14 (.un .not) [.t 13]])
 (.cond (.t 14)
 ((.seq
 (.reg [oA 4 .mv [.c (.sl [] 8 true)],
 oA 5 .mv [.c (.int .i64 50)]])
 (.ret)))
 (.skip))))
 ((.seq
 ((.seq
 (.reg [oA 15 (.load true 8) [.t 3],
 oA 16 (.call .pure false 143) [.t 15],
 oA 17 (.un .not) [.t 16]])
 (.cond (.t 17)
 ((.seq
 (.reg [oA 4 .mv [.c (.sl [] 8 true)],
 oA 5 .mv [.c (.int .i64 1)]])
 (.ret)))
 (.skip))))
 ((.seq
 (.reg [oA 19 .mv [.t 0],
 oA 20 (.call .pure false 130) [.t 19],
 oA 18 .mv [.t 20],
 oA 21 (.ext 0) [.t 18],
 oA 22 (.ext 1) [.t 18],
 oA 6 .mv [.t 21],
 oA 7 .mv [.t 22]])
 ((.seq
 ((.seq
 (.reg [oA 23 .mv [.t 7],
 oA 24 (.bin .neq) [.t 23, .c (.int .i64 0)]])
 (.cond (.t 24)
 ((.seq
 (.reg [oA 25 .mv [.t 7],
 oA 4 .mv [.c (.sl [] 8 true)],
 oA 5 .mv [.t 25]])
 (.ret)))
 (.skip))))
 ((.seq
 (.reg [oA 26 (.lit 8 (.agg (List.replicate 8 (.int .i64 0))) 0 []) [],
 oA 8 .mv [.t 26]])
 ((.seq
 ((.seq
 (.reg [oA 9 .mv [.c (.int .i64 0)]])
 (.block 0 (.loop f131_1m f131_1))))
 ((.seq
 (.reg [oA 52 .mv [.t 8],
 oA 4 .mv [.t 52],
 oA 5 .mv [.c (.int .i64 0)]])
 (.ret))))))))))))))))⟩
def f132_0m : List Bool := [true, true, false, false, false, true, true, true]
def f132_0 : AC :=
 (.seq
 ((.seq
 (.reg [oA 16 .mv [.t 7],
 oA 17 .mv [.t 5],
 oA 18 .len [.t 17],
 oA 19 (.bin .lss) [.t 16, .t 18],
 oA 20 .mv [.t 19],
 oG 21 .mv [.t 0] 20 true,
 oG 22 .mv [.t 5] 20 true,
 oG 23 .mv [.t 7] 20 true,
 oG 24 (.ias 8) [.t 22, .t 23] 20 true,
 oG 25 (.load true 8) [.t 24] 20 true,
 oG 26 .mv [.t 1] 20 true,
 oG 27 .mv [.t 6] 20 true,
 oG 28 (.ias 8) [.t 26, .t 27] 20 true,
 oG 29 (.load true 8) [.t 28] 20 true,
 oG 30 (.call .pure true 129) [.t 21, .t 25, .t 29] 20 true,
 oG 31 (.bin .gtr) [.t 30, .c (.int .i64 0)] 20 true,
 oA 32 .pick [.t 20, .t 31, .c (.bool false)]])
 (.cond (.t 32)
 (.skip)
 (.exit 2))))
 (.block 3 (.reg [oA 33 .mv [.t 7],
 oA 34 (.bin .add) [.t 33, .c (.int .i64 1)],
 oA 7 .mv [.t 34]])))
def f132_1m : List Bool := [true, true, false, false, false, true, true]
def f132_1 : AC :=
 (.seq
 ((.seq
 (.reg [oA 10 .mv [.t 6],
 oA 11 .mv [.t 1],
 oA 12 .len [.t 11],
 oA 13 (.bin .lss) [.t 10, .t 12]])
 (.cond (.t 13)
 (.skip)
 (.exit 0))))
 ((.seq
 (.block 1 ((.seq
 (.reg [oA 7 .mv [.c (.int .i64 0)]])
 ((.seq
 (.block 2 (.loop f132_0m f132_0))
 ((.seq
 ((.seq
 (.reg [oA 35 .mv [.t 7],
 oA 36 .mv [.t 5],
 oA 37 .len [.t 36],
 oA 38 (.bin .lss) [.t 35, .t 37],
 oA 39 .mv [.t 38],
 oG 40 .mv [.t 5] 39 true,
 oG 41 .mv [.t 7] 39 true,
 oG 42 (.ias 8) [.t 40, .t 41] 39 true,
 oG 43 (.load true 8) [.t 42] 39 true,
 oG 44 .mv [.t 1] 39 true,
 oG 45 .mv [.t 6] 39 true,
 oG 46 (.ias 8) [.t 44, .t 45] 39 true,
 oG 47 (.load true 8) [.t 46] 39 true,
 oG 48 (.eqa false (some .i64) 8) [.t 43, .t 47] 39 true,
 oA 49 .pick [.t 39, .t 48, .c (.bool false)]])
 (.cond (.t 49)
 (.exit 1)
 (.skip))))
 ((.seq
 (.reg [oA 50 .mv [.t 1],
 oA 51 .mv [.t 6],
 oA 52 (.ias 8) [.t 50, .t 51],
 oA 53 (.load true 8) [.t 52],
 oA 54 (.lit 8 (.agg (List.replicate 8 (.int .i64 0))) 1 [0]) [.t 53],
 oA 55 .mv [.t 5],
 oA 56 .mv [.t 7],
 oA 57 (.slc 8 true false false) [.t 55, .t 56],
 oA 58 (.app 8 64) [.t 54, .t 57],
 oA 8 .mv [.t 58]])
 (.reg [oA 59 .mv [.t 5],
 oA 60 .mv [.t 7],
 oA 61 .mv [.t 7],
 oA 62 (.slc 8 false true true) [.t 59, .t 60, .t 61],
 oA 63 .mv [.t 8],
 oA 64 (.app 8 64) [.t 62, .t 63],
 oA 5 .mv [.t 64]]))))))))))
 (.reg [oA 14 .mv [.t 6],
 oA 15 (.bin .add) [.t 14, .c (.int .i64 1)],
 oA 6 .mv [.t 15]]))))
def f132 : AF := ⟨2, 66, [.t 4],
 (.seq
 (.reg [oA 4 .mv [.c (.sl [] 8 true)]])
 ((.seq
 (.reg [oA 9 (.lit 8 (.agg (List.replicate 8 (.int .i64 0))) 0 []) [],
 oA 5 .mv [.t 9]])
 ((.seq
 ((.seq
 (.reg [oA 6 .mv [.c (.int .i64 0)]])
 (.block 0 (.loop f132_1m f132_1))))
 ((.seq
 (.reg [oA 65 .mv [.t 5],
 oA 4 .mv [.t 65]])
 (.ret))))))))⟩
def f133_0m : List Bool := [true, true, false, false, false, true, true]
def f133_0 : AC :=
 (.seq
 ((.seq
 (.reg [oA 11 .mv [.t 6],
 oA 12 (.bin .lss) [.t 11, .c (.int .i64 8)]])
 (.cond (.t 12)
 (.skip)
 (.exit 2))))
 ((.seq
 (.block 3 ((.seq
 (.reg [oA 15 .mv [.t 1],
 oA 16 .mv [.t 5],
 oA 17 (.call .pure false 25) [.t 15, .t 16],
 oA 18 .mv [.t 17],
 oG 19 .mv [.t 1] 18 true,
 oG 20 .mv [.t 6] 18 true,
 oG 21 (.call .pure false 25) [.t 19, .t 20] 18 true,
 oG 22 (.un .not) [.t 21] 18 true,
 oA 23 .pick [.t 18, .t 22, .c (.bool false)],
 oA 24 .mv [.t 23],
 oG 25 .mv [.t 0] 24 true,
 oG 26 .mv [.t 5] 24 true,
 oG 27 (.call .pure false 34) [.t 26, .c (.int .i64 1)] 24 true,
 oG 28 .mv [.t 6] 24 true,
 oG 29 (.call .pure false 34) [.t 28, .c (.int .i64 65535)] 24 true,
 oG 30 (.call .pure false 129) [.t 25, .t 27, .t 29] 24 true,
 oG 31 (.bin .lss) [.t 30, .c (.int .i64 0)] 24 true,
 oA 32 .pick [.t 24, .t 31, .c (.bool false)]])
 (.cond (.t 32)
 ((.seq
 (.reg [oA 4 .mv [.c (.bool false)]])
 (.ret)))
 (.skip)))))
 (.reg [oA 13 .mv [.t 6],
 oA 14 (.bin .add) [.t 13, .c (.int .i64 1)],
 oA 6 .mv [.t 14]]))))
def f133_1m : List Bool := [true, true, false, false, false, true]
def f133_1 : AC :=
 (.seq
 ((.seq
 (.reg [oA 7 .mv [.t 5],
 oA 8 (.bin .lss) [.t 7, .c (.int .i64 8)]])
 (.cond (.t 8)
 (.skip)
 (.exit 0))))
 ((.seq
 (.block 1 ((.seq
 (.reg [oA 6 .mv [.c (.int .i64 0)]])
 (.block 2 (.loop f133_0m f133_0)))))
 (.reg [oA 9 .mv [.t 5],
 oA 10 (.bin .add) [.t 9, .c (.int .i64 1)],
 oA 5 .mv [.t 10]]))))
def f133 : AF := ⟨2, 33, [.t 4],
 (.seq
 (.reg [oA 4 .mv [.c (.bool false)]])
 ((.seq
 ((.seq
 (.reg [oA 5 .mv [.c (.int .i64 0)]])
 (.block 0 (.loop f133_1m f133_1))))
 ((.seq
 (.reg [oA 4 .mv [.c (.bool true)]])
 (.ret))))))⟩
def f134 : AF := ⟨0, 2, [.t 0],
 (.seq
 (.reg [oA 0 .mv [.c (.sl [] 8 true)]])
 ((.seq
 (.reg [oA 1 (.lit 8 (.agg (List.replicate 8 (.int .i64 0))) 0 []) [],
 oA 0 .mv [.t 1]])
 (.ret))))⟩
def f135 : AF := ⟨0, 3, [.t 0],
 (.seq
 (.reg [oA 0 .mv [.c (.sl [] 8 true)]])
 ((.seq
 (.reg [oA 1 (.build (List.replicate 8 (.int .i64 0)) [(0, 1), (1, 1), (2, 1), (3, 1), (4, 1), (5, 1), (6, 1), (7, 1)]) [.c (.int .i64 1), .c (.int .i64 1), .c (.int .i64 1), .c (.int .i64 1), .c (.int .i64 1), .c (.int .i64 1), .c (.int .i64 1), .c (.int .i64 1)],
 oA 2 (.lit 8 (.agg (List.replicate 8 (.int .i64 0))) 1 [0]) [.t 1],
 oA 0 .mv [.t 2]])
 (.ret))))⟩
def f136_0m : List Bool := [false, true, true]
def f136_0 : AC :=
 (.seq
 ((.seq
 (.reg [oA 4 .mv [.t 2],
 oA 5 (.bin .gtr) [.t 4, .c (.int .i64 0)]])
 (.cond (.t 5)
 (.skip)
 (.exit 0))))
 ((.seq
 (.block 1 (.reg [oA 8 .mv [.t 1],
 oA 9 .mv [.t 2],
 oA 10 (.call .pure false 142) [.t 9, .c (.int .i64 (-1))],
 oA 11 (.lit 8 (.agg (List.replicate 8 (.int .i64 0))) 1 [0]) [.t 10],
 oA 12 (.app 8 64) [.t 8, .t 11],
 oA 1 .mv [.t 12]]))
 (.reg [oA 6 .mv [.t 2],
 oA 7 (.bin .sub) [.t 6, .c (.int .i64 1)],
 oA 2 .mv [.t 7]]))))
def f136 : AF := ⟨0, 14, [.t 0],
 (.seq
 (.reg [oA 0 .mv [.c (.sl [] 8 true)]])
 ((.seq
 (.reg [oA 3 (.call (.own 0) false 135) [],
 oA 1 .mv [.t 3]])
 ((.seq
 ((.seq
 (.reg [oA 2 .mv [.c (.int .i64 7)]])
 (.block 0 (.loop f136_0m f136_0))))
 ((.seq
 (.reg [oA 13 .mv [.t 1],
 oA 0 .mv [.t 13]])
 (.ret))))))))⟩
def f137_0m : List Bool := [true, false, false, true, true]
def f137_0 : AC :=
 (.seq
 ((.seq
 (.reg [oA 6 .mv [.t 4],
 oA 7 (.bin .lss) [.t 6, .c (.int .i64 8)]])
 (.cond (.t 7)
 (.skip)
 (.exit 0))))
 ((.seq
 (.block 1 ((.seq
 (.reg [oA 10 .mv [.t 0],
 oA 11 .mv [.t 4],
 oA 12 (.call .pure false 25) [.t 10, .t 11]])
 (.cond (.t 12)
 (.reg [oA 13 .mv [.t 4],
 oA 14 (.iaa 8 1) [.t 3, .t 13],
 oN (.store 1) [.t 14, .c (.int .i64 1)]])
 (.skip)))))
 (.reg [oA 8 .mv [.t 4],
 oA 9 (.bin .add) [.t 8, .c (.int .i64 1)],
 oA 4 .mv [.t 9]]))))
def f137 : AF := ⟨1, 19, [.t 2],
 (.seq
 (.reg [oA 2 .mv [.c (.sl [] 8 true)]])
 ((.seq
 (.reg [oA 5 (.build (List.replicate 8 (.int .i64 0)) []) [],
 oA 3 (.alloc (List.replicate 8 (.int .i64 0))) [],
 oN (.store 8) [.t 3, .t 5]])
 ((.seq
 ((.seq
 (.reg [oA 4 .mv [.c (.int .i64 0)]])
 (.block 0 (.loop f137_0m f137_0))))
 ((.seq
 (.reg [oA 15 (.load true 8) [.t 3],
 oA 16 (.lit 8 (.agg (List.replicate 8 (.int .i64 0))) 1 [0]) [.t 15],
 oA 17 (.call .pure true 136) [],
 oA 18 (.app 8 64) [.t 16, .t 17],
 oA 2 .mv [.t 18]])
 (.ret))))))))⟩
def f138_0m : List Bool := [true, false, false, true, true, true]
def f138_0 : AC :=
 (.seq
 ((.seq
 (.reg [oA 13 .mv [.t 5],
 oA 14 .mv [.t 0],
 oA 15 .len [.t 14],
 oA 16 (.bin .lss) [.t 13, .t 15]])
 (.cond (.t 16)
 (.skip)
 (.exit 2))))
 ((.seq
 (.block 3 ((.seq
 ((.seq
 (.reg [oA 19 .mv [.t 0],
 oA 20 .mv [.t 5],
 oA 21 .mv [.t 3],
 oA 22 (.ias 8) [.t 19, .t 20],
 oA 23 (.iaa 8 1) [.t 22, .t 21],
 oA 24 (.load false 1) [.t 23],
 oA 25 (.bin .lss) [.t 24, .c (.int .i64 (-1000))],
 oA 26 .mv [.t 25],
 oG 27 .mv [.t 0] 26 false,
 oG 28 .mv [.t 5] 26 false,
 oG 29 .mv [.t 3] 26 false,
 oG 30 (.ias 8) [.t 27, .t 28] 26 false,
 oG 31 (.iaa 8 1) [.t 30, .t 29] 26 false,
 oG 32 (.load false 1) [.t 31] 26 false,
 oG 33 (.bin .gtr) [.t 32, .c (.int .i64 1000)] 26 false,
 oA 34 .pick [.t 26, .c (.bool true), .t 33]])
 (.cond (.t 34)
 ((.seq
 (.reg [oA 2 .mv [.c (.bool false)]])
 (.ret)))
 (.skip))))
 ((.seq
 (.reg [oA 35 .mv [.t 4],
 oA 36 (.bin .eql) [.t 35, .c (.int .i64 0)]])
 (.cond (.t 36)
 (.reg [oA 37 .mv [.t 0],
 oA 38 .mv [.t 5],
 oA 39 .mv [.t 3],
 oA 40 (.ias 8) [.t 37, .t 38],
 oA 41 (.iaa 8 1) [.t 40, .t 39],
 oA 42 (.load false 1) [.t 41],
 oA 4 .mv [.t 42]])
 (.skip)))))))
 (.reg [oA 17 .mv [.t 5],
 oA 18 (.bin .add) [.t 17, .c (.int .i64 1)],
 oA 5 .mv [.t 18]]))))
def f138_1m : List Bool := [true, false, false, true]
def f138_1 : AC :=
 (.seq
 ((.seq
 (.reg [oA 9 .mv [.t 3],
 oA 10 (.bin .lss) [.t 9, .c (.int .i64 8)]])
 (.cond (.t 10)
 (.skip)
 (.exit 0))))
 ((.seq
 (.block 1 ((.seq
 (.reg [oA 4 .mv [.c (.int .i64 0)]])
 ((.seq
 ((.seq
 (.reg [oA 5 .mv [.c (.int .i64 0)]])
 (.block 2 (.loop f138_0m f138_0))))
 ((.seq
 (.reg [oA 43 .mv [.t 4],
 oA 44 (.bin .lss) [.t 43, .c (.int .i64 0)]])
 (.cond (.t 44)
 ((.seq
 (.reg [oA 2 .mv [.c (.bool false)]])
 (.ret)))
 (.skip)))))))))
 (.reg [oA 11 .mv [.t 3],
 oA 12 (.bin .add) [.t 11, .c (.int .i64 1)],
 oA 3 .mv [.t 12]]))))
def f138 : AF := ⟨1, 45, [.t 2],
 (.seq
 (.reg [oA 2 .mv [.c (.bool false)]])
 ((.seq
 ((.seq
 (.reg [oA 6 .mv [.t 0],
 oA 7 .len [.t 6],
 oA 8 (.bin .gtr) [.t 7, .c (.int .i64 24)]])
 (.cond (.t 8)
 ((.seq
 (.reg [oA 2 .mv [.c (.bool false)]])
 (.ret)))
 (.skip))))
 ((.seq
 ((.seq
 (.reg [oA 3 .mv [.c (.int .i64 0)]])
 (.block 0 (.loop f138_1m f138_1))))
 ((.seq
 (.reg [oA 2 .mv [.c (.bool true)]])
 (.ret))))))))⟩
def f139_0m : List Bool := [false, false, true, true, false, true, true]
def f139_0 : AC :=
 (.seq
 ((.seq
 (.reg [oA 7 .mv [.t 6],
 oA 8 (.bin .lss) [.t 7, .c (.int .i64 8)]])
 (.cond (.t 8)
 (.skip)
 (.exit 0))))
 ((.seq
 (.block 1 (.reg [oA 11 .mv [.t 5],
 oA 12 .mv [.t 6],
 oA 13 (.iaa 8 1) [.t 2, .t 12],
 oA 14 (.load false 1) [.t 13],
 oA 15 .mv [.t 6],
 oA 16 (.iaa 8 1) [.t 3, .t 15],
 oA 17 (.load false 1) [.t 16],
 oA 18 (.bin .mul) [.t 14, .t 17],
 oA 19 (.bin .add) [.t 11, .t 18],
 oA 5 .mv [.t 19]]))
 (.reg [oA 9 .mv [.t 6],
 oA 10 (.bin .add) [.t 9, .c (.int .i64 1)],
 oA 6 .mv [.t 10]]))))
def f139 : AF := ⟨2, 21, [.t 4],
 (.seq
 (.reg [oA 2 (.box 8) [.t 0],
 oA 3 (.box 8) [.t 1],
 oA 4 .mv [.c (.int .i64 0)]])
 ((.seq
 (.reg [oA 5 .mv [.c (.int .i64 0)]])
 ((.seq
 ((.seq
 (.reg [oA 6 .mv [.c (.int .i64 0)]])
 (.block 0 (.loop f139_0m f139_0))))
 ((.seq
 (.reg [oA 20 .mv [.t 5],
 oA 4 .mv [.t 20]])
 (.ret))))))))⟩
def f140_0m : List Bool := [false, false, true, true, false, true]
def f140_0 : AC :=
 (.seq
 ((.seq
 (.reg [oA 6 .mv [.t 5],
 oA 7 (.bin .lss) [.t 6, .c (.int .i64 8)]])
 (.cond (.t 7)
 (.skip)
 (.exit 0))))
 ((.seq
 (.block 1 ((.seq
 ((.seq
 (.reg [oA 10 .mv [.t 5],
 oA 11 (.iaa 8 1) [.t 2, .t 10],
 oA 12 (.load false 1) [.t 11],
 oA 13 .mv [.t 5],
 oA 14 (.iaa 8 1) [.t 3, .t 13],
 oA 15 (.load false 1) [.t 14],
 oA 16 (.bin .lss) [.t 12, .t 15]])
 (.cond (.t 16)
 ((.seq
 (.reg [oA 4 .mv [.c (.int .i64 (-1))]])
 (.ret)))
 (.skip))))
 ((.seq
 (.reg [oA 17 .mv [.t 5],
 oA 18 (.iaa 8 1) [.t 2, .t 17],
 oA 19 (.load false 1) [.t 18],
 oA 20 .mv [.t 5],
 oA 21 (.iaa 8 1) [.t 3, .t 20],
 oA 22 (.load false 1) [.t 21],
 oA 23 (.bin .gtr) [.t 19, .t 22]])
 (.cond (.t 23)
 ((.seq
 (.reg [oA 4 .mv [.c (.int .i64 1)]])
 (.ret)))
 (.skip)))))))
 (.reg [oA 8 .mv [.t 5],
 oA 9 (.bin .add) [.t 8, .c (.int .i64 1)],
 oA 5 .mv [.t 9]]))))
def f140 : AF := ⟨2, 24, [.t 4],
 (.seq
 (.reg [oA 2 (.box 8) [.t 0],
 oA 3 (.box 8) [.t 1],
 oA 4 .mv [.c (.int .i64 0)]])
 ((.seq
 ((.seq
 (.reg [oA 5 .mv [.c (.int .i64 0)]])
 (.block 0 (.loop f140_0m f140_0))))
 ((.seq
 (.reg [oA 4 .mv [.c (.int .i64 0)]])
 (.ret))))))⟩
def f141_0m : List Bool := [true, false, false, true, true, true, true, true]
def f141_0 : AC :=
 (.seq
 ((.seq
 (.reg [oA 20 .mv [.t 7],
 oA 21 (.bin .lss) [.t 20, .c (.int .i64 8)]])
 (.cond (.t 21)
 (.skip)
 (.exit 2))))
 ((.seq
 (.block 3 (.reg [oA 24 .mv [.t 7],
 oA 25 .mv [.t 0],
 oA 26 .mv [.t 5],
 oA 27 .mv [.t 7],
 oA 28 (.ias 8) [.t 25, .t 26],
 oA 29 (.iaa 8 1) [.t 28, .t 27],
 oA 30 (.load false 1) [.t 29],
 oA 31 (.call .pure false 144) [.t 30],
 oA 32 (.iaa 8 4) [.t 6, .t 24],
 oN (.store 4) [.t 32, .t 31]]))
 (.reg [oA 22 .mv [.t 7],
 oA 23 (.bin .add) [.t 22, .c (.int .i64 1)],
 oA 7 .mv [.t 23]]))))
def f141_1m : List Bool := [true, false, false, true, true, true, true, false, true]
def f141_1 : AC :=
 (.seq
 ((.seq
 (.reg [oA 33 .mv [.t 8],
 oA 34 .mv [.t 3],
 oA 35 .len [.t 34],
 oA 36 (.bin .lss) [.t 33, .t 35]])
 (.cond (.t 36)
 (.skip)
 (.exit 4))))
 ((.seq
 (.block 5 (.reg [oA 39 (.load true 32) [.t 6],
 oA 40 .mv [.t 3],
 oA 41 .mv [.t 8],
 oA 42 (.ias 32) [.t 40, .t 41],
 oA 43 (.load true 32) [.t 42],
 oA 44 .mv [.t 4],
 oA 45 .mv [.t 8],
 oA 46 (.ias 1) [.t 44, .t 45],
 oA 47 (.load false 1) [.t 46],
 oA 48 (.call .pure true 145) [.t 39, .t 43, .t 47],
 oN (.store 32) [.t 6, .t 48]]))
 (.reg [oA 37 .mv [.t 8],
 oA 38 (.bin .add) [.t 37, .c (.int .i64 1)],
 oA 8 .mv [.t 38]]))))
def f141_2m : List Bool := [true, false, false, true, true, true, true, false, false, true]
def f141_2 : AC :=
 (.seq
 ((.seq
 (.reg [oA 49 .mv [.t 9],
 oA 50 (.bin .lss) [.t 49, .c (.int .i64 8)],
 oA 51 .mv [.t 50],
 oG 52 .mv [.t 9] 51 true,
 oG 53 (.iaa 8 4) [.t 6, .t 52] 51 true,
 oG 54 (.load true 4) [.t 53] 51 true,
 oG 55 (.call .pure false 146) [.t 54] 51 true,
 oG 56 (.bin .eql) [.t 55, .c (.int .i64 0)] 51 true,
 oA 57 .pick [.t 51, .t 56, .c (.bool false)]])
 (.cond (.t 57)
 (.skip)
 (.exit 6))))
 (.block 7 (.reg [oA 58 .mv [.t 9],
 oA 59 (.bin .add) [.t 58, .c (.int .i64 1)],
 oA 9 .mv [.t 59]])))
def f141_3m : List Bool := [true, false, false, true, true, true, true, false, false, true, true, false, true]
def f141_3 : AC :=
 (.seq
 ((.seq
 (.reg [oA 69 .mv [.t 12],
 oA 70 (.bin .lss) [.t 69, .c (.int .i64 8)]])
 (.cond (.t 70)
 (.skip)
 (.exit 8))))
 ((.seq
 (.block 9 (.reg [oA 73 .mv [.t 12],
 oA 74 .mv [.t 12],
 oA 75 (.iaa 8 4) [.t 6, .t 74],
 oA 76 (.load true 4) [.t 75],
 oA 77 (.load true 4) [.t 10],
 oA 78 (.call .pure true 148) [.t 76, .t 77],
 oA 79 (.iaa 8 4) [.t 6, .t 73],
 oN (.store 4) [.t 79, .t 78]]))
 (.reg [oA 71 .mv [.t 12],
 oA 72 (.bin .add) [.t 71, .c (.int .i64 1)],
 oA 12 .mv [.t 72]]))))
def f141_4m : List Bool := [true, false, false, true, true, true]
def f141_4 : AC :=
 (.seq
 ((.seq
 (.reg [oA 13 .mv [.t 5],
 oA 14 .mv [.t 0],
 oA 15 .len [.t 14],
 oA 16 (.bin .lss) [.t 13, .t 15]])
 (.cond (.t 16)
 (.skip)
 (.exit 0))))
 ((.seq
 (.block 1 ((.seq
 (.reg [oA 19 (.build [.bool false, .sl [] 1 true, .bool false, .sl [] 1 true, .bool false, .sl [] 1 true, .bool false, .sl [] 1 true, .bool false, .sl [] 1 true, .bool false, .sl [] 1 true, .bool false, .sl [] 1 true, .bool false, .sl [] 1 true, .bool false, .sl [] 1 true, .bool false, .sl [] 1 true, .bool false, .sl [] 1 true, .bool false, .sl [] 1 true, .bool false, .sl [] 1 true, .bool false, .sl [] 1 true, .bool false, .sl [] 1 true, .bool false, .sl [] 1 true] []) [],
 oA 6 (.alloc [.bool false, .sl [] 1 true, .bool false, .sl [] 1 true, .bool false, .sl [] 1 true, .bool false, .sl [] 1 true, .bool false, .sl [] 1 true, .bool false, .sl [] 1 true, .bool false, .sl [] 1 true, .bool false, .sl [] 1 true, .bool false, .sl [] 1 true, .bool false, .sl [] 1 true, .bool false, .sl [] 1 true, .bool false, .sl [] 1 true, .bool false, .sl [] 1 true, .bool false, .sl [] 1 true, .bool false, .sl [] 1 true, .bool false, .sl [] 1 true]) [],
 oN (.store 32) [.t 6, .t 19]])
 ((.seq
 ((.seq
 (.reg [oA 7 .mv [.c (.int .i64 0)]])
 (.block 2 (.loop f141_0m f141_0))))
 ((.seq
 ((.seq
 (.reg [oA 8 .mv [.c (.int .i64 0)]])
 (.block 4 (.loop f141_1m f141_1))))
 ((.seq
 (.reg [oA 9 .mv [.c (.int .i64 0)]])
 ((.seq
 (.block 6 (.loop f141_2m f141_2))
 ((.seq
 ((.seq
 (.reg [oA 60 .mv [.t 9],
 oA 61 (.bin .eql) [.t 60, .c (.int .i64 8)]])
 (.cond (.t 61)
 (.exit 1)
 (.skip))))
 ((.seq
 (.reg [oA 63 .mv [.t 9],
 oA 64 (.iaa 8 4) [.t 6, .t 63],
 oA 65 (.load true 4) [.t 64],
 oA 66 (.call .pure false 147) [.t 65],
 oA 62 .mv [.t 66],
 oA 67 (.ext 0) [.t 62],
 oA 68 (.ext 1) [.t 62],
 oA 10 (.alloc [.bool false, .sl [] 1 true, .bool false, .sl [] 1 true]) [],
 oN (.store 4) [.t 10, .t 67],
 oA 11 .mv [.t 68]])
 ((.seq
 ((.seq
 (.reg [oA 12 .mv [.c (.int .i64 0)]])
 (.block 8 (.loop f141_3m f141_3))))
 (.reg [oA 80 .mv [.t 3],
 oA 81 (.load true 32) [.t 6],
 oA 82 (.lit 32 (.agg [.bool false, .sl [] 1 true, .bool false, .sl [] 1 true, .bool false, .sl [] 1 true, .bool false, .sl [] 1 true, .bool false, .sl [] 1 true, .bool false, .sl [] 1 true, .bool false, .sl [] 1 true, .bool false, .sl [] 1 true, .bool false, .sl [] 1 true, .bool false, .sl [] 1 true, .bool false, .sl [] 1 true, .bool false, .sl [] 1 true, .bool false, .sl [] 1 true, .bool false, .sl [] 1 true, .bool false, .sl [] 1 true, .bool false, .sl [] 1 true]) 1 [0]) [.t 81],
 oA 83 (.app 32 512) [.t 80, .t 82],
 oA 84 .mv [.t 4],
 oA 85 .mv [.t 9],
 oA 86 (.lit 1 (.int .i64 0) 1 [0]) [.t 85],
 oA 87 (.app 1 8) [.t 84, .t 86],
 oA 3 .mv [.t 83],
 oA 4 .mv [.t 87]]))))))))))))))))))
 (.reg [oA 17 .mv [.t 5],
 oA 18 (.bin .add) [.t 17, .c (.int .i64 1)],
 oA 5 .mv [.t 18]]))))
def f141 : AF := ⟨1, 90, [.t 2],
 (.seq
 (.reg [oA 2 .mv [.c (.int .i64 0)]])
 ((.seq
 (.reg [oA 3 .mv [.c (.sl [] 32 true)]])
 ((.seq
 (.reg [oA 4 .mv [.c (.sl [] 1 true)]])
 ((.seq
 ((.seq
 (.reg [oA 5 .mv [.c (.int .i64 0)]])
 (.block 0 (.loop f141_4m f141_4))))
 ((.seq
 (.reg [oA 88 .mv [.t 3],
 oA 89 .len [.t 88],
 oA 2 .mv [.t 89]])
 (.ret))))))))))⟩
def f142 : AF := ⟨2, 11, [.c 4 true 8],
 (.seq
 (.reg [oA 4 (.alloc (List.replicate 8 (.int .i64 0))) []])
 ((.seq
 (.reg [oA 6 (.build (List.replicate 8 (.int .i64 0)) []) [],
 oA 5 (.alloc (List.replicate 8 (.int .i64 0))) [],
 oN (.store 8) [.t 5, .t 6]])
 ((.seq
 (.reg [oA 7 .mv [.t 0],
 oA 8 .mv [.t 1],
 oA 9 (.iaa 8 1) [.t 5, .t 7],
 oN (.store 1) [.t 9, .t 8]])
 ((.seq
 (.reg [oA 10 (.load true 8) [.t 5],
 oN (.store 8) [.t 4, .t 10]])
 (.ret))))))))⟩
def f143_0m : List Bool := [false, true, false, true, true]
def f143_0 : AC :=
 (.seq
 ((.seq
 (.reg [oA 6 .mv [.t 4],
 oA 7 (.bin .lss) [.t 6, .c (.int .i64 8)]])
 (.cond (.t 7)
 (.skip)
 (.exit 0))))
 ((.seq
 (.block 1 ((.seq
 ((.seq
 (.reg [oA 10 .mv [.t 4],
 oA 11 (.iaa 8 1) [.t 1, .t 10],
 oA 12 (.load false 1) [.t 11],
 oA 13 (.bin .lss) [.t 12, .c (.int .i64 0)],
 oA 14 .mv [.t 13],
 oG 15 .mv [.t 4] 14 false,
 oG 16 (.iaa 8 1) [.t 1, .t 15] 14 false,
 oG 17 (.load false 1) [.t 16] 14 false,
 oG 18 (.bin .gtr) [.t 17, .c (.int .i64 7)] 14 false,
 oA 19 .pick [.t 14, .c (.bool true), .t 18],
 oA 20 .mv [.t 19],
 oG 21 .mv [.t 4] 20 false,
 oG 22 (.iaa 8 1) [.t 1, .t 21] 20 false,
 oG 23 (.load false 1) [.t 22] 20 false,
 oG 24 (.iaa 8 1) [.t 3, .t 23] 20 false,
 oG 25 (.load false 1) [.t 24] 20 false,
 oA 26 .pick [.t 20, .c (.bool true), .t 25]])
 (.cond (.t 26)
 ((.seq
 (.reg [oA 2 .mv [.c (.bool false)]])
 (.ret)))
 (.skip))))
 (.reg [oA 27 .mv [.t 4],
 oA 28 (.iaa 8 1) [.t 1, .t 27],
 oA 29 (.load false 1) [.t 28],
 oA 30 (.iaa 8 1) [.t 3, .t 29],
 oN (.store 1) [.t 30, .c (.bool true)]]))))
 (.reg [oA 8 .mv [.t 4],
 oA 9 (.bin .add) [.t 8, .c (.int .i64 1)],
 oA 4 .mv [.t 9]]))))
def f143 : AF := ⟨1, 31, [.t 2],
 (.seq
 (.reg [oA 1 (.box 8) [.t 0],
 oA 2 .mv [.c (.bool false)]])
 ((.seq
 (.reg [oA 5 (.build (List.replicate 8 (.bool false)) []) [],
 oA 3 (.alloc (List.replicate 8 (.bool false))) [],
 oN (.store 8) [.t 3, .t 5]])
 ((.seq
 ((.seq
 (.reg [oA 4 .mv [.c (.int .i64 0)]])
 (.block 0 (.loop f143_0m f143_0))))
 ((.seq
 (.reg [oA 2 .mv [.c (.bool true)]])
 (.ret))))))))⟩
def f144 : AF := ⟨1, 7, [.c 2 true 4],
 (.seq
 (.reg [oA 2 (.alloc [.bool false, .sl [] 1 true, .bool false, .sl [] 1 true]) []])
 ((.seq
 (.reg [oA 3 .mv [.t 0],
 oA 4 (.call .pure false 149) [.t 3],
 oA 5 (.call .pure false 149) [.c (.int .i64 1)],
 oA 6 (.build [.bool false, .sl [] 1 true, .bool false, .sl [] 1 true] [(0, 2), (2, 2)]) [.t 4, .t 5],
 oN (.store 4) [.t 2, .t 6]])
 (.ret))))⟩
def f145_0m : List Bool := [false, false, false, true, true, false, true, true, true]
def f145_0 : AC :=
 (.seq
 ((.seq
 (.reg [oA 12 .mv [.t 8],
 oA 13 (.bin .lss) [.t 12, .c (.int .i64 8)]])
 (.cond (.t 13)
 (.skip)
 (.exit 0))))
 ((.seq
 (.block 1 (.reg [oA 16 .mv [.t 8],
 oA 17 .mv [.t 8],
 oA 18 (.iaa 8 4) [.t 3, .t 17],
 oA 19 (.load true 4) [.t 18],
 oA 20 (.load true 4) [.t 7],
 oA 21 .mv [.t 8],
 oA 22 (.iaa 8 4) [.t 4, .t 21],
 oA 23 (.load true 4) [.t 22],
 oA 24 (.call .pure true 148) [.t 20, .t 23],
 oA 25 (.call .pure true 150) [.t 19, .t 24],
 oA 26 (.iaa 8 4) [.t 3, .t 16],
 oN (.store 4) [.t 26, .t 25]]))
 (.reg [oA 14 .mv [.t 8],
 oA 15 (.bin .add) [.t 14, .c (.int .i64 1)],
 oA 8 .mv [.t 15]]))))
def f145 : AF := ⟨3, 28, [.c 6 true 32],
 (.seq
 (.reg [oA 3 (.box 32) [.t 0],
 oA 4 (.box 32) [.t 1],
 oA 6 (.alloc [.bool false, .sl [] 1 true, .bool false, .sl [] 1 true, .bool false, .sl [] 1 true, .bool false, .sl [] 1 true, .bool false, .sl [] 1 true, .bool false, .sl [] 1 true, .bool false, .sl [] 1 true, .bool false, .sl [] 1 true, .bool false, .sl [] 1 true, .bool false, .sl [] 1 true, .bool false, .sl [] 1 true, .bool false, .sl [] 1 true, .bool false, .sl [] 1 true, .bool false, .sl [] 1 true, .bool false, .sl [] 1 true, .bool false, .sl [] 1 true]) []])
 ((.seq
 (.reg [oA 9 .mv [.t 2],
 oA 10 (.iaa 8 4) [.t 3, .t 9],
 oA 11 (.load true 4) [.t 10],
 oA 7 (.alloc [.bool false, .sl [] 1 true, .bool false, .sl [] 1 true]) [],
 oN (.store 4) [.t 7, .t 11]])
 ((.seq
 ((.seq
 (.reg [oA 8 .mv [.c (.int .i64 0)]])
 (.block 0 (.loop f145_0m f145_0))))
 ((.seq
 (.reg [oA 27 (.load true 32) [.t 3],
 oN (.store 32) [.t 6, .t 27]])
 (.ret))))))))⟩
def f146 : AF := ⟨1, 6, [.t 2],
 (.seq
 (.reg [oA 1 (.box 4) [.t 0],
 oA 2 .mv [.c (.int .i64 0)]])
 ((.seq
 (.reg [oA 3 (.faddr 0 2) [.t 1],
 oA 4 (.load true 2) [.t 3],
 oA 5 (.call .pure false 151) [.t 4],
 oA 2 .mv [.t 5]])
 (.ret))))⟩
def f147 : AF := ⟨1, 11, [.c 2 true 4, .t 3],
 (.seq
 (.reg [oA 1 (.box 4) [.t 0],
 oA 2 (.alloc [.bool false, .sl [] 1 true, .bool false, .sl [] 1 true]) [],
 oA 3 .mv [.c (.int .i64 0)]])
 ((.seq
 (.reg [oA 4 (.faddr 2 2) [.t 1],
 oA 5 (.load true 2) [.t 4],
 oA 6 (.faddr 0 2) [.t 1],
 oA 7 (.load true 2) [.t 6],
 oA 8 (.call .pure false 152) [.t 5, .t 7],
 oA 9 (.ext 0) [.t 8],
 oA 10 (.ext 1) [.t 8],
 oN (.store 4) [.t 2, .t 9],
 oA 3 .mv [.t 10]])
 (.ret))))⟩
def f148 : AF := ⟨2, 16, [.c 4 true 4],
 (.seq
 (.reg [oA 2 (.box 4) [.t 0],
 oA 3 (.box 4) [.t 1],
 oA 4 (.alloc [.bool false, .sl [] 1 true, .bool false, .sl [] 1 true]) []])
 ((.seq
 (.reg [oA 5 (.faddr 0 2) [.t 2],
 oA 6 (.load true 2) [.t 5],
 oA 7 (.faddr 0 2) [.t 3],
 oA 8 (.load true 2) [.t 7],
 oA 9 (.call .pure true 154) [.t 6, .t 8],
 oA 10 (.faddr 2 2) [.t 2],
 oA 11 (.load true 2) [.t 10],
 oA 12 (.faddr 2 2) [.t 3],
 oA 13 (.load true 2) [.t 12],
 oA 14 (.call .pure true 154) [.t 11, .t 13],
 oA 15 (.call .pure true 153) [.t 9, .t 14],
 oN (.store 4) [.t 4, .t 15]])
 (.ret))))⟩
def f149 : AF := ⟨1, 16, [.c 2 true 2],
 (.seq
 (.reg [oA 2 (.alloc [.bool false, .sl [] 1 true]) []])
 ((.seq
 ((.seq
 (.reg [oA 3 .mv [.t 0],
 oA 4 (.bin .lss) [.t 3, .c (.int .i64 0)]])
 (.cond (.t 4)
 ((.seq
 (.reg [oA 5 .mv [.t 0],
 oA 6 (.bin .add) [.t 5, .c (.int .i64 1)],
 oA 7 (.un .neg) [.t 6],
 oA 8 (.conv .u64) [.t 7],
 oA 9 (.bin .add) [.t 8, .c (.int .u64 1)],
 oA 10 (.call .pure false 156) [.t 9],
 oA 11 (.call .pure false 155) [.c (.bool true), .t 10],
 oN (.store 2) [.t 2, .t 11]])
 (.ret)))
 (.skip))))
 ((.seq
 (.reg [oA 12 .mv [.t 0],
 oA 13 (.conv .u64) [.t 12],
 oA 14 (.call .pure false 156) [.t 13],
 oA 15 (.call .pure false 155) [.c (.bool false), .t 14],
 oN (.store 2) [.t 2, .t 15]])
 (.ret))))))⟩
def f150 : AF := ⟨2, 9, [.c 4 true 4],
 (.seq
 (.reg [oA 2 (.box 4) [.t 0],
 oA 3 (.box 4) [.t 1],
 oA 4 (.alloc [.bool false, .sl [] 1 true, .bool false, .sl [] 1 true]) []])
 ((.seq
 (.reg [oA 5 (.load true 4) [.t 2],
 oA 6 (.load true 4) [.t 3],
 oA 7 (.call .pure true 158) [.t 6],
 oA 8 (.call .pure true 157) [.t 5, .t 7],
 oN (.store 4) [.t 4, .t 8]])
 (.ret))))⟩
def f151 : AF := ⟨1, 9, [.t 2],
 (.seq
 (.reg [oA 1 (.box 2) [.t 0],
 oA 2 .mv [.c (.int .i64 0)]])
 ((.seq
 ((.seq
 (.reg [oA 3 (.faddr 0 1) [.t 1],
 oA 4 (.load false 1) [.t 3]])
 (.cond (.t 4)
 ((.seq
 (.reg [oA 2 .mv [.c (.int .i64 (-1))]])
 (.ret)))
 (.skip))))
 ((.seq
 (.reg [oA 5 (.faddr 1 1) [.t 1],
 oA 6 (.load false 1) [.t 5],
 oA 7 .len [.t 6],
 oA 8 .mn [.t 7, .c (.int .i64 1)],
 oA 2 .mv [.t 8]])
 (.ret))))))⟩
def f152 : AF := ⟨2, 13, [.c 4 true 4, .t 5],
 (.seq
 (.reg [oA 2 (.box 2) [.t 0],
 oA 3 (.box 2) [.t 1],
 oA 4 (.alloc [.bool false, .sl [] 1 true, .bool false, .sl [] 1 true]) [],
 oA 5 .mv [.c (.int .i64 0)]])
 ((.seq
 ((.seq
 (.reg [oA 6 (.load true 2) [.t 3],
 oA 7 (.call .pure false 151) [.t 6],
 oA 8 (.bin .eql) [.t 7, .c (.int .i64 0)]])
 (.cond (.t 8)
 ((.seq
 (.reg [oA 9 (.build [.bool false, .sl [] 1 true, .bool false, .sl [] 1 true] []) [],
 oN (.store 4) [.t 4, .t 9],
 oA 5 .mv [.c (.int .i64 10)]])
 (.ret)))
 (.skip))))
 ((.seq
 (.reg [oA 10 (.load true 2) [.t 2],
 oA 11 (.load true 2) [.t 3],
 oA 12 (.call .pure false 153) [.t 10, .t 11],
 oN (.store 4) [.t 4, .t 12],
 oA 5 .mv [.c (.int .i64 0)]])
 (.ret))))))⟩
def f153 : AF := ⟨2, 21, [.c 4 true 4],
 (.seq
 (.reg [oA 2 (.box 2) [.t 0],
 oA 3 (.box 2) [.t 1],
 oA 4 (.alloc [.bool false, .sl [] 1 true, .bool false, .sl [] 1 true]) []])
 ((.seq
 (.reg [oA 6 (.load true 2) [.t 2],
 oA 7 (.load true 2) [.t 3],
 oA 8 (.call .pure false 159) [.t 6, .t 7],
 oA 5 (.alloc [.bool false, .sl [] 1 true]) [],
 oN (.store 2) [.t 5, .t 8]])
 ((.seq
 ((.seq
 (.reg [oA 9 (.load true 2) [.t 3],
 oA 10 (.call .pure false 151) [.t 9],
 oA 11 (.bin .lss) [.t 10, .c (.int .i64 0)]])
 (.cond (.t 11)
 (.reg [oA 12 (.load true 2) [.t 5],
 oA 13 (.call .pure false 160) [.t 12],
 oN (.store 2) [.t 5, .t 13]])
 (.skip))))
 ((.seq
 (.reg [oA 14 (.load true 2) [.t 2],
 oA 15 (.load true 2) [.t 5],
 oA 16 (.call .pure true 161) [.t 14, .t 15],
 oA 17 (.load true 2) [.t 3],
 oA 18 (.load true 2) [.t 5],
 oA 19 (.call .pure true 161) [.t 17, .t 18],
 oA 20 (.build [.bool false, .sl [] 1 true, .bool false, .sl [] 1 true] [(0, 2), (2, 2)]) [.t 16, .t 19],
 oN (.store 4) [.t 4, .t 20]])
 (.ret))))))))⟩
def f154 : AF := ⟨2, 16, [.c 4 true 2],
 (.seq
 (.reg [oA 2 (.box 2) [.t 0],
 oA 3 (.box 2) [.t 1],
 oA 4 (.alloc [.bool false, .sl [] 1 true]) []])
 ((.seq
 (.reg [oA 5 (.faddr 0 1) [.t 2],
 oA 6 (.load false 1) [.t 5],
 oA 7 (.faddr 0 1) [.t 3],
 oA 8 (.load false 1) [.t 7],
 oA 9 (.eqb true) [.t 6, .t 8],
 oA 10 (.faddr 1 1) [.t 2],
 oA 11 (.load false 1) [.t 10],
 oA 12 (.faddr 1 1) [.t 3],
 oA 13 (.load false 1) [.t 12],
 oA 14 (.call .pure true 162) [.t 11, .t 13],
 oA 15 (.call .pure true 155) [.t 9, .t 14],
 oN (.store 2) [.t 4, .t 15]])
 (.ret))))⟩
def f155 : AF := ⟨2, 16, [.c 4 true 2],
 (.seq
 (.reg [oA 4 (.alloc [.bool false, .sl [] 1 true]) []])
 ((.seq
 (.reg [oA 6 .mv [.t 1],
 oA 7 (.call .pure false 163) [.t 6],
 oA 5 .mv [.t 7]])
 ((.seq
 (.reg [oA 8 .mv [.t 0],
 oA 9 .mv [.t 8],
 oG 10 .mv [.t 5] 9 true,
 oG 11 .len [.t 10] 9 true,
 oG 12 (.bin .gtr) [.t 11, .c (.int .i64 0)] 9 true,
 oA 13 .pick [.t 9, .t 12, .c (.bool false)],
 oA 14 .mv [.t 5],
 oA 15 (.build [.bool false, .sl [] 1 true] [(0, 1), (1, 1)]) [.t 13, .t 14],
 oN (.store 2) [.t 4, .t 15]])
 (.ret))))))⟩
def f156 : AF := ⟨1, 11, [.t 2],
 (.seq
 (.reg [oA 2 .mv [.c (.sl [] 1 true)]])
 ((.seq
 (.reg [oA 3 .mv [.t 0],
 oA 4 (.bin .rem) [.t 3, .c (.int .u64 4294967296)],
 oA 5 (.conv .u32) [.t 4],
 oA 6 .mv [.t 0],
 oA 7 (.bin .quo) [.t 6, .c (.int .u64 4294967296)],
 oA 8 (.conv .u32) [.t 7],
 oA 9 (.lit 1 (.int .u32 0) 2 [0, 1]) [.t 5, .t 8],
 oA 10 (.call .pure false 163) [.t 9],
 oA 2 .mv [.t 10]])
 (.ret))))⟩
def f157 : AF := ⟨2, 22, [.c 4 true 4],
 (.seq
 (.reg [oA 2 (.box 4) [.t 0],
 oA 3 (.box 4) [.t 1],
 oA 4 (.alloc [.bool false, .sl [] 1 true, .bool false, .sl [] 1 true]) []])
 ((.seq
 (.reg [oA 5 (.faddr 0 2) [.t 2],
 oA 6 (.load true 2) [.t 5],
 oA 7 (.faddr 2 2) [.t 3],
 oA 8 (.load true 2) [.t 7],
 oA 9 (.call .pure true 154) [.t 6, .t 8],
 oA 10 (.faddr 0 2) [.t 3],
 oA 11 (.load true 2) [.t 10],
 oA 12 (.faddr 2 2) [.t 2],
 oA 13 (.load true 2) [.t 12],
 oA 14 (.call .pure true 154) [.t 11, .t 13],
 oA 15 (.call .pure true 164) [.t 9, .t 14],
 oA 16 (.faddr 2 2) [.t 2],
 oA 17 (.load true 2) [.t 16],
 oA 18 (.faddr 2 2) [.t 3],
 oA 19 (.load true 2) [.t 18],
 oA 20 (.call .pure true 154) [.t 17, .t 19],
 oA 21 (.call .pure true 153) [.t 15, .t 20],
 oN (.store 4) [.t 4, .t 21]])
 (.ret))))⟩
def f158 : AF := ⟨1, 9, [.c 2 true 4],
 (.seq
 (.reg [oA 1 (.box 4) [.t 0],
 oA 2 (.alloc [.bool false, .sl [] 1 true, .bool false, .sl [] 1 true]) []])
 ((.seq
 (.reg [oA 3 (.faddr 0 2) [.t 1],
 oA 4 (.load true 2) [.t 3],
 oA 5 (.call .pure true 160) [.t 4],
 oA 6 (.faddr 2 2) [.t 1],
 oA 7 (.load true 2) [.t 6],
 oA 8 (.build [.bool false, .sl [] 1 true, .bool false, .sl [] 1 true] [(0, 2), (2, 2)]) [.t 5, .t 7],
 oN (.store 4) [.t 2, .t 8]])
 (.ret))))⟩
def f159 : AF := ⟨2, 11, [.c 4 true 2],
 (.seq
 (.reg [oA 2 (.box 2) [.t 0],
 oA 3 (.box 2) [.t 1],
 oA 4 (.alloc [.bool false, .sl [] 1 true]) []])
 ((.seq
 (.reg [oA 5 (.faddr 1 1) [.t 2],
 oA 6 (.load false 1) [.t 5],
 oA 7 (.faddr 1 1) [.t 3],
 oA 8 (.load false 1) [.t 7],
 oA 9 (.call .pure false 165) [.t 6, .t 8],
 oA 10 (.call .pure false 155) [.c (.bool false), .t 9],
 oN (.store 2) [.t 4, .t 10]])
 (.ret))))⟩
def f160 : AF := ⟨1, 9, [.c 2 true 2],
 (.seq
 (.reg [oA 1 (.box 2) [.t 0],
 oA 2 (.alloc [.bool false, .sl [] 1 true]) []])
 ((.seq
 (.reg [oA 3 (.faddr 0 1) [.t 1],
 oA 4 (.load false 1) [.t 3],
 oA 5 (.un .not) [.t 4],
 oA 6 (.faddr 1 1) [.t 1],
 oA 7 (.load false 1) [.t 6],
 oA 8 (.call .pure false 155) [.t 5, .t 7],
 oN (.store 2) [.t 2, .t 8]])
 (.ret))))⟩
def f161 : AF := ⟨2, 16, [.c 4 true 2],
 (.seq
 (.reg [oA 2 (.box 2) [.t 0],
 oA 3 (.box 2) [.t 1],
 oA 4 (.alloc [.bool false, .sl [] 1 true]) []])
 ((.seq
 (.reg [oA 9 (.load true 2) [.t 2],
 oA 10 (.load true 2) [.t 3],
 oA 11 (.call .pure false 166) [.t 9, .t 10],
 oA 8 .mv [.t 11],
 oA 12 (.ext 0) [.t 8],
 oA 13 (.ext 1) [.t 8],
 oA 14 (.ext 2) [.t 8],
 oA 5 (.alloc [.bool false, .sl [] 1 true]) [],
 oA 6 (.alloc [.bool false, .sl [] 1 true]) [],
 oN (.store 2) [.t 5, .t 12],
 oN (.store 2) [.t 6, .t 13],
 oA 7 .mv [.t 14]])
 ((.seq
 (.reg [oA 15 (.load true 2) [.t 5],
 oN (.store 2) [.t 4, .t 15]])
 (.ret))))))⟩
def f162_0m : List Bool := [true, true, false, false, false, true, true, true, true]
def f162_0 : AC :=
 (.seq
 ((.seq
 (.reg [oA 22 .mv [.t 8],
 oA 23 .mv [.t 1],
 oA 24 .len [.t 23],
 oA 25 (.bin .lss) [.t 22, .t 24]])
 (.cond (.t 25)
 (.skip)
 (.exit 2))))
 ((.seq
 (.block 3 ((.seq
 (.reg [oA 28 .mv [.t 0],
 oA 29 .mv [.t 6],
 oA 30 (.ias 1) [.t 28, .t 29],
 oA 31 (.load false 1) [.t 30],
 oA 32 (.conv .u64) [.t 31],
 oA 33 .mv [.t 1],
 oA 34 .mv [.t 8],
 oA 35 (.ias 1) [.t 33, .t 34],
 oA 36 (.load false 1) [.t 35],
 oA 37 (.conv .u64) [.t 36],
 oA 38 (.bin .mul) [.t 32, .t 37],
 oA 39 .mv [.t 5],
 oA 40 .mv [.t 6],
 oA 41 .mv [.t 8],
 oA 42 (.bin .add) [.t 40, .t 41],
 oA 43 (.ias 1) [.t 39, .t 42],
 oA 44 (.load false 1) [.t 43],
 oA 45 (.conv .u64) [.t 44],
 oA 46 (.bin .add) [.t 38, .t 45],
 oA 47 .mv [.t 7],
 oA 48 (.bin .add) [.t 46, .t 47],
 oA 9 .mv [.t 48]])
 ((.seq
 (.reg [oA 49 .mv [.t 5],
 oA 50 .mv [.t 6],
 oA 51 .mv [.t 8],
 oA 52 (.bin .add) [.t 50, .t 51],
 oA 53 .mv [.t 9],
 oA 54 (.bin .rem) [.t 53, .c (.int .u64 4294967296)],
 oA 55 (.conv .u32) [.t 54],
 oA 56 (.ias 1) [.t 49, .t 52],
 oN (.store 1) [.t 56, .t 55]])
 (.reg [oA 57 .mv [.t 9],
 oA 58 (.bin .quo) [.t 57, .c (.int .u64 4294967296)],
 oA 7 .mv [.t 58]]))))))
 (.reg [oA 26 .mv [.t 8],
 oA 27 (.bin .add) [.t 26, .c (.int .i64 1)],
 oA 8 .mv [.t 27]]))))
def f162_1m : List Bool := [true, true, false, false, false, true, true]
def f162_1 : AC :=
 (.seq
 ((.seq
 (.reg [oA 16 .mv [.t 6],
 oA 17 .mv [.t 0],
 oA 18 .len [.t 17],
 oA 19 (.bin .lss) [.t 16, .t 18]])
 (.cond (.t 19)
 (.skip)
 (.exit 0))))
 ((.seq
 (.block 1 ((.seq
 (.reg [oA 7 .mv [.c (.int .u64 0)]])
 ((.seq
 ((.seq
 (.reg [oA 8 .mv [.c (.int .i64 0)]])
 (.block 2 (.loop f162_0m f162_0))))
 (.reg [oA 59 .mv [.t 5],
 oA 60 .mv [.t 6],
 oA 61 .mv [.t 1],
 oA 62 .len [.t 61],
 oA 63 (.bin .add) [.t 60, .t 62],
 oA 64 .mv [.t 7],
 oA 65 (.conv .u32) [.t 64],
 oA 66 (.ias 1) [.t 59, .t 63],
 oN (.store 1) [.t 66, .t 65]]))))))
 (.reg [oA 20 .mv [.t 6],
 oA 21 (.bin .add) [.t 20, .c (.int .i64 1)],
 oA 6 .mv [.t 21]]))))
def f162 : AF := ⟨2, 69, [.t 4],
 (.seq
 (.reg [oA 4 .mv [.c (.sl [] 1 true)]])
 ((.seq
 (.reg [oA 10 .mv [.t 0],
 oA 11 .len [.t 10],
 oA 12 .mv [.t 1],
 oA 13 .len [.t 12],
 oA 14 (.bin .add) [.t 11, .t 13],
 oA 15 (.mks 1 4 [.int .u32 0]) [.t 14, .t 14],
 oA 5 .mv [.t 15]])
 ((.seq
 ((.seq
 (.reg [oA 6 .mv [.c (.int .i64 0)]])
 (.block 0 (.loop f162_1m f162_1))))
 ((.seq
 (.reg [oA 67 .mv [.t 5],
 oA 68 (.call .pure false 163) [.t 67],
 oA 4 .mv [.t 68]])
 (.ret))))))))⟩
def f163_0m : List Bool := [true, false, false, true]
def f163_0 : AC :=
 (.seq
 ((.seq
 (.reg [oA 6 .mv [.t 3],
 oA 7 (.bin .gtr) [.t 6, .c (.int .i64 0)],
 oA 8 .mv [.t 7],
 oG 9 .mv [.t 0] 8 true,
 oG 10 .mv [.t 3] 8 true,
 oG 11 (.bin .sub) [.t 10, .c (.int .i64 1)] 8 true,
 oG 12 (.ias 1) [.t 9, .t 11] 8 true,
 oG 13 (.load false 1) [.t 12] 8 true,
 oG 14 (.bin .eql) [.t 13, .c (.int .u32 0)] 8 true,
 oA 15 .pick [.t 8, .t 14, .c (.bool false)]])
 (.cond (.t 15)
 (.skip)
 (.exit 0))))
 (.block 1 (.reg [oA 16 .mv [.t 3],
 oA 17 (.bin .sub) [.t 16, .c (.int .i64 1)],
 oA 3 .mv [.t 17]])))
def f163 : AF := ⟨1, 21, [.t 2],
 (.seq
 (.reg [oA 2 .mv [.c (.sl [] 1 true)]])
 ((.seq
 (.reg [oA 4 .mv [.t 0],
 oA 5 .len [.t 4],
 oA 3 .mv [.t 5]])
 ((.seq
 (.block 0 (.loop f163_0m f163_0))
 ((.seq
 (.reg [oA 18 .mv [.t 0],
 oA 19 .mv [.t 3],
 oA 20 (.slc 1 false true false) [.t 18, .t 19],
 oA 2 .mv [.t 20]])
 (.ret))))))))⟩
def f164 : AF := ⟨2, 40, [.c 4 true 2],
 (.seq
 (.reg [oA 2 (.box 2) [.t 0],
 oA 3 (.box 2) [.t 1],
 oA 4 (.alloc [.bool false, .sl [] 1 true]) []])
 ((.seq
 ((.seq
 (.reg [oA 5 (.faddr 0 1) [.t 2],
 oA 6 (.load false 1) [.t 5],
 oA 7 (.faddr 0 1) [.t 3],
 oA 8 (.load false 1) [.t 7],
 oA 9 (.eqb false) [.t 6, .t 8]])
 (.cond (.t 9)
 ((.seq
 (.reg [oA 10 (.faddr 0 1) [.t 2],
 oA 11 (.load false 1) [.t 10],
 oA 12 (.faddr 1 1) [.t 2],
 oA 13 (.load false 1) [.t 12],
 oA 14 (.faddr 1 1) [.t 3],
 oA 15 (.load false 1) [.t 14],
 oA 16 (.call .pure true 167) [.t 13, .t 15],
 oA 17 (.call .pure true 155) [.t 11, .t 16],
 oN (.store 2) [.t 4, .t 17]])
 (.ret)))
 (.skip))))
 ((.seq
 ((.seq
 (.reg [oA 18 (.faddr 1 1) [.t 2],
 oA 19 (.load false 1) [.t 18],
 oA 20 (.faddr 1 1) [.t 3],
 oA 21 (.load false 1) [.t 20],
 oA 22 (.call .pure false 168) [.t 19, .t 21],
 oA 23 (.bin .lss) [.t 22, .c (.int .i64 0)]])
 (.cond (.t 23)
 ((.seq
 (.reg [oA 24 (.faddr 0 1) [.t 3],
 oA 25 (.load false 1) [.t 24],
 oA 26 (.faddr 1 1) [.t 3],
 oA 27 (.load false 1) [.t 26],
 oA 28 (.faddr 1 1) [.t 2],
 oA 29 (.load false 1) [.t 28],
 oA 30 (.call .pure true 169) [.t 27, .t 29],
 oA 31 (.call .pure true 155) [.t 25, .t 30],
 oN (.store 2) [.t 4, .t 31]])
 (.ret)))
 (.skip))))
 ((.seq
 (.reg [oA 32 (.faddr 0 1) [.t 2],
 oA 33 (.load false 1) [.t 32],
 oA 34 (.faddr 1 1) [.t 2],
 oA 35 (.load false 1) [.t 34],
 oA 36 (.faddr 1 1) [.t 3],
 oA 37 (.load false 1) [.t 36],
 oA 38 (.call .pure true 169) [.t 35, .t 37],
 oA 39 (.call .pure true 155) [.t 33, .t 38],
 oN (.store 2) [.t 4, .t 39]])
 (.ret))))))))⟩
def f165_0m : List Bool := [true, true]
def f165_0 : AC :=
 (.seq
 ((.seq
 (.reg [oA 7 .mv [.t 1],
 oA 8 .len [.t 7],
 oA 9 (.bin .gtr) [.t 8, .c (.int .i64 0)]])
 (.cond (.t 9)
 (.skip)
 (.exit 0))))
 (.block 1 ((.seq
 ((.seq
 (.reg [oA 10 .mv [.t 0],
 oA 11 .len [.t 10],
 oA 12 (.bin .leq) [.t 11, .c (.int .i64 2)],
 oA 13 .mv [.t 12],
 oG 14 .mv [.t 1] 13 true,
 oG 15 .len [.t 14] 13 true,
 oG 16 (.bin .leq) [.t 15, .c (.int .i64 2)] 13 true,
 oA 17 .pick [.t 13, .t 16, .c (.bool false)]])
 (.cond (.t 17)
 ((.seq
 (.reg [oA 18 .mv [.t 0],
 oA 19 (.call .pure false 171) [.t 18],
 oA 20 .mv [.t 1],
 oA 21 (.call .pure false 171) [.t 20],
 oA 22 (.call .pure false 170) [.t 19, .t 21],
 oA 23 (.call .pure false 156) [.t 22],
 oA 4 .mv [.t 23]])
 (.ret)))
 (.skip))))
 ((.seq
 (.reg [oA 25 .mv [.t 0],
 oA 26 .mv [.t 1],
 oA 27 (.call .pure false 172) [.t 25, .t 26],
 oA 24 .mv [.t 27],
 oA 28 (.ext 0) [.t 24],
 oA 29 (.ext 1) [.t 24],
 oA 5 .mv [.t 28],
 oA 6 .mv [.t 29]])
 ((.seq
 (.reg [oA 30 .mv [.t 1],
 oA 0 .mv [.t 30]])
 (.reg [oA 31 .mv [.t 6],
 oA 1 .mv [.t 31]])))))))))
def f165 : AF := ⟨2, 33, [.t 4],
 (.seq
 (.reg [oA 4 .mv [.c (.sl [] 1 true)]])
 ((.seq
 (.block 0 (.loop f165_0m f165_0))
 ((.seq
 (.reg [oA 32 .mv [.t 0],
 oA 4 .mv [.t 32]])
 (.ret))))))⟩
def f166 : AF := ⟨2, 46, [.c 4 true 2, .c 5 true 2, .t 6],
 (.seq
 (.reg [oA 2 (.box 2) [.t 0],
 oA 3 (.box 2) [.t 1],
 oA 4 (.alloc [.bool false, .sl [] 1 true]) [],
 oA 5 (.alloc [.bool false, .sl [] 1 true]) [],
 oA 6 .mv [.c (.int .i64 0)]])
 ((.seq
 ((.seq
 (.reg [oA 9 (.faddr 1 1) [.t 3],
 oA 10 (.load false 1) [.t 9],
 oA 11 .len [.t 10],
 oA 12 (.bin .eql) [.t 11, .c (.int .i64 0)]])
 (.cond (.t 12)
 ((.seq
 (.reg [oA 13 (.build [.bool false, .sl [] 1 true] []) [],
 oA 14 (.build [.bool false, .sl [] 1 true] []) [],
 oN (.store 2) [.t 4, .t 13],
 oN (.store 2) [.t 5, .t 14],
 oA 6 .mv [.c (.int .i64 10)]])
 (.ret)))
 (.skip))))
 ((.seq
 (.reg [oA 16 (.faddr 1 1) [.t 2],
 oA 17 (.load false 1) [.t 16],
 oA 18 (.faddr 1 1) [.t 3],
 oA 19 (.load false 1) [.t 18],
 oA 20 (.call .pure false 172) [.t 17, .t 19],
 oA 15 .mv [.t 20],
 oA 21 (.ext 0) [.t 15],
 oA 22 (.ext 1) [.t 15],
 oA 7 .mv [.t 21],
 oA 8 .mv [.t 22]])
 ((.seq
 ((.seq
 (.reg [oA 23 (.faddr 0 1) [.t 2],
 oA 24 (.load false 1) [.t 23],
 oA 25 .mv [.t 24],
 oG 26 .mv [.t 8] 25 true,
 oG 27 .len [.t 26] 25 true,
 oG 28 (.bin .gtr) [.t 27, .c (.int .i64 0)] 25 true,
 oA 29 .pick [.t 25, .t 28, .c (.bool false)]])
 (.cond (.t 29)
 ((.seq
 (.reg [oA 30 .mv [.t 7],
 oA 31 (.lit 1 (.int .u32 0) 1 [0]) [.c (.int .u32 1)],
 oA 32 (.call .pure false 167) [.t 30, .t 31],
 oA 7 .mv [.t 32]])
 (.reg [oA 33 (.faddr 1 1) [.t 3],
 oA 34 (.load false 1) [.t 33],
 oA 35 .mv [.t 8],
 oA 36 (.call .pure false 169) [.t 34, .t 35],
 oA 8 .mv [.t 36]])))
 (.skip))))
 ((.seq
 (.reg [oA 37 (.faddr 0 1) [.t 2],
 oA 38 (.load false 1) [.t 37],
 oA 39 (.faddr 0 1) [.t 3],
 oA 40 (.load false 1) [.t 39],
 oA 41 (.eqb true) [.t 38, .t 40],
 oA 42 .mv [.t 7],
 oA 43 (.call .pure false 155) [.t 41, .t 42],
 oA 44 .mv [.t 8],
 oA 45 (.call .pure false 155) [.c (.bool false), .t 44],
 oN (.store 2) [.t 4, .t 43],
 oN (.store 2) [.t 5, .t 45],
 oA 6 .mv [.c (.int .i64 0)]])
 (.ret))))))))))⟩
def f167_0m : List Bool := [true, true, false, false, false, true, true, true, true]
def f167_0 : AC :=
 (.seq
 ((.seq
 (.reg [oA 18 .mv [.t 8],
 oA 19 .mv [.t 5],
 oA 20 (.bin .lss) [.t 18, .t 19]])
 (.cond (.t 20)
 (.skip)
 (.exit 0))))
 ((.seq
 (.block 1 ((.seq
 (.reg [oA 23 .mv [.t 0],
 oA 24 .mv [.t 8],
 oA 25 (.call .pure false 173) [.t 23, .t 24],
 oA 26 .mv [.t 1],
 oA 27 .mv [.t 8],
 oA 28 (.call .pure false 173) [.t 26, .t 27],
 oA 29 (.bin .add) [.t 25, .t 28],
 oA 30 .mv [.t 7],
 oA 31 (.bin .add) [.t 29, .t 30],
 oA 9 .mv [.t 31]])
 ((.seq
 (.reg [oA 32 .mv [.t 6],
 oA 33 .mv [.t 8],
 oA 34 .mv [.t 9],
 oA 35 (.bin .rem) [.t 34, .c (.int .u64 4294967296)],
 oA 36 (.conv .u32) [.t 35],
 oA 37 (.ias 1) [.t 32, .t 33],
 oN (.store 1) [.t 37, .t 36]])
 (.reg [oA 38 .mv [.t 9],
 oA 39 (.bin .quo) [.t 38, .c (.int .u64 4294967296)],
 oA 7 .mv [.t 39]]))))))
 (.reg [oA 21 .mv [.t 8],
 oA 22 (.bin .add) [.t 21, .c (.int .i64 1)],
 oA 8 .mv [.t 22]]))))
def f167 : AF := ⟨2, 42, [.t 4],
 (.seq
 (.reg [oA 4 .mv [.c (.sl [] 1 true)]])
 ((.seq
 (.reg [oA 10 .mv [.t 0],
 oA 11 .len [.t 10],
 oA 12 .mv [.t 1],
 oA 13 .len [.t 12],
 oA 14 .mx [.t 11, .t 13],
 oA 15 (.bin .add) [.t 14, .c (.int .i64 1)],
 oA 5 .mv [.t 15]])
 ((.seq
 (.reg [oA 16 .mv [.t 5],
 oA 17 (.mks 1 4 [.int .u32 0]) [.t 16, .t 16],
 oA 6 .mv [.t 17]])
 ((.seq
 (.reg [oA 7 .mv [.c (.int .u64 0)]])
 ((.seq
 ((.seq
 (.reg [oA 8 .mv [.c (.int .i64 0)]])
 (.block 0 (.loop f167_0m f167_0))))
 ((.seq
 (.reg [oA 40 .mv [.t 6],
 oA 41 (.call .pure false 163) [.t 40],
 oA 4 .mv [.t 41]])
 (.ret))))))))))))⟩
def f168_0m : List Bool := [true, true, false, false, false, true]
def f168_0 : AC :=
 (.seq
 ((.seq
 (.reg [oA 19 .mv [.t 5],
 oA 20 (.bin .geq) [.t 19, .c (.int .i64 0)]])
 (.cond (.t 20)
 (.skip)
 (.exit 0))))
 ((.seq
 (.block 1 ((.seq
 ((.seq
 (.reg [oA 23 .mv [.t 0],
 oA 24 .mv [.t 5],
 oA 25 (.ias 1) [.t 23, .t 24],
 oA 26 (.load false 1) [.t 25],
 oA 27 .mv [.t 1],
 oA 28 .mv [.t 5],
 oA 29 (.ias 1) [.t 27, .t 28],
 oA 30 (.load false 1) [.t 29],
 oA 31 (.bin .lss) [.t 26, .t 30]])
 (.cond (.t 31)
 ((.seq
 (.reg [oA 4 .mv [.c (.int .i64 (-1))]])
 (.ret)))
 (.skip))))
 ((.seq
 (.reg [oA 32 .mv [.t 0],
 oA 33 .mv [.t 5],
 oA 34 (.ias 1) [.t 32, .t 33],
 oA 35 (.load false 1) [.t 34],
 oA 36 .mv [.t 1],
 oA 37 .mv [.t 5],
 oA 38 (.ias 1) [.t 36, .t 37],
 oA 39 (.load false 1) [.t 38],
 oA 40 (.bin .gtr) [.t 35, .t 39]])
 (.cond (.t 40)
 ((.seq
 (.reg [oA 4 .mv [.c (.int .i64 1)]])
 (.ret)))
 (.skip)))))))
 (.reg [oA 21 .mv [.t 5],
 oA 22 (.bin .sub) [.t 21, .c (.int .i64 1)],
 oA 5 .mv [.t 22]]))))
def f168 : AF := ⟨2, 41, [.t 4],
 (.seq
 (.reg [oA 4 .mv [.c (.int .i64 0)]])
 ((.seq
 ((.seq
 (.reg [oA 6 .mv [.t 0],
 oA 7 .len [.t 6],
 oA 8 .mv [.t 1],
 oA 9 .len [.t 8],
 oA 10 (.bin .lss) [.t 7, .t 9]])
 (.cond (.t 10)
 ((.seq
 (.reg [oA 4 .mv [.c (.int .i64 (-1))]])
 (.ret)))
 (.skip))))
 ((.seq
 ((.seq
 (.reg [oA 11 .mv [.t 0],
 oA 12 .len [.t 11],
 oA 13 .mv [.t 1],
 oA 14 .len [.t 13],
 oA 15 (.bin .gtr) [.t 12, .t 14]])
 (.cond (.t 15)
 ((.seq
 (.reg [oA 4 .mv [.c (.int .i64 1)]])
 (.ret)))
 (.skip))))
 ((.seq
 ((.seq
 (.reg [oA 16 .mv [.t 0],
 oA 17 .len [.t 16],
 oA 18 (.bin .sub) [.t 17, .c (.int .i64 1)],
 oA 5 .mv [.t 18]])
 (.block 0 (.loop f168_0m f168_0))))
 ((.seq
 (.reg [oA 4 .mv [.c (.int .i64 0)]])
 (.ret))))))))))⟩
def f169_0m : List Bool := [true, true, false, false, false, true, true, true]
def f169_0 : AC :=
 (.seq
 ((.seq
 (.reg [oA 12 .mv [.t 7],
 oA 13 .mv [.t 0],
 oA 14 .len [.t 13],
 oA 15 (.bin .lss) [.t 12, .t 14]])
 (.cond (.t 15)
 (.skip)
 (.exit 0))))
 ((.seq
 (.block 1 ((.seq
 (.reg [oA 18 .mv [.t 0],
 oA 19 .mv [.t 7],
 oA 20 (.ias 1) [.t 18, .t 19],
 oA 21 (.load false 1) [.t 20],
 oA 22 (.conv .u64) [.t 21],
 oA 23 (.bin .add) [.c (.int .u64 4294967296), .t 22],
 oA 24 .mv [.t 1],
 oA 25 .mv [.t 7],
 oA 26 (.call .pure true 173) [.t 24, .t 25],
 oA 27 (.bin .sub) [.t 23, .t 26],
 oA 28 .mv [.t 6],
 oA 29 (.bin .sub) [.t 27, .t 28],
 oA 8 .mv [.t 29]])
 ((.seq
 (.reg [oA 30 .mv [.t 5],
 oA 31 .mv [.t 7],
 oA 32 .mv [.t 8],
 oA 33 (.bin .rem) [.t 32, .c (.int .u64 4294967296)],
 oA 34 (.conv .u32) [.t 33],
 oA 35 (.ias 1) [.t 30, .t 31],
 oN (.store 1) [.t 35, .t 34]])
 (.reg [oA 36 .mv [.t 8],
 oA 37 (.bin .quo) [.t 36, .c (.int .u64 4294967296)],
 oA 38 (.bin .sub) [.c (.int .u64 1), .t 37],
 oA 6 .mv [.t 38]]))))))
 (.reg [oA 16 .mv [.t 7],
 oA 17 (.bin .add) [.t 16, .c (.int .i64 1)],
 oA 7 .mv [.t 17]]))))
def f169 : AF := ⟨2, 41, [.t 4],
 (.seq
 (.reg [oA 4 .mv [.c (.sl [] 1 true)]])
 ((.seq
 (.reg [oA 9 .mv [.t 0],
 oA 10 .len [.t 9],
 oA 11 (.mks 1 4 [.int .u32 0]) [.t 10, .t 10],
 oA 5 .mv [.t 11]])
 ((.seq
 (.reg [oA 6 .mv [.c (.int .u64 0)]])
 ((.seq
 ((.seq
 (.reg [oA 7 .mv [.c (.int .i64 0)]])
 (.block 0 (.loop f169_0m f169_0))))
 ((.seq
 (.reg [oA 39 .mv [.t 5],
 oA 40 (.call .pure false 163) [.t 39],
 oA 4 .mv [.t 40]])
 (.ret))))))))))⟩
def f170_0m : List Bool := [true, true]
def f170_0 : AC :=
 (.seq
 ((.seq
 (.reg [oA 6 .mv [.t 1],
 oA 7 (.bin .gtr) [.t 6, .c (.int .u64 0)]])
 (.cond (.t 7)
 (.skip)
 (.exit 0))))
 (.block 1 ((.seq
 (.reg [oA 8 .mv [.t 0],
 oA 9 .mv [.t 1],
 oA 10 (.bin .rem) [.t 8, .t 9],
 oA 5 .mv [.t 10]])
 ((.seq
 (.reg [oA 11 .mv [.t 1],
 oA 0 .mv [.t 11]])
 (.reg [oA 12 .mv [.t 5],
 oA 1 .mv [.t 12]])))))))
def f170 : AF := ⟨2, 14, [.t 4],
 (.seq
 (.reg [oA 4 .mv [.c (.int .u64 0)]])
 ((.seq
 (.block 0 (.loop f170_0m f170_0))
 ((.seq
 (.reg [oA 13 .mv [.t 0],
 oA 4 .mv [.t 13]])
 (.ret))))))⟩
def f171 : AF := ⟨1, 9, [.t 2],
 (.seq
 (.reg [oA 2 .mv [.c (.int .u64 0)]])
 ((.seq
 (.reg [oA 3 .mv [.t 0],
 oA 4 (.call .pure false 173) [.t 3, .c (.int .i64 1)],
 oA 5 (.bin .mul) [.t 4, .c (.int .u64 4294967296)],
 oA 6 .mv [.t 0],
 oA 7 (.call .pure false 173) [.t 6, .c (.int .i64 0)],
 oA 8 (.bin .add) [.t 5, .t 7],
 oA 2 .mv [.t 8]])
 (.ret))))⟩
def f172_0m : List Bool := [false, false, false, false, false, false, false, false, true, true, true, true, true, true]
def f172_0 : AC :=
 (.seq
 ((.seq
 (.reg [oA 72 .mv [.t 13],
 oA 73 (.bin .geq) [.t 72, .c (.int .i64 0)]])
 (.cond (.t 73)
 (.skip)
 (.exit 0))))
 ((.seq
 (.block 1 ((.seq
 (.reg [oA 76 .mv [.t 11],
 oA 77 .mv [.t 13],
 oA 78 .mv [.t 13],
 oA 79 .mv [.t 8],
 oA 80 (.bin .add) [.t 78, .t 79],
 oA 81 (.bin .add) [.t 80, .c (.int .i64 1)],
 oA 82 (.slc 1 true true false) [.t 76, .t 77, .t 81],
 oA 14 .mv [.t 82]])
 ((.seq
 (.reg [oA 83 .mv [.t 14],
 oA 84 .mv [.t 10],
 oA 85 (.call .pure false 175) [.t 83, .t 84],
 oA 15 .mv [.t 85]])
 ((.seq
 ((.seq
 (.reg [oA 86 .mv [.t 14],
 oA 87 .mv [.t 10],
 oA 88 .mv [.t 15],
 oA 89 (.call .sh false 176) [.t 86, .t 87, .t 88]])
 (.cond (.t 89)
 ((.seq
 (.reg [oA 90 .mv [.t 15],
 oA 91 (.bin .sub) [.t 90, .c (.int .u64 1)],
 oA 15 .mv [.t 91]])
 (.reg [oA 92 .mv [.t 14],
 oA 93 .mv [.t 10],
 oA 94 (.call .sh false 177) [.t 92, .t 93]])))
 (.skip))))
 (.reg [oA 95 .mv [.t 12],
 oA 96 .mv [.t 13],
 oA 97 .mv [.t 15],
 oA 98 (.conv .u32) [.t 97],
 oA 99 (.ias 1) [.t 95, .t 96],
 oN (.store 1) [.t 99, .t 98]]))))))))
 (.reg [oA 74 .mv [.t 13],
 oA 75 (.bin .sub) [.t 74, .c (.int .i64 1)],
 oA 13 .mv [.t 75]]))))
def f172 : AF := ⟨2, 110, [.t 4, .t 5],
 (.seq
 (.reg [oA 4 .mv [.c (.sl [] 1 true)],
 oA 5 .mv [.c (.sl [] 1 true)]])
 ((.seq
 ((.seq
 (.reg [oA 18 .mv [.t 0],
 oA 19 .mv [.t 1],
 oA 20 (.call .pure false 168) [.t 18, .t 19],
 oA 21 (.bin .lss) [.t 20, .c (.int .i64 0)]])
 (.cond (.t 21)
 ((.seq
 (.reg [oA 22 .mv [.t 0],
 oA 4 .mv [.c (.sl [] 1 true)],
 oA 5 .mv [.t 22]])
 (.ret)))
 (.skip))))
 ((.seq
 ((.seq
 (.reg [oA 23 .mv [.t 1],
 oA 24 .len [.t 23],
 oA 25 (.bin .eql) [.t 24, .c (.int .i64 1)]])
 (.cond (.t 25)
 ((.seq
 (.reg [oA 27 .mv [.t 0],
 oA 28 .mv [.t 1],
 oA 29 (.ias 1) [.t 28, .c (.int .i64 0)],
 oA 30 (.load false 1) [.t 29],
 oA 31 (.conv .u64) [.t 30],
 oA 32 (.call .pure false 174) [.t 27, .t 31],
 oA 26 .mv [.t 32],
 oA 33 (.ext 0) [.t 26],
 oA 34 (.ext 1) [.t 26],
 oA 6 .mv [.t 33],
 oA 7 .mv [.t 34]])
 ((.seq
 (.reg [oA 35 .mv [.t 6],
 oA 36 .mv [.t 7],
 oA 37 (.call .pure false 156) [.t 36],
 oA 4 .mv [.t 35],
 oA 5 .mv [.t 37]])
 (.ret)))))
 (.skip))))
 ((.seq
 (.reg [oA 38 .mv [.t 1],
 oA 39 .len [.t 38],
 oA 8 .mv [.t 39]])
 ((.seq
 (.reg [oA 40 .mv [.t 1],
 oA 41 .mv [.t 8],
 oA 42 (.bin .sub) [.t 41, .c (.int .i64 1)],
 oA 43 (.ias 1) [.t 40, .t 42],
 oA 44 (.load false 1) [.t 43],
 oA 45 (.conv .u64) [.t 44],
 oA 46 (.bin .add) [.t 45, .c (.int .u64 1)],
 oA 47 (.bin .quo) [.c (.int .u64 4294967296), .t 46],
 oA 9 .mv [.t 47]])
 ((.seq
 (.reg [oA 48 .mv [.t 1],
 oA 49 .mv [.t 9],
 oA 50 (.call .pure false 156) [.t 49],
 oA 51 (.call .pure false 162) [.t 48, .t 50],
 oA 10 .mv [.t 51]])
 ((.seq
 (.reg [oA 52 .mv [.t 0],
 oA 53 .len [.t 52],
 oA 54 (.bin .add) [.t 53, .c (.int .i64 1)],
 oA 55 (.mks 1 4 [.int .u32 0]) [.t 54, .t 54],
 oA 11 .mv [.t 55]])
 ((.seq
 (.reg [oA 56 .mv [.t 11],
 oA 57 .mv [.t 0],
 oA 58 .mv [.t 9],
 oA 59 (.call .pure false 156) [.t 58],
 oA 60 (.call .pure false 162) [.t 57, .t 59],
 oA 61 (.cpy 1) [.t 56, .t 60]])
 ((.seq
 (.reg [oA 62 .mv [.t 0],
 oA 63 .len [.t 62],
 oA 64 .mv [.t 8],
 oA 65 (.bin .sub) [.t 63, .t 64],
 oA 66 (.bin .add) [.t 65, .c (.int .i64 1)],
 oA 67 (.mks 1 4 [.int .u32 0]) [.t 66, .t 66],
 oA 12 .mv [.t 67]])
 ((.seq
 ((.seq
 (.reg [oA 68 .mv [.t 0],
 oA 69 .len [.t 68],
 oA 70 .mv [.t 8],
 oA 71 (.bin .sub) [.t 69, .t 70],
 oA 13 .mv [.t 71]])
 (.block 0 (.loop f172_0m f172_0))))
 ((.seq
 (.reg [oA 101 .mv [.t 11],
 oA 102 (.call .pure false 163) [.t 101],
 oA 103 .mv [.t 9],
 oA 104 (.call .pure false 174) [.t 102, .t 103],
 oA 100 .mv [.t 104],
 oA 105 (.ext 0) [.t 100],
 oA 106 (.ext 1) [.t 100],
 oA 16 .mv [.t 105],
 oA 17 .mv [.t 106]])
 ((.seq
 (.reg [oA 107 .mv [.t 12],
 oA 108 (.call .pure false 163) [.t 107],
 oA 109 .mv [.t 16],
 oA 4 .mv [.t 108],
 oA 5 .mv [.t 109]])
 (.ret))))))))))))))))))))))))⟩
def f173 : AF := ⟨2, 14, [.t 4],
 (.seq
 (.reg [oA 4 .mv [.c (.int .u64 0)]])
 ((.seq
 ((.seq
 (.reg [oA 5 .mv [.t 1],
 oA 6 .mv [.t 0],
 oA 7 .len [.t 6],
 oA 8 (.bin .lss) [.t 5, .t 7]])
 (.cond (.t 8)
 ((.seq
 (.reg [oA 9 .mv [.t 0],
 oA 10 .mv [.t 1],
 oA 11 (.ias 1) [.t 9, .t 10],
 oA 12 (.load false 1) [.t 11],
 oA 13 (.conv .u64) [.t 12],
 oA 4 .mv [.t 13]])
 (.ret)))
 (.skip))))
 ((.seq
 (.reg [oA 4 .mv [.c (.int .u64 0)]])
 (.ret))))))⟩
def f174_0m : List Bool := [true, true, false, false, false, false, true, true, true]
def f174_0 : AC :=
 (.seq
 ((.seq
 (.reg [oA 16 .mv [.t 8],
 oA 17 (.bin .geq) [.t 16, .c (.int .i64 0)]])
 (.cond (.t 17)
 (.skip)
 (.exit 0))))
 ((.seq
 (.block 1 ((.seq
 (.reg [oA 20 .mv [.t 7],
 oA 21 (.bin .mul) [.t 20, .c (.int .u64 4294967296)],
 oA 22 .mv [.t 0],
 oA 23 .mv [.t 8],
 oA 24 (.ias 1) [.t 22, .t 23],
 oA 25 (.load false 1) [.t 24],
 oA 26 (.conv .u64) [.t 25],
 oA 27 (.bin .add) [.t 21, .t 26],
 oA 9 .mv [.t 27]])
 ((.seq
 (.reg [oA 28 .mv [.t 6],
 oA 29 .mv [.t 8],
 oA 30 .mv [.t 9],
 oA 31 .mv [.t 1],
 oA 32 (.bin .quo) [.t 30, .t 31],
 oA 33 (.conv .u32) [.t 32],
 oA 34 (.ias 1) [.t 28, .t 29],
 oN (.store 1) [.t 34, .t 33]])
 (.reg [oA 35 .mv [.t 9],
 oA 36 .mv [.t 1],
 oA 37 (.bin .rem) [.t 35, .t 36],
 oA 7 .mv [.t 37]]))))))
 (.reg [oA 18 .mv [.t 8],
 oA 19 (.bin .sub) [.t 18, .c (.int .i64 1)],
 oA 8 .mv [.t 19]]))))
def f174 : AF := ⟨2, 41, [.t 4, .t 5],
 (.seq
 (.reg [oA 4 .mv [.c (.sl [] 1 true)],
 oA 5 .mv [.c (.int .u64 0)]])
 ((.seq
 (.reg [oA 10 .mv [.t 0],
 oA 11 .len [.t 10],
 oA 12 (.mks 1 4 [.int .u32 0]) [.t 11, .t 11],
 oA 6 .mv [.t 12]])
 ((.seq
 (.reg [oA 7 .mv [.c (.int .u64 0)]])
 ((.seq
 ((.seq
 (.reg [oA 13 .mv [.t 0],
 oA 14 .len [.t 13],
 oA 15 (.bin .sub) [.t 14, .c (.int .i64 1)],
 oA 8 .mv [.t 15]])
 (.block 0 (.loop f174_0m f174_0))))
 ((.seq
 (.reg [oA 38 .mv [.t 6],
 oA 39 (.call .pure false 163) [.t 38],
 oA 40 .mv [.t 7],
 oA 4 .mv [.t 39],
 oA 5 .mv [.t 40]])
 (.ret))))))))))⟩
def f175_0m : List Bool := [true, true, false, false, false, true, false, true, true]
def f175_0 : AC :=
 (.seq
 ((.seq
 (.reg [oA 40 .mv [.t 7],
 oA 41 (.bin .geq) [.t 40, .c (.int .u64 4294967296)],
 oA 42 .mv [.t 41],
 oG 43 .mv [.t 7] 42 false,
 oG 44 .mv [.t 1] 42 false,
 oG 45 .mv [.t 5] 42 false,
 oG 46 (.bin .sub) [.t 45, .c (.int .i64 2)] 42 false,
 oG 47 (.ias 1) [.t 44, .t 46] 42 false,
 oG 48 (.load false 1) [.t 47] 42 false,
 oG 49 (.conv .u64) [.t 48] 42 false,
 oG 50 (.bin .mul) [.t 43, .t 49] 42 false,
 oG 51 .mv [.t 8] 42 false,
 oG 52 (.bin .mul) [.t 51, .c (.int .u64 4294967296)] 42 false,
 oG 53 .mv [.t 0] 42 false,
 oG 54 .mv [.t 5] 42 false,
 oG 55 (.bin .sub) [.t 54, .c (.int .i64 2)] 42 false,
 oG 56 (.ias 1) [.t 53, .t 55] 42 false,
 oG 57 (.load false 1) [.t 56] 42 false,
 oG 58 (.conv .u64) [.t 57] 42 false,
 oG 59 (.bin .add) [.t 52, .t 58] 42 false,
 oG 60 (.bin .gtr) [.t 50, .t 59] 42 false,
 oA 61 .pick [.t 42, .c (.bool true), .t 60]])
 (.cond (.t 61)
 (.skip)
 (.exit 0))))
 (.block 1 ((.seq
 (.reg [oA 62 .mv [.t 7],
 oA 63 (.bin .sub) [.t 62, .c (.int .u64 1)],
 oA 7 .mv [.t 63]])
 ((.seq
 (.reg [oA 64 .mv [.t 8],
 oA 65 .mv [.t 1],
 oA 66 .mv [.t 5],
 oA 67 (.bin .sub) [.t 66, .c (.int .i64 1)],
 oA 68 (.ias 1) [.t 65, .t 67],
 oA 69 (.load false 1) [.t 68],
 oA 70 (.conv .u64) [.t 69],
 oA 71 (.bin .add) [.t 64, .t 70],
 oA 8 .mv [.t 71]])
 ((.seq
 (.reg [oA 72 .mv [.t 8],
 oA 73 (.bin .geq) [.t 72, .c (.int .u64 4294967296)]])
 (.cond (.t 73)
 (.exit 0)
 (.skip))))))))))
def f175 : AF := ⟨2, 75, [.t 4],
 (.seq
 (.reg [oA 4 .mv [.c (.int .u64 0)]])
 ((.seq
 (.reg [oA 9 .mv [.t 1],
 oA 10 .len [.t 9],
 oA 5 .mv [.t 10]])
 ((.seq
 (.reg [oA 11 .mv [.t 0],
 oA 12 .mv [.t 5],
 oA 13 (.ias 1) [.t 11, .t 12],
 oA 14 (.load false 1) [.t 13],
 oA 15 (.conv .u64) [.t 14],
 oA 16 (.bin .mul) [.t 15, .c (.int .u64 4294967296)],
 oA 17 .mv [.t 0],
 oA 18 .mv [.t 5],
 oA 19 (.bin .sub) [.t 18, .c (.int .i64 1)],
 oA 20 (.ias 1) [.t 17, .t 19],
 oA 21 (.load false 1) [.t 20],
 oA 22 (.conv .u64) [.t 21],
 oA 23 (.bin .add) [.t 16, .t 22],
 oA 6 .mv [.t 23]])
 ((.seq
 (.reg [oA 24 .mv [.t 6],
 oA 25 .mv [.t 1],
 oA 26 .mv [.t 5],
 oA 27 (.bin .sub) [.t 26, .c (.int .i64 1)],
 oA 28 (.ias 1) [.t 25, .t 27],
 oA 29 (.load false 1) [.t 28],
 oA 30 (.conv .u64) [.t 29],
 oA 31 (.bin .quo) [.t 24, .t 30],
 oA 7 .mv [.t 31]])
 ((.seq
 (.reg [oA 32 .mv [.t 6],
 oA 33 .mv [.t 1],
 oA 34 .mv [.t 5],
 oA 35 (.bin .sub) [.t 34, .c (.int .i64 1)],
 oA 36 (.ias 1) [.t 33, .t 35],
 oA 37 (.load false 1) [.t 36],
 oA 38 (.conv .u64) [.t 37],
 oA 39 (.bin .rem) [.t 32, .t 38],
 oA 8 .mv [.t 39]])
 ((.seq
 (.block 0 (.loop f175_0m f175_0))
 ((.seq
 (.reg [oA 74 .mv [.t 7],
 oA 4 .mv [.t 74]])
 (.ret))))))))))))))⟩
def f176_0m : List Bool := [true, true, true, false, false, false, false, true, true, true]
def f176_0 : AC :=
 (.seq
 ((.seq
 (.reg [oA 12 .mv [.t 9],
 oA 13 .mv [.t 0],
 oA 14 .len [.t 13],
 oA 15 (.bin .lss) [.t 12, .t 14]])
 (.cond (.t 15)
 (.skip)
 (.exit 0))))
 ((.seq
 (.block 1 ((.seq
 (.reg [oA 18 .mv [.t 2],
 oA 19 .mv [.t 1],
 oA 20 .mv [.t 9],
 oA 21 (.call .pure false 173) [.t 19, .t 20],
 oA 22 (.bin .mul) [.t 18, .t 21],
 oA 23 .mv [.t 7],
 oA 24 (.bin .add) [.t 22, .t 23],
 oA 10 .mv [.t 24]])
 ((.seq
 (.reg [oA 25 .mv [.t 10],
 oA 26 (.bin .quo) [.t 25, .c (.int .u64 4294967296)],
 oA 7 .mv [.t 26]])
 ((.seq
 (.reg [oA 27 .mv [.t 0],
 oA 28 .mv [.t 9],
 oA 29 (.ias 1) [.t 27, .t 28],
 oA 30 (.load false 1) [.t 29],
 oA 31 (.conv .u64) [.t 30],
 oA 32 (.bin .add) [.c (.int .u64 4294967296), .t 31],
 oA 33 .mv [.t 10],
 oA 34 (.bin .rem) [.t 33, .c (.int .u64 4294967296)],
 oA 35 (.bin .sub) [.t 32, .t 34],
 oA 36 .mv [.t 8],
 oA 37 (.bin .sub) [.t 35, .t 36],
 oA 11 .mv [.t 37]])
 ((.seq
 (.reg [oA 38 .mv [.t 0],
 oA 39 .mv [.t 9],
 oA 40 .mv [.t 11],
 oA 41 (.bin .rem) [.t 40, .c (.int .u64 4294967296)],
 oA 42 (.conv .u32) [.t 41],
 oA 43 (.ias 1) [.t 38, .t 39],
 oN (.store 1) [.t 43, .t 42]])
 (.reg [oA 44 .mv [.t 11],
 oA 45 (.bin .quo) [.t 44, .c (.int .u64 4294967296)],
 oA 46 (.bin .sub) [.c (.int .u64 1), .t 45],
 oA 8 .mv [.t 46]]))))))))))
 (.reg [oA 16 .mv [.t 9],
 oA 17 (.bin .add) [.t 16, .c (.int .i64 1)],
 oA 9 .mv [.t 17]]))))
def f176 : AF := ⟨3, 49, [.t 6],
 (.seq
 (.reg [oA 6 .mv [.c (.bool false)]])
 ((.seq
 (.reg [oA 7 .mv [.c (.int .u64 0)]])
 ((.seq
 (.reg [oA 8 .mv [.c (.int .u64 0)]])
 ((.seq
 ((.seq
 (.reg [oA 9 .mv [.c (.int .i64 0)]])
 (.block 0 (.loop f176_0m f176_0))))
 ((.seq
 (.reg [oA 47 .mv [.t 8],
 oA 48 (.bin .eql) [.t 47, .c (.int .u64 1)],
 oA 6 .mv [.t 48]])
 (.ret))))))))))⟩
def f177_0m : List Bool := [true, true, false, false, true, true]
def f177_0 : AC :=
 (.seq
 ((.seq
 (.reg [oA 7 .mv [.t 5],
 oA 8 .mv [.t 0],
 oA 9 .len [.t 8],
 oA 10 (.bin .lss) [.t 7, .t 9]])
 (.cond (.t 10)
 (.skip)
 (.exit 0))))
 ((.seq
 (.block 1 ((.seq
 (.reg [oA 13 .mv [.t 0],
 oA 14 .mv [.t 5],
 oA 15 (.ias 1) [.t 13, .t 14],
 oA 16 (.load false 1) [.t 15],
 oA 17 (.conv .u64) [.t 16],
 oA 18 .mv [.t 1],
 oA 19 .mv [.t 5],
 oA 20 (.call .pure true 173) [.t 18, .t 19],
 oA 21 (.bin .add) [.t 17, .t 20],
 oA 22 .mv [.t 4],
 oA 23 (.bin .add) [.t 21, .t 22],
 oA 6 .mv [.t 23]])
 ((.seq
 (.reg [oA 24 .mv [.t 0],
 oA 25 .mv [.t 5],
 oA 26 .mv [.t 6],
 oA 27 (.bin .rem) [.t 26, .c (.int .u64 4294967296)],
 oA 28 (.conv .u32) [.t 27],
 oA 29 (.ias 1) [.t 24, .t 25],
 oN (.store 1) [.t 29, .t 28]])
 (.reg [oA 30 .mv [.t 6],
 oA 31 (.bin .quo) [.t 30, .c (.int .u64 4294967296)],
 oA 4 .mv [.t 31]]))))))
 (.reg [oA 11 .mv [.t 5],
 oA 12 (.bin .add) [.t 11, .c (.int .i64 1)],
 oA 5 .mv [.t 12]]))))
def f177 : AF := ⟨2, 32, [],
 (.seq
 (.reg [oA 4 .mv [.c (.int .u64 0)]])
 ((.seq
 (.reg [oA 5 .mv [.c (.int .i64 0)]])
 (.block 0 (.loop f177_0m f177_0)))))⟩
def tab : Prog := fun n => match n with
  | 127 => some f127
  | 8 => some f8
  | 9 => some f9
  | 10 => some f10
  | 13 => some f13
  | 129 => some f129
  | 27 => some f27
  | 28 => some f28
  | 130 => some f130
  | 29 => some f29
  | 131 => some f131
  | 32 => some f32
  | 14 => some f14
  | 11 => some f11
  | 132 => some f132
  | 22 => some f22
  | 133 => some f133
  | 19 => some f19
  | 134 => some f134
  | 20 => some f20
  | 135 => some f135
  | 21 => some f21
  | 136 => some f136
  | 23 => some f23
  | 137 => some f137
  | 24 => some f24
  | 138 => some f138
  | 34 => some f34
  | 15 => some f15
  | 17 => some f17
  | 139 => some f139
  | 140 => some f140
  | 45 => some f45
  | 41 => some f41
  | 141 => some f141
  | 142 => some f142
  | 143 => some f143
  | 36 => some f36
  | 37 => some f37
  | 38 => some f38
  | 42 => some f42
  | 43 => some f43
  | 25 => some f25
  | 40 => some f40
  | 39 => some f39
  | 52 => some f52
  | 53 => some f53
  | 54 => some f54
  | 55 => some f55
  | 56 => some f56
  | 57 => some f57
  | 58 => some f58
  | 59 => some f59
  | 144 => some f144
  | 145 => some f145
  | 146 => some f146
  | 147 => some f147
  | 148 => some f148
  | 49 => some f49
  | 50 => some f50
  | 51 => some f51
  | 71 => some f71
  | 72 => some f72
  | 73 => some f73
  | 74 => some f74
  | 75 => some f75
  | 76 => some f76
  | 77 => some f77
  | 149 => some f149
  | 150 => some f150
  | 151 => some f151
  | 152 => some f152
  | 153 => some f153
  | 154 => some f154
  | 60 => some f60
  | 61 => some f61
  | 62 => some f62
  | 63 => some f63
  | 64 => some f64
  | 65 => some f65
  | 66 => some f66
  | 67 => some f67
  | 68 => some f68
  | 69 => some f69
  | 70 => some f70
  | 83 => some f83
  | 84 => some f84
  | 85 => some f85
  | 86 => some f86
  | 87 => some f87
  | 88 => some f88
  | 89 => some f89
  | 155 => some f155
  | 156 => some f156
  | 157 => some f157
  | 158 => some f158
  | 159 => some f159
  | 160 => some f160
  | 161 => some f161
  | 162 => some f162
  | 78 => some f78
  | 79 => some f79
  | 80 => some f80
  | 81 => some f81
  | 82 => some f82
  | 91 => some f91
  | 93 => some f93
  | 94 => some f94
  | 95 => some f95
  | 96 => some f96
  | 97 => some f97
  | 163 => some f163
  | 164 => some f164
  | 165 => some f165
  | 166 => some f166
  | 90 => some f90
  | 98 => some f98
  | 99 => some f99
  | 100 => some f100
  | 101 => some f101
  | 102 => some f102
  | 103 => some f103
  | 104 => some f104
  | 105 => some f105
  | 106 => some f106
  | 167 => some f167
  | 168 => some f168
  | 169 => some f169
  | 170 => some f170
  | 171 => some f171
  | 172 => some f172
  | 107 => some f107
  | 108 => some f108
  | 173 => some f173
  | 174 => some f174
  | 175 => some f175
  | 176 => some f176
  | 177 => some f177
  | _ => none
theorem tab_127 : tab 127 = some f127 := rfl
theorem tab_9 : tab 9 = some f9 := rfl
theorem tab_10 : tab 10 = some f10 := rfl
theorem tab_13 : tab 13 = some f13 := rfl
theorem tab_129 : tab 129 = some f129 := rfl
theorem tab_27 : tab 27 = some f27 := rfl
theorem tab_28 : tab 28 = some f28 := rfl
theorem tab_130 : tab 130 = some f130 := rfl
theorem tab_29 : tab 29 = some f29 := rfl
theorem tab_131 : tab 131 = some f131 := rfl
theorem tab_32 : tab 32 = some f32 := rfl
theorem tab_14 : tab 14 = some f14 := rfl
theorem tab_11 : tab 11 = some f11 := rfl
theorem tab_132 : tab 132 = some f132 := rfl
theorem tab_22 : tab 22 = some f22 := rfl
theorem tab_133 : tab 133 = some f133 := rfl
theorem tab_19 : tab 19 = some f19 := rfl
theorem tab_23 : tab 23 = some f23 := rfl
theorem tab_137 : tab 137 = some f137 := rfl
theorem tab_24 : tab 24 = some f24 := rfl
theorem tab_138 : tab 138 = some f138 := rfl
theorem tab_15 : tab 15 = some f15 := rfl
theorem tab_17 : tab 17 = some f17 := rfl
theorem tab_139 : tab 139 = some f139 := rfl
theorem tab_140 : tab 140 = some f140 := rfl
theorem tab_45 : tab 45 = some f45 := rfl
theorem tab_141 : tab 141 = some f141 := rfl
theorem tab_143 : tab 143 = some f143 := rfl
theorem tab_36 : tab 36 = some f36 := rfl
theorem tab_37 : tab 37 = some f37 := rfl
theorem tab_38 : tab 38 = some f38 := rfl
theorem tab_42 : tab 42 = some f42 := rfl
theorem tab_43 : tab 43 = some f43 := rfl
theorem tab_25 : tab 25 = some f25 := rfl
theorem tab_40 : tab 40 = some f40 := rfl
theorem tab_39 : tab 39 = some f39 := rfl
theorem tab_52 : tab 52 = some f52 := rfl
theorem tab_53 : tab 53 = some f53 := rfl
theorem tab_54 : tab 54 = some f54 := rfl
theorem tab_55 : tab 55 = some f55 := rfl
theorem tab_56 : tab 56 = some f56 := rfl
theorem tab_57 : tab 57 = some f57 := rfl
theorem tab_58 : tab 58 = some f58 := rfl
theorem tab_59 : tab 59 = some f59 := rfl
theorem tab_144 : tab 144 = some f144 := rfl
theorem tab_145 : tab 145 = some f145 := rfl
theorem tab_146 : tab 146 = some f146 := rfl
theorem tab_147 : tab 147 = some f147 := rfl
theorem tab_148 : tab 148 = some f148 := rfl
theorem tab_49 : tab 49 = some f49 := rfl
theorem tab_50 : tab 50 = some f50 := rfl
theorem tab_51 : tab 51 = some f51 := rfl
theorem tab_71 : tab 71 = some f71 := rfl
theorem tab_72 : tab 72 = some f72 := rfl
theorem tab_73 : tab 73 = some f73 := rfl
theorem tab_74 : tab 74 = some f74 := rfl
theorem tab_75 : tab 75 = some f75 := rfl
theorem tab_76 : tab 76 = some f76 := rfl
theorem tab_77 : tab 77 = some f77 := rfl
theorem tab_149 : tab 149 = some f149 := rfl
theorem tab_150 : tab 150 = some f150 := rfl
theorem tab_151 : tab 151 = some f151 := rfl
theorem tab_152 : tab 152 = some f152 := rfl
theorem tab_153 : tab 153 = some f153 := rfl
theorem tab_154 : tab 154 = some f154 := rfl
theorem tab_60 : tab 60 = some f60 := rfl
theorem tab_68 : tab 68 = some f68 := rfl
theorem tab_69 : tab 69 = some f69 := rfl
theorem tab_70 : tab 70 = some f70 := rfl
theorem tab_83 : tab 83 = some f83 := rfl
theorem tab_84 : tab 84 = some f84 := rfl
theorem tab_85 : tab 85 = some f85 := rfl
theorem tab_86 : tab 86 = some f86 := rfl
theorem tab_87 : tab 87 = some f87 := rfl
theorem tab_88 : tab 88 = some f88 := rfl
theorem tab_89 : tab 89 = some f89 := rfl
theorem tab_155 : tab 155 = some f155 := rfl
theorem tab_156 : tab 156 = some f156 := rfl
theorem tab_157 : tab 157 = some f157 := rfl
theorem tab_158 : tab 158 = some f158 := rfl
theorem tab_159 : tab 159 = some f159 := rfl
theorem tab_160 : tab 160 = some f160 := rfl
theorem tab_161 : tab 161 = some f161 := rfl
theorem tab_162 : tab 162 = some f162 := rfl
theorem tab_91 : tab 91 = some f91 := rfl
theorem tab_93 : tab 93 = some f93 := rfl
theorem tab_94 : tab 94 = some f94 := rfl
theorem tab_95 : tab 95 = some f95 := rfl
theorem tab_96 : tab 96 = some f96 := rfl
theorem tab_97 : tab 97 = some f97 := rfl
theorem tab_163 : tab 163 = some f163 := rfl
theorem tab_164 : tab 164 = some f164 := rfl
theorem tab_165 : tab 165 = some f165 := rfl
theorem tab_166 : tab 166 = some f166 := rfl
theorem tab_98 : tab 98 = some f98 := rfl
theorem tab_99 : tab 99 = some f99 := rfl
theorem tab_100 : tab 100 = some f100 := rfl
theorem tab_101 : tab 101 = some f101 := rfl
theorem tab_102 : tab 102 = some f102 := rfl
theorem tab_103 : tab 103 = some f103 := rfl
theorem tab_104 : tab 104 = some f104 := rfl
theorem tab_105 : tab 105 = some f105 := rfl
theorem tab_106 : tab 106 = some f106 := rfl
theorem tab_167 : tab 167 = some f167 := rfl
theorem tab_168 : tab 168 = some f168 := rfl
theorem tab_169 : tab 169 = some f169 := rfl
theorem tab_170 : tab 170 = some f170 := rfl
theorem tab_171 : tab 171 = some f171 := rfl
theorem tab_172 : tab 172 = some f172 := rfl
theorem tab_107 : tab 107 = some f107 := rfl
theorem tab_108 : tab 108 = some f108 := rfl
theorem tab_173 : tab 173 = some f173 := rfl
theorem tab_174 : tab 174 = some f174 := rfl
theorem tab_175 : tab 175 = some f175 := rfl
theorem tab_176 : tab 176 = some f176 := rfl
theorem tab_177 : tab 177 = some f177 := rfl
end Go.AVM
namespace Go.AVM
abbrev FQ := Flow → St → Prop
def wpE (R : RunF) (c : AC) (s : St) (Q : FQ) : Prop := ∃ fl s', exec R iter c s = some (fl, s') ∧ Q fl s'
def wpR (R : RunF) (os : List ROp) (s : St) (Q : FQ) : Prop := ∃ s', runOps R os s = some s' ∧ Q .nrm s'
def thenQ (k : St → Prop) (Q : FQ) : FQ := fun fl s => match fl with | .nrm => k s | .ex i => Q (.ex i) s | .ret => Q .ret s
def blockQ (id : Nat) (Q : FQ) : FQ := fun fl s => match fl with | .nrm => Q .nrm s | .ex i => if i = id then Q .nrm s else Q (.ex i) s | .ret => Q .ret s
def condQ (v : AV) (p q : Prop) : Prop := match v with | .bool b => (b = true → p) ∧ (b = false → q) | _ => False
@[simp] theorem thenQ_nrm (k : St → Prop) (Q : FQ) (s : St) : thenQ k Q .nrm s = k s := rfl
@[simp] theorem thenQ_ex (k : St → Prop) (Q : FQ) (i : Nat) (s : St) : thenQ k Q (.ex i) s = Q (.ex i) s := rfl
@[simp] theorem thenQ_ret (k : St → Prop) (Q : FQ) (s : St) : thenQ k Q .ret s = Q .ret s := rfl
@[simp] theorem blockQ_nrm (id : Nat) (Q : FQ) (s : St) : blockQ id Q .nrm s = Q .nrm s := rfl
@[simp] theorem blockQ_ex (id : Nat) (Q : FQ) (i : Nat) (s : St) : blockQ id Q (.ex i) s = if i = id then Q .nrm s else Q (.ex i) s := rfl
@[simp] theorem blockQ_ret (id : Nat) (Q : FQ) (s : St) : blockQ id Q .ret s = Q .ret s := rfl
@[simp] theorem condQ_bool (b : Bool) (p q : Prop) : condQ (.bool b) p q = ((b = true → p) ∧ (b = false → q)) := rfl
section
variable {R : RunF} {s : St} {S : Store} {tm : List AV} {Q : FQ}
@[simp] theorem wpE_skip : wpE R .skip s Q ↔ Q .nrm s := by
  constructor
  · rintro ⟨fl, s', h, hq⟩; simp only [exec] at h; cases h; exact hq
  · exact fun h => ⟨_, _, rfl, h⟩
@[simp] theorem wpE_exit {i : Nat} : wpE R (.exit i) s Q ↔ Q (.ex i) s := by
  constructor
  · rintro ⟨fl, s', h, hq⟩; simp only [exec] at h; cases h; exact hq
  · exact fun h => ⟨_, _, rfl, h⟩
@[simp] theorem wpE_ret : wpE R .ret s Q ↔ Q .ret s := by
  constructor
  · rintro ⟨fl, s', h, hq⟩; simp only [exec] at h; cases h; exact hq
  · exact fun h => ⟨_, _, rfl, h⟩
@[simp] theorem wpE_reg {os : List ROp} : wpE R (.reg os) s Q ↔ wpR R os s Q := by
  constructor
  · rintro ⟨fl, s', h, hq⟩
    simp only [exec] at h
    obtain ⟨s1, h1, h2⟩ := Option.bind_eq_some_iff.1 h
    cases h2; exact ⟨_, h1, hq⟩
  · rintro ⟨s', h, hq⟩; exact ⟨_, _, by simp only [exec, h]; rfl, hq⟩
def seqQ (R : RunF) (b : AC) (Q : FQ) : FQ := fun fl s => match fl with | .nrm => wpE R b s Q | .ex i => Q (.ex i) s | .ret => Q .ret s
@[simp] theorem seqQ_nrm {b : AC} : seqQ R b Q .nrm s = wpE R b s Q := rfl
@[simp] theorem seqQ_ex {b : AC} {i : Nat} : seqQ R b Q (.ex i) s = Q (.ex i) s := rfl
@[simp] theorem seqQ_ret {b : AC} : seqQ R b Q .ret s = Q .ret s := rfl
@[simp] theorem wpE_seq {a b : AC} : wpE R (.seq a b) s Q ↔ wpE R a s (seqQ R b Q) := by
  constructor
  · rintro ⟨fl, s', h, hq⟩
    simp only [exec] at h
    obtain ⟨⟨fl1, s1⟩, h1, h2⟩ := Option.bind_eq_some_iff.1 h
    refine ⟨fl1, s1, h1, ?_⟩
    cases fl1 with
    | nrm => exact ⟨fl, s', h2, hq⟩
    | ex i => simp only [afterFlow] at h2; cases h2; exact hq
    | ret => simp only [afterFlow] at h2; cases h2; exact hq
  · rintro ⟨fl1, s1, h1, hq⟩
    cases fl1 with
    | nrm => obtain ⟨fl, s', h2, hq⟩ := hq; exact ⟨fl, s', by simp only [exec, h1]; exact h2, hq⟩
    | ex i => exact ⟨.ex i, s1, by simp only [exec, h1]; rfl, hq⟩
    | ret => exact ⟨.ret, s1, by simp only [exec, h1]; rfl, hq⟩
theorem wpE_cond {c : Opd} {a b : AC} : wpE R (.cond c a b) s Q ↔ condQ (c.ev s.tm) (wpE R a s Q) (wpE R b s Q) := by
  unfold wpE
  simp only [exec]
  generalize c.ev s.tm = v
  cases v with
  | bool t => cases t <;> simp
  | _ => simp [condQ]
@[simp] theorem wpE_cond_t {c : Opd} {a b : AC} (h : c.ev s.tm = .bool true) : wpE R (.cond c a b) s Q ↔ wpE R a s Q := by
  rw [wpE_cond, h]; simp
@[simp] theorem wpE_cond_f {c : Opd} {a b : AC} (h : c.ev s.tm = .bool false) : wpE R (.cond c a b) s Q ↔ wpE R b s Q := by
  rw [wpE_cond, h]; simp
@[simp] theorem wpE_block {id : Nat} {b : AC} : wpE R (.block id b) s Q ↔ wpE R b s (blockQ id Q) := by
  constructor
  · rintro ⟨fl, s', h, hq⟩
    simp only [exec] at h
    obtain ⟨⟨fl1, s1⟩, h1, h2⟩ := Option.bind_eq_some_iff.1 h
    refine ⟨fl1, s1, h1, ?_⟩
    cases fl1 with
    | nrm => cases h2; exact hq
    | ret => cases h2; exact hq
    | ex i =>
      simp only [catchEx, Option.some.injEq] at h2
      simp only [blockQ_ex]
      split at h2
      · rename_i hi; rw [if_pos hi]; cases h2; exact hq
      · rename_i hi; rw [if_neg hi]; cases h2; exact hq
  · rintro ⟨fl1, s1, h1, hq⟩
    cases fl1 with
    | nrm => exact ⟨.nrm, s1, by simp only [exec, h1]; rfl, hq⟩
    | ret => exact ⟨.ret, s1, by simp only [exec, h1]; rfl, hq⟩
    | ex i =>
      simp only [blockQ_ex] at hq
      split at hq
      · rename_i hi; exact ⟨.nrm, s1, by simp only [exec, h1, catchEx, Option.bind_some, if_pos hi], hq⟩
      · rename_i hi; exact ⟨.ex i, s1, by simp only [exec, h1, catchEx, Option.bind_some, if_neg hi], hq⟩
noncomputable def loopF (R : RunF) (live : List Bool) (base : Nat) (b : AC) (h : St) : Option (Flow × St) :=
  (exec R iter b h).bind (afterFlow (iter fun s' => exec R iter b (head live base s')))
def wpL (R : RunF) (live : List Bool) (base : Nat) (b : AC) (h : St) (Q : FQ) : Prop := ∃ fl s', loopF R live base b h = some (fl, s') ∧ Q fl s'
@[simp] theorem wpE_loop {live : List Bool} {b : AC} : wpE R (.loop live b) s Q ↔ wpL R live s.st.length b (head live s.st.length s) Q := by
  unfold wpE wpL loopF
  simp only [exec]
  rw [iter_eq]
theorem wpL_eq {live : List Bool} {base : Nat} {b : AC} : wpL R live base b s Q ↔ wpE R b s (thenQ (fun s' => wpL R live base b (head live base s') Q) Q) := by
  unfold wpL wpE loopF
  constructor
  · rintro ⟨fl, s', h, hq⟩
    obtain ⟨⟨fl1, s1⟩, h1, h2⟩ := Option.bind_eq_some_iff.1 h
    refine ⟨fl1, s1, h1, ?_⟩
    cases fl1 with
    | nrm => simp only [afterFlow] at h2; rw [iter_eq] at h2; exact ⟨fl, s', h2, hq⟩
    | ex i => simp only [afterFlow] at h2; cases h2; exact hq
    | ret => simp only [afterFlow] at h2; cases h2; exact hq
  · rintro ⟨fl1, s1, h1, hq⟩
    cases fl1 with
    | nrm => obtain ⟨fl, s', h2, hq⟩ := hq; exact ⟨fl, s', by rw [h1]; simp only [Option.bind_some, afterFlow]; rw [iter_eq]; exact h2, hq⟩
    | ex i => exact ⟨.ex i, s1, by rw [h1]; rfl, hq⟩
    | ret => exact ⟨.ret, s1, by rw [h1]; rfl, hq⟩
@[simp] theorem wpR_nil : wpR R [] s Q ↔ Q .nrm s := by
  constructor
  · rintro ⟨s', h, hq⟩; simp only [runOps] at h; cases h; exact hq
  · exact fun h => ⟨_, rfl, h⟩
theorem wpR_cons {o : ROp} {os : List ROp} : wpR R (o :: os) s Q ↔ ∃ s', stepR R o s = some s' ∧ wpR R os s' Q := by
  constructor
  · rintro ⟨s', h, hq⟩
    simp only [runOps] at h
    obtain ⟨s1, h1, h2⟩ := Option.bind_eq_some_iff.1 h
    exact ⟨s1, h1, s', h2, hq⟩
  · rintro ⟨s1, h1, s', h2, hq⟩
    exact ⟨s', by simp only [runOps, h1]; exact h2, hq⟩
def contQ (R : RunF) (x : Option (AV × Store)) (d : Option Nat) (tm : List AV) (os : List ROp) (Q : FQ) : Prop := ∃ p, x = some p ∧ wpR R os ⟨put tm d p.1, p.2⟩ Q
@[simp] theorem contQ_some {v : AV} {d : Option Nat} {os : List ROp} : contQ R (some (v, S)) d tm os Q ↔ wpR R os ⟨put tm d v, S⟩ Q := by
  unfold contQ
  constructor
  · rintro ⟨p, h, hq⟩; cases h; exact hq
  · exact fun h => ⟨_, rfl, h⟩
@[simp] theorem contQ_chk {c : Prop} [Decidable c] {x : Option (AV × Store)} {d : Option Nat} {os : List ROp} : contQ R (chk c x) d tm os Q ↔ c ∧ contQ R x d tm os Q := by
  unfold contQ
  simp only [chk_some]
  constructor
  · rintro ⟨p, ⟨hc, h⟩, hq⟩; exact ⟨hc, p, h, hq⟩
  · rintro ⟨hc, p, h, hq⟩; exact ⟨p, ⟨hc, h⟩, hq⟩
@[simp] theorem wpR_op {d : Option Nat} {k : K} {args : List Opd} {os : List ROp} :
    wpR R (⟨d, k, args, none⟩ :: os) ⟨tm, S⟩ Q ↔ contQ R (opA R k (args.map (·.ev tm)) S) d tm os Q := by
  rw [wpR_cons]
  unfold contQ stepR wants
  simp only
  constructor
  · rintro ⟨s', h, hq⟩
    obtain ⟨⟨v, S'⟩, h1, h2⟩ := Option.bind_eq_some_iff.1 h
    cases h2; exact ⟨(v, S'), h1, hq⟩
  · rintro ⟨p, h1, hq⟩
    exact ⟨_, by rw [h1]; rfl, hq⟩
@[simp] theorem wpR_yes {d : Option Nat} {k : K} {args : List Opd} {g : Nat} {w : Bool} {os : List ROp} (h : wants tm (some (g, w)) = .yes) :
    wpR R (⟨d, k, args, some (g, w)⟩ :: os) ⟨tm, S⟩ Q ↔ contQ R (opA R k (args.map (·.ev tm)) S) d tm os Q := by
  rw [wpR_cons]
  unfold contQ stepR
  simp only [h]
  constructor
  · rintro ⟨s', h, hq⟩
    obtain ⟨⟨v, S'⟩, h1, h2⟩ := Option.bind_eq_some_iff.1 h
    cases h2; exact ⟨(v, S'), h1, hq⟩
  · rintro ⟨p, h1, hq⟩
    exact ⟨_, by rw [h1]; rfl, hq⟩
@[simp] theorem wpR_no {d : Option Nat} {k : K} {args : List Opd} {g : Nat} {w : Bool} {os : List ROp} (h : wants tm (some (g, w)) = .no) :
    wpR R (⟨d, k, args, some (g, w)⟩ :: os) ⟨tm, S⟩ Q ↔ wpR R os ⟨put tm d (.tup []), S⟩ Q := by
  rw [wpR_cons]
  unfold stepR
  simp [h]
def wanB (v : AV) (w : Bool) : Wan := match v with | .bool b => if b = w then .yes else .no | .tup [] => .no | _ => .lost
@[simp] theorem wants_some (tm : List AV) (t : Nat) (w : Bool) : wants tm (some (t, w)) = wanB (tm.getD t .any) w := rfl
@[simp] theorem wanB_tt : wanB (.bool true) true = .yes := rfl
@[simp] theorem wanB_tf : wanB (.bool true) false = .no := rfl
@[simp] theorem wanB_ft : wanB (.bool false) true = .no := rfl
@[simp] theorem wanB_ff : wanB (.bool false) false = .yes := rfl
@[simp] theorem wanB_skip (w : Bool) : wanB (.tup []) w = .no := rfl
@[simp] theorem put_some (tm : List AV) (d : Nat) (v : AV) : put tm (some d) v = tm.set d v := rfl
@[simp] theorem put_none (tm : List AV) (v : AV) : put tm none v = tm := rfl
@[simp] theorem ev_t (tm : List AV) (i : Nat) : (Opd.t i).ev tm = tm.getD i .any := rfl
@[simp] theorem ev_c (tm : List AV) (v : AV) : (Opd.c v).ev tm = v := rfl
@[simp] theorem chk_bind_some {α β : Type} {c : Prop} [Decidable c] {x : Option α} {k : α → Option β} : (chk c x).bind k = chk c (x.bind k) := by unfold chk; split <;> rfl
section
variable {x y v : AV} {n sz sz' b off vl o i f : Nat} {k q : IntKind} {cs es vs : List AV} {t ag st : Bool} {cap : Option Nat} {j l c : Int}
@[simp] theorem opA_mv : opA R .mv [x] S = some (x, S) := rfl
@[simp] theorem opA_own : opA R (.own sz) [.sl [] sz' true] S = chk (0 < sz) (some (.msl S.length 0 0 sz 0 none, S ++ [.mu [] false])) := rfl
@[simp] theorem opA_pickt : opA R .pick [.bool true, x, y] S = some (x, S) := rfl
@[simp] theorem opA_pickf : opA R .pick [.bool false, x, y] S = some (y, S) := rfl
@[simp] theorem opA_alloc {z : List AV} : opA R (.alloc z) [] S = some (.mptr S.length 0 z.length, S ++ [.mu z true]) := rfl
@[simp] theorem opA_box : opA R (.box n) [v] S = chk (v.whole = true ∧ v.cells.length = n) (some (.mptr S.length 0 n, S ++ [.mu v.cells true])) := rfl
@[simp] theorem opA_build {z : List AV} {ps : List (Nat × Nat)} : opA R (.build z ps) vs S = (fillA ps vs z).bind fun cs => some (.agg cs, S) := rfl
theorem opA_litn {z : AV} {len : Nat} {ix : List Nat} (h : vs.all nr1 = true) : opA R (.lit sz z len ix) vs S = (vs.mapM (fz1 S)).bind fun vs => (fillE sz ix vs (List.replicate len z)).bind fun es => some (.sl es sz true, S) := by
  simp only [opA]; rw [if_pos h]
@[simp] theorem opA_lit0 {z : AV} : opA R (.lit sz z 0 []) [] S = some (.sl [] sz true, S) := rfl
@[simp] theorem opA_litm {z : AV} {len : Nat} {ix : List Nat} : opA R (.litm sz z len ix) vs S = (fillE sz ix vs (List.replicate len z)).bind fun es => some (.msl S.length 0 len sz (len * sz) none, S ++ [.mu (es.flatMap AV.cells) true]) := rfl
@[simp] theorem opA_load : opA R (.load ag n) [x] S = (loadA S ag n x).bind fun v => some (v, S) := rfl
@[simp] theorem opA_loadf : opA R (.loadf ag n) [.fptr cs] S = chk (n ≤ cs.length) ((ofCells ag (cs.take n)).bind fun v => some (v, S)) := rfl
@[simp] theorem opA_store : opA R (.store n) [.mptr b off vl, v] S = chk (v.whole = true ∧ v.cells.length = n) ((wr S b off vl v.cells).bind fun S' => some (.tup [], S')) := rfl
@[simp] theorem opA_nilf : opA R .nilChk [.fn f cs] S = some (.fn f cs, S) := rfl
@[simp] theorem opA_nilm : opA R .nilChk [.mptr b off vl] S = some (.mptr b off vl, S) := rfl
@[simp] theorem opA_nilp : opA R .nilChk [.fptr cs] S = some (.fptr cs, S) := rfl
@[simp] theorem opA_bin {op : BinOp} : opA R (.bin op) [x, y] S = (binA op x y).bind fun v => some (v, S) := rfl
@[simp] theorem opA_eqb {u w : Bool} : opA R (.eqb t) [.bool u, .bool w] S = some (.bool (if t then u != w else u == w), S) := rfl
@[simp] theorem opA_eqa {qq : Option IntKind} {xs ys : List AV} : opA R (.eqa t qq n) [.agg xs, .agg ys] S = chk (xs.length = n ∧ ys.length = n) ((eqcs qq xs ys).bind fun b => some (.bool (if t then !b else b), S)) := rfl
@[simp] theorem opA_un {op : UnOp} : opA R (.un op) [x] S = (unA op x).bind fun v => some (v, S) := rfl
@[simp] theorem opA_conv : opA R (.conv k) [.int q j] S = some (.int k (k.wrap j), S) := rfl
@[simp] theorem opA_mkfn : opA R (.mkfn f) vs S = some (.fn f vs, S) := by cases vs <;> rfl
@[simp] theorem opA_mks {bytes : Nat} {z : List AV} : opA R (.mks sz bytes z) [.int k l, .int q c] S = chk (0 ≤ l ∧ l ≤ c ∧ room c.toNat bytes ∧ 0 < sz ∧ c ≤ 281474976710656 ∧ z.length = sz) (some (.msl S.length 0 l.toNat sz (c.toNat * sz) none, S ++ [.mu (List.replicate c.toNat z).flatten true])) := rfl
@[simp] theorem opA_slc {lo hi mx : Bool} : opA R (.slc sz lo hi mx) (x :: vs) S = (sliceA sz lo hi mx x vs).bind fun v => some (v, S) := rfl
@[simp] theorem opA_slca {lo hi mx : Bool} : opA R (.slca n sz lo hi mx) (x :: vs) S = (sliceArr n sz lo hi mx x vs).bind fun v => some (v, S) := rfl
@[simp] theorem opA_faddrm : opA R (.faddr off n) [.mptr b o vl] S = chk (o + off + n ≤ vl) (some (.mptr b (o + off) vl, S)) := rfl
@[simp] theorem opA_faddrf : opA R (.faddr off n) [.fptr cs] S = chk (off + n ≤ cs.length) (some (.fptr (cs.drop off), S)) := rfl
@[simp] theorem opA_fld : opA R (.fld ag off n) [.agg cs] S = chk (off + n ≤ cs.length) ((ofCells ag ((cs.drop off).take n)).bind fun v => some (v, S)) := rfl
@[simp] theorem opA_iaam : opA R (.iaa n sz) [.mptr b off vl, .int k j] S = chk (0 ≤ j ∧ j < n) (some (.mptr b (off + j.toNat * sz) vl, S)) := rfl
@[simp] theorem opA_iaaf : opA R (.iaa n sz) [.fptr cs, .int k j] S = chk (0 ≤ j ∧ j < n) (some (.fptr (cs.drop (j.toNat * sz)), S)) := rfl
@[simp] theorem opA_iass : opA R (.ias sz) [.sl es sz' t, .int k j] S = chk (0 ≤ j ∧ j < es.length ∧ sz = sz') ((es[j.toNat]?).bind fun e => some (.fptr e.cells, S)) := rfl
@[simp] theorem opA_iasm : opA R (.ias sz) [.msl b off n sz' vl cap, .int k j] S = chk (0 ≤ j ∧ j < n ∧ sz = sz') (some (.mptr b (off + j.toNat * sz) vl, S)) := rfl
@[simp] theorem opA_ixa : opA R (.ixa ag n sz) [.agg cs, .int k j] S = chk (0 ≤ j ∧ j < n ∧ n * sz ≤ cs.length) ((ofCells ag ((cs.drop (j.toNat * sz)).take sz)).bind fun v => some (v, S)) := rfl
@[simp] theorem opA_ext : opA R (.ext i) [.tup vs] S = (vs[i]?).bind fun v => some (v, S) := rfl
@[simp] theorem opA_lenl : opA R .len [.sl es sz t] S = some (.int .i64 es.length, S) := rfl
@[simp] theorem opA_lenm : opA R .len [.msl b off n sz vl cap] S = some (.int .i64 n, S) := rfl
@[simp] theorem opA_lens {s : ByteArray} : opA R .lens [.str s] S = some (.int .i64 s.size, S) := rfl
@[simp] theorem opA_lenc : opA R (.lenc n) [x] S = some (.int .i64 n, S) := rfl
@[simp] theorem opA_app {bytes : Nat} : opA R (.app sz bytes) [x, y] S = appA sz bytes S x y := rfl
@[simp] theorem opA_clone {bytes : Nat} : opA R (.clone sz bytes) [x] S = appA sz bytes S (.sl [] sz true) x := rfl
@[simp] theorem opA_mn : opA R .mn vs S = (minA vs).bind fun v => some (v, S) := by cases vs <;> rfl
@[simp] theorem opA_mx : opA R .mx vs S = (maxA vs).bind fun v => some (v, S) := by cases vs <;> rfl
@[simp] theorem opA_pure : opA R (.call .pure st f) vs S = (vs.mapM (fz1 S)).bind fun as => (callPure R f as).bind fun r => (after st S vs r).bind fun S' => some (r, S') := by cases vs <;> rfl
@[simp] theorem opA_ownc : opA R (.call (.own i) st f) vs S = (vs.mapM (fz1 S)).bind fun as => (callOwn R i f as).bind fun r => (after st S vs r).bind fun S' => some (land S' r) := by cases vs <;> rfl
@[simp] theorem opA_shc : opA R (.call .sh st f) vs S = callSh R f vs S := by cases vs <;> rfl
@[simp] theorem opA_vpure : opA R (.callv .pure st) (.fn f cs :: vs) S = ((vs ++ cs).mapM (fz1 S)).bind fun as => (callPure R f as).bind fun r => (after st S (vs ++ cs) r).bind fun S' => some (r, S') := rfl
@[simp] theorem opA_vsh : opA R (.callv .sh st) (.fn f cs :: vs) S = callSh R f (vs ++ cs) S := rfl
end
variable {QO : AV → Store → Prop}
def retQ (rs : List ARes) (Q : AV → Store → Prop) : FQ := fun fl s => match fl with | .ex _ => False | .nrm => ∃ v, resAll s rs = some v ∧ Q v s.st | .ret => ∃ v, resAll s rs = some v ∧ Q v s.st
@[simp] theorem retQ_nrm {rs : List ARes} : retQ rs QO .nrm s = ∃ v, resAll s rs = some v ∧ QO v s.st := rfl
@[simp] theorem retQ_ret {rs : List ARes} : retQ rs QO .ret s = ∃ v, resAll s rs = some v ∧ QO v s.st := rfl
def wpF (R : RunF) (f : Nat) (args : List AV) (S : Store) (Q : AV → Store → Prop) : Prop := ∃ r S', R f args S = some (r, S') ∧ Q r S'
theorem wpF_of {A : Prog} {f : Nat} {af : AF} {args : List AV} (ha : A f = some af) (hl : args.length = af.np) (h : wpE (run A) af.body (enter af args S) (retQ af.res QO)) : wpF (run A) f args S QO := by
  obtain ⟨fl, s', h1, h2⟩ := h
  cases fl with
  | ex i => exact h2.elim
  | nrm =>
    obtain ⟨v, h3, h4⟩ := h2
    exact ⟨v, s'.st, by rw [run_eq, ha]; simp only [Option.bind_some, runBody, chk_pos hl, h1]; rw [h3]; rfl, h4⟩
  | ret =>
    obtain ⟨v, h3, h4⟩ := h2
    exact ⟨v, s'.st, by rw [run_eq, ha]; simp only [Option.bind_some, runBody, chk_pos hl, h1]; rw [h3]; rfl, h4⟩
theorem callPure_of {f : Nat} {args : List AV} {r : AV} (h : wpF R f args [] fun v S' => fzv S' v = some r) : callPure R f args = some r := by
  obtain ⟨v, S', h1, h2⟩ := h
  unfold callPure
  rw [h1]
  exact h2
theorem callOwn_of {i f : Nat} {args : List AV} {r : AV} (h : wpF R f args [] fun v S' => ownRes S' i v = some r) : callOwn R i f args = some r := by
  obtain ⟨v, S', h1, h2⟩ := h
  unfold callOwn
  rw [h1]
  exact h2
end
end Go.AVM
namespace Go.AVM
section
variable {k : IntKind} {a b : Int}
@[simp] theorem binA_add : binA .add (.int k a) (.int k b) = some (.int k (k.wrap (a + b))) := by simp [binA, intBin, chk]
@[simp] theorem binA_sub : binA .sub (.int k a) (.int k b) = some (.int k (k.wrap (a - b))) := by simp [binA, intBin, chk]
@[simp] theorem binA_mul : binA .mul (.int k a) (.int k b) = some (.int k (k.wrap (a * b))) := by simp [binA, intBin, chk]
@[simp] theorem binA_quo : binA .quo (.int k a) (.int k b) = chk (b ≠ 0) (some (.int k (k.wrap (a.tdiv b)))) := by simp [binA, intBin, chk]
@[simp] theorem binA_rem : binA .rem (.int k a) (.int k b) = chk (b ≠ 0) (some (.int k (a.tmod b))) := by simp [binA, intBin, chk]
theorem binA_and : binA .and (.int k a) (.int k b) = some (.int k (k.wrap (BitVec.ofInt k.bits a &&& BitVec.ofInt k.bits b).toNat)) := by simp [binA, intBin, chk]
theorem binA_or : binA .or (.int k a) (.int k b) = some (.int k (k.wrap (BitVec.ofInt k.bits a ||| BitVec.ofInt k.bits b).toNat)) := by simp [binA, intBin, chk]
@[simp] theorem binA_eql : binA .eql (.int k a) (.int k b) = some (.bool (decide (a = b))) := by
  by_cases h : a = b <;> simp [binA, intBin, chk, h]
@[simp] theorem binA_neq : binA .neq (.int k a) (.int k b) = some (.bool (decide (a ≠ b))) := by
  by_cases h : a = b <;> simp [binA, intBin, chk, h]
@[simp] theorem binA_lss : binA .lss (.int k a) (.int k b) = some (.bool (decide (a < b))) := by simp [binA, intBin, chk]
@[simp] theorem binA_leq : binA .leq (.int k a) (.int k b) = some (.bool (decide (a ≤ b))) := by simp [binA, intBin, chk]
@[simp] theorem binA_gtr : binA .gtr (.int k a) (.int k b) = some (.bool (decide (b < a))) := by simp [binA, intBin, chk]
@[simp] theorem binA_geq : binA .geq (.int k a) (.int k b) = some (.bool (decide (b ≤ a))) := by simp [binA, intBin, chk]
@[simp] theorem binA_shl {q : IntKind} : binA .shl (.int k a) (.int q b) = chk (0 ≤ b) (some (.int k (k.wrap (a * 2 ^ (min b.toNat k.bits))))) := by simp [binA]
@[simp] theorem binA_shr {q : IntKind} : binA .shr (.int k a) (.int q b) = chk (0 ≤ b) (some (.int k (a.fdiv (2 ^ (min b.toNat k.bits))))) := by simp [binA]
@[simp] theorem unA_neg : unA .neg (.int k a) = some (.int k (k.wrap (0 - a))) := rfl
@[simp] theorem unA_not {b : Bool} : unA .not (.bool b) = some (.bool !b) := rfl
@[simp] theorem minA2 : minA [.int k a, .int k b] = some (.int k (if b < a then b else a)) := by simp [minA, chk]
@[simp] theorem maxA2 : maxA [.int k a, .int k b] = some (.int k (if b > a then b else a)) := by simp [maxA, chk]
end
theorem wrap_i64_eq (n : Int) : IntKind.i64.wrap n = if 9223372036854775808 ≤ n % 18446744073709551616 then n % 18446744073709551616 - 18446744073709551616 else n % 18446744073709551616 := by simp [IntKind.wrap, IntKind.bits, IntKind.signed]
theorem wrap_i64 {n : Int} (h1 : -9223372036854775808 ≤ n) (h2 : n < 9223372036854775808) : IntKind.i64.wrap n = n := by
  rw [wrap_i64_eq]
  split <;> omega
theorem wrap_u64 (n : Int) : IntKind.u64.wrap n = n % 18446744073709551616 := by simp [IntKind.wrap, IntKind.bits, IntKind.signed]
theorem wrap_u32 (n : Int) : IntKind.u32.wrap n = n % 4294967296 := by simp [IntKind.wrap, IntKind.bits, IntKind.signed]
theorem wrap_u8 (n : Int) : IntKind.u8.wrap n = n % 256 := by simp [IntKind.wrap, IntKind.bits, IntKind.signed]
@[simp] theorem cells_int (k : IntKind) (n : Int) : (AV.int k n).cells = [.int k n] := rfl
@[simp] theorem cells_bool (b : Bool) : (AV.bool b).cells = [.bool b] := rfl
@[simp] theorem cells_agg (cs : List AV) : (AV.agg cs).cells = cs := rfl
@[simp] theorem cells_sl (es : List AV) (sz : Nat) (t : Bool) : (AV.sl es sz t).cells = [.sl es sz t] := rfl
@[simp] theorem cells_msl (b off n sz vl : Nat) (c : Option Nat) : (AV.msl b off n sz vl c).cells = [.msl b off n sz vl c] := rfl
@[simp] theorem whole_int (k : IntKind) (n : Int) : (AV.int k n).whole = true := rfl
@[simp] theorem whole_bool (b : Bool) : (AV.bool b).whole = true := rfl
@[simp] theorem whole_agg (cs : List AV) : (AV.agg cs).whole = true := rfl
@[simp] theorem whole_sl (es : List AV) (sz : Nat) (t : Bool) : (AV.sl es sz t).whole = true := rfl
@[simp] theorem whole_msl (b off n sz vl : Nat) (c : Option Nat) : (AV.msl b off n sz vl c).whole = true := rfl
@[simp] theorem ofCells_true (cs : List AV) : ofCells true cs = some (.agg cs) := rfl
@[simp] theorem ofCells_false (cs : List AV) : ofCells false cs = cs.head? := rfl
@[simp] theorem loadA_fptr (S : Store) (ag : Bool) (n : Nat) (cs : List AV) : loadA S ag n (.fptr cs) = chk (n ≤ cs.length) (ofCells ag (cs.take n)) := rfl
@[simp] theorem loadA_mptr (S : Store) (ag : Bool) (n b off vl : Nat) : loadA S ag n (.mptr b off vl) = (rd S b off vl n).bind (ofCells ag) := rfl
@[simp] theorem chk_eq_some {α : Type} {c : Prop} [Decidable c] {x : Option α} {r : α} : (chk c x = some r) = (c ∧ x = some r) := propext chk_some
def nums (k : IntKind) (xs : List Int) : List AV := xs.map (.int k)
@[simp] theorem nums_length (k : IntKind) (xs : List Int) : (nums k xs).length = xs.length := by simp [nums]
@[simp] theorem nums_get (k : IntKind) (xs : List Int) (i : Nat) : (nums k xs)[i]? = (xs[i]?).map (.int k) := by simp [nums]
@[simp] theorem nums_nil (k : IntKind) : nums k [] = [] := rfl
@[simp] theorem nums_cons (k : IntKind) (x : Int) (xs : List Int) : nums k (x :: xs) = .int k x :: nums k xs := rfl
theorem nums_take (k : IntKind) (xs : List Int) (n : Nat) : (nums k xs).take n = nums k (xs.take n) := by simp [nums, List.map_take]
theorem nums_drop (k : IntKind) (xs : List Int) (n : Nat) : (nums k xs).drop n = nums k (xs.drop n) := by simp [nums, List.map_drop]
theorem nums_append (k : IntKind) (xs ys : List Int) : nums k xs ++ nums k ys = nums k (xs ++ ys) := by simp [nums]
@[simp] theorem head_take_drop {α : Type} (l : List α) (i : Nat) : ((l.drop i).take 1).head? = l[i]? := by
  rw [List.head?_take]; simp [List.head?_drop]
@[simp] theorem nums_cells (k : IntKind) (xs : List Int) : (nums k xs).flatMap AV.cells = nums k xs := by
  induction xs with
  | nil => rfl
  | cons x xs ih => simp [ih]
@[simp] theorem nums_fzc (S : Store) (fuel : Nat) (k : IntKind) (xs : List Int) : (nums k xs).mapM (fzc S fuel) = some (nums k xs) := by
  induction xs with
  | nil => rfl
  | cons x xs ih => cases fuel <;> simp [List.mapM_cons, fzc, ih]
@[simp] theorem nums_nrc (k : IntKind) (xs : List Int) : (nums k xs).all nrc = true := by simp [nums, nrc]
@[simp] theorem nums_lt1 (k : IntKind) (xs : List Int) (n : Nat) : (nums k xs).all (lt1 n) = true := by simp [nums, lt1, ltc]
@[simp] theorem nums_ltc (k : IntKind) (xs : List Int) (n : Nat) : (nums k xs).all (ltc n) = true := by simp [nums, ltc]
theorem nums_set (k : IntKind) (xs : List Int) (i : Nat) (v : Int) : (nums k xs).set i (.int k v) = nums k (xs.set i v) := by simp [nums, List.map_set]
@[simp] theorem nums_chunk1 (k : IntKind) (xs : List Int) : chunk 1 xs.length (nums k xs) = nums k xs := by
  induction xs with
  | nil => rfl
  | cons x xs ih => simp [chunk, ih]
section
variable {S : Store} {fuel : Nat}
@[simp] theorem fzc_int (k : IntKind) (n : Int) : fzc S fuel (.int k n) = some (.int k n) := by cases fuel <;> rfl
@[simp] theorem fzc_bool (b : Bool) : fzc S fuel (.bool b) = some (.bool b) := by cases fuel <;> rfl
@[simp] theorem fzc_str (b : ByteArray) : fzc S fuel (.str b) = some (.str b) := by cases fuel <;> rfl
@[simp] theorem fzc_sl (es : List AV) (sz : Nat) (t : Bool) : fzc S fuel (.sl es sz t) = some (.sl es sz false) := by cases fuel <;> rfl
@[simp] theorem fzc_fptr (cs : List AV) : fzc S fuel (.fptr cs) = some (.fptr cs) := by cases fuel <;> rfl
@[simp] theorem fzc_nilp : fzc S fuel .nilp = some .nilp := by cases fuel <;> rfl
@[simp] theorem fz1_int (k : IntKind) (n : Int) : fz1 S (.int k n) = some (.int k n) := rfl
@[simp] theorem fz1_bool (b : Bool) : fz1 S (.bool b) = some (.bool b) := rfl
@[simp] theorem fz1_str (b : ByteArray) : fz1 S (.str b) = some (.str b) := rfl
@[simp] theorem fz1_sl (es : List AV) (sz : Nat) (t : Bool) : fz1 S (.sl es sz t) = some (.sl es sz false) := rfl
@[simp] theorem fz1_fptr (cs : List AV) : fz1 S (.fptr cs) = some (.fptr cs) := rfl
@[simp] theorem fz1_agg (cs : List AV) : fz1 S (.agg cs) = (cs.mapM (fzc S 5)).bind fun cs' => some (.agg cs') := rfl
@[simp] theorem fz1_fn (f : Nat) (cs : List AV) : fz1 S (.fn f cs) = (cs.mapM (fzc S 5)).bind fun cs' => some (.fn f cs') := rfl
@[simp] theorem fz1_msl (b off n sz vl : Nat) (c : Option Nat) : fz1 S (.msl b off n sz vl c) = fzc S (5 + 1) (.msl b off n sz vl c) := rfl
@[simp] theorem fzv_int (k : IntKind) (n : Int) : fzv S (.int k n) = some (.int k n) := rfl
@[simp] theorem fzv_bool (b : Bool) : fzv S (.bool b) = some (.bool b) := rfl
@[simp] theorem fzv_str (b : ByteArray) : fzv S (.str b) = some (.str b) := rfl
@[simp] theorem fzv_sl (es : List AV) (sz : Nat) (t : Bool) : fzv S (.sl es sz t) = some (.sl es sz false) := rfl
@[simp] theorem fzv_agg (cs : List AV) : fzv S (.agg cs) = fz1 S (.agg cs) := rfl
@[simp] theorem fzv_tup (cs : List AV) : fzv S (.tup cs) = (cs.mapM (fz1 S)).bind fun cs' => some (.tup cs') := rfl
@[simp] theorem fzv_msl (b off n sz vl : Nat) (c : Option Nat) : fzv S (.msl b off n sz vl c) = fz1 S (.msl b off n sz vl c) := rfl
@[simp] theorem nr1_int (k : IntKind) (n : Int) : nr1 (.int k n) = true := rfl
@[simp] theorem nr1_bool (b : Bool) : nr1 (.bool b) = true := rfl
@[simp] theorem nr1_sl (es : List AV) (sz : Nat) (t : Bool) : nr1 (.sl es sz t) = true := rfl
@[simp] theorem nr1_fptr (cs : List AV) : nr1 (.fptr cs) = true := rfl
@[simp] theorem nr1_str (b : ByteArray) : nr1 (.str b) = true := rfl
@[simp] theorem nr1_agg (cs : List AV) : nr1 (.agg cs) = cs.all nrc := rfl
@[simp] theorem nrc_int (k : IntKind) (n : Int) : nrc (.int k n) = true := rfl
@[simp] theorem nrc_bool (b : Bool) : nrc (.bool b) = true := rfl
@[simp] theorem nrc_sl (es : List AV) (sz : Nat) (t : Bool) : nrc (.sl es sz t) = true := rfl
@[simp] theorem mapM_nil' {f : AV → Option AV} : [].mapM f = some [] := rfl
@[simp] theorem mapM_cons' {f : AV → Option AV} {x : AV} {xs : List AV} : (x :: xs).mapM f = (f x).bind fun y => (xs.mapM f).bind fun ys => some (y :: ys) := by simp [List.mapM_cons]
theorem after_nr {st : Bool} {S : Store} {args : List AV} {r : AV} (h : args.all nr1 = true) : after st S args r = some S := by unfold after; simp [h]
theorem after_bare {st : Bool} {S : Store} {args : List AV} {r : AV} (h : r.bare = true) : after st S args r = some S := by unfold after; simp [h]
@[simp] theorem resA_t (s : St) (i : Nat) : resA s (.t i) = some (s.tm.getD i .any) := rfl
@[simp] theorem resA_c (s : St) (i : Nat) (ag : Bool) (n : Nat) : resA s (.c i ag n) = loadA s.st ag n (s.tm.getD i .any) := rfl
@[simp] theorem resAll1 (s : St) (r : ARes) : resAll s [r] = resA s r := by
  unfold resAll
  cases h : resA s r <;> simp [List.mapM_cons, h]
@[simp] theorem resAll2 (s : St) (r q : ARes) : resAll s [r, q] = (resA s r).bind fun a => (resA s q).bind fun b => some (.tup [a, b]) := by
  unfold resAll
  cases h : resA s r <;> cases h' : resA s q <;> simp [List.mapM_cons, h, h']
@[simp] theorem resAll3 (s : St) (r q o : ARes) : resAll s [r, q, o] = (resA s r).bind fun a => (resA s q).bind fun b => (resA s o).bind fun c => some (.tup [a, b, c]) := by
  unfold resAll
  cases h : resA s r <;> cases h' : resA s q <;> cases h'' : resA s o <;> simp [List.mapM_cons, h, h', h'']
theorem enter_eq (af : AF) (args : List AV) (S : Store) : enter af args S = ⟨args ++ List.replicate (af.nt - args.length) (.tup []), S⟩ := rfl
end
theorem trunc_len {n : Nat} {vs : List AV} {S : Store} (h : S.length ≤ n) : trunc n vs S = S := by
  unfold trunc
  split
  · exact List.take_of_length_le h
  · rfl
@[simp] theorem trunc_one (n : Nat) (vs : List AV) (x : Blk) : trunc (n + 1) vs [x] = [x] := trunc_len (by simp)
@[simp] theorem trunc_nil (n : Nat) (vs : List AV) : trunc n vs [] = [] := trunc_len (by simp)
theorem mask_map : ∀ (live : List Bool) (tm : List AV), mask live tm = (List.range tm.length).map fun i => bif live.getD i false then tm.getD i .any else .any
  | live, [] => by cases live <;> rfl
  | [], v :: vs => by
    rw [mask, mask_map [] vs, List.length_cons, List.range_succ_eq_map]
    simp
  | b :: bs, v :: vs => by
    rw [mask, mask_map bs vs, List.length_cons, List.range_succ_eq_map]
    simp
theorem mask_of {live : List Bool} {tm : List AV} {n : Nat} (h : tm.length = n) : mask live tm = (List.range n).map fun i => bif live.getD i false then tm.getD i .any else .any := by
  subst h; exact mask_map live tm
abbrev B : Nat := 4294967296
def val : List Nat → Nat
  | [] => 0
  | w :: ws => w + B * val ws
def Wd (ws : List Nat) : Prop := ∀ w ∈ ws, w < B
def dig (n : Nat) : List Nat := if h : n = 0 then [] else n % B :: dig (n / B)
termination_by n
decreasing_by exact Nat.div_lt_self (Nat.pos_of_ne_zero h) (by decide)
@[simp] theorem dig_zero : dig 0 = [] := by rw [dig]; simp
theorem dig_pos {n : Nat} (h : n ≠ 0) : dig n = n % B :: dig (n / B) := by rw [dig]; simp [h]
theorem Wd.cons {w : Nat} {ws : List Nat} (h : Wd (w :: ws)) : w < B ∧ Wd ws := ⟨h w (by simp), fun x hx => h x (by simp [hx])⟩
theorem Wd.mk {w : Nat} {ws : List Nat} (h : w < B) (h' : Wd ws) : Wd (w :: ws) := fun x hx => by
  rcases List.mem_cons.1 hx with rfl | hx
  · exact h
  · exact h' x hx
theorem Wd.nil : Wd [] := fun x hx => by cases hx
theorem Wd.app {a b : List Nat} (ha : Wd a) (hb : Wd b) : Wd (a ++ b) := fun x hx => by
  rcases List.mem_append.1 hx with h | h
  · exact ha x h
  · exact hb x h
theorem Wd.take {a : List Nat} (ha : Wd a) (n : Nat) : Wd (a.take n) := fun x hx => ha x (List.mem_of_mem_take hx)
theorem Wd.drop {a : List Nat} (ha : Wd a) (n : Nat) : Wd (a.drop n) := fun x hx => ha x (List.mem_of_mem_drop hx)
theorem Wd.rep {n w : Nat} (h : w < B) : Wd (List.replicate n w) := fun x hx => by rw [(List.mem_replicate.1 hx).2]; exact h
theorem Wd.set {a : List Nat} (ha : Wd a) {i w : Nat} (h : w < B) : Wd (a.set i w) := fun x hx => by
  rcases List.mem_or_eq_of_mem_set hx with h' | rfl
  · exact ha x h'
  · exact h
theorem Wd.get {a : List Nat} (ha : Wd a) {i w : Nat} (h : a[i]? = some w) : w < B := ha w (List.mem_of_getElem? h)
theorem dig_wd : ∀ n, Wd (dig n) := by
  intro n
  induction n using Nat.strongRecOn with
  | _ n ih =>
    by_cases h : n = 0
    · subst h; simp; exact Wd.nil
    · rw [dig_pos h]
      exact Wd.mk (Nat.mod_lt _ (by decide)) (ih _ (Nat.div_lt_self (Nat.pos_of_ne_zero h) (by decide)))
@[simp] theorem val_dig : ∀ n, val (dig n) = n := by
  intro n
  induction n using Nat.strongRecOn with
  | _ n ih =>
    by_cases h : n = 0
    · subst h; simp [val]
    · rw [dig_pos h, val, ih _ (Nat.div_lt_self (Nat.pos_of_ne_zero h) (by decide))]
      exact Nat.mod_add_div n B
theorem dig_cons {w n : Nat} (hw : w < B) (h : w ≠ 0 ∨ n ≠ 0) : dig (w + B * n) = w :: dig n := by
  have h0 : w + B * n ≠ 0 := by
    rcases h with h | h
    · omega
    · have : 0 < B * n := Nat.mul_pos (by decide) (Nat.pos_of_ne_zero h); omega
  rw [dig_pos h0]
  have h1 : (w + B * n) % B = w := by rw [Nat.add_mul_mod_self_left, Nat.mod_eq_of_lt hw]
  have h2 : (w + B * n) / B = n := by rw [Nat.add_mul_div_left _ _ (by decide), Nat.div_eq_of_lt hw, Nat.zero_add]
  rw [h1, h2]
def Top (ws : List Nat) : Prop := ∀ w, ws.getLast? = some w → w ≠ 0
theorem val_pos {ws : List Nat} (h : Top ws) (hne : ws ≠ []) : val ws ≠ 0 := by
  induction ws with
  | nil => exact absurd rfl hne
  | cons w ws ih =>
    cases ws with
    | nil =>
      have := h w rfl
      simp [val, this]
    | cons v vs =>
      have := ih (fun x hx => h x (by rw [List.getLast?_cons_cons]; exact hx)) (by simp)
      simp only [val]
      have h1 : 0 < B * (val (v :: vs)) := Nat.mul_pos (by decide) (Nat.pos_of_ne_zero this)
      simp only [val] at h1
      omega
theorem dig_val {ws : List Nat} (hw : Wd ws) (ht : Top ws) : dig (val ws) = ws := by
  induction ws with
  | nil => simp [val]
  | cons w ws ih =>
    simp only [val]
    cases ws with
    | nil => rw [dig_cons (hw.cons.1) (.inl (ht w rfl))]; simp [val]
    | cons v vs =>
      have ht' : Top (v :: vs) := fun x hx => ht x (by rw [List.getLast?_cons_cons]; exact hx)
      rw [dig_cons hw.cons.1 (.inr (val_pos ht' (by simp))), ih hw.cons.2 ht']
theorem val_append (a b : List Nat) : val (a ++ b) = val a + B ^ a.length * val b := by
  induction a with
  | nil => simp [val]
  | cons w a ih => simp only [List.cons_append, val, ih, List.length_cons, Nat.pow_succ]; rw [Nat.mul_add, Nat.add_assoc, ← Nat.mul_assoc, Nat.mul_comm B (B ^ a.length)]
theorem val_zeros {a : List Nat} (h : ∀ w ∈ a, w = 0) : val a = 0 := by
  induction a with
  | nil => rfl
  | cons w a ih => simp [val, h w (by simp), ih fun x hx => h x (by simp [hx])]
theorem val_lt {ws : List Nat} (h : Wd ws) : val ws < B ^ ws.length := by
  induction ws with
  | nil => simp [val]
  | cons w ws ih =>
    have h1 := ih h.cons.2
    have h2 := h.cons.1
    simp only [val, List.length_cons, Nat.pow_succ]
    have : B * (val ws + 1) ≤ B * B ^ ws.length := Nat.mul_le_mul_left _ h1
    rw [Nat.mul_add] at this
    rw [Nat.mul_comm (B ^ ws.length)]
    omega
theorem cut_dig {ws : List Nat} (hw : Wd ws) {n : Nat} (hn : n ≤ ws.length) (hz : ∀ w ∈ ws.drop n, w = 0) (ht : n = 0 ∨ ∃ w, ws[n - 1]? = some w ∧ w ≠ 0) : ws.take n = dig (val ws) := by
  have h1 : val ws = val (ws.take n) := by
    conv => lhs; rw [← List.take_append_drop n ws, val_append, val_zeros hz]
    simp
  rw [h1, dig_val (hw.take n)]
  intro w hw'
  rcases ht with rfl | ⟨v, hv, hv0⟩
  · simp at hw'
  · by_cases h0 : n = 0
    · subst h0; simp at hw'
    · rw [List.getLast?_eq_getElem?, List.length_take, Nat.min_eq_left hn, List.getElem?_take_of_lt (by omega), hv] at hw'
      cases hw'; exact hv0
theorem dig_top (n : Nat) : Top (dig n) := by
  induction n using Nat.strongRecOn with
  | _ n ih =>
    by_cases h : n = 0
    · subst h; intro w hw; simp at hw
    · rw [dig_pos h]
      intro w hw
      by_cases h1 : n / B = 0
      · rw [h1] at hw; simp at hw
        subst hw
        have : n < B := by
          rcases Nat.lt_or_ge n B with h2 | h2
          · exact h2
          · have := Nat.div_pos h2 (by decide); omega
        rw [Nat.mod_eq_of_lt this]; exact h
      · have hne : dig (n / B) ≠ [] := by rw [dig_pos h1]; simp
        have : (n % B :: dig (n / B)).getLast? = (dig (n / B)).getLast? := by
          cases hd : dig (n / B) with
          | nil => exact absurd hd hne
          | cons a l => exact List.getLast?_cons_cons
        rw [this] at hw
        exact ih _ (Nat.div_lt_self (Nat.pos_of_ne_zero h) (by decide)) w hw
theorem dig_nil {n : Nat} : dig n = [] ↔ n = 0 := by
  constructor
  · intro h
    have := val_dig n
    rw [h] at this; simpa [val] using this.symm
  · rintro rfl; simp
def size (n : Nat) : Nat := (dig n).length
theorem lt_size (n : Nat) : n < B ^ size n := by
  have := val_lt (dig_wd n)
  rwa [val_dig] at this
theorem le_of_size {n : Nat} (h : n ≠ 0) : B ^ (size n - 1) ≤ n := by
  induction n using Nat.strongRecOn with
  | _ n ih =>
    unfold size
    rw [dig_pos h]
    by_cases h1 : n / B = 0
    · rw [h1]; simp; omega
    · have := ih _ (Nat.div_lt_self (Nat.pos_of_ne_zero h) (by decide)) h1
      unfold size at this
      have hp : 0 < (dig (n / B)).length := by
        rw [dig_pos h1]; simp
      simp only [List.length_cons, Nat.add_sub_cancel]
      obtain ⟨k, hk⟩ : ∃ k, (dig (n / B)).length = k + 1 := ⟨_, (Nat.succ_pred_eq_of_pos hp).symm⟩
      rw [hk] at this ⊢
      simp only [Nat.add_sub_cancel] at this
      rw [Nat.pow_succ]
      exact Nat.le_trans (Nat.mul_le_mul_right _ this) (Nat.div_mul_le_self n B)
theorem size_le {n k : Nat} (h : n < B ^ k) : size n ≤ k := by
  by_cases h0 : n = 0
  · subst h0; simp [size]
  · have := le_of_size h0
    have h1 : B ^ (size n - 1) < B ^ k := Nat.lt_of_le_of_lt this h
    have := (Nat.pow_lt_pow_iff_right (by decide : 1 < B)).1 h1
    omega
theorem size_mono {a b : Nat} (h : a ≤ b) : size a ≤ size b := size_le (Nat.lt_of_le_of_lt h (lt_size b))
theorem exists_cut (ws : List Nat) : ∃ n, n ≤ ws.length ∧ (∀ w ∈ ws.drop n, w = 0) ∧ (n = 0 ∨ ∃ w, ws[n - 1]? = some w ∧ w ≠ 0) := by
  have : ∀ n, n ≤ ws.length → (∀ w ∈ ws.drop n, w = 0) → ∃ n, n ≤ ws.length ∧ (∀ w ∈ ws.drop n, w = 0) ∧ (n = 0 ∨ ∃ w, ws[n - 1]? = some w ∧ w ≠ 0) := by
    intro n
    induction n with
    | zero => exact fun h1 h2 => ⟨0, h1, h2, .inl rfl⟩
    | succ n ih =>
      intro h1 h2
      by_cases h0 : ws[n] = 0
      · refine ih (by omega) fun v hv => ?_
        rw [List.drop_eq_getElem_cons (by omega)] at hv
        rcases List.mem_cons.1 hv with rfl | hv
        · exact h0
        · exact h2 v hv
      · exact ⟨n + 1, h1, h2, .inr ⟨ws[n], by simp, h0⟩⟩
  exact this ws.length (Nat.le_refl _) (by simp)
theorem norm_take {ws : List Nat} (hw : Wd ws) : ws.take (dig (val ws)).length = dig (val ws) ∧ (dig (val ws)).length ≤ ws.length := by
  obtain ⟨n, h1, h2, h3⟩ := exists_cut ws
  have := cut_dig hw h1 h2 h3
  have hl := congrArg List.length this
  rw [List.length_take, Nat.min_eq_left h1] at hl
  exact ⟨by rw [← hl]; exact this, by omega⟩
theorem val_take_succ (x : List Nat) (i : Nat) : val (x.take (i + 1)) = val (x.take i) + B ^ i * x.getD i 0 := by
  by_cases h : i < x.length
  · rw [List.take_add_one, val_append, List.length_take, Nat.min_eq_left (by omega)]
    have : x[i]? = some x[i] := List.getElem?_eq_getElem h
    rw [this, List.getD_eq_getElem?_getD, this]
    simp [val]
  · rw [List.take_of_length_le (by omega), List.take_of_length_le (by omega), List.getD_eq_getElem?_getD, List.getElem?_eq_none (by omega)]
    simp
theorem val_rep0 (n : Nat) : val (List.replicate n 0) = 0 := val_zeros fun w hw => (List.mem_replicate.1 hw).2
theorem val_set {ws : List Nat} {j w w' : Nat} (h : ws[j]? = some w) : val (ws.set j w') + B ^ j * w = val ws + B ^ j * w' := by
  induction ws generalizing j with
  | nil => simp at h
  | cons x ws ih =>
    cases j with
    | zero =>
      simp at h; subst h
      simp [val]; omega
    | succ j =>
      have := ih (j := j) (by simpa using h)
      simp only [List.set_cons_succ, val, Nat.pow_succ]
      have e : B * (val (ws.set j w') + B ^ j * w) = B * (val ws + B ^ j * w') := by rw [this]
      simp only [Nat.mul_add] at e
      rw [Nat.mul_comm (B ^ j) B, Nat.mul_assoc, Nat.mul_assoc]
      omega
theorem val_ge {ws : List Nat} {j w : Nat} (h : ws[j]? = some w) : B ^ j * w ≤ val ws := by
  have := val_set (w' := 0) h
  omega
theorem ofInt_nat (n x : Nat) : (BitVec.ofInt n (x : Int)).toNat = x % 2 ^ n := by
  rw [BitVec.toNat_ofInt]; omega
section
variable {k : IntKind} {x y : Nat}
theorem wrap_nat {n : Nat} (hs : k.signed = false) (h : n < 2 ^ k.bits) : k.wrap (n : Int) = n := by
  unfold IntKind.wrap
  rw [hs]
  simp only [Bool.false_and, Bool.false_eq_true, if_false]
  have : ((2 : Int) ^ k.bits) = ((2 ^ k.bits : Nat) : Int) := by push_cast; rfl
  rw [this, Int.emod_eq_of_lt (by omega) (by omega)]
theorem and_nat (hs : k.signed = false) (hx : x < 2 ^ k.bits) (hy : y < 2 ^ k.bits) : binA .and (.int k (x : Int)) (.int k (y : Int)) = some (.int k ((x &&& y : Nat) : Int)) := by
  rw [binA_and]
  have h1 : (BitVec.ofInt k.bits (x : Int) &&& BitVec.ofInt k.bits (y : Int)).toNat = x &&& y := by
    rw [BitVec.toNat_and, ofInt_nat, ofInt_nat, Nat.mod_eq_of_lt hx, Nat.mod_eq_of_lt hy]
  rw [h1, wrap_nat hs (Nat.lt_of_le_of_lt Nat.and_le_left hx)]
theorem or_nat (hs : k.signed = false) (hx : x < 2 ^ k.bits) (hy : y < 2 ^ k.bits) : binA .or (.int k (x : Int)) (.int k (y : Int)) = some (.int k ((x ||| y : Nat) : Int)) := by
  rw [binA_or]
  have h1 : (BitVec.ofInt k.bits (x : Int) ||| BitVec.ofInt k.bits (y : Int)).toNat = x ||| y := by
    rw [BitVec.toNat_or, ofInt_nat, ofInt_nat, Nat.mod_eq_of_lt hx, Nat.mod_eq_of_lt hy]
  rw [h1, wrap_nat hs (Nat.or_lt_two_pow hx hy)]
theorem xor_nat (hs : k.signed = false) (hx : x < 2 ^ k.bits) (hy : y < 2 ^ k.bits) : binA .xor (.int k (x : Int)) (.int k (y : Int)) = some (.int k ((x ^^^ y : Nat) : Int)) := by
  have h0 : binA .xor (.int k (x : Int)) (.int k (y : Int)) = some (.int k (k.wrap (BitVec.ofInt k.bits (x : Int) ^^^ BitVec.ofInt k.bits (y : Int)).toNat)) := by simp [binA, intBin, chk]
  rw [h0]
  have h1 : (BitVec.ofInt k.bits (x : Int) ^^^ BitVec.ofInt k.bits (y : Int)).toNat = x ^^^ y := by
    rw [BitVec.toNat_xor, ofInt_nat, ofInt_nat, Nat.mod_eq_of_lt hx, Nat.mod_eq_of_lt hy]
  rw [h1, wrap_nat hs (Nat.xor_lt_two_pow hx hy)]
theorem not_u32 (hx : x < B) : unA .xor (.int .u32 (x : Int)) = some (.int .u32 ((4294967295 ^^^ x : Nat) : Int)) := by
  have h0 : unA .xor (.int .u32 (x : Int)) = some (.int .u32 (IntKind.u32.wrap (BitVec.ofInt 32 (4294967295 : Int) ^^^ BitVec.ofInt 32 (x : Int)).toNat)) := rfl
  rw [h0]
  have h1 : (BitVec.ofInt 32 (4294967295 : Int) ^^^ BitVec.ofInt 32 (x : Int)).toNat = 4294967295 ^^^ x := by
    rw [BitVec.toNat_xor, ofInt_nat]
    rw [Nat.mod_eq_of_lt hx]; rfl
  rw [h1, wrap_nat (k := .u32) rfl (Nat.xor_lt_two_pow (n := 32) (by decide) hx)]
end
theorem top_bit {v : Nat} (h : v < B) : v / 2147483648 = (v.testBit 31).toNat := by
  rw [Nat.testBit_eq_decide_div_mod_eq]
  have h1 : v / 2 ^ 31 < 2 := by have : v < 4294967296 := h; omega
  have h2 : v / 2147483648 = v / 2 ^ 31 := by rfl
  rw [h2]
  have : v / 2 ^ 31 = 0 ∨ v / 2 ^ 31 = 1 := by omega
  rcases this with h | h <;> rw [h] <;> rfl
theorem bit31 {x : Nat} (h : x < B) : x.testBit 31 = decide (2147483648 ≤ x) := by
  rw [Nat.testBit_eq_decide_div_mod_eq]
  have : x < 4294967296 := h
  by_cases h1 : 2147483648 ≤ x
  · have : x / 2 ^ 31 = 1 := by omega
    simp [this, h1]
  · have : x / 2 ^ 31 = 0 := by omega
    simp [this, h1]
theorem borrow_bits {x y b d : Nat} (hx : x < B) (hy : y < B) (hb : b ≤ 1) (hd : d = (x + 2 * B - y - b) % B) :
    (((4294967295 ^^^ x) &&& y) ||| ((4294967295 ^^^ (x ^^^ y)) &&& d)) / 2147483648 = if x < y + b then 1 else 0 := by
  have hdB : d < B := by rw [hd]; exact Nat.mod_lt _ (by decide)
  have hF : (4294967295 : Nat) < 2 ^ 32 := by decide
  have h1 : 4294967295 ^^^ x < 2 ^ 32 := Nat.xor_lt_two_pow hF hx
  have h2 : 4294967295 ^^^ (x ^^^ y) < 2 ^ 32 := Nat.xor_lt_two_pow hF (Nat.xor_lt_two_pow (n := 32) hx hy)
  have h3 : (4294967295 ^^^ x) &&& y < 2 ^ 32 := Nat.lt_of_le_of_lt Nat.and_le_left h1
  have h4 : (4294967295 ^^^ (x ^^^ y)) &&& d < 2 ^ 32 := Nat.lt_of_le_of_lt Nat.and_le_left h2
  rw [top_bit (Nat.or_lt_two_pow h3 h4)]
  rw [Nat.testBit_or, Nat.testBit_and, Nat.testBit_and, Nat.testBit_xor, Nat.testBit_xor, Nat.testBit_xor]
  rw [bit31 hx, bit31 hy, bit31 hdB]
  have hf : Nat.testBit 4294967295 31 = true := by decide
  rw [hf]
  have e : B = 4294967296 := rfl
  rw [e] at hx hy hdB hd
  by_cases c1 : 2147483648 ≤ x <;> by_cases c2 : 2147483648 ≤ y <;> by_cases c3 : 2147483648 ≤ d <;> by_cases c4 : x < y + b <;> simp [c1, c2, c3, c4] <;> omega
noncomputable abbrev RT : RunF := run tab
def wds (ws : List Nat) : List AV := ws.map fun (w : Nat) => .int .u32 (w : Int)
@[simp] theorem wds_length (ws : List Nat) : (wds ws).length = ws.length := by simp [wds]
@[simp] theorem wds_get (ws : List Nat) (i : Nat) : (wds ws)[i]? = (ws[i]?).map fun (w : Nat) => AV.int .u32 (w : Int) := by simp [wds]
theorem wds_take (ws : List Nat) (n : Nat) : (wds ws).take n = wds (ws.take n) := by simp [wds, List.map_take]
theorem wds_drop (ws : List Nat) (n : Nat) : (wds ws).drop n = wds (ws.drop n) := by simp [wds, List.map_drop]
@[simp] theorem wds_cells (ws : List Nat) : (wds ws).flatMap AV.cells = wds ws := by
  induction ws with
  | nil => rfl
  | cons w ws ih => simpa [wds] using ih
@[simp] theorem wds_fzc (S : Store) (fuel : Nat) (ws : List Nat) : (wds ws).mapM (fzc S fuel) = some (wds ws) := by
  induction ws with
  | nil => rfl
  | cons w ws ih =>
    have : wds (w :: ws) = AV.int .u32 (w : Int) :: wds ws := rfl
    rw [this]
    cases fuel <;> simp [List.mapM_cons, fzc, ih]
@[simp] theorem wds_lt1 (ws : List Nat) (n : Nat) : (wds ws).all (lt1 n) = true := by simp [wds, lt1, ltc]
@[simp] theorem wds_ltc (ws : List Nat) (n : Nat) : (wds ws).all (ltc n) = true := by simp [wds, ltc]
theorem wds_set (ws : List Nat) (i w : Nat) : (wds ws).set i (.int .u32 (w : Int)) = wds (ws.set i w) := by simp [wds, List.map_set]
theorem wds_app (a b : List Nat) : wds a ++ wds b = wds (a ++ b) := by simp [wds]
abbrev W (ws : List Nat) : AV := .sl (wds ws) 1 false
abbrev N (n : Nat) : AV := W (dig n)
theorem norm_loop {ws : List Nat} {t : Bool} (hw : Wd ws) (hlen : ws.length < 9223372036854775808) {base : Nat} {Q : FQ} (hQ : ∀ (tm : List AV) (hl : tm.length = 22), tm[0] = .sl (wds ws) 1 t → tm[3] = .int .i64 ((dig (val ws)).length : Int) → Q (.ex 0) ⟨tm, []⟩) :
    ∀ n, n ≤ ws.length → (∀ w ∈ ws.drop n, w = 0) → wpL RT f91_0m base f91_0 ⟨[.sl (wds ws) 1 t, .any, .any, .int .i64 (n : Int), .any, .any, .any, .any, .any, .any, .any, .any, .any, .any, .any, .any, .any, .any, .any, .any, .any, .any], []⟩ Q := by
  intro n
  induction n with
  | zero =>
    intro hn hz
    have hcut := cut_dig hw hn hz (.inl rfl)
    rw [wpL_eq]
    generalize hK : (fun s' => wpL RT f91_0m base f91_0 (head f91_0m base s') Q) = K
    simp [f91_0]
    refine hQ _ rfl rfl ?_
    rw [← hcut]; simp
  | succ n ih =>
    intro hn hz
    have hnw : IntKind.i64.wrap (n : Int) = n := wrap_i64 (by omega) (by omega)
    obtain ⟨w, hget⟩ : ∃ w, ws[n]? = some w := ⟨ws[n], List.getElem?_eq_getElem (by omega)⟩
    rw [wpL_eq]
    generalize hK : (fun s' => wpL RT f91_0m base f91_0 (head f91_0m base s') Q) = K
    by_cases h0 : w = 0
    · subst h0
      simp [f91_0, hnw, hget]
      refine ⟨by omega, ?_⟩
      subst hK
      simp [head, f91_0m, mask, trunc]
      refine ih (by omega) fun v hv => ?_
      rw [List.drop_eq_getElem_cons (by omega)] at hv
      rcases List.mem_cons.1 hv with rfl | hv
      · rw [List.getElem?_eq_getElem (by omega)] at hget; exact Option.some.inj hget
      · exact hz v hv
    · have hcut := cut_dig hw hn hz (.inr ⟨w, hget, h0⟩)
      simp [f91_0, hnw, hget, h0]
      refine ⟨by omega, hQ _ rfl rfl ?_⟩
      have := congrArg List.length hcut
      simp at this
      rw [← this, Nat.min_eq_left hn]; rfl
theorem run_norm {ws : List Nat} {t : Bool} (hw : Wd ws) (hlen : ws.length < 9223372036854775808) : callPure RT 91 [.sl (wds ws) 1 t] = some (N (val ws)) := by
  refine callPure_of (wpF_of tab_91 rfl ?_)
  simp [f91, enter]
  simp [head, f91_0m, mask, trunc]
  refine norm_loop (t := t) hw hlen ?_ ws.length (Nat.le_refl _) (by simp)
  intro tm hl h0 h3
  obtain ⟨hcut, hle⟩ := norm_take hw
  simp [hl, h0, h3, sliceA, bounds, bound, hle, wds_take, hcut]
theorem run_at {ws : List Nat} {t : Bool} {i : Nat} (hlen : ws.length < 9223372036854775808) : callPure RT 104 [.sl (wds ws) 1 t, .int .i64 (i : Int)] = some (.int .u32 ((ws.getD i 0 : Nat) : Int)) := by
  refine callPure_of (wpF_of tab_104 rfl ?_)
  by_cases h : i < ws.length
  · have hg : ws[i]? = some ws[i] := List.getElem?_eq_getElem h
    have h' : (i : Int) < (ws.length : Int) := by omega
    simp [f104, enter, h', hg]
  · have h' : ¬ (i : Int) < (ws.length : Int) := by omega
    simp [f104, enter, h']
    rw [List.getElem?_eq_none (by omega)]; rfl
theorem fdiv_word (a : Int) : a.fdiv 4294967296 = a / 4294967296 := Int.fdiv_eq_ediv_of_nonneg _ (by decide)
theorem run_Add32 {x y c : Nat} (hx : x < B) (hy : y < B) (hc : c < B) : callPure RT 103 [.int .u32 (x : Int), .int .u32 (y : Int), .int .u32 (c : Int)] = some (.tup [.int .u32 (((x + y + c) % B : Nat) : Int), .int .u32 (((x + y + c) / B : Nat) : Int)]) := by
  refine callPure_of (wpF_of tab_103 rfl ?_)
  simp [f103, enter, wrap_u64, wrap_u32, IntKind.bits, fdiv_word]
  have e : B = 4294967296 := rfl
  omega
theorem run_Sub32 {x y b : Nat} (hx : x < B) (hy : y < B) (hb : b ≤ 1) : callPure RT 105 [.int .u32 (x : Int), .int .u32 (y : Int), .int .u32 (b : Int)] =
    some (.tup [.int .u32 (((x + 2 * B - y - b) % B : Nat) : Int), .int .u32 ((if x < y + b then 1 else 0 : Nat) : Int)]) := by
  refine callPure_of (wpF_of tab_105 rfl ?_)
  have hlast := borrow_bits hx hy hb rfl
  generalize hd : (x + 2 * B - y - b) % B = d at hlast ⊢
  have hB : B = 4294967296 := rfl
  have e1 : (((x : Int) - y) % 4294967296 - b) % 4294967296 = (d : Int) := by
    rw [hB] at hx hy hd; omega
  have hdB : d < 2 ^ IntKind.u32.bits := by rw [← hd]; exact Nat.mod_lt _ (by decide)
  have hF : (4294967295 : Nat) < 2 ^ 32 := by decide
  have hx' : x < 2 ^ IntKind.u32.bits := hx
  have hy' : y < 2 ^ IntKind.u32.bits := hy
  have hxy : x ^^^ y < 2 ^ IntKind.u32.bits := Nat.xor_lt_two_pow hx' hy'
  have h1 : 4294967295 ^^^ x < 2 ^ IntKind.u32.bits := Nat.xor_lt_two_pow hF hx
  have h2 : 4294967295 ^^^ (x ^^^ y) < 2 ^ IntKind.u32.bits := Nat.xor_lt_two_pow hF hxy
  have h3 : (4294967295 ^^^ x) &&& y < 2 ^ IntKind.u32.bits := Nat.lt_of_le_of_lt Nat.and_le_left h1
  have h4 : (4294967295 ^^^ (x ^^^ y)) &&& d < 2 ^ IntKind.u32.bits := Nat.lt_of_le_of_lt Nat.and_le_left h2
  have hv := Nat.or_lt_two_pow h3 h4
  simp only [f105, enter]
  simp [wrap_u32, e1]
  rw [not_u32 hx]
  simp
  rw [and_nat rfl h1 hy']
  simp
  rw [xor_nat rfl hx' hy']
  simp
  rw [not_u32 hxy]
  simp
  rw [and_nat rfl h2 hdB]
  simp
  rw [or_nat rfl h3 h4]
  simp
  have e2 : Int.fdiv ((((4294967295 ^^^ x) &&& y ||| (4294967295 ^^^ (x ^^^ y)) &&& d : Nat) : Int)) (2 ^ min 31 IntKind.u32.bits) = ((if x < y + b then 1 else 0 : Nat) : Int) := by
    rw [← hlast, Int.fdiv_eq_ediv_of_nonneg _ (by decide)]
    rfl
  simp [e2]
theorem run_isNaN (n : Int) : callPure RT 70 [.int .i64 n] = some (.bool false) := by
  refine callPure_of (wpF_of tab_70 rfl ?_)
  simp [f70, enter]
theorem run_isNaN32 (n : Int) : callPure RT 108 [.int .u32 n] = some (.bool false) := by
  refine callPure_of (wpF_of tab_108 rfl ?_)
  simp [f108, enter]
def cmpI (a b : Int) : Int := if a < b then -1 else if b < a then 1 else 0
theorem run_cmpI (a b : Int) : callPure RT 51 [.int .i64 a, .int .i64 b] = some (.int .i64 (cmpI a b)) := by
  refine callPure_of (wpF_of tab_51 rfl ?_)
  simp [f51, enter, run_isNaN, after_nr]
  unfold cmpI
  by_cases h1 : a < b
  · simp [h1]
  · by_cases h2 : b < a
    · simp [h1, h2]
    · simp [h1, h2]
theorem run_cmp32 (a b : Int) : callPure RT 106 [.int .u32 a, .int .u32 b] = some (.int .i64 (cmpI a b)) := by
  refine callPure_of (wpF_of tab_106 rfl ?_)
  simp [f106, enter, run_isNaN32, after_nr]
  unfold cmpI
  by_cases h1 : a < b
  · simp [h1]
  · by_cases h2 : b < a
    · simp [h1, h2]
    · simp [h1, h2]
section
variable {R : RunF} {s s' : St} {live : List Bool} {base : Nat} {b : AC} {Q : FQ}
def loopQ (R : RunF) (live : List Bool) (base : Nat) (b : AC) (Q : FQ) : FQ := fun fl s => match fl with | .nrm => wpL R live base b (head live base s) Q | .ex i => Q (.ex i) s | .ret => Q .ret s
@[simp] theorem loopQ_nrm : loopQ R live base b Q .nrm s = wpL R live base b (head live base s) Q := rfl
@[simp] theorem loopQ_ex {i : Nat} : loopQ R live base b Q (.ex i) s = Q (.ex i) s := rfl
@[simp] theorem loopQ_ret : loopQ R live base b Q .ret s = Q .ret s := rfl
theorem wpL_step : wpL R live base b s Q ↔ wpE R b s (loopQ R live base b Q) := by
  rw [wpL_eq]
  have : (thenQ (fun s' => wpL R live base b (head live base s') Q) Q) = loopQ R live base b Q := by
    funext fl s; cases fl <;> rfl
  rw [this]
@[congr] theorem loopQ_congr : loopQ R live base b Q = loopQ R live base b Q := rfl
@[congr] theorem wpL_congr (h : s = s') : wpL R live base b s Q ↔ wpL R live base b s' Q := by rw [h]
end
@[simp] theorem wlit0 : IntKind.i64.wrap 0 = 0 := by decide
@[simp] theorem wlit1 : IntKind.i64.wrap 1 = 1 := by decide
@[simp] theorem wlit2 : IntKind.i64.wrap 2 = 2 := by decide
@[simp] theorem wlit3 : IntKind.i64.wrap 3 = 3 := by decide
@[simp] theorem wlit4 : IntKind.i64.wrap 4 = 4 := by decide
@[simp] theorem wlit5 : IntKind.i64.wrap 5 = 5 := by decide
@[simp] theorem wlit6 : IntKind.i64.wrap 6 = 6 := by decide
@[simp] theorem wlit7 : IntKind.i64.wrap 7 = 7 := by decide
@[simp] theorem wlit8 : IntKind.i64.wrap 8 = 8 := by decide
@[simp] theorem wlit9 : IntKind.i64.wrap 9 = 9 := by decide
@[simp] theorem wlit10 : IntKind.i64.wrap 10 = 10 := by decide
@[simp] theorem wlit11 : IntKind.i64.wrap 11 = 11 := by decide
@[simp] theorem wlit12 : IntKind.i64.wrap 12 = 12 := by decide
@[simp] theorem wlit13 : IntKind.i64.wrap 13 = 13 := by decide
@[simp] theorem wlit14 : IntKind.i64.wrap 14 = 14 := by decide
@[simp] theorem wlit15 : IntKind.i64.wrap 15 = 15 := by decide
@[simp] theorem wlit16 : IntKind.i64.wrap 16 = 16 := by decide
@[simp] theorem wlit17 : IntKind.i64.wrap 17 = 17 := by decide
@[simp] theorem wlit18 : IntKind.i64.wrap 18 = 18 := by decide
@[simp] theorem wlit19 : IntKind.i64.wrap 19 = 19 := by decide
@[simp] theorem wlit20 : IntKind.i64.wrap 20 = 20 := by decide
@[simp] theorem wlit21 : IntKind.i64.wrap 21 = 21 := by decide
@[simp] theorem wlit22 : IntKind.i64.wrap 22 = 22 := by decide
@[simp] theorem wlit23 : IntKind.i64.wrap 23 = 23 := by decide
@[simp] theorem wlit24 : IntKind.i64.wrap 24 = 24 := by decide
@[simp] theorem wlit25 : IntKind.i64.wrap 25 = 25 := by decide
@[simp] theorem wlitm : IntKind.i64.wrap (-1) = -1 := by decide
@[simp] theorem after_nil (st : Bool) (S : Store) (r : AV) : after st S [] r = some S := after_nr rfl
@[simp] theorem after_int (st : Bool) (S : Store) (as : List AV) (k : IntKind) (n : Int) : after st S as (.int k n) = some S := after_bare rfl
@[simp] theorem after_bool (st : Bool) (S : Store) (as : List AV) (b : Bool) : after st S as (.bool b) = some S := after_bare rfl
@[simp] theorem after_str (st : Bool) (S : Store) (as : List AV) (b : ByteArray) : after st S as (.str b) = some S := after_bare rfl
@[simp] theorem wpE_condc_t {R : RunF} {a b : AC} {s : St} {Q : FQ} : wpE R (.cond (.c (.bool true)) a b) s Q ↔ wpE R a s Q := wpE_cond_t rfl
@[simp] theorem wpE_condc_f {R : RunF} {a b : AC} {s : St} {Q : FQ} : wpE R (.cond (.c (.bool false)) a b) s Q ↔ wpE R b s Q := wpE_cond_f rfl
theorem len8 {α : Type} {l : List α} (h : l.length = 8) : ∃ a0 a1 a2 a3 a4 a5 a6 a7, l = [a0, a1, a2, a3, a4, a5, a6, a7] := by
  match l, h with
  | [a0, a1, a2, a3, a4, a5, a6, a7], _ => exact ⟨_, _, _, _, _, _, _, _, rfl⟩
@[simp] theorem nums_getElem (k : IntKind) (xs : List Int) (i : Nat) (h : i < (nums k xs).length) : (nums k xs)[i] = .int k (xs[i]'(by simpa using h)) := by simp [nums]
abbrev R8 (l : List Int) : AV := .agg (nums .i64 l)
def Bd (b : Int) (l : List Int) : Prop := ∀ x ∈ l, -b ≤ x ∧ x ≤ b
theorem Bd.cons {b x : Int} {l : List Int} (h : Bd b (x :: l)) : (-b ≤ x ∧ x ≤ b) ∧ Bd b l := ⟨h x (by simp), fun y hy => h y (by simp [hy])⟩
theorem Bd.nil {b : Int} : Bd b [] := fun x hx => by cases hx
theorem Bd.mk {b x : Int} {l : List Int} (h : -b ≤ x ∧ x ≤ b) (h' : Bd b l) : Bd b (x :: l) := fun y hy => by
  rcases List.mem_cons.1 hy with rfl | hy
  · exact h
  · exact h' y hy
theorem Bd.mono {b c : Int} {l : List Int} (h : Bd b l) (hc : b ≤ c) : Bd c l := fun x hx => by have := h x hx; omega
theorem contQ_sh {R : RunF} {f : Nat} {vs : List AV} {S : Store} {d : Option Nat} {tm : List AV} {os : List ROp} {Q : FQ} (h : wpF R f vs S fun r S' => wpR R os ⟨put tm d r, trunc S.length [r] S'⟩ Q) : contQ R (callSh R f vs S) d tm os Q := by
  obtain ⟨r, S', h1, h2⟩ := h
  refine ⟨(r, trunc S.length [r] S'), ?_, h2⟩
  unfold callSh
  rw [h1]; rfl
theorem wpF_mono {R : RunF} {f : Nat} {args : List AV} {S : Store} {Q Q' : AV → Store → Prop} (h : wpF R f args S Q) (hq : ∀ r S', Q r S' → Q' r S') : wpF R f args S Q' := by
  obtain ⟨r, S', h1, h2⟩ := h
  exact ⟨r, S', h1, hq r S' h2⟩
theorem callPure_ex {R : RunF} {f : Nat} {args : List AV} {P : AV → Prop} (h : wpF R f args [] fun v S' => ∃ r, fzv S' v = some r ∧ P r) : ∃ r, callPure R f args = some r ∧ P r := by
  obtain ⟨v, S', h1, r, h2, h3⟩ := h
  exact ⟨r, by unfold callPure; rw [h1]; exact h2, h3⟩
section
variable {S : Store} {x : Blk} {cs vs : List AV} {ex : Bool} {b off vl n : Nat}
theorem get_last : (S ++ [x])[S.length]? = some x := by simp
theorem get_app (h : b < S.length) : (S ++ [x])[b]? = S[b]? := List.getElem?_append_left h
theorem lt_of_get {y : Blk} (h : S[b]? = some y) : b < S.length := (List.getElem?_eq_some_iff.1 h).1
theorem rd_mu (h : S[b]? = some (.mu cs ex)) (hl : cs.length = vl) (ho : off + n ≤ vl) : rd S b off vl n = some ((cs.drop off).take n) := by
  unfold rd; rw [h]; exact chk_pos ⟨hl, ho⟩
theorem wr_mu (h : S[b]? = some (.mu cs ex)) (hl : cs.length = vl) (ho : off + vs.length ≤ vl) : wr S b off vl vs = some (S.set b (.mu (splice cs off vs) ex)) := by
  unfold wr; rw [h]; exact chk_pos ⟨hl, ho⟩
@[simp] theorem rd_last : rd (S ++ [.mu cs ex]) S.length off vl n = chk (cs.length = vl ∧ off + n ≤ vl) (some ((cs.drop off).take n)) := by
  unfold rd; rw [get_last]
@[simp] theorem wr_last : wr (S ++ [.mu cs ex]) S.length off vl vs = chk (cs.length = vl ∧ off + vs.length ≤ vl) (some (S ++ [.mu (splice cs off vs) ex])) := by
  unfold wr; rw [get_last]; simp
theorem rd_app (h : b < S.length) : rd (S ++ [x]) b off vl n = rd S b off vl n := by
  unfold rd; rw [get_app h]
theorem set_get {y : Blk} (h : b < S.length) : (S.set b y)[b]? = some y := by simp [h]
theorem rd_num {k : IntKind} {xs : List Int} {v : Int} {i : Nat} (h : S[b]? = some (.mu (nums k xs) ex)) (hl : xs.length = vl) (hi : xs[i]? = some v) : rd S b i vl 1 = some [.int k v] := by
  have hi' := (List.getElem?_eq_some_iff.1 hi).1
  rw [rd_mu h (by simpa using hl) (by omega), nums_drop, nums_take]
  rw [List.drop_eq_getElem_cons hi']
  have := (List.getElem?_eq_some_iff.1 hi).2
  rw [this]; rfl
theorem splice_num {k : IntKind} {xs : List Int} {v : Int} {i : Nat} (hi : i < xs.length) : splice (nums k xs) i [.int k v] = nums k (xs.set i v) := by
  unfold splice
  rw [← nums_set, List.set_eq_take_append_cons_drop]
  simp [hi]
theorem wr_num {k : IntKind} {xs : List Int} {v : Int} {i : Nat} (h : S[b]? = some (.mu (nums k xs) ex)) (hl : xs.length = vl) (hi : i < vl) : wr S b i vl [.int k v] = some (S.set b (.mu (nums k (xs.set i v)) ex)) := by
  rw [wr_mu h (by simpa using hl) (by simp; omega), splice_num (by omega)]
end
theorem flat_len {α : Type} : ∀ {t : List (List α)}, (∀ r ∈ t, r.length = 8) → t.flatten.length = 8 * t.length
  | [], _ => rfl
  | r :: t, h => by
    rw [List.flatten_cons, List.length_append, flat_len fun x hx => h x (by simp [hx]), h r (by simp), List.length_cons]; omega
def cut8 : Nat → List Int → List (List Int)
  | 0, _ => []
  | n + 1, l => l.take 8 :: cut8 n (l.drop 8)
theorem cut8_len : ∀ (n : Nat) (l : List Int), (cut8 n l).length = n
  | 0, _ => rfl
  | n + 1, l => by rw [cut8, List.length_cons, cut8_len n]
theorem cut8_mem : ∀ (n : Nat) (l : List Int), l.length = 8 * n → ∀ r ∈ cut8 n l, r.length = 8 ∧ ∀ x ∈ r, x ∈ l
  | 0, _, _, r, hr => by cases hr
  | n + 1, l, hl, r, hr => by
    rcases List.mem_cons.1 hr with rfl | hr
    · exact ⟨by rw [List.length_take]; omega, fun x hx => List.mem_of_mem_take hx⟩
    · have := cut8_mem n (l.drop 8) (by rw [List.length_drop]; omega) r hr
      exact ⟨this.1, fun x hx => List.mem_of_mem_drop (this.2 x hx)⟩
theorem cut8_get : ∀ (n : Nat) (l : List Int), l.length = 8 * n → ∀ i, (cut8 n l)[i]? = if i < n then some ((l.drop (8 * i)).take 8) else none
  | 0, _, _, i => by simp [cut8]
  | n + 1, l, hl, 0 => by simp [cut8]
  | n + 1, l, hl, i + 1 => by
    rw [cut8, List.getElem?_cons_succ, cut8_get n (l.drop 8) (by rw [List.length_drop]; omega) i, List.drop_drop]
    have : 8 + 8 * i = 8 * (i + 1) := by omega
    rw [this]
    by_cases h : i < n
    · rw [if_pos h, if_pos (by omega)]
    · rw [if_neg h, if_neg (by omega)]
theorem chunk_cut : ∀ (n : Nat) (l : List Int), l.length = 8 * n → chunk 8 n (nums .i64 l) = (cut8 n l).map R8
  | 0, _, _ => rfl
  | n + 1, l, hl => by
    rw [chunk, if_neg (by decide), nums_take, nums_drop, chunk_cut n (l.drop 8) (by rw [List.length_drop]; omega), cut8]; rfl
theorem rows_cells (o : List (List Int)) : (o.map R8).flatMap AV.cells = nums .i64 o.flatten := by
  induction o with
  | nil => rfl
  | cons r o ih => rw [List.map_cons, List.flatMap_cons, ih, List.flatten_cons, ← nums_append]; rfl
theorem trunc_get {n : Nat} {vs : List AV} {S : Store} {b : Nat} (h : b < n ∨ ∃ v ∈ vs, lt1 n v = false) : (trunc n vs S)[b]? = S[b]? := by
  unfold trunc
  split
  · rename_i hc
    rw [Bool.and_eq_true, List.all_eq_true] at hc
    rcases h with h | ⟨v, hv, hf⟩
    · rw [List.getElem?_take]; simp [h]
    · have := hc.1 v hv
      rw [hf] at this; cases this
  · rfl
def monoL (x : List Int) : List Int := x.map fun n => n % 20000
theorem run_mono {x : List Int} (hl : x.length = 8) (hb : ∀ n ∈ x, 0 ≤ n ∧ n ≤ 65535) : callPure RT 15 [.agg (nums .u16 x)] = some (R8 (monoL x)) := by
  obtain ⟨a0, a1, a2, a3, a4, a5, a6, a7, rfl⟩ := len8 hl
  simp at hb
  have hm : ∀ a : Int, 0 ≤ a → a.tmod 20000 = a % 20000 := fun a h => by rw [Int.tmod_eq_emod_of_nonneg h]
  refine callPure_of (wpF_of tab_15 rfl ?_)
  simp [f15, enter, fillA, chk, wr, splice]
  simp [wpL_step, head, f15_0m, f15_0, mask, rd, wr, splice, chk, trunc, lt1, ltc, Blk.lt, monoL]
  simp (disch := omega) only [wrap_i64, hm, and_self]
theorem run_lex : callPure RT 19 [] = some (.sl [] 8 false) := by
  refine callPure_of (wpF_of tab_19 rfl ?_)
  simp [f19, enter]
def cmpL : List Int → List Int → Int
  | a :: l, b :: m => if a < b then -1 else if b < a then 1 else cmpL l m
  | _, _ => 0
theorem cmpL_cons (a b : Int) (l m : List Int) : cmpL (a :: l) (b :: m) = if cmpI a b = 0 then cmpL l m else cmpI a b := by
  simp only [cmpL, cmpI]
  by_cases h1 : a < b
  · simp [h1]
  · by_cases h2 : b < a
    · simp [h1, h2]
    · simp [h1, h2]
theorem cmp_loop2 {xs ys : List Int} (hxy : xs.length = ys.length) (hlen : xs.length < 1000000) {base : Nat} {S : Store} (hS : S.length ≤ base) {Q : FQ}
    (h1 : ∀ (tm : List AV) (hl : tm.length = 36), tm[0] = .sl (nums .i64 xs) 1 false → tm[1] = .sl (nums .i64 ys) 1 false → cmpL xs ys = 0 → Q (.ex 0) ⟨tm, S⟩)
    (h2 : ∀ (tm : List AV) (hl : tm.length = 36), tm[4] = .int .i64 (cmpL xs ys) → Q .ret ⟨tm, S⟩) :
    ∀ (m i : Nat), i + m = xs.length → cmpL (xs.drop i) (ys.drop i) = cmpL xs ys →
    wpL RT f39_0m base f39_0 ⟨[.sl (nums .i64 xs) 1 false, .sl (nums .i64 ys) 1 false, .any, .any, .any, .any, .any, .any, .any, .sl (nums .i64 xs) 1 false, .int .i64 (xs.length : Int), .int .i64 (i : Int)] ++ List.replicate 24 .any, S⟩ Q := by
  intro m
  induction m with
  | zero =>
    intro i hi he
    have hi' : i = xs.length := by omega
    subst hi'
    rw [wpL_step]
    generalize hK : loopQ RT f39_0m base f39_0 Q = K
    simp [f39_0, List.replicate]
    subst hK
    refine h1 _ rfl rfl rfl ?_
    rw [← he]; simp [cmpL]
  | succ m ih =>
    intro i hi he
    have hi1 : i < xs.length := by omega
    have hi2 : i < ys.length := by omega
    rw [List.drop_eq_getElem_cons hi1, List.drop_eq_getElem_cons hi2, cmpL_cons] at he
    have hw : IntKind.i64.wrap ((i : Int) + 1) = ((i + 1 : Nat) : Int) := wrap_i64 (by omega) (by omega)
    rw [wpL_step]
    generalize hK : loopQ RT f39_0m base f39_0 Q = K
    by_cases h0 : cmpI xs[i] ys[i] = 0
    · simp [f39_0, List.replicate, hi1, hi2, run_cmpI, after_nr, h0, hw, Nat.not_le.2 hi2]
      rw [if_pos h0] at he
      have := ih (i + 1) (by omega) he
      subst hK
      simp [head, f39_0m, mask, trunc_len hS]
      simpa [f39_0m, List.replicate] using this
    · simp [f39_0, List.replicate, hi1, hi2, run_cmpI, after_nr, h0, hw, Nat.not_le.2 hi2]
      rw [if_neg h0] at he
      subst hK
      refine h2 _ rfl ?_
      simp [he]
theorem run_compare {xs ys : List Int} (hxy : xs.length = ys.length) (hlen : xs.length < 1000000) : callPure RT 39 [.sl (nums .i64 xs) 1 false, .sl (nums .i64 ys) 1 false] = some (.int .i64 (cmpL xs ys)) := by
  refine callPure_of (wpF_of tab_39 rfl ?_)
  simp [f39, enter, head, mask, f39_0m]
  refine cmp_loop2 hxy hlen (S := []) (Nat.zero_le _) ?_ ?_ xs.length 0 (by simp) rfl
  · intro tm hl h0 h1 hc
    simp [h0, h1, hxy, hl, hc]
  · intro tm hl h4
    simp [hl, h4]
theorem run_mcmp {a b : List Int} (ha : a.length = 8) (hb : b.length = 8) : callPure RT 17 [R8 a, R8 b] = some (.int .i64 (cmpL a b)) := by
  have h := run_compare (xs := a) (ys := b) (by omega) (by omega)
  obtain ⟨a0, a1, a2, a3, a4, a5, a6, a7, rfl⟩ := len8 ha
  obtain ⟨b0, b1, b2, b3, b4, b5, b6, b7, rfl⟩ := len8 hb
  refine callPure_of (wpF_of tab_17 rfl ?_)
  simp at h
  simp [f17, enter, sliceArr, bounds, chk, capAt, fzc, rd, chunk, h]
def dotL : List Int → List Int → List Int → Int
  | w :: ws, a :: as, b :: bs => w * (a - b) + dotL ws as bs
  | _, _, _ => 0
theorem mul_bd {w d W D : Int} (hw : -W ≤ w ∧ w ≤ W) (hd : -D ≤ d ∧ d ≤ D) : -(W * D) ≤ w * d ∧ w * d ≤ W * D := by
  have hW : 0 ≤ W := by omega
  have hD : 0 ≤ D := by omega
  have h : (w * d).natAbs ≤ (W * D).natAbs := by
    rw [Int.natAbs_mul, Int.natAbs_mul]
    exact Nat.mul_le_mul (by omega) (by omega)
  have h2 : 0 ≤ W * D := Int.mul_nonneg hW hD
  omega
set_option maxRecDepth 20000 in
theorem dot_loop {w a b : List Int} (hw : w.length = 8) (ha : a.length = 8) (hb : b.length = 8) (hwB : Bd 1000 w) (haB : Bd 200000 a) (hbB : Bd 200000 b) {x15 x16 x17 : AV} {S : Store} {b4 b5 : Nat} {e4 e5 : Bool}
    (h4 : S[b4]? = some (.mu (nums .i64 a) e4)) (h5 : S[b5]? = some (.mu (nums .i64 b) e5)) {Q : FQ}
    (hQ : ∀ (tm : List AV) (hl : tm.length = 48), tm[4] = .mptr b4 0 8 → tm[5] = .mptr b5 0 8 → tm[9] = .int .i64 (dotL w a b) → tm[15] = x15 → tm[16] = x16 → tm[17] = x17 → Q (.ex 2) ⟨tm, S⟩) :
    wpL RT f13_0m S.length f13_0 ⟨[.any, .any, .any, .any, .mptr b4 0 8, .mptr b5 0 8, .any, .any, .any, .int .i64 0, .any, .any, .any, .any, .any, x15, x16, x17, .any, .any, .any, R8 w, .int .i64 0] ++ List.replicate 25 .any, S⟩ Q := by
  obtain ⟨a0, a1, a2, a3, a4, a5, a6, a7, rfl⟩ := len8 ha
  obtain ⟨b0, b1, b2, b3, b4', b5', b6, b7, rfl⟩ := len8 hb
  obtain ⟨w0, w1, w2, w3, w4, w5, w6, w7, rfl⟩ := len8 hw
  simp [Bd] at hwB haB hbB
  simp [wpL_step, head, f13_0m, f13_0, mask, rd, h4, h5, chk, List.replicate, trunc_len (Nat.le_refl _)]
  refine hQ _ rfl rfl rfl ?_ rfl rfl rfl
  have d0 := mul_bd (D := 400000) hwB.1 (show -400000 ≤ a0 - b0 ∧ a0 - b0 ≤ 400000 by omega)
  have d1 := mul_bd (D := 400000) hwB.2.1 (show -400000 ≤ a1 - b1 ∧ a1 - b1 ≤ 400000 by omega)
  have d2 := mul_bd (D := 400000) hwB.2.2.1 (show -400000 ≤ a2 - b2 ∧ a2 - b2 ≤ 400000 by omega)
  have d3 := mul_bd (D := 400000) hwB.2.2.2.1 (show -400000 ≤ a3 - b3 ∧ a3 - b3 ≤ 400000 by omega)
  have d4 := mul_bd (D := 400000) hwB.2.2.2.2.1 (show -400000 ≤ a4 - b4' ∧ a4 - b4' ≤ 400000 by omega)
  have d5 := mul_bd (D := 400000) hwB.2.2.2.2.2.1 (show -400000 ≤ a5 - b5' ∧ a5 - b5' ≤ 400000 by omega)
  have d6 := mul_bd (D := 400000) hwB.2.2.2.2.2.2.1 (show -400000 ≤ a6 - b6 ∧ a6 - b6 ≤ 400000 by omega)
  have d7 := mul_bd (D := 400000) hwB.2.2.2.2.2.2.2 (show -400000 ≤ a7 - b7 ∧ a7 - b7 ≤ 400000 by omega)
  simp
  simp (disch := omega) only [wrap_i64, dotL]
  omega
end Go.AVM
