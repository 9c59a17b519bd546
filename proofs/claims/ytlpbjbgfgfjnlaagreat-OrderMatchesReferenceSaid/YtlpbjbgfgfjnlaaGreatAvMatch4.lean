/- Texts joined: AvF0. -/
import Derived.Test.YtlpbjbgfgfjnlaaGreatAvMatch1
set_option linter.unusedVariables false
set_option linter.unusedSimpArgs false
set_option linter.unusedSectionVars false
namespace Go.AVM
abbrev oA (d : Nat) (k : K) (a : List Opd) : ROp := ⟨some d, k, a, none⟩
abbrev oN (k : K) (a : List Opd) : ROp := ⟨none, k, a, none⟩
abbrev oG (d : Nat) (k : K) (a : List Opd) (t : Nat) (b : Bool) : ROp := ⟨some d, k, a, some (t, b)⟩
def tab256 : ByteArray := ⟨#[0, 1, 2, 2, 3, 3, 3, 3, 4, 4, 4, 4, 4, 4, 4, 4, 5, 5, 5, 5, 5, 5, 5, 5, 5, 5, 5, 5, 5, 5, 5, 5, 6, 6, 6, 6, 6, 6, 6, 6, 6, 6, 6, 6, 6, 6, 6, 6, 6, 6, 6, 6, 6, 6, 6, 6, 6, 6, 6, 6, 6, 6, 6, 6, 7, 7, 7, 7, 7, 7, 7, 7, 7, 7, 7, 7, 7, 7, 7, 7, 7, 7, 7, 7, 7, 7, 7, 7, 7, 7, 7, 7, 7, 7, 7, 7, 7, 7, 7, 7, 7, 7, 7, 7, 7, 7, 7, 7, 7, 7, 7, 7, 7, 7, 7, 7, 7, 7, 7, 7, 7, 7, 7, 7, 7, 7, 7, 7, 8, 8, 8, 8, 8, 8, 8, 8, 8, 8, 8, 8, 8, 8, 8, 8, 8, 8, 8, 8, 8, 8, 8, 8, 8, 8, 8, 8, 8, 8, 8, 8, 8, 8, 8, 8, 8, 8, 8, 8, 8, 8, 8, 8, 8, 8, 8, 8, 8, 8, 8, 8, 8, 8, 8, 8, 8, 8, 8, 8, 8, 8, 8, 8, 8, 8, 8, 8, 8, 8, 8, 8, 8, 8, 8, 8, 8, 8, 8, 8, 8, 8, 8, 8, 8, 8, 8, 8, 8, 8, 8, 8, 8, 8, 8, 8, 8, 8, 8, 8, 8, 8, 8, 8, 8, 8, 8, 8, 8, 8, 8, 8, 8, 8, 8, 8, 8, 8, 8, 8, 8, 8, 8, 8, 8, 8, 8, 8]⟩
def f8 : AF := ⟨0, 118, [.t 0],
 (.seq
 (.reg [oA 0 .mv [.c (.bool false)]])
 ((.seq
 (.reg [oA 12 (.call .pure false 34) [.c (.int .i64 1), .c (.int .i64 5)],
 oA 13 (.call .pure false 34) [.c (.int .i64 0), .c (.int .i64 1)],
 oA 1 (.alloc (List.replicate 8 (.int .i64 0))) [],
 oA 2 (.alloc (List.replicate 8 (.int .i64 0))) [],
 oN (.store 8) [.t 1, .t 12],
 oN (.store 8) [.t 2, .t 13]])
 ((.seq
 (.reg [oA 14 (.build (List.replicate 8 (.int .i64 0)) [(0, 1), (1, 1), (2, 1)]) [.c (.int .i64 1), .c (.int .i64 0), .c (.int .i64 1)],
 oA 15 (.call .pure false 34) [.c (.int .i64 1), .c (.int .i64 2)],
 oA 3 (.alloc (List.replicate 8 (.int .i64 0))) [],
 oA 4 (.alloc (List.replicate 8 (.int .i64 0))) [],
 oN (.store 8) [.t 3, .t 14],
 oN (.store 8) [.t 4, .t 15]])
 ((.seq
 (.reg [oA 16 (.build (List.replicate 8 (.int .i64 0)) [(0, 1), (1, 1), (2, 1), (3, 1), (4, 1), (5, 1), (6, 1), (7, 1)]) [.c (.int .i64 1), .c (.int .i64 3), .c (.int .i64 0), .c (.int .i64 0), .c (.int .i64 0), .c (.int .i64 0), .c (.int .i64 0), .c (.int .i64 0)],
 oA 17 (.lit 8 (.agg (List.replicate 8 (.int .i64 0))) 1 [0]) [.t 16],
 oA 5 .mv [.t 17]])
 ((.seq
 ((.seq
 (.reg [oA 18 (.call .pure true 19) [],
 oA 19 (.load true 8) [.t 2],
 oA 20 (.load true 8) [.t 1],
 oA 21 (.call .pure true 13) [.t 18, .t 19, .t 20],
 oA 22 (.bin .neq) [.t 21, .c (.int .i64 1)],
 oA 23 .mv [.t 22],
 oG 24 (.call .pure true 20) [] 23 false,
 oG 25 (.load true 8) [.t 2] 23 false,
 oG 26 (.load true 8) [.t 1] 23 false,
 oG 27 (.call .pure true 13) [.t 24, .t 25, .t 26] 23 false,
 oG 28 (.bin .neq) [.t 27, .c (.int .i64 (-1))] 23 false,
 oA 29 .pick [.t 23, .c (.bool true), .t 28],
 oA 30 .mv [.t 29],
 oG 31 (.call .pure true 21) [] 30 false,
 oG 32 (.load true 8) [.t 3] 30 false,
 oG 33 (.load true 8) [.t 4] 30 false,
 oG 34 (.call .pure true 13) [.t 31, .t 32, .t 33] 30 false,
 oG 35 (.bin .neq) [.t 34, .c (.int .i64 (-1))] 30 false,
 oA 36 .pick [.t 30, .c (.bool true), .t 35],
 oA 37 .mv [.t 36],
 oG 38 (.call .pure true 20) [] 37 false,
 oG 39 (.load true 8) [.t 3] 37 false,
 oG 40 (.load true 8) [.t 4] 37 false,
 oG 41 (.call .pure true 13) [.t 38, .t 39, .t 40] 37 false,
 oG 42 (.bin .neq) [.t 41, .c (.int .i64 1)] 37 false,
 oA 43 .pick [.t 37, .c (.bool true), .t 42],
 oA 44 .mv [.t 43],
 oG 45 .mv [.t 5] 44 false,
 oG 46 (.call .pure true 34) [.c (.int .i64 1), .c (.int .i64 1)] 44 false,
 oG 47 (.call .pure true 34) [.c (.int .i64 0), .c (.int .i64 3)] 44 false,
 oG 48 (.call .pure true 13) [.t 45, .t 46, .t 47] 44 false,
 oG 49 (.bin .neq) [.t 48, .c (.int .i64 (-1))] 44 false,
 oA 50 .pick [.t 44, .c (.bool true), .t 49]])
 (.cond (.t 50)
 ((.seq
 (.reg [oA 0 .mv [.c (.bool false)]])
 (.ret)))
 (.skip))))
 ((.seq
 (.reg [oA 52 (.call .pure false 19) [],
 oA 53 (.call .pure false 28) [.t 52],
 oA 51 .mv [.t 53],
 oA 54 (.ext 0) [.t 51],
 oA 55 (.ext 1) [.t 51],
 oA 6 .mv [.t 54],
 oA 7 .mv [.t 55]])
 ((.seq
 (.reg [oA 57 (.call .pure false 20) [],
 oA 58 (.call .pure false 28) [.t 57],
 oA 56 .mv [.t 58],
 oA 59 (.ext 0) [.t 56],
 oA 60 (.ext 1) [.t 56],
 oA 8 .mv [.t 59],
 oA 9 .mv [.t 60]])
 ((.seq
 (.reg [oA 62 (.call .pure false 21) [],
 oA 63 (.call .pure false 28) [.t 62],
 oA 61 .mv [.t 63],
 oA 64 (.ext 0) [.t 61],
 oA 65 (.ext 1) [.t 61],
 oA 10 .mv [.t 64],
 oA 11 .mv [.t 65]])
 ((.seq
 ((.seq
 (.reg [oA 66 (.call .pure true 21) [],
 oA 67 (.call .pure true 22) [.t 66, .c (.int .u8 1)],
 oA 68 .mv [.t 67],
 oG 69 (.call .pure true 23) [.c (.int .u8 2)] 68 false,
 oG 70 (.call .pure true 22) [.t 69, .c (.int .u8 2)] 68 false,
 oG 71 (.un .not) [.t 70] 68 false,
 oA 72 .pick [.t 68, .c (.bool true), .t 71],
 oA 73 .mv [.t 72],
 oG 74 (.call .pure true 19) [] 73 false,
 oG 75 (.load true 8) [.t 1] 73 false,
 oG 76 (.load true 8) [.t 2] 73 false,
 oG 77 (.load true 8) [.t 1] 73 false,
 oG 78 (.lit 8 (.agg (List.replicate 8 (.int .i64 0))) 3 [0, 1, 2]) [.t 75, .t 76, .t 77] 73 false,
 oG 79 (.call .pure true 11) [.t 74, .t 78] 73 false,
 oG 80 .len [.t 79] 73 false,
 oG 81 (.bin .neq) [.t 80, .c (.int .i64 2)] 73 false,
 oA 82 .pick [.t 73, .c (.bool true), .t 81]])
 (.cond (.t 82)
 ((.seq
 (.reg [oA 0 .mv [.c (.bool false)]])
 (.ret)))
 (.skip))))
 ((.seq
 (.reg [oA 83 .mv [.t 7],
 oA 84 (.bin .eql) [.t 83, .c (.int .i64 0)],
 oA 85 .mv [.t 84],
 oG 86 .mv [.t 9] 85 true,
 oG 87 (.bin .eql) [.t 86, .c (.int .i64 0)] 85 true,
 oA 88 .pick [.t 85, .t 87, .c (.bool false)],
 oA 89 .mv [.t 88],
 oG 90 .mv [.t 11] 89 true,
 oG 91 (.bin .eql) [.t 90, .c (.int .i64 0)] 89 true,
 oA 92 .pick [.t 89, .t 91, .c (.bool false)],
 oA 93 .mv [.t 92],
 oG 94 .mv [.t 6] 93 true,
 oG 95 .len [.t 94] 93 true,
 oG 96 (.bin .eql) [.t 95, .c (.int .i64 8)] 93 true,
 oA 97 .pick [.t 93, .t 96, .c (.bool false)],
 oA 98 .mv [.t 97],
 oG 99 .mv [.t 8] 98 true,
 oG 100 .len [.t 99] 98 true,
 oG 101 (.bin .eql) [.t 100, .c (.int .i64 9)] 98 true,
 oA 102 .pick [.t 98, .t 101, .c (.bool false)],
 oA 103 .mv [.t 102],
 oG 104 .mv [.t 10] 103 true,
 oG 105 .len [.t 104] 103 true,
 oG 106 (.bin .eql) [.t 105, .c (.int .i64 8)] 103 true,
 oA 107 .pick [.t 103, .t 106, .c (.bool false)],
 oA 108 .mv [.t 107],
 oG 109 .mv [.t 5] 108 true,
 oG 110 (.call .pure false 24) [.t 109] 108 true,
 oA 111 .pick [.t 108, .t 110, .c (.bool false)],
 oA 112 .mv [.t 111],
 oG 113 (.build (List.replicate 8 (.int .i64 0)) [(0, 1)]) [.c (.int .i64 (-1))] 112 true,
 oG 114 (.lit 8 (.agg (List.replicate 8 (.int .i64 0))) 1 [0]) [.t 113] 112 true,
 oG 115 (.call .pure false 24) [.t 114] 112 true,
 oG 116 (.un .not) [.t 115] 112 true,
 oA 117 .pick [.t 112, .t 116, .c (.bool false)],
 oA 0 .mv [.t 117]])
 (.ret))))))))))))))))))))⟩
def f9_0m : List Bool := [false, true, false, true, true, true, true]
def f9_0 : AC :=
 (.seq
 ((.seq
 (.reg [oA 24 .mv [.t 6],
 oA 25 (.bin .lss) [.t 24, .c (.int .i64 8)]])
 (.cond (.t 25)
 (.skip)
 (.exit 2))))
 ((.seq
 (.block 3 (.reg [oA 28 .mv [.t 6],
 oA 29 (.faddr 0 1) [.t 1],
 oA 30 (.load false 1) [.t 29],
 oA 31 .mv [.t 4],
 oA 32 .mv [.t 6],
 oA 33 (.ias 8) [.t 30, .t 31],
 oA 34 (.iaa 8 1) [.t 33, .t 32],
 oA 35 (.load false 1) [.t 34],
 oA 36 (.conv .i64) [.t 35],
 oA 37 (.iaa 8 1) [.t 5, .t 28],
 oN (.store 1) [.t 37, .t 36]]))
 (.reg [oA 26 .mv [.t 6],
 oA 27 (.bin .add) [.t 26, .c (.int .i64 1)],
 oA 6 .mv [.t 27]]))))
def f9_1m : List Bool := [false, true, false, true, true]
def f9_1 : AC :=
 (.seq
 ((.seq
 (.reg [oA 12 .mv [.t 4],
 oA 13 (.faddr 0 1) [.t 1],
 oA 14 (.load false 1) [.t 13],
 oA 15 .len [.t 14],
 oA 16 (.bin .lss) [.t 12, .t 15],
 oA 17 .mv [.t 16],
 oG 18 .mv [.t 4] 17 true,
 oG 19 (.bin .lss) [.t 18, .c (.int .i64 6)] 17 true,
 oA 20 .pick [.t 17, .t 19, .c (.bool false)]])
 (.cond (.t 20)
 (.skip)
 (.exit 0))))
 ((.seq
 (.block 1 ((.seq
 (.reg [oA 23 (.build (List.replicate 8 (.int .i64 0)) []) [],
 oA 5 (.alloc (List.replicate 8 (.int .i64 0))) [],
 oN (.store 8) [.t 5, .t 23]])
 ((.seq
 ((.seq
 (.reg [oA 6 .mv [.c (.int .i64 0)]])
 (.block 2 (.loop f9_0m f9_0))))
 (.reg [oA 38 .mv [.t 3],
 oA 39 (.load true 8) [.t 5],
 oA 40 (.lit 8 (.agg (List.replicate 8 (.int .i64 0))) 1 [0]) [.t 39],
 oA 41 (.app 8 64) [.t 38, .t 40],
 oA 3 .mv [.t 41]]))))))
 (.reg [oA 21 .mv [.t 4],
 oA 22 (.bin .add) [.t 21, .c (.int .i64 1)],
 oA 4 .mv [.t 22]]))))
def f9_2m : List Bool := [false, false, false, true, false, false, false, true, true, true]
def f9_2 : AC :=
 (.seq
 ((.seq
 (.reg [oA 46 .mv [.t 9],
 oA 47 .mv [.t 3],
 oA 48 .len [.t 47],
 oA 49 (.bin .lss) [.t 46, .t 48]])
 (.cond (.t 49)
 (.skip)
 (.exit 6))))
 ((.seq
 (.block 7 ((.seq
 (.reg [oA 52 .mv [.t 8],
 oA 53 (.bin .eql) [.t 52, .c (.int .i64 0)]])
 (.cond (.t 53)
 (.reg [oA 54 .mv [.t 3],
 oA 55 .mv [.t 9],
 oA 56 .mv [.t 7],
 oA 57 (.ias 8) [.t 54, .t 55],
 oA 58 (.iaa 8 1) [.t 57, .t 56],
 oA 59 (.load false 1) [.t 58],
 oA 8 .mv [.t 59]])
 (.skip)))))
 (.reg [oA 50 .mv [.t 9],
 oA 51 (.bin .add) [.t 50, .c (.int .i64 1)],
 oA 9 .mv [.t 51]]))))
def f9_3m : List Bool := [false, false, false, true, false, false, false, true, true, false, true]
def f9_3 : AC :=
 (.seq
 ((.seq
 (.reg [oA 60 .mv [.t 10],
 oA 61 .mv [.t 3],
 oA 62 .len [.t 61],
 oA 63 (.bin .lss) [.t 60, .t 62],
 oA 64 .mv [.t 63],
 oG 65 .mv [.t 8] 64 true,
 oG 66 (.bin .lss) [.t 65, .c (.int .i64 0)] 64 true,
 oA 67 .pick [.t 64, .t 66, .c (.bool false)]])
 (.cond (.t 67)
 (.skip)
 (.exit 8))))
 ((.seq
 (.block 9 (.reg [oA 70 .mv [.t 3],
 oA 71 .mv [.t 10],
 oA 72 .mv [.t 7],
 oA 73 .mv [.t 3],
 oA 74 .mv [.t 10],
 oA 75 .mv [.t 7],
 oA 76 (.ias 8) [.t 73, .t 74],
 oA 77 (.iaa 8 1) [.t 76, .t 75],
 oA 78 (.load false 1) [.t 77],
 oA 79 (.un .neg) [.t 78],
 oA 80 (.ias 8) [.t 70, .t 71],
 oA 81 (.iaa 8 1) [.t 80, .t 72],
 oN (.store 1) [.t 81, .t 79]]))
 (.reg [oA 68 .mv [.t 10],
 oA 69 (.bin .add) [.t 68, .c (.int .i64 1)],
 oA 10 .mv [.t 69]]))))
def f9_4m : List Bool := [false, false, false, true, false, false, false, true]
def f9_4 : AC :=
 (.seq
 ((.seq
 (.reg [oA 42 .mv [.t 7],
 oA 43 (.bin .lss) [.t 42, .c (.int .i64 8)]])
 (.cond (.t 43)
 (.skip)
 (.exit 4))))
 ((.seq
 (.block 5 ((.seq
 (.reg [oA 8 .mv [.c (.int .i64 0)]])
 ((.seq
 ((.seq
 (.reg [oA 9 .mv [.c (.int .i64 0)]])
 (.block 6 (.loop f9_2m f9_2))))
 ((.seq
 (.reg [oA 10 .mv [.c (.int .i64 0)]])
 (.block 8 (.loop f9_3m f9_3)))))))))
 (.reg [oA 44 .mv [.t 7],
 oA 45 (.bin .add) [.t 44, .c (.int .i64 1)],
 oA 7 .mv [.t 45]]))))
def f9 : AF := ⟨1, 83, [.t 2],
 (.seq
 (.reg [oA 1 (.box 1) [.t 0],
 oA 2 .mv [.c (.sl [] 8 true)]])
 ((.seq
 (.reg [oA 11 (.lit 8 (.agg (List.replicate 8 (.int .i64 0))) 0 []) [],
 oA 3 .mv [.t 11]])
 ((.seq
 ((.seq
 (.reg [oA 4 .mv [.c (.int .i64 0)]])
 (.block 0 (.loop f9_1m f9_1))))
 ((.seq
 ((.seq
 (.reg [oA 7 .mv [.c (.int .i64 0)]])
 (.block 4 (.loop f9_4m f9_4))))
 ((.seq
 (.reg [oA 82 .mv [.t 3],
 oA 2 .mv [.t 82]])
 (.ret))))))))))⟩
def f10_0m : List Bool := [true, false, false, true, true]
def f10_0 : AC :=
 (.seq
 ((.seq
 (.reg [oA 6 .mv [.t 4],
 oA 7 .mv [.t 0],
 oA 8 .len [.t 7],
 oA 9 (.bin .lss) [.t 6, .t 8],
 oA 10 .mv [.t 9],
 oG 11 .mv [.t 4] 10 true,
 oG 12 (.bin .lss) [.t 11, .c (.int .i64 8)] 10 true,
 oA 13 .pick [.t 10, .t 12, .c (.bool false)]])
 (.cond (.t 13)
 (.skip)
 (.exit 0))))
 ((.seq
 (.block 1 (.reg [oA 16 .mv [.t 3],
 oA 17 .mv [.t 0],
 oA 18 .mv [.t 4],
 oA 19 (.ias 8) [.t 17, .t 18],
 oA 20 (.load true 8) [.t 19],
 oA 21 (.call .pure false 15) [.t 20],
 oA 22 (.lit 8 (.agg (List.replicate 8 (.int .i64 0))) 1 [0]) [.t 21],
 oA 23 (.app 8 64) [.t 16, .t 22],
 oA 3 .mv [.t 23]]))
 (.reg [oA 14 .mv [.t 4],
 oA 15 (.bin .add) [.t 14, .c (.int .i64 1)],
 oA 4 .mv [.t 15]]))))
def f10 : AF := ⟨1, 25, [.t 2],
 (.seq
 (.reg [oA 2 .mv [.c (.sl [] 8 true)]])
 ((.seq
 (.reg [oA 5 (.lit 8 (.agg (List.replicate 8 (.int .i64 0))) 0 []) [],
 oA 3 .mv [.t 5]])
 ((.seq
 ((.seq
 (.reg [oA 4 .mv [.c (.int .i64 0)]])
 (.block 0 (.loop f10_0m f10_0))))
 ((.seq
 (.reg [oA 24 .mv [.t 3],
 oA 2 .mv [.t 24]])
 (.ret))))))))⟩
def f13_0m : List Bool := [false, false, false, false, true, true, false, false, false, true, false, false, false, false, false, true, true, true, false, false, false, true, true]
def f13_0 : AC :=
 (.seq
 (.reg [oA 23 (.bin .lss) [.t 22, .c (.int .i64 8)]])
 ((.seq
 (.cond (.t 23)
 (.skip)
 (.exit 2))
 ((.seq
 (.block 3 ((.seq
 (.reg [oA 24 .mv [.t 22],
 oA 25 (.ixa false 8 1) [.t 21, .t 22],
 oA 10 .mv [.t 24],
 oA 11 .mv [.t 25]])
 (.reg [oA 26 .mv [.t 9],
 oA 27 .mv [.t 11],
 oA 28 .mv [.t 10],
 oA 29 (.iaa 8 1) [.t 4, .t 28],
 oA 30 (.load false 1) [.t 29],
 oA 31 .mv [.t 10],
 oA 32 (.iaa 8 1) [.t 5, .t 31],
 oA 33 (.load false 1) [.t 32],
 oA 34 (.bin .sub) [.t 30, .t 33],
 oA 35 (.bin .mul) [.t 27, .t 34],
 oA 36 (.bin .add) [.t 26, .t 35],
 oA 9 .mv [.t 36]]))))
 (.reg [oA 37 (.bin .add) [.t 22, .c (.int .i64 1)],
 oA 22 .mv [.t 37]]))))))
def f13_1m : List Bool := [false, false, false, false, true, true, false, false, false, false, false, false, false, false, false, true, true, true]
def f13_1 : AC :=
 (.seq
 (.reg [oA 18 (.bin .lss) [.t 17, .t 16]])
 ((.seq
 (.cond (.t 18)
 (.skip)
 (.exit 0))
 ((.seq
 (.block 1 ((.seq
 (.reg [oA 19 (.ias 8) [.t 15, .t 17],
 oA 20 (.load true 8) [.t 19],
 oA 8 (.alloc (List.replicate 8 (.int .i64 0))) [],
 oN (.store 8) [.t 8, .t 20]])
 ((.seq
 (.reg [oA 9 .mv [.c (.int .i64 0)]])
 ((.seq
 ((.seq
 (.reg [oA 21 (.load true 8) [.t 8],
 oA 22 .mv [.c (.int .i64 0)]])
 (.block 2 (.loop f13_0m f13_0))))
 (.block 4 ((.seq
 (.reg [oA 39 .mv [.t 9],
 oA 40 (.bin .lss) [.t 39, .c (.int .i64 0)],
 oA 38 .mv [.t 40]])
 (.cond (.t 38)
 ((.seq
 (.reg [oA 6 .mv [.c (.int .i64 (-1))]])
 (.ret)))
 ((.seq
 (.reg [oA 42 .mv [.t 9],
 oA 43 (.bin .gtr) [.t 42, .c (.int .i64 0)],
 oA 41 .mv [.t 43]])
 (.cond (.t 41)
 ((.seq
 (.reg [oA 6 .mv [.c (.int .i64 1)]])
 (.ret)))
 (.skip)))))))))))))))
 (.reg [oA 44 (.bin .add) [.t 17, .c (.int .i64 1)],
 oA 17 .mv [.t 44]]))))))
def f13 : AF := ⟨3, 48, [.t 6],
 (.seq
 (.reg [oA 4 (.box 8) [.t 1],
 oA 5 (.box 8) [.t 2],
 oA 6 .mv [.c (.int .i64 0)]])
 ((.seq
 ((.seq
 (.reg [oA 12 (.load true 8) [.t 4],
 oA 13 (.load true 8) [.t 5],
 oA 14 (.eqa false (some .i64) 8) [.t 12, .t 13]])
 (.cond (.t 14)
 ((.seq
 (.reg [oA 6 .mv [.c (.int .i64 0)]])
 (.ret)))
 (.skip))))
 ((.seq
 ((.seq
 (.reg [oA 15 .mv [.t 0],
 oA 16 .len [.t 15],
 oA 17 .mv [.c (.int .i64 0)]])
 (.block 0 (.loop f13_1m f13_1))))
 ((.seq
 (.reg [oA 45 (.load true 8) [.t 4],
 oA 46 (.load true 8) [.t 5],
 oA 47 (.call .pure false 17) [.t 45, .t 46],
 oA 6 .mv [.t 47]])
 (.ret))))))))⟩
def f27_0m : List Bool := [false, false, true, true, true, true, true]
def f27_0 : AC :=
 (.seq
 ((.seq
 (.reg [oA 12 .mv [.t 6],
 oA 13 (.bin .lss) [.t 12, .c (.int .i64 8)]])
 (.cond (.t 13)
 (.skip)
 (.exit 0))))
 ((.seq
 (.block 1 ((.seq
 (.reg [oA 16 .mv [.t 5],
 oA 17 .mv [.t 3],
 oA 18 .len [.t 17],
 oA 19 (.bin .rem) [.t 16, .t 18],
 oA 7 .mv [.t 19]])
 ((.seq
 (.reg [oA 20 .mv [.t 5],
 oA 21 .mv [.t 3],
 oA 22 .len [.t 21],
 oA 23 (.bin .quo) [.t 20, .t 22],
 oA 5 .mv [.t 23]])
 ((.seq
 (.reg [oA 24 .mv [.t 6],
 oA 25 .mv [.t 3],
 oA 26 .mv [.t 7],
 oA 27 (.ias 1) [.t 25, .t 26],
 oA 28 (.load false 1) [.t 27],
 oA 29 (.iaa 8 1) [.t 4, .t 24],
 oN (.store 1) [.t 29, .t 28]])
 (.reg [oA 30 (.lit 1 (.int .i64 0) 0 []) [],
 oA 31 .mv [.t 3],
 oA 32 .mv [.t 7],
 oA 33 (.slc 1 false true false) [.t 31, .t 32],
 oA 34 (.app 1 8) [.t 30, .t 33],
 oA 35 .mv [.t 3],
 oA 36 .mv [.t 7],
 oA 37 (.bin .add) [.t 36, .c (.int .i64 1)],
 oA 38 (.slc 1 true false false) [.t 35, .t 37],
 oA 39 (.app 1 8) [.t 34, .t 38],
 oA 3 .mv [.t 39]]))))))))
 (.reg [oA 14 .mv [.t 6],
 oA 15 (.bin .add) [.t 14, .c (.int .i64 1)],
 oA 6 .mv [.t 15]]))))
def f27 : AF := ⟨1, 41, [.c 2 true 8],
 (.seq
 (.reg [oA 2 (.alloc (List.replicate 8 (.int .i64 0))) []])
 ((.seq
 (.reg [oA 8 (.lit 1 (.int .i64 0) 8 [0, 1, 2, 3, 4, 5, 6, 7]) [.c (.int .i64 0), .c (.int .i64 1), .c (.int .i64 2), .c (.int .i64 3), .c (.int .i64 4), .c (.int .i64 5), .c (.int .i64 6), .c (.int .i64 7)],
 oA 9 (.build (List.replicate 8 (.int .i64 0)) []) [],
 oA 10 .mv [.t 0],
 oA 11 (.conv .i64) [.t 10],
 oA 4 (.alloc (List.replicate 8 (.int .i64 0))) [],
 oA 3 .mv [.t 8],
 oN (.store 8) [.t 4, .t 9],
 oA 5 .mv [.t 11]])
 ((.seq
 ((.seq
 (.reg [oA 6 .mv [.c (.int .i64 0)]])
 (.block 0 (.loop f27_0m f27_0))))
 ((.seq
 (.reg [oA 40 (.load true 8) [.t 4],
 oN (.store 8) [.t 2, .t 40]])
 (.ret))))))))⟩
def f28_0m : List Bool := [false, false, false, false, true, false, false, false, false, false, false, false, false, false, true]
def f28_0 : AC :=
 (.seq
 (.reg [oA 15 (.bin .lss) [.t 14, .c (.int .i64 8)]])
 ((.seq
 (.cond (.t 15)
 (.skip)
 (.exit 0))
 ((.seq
 (.block 1 ((.seq
 (.reg [oA 16 .mv [.t 14],
 oA 5 .mv [.t 16]])
 (.reg [oA 17 .mv [.t 4],
 oA 18 .mv [.t 5],
 oA 19 (.call .pure false 41) [.t 18, .c (.int .i64 1)],
 oA 20 (.lit 8 (.agg (List.replicate 8 (.int .i64 0))) 1 [0]) [.t 19],
 oA 21 (.app 8 64) [.t 17, .t 20],
 oA 4 .mv [.t 21]]))))
 (.reg [oA 22 (.bin .add) [.t 14, .c (.int .i64 1)],
 oA 14 .mv [.t 22]]))))))
def f28 : AF := ⟨1, 27, [.t 2, .t 3],
 (.seq
 (.reg [oA 2 .mv [.c (.sl [] 8 true)],
 oA 3 .mv [.c (.int .i64 0)]])
 ((.seq
 ((.seq
 (.reg [oA 6 .mv [.t 0],
 oA 7 (.call .pure false 24) [.t 6],
 oA 8 (.un .not) [.t 7]])
 (.cond (.t 8)
 ((.seq
 (.reg [oA 2 .mv [.c (.sl [] 8 true)],
 oA 3 .mv [.c (.int .i64 50)]])
 (.ret)))
 (.skip))))
 ((.seq
 (.reg [oA 9 .mv [.t 0],
 oA 10 (.clone 8 64) [.t 9],
 oA 4 .mv [.t 10]])
 ((.seq
 ((.seq
 (.reg [oA 11 .mv [.t 0],
 oA 12 (.call .pure false 45) [.t 11]])
 (.cond (.t 12)
 ((.seq
 (.reg [oA 13 .mv [.t 4],
 oA 2 .mv [.t 13],
 oA 3 .mv [.c (.int .i64 0)]])
 (.ret)))
 (.skip))))
 ((.seq
 ((.seq
 (.reg [oA 14 .mv [.c (.int .i64 0)]])
 (.block 0 (.loop f28_0m f28_0))))
 ((.seq
 ((.seq
 (.reg [oA 23 .mv [.t 4],
 oA 24 .len [.t 23],
 oA 25 (.bin .gtr) [.t 24, .c (.int .i64 24)]])
 (.cond (.t 25)
 ((.seq
 (.reg [oA 2 .mv [.c (.sl [] 8 true)],
 oA 3 .mv [.c (.int .i64 2)]])
 (.ret)))
 (.skip))))
 ((.seq
 (.reg [oA 26 .mv [.t 4],
 oA 2 .mv [.t 26],
 oA 3 .mv [.c (.int .i64 0)]])
 (.ret))))))))))))))⟩
def f29_0m : List Bool := [true, false, false, true, false, false, true, false, false, false, false, false, false, false, false, false, false, false, true, true]
def f29_0 : AC :=
 (.seq
 (.reg [oA 20 (.bin .lss) [.t 19, .c (.int .i64 8)]])
 ((.seq
 (.cond (.t 20)
 (.skip)
 (.exit 0))
 ((.seq
 (.block 1 ((.seq
 (.reg [oA 21 (.ixa false 8 1) [.t 18, .t 19],
 oA 8 .mv [.t 21]])
 ((.seq
 ((.seq
 (.reg [oA 22 .mv [.t 8],
 oA 23 (.bin .lss) [.t 22, .c (.int .i64 0)],
 oA 24 .mv [.t 23],
 oG 25 .mv [.t 8] 24 false,
 oG 26 (.bin .geq) [.t 25, .c (.int .i64 8)] 24 false,
 oA 27 .pick [.t 24, .c (.bool true), .t 26],
 oA 28 .mv [.t 27],
 oG 29 .mv [.t 8] 28 false,
 oG 30 (.iaa 8 1) [.t 6, .t 29] 28 false,
 oG 31 (.load false 1) [.t 30] 28 false,
 oA 32 .pick [.t 28, .c (.bool true), .t 31]])
 (.cond (.t 32)
 ((.seq
 (.reg [oA 4 .mv [.c (.sl [] 8 true)],
 oA 5 .mv [.c (.int .i64 1)]])
 (.ret)))
 (.skip))))
 (.reg [oA 33 .mv [.t 8],
 oA 34 (.iaa 8 1) [.t 6, .t 33],
 oN (.store 1) [.t 34, .c (.bool true)]]))))))
 (.reg [oA 35 (.bin .add) [.t 19, .c (.int .i64 1)],
 oA 19 .mv [.t 35]]))))))
def f29_1m : List Bool := [false, false, false, true, false, false, false, false, false, true, true, true, false, false, false, false, false, false, false, false, false, false, false, false, false, false, false, false, false, false, false, false, false, false, false, false, false, false, false, false, false, true, true, true, false, false, false, false, true, true]
def f29_1 : AC :=
 (.seq
 (.reg [oA 50 (.bin .lss) [.t 49, .c (.int .i64 8)]])
 ((.seq
 (.cond (.t 50)
 (.skip)
 (.exit 4))
 ((.seq
 (.block 5 ((.seq
 (.reg [oA 51 .mv [.t 49],
 oA 52 (.ixa false 8 1) [.t 48, .t 49],
 oA 13 .mv [.t 51],
 oA 14 .mv [.t 52]])
 (.reg [oA 53 .mv [.t 9],
 oA 54 .mv [.t 11],
 oA 55 .mv [.t 13],
 oA 56 (.iaa 8 1) [.t 3, .t 55],
 oA 57 (.load false 1) [.t 56],
 oA 58 .mv [.t 14],
 oA 59 (.ias 8) [.t 53, .t 54],
 oA 60 (.iaa 8 1) [.t 59, .t 57],
 oN (.store 1) [.t 60, .t 58]]))))
 (.reg [oA 61 (.bin .add) [.t 49, .c (.int .i64 1)],
 oA 49 .mv [.t 61]]))))))
def f29_2m : List Bool := [false, false, false, true, false, false, false, false, false, true, true, false, false, false, false, false, false, false, false, false, false, false, false, false, false, false, false, false, false, false, false, false, false, false, false, false, false, false, false, false, false, true, true, true]
def f29_2 : AC :=
 (.seq
 (.reg [oA 44 (.bin .lss) [.t 43, .t 42]])
 ((.seq
 (.cond (.t 44)
 (.skip)
 (.exit 2))
 ((.seq
 (.block 3 ((.seq
 (.reg [oA 45 .mv [.t 43],
 oA 46 (.ias 8) [.t 41, .t 43],
 oA 47 (.load true 8) [.t 46],
 oA 12 (.alloc (List.replicate 8 (.int .i64 0))) [],
 oA 11 .mv [.t 45],
 oN (.store 8) [.t 12, .t 47]])
 ((.seq
 (.reg [oA 48 (.load true 8) [.t 12],
 oA 49 .mv [.c (.int .i64 0)]])
 (.block 4 (.loop f29_1m f29_1)))))))
 (.reg [oA 62 (.bin .add) [.t 43, .c (.int .i64 1)],
 oA 43 .mv [.t 62]]))))))
def f29 : AF := ⟨2, 65, [.t 4, .t 5],
 (.seq
 (.reg [oA 3 (.box 8) [.t 1],
 oA 4 .mv [.c (.sl [] 8 true)],
 oA 5 .mv [.c (.int .i64 0)]])
 ((.seq
 ((.seq
 (.reg [oA 15 .mv [.t 0],
 oA 16 (.call .pure false 24) [.t 15],
 oA 17 (.un .not) [.t 16]])
 (.cond (.t 17)
 ((.seq
 (.reg [oA 4 .mv [.c (.sl [] 8 true)],
 oA 5 .mv [.c (.int .i64 50)]])
 (.ret)))
 (.skip))))
 ((.seq
 (.reg [oA 6 (.alloc (List.replicate 8 (.bool false))) []])
 ((.seq
 ((.seq
 (.reg [oA 18 (.load true 8) [.t 3],
 oA 19 .mv [.c (.int .i64 0)]])
 (.block 0 (.loop f29_0m f29_0))))
 ((.seq
 (.reg [oA 37 .mv [.t 0],
 oA 38 (.call (.own 0) false 28) [.t 37],
 oA 36 .mv [.t 38],
 oA 39 (.ext 0) [.t 36],
 oA 40 (.ext 1) [.t 36],
 oA 9 .mv [.t 39],
 oA 10 .mv [.t 40]])
 ((.seq
 ((.seq
 (.reg [oA 41 .mv [.t 9],
 oA 42 .len [.t 41],
 oA 43 .mv [.c (.int .i64 0)]])
 (.block 2 (.loop f29_2m f29_2))))
 ((.seq
 (.reg [oA 63 .mv [.t 9],
 oA 64 .mv [.t 10],
 oA 4 .mv [.t 63],
 oA 5 .mv [.t 64]])
 (.ret))))))))))))))⟩
def f32_0m : List Bool := [true, true, false, false, false, true]
def f32_0 : AC :=
 (.seq
 ((.seq
 (.reg [oA 11 .mv [.t 5],
 oA 12 .mv [.t 0],
 oA 13 .len [.t 12],
 oA 14 (.bin .lss) [.t 11, .t 13]])
 (.cond (.t 14)
 (.skip)
 (.exit 0))))
 ((.seq
 (.block 1 ((.seq
 (.reg [oA 17 .mv [.t 0],
 oA 18 .mv [.t 5],
 oA 19 (.ias 8) [.t 17, .t 18],
 oA 20 (.load true 8) [.t 19],
 oA 21 .mv [.t 1],
 oA 22 .mv [.t 5],
 oA 23 (.ias 8) [.t 21, .t 22],
 oA 24 (.load true 8) [.t 23],
 oA 25 (.eqa true (some .i64) 8) [.t 20, .t 24]])
 (.cond (.t 25)
 ((.seq
 (.reg [oA 4 .mv [.c (.bool false)]])
 (.ret)))
 (.skip)))))
 (.reg [oA 15 .mv [.t 5],
 oA 16 (.bin .add) [.t 15, .c (.int .i64 1)],
 oA 5 .mv [.t 16]]))))
def f32 : AF := ⟨2, 26, [.t 4],
 (.seq
 (.reg [oA 4 .mv [.c (.bool false)]])
 ((.seq
 ((.seq
 (.reg [oA 6 .mv [.t 0],
 oA 7 .len [.t 6],
 oA 8 .mv [.t 1],
 oA 9 .len [.t 8],
 oA 10 (.bin .neq) [.t 7, .t 9]])
 (.cond (.t 10)
 ((.seq
 (.reg [oA 4 .mv [.c (.bool false)]])
 (.ret)))
 (.skip))))
 ((.seq
 ((.seq
 (.reg [oA 5 .mv [.c (.int .i64 0)]])
 (.block 0 (.loop f32_0m f32_0))))
 ((.seq
 (.reg [oA 4 .mv [.c (.bool true)]])
 (.ret))))))))⟩
def f14_0m : List Bool := [true, true, false, false, false, true]
def f14_0 : AC :=
 (.seq
 ((.seq
 (.reg [oA 11 .mv [.t 5],
 oA 12 .mv [.t 0],
 oA 13 .len [.t 12],
 oA 14 (.bin .lss) [.t 11, .t 13]])
 (.cond (.t 14)
 (.skip)
 (.exit 0))))
 ((.seq
 (.block 1 ((.seq
 (.reg [oA 17 .mv [.t 0],
 oA 18 .mv [.t 5],
 oA 19 (.ias 8) [.t 17, .t 18],
 oA 20 (.load true 8) [.t 19],
 oA 21 .mv [.t 1],
 oA 22 .mv [.t 5],
 oA 23 (.ias 8) [.t 21, .t 22],
 oA 24 (.load true 8) [.t 23],
 oA 25 (.eqa true (some .i64) 8) [.t 20, .t 24]])
 (.cond (.t 25)
 ((.seq
 (.reg [oA 4 .mv [.c (.bool false)]])
 (.ret)))
 (.skip)))))
 (.reg [oA 15 .mv [.t 5],
 oA 16 (.bin .add) [.t 15, .c (.int .i64 1)],
 oA 5 .mv [.t 16]]))))
def f14 : AF := ⟨2, 26, [.t 4],
 (.seq
 (.reg [oA 4 .mv [.c (.bool false)]])
 ((.seq
 ((.seq
 (.reg [oA 6 .mv [.t 0],
 oA 7 .len [.t 6],
 oA 8 .mv [.t 1],
 oA 9 .len [.t 8],
 oA 10 (.bin .neq) [.t 7, .t 9]])
 (.cond (.t 10)
 ((.seq
 (.reg [oA 4 .mv [.c (.bool false)]])
 (.ret)))
 (.skip))))
 ((.seq
 ((.seq
 (.reg [oA 5 .mv [.c (.int .i64 0)]])
 (.block 0 (.loop f14_0m f14_0))))
 ((.seq
 (.reg [oA 4 .mv [.c (.bool true)]])
 (.ret))))))))⟩
def f11 : AF := ⟨2, 13, [.t 4],
 (.seq
 (.reg [oA 2 (.box 1) [.t 0],
 oA 4 .mv [.c (.sl [] 8 true)]])
 ((.seq
 (.reg [oA 6 .mv [.t 1],
 oA 7 (.clone 8 64) [.t 6],
 oA 5 .mv [.t 7]])
 ((.seq
 (.reg [oA 8 .mv [.t 5],
 oA 9 (.mkfn 37) [.t 2],
 oA 10 (.call .sh false 36) [.t 8, .t 9]])
 ((.seq
 (.reg [oA 11 .mv [.t 5],
 oA 12 (.call .sh false 38) [.t 11],
 oA 4 .mv [.t 12]])
 (.ret))))))))⟩
def f22_0m : List Bool := [true, true, false, false, false, true, false, false, true, false, false, true]
def f22_0 : AC :=
 (.seq
 (.reg [oA 12 (.bin .lss) [.t 11, .c (.int .i64 8)]])
 ((.seq
 (.cond (.t 12)
 (.skip)
 (.exit 2))
 ((.seq
 (.block 3 ((.seq
 (.reg [oA 13 .mv [.t 11],
 oA 6 (.alloc [.int .i64 0]) [],
 oN (.store 1) [.t 6, .t 13]])
 ((.seq
 ((.seq
 (.reg [oA 14 .mv [.t 1],
 oA 15 (.load false 1) [.t 5],
 oA 16 (.bin .shr) [.t 14, .t 15],
 oA 17 (.bin .and) [.t 16, .c (.int .u8 1)],
 oA 18 (.bin .eql) [.t 17, .c (.int .u8 0)],
 oA 19 .mv [.t 18],
 oG 20 .mv [.t 1] 19 false,
 oG 21 (.load false 1) [.t 6] 19 false,
 oG 22 (.bin .shr) [.t 20, .t 21] 19 false,
 oG 23 (.bin .and) [.t 22, .c (.int .u8 1)] 19 false,
 oG 24 (.bin .eql) [.t 23, .c (.int .u8 1)] 19 false,
 oA 25 .pick [.t 19, .c (.bool true), .t 24]])
 (.cond (.t 25)
 (.exit 3)
 (.skip))))
 ((.seq
 (.reg [oA 26 .mv [.t 0],
 oA 27 (.mkfn 43) [.t 5, .t 6],
 oA 28 (.call .pure false 42) [.t 26, .t 27],
 oA 7 .mv [.t 28]])
 ((.seq
 (.reg [oA 29 .mv [.t 7],
 oA 30 (.bin .lss) [.t 29, .c (.int .i64 0)],
 oA 31 .mv [.t 30],
 oG 32 (.load false 1) [.t 5] 31 true,
 oG 33 (.load false 1) [.t 6] 31 true,
 oG 34 (.bin .gtr) [.t 32, .t 33] 31 true,
 oA 35 .pick [.t 31, .t 34, .c (.bool false)],
 oA 36 .mv [.t 35],
 oG 37 .mv [.t 7] 36 false,
 oG 38 (.bin .geq) [.t 37, .c (.int .i64 0)] 36 false,
 oG 39 .mv [.t 38] 36 false,
 oG 40 .mv [.t 0] 39 true,
 oG 41 .mv [.t 7] 39 true,
 oG 42 (.load false 1) [.t 6] 39 true,
 oG 43 (.ias 8) [.t 40, .t 41] 39 true,
 oG 44 (.iaa 8 1) [.t 43, .t 42] 39 true,
 oG 45 (.load false 1) [.t 44] 39 true,
 oG 46 (.bin .neq) [.t 45, .c (.int .i64 0)] 39 true,
 oG 47 .pick [.t 39, .t 46, .c (.bool false)] 36 false,
 oA 48 .pick [.t 36, .c (.bool true), .t 47]])
 (.cond (.t 48)
 ((.seq
 (.reg [oA 4 .mv [.c (.bool false)]])
 (.ret)))
 (.skip)))))))))))
 (.reg [oA 49 (.bin .add) [.t 11, .c (.int .i64 1)],
 oA 11 .mv [.t 49]]))))))
def f22_1m : List Bool := [true, true, false, false, false, false, false, false, true]
def f22_1 : AC :=
 (.seq
 (.reg [oA 9 (.bin .lss) [.t 8, .c (.int .i64 8)]])
 ((.seq
 (.cond (.t 9)
 (.skip)
 (.exit 0))
 ((.seq
 (.block 1 ((.seq
 (.reg [oA 10 .mv [.t 8],
 oA 5 (.alloc [.int .i64 0]) [],
 oN (.store 1) [.t 5, .t 10]])
 ((.seq
 (.reg [oA 11 .mv [.c (.int .i64 0)]])
 (.block 2 (.loop f22_0m f22_0)))))))
 (.reg [oA 50 (.bin .add) [.t 8, .c (.int .i64 1)],
 oA 8 .mv [.t 50]]))))))
def f22 : AF := ⟨2, 51, [.t 4],
 (.seq
 (.reg [oA 4 .mv [.c (.bool false)]])
 ((.seq
 ((.seq
 (.reg [oA 8 .mv [.c (.int .i64 0)]])
 (.block 0 (.loop f22_1m f22_1))))
 ((.seq
 (.reg [oA 4 .mv [.c (.bool true)]])
 (.ret))))))⟩
def f19 : AF := ⟨0, 2, [.t 0],
 (.seq
 (.reg [oA 0 .mv [.c (.sl [] 8 true)]])
 ((.seq
 (.reg [oA 1 (.lit 8 (.agg (List.replicate 8 (.int .i64 0))) 0 []) [],
 oA 0 .mv [.t 1]])
 (.ret))))⟩
def f20 : AF := ⟨0, 3, [.t 0],
 (.seq
 (.reg [oA 0 .mv [.c (.sl [] 8 true)]])
 ((.seq
 (.reg [oA 1 (.call .pure false 40) [.c (.int .u8 255)],
 oA 2 (.lit 8 (.agg (List.replicate 8 (.int .i64 0))) 1 [0]) [.t 1],
 oA 0 .mv [.t 2]])
 (.ret))))⟩
def f21_0m : List Bool := [false, true, true]
def f21_0 : AC :=
 (.seq
 ((.seq
 (.reg [oA 4 .mv [.t 2],
 oA 5 (.bin .gtr) [.t 4, .c (.int .i64 0)]])
 (.cond (.t 5)
 (.skip)
 (.exit 0))))
 ((.seq
 (.block 1 (.reg [oA 8 .mv [.t 1],
 oA 9 .mv [.t 2],
 oA 10 (.call .pure false 41) [.t 9, .c (.int .i64 (-1))],
 oA 11 (.lit 8 (.agg (List.replicate 8 (.int .i64 0))) 1 [0]) [.t 10],
 oA 12 (.app 8 64) [.t 8, .t 11],
 oA 1 .mv [.t 12]]))
 (.reg [oA 6 .mv [.t 2],
 oA 7 (.bin .sub) [.t 6, .c (.int .i64 1)],
 oA 2 .mv [.t 7]]))))
def f21 : AF := ⟨0, 14, [.t 0],
 (.seq
 (.reg [oA 0 .mv [.c (.sl [] 8 true)]])
 ((.seq
 (.reg [oA 3 (.call (.own 0) false 20) [],
 oA 1 .mv [.t 3]])
 ((.seq
 ((.seq
 (.reg [oA 2 .mv [.c (.int .i64 7)]])
 (.block 0 (.loop f21_0m f21_0))))
 ((.seq
 (.reg [oA 13 .mv [.t 1],
 oA 0 .mv [.t 13]])
 (.ret))))))))⟩
def f23 : AF := ⟨1, 8, [.t 2],
 (.seq
 (.reg [oA 2 .mv [.c (.sl [] 8 true)]])
 ((.seq
 (.reg [oA 3 .mv [.t 0],
 oA 4 (.call .pure false 40) [.t 3],
 oA 5 (.lit 8 (.agg (List.replicate 8 (.int .i64 0))) 1 [0]) [.t 4],
 oA 6 (.call .pure false 21) [],
 oA 7 (.app 8 64) [.t 5, .t 6],
 oA 2 .mv [.t 7]])
 (.ret))))⟩
def f24_0m : List Bool := [false, false, false, true, false, false, false, false, false, false, false, true, true, true, false, false, false, true, true]
def f24_0 : AC :=
 (.seq
 (.reg [oA 19 (.bin .lss) [.t 18, .c (.int .i64 8)]])
 ((.seq
 (.cond (.t 19)
 (.skip)
 (.exit 2))
 ((.seq
 (.block 3 ((.seq
 (.reg [oA 20 .mv [.t 18],
 oA 21 (.ixa false 8 1) [.t 17, .t 18],
 oA 6 .mv [.t 20],
 oA 7 .mv [.t 21]])
 ((.seq
 ((.seq
 (.reg [oA 22 .mv [.t 7],
 oA 23 (.bin .lss) [.t 22, .c (.int .i64 (-1000))],
 oA 24 .mv [.t 23],
 oG 25 .mv [.t 7] 24 false,
 oG 26 (.bin .gtr) [.t 25, .c (.int .i64 1000)] 24 false,
 oA 27 .pick [.t 24, .c (.bool true), .t 26],
 oA 28 .mv [.t 27],
 oG 29 .mv [.t 7] 28 false,
 oG 30 (.bin .lss) [.t 29, .c (.int .i64 0)] 28 false,
 oG 31 .mv [.t 30] 28 false,
 oG 32 .mv [.t 6] 31 true,
 oG 33 (.iaa 8 1) [.t 3, .t 32] 31 true,
 oG 34 (.load false 1) [.t 33] 31 true,
 oG 35 (.un .not) [.t 34] 31 true,
 oG 36 .pick [.t 31, .t 35, .c (.bool false)] 28 false,
 oA 37 .pick [.t 28, .c (.bool true), .t 36]])
 (.cond (.t 37)
 ((.seq
 (.reg [oA 2 .mv [.c (.bool false)]])
 (.ret)))
 (.skip))))
 (.reg [oA 38 .mv [.t 6],
 oA 39 .mv [.t 6],
 oA 40 (.iaa 8 1) [.t 3, .t 39],
 oA 41 (.load false 1) [.t 40],
 oA 42 .mv [.t 41],
 oG 43 .mv [.t 7] 42 false,
 oG 44 (.bin .gtr) [.t 43, .c (.int .i64 0)] 42 false,
 oA 45 .pick [.t 42, .c (.bool true), .t 44],
 oA 46 (.iaa 8 1) [.t 3, .t 38],
 oN (.store 1) [.t 46, .t 45]]))))))
 (.reg [oA 47 (.bin .add) [.t 18, .c (.int .i64 1)],
 oA 18 .mv [.t 47]]))))))
def f24_1m : List Bool := [false, false, false, true, false, false, false, false, false, false, false, true, true, true]
def f24_1 : AC :=
 (.seq
 (.reg [oA 14 (.bin .lss) [.t 13, .t 12]])
 ((.seq
 (.cond (.t 14)
 (.skip)
 (.exit 0))
 ((.seq
 (.block 1 ((.seq
 (.reg [oA 15 (.ias 8) [.t 11, .t 13],
 oA 16 (.load true 8) [.t 15],
 oA 5 (.alloc (List.replicate 8 (.int .i64 0))) [],
 oN (.store 8) [.t 5, .t 16]])
 ((.seq
 (.reg [oA 17 (.load true 8) [.t 5],
 oA 18 .mv [.c (.int .i64 0)]])
 (.block 2 (.loop f24_0m f24_0)))))))
 (.reg [oA 48 (.bin .add) [.t 13, .c (.int .i64 1)],
 oA 13 .mv [.t 48]]))))))
def f24 : AF := ⟨1, 49, [.t 2],
 (.seq
 (.reg [oA 2 .mv [.c (.bool false)]])
 ((.seq
 ((.seq
 (.reg [oA 8 .mv [.t 0],
 oA 9 .len [.t 8],
 oA 10 (.bin .gtr) [.t 9, .c (.int .i64 24)]])
 (.cond (.t 10)
 ((.seq
 (.reg [oA 2 .mv [.c (.bool false)]])
 (.ret)))
 (.skip))))
 ((.seq
 (.reg [oA 3 (.alloc (List.replicate 8 (.bool false))) []])
 ((.seq
 ((.seq
 (.reg [oA 11 .mv [.t 0],
 oA 12 .len [.t 11],
 oA 13 .mv [.c (.int .i64 0)]])
 (.block 0 (.loop f24_1m f24_1))))
 ((.seq
 (.reg [oA 2 .mv [.c (.bool true)]])
 (.ret))))))))))⟩
def f34 : AF := ⟨2, 11, [.c 4 true 8],
 (.seq
 (.reg [oA 4 (.alloc (List.replicate 8 (.int .i64 0))) []])
 ((.seq
 (.reg [oA 6 (.build (List.replicate 8 (.int .i64 0)) []) [],
 oA 5 (.alloc (List.replicate 8 (.int .i64 0))) [],
 oN (.store 8) [.t 5, .t 6]])
 ((.seq
 (.reg [oA 7 .mv [.t 0],
 oA 8 .mv [.t 1],
 oA 9 (.iaa 8 1) [.t 5, .t 7],
 oN (.store 1) [.t 9, .t 8]])
 ((.seq
 (.reg [oA 10 (.load true 8) [.t 5],
 oN (.store 8) [.t 4, .t 10]])
 (.ret))))))))⟩
def f15_0m : List Bool := [false, true, true, true, true]
def f15_0 : AC :=
 (.seq
 ((.seq
 (.reg [oA 6 .mv [.t 4],
 oA 7 (.bin .lss) [.t 6, .c (.int .i64 8)]])
 (.cond (.t 7)
 (.skip)
 (.exit 0))))
 ((.seq
 (.block 1 (.reg [oA 10 .mv [.t 4],
 oA 11 .mv [.t 4],
 oA 12 (.iaa 8 1) [.t 1, .t 11],
 oA 13 (.load false 1) [.t 12],
 oA 14 (.conv .i64) [.t 13],
 oA 15 (.bin .rem) [.t 14, .c (.int .i64 20000)],
 oA 16 (.iaa 8 1) [.t 3, .t 10],
 oN (.store 1) [.t 16, .t 15]]))
 (.reg [oA 8 .mv [.t 4],
 oA 9 (.bin .add) [.t 8, .c (.int .i64 1)],
 oA 4 .mv [.t 9]]))))
def f15 : AF := ⟨1, 18, [.c 2 true 8],
 (.seq
 (.reg [oA 1 (.box 8) [.t 0],
 oA 2 (.alloc (List.replicate 8 (.int .i64 0))) []])
 ((.seq
 (.reg [oA 5 (.build (List.replicate 8 (.int .i64 0)) []) [],
 oA 3 (.alloc (List.replicate 8 (.int .i64 0))) [],
 oN (.store 8) [.t 3, .t 5]])
 ((.seq
 ((.seq
 (.reg [oA 4 .mv [.c (.int .i64 0)]])
 (.block 0 (.loop f15_0m f15_0))))
 ((.seq
 (.reg [oA 17 (.load true 8) [.t 3],
 oN (.store 8) [.t 2, .t 17]])
 (.ret))))))))⟩
def f17 : AF := ⟨2, 8, [.t 4],
 (.seq
 (.reg [oA 2 (.box 8) [.t 0],
 oA 3 (.box 8) [.t 1],
 oA 4 .mv [.c (.int .i64 0)]])
 ((.seq
 (.reg [oA 5 (.slca 8 1 false false false) [.t 2],
 oA 6 (.slca 8 1 false false false) [.t 3],
 oA 7 (.call .pure true 39) [.t 5, .t 6],
 oA 4 .mv [.t 7]])
 (.ret))))⟩
def f45_0m : List Bool := [false, false, false, true, false, false, true, false, false, false, false, false, false, false, false, false, false, true, true, true, false, false, false, true, true]
def f45_0 : AC :=
 (.seq
 (.reg [oA 25 (.bin .lss) [.t 24, .c (.int .i64 8)]])
 ((.seq
 (.cond (.t 25)
 (.skip)
 (.exit 2))
 ((.seq
 (.block 3 ((.seq
 (.reg [oA 26 (.ixa false 8 1) [.t 23, .t 24],
 oA 8 .mv [.t 26]])
 (.reg [oA 27 .mv [.t 6],
 oA 28 .mv [.t 8],
 oA 29 (.call .pure false 52) [.t 28],
 oA 30 (.lit 4 (.agg [.bool false, .sl [] 1 true, .bool false, .sl [] 1 true]) 1 [0]) [.t 29],
 oA 31 (.app 4 64) [.t 27, .t 30],
 oA 6 .mv [.t 31]]))))
 (.reg [oA 32 (.bin .add) [.t 24, .c (.int .i64 1)],
 oA 24 .mv [.t 32]]))))))
def f45_1m : List Bool := [false, false, false, true, false, false, false, false, false, false, false, false, false, false, false, false, false, true, true, true]
def f45_1 : AC :=
 (.seq
 (.reg [oA 20 (.bin .lss) [.t 19, .t 18]])
 ((.seq
 (.cond (.t 20)
 (.skip)
 (.exit 0))
 ((.seq
 (.block 1 ((.seq
 (.reg [oA 21 (.ias 8) [.t 17, .t 19],
 oA 22 (.load true 8) [.t 21],
 oA 5 (.alloc (List.replicate 8 (.int .i64 0))) [],
 oN (.store 8) [.t 5, .t 22]])
 ((.seq
 (.reg [oA 6 .mv [.c (.sl [] 4 true)]])
 ((.seq
 ((.seq
 (.reg [oA 23 (.load true 8) [.t 5],
 oA 24 .mv [.c (.int .i64 0)]])
 (.block 2 (.loop f45_0m f45_0))))
 (.reg [oA 33 .mv [.t 3],
 oA 34 .mv [.t 6],
 oA 35 (.lit 1 (.sl [] 4 true) 1 [0]) [.t 34],
 oA 36 (.app 1 24) [.t 33, .t 35],
 oA 3 .mv [.t 36]]))))))))
 (.reg [oA 37 (.bin .add) [.t 19, .c (.int .i64 1)],
 oA 19 .mv [.t 37]]))))))
def f45_2m : List Bool := [false, false, false, true, false, false, false, false, false, true, false, true, false, true, true, false, false, false, false, false, false, false, false, false, false, false, false, false, false, false, false, false, false, false, false, false, false, false, true, false, false, false, false, false, false, false, false, false, false, false, false, false, false, false, false, true, true, true, false, false, false, false, false, false, false, false, false, false, false, false, false, false, false, false, true, true]
def f45_2 : AC :=
 (.seq
 (.reg [oA 76 (.bin .lss) [.t 75, .t 74]])
 ((.seq
 (.cond (.t 76)
 (.skip)
 (.exit 8))
 ((.seq
 (.block 9 ((.seq
 (.reg [oA 77 .mv [.t 75],
 oA 16 .mv [.t 77]])
 (.reg [oA 78 .mv [.t 13],
 oA 79 .mv [.t 16],
 oA 80 .mv [.t 13],
 oA 81 .mv [.t 16],
 oA 82 (.ias 4) [.t 80, .t 81],
 oA 83 (.load true 4) [.t 82],
 oA 84 (.load true 4) [.t 14],
 oA 85 .mv [.t 11],
 oA 86 .mv [.t 16],
 oA 87 (.ias 4) [.t 85, .t 86],
 oA 88 (.load true 4) [.t 87],
 oA 89 (.call .pure true 59) [.t 84, .t 88],
 oA 90 (.call .pure true 58) [.t 83, .t 89],
 oA 91 (.ias 4) [.t 78, .t 79],
 oN (.store 4) [.t 91, .t 90]]))))
 (.reg [oA 92 (.bin .add) [.t 75, .c (.int .i64 1)],
 oA 75 .mv [.t 92]]))))))
def f45_3m : List Bool := [false, false, false, true, false, false, false, false, false, true, false, true, false, false, false, false, false, false, false, false, false, false, false, false, false, false, false, false, false, false, false, false, false, false, false, false, false, false, true, false, false, false, false, false, false, false, false, false, false, false, false, false, false, false, false, true, true, true]
def f45_3 : AC :=
 (.seq
 (.reg [oA 58 (.bin .lss) [.t 57, .t 56]])
 ((.seq
 (.cond (.t 58)
 (.skip)
 (.exit 6))
 ((.seq
 (.block 7 ((.seq
 (.reg [oA 59 (.ias 1) [.t 55, .t 57],
 oA 60 (.load false 1) [.t 59],
 oA 13 .mv [.t 60]])
 ((.seq
 (.reg [oA 14 (.alloc [.bool false, .sl [] 1 true, .bool false, .sl [] 1 true]) [],
 oA 62 .mv [.t 13],
 oA 63 (.load false 1) [.t 9],
 oA 64 (.ias 4) [.t 62, .t 63],
 oA 65 (.load true 4) [.t 64],
 oA 66 .mv [.t 11],
 oA 67 (.load false 1) [.t 9],
 oA 68 (.ias 4) [.t 66, .t 67],
 oA 69 (.load true 4) [.t 68],
 oA 70 (.call .pure true 57) [.t 65, .t 69],
 oA 61 .mv [.t 70],
 oA 71 (.ext 0) [.t 61],
 oA 72 (.ext 1) [.t 61],
 oN (.store 4) [.t 14, .t 71],
 oA 15 .mv [.t 72]])
 ((.seq
 (.reg [oA 73 .mv [.t 13],
 oA 74 .len [.t 73],
 oA 75 .mv [.c (.int .i64 0)]])
 (.block 8 (.loop f45_2m f45_2)))))))))
 (.reg [oA 93 (.bin .add) [.t 57, .c (.int .i64 1)],
 oA 57 .mv [.t 93]]))))))
def f45_4m : List Bool := [false, false, false, true, false, false, false, false, false, false, false, false, false, false, false, false, false, false, false, false, false, false, false, false, false, false, false, false, false, false, false, false, false, false, false, false, false, false, true]
def f45_4 : AC :=
 (.seq
 (.reg [oA 39 (.bin .lss) [.t 38, .c (.int .i64 8)]])
 ((.seq
 (.cond (.t 39)
 (.skip)
 (.exit 4))
 ((.seq
 (.block 5 ((.seq
 (.reg [oA 40 .mv [.t 38],
 oA 9 (.alloc [.int .i64 0]) [],
 oN (.store 1) [.t 9, .t 40]])
 ((.seq
 (.reg [oA 41 .mv [.t 3],
 oA 42 (.mkfn 54) [.t 9],
 oA 43 (.call .pure false 53) [.t 41, .t 42],
 oA 10 .mv [.t 43]])
 ((.seq
 ((.seq
 (.reg [oA 44 .mv [.t 10],
 oA 45 (.bin .lss) [.t 44, .c (.int .i64 0)]])
 (.cond (.t 45)
 ((.seq
 (.reg [oA 2 .mv [.c (.bool false)]])
 (.ret)))
 (.skip))))
 ((.seq
 (.reg [oA 46 .mv [.t 3],
 oA 47 .mv [.t 10],
 oA 48 (.ias 1) [.t 46, .t 47],
 oA 49 (.load false 1) [.t 48],
 oA 11 .mv [.t 49]])
 ((.seq
 (.reg [oA 50 .mv [.t 3],
 oA 51 .mv [.t 10],
 oA 52 .mv [.t 10],
 oA 53 (.bin .add) [.t 52, .c (.int .i64 1)],
 oA 54 (.call .sh false 56) [.t 50, .t 51, .t 53],
 oA 3 .mv [.t 54]])
 ((.seq
 (.reg [oA 55 .mv [.t 3],
 oA 56 .len [.t 55],
 oA 57 .mv [.c (.int .i64 0)]])
 (.block 6 (.loop f45_3m f45_3)))))))))))))))
 (.reg [oA 94 (.bin .add) [.t 38, .c (.int .i64 1)],
 oA 38 .mv [.t 94]]))))))
def f45 : AF := ⟨1, 95, [.t 2],
 (.seq
 (.reg [oA 2 .mv [.c (.bool false)]])
 ((.seq
 (.reg [oA 3 .mv [.c (.sl [] 1 true)]])
 ((.seq
 ((.seq
 (.reg [oA 17 .mv [.t 0],
 oA 18 .len [.t 17],
 oA 19 .mv [.c (.int .i64 0)]])
 (.block 0 (.loop f45_1m f45_1))))
 ((.seq
 ((.seq
 (.reg [oA 38 .mv [.c (.int .i64 0)]])
 (.block 4 (.loop f45_4m f45_4))))
 ((.seq
 (.reg [oA 2 .mv [.c (.bool true)]])
 (.ret))))))))))⟩
def f41 : AF := ⟨2, 10, [.c 4 true 8],
 (.seq
 (.reg [oA 4 (.alloc (List.replicate 8 (.int .i64 0))) []])
 ((.seq
 (.reg [oA 5 (.alloc (List.replicate 8 (.int .i64 0))) []])
 ((.seq
 (.reg [oA 6 .mv [.t 0],
 oA 7 .mv [.t 1],
 oA 8 (.iaa 8 1) [.t 5, .t 6],
 oN (.store 1) [.t 8, .t 7]])
 ((.seq
 (.reg [oA 9 (.load true 8) [.t 5],
 oN (.store 8) [.t 4, .t 9]])
 (.ret))))))))⟩
def f36 : AF := ⟨2, 14, [],
 (.seq
 (.reg [oA 5 .mv [.t 0],
 oA 6 .len [.t 5],
 oA 4 .mv [.t 6]])
 (.reg [oA 7 .mv [.t 0],
 oA 8 .mv [.t 4],
 oA 9 .mv [.t 4],
 oA 10 (.conv .u64) [.t 9],
 oA 11 (.call .pure false 50) [.t 10],
 oA 12 .mv [.t 1],
 oA 13 (.call .sh false 49) [.t 7, .c (.int .i64 0), .t 8, .t 11, .t 12]]))⟩
def f37 : AF := ⟨3, 10, [.t 5],
 (.seq
 (.reg [oA 3 (.box 8) [.t 0],
 oA 4 (.box 8) [.t 1],
 oA 5 .mv [.c (.int .i64 0)]])
 ((.seq
 (.reg [oA 6 (.load false 1) [.t 2],
 oA 7 (.load true 8) [.t 4],
 oA 8 (.load true 8) [.t 3],
 oA 9 (.call .pure false 13) [.t 6, .t 7, .t 8],
 oA 5 .mv [.t 9]])
 (.ret))))⟩
def f38_0m : List Bool := [true, false, false, true, true, true]
def f38_0 : AC :=
 (.seq
 ((.seq
 (.reg [oA 29 .mv [.t 5],
 oA 30 .mv [.t 4],
 oA 31 .len [.t 30],
 oA 32 (.bin .lss) [.t 29, .t 31]])
 (.cond (.t 32)
 (.skip)
 (.exit 2))))
 ((.seq
 (.block 3 ((.seq
 (.reg [oA 35 .mv [.t 4],
 oA 36 .mv [.t 5],
 oA 37 (.ias 8) [.t 35, .t 36],
 oA 38 (.load true 8) [.t 37],
 oA 39 .mv [.t 4],
 oA 40 .mv [.t 5],
 oA 41 (.bin .sub) [.t 40, .c (.int .i64 1)],
 oA 42 (.ias 8) [.t 39, .t 41],
 oA 43 (.load true 8) [.t 42],
 oA 44 (.eqa true (some .i64) 8) [.t 38, .t 43]])
 (.cond (.t 44)
 ((.seq
 (.reg [oA 45 .mv [.t 0],
 oA 46 .mv [.t 3],
 oA 47 .mv [.t 4],
 oA 48 .mv [.t 5],
 oA 49 (.ias 8) [.t 47, .t 48],
 oA 50 (.load true 8) [.t 49],
 oA 51 (.ias 8) [.t 45, .t 46],
 oN (.store 8) [.t 51, .t 50]])
 (.reg [oA 52 .mv [.t 3],
 oA 53 (.bin .add) [.t 52, .c (.int .i64 1)],
 oA 3 .mv [.t 53]])))
 (.skip)))))
 (.reg [oA 33 .mv [.t 5],
 oA 34 (.bin .add) [.t 33, .c (.int .i64 1)],
 oA 5 .mv [.t 34]]))))
def f38_1m : List Bool := [true, false, false, true]
def f38_1 : AC :=
 (.seq
 ((.seq
 (.reg [oA 10 .mv [.t 3],
 oA 11 .mv [.t 0],
 oA 12 .len [.t 11],
 oA 13 (.bin .lss) [.t 10, .t 12]])
 (.cond (.t 13)
 (.skip)
 (.exit 0))))
 ((.seq
 (.block 1 ((.seq
 (.reg [oA 16 .mv [.t 0],
 oA 17 .mv [.t 3],
 oA 18 (.ias 8) [.t 16, .t 17],
 oA 19 (.load true 8) [.t 18],
 oA 20 .mv [.t 0],
 oA 21 .mv [.t 3],
 oA 22 (.bin .sub) [.t 21, .c (.int .i64 1)],
 oA 23 (.ias 8) [.t 20, .t 22],
 oA 24 (.load true 8) [.t 23],
 oA 25 (.eqa false (some .i64) 8) [.t 19, .t 24]])
 (.cond (.t 25)
 ((.seq
 (.reg [oA 26 .mv [.t 0],
 oA 27 .mv [.t 3],
 oA 28 (.slc 8 true false false) [.t 26, .t 27],
 oA 4 .mv [.t 28]])
 ((.seq
 ((.seq
 (.reg [oA 5 .mv [.c (.int .i64 1)]])
 (.block 2 (.loop f38_0m f38_0))))
 ((.seq
 (.reg [oA 54 .mv [.t 0],
 oA 55 .mv [.t 3],
 oA 56 (.slc 8 true false false) [.t 54, .t 55],
 oN (.clr 8 (List.replicate 8 (.int .i64 0))) [.t 56]])
 ((.seq
 (.reg [oA 57 .mv [.t 0],
 oA 58 .mv [.t 3],
 oA 59 (.slc 8 false true false) [.t 57, .t 58],
 oA 2 .mv [.t 59]])
 (.ret)))))))))
 (.skip)))))
 (.reg [oA 14 .mv [.t 3],
 oA 15 (.bin .add) [.t 14, .c (.int .i64 1)],
 oA 3 .mv [.t 15]]))))
def f38 : AF := ⟨1, 61, [.t 2],
 (.seq
 (.reg [oA 2 .mv [.c (.sl [] 8 true)]])
 ((.seq
 ((.seq
 (.reg [oA 6 .mv [.t 0],
 oA 7 .len [.t 6],
 oA 8 (.bin .lss) [.t 7, .c (.int .i64 2)]])
 (.cond (.t 8)
 ((.seq
 (.reg [oA 9 .mv [.t 0],
 oA 2 .mv [.t 9]])
 (.ret)))
 (.skip))))
 ((.seq
 ((.seq
 (.reg [oA 3 .mv [.c (.int .i64 1)]])
 (.block 0 (.loop f38_1m f38_1))))
 ((.seq
 (.reg [oA 60 .mv [.t 0],
 oA 2 .mv [.t 60]])
 (.ret))))))))⟩
def f42_0m : List Bool := [true, true, false, false, false, false, false, true, true]
def f42_0 : AC :=
 (.seq
 (.reg [oA 9 (.bin .lss) [.t 8, .t 7]])
 ((.seq
 (.cond (.t 9)
 (.skip)
 (.exit 0))
 ((.seq
 (.block 1 ((.seq
 (.reg [oA 10 .mv [.t 8],
 oA 5 .mv [.t 10]])
 ((.seq
 (.reg [oA 11 .mv [.t 1],
 oA 12 .mv [.t 0],
 oA 13 .mv [.t 5],
 oA 14 (.ias 8) [.t 12, .t 13],
 oA 15 (.load true 8) [.t 14],
 oA 16 (.callv .pure false) [.t 11, .t 15]])
 (.cond (.t 16)
 ((.seq
 (.reg [oA 17 .mv [.t 5],
 oA 4 .mv [.t 17]])
 (.ret)))
 (.skip)))))))
 (.reg [oA 18 (.bin .add) [.t 8, .c (.int .i64 1)],
 oA 8 .mv [.t 18]]))))))
def f42 : AF := ⟨2, 19, [.t 4],
 (.seq
 (.reg [oA 4 .mv [.c (.int .i64 0)]])
 ((.seq
 ((.seq
 (.reg [oA 6 .mv [.t 0],
 oA 7 .len [.t 6],
 oA 8 .mv [.c (.int .i64 0)]])
 (.block 0 (.loop f42_0m f42_0))))
 ((.seq
 (.reg [oA 4 .mv [.c (.int .i64 (-1))]])
 (.ret))))))⟩
def f43 : AF := ⟨3, 15, [.t 4],
 (.seq
 (.reg [oA 3 (.box 8) [.t 0],
 oA 4 .mv [.c (.bool false)]])
 ((.seq
 (.reg [oA 5 (.load false 1) [.t 1],
 oA 6 (.iaa 8 1) [.t 3, .t 5],
 oA 7 (.load false 1) [.t 6],
 oA 8 (.bin .neq) [.t 7, .c (.int .i64 0)],
 oA 9 .mv [.t 8],
 oG 10 (.load false 1) [.t 2] 9 false,
 oG 11 (.iaa 8 1) [.t 3, .t 10] 9 false,
 oG 12 (.load false 1) [.t 11] 9 false,
 oG 13 (.bin .neq) [.t 12, .c (.int .i64 0)] 9 false,
 oA 14 .pick [.t 9, .c (.bool true), .t 13],
 oA 4 .mv [.t 14]])
 (.ret))))⟩
def f25 : AF := ⟨2, 11, [.t 4],
 (.seq
 (.reg [oA 4 .mv [.c (.bool false)]])
 ((.seq
 (.reg [oA 5 .mv [.t 0],
 oA 6 .mv [.t 1],
 oA 7 (.conv .u64) [.t 6],
 oA 8 (.bin .shr) [.t 5, .t 7],
 oA 9 (.bin .and) [.t 8, .c (.int .u8 1)],
 oA 10 (.bin .eql) [.t 9, .c (.int .u8 1)],
 oA 4 .mv [.t 10]])
 (.ret))))⟩
def f40_0m : List Bool := [true, false, true, true, false, true]
def f40_0 : AC :=
 (.seq
 (.reg [oA 6 (.bin .lss) [.t 5, .c (.int .i64 8)]])
 ((.seq
 (.cond (.t 6)
 (.skip)
 (.exit 0))
 ((.seq
 (.block 1 ((.seq
 (.reg [oA 7 .mv [.t 5],
 oA 4 .mv [.t 7]])
 (.reg [oA 8 .mv [.t 4],
 oA 9 .mv [.t 0],
 oA 10 .mv [.t 4],
 oA 11 (.bin .shr) [.t 9, .t 10],
 oA 12 (.bin .and) [.t 11, .c (.int .u8 1)],
 oA 13 (.conv .i64) [.t 12],
 oA 14 (.iaa 8 1) [.t 3, .t 8],
 oN (.store 1) [.t 14, .t 13]]))))
 (.reg [oA 15 (.bin .add) [.t 5, .c (.int .i64 1)],
 oA 5 .mv [.t 15]]))))))
def f40 : AF := ⟨1, 17, [.c 2 true 8],
 (.seq
 (.reg [oA 2 (.alloc (List.replicate 8 (.int .i64 0))) []])
 ((.seq
 (.reg [oA 3 (.alloc (List.replicate 8 (.int .i64 0))) []])
 ((.seq
 ((.seq
 (.reg [oA 5 .mv [.c (.int .i64 0)]])
 (.block 0 (.loop f40_0m f40_0))))
 ((.seq
 (.reg [oA 16 (.load true 8) [.t 3],
 oN (.store 8) [.t 2, .t 16]])
 (.ret))))))))⟩
def f39_0m : List Bool := [true, true, false, false, false, false, false, false, false, true, true, true]
def f39_0 : AC :=
 (.seq
 (.reg [oA 12 (.bin .lss) [.t 11, .t 10]])
 ((.seq
 (.cond (.t 12)
 (.skip)
 (.exit 0))
 ((.seq
 (.block 1 ((.seq
 (.reg [oA 13 .mv [.t 11],
 oA 14 (.ias 1) [.t 9, .t 11],
 oA 15 (.load false 1) [.t 14],
 oA 5 .mv [.t 13],
 oA 6 .mv [.t 15]])
 ((.seq
 ((.seq
 (.reg [oA 16 .mv [.t 5],
 oA 17 .mv [.t 1],
 oA 18 .len [.t 17],
 oA 19 (.bin .geq) [.t 16, .t 18]])
 (.cond (.t 19)
 ((.seq
 (.reg [oA 4 .mv [.c (.int .i64 1)]])
 (.ret)))
 (.skip))))
 ((.seq
 (.reg [oA 20 .mv [.t 1],
 oA 21 .mv [.t 5],
 oA 22 (.ias 1) [.t 20, .t 21],
 oA 23 (.load false 1) [.t 22],
 oA 7 .mv [.t 23]])
 ((.seq
 (.reg [oA 24 .mv [.t 6],
 oA 25 .mv [.t 7],
 oA 26 (.call .pure false 51) [.t 24, .t 25],
 oA 8 .mv [.t 26]])
 ((.seq
 (.reg [oA 27 .mv [.t 8],
 oA 28 (.bin .neq) [.t 27, .c (.int .i64 0)]])
 (.cond (.t 28)
 ((.seq
 (.reg [oA 29 .mv [.t 8],
 oA 4 .mv [.t 29]])
 (.ret)))
 (.skip)))))))))))))
 (.reg [oA 30 (.bin .add) [.t 11, .c (.int .i64 1)],
 oA 11 .mv [.t 30]]))))))
def f39 : AF := ⟨2, 36, [.t 4],
 (.seq
 (.reg [oA 4 .mv [.c (.int .i64 0)]])
 ((.seq
 ((.seq
 (.reg [oA 9 .mv [.t 0],
 oA 10 .len [.t 9],
 oA 11 .mv [.c (.int .i64 0)]])
 (.block 0 (.loop f39_0m f39_0))))
 ((.seq
 ((.seq
 (.reg [oA 31 .mv [.t 0],
 oA 32 .len [.t 31],
 oA 33 .mv [.t 1],
 oA 34 .len [.t 33],
 oA 35 (.bin .lss) [.t 32, .t 34]])
 (.cond (.t 35)
 ((.seq
 (.reg [oA 4 .mv [.c (.int .i64 (-1))]])
 (.ret)))
 (.skip))))
 ((.seq
 (.reg [oA 4 .mv [.c (.int .i64 0)]])
 (.ret))))))))⟩
def f52 : AF := ⟨1, 6, [.c 2 true 4],
 (.seq
 (.reg [oA 2 (.alloc [.bool false, .sl [] 1 true, .bool false, .sl [] 1 true]) []])
 ((.seq
 (.reg [oA 3 .mv [.t 0],
 oA 4 (.call .pure false 72) [.t 3],
 oA 5 (.call .pure false 71) [.t 4],
 oN (.store 4) [.t 2, .t 5]])
 (.ret))))⟩
def f53_0m : List Bool := [true, true, false, false, false, false, false, true, true]
def f53_0 : AC :=
 (.seq
 (.reg [oA 9 (.bin .lss) [.t 8, .t 7]])
 ((.seq
 (.cond (.t 9)
 (.skip)
 (.exit 0))
 ((.seq
 (.block 1 ((.seq
 (.reg [oA 10 .mv [.t 8],
 oA 5 .mv [.t 10]])
 ((.seq
 (.reg [oA 11 .mv [.t 1],
 oA 12 .mv [.t 0],
 oA 13 .mv [.t 5],
 oA 14 (.ias 1) [.t 12, .t 13],
 oA 15 (.load false 1) [.t 14],
 oA 16 (.callv .pure false) [.t 11, .t 15]])
 (.cond (.t 16)
 ((.seq
 (.reg [oA 17 .mv [.t 5],
 oA 4 .mv [.t 17]])
 (.ret)))
 (.skip)))))))
 (.reg [oA 18 (.bin .add) [.t 8, .c (.int .i64 1)],
 oA 8 .mv [.t 18]]))))))
def f53 : AF := ⟨2, 19, [.t 4],
 (.seq
 (.reg [oA 4 .mv [.c (.int .i64 0)]])
 ((.seq
 ((.seq
 (.reg [oA 6 .mv [.t 0],
 oA 7 .len [.t 6],
 oA 8 .mv [.c (.int .i64 0)]])
 (.block 0 (.loop f53_0m f53_0))))
 ((.seq
 (.reg [oA 4 .mv [.c (.int .i64 (-1))]])
 (.ret))))))⟩
def f54 : AF := ⟨2, 10, [.t 3],
 (.seq
 (.reg [oA 3 .mv [.c (.bool false)]])
 ((.seq
 (.reg [oA 4 .mv [.t 0],
 oA 5 (.load false 1) [.t 1],
 oA 6 (.ias 4) [.t 4, .t 5],
 oA 7 (.load true 4) [.t 6],
 oA 8 (.call .pure false 55) [.t 7],
 oA 9 (.bin .neq) [.t 8, .c (.int .i64 0)],
 oA 3 .mv [.t 9]])
 (.ret))))⟩
def f55 : AF := ⟨1, 6, [.t 2],
 (.seq
 (.reg [oA 1 (.box 4) [.t 0],
 oA 2 .mv [.c (.int .i64 0)]])
 ((.seq
 (.reg [oA 3 (.faddr 0 2) [.t 1],
 oA 4 (.load true 2) [.t 3],
 oA 5 (.call .pure false 73) [.t 4],
 oA 2 .mv [.t 5]])
 (.ret))))⟩
def f56 : AF := ⟨3, 33, [.t 6],
 (.seq
 (.reg [oA 6 .mv [.c (.sl [] 1 true)]])
 ((.seq
 (.reg [oA 8 .mv [.t 0],
 oA 9 .mv [.t 1],
 oA 10 .mv [.t 2],
 oA 11 .mv [.t 0],
 oA 12 .len [.t 11],
 oA 13 (.slc 1 true true true) [.t 8, .t 9, .t 10, .t 12]])
 ((.seq
 ((.seq
 (.reg [oA 14 .mv [.t 1],
 oA 15 .mv [.t 2],
 oA 16 (.bin .eql) [.t 14, .t 15]])
 (.cond (.t 16)
 ((.seq
 (.reg [oA 17 .mv [.t 0],
 oA 6 .mv [.t 17]])
 (.ret)))
 (.skip))))
 ((.seq
 (.reg [oA 18 .mv [.t 0],
 oA 19 .len [.t 18],
 oA 7 .mv [.t 19]])
 ((.seq
 (.reg [oA 20 .mv [.t 0],
 oA 21 .mv [.t 1],
 oA 22 (.slc 1 false true false) [.t 20, .t 21],
 oA 23 .mv [.t 0],
 oA 24 .mv [.t 2],
 oA 25 (.slc 1 true false false) [.t 23, .t 24],
 oA 26 (.app 1 24) [.t 22, .t 25],
 oA 0 .mv [.t 26]])
 ((.seq
 (.reg [oA 27 .mv [.t 0],
 oA 28 .mv [.t 0],
 oA 29 .len [.t 28],
 oA 30 .mv [.t 7],
 oA 31 (.slc 1 true true false) [.t 27, .t 29, .t 30],
 oN (.clr 1 [.sl [] 4 true]) [.t 31]])
 ((.seq
 (.reg [oA 32 .mv [.t 0],
 oA 6 .mv [.t 32]])
 (.ret))))))))))))))⟩
def f57 : AF := ⟨2, 21, [.c 4 true 4, .t 5],
 (.seq
 (.reg [oA 2 (.box 4) [.t 0],
 oA 3 (.box 4) [.t 1],
 oA 4 (.alloc [.bool false, .sl [] 1 true, .bool false, .sl [] 1 true]) [],
 oA 5 .mv [.c (.int .i64 0)]])
 ((.seq
 (.reg [oA 6 (.faddr 0 2) [.t 2],
 oA 7 (.load true 2) [.t 6],
 oA 8 (.faddr 2 2) [.t 3],
 oA 9 (.load true 2) [.t 8],
 oA 10 (.lit 2 (.agg [.bool false, .sl [] 1 true]) 2 [0, 1]) [.t 7, .t 9],
 oA 11 (.call .pure true 75) [.t 10],
 oA 12 (.faddr 2 2) [.t 2],
 oA 13 (.load true 2) [.t 12],
 oA 14 (.faddr 0 2) [.t 3],
 oA 15 (.load true 2) [.t 14],
 oA 16 (.lit 2 (.agg [.bool false, .sl [] 1 true]) 2 [0, 1]) [.t 13, .t 15],
 oA 17 (.call .pure true 75) [.t 16],
 oA 18 (.call .pure true 74) [.t 11, .t 17],
 oA 19 (.ext 0) [.t 18],
 oA 20 (.ext 1) [.t 18],
 oN (.store 4) [.t 4, .t 19],
 oA 5 .mv [.t 20]])
 (.ret))))⟩
def f58 : AF := ⟨2, 25, [.c 4 true 4],
 (.seq
 (.reg [oA 2 (.box 4) [.t 0],
 oA 3 (.box 4) [.t 1],
 oA 4 (.alloc [.bool false, .sl [] 1 true, .bool false, .sl [] 1 true]) []])
 ((.seq
 (.reg [oA 5 (.faddr 0 2) [.t 2],
 oA 6 (.load true 2) [.t 5],
 oA 7 (.faddr 2 2) [.t 3],
 oA 8 (.load true 2) [.t 7],
 oA 9 (.lit 2 (.agg [.bool false, .sl [] 1 true]) 2 [0, 1]) [.t 6, .t 8],
 oA 10 (.call .pure true 75) [.t 9],
 oA 11 (.faddr 0 2) [.t 3],
 oA 12 (.load true 2) [.t 11],
 oA 13 (.faddr 2 2) [.t 2],
 oA 14 (.load true 2) [.t 13],
 oA 15 (.lit 2 (.agg [.bool false, .sl [] 1 true]) 2 [0, 1]) [.t 12, .t 14],
 oA 16 (.call .pure true 75) [.t 15],
 oA 17 (.call .pure true 77) [.t 10, .t 16],
 oA 18 (.faddr 2 2) [.t 2],
 oA 19 (.load true 2) [.t 18],
 oA 20 (.faddr 2 2) [.t 3],
 oA 21 (.load true 2) [.t 20],
 oA 22 (.lit 2 (.agg [.bool false, .sl [] 1 true]) 2 [0, 1]) [.t 19, .t 21],
 oA 23 (.call .pure true 75) [.t 22],
 oA 24 (.call .pure true 76) [.t 17, .t 23],
 oN (.store 4) [.t 4, .t 24]])
 (.ret))))⟩
def f59 : AF := ⟨2, 18, [.c 4 true 4],
 (.seq
 (.reg [oA 2 (.box 4) [.t 0],
 oA 3 (.box 4) [.t 1],
 oA 4 (.alloc [.bool false, .sl [] 1 true, .bool false, .sl [] 1 true]) []])
 ((.seq
 (.reg [oA 5 (.faddr 0 2) [.t 2],
 oA 6 (.load true 2) [.t 5],
 oA 7 (.faddr 0 2) [.t 3],
 oA 8 (.load true 2) [.t 7],
 oA 9 (.lit 2 (.agg [.bool false, .sl [] 1 true]) 2 [0, 1]) [.t 6, .t 8],
 oA 10 (.call .pure true 75) [.t 9],
 oA 11 (.faddr 2 2) [.t 2],
 oA 12 (.load true 2) [.t 11],
 oA 13 (.faddr 2 2) [.t 3],
 oA 14 (.load true 2) [.t 13],
 oA 15 (.lit 2 (.agg [.bool false, .sl [] 1 true]) 2 [0, 1]) [.t 12, .t 14],
 oA 16 (.call .pure true 75) [.t 15],
 oA 17 (.call .pure true 76) [.t 10, .t 16],
 oN (.store 4) [.t 4, .t 17]])
 (.ret))))⟩
def f49_0m : List Bool := [true, true, true, true, true, false, false, false, false, false, true, true]
def f49_0 : AC :=
 .block 1 ((.seq
 (.reg [oA 21 .mv [.t 2],
 oA 22 .mv [.t 1],
 oA 23 (.bin .sub) [.t 21, .t 22],
 oA 12 .mv [.t 23]])
 ((.seq
 ((.seq
 (.reg [oA 24 .mv [.t 12],
 oA 25 (.bin .leq) [.t 24, .c (.int .i64 12)]])
 (.cond (.t 25)
 ((.seq
 (.reg [oA 26 .mv [.t 0],
 oA 27 .mv [.t 1],
 oA 28 .mv [.t 2],
 oA 29 .mv [.t 4],
 oA 30 (.call .sh false 60) [.t 26, .t 27, .t 28, .t 29]])
 (.ret)))
 (.skip))))
 ((.seq
 ((.seq
 (.reg [oA 31 .mv [.t 3],
 oA 32 (.bin .eql) [.t 31, .c (.int .i64 0)]])
 (.cond (.t 32)
 ((.seq
 (.reg [oA 33 .mv [.t 0],
 oA 34 .mv [.t 1],
 oA 35 .mv [.t 2],
 oA 36 .mv [.t 4],
 oA 37 (.call .sh false 61) [.t 33, .t 34, .t 35, .t 36]])
 (.ret)))
 (.skip))))
 ((.seq
 ((.seq
 (.reg [oA 38 .mv [.t 10],
 oA 39 (.un .not) [.t 38]])
 (.cond (.t 39)
 ((.seq
 (.reg [oA 40 .mv [.t 0],
 oA 41 .mv [.t 1],
 oA 42 .mv [.t 2],
 oA 43 .mv [.t 4],
 oA 44 (.call .sh false 62) [.t 40, .t 41, .t 42, .t 43]])
 (.reg [oA 45 .mv [.t 3],
 oA 46 (.bin .sub) [.t 45, .c (.int .i64 1)],
 oA 3 .mv [.t 46]])))
 (.skip))))
 ((.seq
 (.reg [oA 48 .mv [.t 0],
 oA 49 .mv [.t 1],
 oA 50 .mv [.t 2],
 oA 51 .mv [.t 4],
 oA 52 (.call .sh false 63) [.t 48, .t 49, .t 50, .t 51],
 oA 47 .mv [.t 52],
 oA 53 (.ext 0) [.t 47],
 oA 54 (.ext 1) [.t 47],
 oA 13 .mv [.t 53],
 oA 14 .mv [.t 54]])
 ((.seq
 ((.seq
 (.reg [oA 55 .mv [.t 14],
 oA 56 (.bin .eql) [.t 55, .c (.int .i64 2)]])
 (.cond (.t 56)
 ((.seq
 (.reg [oA 57 .mv [.t 0],
 oA 58 .mv [.t 1],
 oA 59 .mv [.t 2],
 oA 60 .mv [.t 4],
 oA 61 (.call .sh false 64) [.t 57, .t 58, .t 59, .t 60]])
 ((.seq
 (.reg [oA 62 .mv [.t 2],
 oA 63 (.bin .sub) [.t 62, .c (.int .i64 1)],
 oA 64 .mv [.t 13],
 oA 65 .mv [.t 1],
 oA 66 (.bin .sub) [.t 64, .t 65],
 oA 67 (.bin .sub) [.t 63, .t 66],
 oA 13 .mv [.t 67]])
 (.reg [oA 14 .mv [.c (.int .i64 1)]])))))
 (.skip))))
 ((.seq
 ((.seq
 (.reg [oA 68 .mv [.t 10],
 oA 69 .mv [.t 68],
 oG 70 .mv [.t 11] 69 true,
 oA 71 .pick [.t 69, .t 70, .c (.bool false)],
 oA 72 .mv [.t 71],
 oG 73 .mv [.t 14] 72 true,
 oG 74 (.bin .eql) [.t 73, .c (.int .i64 1)] 72 true,
 oA 75 .pick [.t 72, .t 74, .c (.bool false)]])
 (.cond (.t 75)
 ((.seq
 (.reg [oA 76 .mv [.t 0],
 oA 77 .mv [.t 1],
 oA 78 .mv [.t 2],
 oA 79 .mv [.t 4],
 oA 80 (.call .sh false 65) [.t 76, .t 77, .t 78, .t 79]])
 (.cond (.t 80)
 (.ret)
 (.skip))))
 (.skip))))
 ((.seq
 ((.seq
 (.reg [oA 81 .mv [.t 1],
 oA 82 (.bin .gtr) [.t 81, .c (.int .i64 0)],
 oA 83 .mv [.t 82],
 oG 84 .mv [.t 4] 83 true,
 oG 85 .mv [.t 0] 83 true,
 oG 86 .mv [.t 1] 83 true,
 oG 87 (.bin .sub) [.t 86, .c (.int .i64 1)] 83 true,
 oG 88 (.ias 8) [.t 85, .t 87] 83 true,
 oG 89 (.load true 8) [.t 88] 83 true,
 oG 90 .mv [.t 0] 83 true,
 oG 91 .mv [.t 13] 83 true,
 oG 92 (.ias 8) [.t 90, .t 91] 83 true,
 oG 93 (.load true 8) [.t 92] 83 true,
 oG 94 (.callv .pure true) [.t 84, .t 89, .t 93] 83 true,
 oG 95 (.bin .lss) [.t 94, .c (.int .i64 0)] 83 true,
 oG 96 (.un .not) [.t 95] 83 true,
 oA 97 .pick [.t 83, .t 96, .c (.bool false)]])
 (.cond (.t 97)
 ((.seq
 (.reg [oA 98 .mv [.t 0],
 oA 99 .mv [.t 1],
 oA 100 .mv [.t 2],
 oA 101 .mv [.t 13],
 oA 102 .mv [.t 4],
 oA 103 (.call .sh false 66) [.t 98, .t 99, .t 100, .t 101, .t 102],
 oA 15 .mv [.t 103]])
 ((.seq
 (.reg [oA 104 .mv [.t 15],
 oA 1 .mv [.t 104]])
 (.exit 1)))))
 (.skip))))
 ((.seq
 (.reg [oA 106 .mv [.t 0],
 oA 107 .mv [.t 1],
 oA 108 .mv [.t 2],
 oA 109 .mv [.t 13],
 oA 110 .mv [.t 4],
 oA 111 (.call .sh false 67) [.t 106, .t 107, .t 108, .t 109, .t 110],
 oA 105 .mv [.t 111],
 oA 112 (.ext 0) [.t 105],
 oA 113 (.ext 1) [.t 105],
 oA 16 .mv [.t 112],
 oA 17 .mv [.t 113]])
 ((.seq
 (.reg [oA 114 .mv [.t 17],
 oA 11 .mv [.t 114]])
 ((.seq
 (.reg [oA 115 .mv [.t 16],
 oA 116 .mv [.t 1],
 oA 117 (.bin .sub) [.t 115, .t 116],
 oA 118 .mv [.t 2],
 oA 119 .mv [.t 16],
 oA 120 (.bin .sub) [.t 118, .t 119],
 oA 18 .mv [.t 117],
 oA 19 .mv [.t 120]])
 ((.seq
 (.reg [oA 121 .mv [.t 12],
 oA 122 (.bin .quo) [.t 121, .c (.int .i64 8)],
 oA 20 .mv [.t 122]])
 ((.seq
 (.reg [oA 123 .mv [.t 18],
 oA 124 .mv [.t 19],
 oA 125 (.bin .lss) [.t 123, .t 124]])
 (.cond (.t 125)
 ((.seq
 (.reg [oA 126 .mv [.t 18],
 oA 127 .mv [.t 20],
 oA 128 (.bin .geq) [.t 126, .t 127],
 oA 10 .mv [.t 128]])
 ((.seq
 (.reg [oA 129 .mv [.t 0],
 oA 130 .mv [.t 1],
 oA 131 .mv [.t 16],
 oA 132 .mv [.t 3],
 oA 133 .mv [.t 4],
 oA 134 (.call .sh false 49) [.t 129, .t 130, .t 131, .t 132, .t 133]])
 (.reg [oA 135 .mv [.t 16],
 oA 136 (.bin .add) [.t 135, .c (.int .i64 1)],
 oA 1 .mv [.t 136]])))))
 ((.seq
 (.reg [oA 137 .mv [.t 19],
 oA 138 .mv [.t 20],
 oA 139 (.bin .geq) [.t 137, .t 138],
 oA 10 .mv [.t 139]])
 ((.seq
 (.reg [oA 140 .mv [.t 0],
 oA 141 .mv [.t 16],
 oA 142 (.bin .add) [.t 141, .c (.int .i64 1)],
 oA 143 .mv [.t 2],
 oA 144 .mv [.t 3],
 oA 145 .mv [.t 4],
 oA 146 (.call .sh false 49) [.t 140, .t 142, .t 143, .t 144, .t 145]])
 (.reg [oA 147 .mv [.t 16],
 oA 2 .mv [.t 147]]))))))))))))))))))))))))))))))))
def f49 : AF := ⟨5, 148, [],
 (.seq
 (.reg [oA 10 .mv [.c (.bool true)]])
 ((.seq
 (.reg [oA 11 .mv [.c (.bool true)]])
 (.block 0 (.loop f49_0m f49_0)))))⟩
def f50 : AF := ⟨1, 8, [.t 2],
 (.seq
 (.reg [oA 2 .mv [.c (.int .i64 0)]])
 ((.seq
 (.cond (.c (.bool false))
 ((.seq
 (.reg [oA 3 .mv [.t 0],
 oA 4 (.conv .u32) [.t 3],
 oA 5 (.call .pure false 68) [.t 4],
 oA 2 .mv [.t 5]])
 (.ret)))
 (.skip))
 ((.seq
 (.reg [oA 6 .mv [.t 0],
 oA 7 (.call .pure false 69) [.t 6],
 oA 2 .mv [.t 7]])
 (.ret))))))⟩
def f51 : AF := ⟨2, 20, [.t 4],
 (.seq
 (.reg [oA 4 .mv [.c (.int .i64 0)]])
 ((.seq
 (.reg [oA 7 .mv [.t 0],
 oA 8 (.call .pure false 70) [.t 7],
 oA 5 .mv [.t 8]])
 ((.seq
 (.reg [oA 9 .mv [.t 1],
 oA 10 (.call .pure false 70) [.t 9],
 oA 6 .mv [.t 10]])
 ((.seq
 ((.seq
 (.reg [oA 11 .mv [.t 5]])
 (.cond (.t 11)
 ((.seq
 ((.seq
 (.reg [oA 12 .mv [.t 6]])
 (.cond (.t 12)
 ((.seq
 (.reg [oA 4 .mv [.c (.int .i64 0)]])
 (.ret)))
 (.skip))))
 ((.seq
 (.reg [oA 4 .mv [.c (.int .i64 (-1))]])
 (.ret)))))
 (.skip))))
 ((.seq
 ((.seq
 (.reg [oA 13 .mv [.t 6]])
 (.cond (.t 13)
 ((.seq
 (.reg [oA 4 .mv [.c (.int .i64 1)]])
 (.ret)))
 (.skip))))
 ((.seq
 ((.seq
 (.reg [oA 14 .mv [.t 0],
 oA 15 .mv [.t 1],
 oA 16 (.bin .lss) [.t 14, .t 15]])
 (.cond (.t 16)
 ((.seq
 (.reg [oA 4 .mv [.c (.int .i64 (-1))]])
 (.ret)))
 (.skip))))
 ((.seq
 ((.seq
 (.reg [oA 17 .mv [.t 0],
 oA 18 .mv [.t 1],
 oA 19 (.bin .gtr) [.t 17, .t 18]])
 (.cond (.t 19)
 ((.seq
 (.reg [oA 4 .mv [.c (.int .i64 1)]])
 (.ret)))
 (.skip))))
 ((.seq
 (.reg [oA 4 .mv [.c (.int .i64 0)]])
 (.ret))))))))))))))))⟩
def f71 : AF := ⟨1, 6, [.c 2 true 4],
 (.seq
 (.reg [oA 1 (.box 2) [.t 0],
 oA 2 (.alloc [.bool false, .sl [] 1 true, .bool false, .sl [] 1 true]) []])
 ((.seq
 (.reg [oA 3 (.load true 2) [.t 1],
 oA 4 (.call .pure true 72) [.c (.int .i64 1)],
 oA 5 (.build [.bool false, .sl [] 1 true, .bool false, .sl [] 1 true] [(0, 2), (2, 2)]) [.t 3, .t 4],
 oN (.store 4) [.t 2, .t 5]])
 (.ret))))⟩
def f72 : AF := ⟨1, 14, [.c 2 true 2],
 (.seq
 (.reg [oA 2 (.alloc [.bool false, .sl [] 1 true]) []])
 ((.seq
 ((.seq
 (.reg [oA 3 .mv [.t 0],
 oA 4 (.bin .lss) [.t 3, .c (.int .i64 0)]])
 (.cond (.t 4)
 ((.seq
 (.reg [oA 5 .mv [.t 0],
 oA 6 (.conv .u64) [.t 5],
 oA 7 (.un .neg) [.t 6],
 oA 8 (.call .pure false 83) [.t 7],
 oA 9 (.call .pure false 84) [.t 8, .c (.bool true)],
 oN (.store 2) [.t 2, .t 9]])
 (.ret)))
 (.skip))))
 ((.seq
 (.reg [oA 10 .mv [.t 0],
 oA 11 (.conv .u64) [.t 10],
 oA 12 (.call .pure false 83) [.t 11],
 oA 13 (.call .pure false 84) [.t 12, .c (.bool false)],
 oN (.store 2) [.t 2, .t 13]])
 (.ret))))))⟩
def f73 : AF := ⟨1, 9, [.t 2],
 (.seq
 (.reg [oA 1 (.box 2) [.t 0],
 oA 2 .mv [.c (.int .i64 0)]])
 ((.seq
 ((.seq
 (.reg [oA 3 (.faddr 0 1) [.t 1],
 oA 4 (.load false 1) [.t 3]])
 (.cond (.t 4)
 ((.seq
 (.reg [oA 2 .mv [.c (.int .i64 (-1))]])
 (.ret)))
 (.skip))))
 ((.seq
 (.reg [oA 5 (.faddr 1 1) [.t 1],
 oA 6 (.load false 1) [.t 5],
 oA 7 .len [.t 6],
 oA 8 .mn [.t 7, .c (.int .i64 1)],
 oA 2 .mv [.t 8]])
 (.ret))))))⟩
def f74 : AF := ⟨2, 13, [.c 4 true 4, .t 5],
 (.seq
 (.reg [oA 2 (.box 2) [.t 0],
 oA 3 (.box 2) [.t 1],
 oA 4 (.alloc [.bool false, .sl [] 1 true, .bool false, .sl [] 1 true]) [],
 oA 5 .mv [.c (.int .i64 0)]])
 ((.seq
 ((.seq
 (.reg [oA 6 (.load true 2) [.t 3],
 oA 7 (.call .pure false 73) [.t 6],
 oA 8 (.bin .eql) [.t 7, .c (.int .i64 0)]])
 (.cond (.t 8)
 ((.seq
 (.reg [oA 9 (.build [.bool false, .sl [] 1 true, .bool false, .sl [] 1 true] []) [],
 oN (.store 4) [.t 4, .t 9],
 oA 5 .mv [.c (.int .i64 10)]])
 (.ret)))
 (.skip))))
 ((.seq
 (.reg [oA 10 (.load true 2) [.t 2],
 oA 11 (.load true 2) [.t 3],
 oA 12 (.call .pure false 76) [.t 10, .t 11],
 oN (.store 4) [.t 4, .t 12],
 oA 5 .mv [.c (.int .i64 0)]])
 (.ret))))))⟩
def f75_0m : List Bool := [false, false, true, true, false, false, false, true, true, true]
def f75_0 : AC :=
 (.seq
 (.reg [oA 10 (.bin .lss) [.t 9, .t 8]])
 ((.seq
 (.cond (.t 10)
 (.skip)
 (.exit 0))
 ((.seq
 (.block 1 ((.seq
 (.reg [oA 11 (.ias 2) [.t 7, .t 9],
 oA 12 (.load true 2) [.t 11],
 oA 5 (.alloc [.bool false, .sl [] 1 true]) [],
 oN (.store 2) [.t 5, .t 12]])
 (.reg [oA 13 (.load true 2) [.t 3],
 oA 14 (.load true 2) [.t 5],
 oA 15 (.call .pure false 85) [.t 13, .t 14],
 oN (.store 2) [.t 3, .t 15]]))))
 (.reg [oA 16 (.bin .add) [.t 9, .c (.int .i64 1)],
 oA 9 .mv [.t 16]]))))))
def f75 : AF := ⟨1, 18, [.c 2 true 2],
 (.seq
 (.reg [oA 2 (.alloc [.bool false, .sl [] 1 true]) []])
 ((.seq
 (.reg [oA 6 (.call .pure false 72) [.c (.int .i64 1)],
 oA 3 (.alloc [.bool false, .sl [] 1 true]) [],
 oN (.store 2) [.t 3, .t 6]])
 ((.seq
 ((.seq
 (.reg [oA 7 .mv [.t 0],
 oA 8 .len [.t 7],
 oA 9 .mv [.c (.int .i64 0)]])
 (.block 0 (.loop f75_0m f75_0))))
 ((.seq
 (.reg [oA 17 (.load true 2) [.t 3],
 oN (.store 2) [.t 2, .t 17]])
 (.ret))))))))⟩
def f76 : AF := ⟨2, 31, [.c 4 true 4],
 (.seq
 (.reg [oA 2 (.box 2) [.t 0],
 oA 3 (.box 2) [.t 1],
 oA 4 (.alloc [.bool false, .sl [] 1 true, .bool false, .sl [] 1 true]) []])
 ((.seq
 (.reg [oA 6 (.load true 2) [.t 2],
 oA 7 (.load true 2) [.t 3],
 oA 8 (.call .pure false 86) [.t 6, .t 7],
 oA 5 (.alloc [.bool false, .sl [] 1 true]) [],
 oN (.store 2) [.t 5, .t 8]])
 ((.seq
 ((.seq
 (.reg [oA 9 (.load true 2) [.t 3],
 oA 10 (.call .pure false 73) [.t 9],
 oA 11 (.bin .lss) [.t 10, .c (.int .i64 0)]])
 (.cond (.t 11)
 (.reg [oA 12 (.load true 2) [.t 5],
 oA 13 (.call .pure false 87) [.t 12],
 oN (.store 2) [.t 5, .t 13]])
 (.skip))))
 ((.seq
 (.reg [oA 15 (.load true 2) [.t 2],
 oA 16 (.load true 2) [.t 5],
 oA 17 (.call .pure false 88) [.t 15, .t 16],
 oA 14 .mv [.t 17],
 oA 18 (.ext 0) [.t 14],
 oA 19 (.ext 1) [.t 14],
 oA 20 (.ext 2) [.t 14],
 oN (.store 2) [.t 2, .t 18]])
 ((.seq
 (.reg [oA 22 (.load true 2) [.t 3],
 oA 23 (.load true 2) [.t 5],
 oA 24 (.call .pure false 88) [.t 22, .t 23],
 oA 21 .mv [.t 24],
 oA 25 (.ext 0) [.t 21],
 oA 26 (.ext 1) [.t 21],
 oA 27 (.ext 2) [.t 21],
 oN (.store 2) [.t 3, .t 25]])
 ((.seq
 (.reg [oA 28 (.load true 2) [.t 2],
 oA 29 (.load true 2) [.t 3],
 oA 30 (.build [.bool false, .sl [] 1 true, .bool false, .sl [] 1 true] [(0, 2), (2, 2)]) [.t 28, .t 29],
 oN (.store 4) [.t 4, .t 30]])
 (.ret))))))))))))⟩
def f77 : AF := ⟨2, 9, [.c 4 true 2],
 (.seq
 (.reg [oA 2 (.box 2) [.t 0],
 oA 3 (.box 2) [.t 1],
 oA 4 (.alloc [.bool false, .sl [] 1 true]) []])
 ((.seq
 (.reg [oA 5 (.load true 2) [.t 2],
 oA 6 (.load true 2) [.t 3],
 oA 7 (.call .pure true 87) [.t 6],
 oA 8 (.call .pure true 89) [.t 5, .t 7],
 oN (.store 2) [.t 4, .t 8]])
 (.ret))))⟩
def f60_0m : List Bool := [true, true, true, true, false, false, false, false, true, true]
def f60_0 : AC :=
 (.seq
 ((.seq
 (.reg [oA 18 .mv [.t 9],
 oA 19 .mv [.t 1],
 oA 20 (.bin .gtr) [.t 18, .t 19],
 oA 21 .mv [.t 20],
 oG 22 .mv [.t 3] 21 true,
 oG 23 .mv [.t 0] 21 true,
 oG 24 .mv [.t 9] 21 true,
 oG 25 (.ias 8) [.t 23, .t 24] 21 true,
 oG 26 (.load true 8) [.t 25] 21 true,
 oG 27 .mv [.t 0] 21 true,
 oG 28 .mv [.t 9] 21 true,
 oG 29 (.bin .sub) [.t 28, .c (.int .i64 1)] 21 true,
 oG 30 (.ias 8) [.t 27, .t 29] 21 true,
 oG 31 (.load true 8) [.t 30] 21 true,
 oG 32 (.callv .pure true) [.t 22, .t 26, .t 31] 21 true,
 oG 33 (.bin .lss) [.t 32, .c (.int .i64 0)] 21 true,
 oA 34 .pick [.t 21, .t 33, .c (.bool false)]])
 (.cond (.t 34)
 (.skip)
 (.exit 2))))
 ((.seq
 (.block 3 (.reg [oA 37 .mv [.t 0],
 oA 38 .mv [.t 9],
 oA 39 .mv [.t 0],
 oA 40 .mv [.t 9],
 oA 41 (.bin .sub) [.t 40, .c (.int .i64 1)],
 oA 42 .mv [.t 0],
 oA 43 .mv [.t 9],
 oA 44 (.bin .sub) [.t 43, .c (.int .i64 1)],
 oA 45 (.ias 8) [.t 42, .t 44],
 oA 46 (.load true 8) [.t 45],
 oA 47 .mv [.t 0],
 oA 48 .mv [.t 9],
 oA 49 (.ias 8) [.t 47, .t 48],
 oA 50 (.load true 8) [.t 49],
 oA 51 (.ias 8) [.t 37, .t 38],
 oN (.store 8) [.t 51, .t 46],
 oA 52 (.ias 8) [.t 39, .t 41],
 oN (.store 8) [.t 52, .t 50]]))
 (.reg [oA 35 .mv [.t 9],
 oA 36 (.bin .sub) [.t 35, .c (.int .i64 1)],
 oA 9 .mv [.t 36]]))))
def f60_1m : List Bool := [true, true, true, true, false, false, false, false, true]
def f60_1 : AC :=
 (.seq
 ((.seq
 (.reg [oA 12 .mv [.t 8],
 oA 13 .mv [.t 2],
 oA 14 (.bin .lss) [.t 12, .t 13]])
 (.cond (.t 14)
 (.skip)
 (.exit 0))))
 ((.seq
 (.block 1 ((.seq
 (.reg [oA 17 .mv [.t 8],
 oA 9 .mv [.t 17]])
 (.block 2 (.loop f60_0m f60_0)))))
 (.reg [oA 15 .mv [.t 8],
 oA 16 (.bin .add) [.t 15, .c (.int .i64 1)],
 oA 8 .mv [.t 16]]))))
def f60 : AF := ⟨4, 53, [],
 (.seq
 (.reg [oA 10 .mv [.t 1],
 oA 11 (.bin .add) [.t 10, .c (.int .i64 1)],
 oA 8 .mv [.t 11]])
 (.block 0 (.loop f60_1m f60_1)))⟩
def f61_0m : List Bool := [true, false, false, true, false, false, false, false, true, true, true, true]
def f61_0 : AC :=
 (.seq
 ((.seq
 (.reg [oA 20 .mv [.t 11],
 oA 21 (.bin .geq) [.t 20, .c (.int .i64 0)]])
 (.cond (.t 21)
 (.skip)
 (.exit 0))))
 ((.seq
 (.block 1 (.reg [oA 24 .mv [.t 0],
 oA 25 .mv [.t 11],
 oA 26 .mv [.t 10],
 oA 27 .mv [.t 8],
 oA 28 .mv [.t 3],
 oA 29 (.call .pure false 78) [.t 24, .t 25, .t 26, .t 27, .t 28]]))
 (.reg [oA 22 .mv [.t 11],
 oA 23 (.bin .sub) [.t 22, .c (.int .i64 1)],
 oA 11 .mv [.t 23]]))))
def f61_1m : List Bool := [true, false, false, true, false, false, false, false, true, true, false, false, true]
def f61_1 : AC :=
 (.seq
 ((.seq
 (.reg [oA 32 .mv [.t 12],
 oA 33 (.bin .geq) [.t 32, .c (.int .i64 0)]])
 (.cond (.t 33)
 (.skip)
 (.exit 2))))
 ((.seq
 (.block 3 ((.seq
 (.reg [oA 36 .mv [.t 0],
 oA 37 .mv [.t 8],
 oA 38 .mv [.t 0],
 oA 39 .mv [.t 8],
 oA 40 .mv [.t 12],
 oA 41 (.bin .add) [.t 39, .t 40],
 oA 42 .mv [.t 0],
 oA 43 .mv [.t 8],
 oA 44 .mv [.t 12],
 oA 45 (.bin .add) [.t 43, .t 44],
 oA 46 (.ias 8) [.t 42, .t 45],
 oA 47 (.load true 8) [.t 46],
 oA 48 .mv [.t 0],
 oA 49 .mv [.t 8],
 oA 50 (.ias 8) [.t 48, .t 49],
 oA 51 (.load true 8) [.t 50],
 oA 52 (.ias 8) [.t 36, .t 37],
 oN (.store 8) [.t 52, .t 47],
 oA 53 (.ias 8) [.t 38, .t 41],
 oN (.store 8) [.t 53, .t 51]])
 (.reg [oA 54 .mv [.t 0],
 oA 55 .mv [.t 9],
 oA 56 .mv [.t 12],
 oA 57 .mv [.t 8],
 oA 58 .mv [.t 3],
 oA 59 (.call .pure false 78) [.t 54, .t 55, .t 56, .t 57, .t 58]]))))
 (.reg [oA 34 .mv [.t 12],
 oA 35 (.bin .sub) [.t 34, .c (.int .i64 1)],
 oA 12 .mv [.t 35]]))))
def f61 : AF := ⟨4, 60, [],
 (.seq
 (.reg [oA 13 .mv [.t 1],
 oA 8 .mv [.t 13]])
 ((.seq
 (.reg [oA 9 .mv [.c (.int .i64 0)]])
 ((.seq
 (.reg [oA 14 .mv [.t 2],
 oA 15 .mv [.t 1],
 oA 16 (.bin .sub) [.t 14, .t 15],
 oA 10 .mv [.t 16]])
 ((.seq
 ((.seq
 (.reg [oA 17 .mv [.t 10],
 oA 18 (.bin .sub) [.t 17, .c (.int .i64 1)],
 oA 19 (.bin .quo) [.t 18, .c (.int .i64 2)],
 oA 11 .mv [.t 19]])
 (.block 0 (.loop f61_0m f61_0))))
 ((.seq
 (.reg [oA 30 .mv [.t 10],
 oA 31 (.bin .sub) [.t 30, .c (.int .i64 1)],
 oA 12 .mv [.t 31]])
 (.block 2 (.loop f61_1m f61_1)))))))))))⟩
def f62_0m : List Bool := [true, true, false, false, false, false, false, false, true, true, true, true]
def f62_0 : AC :=
 (.seq
 ((.seq
 (.reg [oA 28 .mv [.t 11],
 oA 29 .mv [.t 1],
 oA 30 .mv [.t 8],
 oA 31 (.bin .quo) [.t 30, .c (.int .i64 4)],
 oA 32 (.bin .mul) [.t 31, .c (.int .i64 2)],
 oA 33 (.bin .add) [.t 29, .t 32],
 oA 34 (.bin .add) [.t 33, .c (.int .i64 1)],
 oA 35 (.bin .leq) [.t 28, .t 34]])
 (.cond (.t 35)
 (.skip)
 (.exit 0))))
 ((.seq
 (.block 1 ((.seq
 (.reg [oA 38 (.call .pure false 80) [.t 9],
 oA 39 .mv [.t 10],
 oA 40 (.bin .sub) [.t 39, .c (.int .u64 1)],
 oA 41 (.bin .and) [.t 38, .t 40],
 oA 42 (.conv .i64) [.t 41],
 oA 12 .mv [.t 42]])
 ((.seq
 ((.seq
 (.reg [oA 43 .mv [.t 12],
 oA 44 .mv [.t 8],
 oA 45 (.bin .geq) [.t 43, .t 44]])
 (.cond (.t 45)
 (.reg [oA 46 .mv [.t 12],
 oA 47 .mv [.t 8],
 oA 48 (.bin .sub) [.t 46, .t 47],
 oA 12 .mv [.t 48]])
 (.skip))))
 (.reg [oA 49 .mv [.t 0],
 oA 50 .mv [.t 11],
 oA 51 .mv [.t 0],
 oA 52 .mv [.t 1],
 oA 53 .mv [.t 12],
 oA 54 (.bin .add) [.t 52, .t 53],
 oA 55 .mv [.t 0],
 oA 56 .mv [.t 1],
 oA 57 .mv [.t 12],
 oA 58 (.bin .add) [.t 56, .t 57],
 oA 59 (.ias 8) [.t 55, .t 58],
 oA 60 (.load true 8) [.t 59],
 oA 61 .mv [.t 0],
 oA 62 .mv [.t 11],
 oA 63 (.ias 8) [.t 61, .t 62],
 oA 64 (.load true 8) [.t 63],
 oA 65 (.ias 8) [.t 49, .t 50],
 oN (.store 8) [.t 65, .t 60],
 oA 66 (.ias 8) [.t 51, .t 54],
 oN (.store 8) [.t 66, .t 64]]))))))
 (.reg [oA 36 .mv [.t 11],
 oA 37 (.bin .add) [.t 36, .c (.int .i64 1)],
 oA 11 .mv [.t 37]]))))
def f62 : AF := ⟨4, 67, [],
 (.seq
 (.reg [oA 13 .mv [.t 2],
 oA 14 .mv [.t 1],
 oA 15 (.bin .sub) [.t 13, .t 14],
 oA 8 .mv [.t 15]])
 ((.seq
 (.reg [oA 16 .mv [.t 8],
 oA 17 (.bin .geq) [.t 16, .c (.int .i64 8)]])
 (.cond (.t 17)
 ((.seq
 (.reg [oA 18 .mv [.t 8],
 oA 19 (.conv .u64) [.t 18],
 oA 9 (.alloc [.int .u64 0]) [],
 oN (.store 1) [.t 9, .t 19]])
 ((.seq
 (.reg [oA 20 .mv [.t 8],
 oA 21 (.call .pure false 79) [.t 20],
 oA 10 .mv [.t 21]])
 ((.seq
 (.reg [oA 22 .mv [.t 1],
 oA 23 .mv [.t 8],
 oA 24 (.bin .quo) [.t 23, .c (.int .i64 4)],
 oA 25 (.bin .mul) [.t 24, .c (.int .i64 2)],
 oA 26 (.bin .add) [.t 22, .t 25],
 oA 27 (.bin .sub) [.t 26, .c (.int .i64 1)],
 oA 11 .mv [.t 27]])
 (.block 0 (.loop f62_0m f62_0))))))))
 (.skip)))))⟩
def f63 : AF := ⟨4, 63, [.t 8, .t 9],
 (.seq
 (.reg [oA 8 .mv [.c (.int .i64 0)],
 oA 9 .mv [.c (.int .i64 0)]])
 ((.seq
 (.reg [oA 15 .mv [.t 2],
 oA 16 .mv [.t 1],
 oA 17 (.bin .sub) [.t 15, .t 16],
 oA 10 .mv [.t 17]])
 ((.seq
 (.reg [oA 11 (.alloc [.int .i64 0]) []])
 ((.seq
 (.reg [oA 18 .mv [.t 1],
 oA 19 .mv [.t 10],
 oA 20 (.bin .quo) [.t 19, .c (.int .i64 4)],
 oA 21 (.bin .mul) [.t 20, .c (.int .i64 1)],
 oA 22 (.bin .add) [.t 18, .t 21],
 oA 12 .mv [.t 22]])
 ((.seq
 (.reg [oA 23 .mv [.t 1],
 oA 24 .mv [.t 10],
 oA 25 (.bin .quo) [.t 24, .c (.int .i64 4)],
 oA 26 (.bin .mul) [.t 25, .c (.int .i64 2)],
 oA 27 (.bin .add) [.t 23, .t 26],
 oA 13 .mv [.t 27]])
 ((.seq
 (.reg [oA 28 .mv [.t 1],
 oA 29 .mv [.t 10],
 oA 30 (.bin .quo) [.t 29, .c (.int .i64 4)],
 oA 31 (.bin .mul) [.t 30, .c (.int .i64 3)],
 oA 32 (.bin .add) [.t 28, .t 31],
 oA 14 .mv [.t 32]])
 ((.seq
 ((.seq
 (.reg [oA 33 .mv [.t 10],
 oA 34 (.bin .geq) [.t 33, .c (.int .i64 8)]])
 (.cond (.t 34)
 ((.seq
 ((.seq
 (.reg [oA 35 .mv [.t 10],
 oA 36 (.bin .geq) [.t 35, .c (.int .i64 50)]])
 (.cond (.t 36)
 ((.seq
 (.reg [oA 37 .mv [.t 0],
 oA 38 .mv [.t 12],
 oA 39 .mv [.t 3],
 oA 40 (.call .pure false 81) [.t 37, .t 38, .t 11, .t 39],
 oA 12 .mv [.t 40]])
 ((.seq
 (.reg [oA 41 .mv [.t 0],
 oA 42 .mv [.t 13],
 oA 43 .mv [.t 3],
 oA 44 (.call .pure false 81) [.t 41, .t 42, .t 11, .t 43],
 oA 13 .mv [.t 44]])
 (.reg [oA 45 .mv [.t 0],
 oA 46 .mv [.t 14],
 oA 47 .mv [.t 3],
 oA 48 (.call .pure false 81) [.t 45, .t 46, .t 11, .t 47],
 oA 14 .mv [.t 48]])))))
 (.skip))))
 (.reg [oA 49 .mv [.t 0],
 oA 50 .mv [.t 12],
 oA 51 .mv [.t 13],
 oA 52 .mv [.t 14],
 oA 53 .mv [.t 3],
 oA 54 (.call .pure false 82) [.t 49, .t 50, .t 51, .t 52, .t 11, .t 53],
 oA 13 .mv [.t 54]])))
 (.skip))))
 ((.seq
 (.reg [oA 55 (.load false 1) [.t 11]])
 (.block 0 ((.seq
 (.reg [oA 58 (.bin .eql) [.t 55, .c (.int .i64 0)],
 oA 57 .mv [.t 58]])
 (.cond (.t 57)
 ((.seq
 (.reg [oA 59 .mv [.t 13],
 oA 8 .mv [.t 59],
 oA 9 .mv [.c (.int .i64 1)]])
 (.ret)))
 ((.seq
 (.reg [oA 61 (.bin .eql) [.t 55, .c (.int .i64 12)],
 oA 60 .mv [.t 61]])
 (.cond (.t 60)
 ((.seq
 (.reg [oA 62 .mv [.t 13],
 oA 8 .mv [.t 62],
 oA 9 .mv [.c (.int .i64 2)]])
 (.ret)))
 ((.seq
 (.reg [oA 56 .mv [.t 13],
 oA 8 .mv [.t 56],
 oA 9 .mv [.c (.int .i64 0)]])
 (.ret)))))))))))))))))))))))))⟩
def f64_0m : List Bool := [true, false, false, false, false, false, false, false, true, true]
def f64_0 : AC :=
 (.seq
 ((.seq
 (.reg [oA 13 .mv [.t 8],
 oA 14 .mv [.t 9],
 oA 15 (.bin .lss) [.t 13, .t 14]])
 (.cond (.t 15)
 (.skip)
 (.exit 0))))
 (.block 1 ((.seq
 (.reg [oA 16 .mv [.t 0],
 oA 17 .mv [.t 8],
 oA 18 .mv [.t 0],
 oA 19 .mv [.t 9],
 oA 20 .mv [.t 0],
 oA 21 .mv [.t 9],
 oA 22 (.ias 8) [.t 20, .t 21],
 oA 23 (.load true 8) [.t 22],
 oA 24 .mv [.t 0],
 oA 25 .mv [.t 8],
 oA 26 (.ias 8) [.t 24, .t 25],
 oA 27 (.load true 8) [.t 26],
 oA 28 (.ias 8) [.t 16, .t 17],
 oN (.store 8) [.t 28, .t 23],
 oA 29 (.ias 8) [.t 18, .t 19],
 oN (.store 8) [.t 29, .t 27]])
 ((.seq
 (.reg [oA 30 .mv [.t 8],
 oA 31 (.bin .add) [.t 30, .c (.int .i64 1)],
 oA 8 .mv [.t 31]])
 (.reg [oA 32 .mv [.t 9],
 oA 33 (.bin .sub) [.t 32, .c (.int .i64 1)],
 oA 9 .mv [.t 33]])))))))
def f64 : AF := ⟨4, 34, [],
 (.seq
 (.reg [oA 10 .mv [.t 1],
 oA 8 .mv [.t 10]])
 ((.seq
 (.reg [oA 11 .mv [.t 2],
 oA 12 (.bin .sub) [.t 11, .c (.int .i64 1)],
 oA 9 .mv [.t 12]])
 (.block 0 (.loop f64_0m f64_0)))))⟩
def f65_0m : List Bool := [true, true, true, true, false, false, false, false, false, true, true]
def f65_0 : AC :=
 (.seq
 ((.seq
 (.reg [oA 19 .mv [.t 9],
 oA 20 .mv [.t 2],
 oA 21 (.bin .lss) [.t 19, .t 20],
 oA 22 .mv [.t 21],
 oG 23 .mv [.t 3] 22 true,
 oG 24 .mv [.t 0] 22 true,
 oG 25 .mv [.t 9] 22 true,
 oG 26 (.ias 8) [.t 24, .t 25] 22 true,
 oG 27 (.load true 8) [.t 26] 22 true,
 oG 28 .mv [.t 0] 22 true,
 oG 29 .mv [.t 9] 22 true,
 oG 30 (.bin .sub) [.t 29, .c (.int .i64 1)] 22 true,
 oG 31 (.ias 8) [.t 28, .t 30] 22 true,
 oG 32 (.load true 8) [.t 31] 22 true,
 oG 33 (.callv .pure true) [.t 23, .t 27, .t 32] 22 true,
 oG 34 (.bin .lss) [.t 33, .c (.int .i64 0)] 22 true,
 oG 35 (.un .not) [.t 34] 22 true,
 oA 36 .pick [.t 22, .t 35, .c (.bool false)]])
 (.cond (.t 36)
 (.skip)
 (.exit 2))))
 (.block 3 (.reg [oA 37 .mv [.t 9],
 oA 38 (.bin .add) [.t 37, .c (.int .i64 1)],
 oA 9 .mv [.t 38]])))
def f65_1m : List Bool := [true, true, true, true, false, false, false, false, false, true, true, true]
def f65_1 : AC :=
 (.seq
 ((.seq
 (.reg [oA 68 .mv [.t 11],
 oA 69 (.bin .geq) [.t 68, .c (.int .i64 1)]])
 (.cond (.t 69)
 (.skip)
 (.exit 4))))
 ((.seq
 (.block 5 ((.seq
 ((.seq
 (.reg [oA 72 .mv [.t 3],
 oA 73 .mv [.t 0],
 oA 74 .mv [.t 11],
 oA 75 (.ias 8) [.t 73, .t 74],
 oA 76 (.load true 8) [.t 75],
 oA 77 .mv [.t 0],
 oA 78 .mv [.t 11],
 oA 79 (.bin .sub) [.t 78, .c (.int .i64 1)],
 oA 80 (.ias 8) [.t 77, .t 79],
 oA 81 (.load true 8) [.t 80],
 oA 82 (.callv .pure true) [.t 72, .t 76, .t 81],
 oA 83 (.bin .lss) [.t 82, .c (.int .i64 0)],
 oA 84 (.un .not) [.t 83]])
 (.cond (.t 84)
 (.exit 4)
 (.skip))))
 (.reg [oA 85 .mv [.t 0],
 oA 86 .mv [.t 11],
 oA 87 .mv [.t 0],
 oA 88 .mv [.t 11],
 oA 89 (.bin .sub) [.t 88, .c (.int .i64 1)],
 oA 90 .mv [.t 0],
 oA 91 .mv [.t 11],
 oA 92 (.bin .sub) [.t 91, .c (.int .i64 1)],
 oA 93 (.ias 8) [.t 90, .t 92],
 oA 94 (.load true 8) [.t 93],
 oA 95 .mv [.t 0],
 oA 96 .mv [.t 11],
 oA 97 (.ias 8) [.t 95, .t 96],
 oA 98 (.load true 8) [.t 97],
 oA 99 (.ias 8) [.t 85, .t 86],
 oN (.store 8) [.t 99, .t 94],
 oA 100 (.ias 8) [.t 87, .t 89],
 oN (.store 8) [.t 100, .t 98]]))))
 (.reg [oA 70 .mv [.t 11],
 oA 71 (.bin .sub) [.t 70, .c (.int .i64 1)],
 oA 11 .mv [.t 71]]))))
def f65_2m : List Bool := [true, true, true, true, false, false, false, false, false, true, true, false, true]
def f65_2 : AC :=
 (.seq
 ((.seq
 (.reg [oA 107 .mv [.t 12],
 oA 108 .mv [.t 2],
 oA 109 (.bin .lss) [.t 107, .t 108]])
 (.cond (.t 109)
 (.skip)
 (.exit 6))))
 ((.seq
 (.block 7 ((.seq
 ((.seq
 (.reg [oA 112 .mv [.t 3],
 oA 113 .mv [.t 0],
 oA 114 .mv [.t 12],
 oA 115 (.ias 8) [.t 113, .t 114],
 oA 116 (.load true 8) [.t 115],
 oA 117 .mv [.t 0],
 oA 118 .mv [.t 12],
 oA 119 (.bin .sub) [.t 118, .c (.int .i64 1)],
 oA 120 (.ias 8) [.t 117, .t 119],
 oA 121 (.load true 8) [.t 120],
 oA 122 (.callv .pure true) [.t 112, .t 116, .t 121],
 oA 123 (.bin .lss) [.t 122, .c (.int .i64 0)],
 oA 124 (.un .not) [.t 123]])
 (.cond (.t 124)
 (.exit 6)
 (.skip))))
 (.reg [oA 125 .mv [.t 0],
 oA 126 .mv [.t 12],
 oA 127 .mv [.t 0],
 oA 128 .mv [.t 12],
 oA 129 (.bin .sub) [.t 128, .c (.int .i64 1)],
 oA 130 .mv [.t 0],
 oA 131 .mv [.t 12],
 oA 132 (.bin .sub) [.t 131, .c (.int .i64 1)],
 oA 133 (.ias 8) [.t 130, .t 132],
 oA 134 (.load true 8) [.t 133],
 oA 135 .mv [.t 0],
 oA 136 .mv [.t 12],
 oA 137 (.ias 8) [.t 135, .t 136],
 oA 138 (.load true 8) [.t 137],
 oA 139 (.ias 8) [.t 125, .t 126],
 oN (.store 8) [.t 139, .t 134],
 oA 140 (.ias 8) [.t 127, .t 129],
 oN (.store 8) [.t 140, .t 138]]))))
 (.reg [oA 110 .mv [.t 12],
 oA 111 (.bin .add) [.t 110, .c (.int .i64 1)],
 oA 12 .mv [.t 111]]))))
def f65_3m : List Bool := [true, true, true, true, false, false, false, false, false, true, true]
def f65_3 : AC :=
 (.seq
 ((.seq
 (.reg [oA 15 .mv [.t 10],
 oA 16 (.bin .lss) [.t 15, .c (.int .i64 5)]])
 (.cond (.t 16)
 (.skip)
 (.exit 0))))
 ((.seq
 (.block 1 ((.seq
 (.block 2 (.loop f65_0m f65_0))
 ((.seq
 ((.seq
 (.reg [oA 39 .mv [.t 9],
 oA 40 .mv [.t 2],
 oA 41 (.bin .eql) [.t 39, .t 40]])
 (.cond (.t 41)
 ((.seq
 (.reg [oA 8 .mv [.c (.bool true)]])
 (.ret)))
 (.skip))))
 ((.seq
 ((.seq
 (.reg [oA 42 .mv [.t 2],
 oA 43 .mv [.t 1],
 oA 44 (.bin .sub) [.t 42, .t 43],
 oA 45 (.bin .lss) [.t 44, .c (.int .i64 50)]])
 (.cond (.t 45)
 ((.seq
 (.reg [oA 8 .mv [.c (.bool false)]])
 (.ret)))
 (.skip))))
 ((.seq
 (.reg [oA 46 .mv [.t 0],
 oA 47 .mv [.t 9],
 oA 48 .mv [.t 0],
 oA 49 .mv [.t 9],
 oA 50 (.bin .sub) [.t 49, .c (.int .i64 1)],
 oA 51 .mv [.t 0],
 oA 52 .mv [.t 9],
 oA 53 (.bin .sub) [.t 52, .c (.int .i64 1)],
 oA 54 (.ias 8) [.t 51, .t 53],
 oA 55 (.load true 8) [.t 54],
 oA 56 .mv [.t 0],
 oA 57 .mv [.t 9],
 oA 58 (.ias 8) [.t 56, .t 57],
 oA 59 (.load true 8) [.t 58],
 oA 60 (.ias 8) [.t 46, .t 47],
 oN (.store 8) [.t 60, .t 55],
 oA 61 (.ias 8) [.t 48, .t 50],
 oN (.store 8) [.t 61, .t 59]])
 ((.seq
 ((.seq
 (.reg [oA 62 .mv [.t 9],
 oA 63 .mv [.t 1],
 oA 64 (.bin .sub) [.t 62, .t 63],
 oA 65 (.bin .geq) [.t 64, .c (.int .i64 2)]])
 (.cond (.t 65)
 ((.seq
 (.reg [oA 66 .mv [.t 9],
 oA 67 (.bin .sub) [.t 66, .c (.int .i64 1)],
 oA 11 .mv [.t 67]])
 (.block 4 (.loop f65_1m f65_1))))
 (.skip))))
 ((.seq
 (.reg [oA 101 .mv [.t 2],
 oA 102 .mv [.t 9],
 oA 103 (.bin .sub) [.t 101, .t 102],
 oA 104 (.bin .geq) [.t 103, .c (.int .i64 2)]])
 (.cond (.t 104)
 ((.seq
 (.reg [oA 105 .mv [.t 9],
 oA 106 (.bin .add) [.t 105, .c (.int .i64 1)],
 oA 12 .mv [.t 106]])
 (.block 6 (.loop f65_2m f65_2))))
 (.skip)))))))))))))))
 (.reg [oA 17 .mv [.t 10],
 oA 18 (.bin .add) [.t 17, .c (.int .i64 1)],
 oA 10 .mv [.t 18]]))))
def f65 : AF := ⟨4, 141, [.t 8],
 (.seq
 (.reg [oA 8 .mv [.c (.bool false)]])
 ((.seq
 (.reg [oA 13 .mv [.t 1],
 oA 14 (.bin .add) [.t 13, .c (.int .i64 1)],
 oA 9 .mv [.t 14]])
 ((.seq
 ((.seq
 (.reg [oA 10 .mv [.c (.int .i64 0)]])
 (.block 0 (.loop f65_3m f65_3))))
 ((.seq
 (.reg [oA 8 .mv [.c (.bool false)]])
 (.ret))))))))⟩
def f66_0m : List Bool := [true, true, false, false, true, false, false, false, false, false, false, true, true]
def f66_0 : AC :=
 (.seq
 ((.seq
 (.reg [oA 31 .mv [.t 11],
 oA 32 .mv [.t 12],
 oA 33 (.bin .leq) [.t 31, .t 32],
 oA 34 .mv [.t 33],
 oG 35 .mv [.t 4] 34 true,
 oG 36 .mv [.t 0] 34 true,
 oG 37 .mv [.t 1] 34 true,
 oG 38 (.ias 8) [.t 36, .t 37] 34 true,
 oG 39 (.load true 8) [.t 38] 34 true,
 oG 40 .mv [.t 0] 34 true,
 oG 41 .mv [.t 11] 34 true,
 oG 42 (.ias 8) [.t 40, .t 41] 34 true,
 oG 43 (.load true 8) [.t 42] 34 true,
 oG 44 (.callv .pure true) [.t 35, .t 39, .t 43] 34 true,
 oG 45 (.bin .lss) [.t 44, .c (.int .i64 0)] 34 true,
 oG 46 (.un .not) [.t 45] 34 true,
 oA 47 .pick [.t 34, .t 46, .c (.bool false)]])
 (.cond (.t 47)
 (.skip)
 (.exit 2))))
 (.block 3 (.reg [oA 48 .mv [.t 11],
 oA 49 (.bin .add) [.t 48, .c (.int .i64 1)],
 oA 11 .mv [.t 49]])))
def f66_1m : List Bool := [true, true, false, false, true, false, false, false, false, false, false, true, true]
def f66_1 : AC :=
 (.seq
 ((.seq
 (.reg [oA 50 .mv [.t 11],
 oA 51 .mv [.t 12],
 oA 52 (.bin .leq) [.t 50, .t 51],
 oA 53 .mv [.t 52],
 oG 54 .mv [.t 4] 53 true,
 oG 55 .mv [.t 0] 53 true,
 oG 56 .mv [.t 1] 53 true,
 oG 57 (.ias 8) [.t 55, .t 56] 53 true,
 oG 58 (.load true 8) [.t 57] 53 true,
 oG 59 .mv [.t 0] 53 true,
 oG 60 .mv [.t 12] 53 true,
 oG 61 (.ias 8) [.t 59, .t 60] 53 true,
 oG 62 (.load true 8) [.t 61] 53 true,
 oG 63 (.callv .pure true) [.t 54, .t 58, .t 62] 53 true,
 oG 64 (.bin .lss) [.t 63, .c (.int .i64 0)] 53 true,
 oA 65 .pick [.t 53, .t 64, .c (.bool false)]])
 (.cond (.t 65)
 (.skip)
 (.exit 4))))
 (.block 5 (.reg [oA 66 .mv [.t 12],
 oA 67 (.bin .sub) [.t 66, .c (.int .i64 1)],
 oA 12 .mv [.t 67]])))
def f66_2m : List Bool := [true, true, false, false, true, false, false, false, false, false, false, true, true]
def f66_2 : AC :=
 .block 1 ((.seq
 (.block 2 (.loop f66_0m f66_0))
 ((.seq
 (.block 4 (.loop f66_1m f66_1))
 ((.seq
 ((.seq
 (.reg [oA 68 .mv [.t 11],
 oA 69 .mv [.t 12],
 oA 70 (.bin .gtr) [.t 68, .t 69]])
 (.cond (.t 70)
 (.exit 0)
 (.skip))))
 ((.seq
 (.reg [oA 71 .mv [.t 0],
 oA 72 .mv [.t 11],
 oA 73 .mv [.t 0],
 oA 74 .mv [.t 12],
 oA 75 .mv [.t 0],
 oA 76 .mv [.t 12],
 oA 77 (.ias 8) [.t 75, .t 76],
 oA 78 (.load true 8) [.t 77],
 oA 79 .mv [.t 0],
 oA 80 .mv [.t 11],
 oA 81 (.ias 8) [.t 79, .t 80],
 oA 82 (.load true 8) [.t 81],
 oA 83 (.ias 8) [.t 71, .t 72],
 oN (.store 8) [.t 83, .t 78],
 oA 84 (.ias 8) [.t 73, .t 74],
 oN (.store 8) [.t 84, .t 82]])
 ((.seq
 (.reg [oA 85 .mv [.t 11],
 oA 86 (.bin .add) [.t 85, .c (.int .i64 1)],
 oA 11 .mv [.t 86]])
 (.reg [oA 87 .mv [.t 12],
 oA 88 (.bin .sub) [.t 87, .c (.int .i64 1)],
 oA 12 .mv [.t 88]])))))))))))
def f66 : AF := ⟨5, 90, [.t 10],
 (.seq
 (.reg [oA 10 .mv [.c (.int .i64 0)]])
 ((.seq
 (.reg [oA 13 .mv [.t 0],
 oA 14 .mv [.t 1],
 oA 15 .mv [.t 0],
 oA 16 .mv [.t 3],
 oA 17 .mv [.t 0],
 oA 18 .mv [.t 3],
 oA 19 (.ias 8) [.t 17, .t 18],
 oA 20 (.load true 8) [.t 19],
 oA 21 .mv [.t 0],
 oA 22 .mv [.t 1],
 oA 23 (.ias 8) [.t 21, .t 22],
 oA 24 (.load true 8) [.t 23],
 oA 25 (.ias 8) [.t 13, .t 14],
 oN (.store 8) [.t 25, .t 20],
 oA 26 (.ias 8) [.t 15, .t 16],
 oN (.store 8) [.t 26, .t 24]])
 ((.seq
 (.reg [oA 27 .mv [.t 1],
 oA 28 (.bin .add) [.t 27, .c (.int .i64 1)],
 oA 29 .mv [.t 2],
 oA 30 (.bin .sub) [.t 29, .c (.int .i64 1)],
 oA 11 .mv [.t 28],
 oA 12 .mv [.t 30]])
 ((.seq
 (.block 0 (.loop f66_2m f66_2))
 ((.seq
 (.reg [oA 89 .mv [.t 11],
 oA 10 .mv [.t 89]])
 (.ret))))))))))⟩
def f67_0m : List Bool := [true, true, false, false, true, false, false, false, false, false, false, false, true, true]
def f67_0 : AC :=
 (.seq
 ((.seq
 (.reg [oA 32 .mv [.t 12],
 oA 33 .mv [.t 13],
 oA 34 (.bin .leq) [.t 32, .t 33],
 oA 35 .mv [.t 34],
 oG 36 .mv [.t 4] 35 true,
 oG 37 .mv [.t 0] 35 true,
 oG 38 .mv [.t 12] 35 true,
 oG 39 (.ias 8) [.t 37, .t 38] 35 true,
 oG 40 (.load true 8) [.t 39] 35 true,
 oG 41 .mv [.t 0] 35 true,
 oG 42 .mv [.t 1] 35 true,
 oG 43 (.ias 8) [.t 41, .t 42] 35 true,
 oG 44 (.load true 8) [.t 43] 35 true,
 oG 45 (.callv .pure true) [.t 36, .t 40, .t 44] 35 true,
 oG 46 (.bin .lss) [.t 45, .c (.int .i64 0)] 35 true,
 oA 47 .pick [.t 35, .t 46, .c (.bool false)]])
 (.cond (.t 47)
 (.skip)
 (.exit 0))))
 (.block 1 (.reg [oA 48 .mv [.t 12],
 oA 49 (.bin .add) [.t 48, .c (.int .i64 1)],
 oA 12 .mv [.t 49]])))
def f67_1m : List Bool := [true, true, false, false, true, false, false, false, false, false, false, false, true, true]
def f67_1 : AC :=
 (.seq
 ((.seq
 (.reg [oA 50 .mv [.t 12],
 oA 51 .mv [.t 13],
 oA 52 (.bin .leq) [.t 50, .t 51],
 oA 53 .mv [.t 52],
 oG 54 .mv [.t 4] 53 true,
 oG 55 .mv [.t 0] 53 true,
 oG 56 .mv [.t 13] 53 true,
 oG 57 (.ias 8) [.t 55, .t 56] 53 true,
 oG 58 (.load true 8) [.t 57] 53 true,
 oG 59 .mv [.t 0] 53 true,
 oG 60 .mv [.t 1] 53 true,
 oG 61 (.ias 8) [.t 59, .t 60] 53 true,
 oG 62 (.load true 8) [.t 61] 53 true,
 oG 63 (.callv .pure true) [.t 54, .t 58, .t 62] 53 true,
 oG 64 (.bin .lss) [.t 63, .c (.int .i64 0)] 53 true,
 oG 65 (.un .not) [.t 64] 53 true,
 oA 66 .pick [.t 53, .t 65, .c (.bool false)]])
 (.cond (.t 66)
 (.skip)
 (.exit 2))))
 (.block 3 (.reg [oA 67 .mv [.t 13],
 oA 68 (.bin .sub) [.t 67, .c (.int .i64 1)],
 oA 13 .mv [.t 68]])))
def f67_2m : List Bool := [true, true, false, false, true, false, false, false, false, false, false, false, true, true]
def f67_2 : AC :=
 (.seq
 ((.seq
 (.reg [oA 105 .mv [.t 12],
 oA 106 .mv [.t 13],
 oA 107 (.bin .leq) [.t 105, .t 106],
 oA 108 .mv [.t 107],
 oG 109 .mv [.t 4] 108 true,
 oG 110 .mv [.t 0] 108 true,
 oG 111 .mv [.t 12] 108 true,
 oG 112 (.ias 8) [.t 110, .t 111] 108 true,
 oG 113 (.load true 8) [.t 112] 108 true,
 oG 114 .mv [.t 0] 108 true,
 oG 115 .mv [.t 1] 108 true,
 oG 116 (.ias 8) [.t 114, .t 115] 108 true,
 oG 117 (.load true 8) [.t 116] 108 true,
 oG 118 (.callv .pure true) [.t 109, .t 113, .t 117] 108 true,
 oG 119 (.bin .lss) [.t 118, .c (.int .i64 0)] 108 true,
 oA 120 .pick [.t 108, .t 119, .c (.bool false)]])
 (.cond (.t 120)
 (.skip)
 (.exit 6))))
 (.block 7 (.reg [oA 121 .mv [.t 12],
 oA 122 (.bin .add) [.t 121, .c (.int .i64 1)],
 oA 12 .mv [.t 122]])))
def f67_3m : List Bool := [true, true, false, false, true, false, false, false, false, false, false, false, true, true]
def f67_3 : AC :=
 (.seq
 ((.seq
 (.reg [oA 123 .mv [.t 12],
 oA 124 .mv [.t 13],
 oA 125 (.bin .leq) [.t 123, .t 124],
 oA 126 .mv [.t 125],
 oG 127 .mv [.t 4] 126 true,
 oG 128 .mv [.t 0] 126 true,
 oG 129 .mv [.t 13] 126 true,
 oG 130 (.ias 8) [.t 128, .t 129] 126 true,
 oG 131 (.load true 8) [.t 130] 126 true,
 oG 132 .mv [.t 0] 126 true,
 oG 133 .mv [.t 1] 126 true,
 oG 134 (.ias 8) [.t 132, .t 133] 126 true,
 oG 135 (.load true 8) [.t 134] 126 true,
 oG 136 (.callv .pure true) [.t 127, .t 131, .t 135] 126 true,
 oG 137 (.bin .lss) [.t 136, .c (.int .i64 0)] 126 true,
 oG 138 (.un .not) [.t 137] 126 true,
 oA 139 .pick [.t 126, .t 138, .c (.bool false)]])
 (.cond (.t 139)
 (.skip)
 (.exit 8))))
 (.block 9 (.reg [oA 140 .mv [.t 13],
 oA 141 (.bin .sub) [.t 140, .c (.int .i64 1)],
 oA 13 .mv [.t 141]])))
def f67_4m : List Bool := [true, true, false, false, true, false, false, false, false, false, false, false, true, true]
def f67_4 : AC :=
 .block 5 ((.seq
 (.block 6 (.loop f67_2m f67_2))
 ((.seq
 (.block 8 (.loop f67_3m f67_3))
 ((.seq
 ((.seq
 (.reg [oA 142 .mv [.t 12],
 oA 143 .mv [.t 13],
 oA 144 (.bin .gtr) [.t 142, .t 143]])
 (.cond (.t 144)
 (.exit 4)
 (.skip))))
 ((.seq
 (.reg [oA 145 .mv [.t 0],
 oA 146 .mv [.t 12],
 oA 147 .mv [.t 0],
 oA 148 .mv [.t 13],
 oA 149 .mv [.t 0],
 oA 150 .mv [.t 13],
 oA 151 (.ias 8) [.t 149, .t 150],
 oA 152 (.load true 8) [.t 151],
 oA 153 .mv [.t 0],
 oA 154 .mv [.t 12],
 oA 155 (.ias 8) [.t 153, .t 154],
 oA 156 (.load true 8) [.t 155],
 oA 157 (.ias 8) [.t 145, .t 146],
 oN (.store 8) [.t 157, .t 152],
 oA 158 (.ias 8) [.t 147, .t 148],
 oN (.store 8) [.t 158, .t 156]])
 ((.seq
 (.reg [oA 159 .mv [.t 12],
 oA 160 (.bin .add) [.t 159, .c (.int .i64 1)],
 oA 12 .mv [.t 160]])
 (.reg [oA 161 .mv [.t 13],
 oA 162 (.bin .sub) [.t 161, .c (.int .i64 1)],
 oA 13 .mv [.t 162]])))))))))))
def f67 : AF := ⟨5, 178, [.t 10, .t 11],
 (.seq
 (.reg [oA 10 .mv [.c (.int .i64 0)],
 oA 11 .mv [.c (.bool false)]])
 ((.seq
 (.reg [oA 14 .mv [.t 0],
 oA 15 .mv [.t 1],
 oA 16 .mv [.t 0],
 oA 17 .mv [.t 3],
 oA 18 .mv [.t 0],
 oA 19 .mv [.t 3],
 oA 20 (.ias 8) [.t 18, .t 19],
 oA 21 (.load true 8) [.t 20],
 oA 22 .mv [.t 0],
 oA 23 .mv [.t 1],
 oA 24 (.ias 8) [.t 22, .t 23],
 oA 25 (.load true 8) [.t 24],
 oA 26 (.ias 8) [.t 14, .t 15],
 oN (.store 8) [.t 26, .t 21],
 oA 27 (.ias 8) [.t 16, .t 17],
 oN (.store 8) [.t 27, .t 25]])
 ((.seq
 (.reg [oA 28 .mv [.t 1],
 oA 29 (.bin .add) [.t 28, .c (.int .i64 1)],
 oA 30 .mv [.t 2],
 oA 31 (.bin .sub) [.t 30, .c (.int .i64 1)],
 oA 12 .mv [.t 29],
 oA 13 .mv [.t 31]])
 ((.seq
 (.block 0 (.loop f67_0m f67_0))
 ((.seq
 (.block 2 (.loop f67_1m f67_1))
 ((.seq
 ((.seq
 (.reg [oA 69 .mv [.t 12],
 oA 70 .mv [.t 13],
 oA 71 (.bin .gtr) [.t 69, .t 70]])
 (.cond (.t 71)
 ((.seq
 (.reg [oA 72 .mv [.t 0],
 oA 73 .mv [.t 13],
 oA 74 .mv [.t 0],
 oA 75 .mv [.t 1],
 oA 76 .mv [.t 0],
 oA 77 .mv [.t 1],
 oA 78 (.ias 8) [.t 76, .t 77],
 oA 79 (.load true 8) [.t 78],
 oA 80 .mv [.t 0],
 oA 81 .mv [.t 13],
 oA 82 (.ias 8) [.t 80, .t 81],
 oA 83 (.load true 8) [.t 82],
 oA 84 (.ias 8) [.t 72, .t 73],
 oN (.store 8) [.t 84, .t 79],
 oA 85 (.ias 8) [.t 74, .t 75],
 oN (.store 8) [.t 85, .t 83]])
 ((.seq
 (.reg [oA 86 .mv [.t 13],
 oA 10 .mv [.t 86],
 oA 11 .mv [.c (.bool true)]])
 (.ret)))))
 (.skip))))
 ((.seq
 (.reg [oA 87 .mv [.t 0],
 oA 88 .mv [.t 12],
 oA 89 .mv [.t 0],
 oA 90 .mv [.t 13],
 oA 91 .mv [.t 0],
 oA 92 .mv [.t 13],
 oA 93 (.ias 8) [.t 91, .t 92],
 oA 94 (.load true 8) [.t 93],
 oA 95 .mv [.t 0],
 oA 96 .mv [.t 12],
 oA 97 (.ias 8) [.t 95, .t 96],
 oA 98 (.load true 8) [.t 97],
 oA 99 (.ias 8) [.t 87, .t 88],
 oN (.store 8) [.t 99, .t 94],
 oA 100 (.ias 8) [.t 89, .t 90],
 oN (.store 8) [.t 100, .t 98]])
 ((.seq
 (.reg [oA 101 .mv [.t 12],
 oA 102 (.bin .add) [.t 101, .c (.int .i64 1)],
 oA 12 .mv [.t 102]])
 ((.seq
 (.reg [oA 103 .mv [.t 13],
 oA 104 (.bin .sub) [.t 103, .c (.int .i64 1)],
 oA 13 .mv [.t 104]])
 ((.seq
 (.block 4 (.loop f67_4m f67_4))
 ((.seq
 (.reg [oA 163 .mv [.t 0],
 oA 164 .mv [.t 13],
 oA 165 .mv [.t 0],
 oA 166 .mv [.t 1],
 oA 167 .mv [.t 0],
 oA 168 .mv [.t 1],
 oA 169 (.ias 8) [.t 167, .t 168],
 oA 170 (.load true 8) [.t 169],
 oA 171 .mv [.t 0],
 oA 172 .mv [.t 13],
 oA 173 (.ias 8) [.t 171, .t 172],
 oA 174 (.load true 8) [.t 173],
 oA 175 (.ias 8) [.t 163, .t 164],
 oN (.store 8) [.t 175, .t 170],
 oA 176 (.ias 8) [.t 165, .t 166],
 oN (.store 8) [.t 176, .t 174]])
 ((.seq
 (.reg [oA 177 .mv [.t 13],
 oA 10 .mv [.t 177],
 oA 11 .mv [.c (.bool false)]])
 (.ret))))))))))))))))))))))))⟩
def f68 : AF := ⟨1, 19, [.t 2],
 (.seq
 (.reg [oA 2 .mv [.c (.int .i64 0)]])
 ((.seq
 ((.seq
 (.reg [oA 3 .mv [.t 0],
 oA 4 (.bin .geq) [.t 3, .c (.int .u32 65536)]])
 (.cond (.t 4)
 ((.seq
 (.reg [oA 5 .mv [.t 0],
 oA 6 (.bin .shr) [.t 5, .c (.int .u64 16)],
 oA 0 .mv [.t 6]])
 (.reg [oA 2 .mv [.c (.int .i64 16)]])))
 (.skip))))
 ((.seq
 ((.seq
 (.reg [oA 7 .mv [.t 0],
 oA 8 (.bin .geq) [.t 7, .c (.int .u32 256)]])
 (.cond (.t 8)
 ((.seq
 (.reg [oA 9 .mv [.t 0],
 oA 10 (.bin .shr) [.t 9, .c (.int .u64 8)],
 oA 0 .mv [.t 10]])
 (.reg [oA 11 .mv [.t 2],
 oA 12 (.bin .add) [.t 11, .c (.int .i64 8)],
 oA 2 .mv [.t 12]])))
 (.skip))))
 ((.seq
 (.reg [oA 13 .mv [.t 2],
 oA 14 .mv [.t 0],
 oA 15 (.conv .u8) [.t 14],
 oA 16 .ixs [.c (.str tab256), .t 15],
 oA 17 (.conv .i64) [.t 16],
 oA 18 (.bin .add) [.t 13, .t 17],
 oA 2 .mv [.t 18]])
 (.ret))))))))⟩
def f69 : AF := ⟨1, 25, [.t 2],
 (.seq
 (.reg [oA 2 .mv [.c (.int .i64 0)]])
 ((.seq
 ((.seq
 (.reg [oA 3 .mv [.t 0],
 oA 4 (.bin .geq) [.t 3, .c (.int .u64 4294967296)]])
 (.cond (.t 4)
 ((.seq
 (.reg [oA 5 .mv [.t 0],
 oA 6 (.bin .shr) [.t 5, .c (.int .u64 32)],
 oA 0 .mv [.t 6]])
 (.reg [oA 2 .mv [.c (.int .i64 32)]])))
 (.skip))))
 ((.seq
 ((.seq
 (.reg [oA 7 .mv [.t 0],
 oA 8 (.bin .geq) [.t 7, .c (.int .u64 65536)]])
 (.cond (.t 8)
 ((.seq
 (.reg [oA 9 .mv [.t 0],
 oA 10 (.bin .shr) [.t 9, .c (.int .u64 16)],
 oA 0 .mv [.t 10]])
 (.reg [oA 11 .mv [.t 2],
 oA 12 (.bin .add) [.t 11, .c (.int .i64 16)],
 oA 2 .mv [.t 12]])))
 (.skip))))
 ((.seq
 ((.seq
 (.reg [oA 13 .mv [.t 0],
 oA 14 (.bin .geq) [.t 13, .c (.int .u64 256)]])
 (.cond (.t 14)
 ((.seq
 (.reg [oA 15 .mv [.t 0],
 oA 16 (.bin .shr) [.t 15, .c (.int .u64 8)],
 oA 0 .mv [.t 16]])
 (.reg [oA 17 .mv [.t 2],
 oA 18 (.bin .add) [.t 17, .c (.int .i64 8)],
 oA 2 .mv [.t 18]])))
 (.skip))))
 ((.seq
 (.reg [oA 19 .mv [.t 2],
 oA 20 .mv [.t 0],
 oA 21 (.conv .u8) [.t 20],
 oA 22 .ixs [.c (.str tab256), .t 21],
 oA 23 (.conv .i64) [.t 22],
 oA 24 (.bin .add) [.t 19, .t 23],
 oA 2 .mv [.t 24]])
 (.ret))))))))))⟩
def f70 : AF := ⟨1, 6, [.t 2],
 (.seq
 (.reg [oA 2 .mv [.c (.bool false)]])
 ((.seq
 (.reg [oA 3 .mv [.t 0],
 oA 4 .mv [.t 0],
 oA 5 (.bin .neq) [.t 3, .t 4],
 oA 2 .mv [.t 5]])
 (.ret))))⟩
def f83 : AF := ⟨1, 10, [.t 2],
 (.seq
 (.reg [oA 2 .mv [.c (.sl [] 1 true)]])
 ((.seq
 (.reg [oA 3 .mv [.t 0],
 oA 4 (.conv .u32) [.t 3],
 oA 5 .mv [.t 0],
 oA 6 (.bin .shr) [.t 5, .c (.int .u64 32)],
 oA 7 (.conv .u32) [.t 6],
 oA 8 (.lit 1 (.int .u32 0) 2 [0, 1]) [.t 4, .t 7],
 oA 9 (.call .pure false 91) [.t 8],
 oA 2 .mv [.t 9]])
 (.ret))))⟩
def f84 : AF := ⟨2, 16, [.c 4 true 2],
 (.seq
 (.reg [oA 4 (.alloc [.bool false, .sl [] 1 true]) []])
 ((.seq
 (.reg [oA 5 .mv [.t 0],
 oA 6 (.call .pure false 91) [.t 5],
 oA 0 .mv [.t 6]])
 ((.seq
 (.reg [oA 7 .mv [.t 1],
 oA 8 .mv [.t 7],
 oG 9 .mv [.t 0] 8 true,
 oG 10 .len [.t 9] 8 true,
 oG 11 (.bin .gtr) [.t 10, .c (.int .i64 0)] 8 true,
 oA 12 .pick [.t 8, .t 11, .c (.bool false)],
 oA 13 .mv [.t 0],
 oA 14 (.clone 1 4) [.t 13],
 oA 15 (.build [.bool false, .sl [] 1 true] [(0, 1), (1, 1)]) [.t 12, .t 14],
 oN (.store 2) [.t 4, .t 15]])
 (.ret))))))⟩
def f85 : AF := ⟨2, 16, [.c 4 true 2],
 (.seq
 (.reg [oA 2 (.box 2) [.t 0],
 oA 3 (.box 2) [.t 1],
 oA 4 (.alloc [.bool false, .sl [] 1 true]) []])
 ((.seq
 (.reg [oA 5 (.faddr 1 1) [.t 2],
 oA 6 (.load false 1) [.t 5],
 oA 7 (.faddr 1 1) [.t 3],
 oA 8 (.load false 1) [.t 7],
 oA 9 (.call .pure true 93) [.t 6, .t 8],
 oA 10 (.faddr 0 1) [.t 2],
 oA 11 (.load false 1) [.t 10],
 oA 12 (.faddr 0 1) [.t 3],
 oA 13 (.load false 1) [.t 12],
 oA 14 (.eqb true) [.t 11, .t 13],
 oA 15 (.call .pure true 84) [.t 9, .t 14],
 oN (.store 2) [.t 4, .t 15]])
 (.ret))))⟩
def f86_0m : List Bool := [false, false, false, false, true, true, true]
def f86_0 : AC :=
 (.seq
 ((.seq
 (.reg [oA 13 .mv [.t 6],
 oA 14 .len [.t 13],
 oA 15 (.bin .gtr) [.t 14, .c (.int .i64 0)]])
 (.cond (.t 15)
 (.skip)
 (.exit 0))))
 (.block 1 ((.seq
 (.reg [oA 17 .mv [.t 5],
 oA 18 .mv [.t 6],
 oA 19 (.call .pure false 94) [.t 17, .t 18],
 oA 16 .mv [.t 19],
 oA 20 (.ext 0) [.t 16],
 oA 21 (.ext 1) [.t 16],
 oA 7 .mv [.t 20],
 oA 8 .mv [.t 21]])
 (.reg [oA 22 .mv [.t 6],
 oA 23 .mv [.t 8],
 oA 5 .mv [.t 22],
 oA 6 .mv [.t 23]])))))
def f86 : AF := ⟨2, 26, [.c 4 true 2],
 (.seq
 (.reg [oA 2 (.box 2) [.t 0],
 oA 3 (.box 2) [.t 1],
 oA 4 (.alloc [.bool false, .sl [] 1 true]) []])
 ((.seq
 (.reg [oA 9 (.faddr 1 1) [.t 2],
 oA 10 (.load false 1) [.t 9],
 oA 11 (.faddr 1 1) [.t 3],
 oA 12 (.load false 1) [.t 11],
 oA 5 .mv [.t 10],
 oA 6 .mv [.t 12]])
 ((.seq
 (.block 0 (.loop f86_0m f86_0))
 ((.seq
 (.reg [oA 24 .mv [.t 5],
 oA 25 (.call .pure false 84) [.t 24, .c (.bool false)],
 oN (.store 2) [.t 4, .t 25]])
 (.ret))))))))⟩
def f87 : AF := ⟨1, 9, [.c 2 true 2],
 (.seq
 (.reg [oA 1 (.box 2) [.t 0],
 oA 2 (.alloc [.bool false, .sl [] 1 true]) []])
 ((.seq
 (.reg [oA 3 (.faddr 1 1) [.t 1],
 oA 4 (.load false 1) [.t 3],
 oA 5 (.faddr 0 1) [.t 1],
 oA 6 (.load false 1) [.t 5],
 oA 7 (.un .not) [.t 6],
 oA 8 (.call .pure false 84) [.t 4, .t 7],
 oN (.store 2) [.t 2, .t 8]])
 (.ret))))⟩
def f88 : AF := ⟨2, 46, [.c 4 true 2, .c 5 true 2, .t 6],
 (.seq
 (.reg [oA 2 (.box 2) [.t 0],
 oA 3 (.box 2) [.t 1],
 oA 4 (.alloc [.bool false, .sl [] 1 true]) [],
 oA 5 (.alloc [.bool false, .sl [] 1 true]) [],
 oA 6 .mv [.c (.int .i64 0)]])
 ((.seq
 (.reg [oA 10 (.faddr 1 1) [.t 3],
 oA 11 (.load false 1) [.t 10],
 oA 7 .mv [.t 11]])
 ((.seq
 ((.seq
 (.reg [oA 12 .mv [.t 7],
 oA 13 .len [.t 12],
 oA 14 (.bin .eql) [.t 13, .c (.int .i64 0)]])
 (.cond (.t 14)
 ((.seq
 (.reg [oA 15 (.build [.bool false, .sl [] 1 true] []) [],
 oA 16 (.build [.bool false, .sl [] 1 true] []) [],
 oN (.store 2) [.t 4, .t 15],
 oN (.store 2) [.t 5, .t 16],
 oA 6 .mv [.c (.int .i64 10)]])
 (.ret)))
 (.skip))))
 ((.seq
 (.reg [oA 18 (.faddr 1 1) [.t 2],
 oA 19 (.load false 1) [.t 18],
 oA 20 .mv [.t 7],
 oA 21 (.call .pure false 94) [.t 19, .t 20],
 oA 17 .mv [.t 21],
 oA 22 (.ext 0) [.t 17],
 oA 23 (.ext 1) [.t 17],
 oA 8 .mv [.t 22],
 oA 9 .mv [.t 23]])
 ((.seq
 ((.seq
 (.reg [oA 24 (.faddr 0 1) [.t 2],
 oA 25 (.load false 1) [.t 24],
 oA 26 .mv [.t 25],
 oG 27 .mv [.t 9] 26 true,
 oG 28 .len [.t 27] 26 true,
 oG 29 (.bin .gtr) [.t 28, .c (.int .i64 0)] 26 true,
 oA 30 .pick [.t 26, .t 29, .c (.bool false)]])
 (.cond (.t 30)
 (.reg [oA 31 .mv [.t 8],
 oA 32 (.call .pure false 83) [.c (.int .u64 1)],
 oA 33 (.call .pure false 95) [.t 31, .t 32],
 oA 34 .mv [.t 7],
 oA 35 .mv [.t 9],
 oA 36 (.call .pure false 96) [.t 34, .t 35],
 oA 8 .mv [.t 33],
 oA 9 .mv [.t 36]])
 (.skip))))
 ((.seq
 (.reg [oA 37 .mv [.t 8],
 oA 38 (.faddr 0 1) [.t 2],
 oA 39 (.load false 1) [.t 38],
 oA 40 (.faddr 0 1) [.t 3],
 oA 41 (.load false 1) [.t 40],
 oA 42 (.eqb true) [.t 39, .t 41],
 oA 43 (.call .pure false 84) [.t 37, .t 42],
 oA 44 .mv [.t 9],
 oA 45 (.call .pure false 84) [.t 44, .c (.bool false)],
 oN (.store 2) [.t 4, .t 43],
 oN (.store 2) [.t 5, .t 45],
 oA 6 .mv [.c (.int .i64 0)]])
 (.ret))))))))))))⟩
def f89 : AF := ⟨2, 40, [.c 4 true 2],
 (.seq
 (.reg [oA 2 (.box 2) [.t 0],
 oA 3 (.box 2) [.t 1],
 oA 4 (.alloc [.bool false, .sl [] 1 true]) []])
 ((.seq
 (.reg [oA 7 (.faddr 1 1) [.t 2],
 oA 8 (.load false 1) [.t 7],
 oA 9 (.faddr 1 1) [.t 3],
 oA 10 (.load false 1) [.t 9],
 oA 5 .mv [.t 8],
 oA 6 .mv [.t 10]])
 ((.seq
 (.block 0 ((.seq
 (.reg [oA 12 (.faddr 0 1) [.t 2],
 oA 13 (.load false 1) [.t 12],
 oA 14 (.faddr 0 1) [.t 3],
 oA 15 (.load false 1) [.t 14],
 oA 16 (.eqb false) [.t 13, .t 15],
 oA 11 .mv [.t 16]])
 (.cond (.t 11)
 ((.seq
 (.reg [oA 17 .mv [.t 5],
 oA 18 .mv [.t 6],
 oA 19 (.call .pure true 95) [.t 17, .t 18],
 oA 20 (.faddr 0 1) [.t 2],
 oA 21 (.load false 1) [.t 20],
 oA 22 (.call .pure true 84) [.t 19, .t 21],
 oN (.store 2) [.t 4, .t 22]])
 (.ret)))
 ((.seq
 (.reg [oA 24 .mv [.t 5],
 oA 25 .mv [.t 6],
 oA 26 (.call .pure false 97) [.t 24, .t 25],
 oA 27 (.bin .lss) [.t 26, .c (.int .i64 0)],
 oA 23 .mv [.t 27]])
 (.cond (.t 23)
 ((.seq
 (.reg [oA 28 .mv [.t 6],
 oA 29 .mv [.t 5],
 oA 30 (.call .pure true 96) [.t 28, .t 29],
 oA 31 (.faddr 0 1) [.t 3],
 oA 32 (.load false 1) [.t 31],
 oA 33 (.call .pure true 84) [.t 30, .t 32],
 oN (.store 2) [.t 4, .t 33]])
 (.ret)))
 (.skip))))))))
 ((.seq
 (.reg [oA 34 .mv [.t 5],
 oA 35 .mv [.t 6],
 oA 36 (.call .pure true 96) [.t 34, .t 35],
 oA 37 (.faddr 0 1) [.t 2],
 oA 38 (.load false 1) [.t 37],
 oA 39 (.call .pure true 84) [.t 36, .t 38],
 oN (.store 2) [.t 4, .t 39]])
 (.ret))))))))⟩
def f78_0m : List Bool := [true, false, true, true, true, false, false, false, false, false, true]
def f78_0 : AC :=
 .block 1 ((.seq
 (.reg [oA 13 .mv [.t 10],
 oA 14 (.bin .mul) [.c (.int .i64 2), .t 13],
 oA 15 (.bin .add) [.t 14, .c (.int .i64 1)],
 oA 11 .mv [.t 15]])
 ((.seq
 ((.seq
 (.reg [oA 16 .mv [.t 11],
 oA 17 .mv [.t 2],
 oA 18 (.bin .geq) [.t 16, .t 17]])
 (.cond (.t 18)
 (.exit 0)
 (.skip))))
 ((.seq
 ((.seq
 (.reg [oA 19 .mv [.t 11],
 oA 20 (.bin .add) [.t 19, .c (.int .i64 1)],
 oA 21 .mv [.t 2],
 oA 22 (.bin .lss) [.t 20, .t 21],
 oA 23 .mv [.t 22],
 oG 24 .mv [.t 4] 23 true,
 oG 25 .mv [.t 0] 23 true,
 oG 26 .mv [.t 3] 23 true,
 oG 27 .mv [.t 11] 23 true,
 oG 28 (.bin .add) [.t 26, .t 27] 23 true,
 oG 29 (.ias 8) [.t 25, .t 28] 23 true,
 oG 30 (.load true 8) [.t 29] 23 true,
 oG 31 .mv [.t 0] 23 true,
 oG 32 .mv [.t 3] 23 true,
 oG 33 .mv [.t 11] 23 true,
 oG 34 (.bin .add) [.t 32, .t 33] 23 true,
 oG 35 (.bin .add) [.t 34, .c (.int .i64 1)] 23 true,
 oG 36 (.ias 8) [.t 31, .t 35] 23 true,
 oG 37 (.load true 8) [.t 36] 23 true,
 oG 38 (.callv .pure true) [.t 24, .t 30, .t 37] 23 true,
 oG 39 (.bin .lss) [.t 38, .c (.int .i64 0)] 23 true,
 oA 40 .pick [.t 23, .t 39, .c (.bool false)]])
 (.cond (.t 40)
 (.reg [oA 41 .mv [.t 11],
 oA 42 (.bin .add) [.t 41, .c (.int .i64 1)],
 oA 11 .mv [.t 42]])
 (.skip))))
 ((.seq
 ((.seq
 (.reg [oA 43 .mv [.t 4],
 oA 44 .mv [.t 0],
 oA 45 .mv [.t 3],
 oA 46 .mv [.t 10],
 oA 47 (.bin .add) [.t 45, .t 46],
 oA 48 (.ias 8) [.t 44, .t 47],
 oA 49 (.load true 8) [.t 48],
 oA 50 .mv [.t 0],
 oA 51 .mv [.t 3],
 oA 52 .mv [.t 11],
 oA 53 (.bin .add) [.t 51, .t 52],
 oA 54 (.ias 8) [.t 50, .t 53],
 oA 55 (.load true 8) [.t 54],
 oA 56 (.callv .pure true) [.t 43, .t 49, .t 55],
 oA 57 (.bin .lss) [.t 56, .c (.int .i64 0)],
 oA 58 (.un .not) [.t 57]])
 (.cond (.t 58)
 (.ret)
 (.skip))))
 ((.seq
 (.reg [oA 59 .mv [.t 0],
 oA 60 .mv [.t 3],
 oA 61 .mv [.t 10],
 oA 62 (.bin .add) [.t 60, .t 61],
 oA 63 .mv [.t 0],
 oA 64 .mv [.t 3],
 oA 65 .mv [.t 11],
 oA 66 (.bin .add) [.t 64, .t 65],
 oA 67 .mv [.t 0],
 oA 68 .mv [.t 3],
 oA 69 .mv [.t 11],
 oA 70 (.bin .add) [.t 68, .t 69],
 oA 71 (.ias 8) [.t 67, .t 70],
 oA 72 (.load true 8) [.t 71],
 oA 73 .mv [.t 0],
 oA 74 .mv [.t 3],
 oA 75 .mv [.t 10],
 oA 76 (.bin .add) [.t 74, .t 75],
 oA 77 (.ias 8) [.t 73, .t 76],
 oA 78 (.load true 8) [.t 77],
 oA 79 (.ias 8) [.t 59, .t 62],
 oN (.store 8) [.t 79, .t 72],
 oA 80 (.ias 8) [.t 63, .t 66],
 oN (.store 8) [.t 80, .t 78]])
 (.reg [oA 81 .mv [.t 11],
 oA 10 .mv [.t 81]])))))))))))
def f78 : AF := ⟨5, 82, [],
 (.seq
 (.reg [oA 12 .mv [.t 1],
 oA 10 .mv [.t 12]])
 (.block 0 (.loop f78_0m f78_0)))⟩
def f79 : AF := ⟨1, 7, [.t 2],
 (.seq
 (.reg [oA 2 .mv [.c (.int .u64 0)]])
 ((.seq
 (.reg [oA 3 .mv [.t 0],
 oA 4 (.conv .u64) [.t 3],
 oA 5 (.call .pure false 50) [.t 4],
 oA 6 (.bin .shl) [.c (.int .u64 1), .t 5],
 oA 2 .mv [.t 6]])
 (.ret))))⟩
def f80 : AF := ⟨1, 33, [.t 2],
 (.seq
 (.reg [oA 2 .mv [.c (.int .u64 0)]])
 ((.seq
 (.reg [oA 3 .mv [.t 0],
 oA 4 .nilChk [.t 3],
 oA 5 (.load false 1) [.t 4],
 oA 6 .mv [.t 0],
 oA 7 .nilChk [.t 6],
 oA 8 (.load false 1) [.t 7],
 oA 9 (.bin .shl) [.t 8, .c (.int .u64 13)],
 oA 10 (.bin .xor) [.t 5, .t 9],
 oA 11 .nilChk [.t 3],
 oN (.store 1) [.t 11, .t 10]])
 ((.seq
 (.reg [oA 12 .mv [.t 0],
 oA 13 .nilChk [.t 12],
 oA 14 (.load false 1) [.t 13],
 oA 15 .mv [.t 0],
 oA 16 .nilChk [.t 15],
 oA 17 (.load false 1) [.t 16],
 oA 18 (.bin .shr) [.t 17, .c (.int .u64 7)],
 oA 19 (.bin .xor) [.t 14, .t 18],
 oA 20 .nilChk [.t 12],
 oN (.store 1) [.t 20, .t 19]])
 ((.seq
 (.reg [oA 21 .mv [.t 0],
 oA 22 .nilChk [.t 21],
 oA 23 (.load false 1) [.t 22],
 oA 24 .mv [.t 0],
 oA 25 .nilChk [.t 24],
 oA 26 (.load false 1) [.t 25],
 oA 27 (.bin .shl) [.t 26, .c (.int .u64 17)],
 oA 28 (.bin .xor) [.t 23, .t 27],
 oA 29 .nilChk [.t 21],
 oN (.store 1) [.t 29, .t 28]])
 ((.seq
 (.reg [oA 30 .mv [.t 0],
 oA 31 .nilChk [.t 30],
 oA 32 (.load false 1) [.t 31],
 oA 2 .mv [.t 32]])
 (.ret))))))))))⟩
def f81 : AF := ⟨4, 18, [.t 8],
 (.seq
 (.reg [oA 8 .mv [.c (.int .i64 0)]])
 ((.seq
 (.reg [oA 9 .mv [.t 0],
 oA 10 .mv [.t 1],
 oA 11 (.bin .sub) [.t 10, .c (.int .i64 1)],
 oA 12 .mv [.t 1],
 oA 13 .mv [.t 1],
 oA 14 (.bin .add) [.t 13, .c (.int .i64 1)],
 oA 15 .mv [.t 2],
 oA 16 .mv [.t 3],
 oA 17 (.call .pure false 82) [.t 9, .t 11, .t 12, .t 14, .t 15, .t 16],
 oA 8 .mv [.t 17]])
 (.ret))))⟩
def f82 : AF := ⟨6, 41, [.t 12],
 (.seq
 (.reg [oA 12 .mv [.c (.int .i64 0)]])
 ((.seq
 (.reg [oA 14 .mv [.t 0],
 oA 15 .mv [.t 1],
 oA 16 .mv [.t 2],
 oA 17 .mv [.t 4],
 oA 18 .mv [.t 5],
 oA 19 (.call .pure false 90) [.t 14, .t 15, .t 16, .t 17, .t 18],
 oA 13 .mv [.t 19],
 oA 20 (.ext 0) [.t 13],
 oA 21 (.ext 1) [.t 13],
 oA 1 .mv [.t 20],
 oA 2 .mv [.t 21]])
 ((.seq
 (.reg [oA 23 .mv [.t 0],
 oA 24 .mv [.t 2],
 oA 25 .mv [.t 3],
 oA 26 .mv [.t 4],
 oA 27 .mv [.t 5],
 oA 28 (.call .pure false 90) [.t 23, .t 24, .t 25, .t 26, .t 27],
 oA 22 .mv [.t 28],
 oA 29 (.ext 0) [.t 22],
 oA 30 (.ext 1) [.t 22],
 oA 2 .mv [.t 29],
 oA 3 .mv [.t 30]])
 ((.seq
 (.reg [oA 32 .mv [.t 0],
 oA 33 .mv [.t 1],
 oA 34 .mv [.t 2],
 oA 35 .mv [.t 4],
 oA 36 .mv [.t 5],
 oA 37 (.call .pure false 90) [.t 32, .t 33, .t 34, .t 35, .t 36],
 oA 31 .mv [.t 37],
 oA 38 (.ext 0) [.t 31],
 oA 39 (.ext 1) [.t 31],
 oA 1 .mv [.t 38],
 oA 2 .mv [.t 39]])
 ((.seq
 (.reg [oA 40 .mv [.t 2],
 oA 12 .mv [.t 40]])
 (.ret))))))))))⟩
def f91_0m : List Bool := [true, false, false, true]
def f91_0 : AC :=
 (.seq
 ((.seq
 (.reg [oA 6 .mv [.t 3],
 oA 7 (.bin .gtr) [.t 6, .c (.int .i64 0)],
 oA 8 .mv [.t 7],
 oG 9 .mv [.t 0] 8 true,
 oG 10 .mv [.t 3] 8 true,
 oG 11 (.bin .sub) [.t 10, .c (.int .i64 1)] 8 true,
 oG 12 (.ias 1) [.t 9, .t 11] 8 true,
 oG 13 (.load false 1) [.t 12] 8 true,
 oG 14 (.bin .eql) [.t 13, .c (.int .u32 0)] 8 true,
 oA 15 .pick [.t 8, .t 14, .c (.bool false)]])
 (.cond (.t 15)
 (.skip)
 (.exit 0))))
 (.block 1 (.reg [oA 16 .mv [.t 3],
 oA 17 (.bin .sub) [.t 16, .c (.int .i64 1)],
 oA 3 .mv [.t 17]])))
def f91 : AF := ⟨1, 22, [.t 2],
 (.seq
 (.reg [oA 2 .mv [.c (.sl [] 1 true)]])
 ((.seq
 (.reg [oA 4 .mv [.t 0],
 oA 5 .len [.t 4],
 oA 3 .mv [.t 5]])
 ((.seq
 (.block 0 (.loop f91_0m f91_0))
 ((.seq
 (.reg [oA 18 .mv [.t 0],
 oA 19 .mv [.t 3],
 oA 20 .mv [.t 3],
 oA 21 (.slc 1 false true true) [.t 18, .t 19, .t 20],
 oA 2 .mv [.t 21]])
 (.ret))))))))⟩
def f93_0m : List Bool := [false, true, false, false, false, true, true, true, true, false, false, false, false, false, false, false, false, true, true, true, false, false, false, false, true, true, true]
def f93_0 : AC :=
 (.seq
 (.reg [oA 27 (.bin .lss) [.t 26, .t 25]])
 ((.seq
 (.cond (.t 27)
 (.skip)
 (.exit 2))
 ((.seq
 (.block 3 ((.seq
 (.reg [oA 28 .mv [.t 26],
 oA 29 (.ias 1) [.t 24, .t 26],
 oA 30 (.load false 1) [.t 29],
 oA 9 .mv [.t 28],
 oA 10 .mv [.t 30]])
 ((.seq
 (.reg [oA 31 .mv [.t 8],
 oA 32 .mv [.t 7],
 oA 33 (.conv .u64) [.t 32],
 oA 34 .mv [.t 10],
 oA 35 (.conv .u64) [.t 34],
 oA 36 (.bin .mul) [.t 33, .t 35],
 oA 37 .mv [.t 5],
 oA 38 .mv [.t 6],
 oA 39 .mv [.t 9],
 oA 40 (.bin .add) [.t 38, .t 39],
 oA 41 (.ias 1) [.t 37, .t 40],
 oA 42 (.load false 1) [.t 41],
 oA 43 (.conv .u64) [.t 42],
 oA 44 (.bin .add) [.t 36, .t 43],
 oA 45 (.bin .add) [.t 31, .t 44],
 oA 8 .mv [.t 45]])
 ((.seq
 (.reg [oA 46 .mv [.t 5],
 oA 47 .mv [.t 6],
 oA 48 .mv [.t 9],
 oA 49 (.bin .add) [.t 47, .t 48],
 oA 50 .mv [.t 8],
 oA 51 (.conv .u32) [.t 50],
 oA 52 (.ias 1) [.t 46, .t 49],
 oN (.store 1) [.t 52, .t 51]])
 (.reg [oA 53 .mv [.t 8],
 oA 54 (.bin .shr) [.t 53, .c (.int .u64 32)],
 oA 8 .mv [.t 54]]))))))))
 (.reg [oA 55 (.bin .add) [.t 26, .c (.int .i64 1)],
 oA 26 .mv [.t 55]]))))))
def f93_1m : List Bool := [false, true, false, false, false, true, false, false, false, false, false, false, false, false, false, false, false, true, true, true]
def f93_1 : AC :=
 (.seq
 (.reg [oA 20 (.bin .lss) [.t 19, .t 18]])
 ((.seq
 (.cond (.t 20)
 (.skip)
 (.exit 0))
 ((.seq
 (.block 1 ((.seq
 (.reg [oA 21 .mv [.t 19],
 oA 22 (.ias 1) [.t 17, .t 19],
 oA 23 (.load false 1) [.t 22],
 oA 6 .mv [.t 21],
 oA 7 .mv [.t 23]])
 ((.seq
 (.reg [oA 8 .mv [.c (.int .u64 0)]])
 ((.seq
 ((.seq
 (.reg [oA 24 .mv [.t 1],
 oA 25 .len [.t 24],
 oA 26 .mv [.c (.int .i64 0)]])
 (.block 2 (.loop f93_0m f93_0))))
 (.reg [oA 56 .mv [.t 5],
 oA 57 .mv [.t 6],
 oA 58 .mv [.t 1],
 oA 59 .len [.t 58],
 oA 60 (.bin .add) [.t 57, .t 59],
 oA 61 .mv [.t 8],
 oA 62 (.conv .u32) [.t 61],
 oA 63 (.ias 1) [.t 56, .t 60],
 oN (.store 1) [.t 63, .t 62]]))))))))
 (.reg [oA 64 (.bin .add) [.t 19, .c (.int .i64 1)],
 oA 19 .mv [.t 64]]))))))
def f93 : AF := ⟨2, 67, [.t 4],
 (.seq
 (.reg [oA 4 .mv [.c (.sl [] 1 true)]])
 ((.seq
 (.reg [oA 11 .mv [.t 0],
 oA 12 .len [.t 11],
 oA 13 .mv [.t 1],
 oA 14 .len [.t 13],
 oA 15 (.bin .add) [.t 12, .t 14],
 oA 16 (.mks 1 4 [.int .u32 0]) [.t 15, .t 15],
 oA 5 .mv [.t 16]])
 ((.seq
 ((.seq
 (.reg [oA 17 .mv [.t 0],
 oA 18 .len [.t 17],
 oA 19 .mv [.c (.int .i64 0)]])
 (.block 0 (.loop f93_1m f93_1))))
 ((.seq
 (.reg [oA 65 .mv [.t 5],
 oA 66 (.call .pure false 91) [.t 65],
 oA 4 .mv [.t 66]])
 (.ret))))))))⟩
def f94_0m : List Bool := [false, false, false, false, false, false, false, false, true, true, true, true, false, false, false, false, false, false, false, false, false, false, false, false, false, false, false, false, false, false, false, false, false, false, false, false, false, false, false, false, false, false, false, false, false, false, false, false, false, false, false, false, false, false, false, true, true]
def f94_0 : AC :=
 (.seq
 (.reg [oA 57 (.bin .lss) [.t 56, .t 55]])
 ((.seq
 (.cond (.t 57)
 (.skip)
 (.exit 0))
 ((.seq
 (.block 1 ((.seq
 (.reg [oA 58 .mv [.t 56],
 oA 12 .mv [.t 58]])
 ((.seq
 (.reg [oA 59 .mv [.t 11],
 oA 60 .len [.t 59],
 oA 61 (.bin .sub) [.t 60, .c (.int .i64 1)],
 oA 62 .mv [.t 12],
 oA 63 (.bin .sub) [.t 61, .t 62],
 oA 13 .mv [.t 63]])
 (.reg [oA 64 .mv [.t 11],
 oA 65 .mv [.t 13],
 oA 66 .mv [.t 9],
 oA 67 .mv [.t 13],
 oA 68 .mv [.t 13],
 oA 69 .mv [.t 10],
 oA 70 .len [.t 69],
 oA 71 (.bin .add) [.t 68, .t 70],
 oA 72 (.bin .add) [.t 71, .c (.int .i64 1)],
 oA 73 (.slc 1 true true false) [.t 66, .t 67, .t 72],
 oA 74 .mv [.t 10],
 oA 75 (.call .sh false 101) [.t 73, .t 74],
 oA 76 (.ias 1) [.t 64, .t 65],
 oN (.store 1) [.t 76, .t 75]]))))))
 (.reg [oA 77 (.bin .add) [.t 56, .c (.int .i64 1)],
 oA 56 .mv [.t 77]]))))))
def f94 : AF := ⟨2, 84, [.t 4, .t 5],
 (.seq
 (.reg [oA 4 .mv [.c (.sl [] 1 true)],
 oA 5 .mv [.c (.sl [] 1 true)]])
 ((.seq
 ((.seq
 (.reg [oA 14 .mv [.t 0],
 oA 15 .mv [.t 1],
 oA 16 (.call .pure false 97) [.t 14, .t 15],
 oA 17 (.bin .lss) [.t 16, .c (.int .i64 0)]])
 (.cond (.t 17)
 ((.seq
 (.reg [oA 18 .mv [.t 0],
 oA 4 .mv [.c (.sl [] 1 true)],
 oA 5 .mv [.t 18]])
 (.ret)))
 (.skip))))
 ((.seq
 ((.seq
 (.reg [oA 19 .mv [.t 1],
 oA 20 .len [.t 19],
 oA 21 (.bin .eql) [.t 20, .c (.int .i64 1)]])
 (.cond (.t 21)
 ((.seq
 (.reg [oA 23 .mv [.t 0],
 oA 24 .mv [.t 1],
 oA 25 (.ias 1) [.t 24, .c (.int .i64 0)],
 oA 26 (.load false 1) [.t 25],
 oA 27 (.call .pure false 98) [.t 23, .t 26],
 oA 22 .mv [.t 27],
 oA 28 (.ext 0) [.t 22],
 oA 29 (.ext 1) [.t 22],
 oA 6 .mv [.t 28],
 oA 7 .mv [.t 29]])
 ((.seq
 (.reg [oA 30 .mv [.t 6],
 oA 31 .mv [.t 7],
 oA 32 (.lit 1 (.int .u32 0) 1 [0]) [.t 31],
 oA 33 (.call .pure false 91) [.t 32],
 oA 4 .mv [.t 30],
 oA 5 .mv [.t 33]])
 (.ret)))))
 (.skip))))
 ((.seq
 (.reg [oA 34 .mv [.t 1],
 oA 35 .mv [.t 1],
 oA 36 .len [.t 35],
 oA 37 (.bin .sub) [.t 36, .c (.int .i64 1)],
 oA 38 (.ias 1) [.t 34, .t 37],
 oA 39 (.load false 1) [.t 38],
 oA 40 (.call .pure false 99) [.t 39],
 oA 8 .mv [.t 40]])
 ((.seq
 (.reg [oA 41 .mv [.t 0],
 oA 42 .mv [.t 8],
 oA 43 (.call (.own 0) false 100) [.t 41, .t 42],
 oA 44 .mv [.t 1],
 oA 45 .mv [.t 8],
 oA 46 (.call .pure false 100) [.t 44, .t 45],
 oA 47 (.call .pure false 91) [.t 46],
 oA 9 .mv [.t 43],
 oA 10 .mv [.t 47]])
 ((.seq
 (.reg [oA 48 .mv [.t 9],
 oA 49 .len [.t 48],
 oA 50 .mv [.t 10],
 oA 51 .len [.t 50],
 oA 52 (.bin .sub) [.t 49, .t 51],
 oA 53 (.mks 1 4 [.int .u32 0]) [.t 52, .t 52],
 oA 11 .mv [.t 53]])
 ((.seq
 ((.seq
 (.reg [oA 54 .mv [.t 11],
 oA 55 .len [.t 54],
 oA 56 .mv [.c (.int .i64 0)]])
 (.block 0 (.loop f94_0m f94_0))))
 ((.seq
 (.reg [oA 78 .mv [.t 11],
 oA 79 (.call .pure false 91) [.t 78],
 oA 80 .mv [.t 9],
 oA 81 (.call .pure false 91) [.t 80],
 oA 82 .mv [.t 8],
 oA 83 (.call .pure false 102) [.t 81, .t 82],
 oA 4 .mv [.t 79],
 oA 5 .mv [.t 83]])
 (.ret))))))))))))))))⟩
def f95_0m : List Bool := [true, true, false, false, false, true, true, true, false, false, false, false, false, false, false, false, false, true, true]
def f95_0 : AC :=
 (.seq
 (.reg [oA 19 (.bin .lss) [.t 18, .t 17]])
 ((.seq
 (.cond (.t 19)
 (.skip)
 (.exit 0))
 ((.seq
 (.block 1 ((.seq
 (.reg [oA 20 .mv [.t 18],
 oA 8 .mv [.t 20]])
 (.reg [oA 22 .mv [.t 6],
 oA 23 .mv [.t 8],
 oA 24 .mv [.t 0],
 oA 25 .mv [.t 8],
 oA 26 (.call .pure false 104) [.t 24, .t 25],
 oA 27 .mv [.t 1],
 oA 28 .mv [.t 8],
 oA 29 (.call .pure false 104) [.t 27, .t 28],
 oA 30 .mv [.t 7],
 oA 31 (.call .pure false 103) [.t 26, .t 29, .t 30],
 oA 21 .mv [.t 31],
 oA 32 (.ext 0) [.t 21],
 oA 33 (.ext 1) [.t 21],
 oA 34 (.ias 1) [.t 22, .t 23],
 oN (.store 1) [.t 34, .t 32],
 oA 7 .mv [.t 33]]))))
 (.reg [oA 35 (.bin .add) [.t 18, .c (.int .i64 1)],
 oA 18 .mv [.t 35]]))))))
def f95 : AF := ⟨2, 42, [.t 4],
 (.seq
 (.reg [oA 4 .mv [.c (.sl [] 1 true)]])
 ((.seq
 (.reg [oA 9 .mv [.t 0],
 oA 10 .len [.t 9],
 oA 11 .mv [.t 1],
 oA 12 .len [.t 11],
 oA 13 .mx [.t 10, .t 12],
 oA 5 .mv [.t 13]])
 ((.seq
 (.reg [oA 14 .mv [.t 5],
 oA 15 (.bin .add) [.t 14, .c (.int .i64 1)],
 oA 16 (.mks 1 4 [.int .u32 0]) [.t 15, .t 15],
 oA 6 .mv [.t 16]])
 ((.seq
 (.reg [oA 7 .mv [.c (.int .u32 0)]])
 ((.seq
 ((.seq
 (.reg [oA 17 .mv [.t 5],
 oA 18 .mv [.c (.int .i64 0)]])
 (.block 0 (.loop f95_0m f95_0))))
 ((.seq
 (.reg [oA 36 .mv [.t 6],
 oA 37 .mv [.t 5],
 oA 38 .mv [.t 7],
 oA 39 (.ias 1) [.t 36, .t 37],
 oN (.store 1) [.t 39, .t 38]])
 ((.seq
 (.reg [oA 40 .mv [.t 6],
 oA 41 (.call .pure false 91) [.t 40],
 oA 4 .mv [.t 41]])
 (.ret))))))))))))))⟩
def f96_0m : List Bool := [true, true, false, false, false, true, true, false, false, false, false, false, true, true]
def f96_0 : AC :=
 (.seq
 (.reg [oA 14 (.bin .lss) [.t 13, .t 12]])
 ((.seq
 (.cond (.t 14)
 (.skip)
 (.exit 0))
 ((.seq
 (.block 1 ((.seq
 (.reg [oA 15 .mv [.t 13],
 oA 7 .mv [.t 15]])
 (.reg [oA 17 .mv [.t 5],
 oA 18 .mv [.t 7],
 oA 19 .mv [.t 0],
 oA 20 .mv [.t 7],
 oA 21 (.ias 1) [.t 19, .t 20],
 oA 22 (.load false 1) [.t 21],
 oA 23 .mv [.t 1],
 oA 24 .mv [.t 7],
 oA 25 (.call .pure true 104) [.t 23, .t 24],
 oA 26 .mv [.t 6],
 oA 27 (.call .pure true 105) [.t 22, .t 25, .t 26],
 oA 16 .mv [.t 27],
 oA 28 (.ext 0) [.t 16],
 oA 29 (.ext 1) [.t 16],
 oA 30 (.ias 1) [.t 17, .t 18],
 oN (.store 1) [.t 30, .t 28],
 oA 6 .mv [.t 29]]))))
 (.reg [oA 31 (.bin .add) [.t 13, .c (.int .i64 1)],
 oA 13 .mv [.t 31]]))))))
def f96 : AF := ⟨2, 34, [.t 4],
 (.seq
 (.reg [oA 4 .mv [.c (.sl [] 1 true)]])
 ((.seq
 (.reg [oA 8 .mv [.t 0],
 oA 9 .len [.t 8],
 oA 10 (.mks 1 4 [.int .u32 0]) [.t 9, .t 9],
 oA 5 .mv [.t 10]])
 ((.seq
 (.reg [oA 6 .mv [.c (.int .u32 0)]])
 ((.seq
 ((.seq
 (.reg [oA 11 .mv [.t 5],
 oA 12 .len [.t 11],
 oA 13 .mv [.c (.int .i64 0)]])
 (.block 0 (.loop f96_0m f96_0))))
 ((.seq
 (.reg [oA 32 .mv [.t 5],
 oA 33 (.call .pure false 91) [.t 32],
 oA 4 .mv [.t 33]])
 (.ret))))))))))⟩
def f97_0m : List Bool := [true, true, false, false, false, false, false, false, false, false, false, false, false, false, false, false, false, false, true, true]
def f97_0 : AC :=
 (.seq
 (.reg [oA 20 (.bin .lss) [.t 19, .t 18]])
 ((.seq
 (.cond (.t 20)
 (.skip)
 (.exit 0))
 ((.seq
 (.block 1 ((.seq
 (.reg [oA 21 .mv [.t 19],
 oA 5 .mv [.t 21]])
 ((.seq
 (.reg [oA 22 .mv [.t 0],
 oA 23 .len [.t 22],
 oA 24 (.bin .sub) [.t 23, .c (.int .i64 1)],
 oA 25 .mv [.t 5],
 oA 26 (.bin .sub) [.t 24, .t 25],
 oA 6 .mv [.t 26]])
 ((.seq
 (.reg [oA 27 .mv [.t 0],
 oA 28 .mv [.t 6],
 oA 29 (.ias 1) [.t 27, .t 28],
 oA 30 (.load false 1) [.t 29],
 oA 31 .mv [.t 1],
 oA 32 .mv [.t 6],
 oA 33 (.ias 1) [.t 31, .t 32],
 oA 34 (.load false 1) [.t 33],
 oA 35 (.bin .neq) [.t 30, .t 34]])
 (.cond (.t 35)
 ((.seq
 (.reg [oA 36 .mv [.t 0],
 oA 37 .mv [.t 6],
 oA 38 (.ias 1) [.t 36, .t 37],
 oA 39 (.load false 1) [.t 38],
 oA 40 .mv [.t 1],
 oA 41 .mv [.t 6],
 oA 42 (.ias 1) [.t 40, .t 41],
 oA 43 (.load false 1) [.t 42],
 oA 44 (.call .pure true 106) [.t 39, .t 43],
 oA 4 .mv [.t 44]])
 (.ret)))
 (.skip)))))))))
 (.reg [oA 45 (.bin .add) [.t 19, .c (.int .i64 1)],
 oA 19 .mv [.t 45]]))))))
def f97 : AF := ⟨2, 46, [.t 4],
 (.seq
 (.reg [oA 4 .mv [.c (.int .i64 0)]])
 ((.seq
 ((.seq
 (.reg [oA 7 .mv [.t 0],
 oA 8 .len [.t 7],
 oA 9 .mv [.t 1],
 oA 10 .len [.t 9],
 oA 11 (.bin .neq) [.t 8, .t 10]])
 (.cond (.t 11)
 ((.seq
 (.reg [oA 12 .mv [.t 0],
 oA 13 .len [.t 12],
 oA 14 .mv [.t 1],
 oA 15 .len [.t 14],
 oA 16 (.call .pure false 51) [.t 13, .t 15],
 oA 4 .mv [.t 16]])
 (.ret)))
 (.skip))))
 ((.seq
 ((.seq
 (.reg [oA 17 .mv [.t 0],
 oA 18 .len [.t 17],
 oA 19 .mv [.c (.int .i64 0)]])
 (.block 0 (.loop f97_0m f97_0))))
 ((.seq
 (.reg [oA 4 .mv [.c (.int .i64 0)]])
 (.ret))))))))⟩
def f90 : AF := ⟨5, 32, [.t 10, .t 11],
 (.seq
 (.reg [oA 10 .mv [.c (.int .i64 0)],
 oA 11 .mv [.c (.int .i64 0)]])
 ((.seq
 ((.seq
 (.reg [oA 12 .mv [.t 4],
 oA 13 .mv [.t 0],
 oA 14 .mv [.t 2],
 oA 15 (.ias 8) [.t 13, .t 14],
 oA 16 (.load true 8) [.t 15],
 oA 17 .mv [.t 0],
 oA 18 .mv [.t 1],
 oA 19 (.ias 8) [.t 17, .t 18],
 oA 20 (.load true 8) [.t 19],
 oA 21 (.callv .pure true) [.t 12, .t 16, .t 20],
 oA 22 (.bin .lss) [.t 21, .c (.int .i64 0)]])
 (.cond (.t 22)
 ((.seq
 (.reg [oA 23 .mv [.t 3],
 oA 24 .nilChk [.t 23],
 oA 25 (.load false 1) [.t 24],
 oA 26 (.bin .add) [.t 25, .c (.int .i64 1)],
 oA 27 .nilChk [.t 23],
 oN (.store 1) [.t 27, .t 26]])
 ((.seq
 (.reg [oA 28 .mv [.t 2],
 oA 29 .mv [.t 1],
 oA 10 .mv [.t 28],
 oA 11 .mv [.t 29]])
 (.ret)))))
 (.skip))))
 ((.seq
 (.reg [oA 30 .mv [.t 1],
 oA 31 .mv [.t 2],
 oA 10 .mv [.t 30],
 oA 11 .mv [.t 31]])
 (.ret))))))⟩
def f98_0m : List Bool := [true, true, false, false, false, false, true, true, false, false, false, false, false, false, true, true]
def f98_0 : AC :=
 (.seq
 (.reg [oA 16 (.bin .lss) [.t 15, .t 14]])
 ((.seq
 (.cond (.t 16)
 (.skip)
 (.exit 0))
 ((.seq
 (.block 1 ((.seq
 (.reg [oA 17 .mv [.t 15],
 oA 8 .mv [.t 17]])
 ((.seq
 (.reg [oA 18 .mv [.t 0],
 oA 19 .len [.t 18],
 oA 20 (.bin .sub) [.t 19, .c (.int .i64 1)],
 oA 21 .mv [.t 8],
 oA 22 (.bin .sub) [.t 20, .t 21],
 oA 9 .mv [.t 22]])
 (.reg [oA 24 .mv [.t 6],
 oA 25 .mv [.t 9],
 oA 26 .mv [.t 7],
 oA 27 .mv [.t 0],
 oA 28 .mv [.t 9],
 oA 29 (.ias 1) [.t 27, .t 28],
 oA 30 (.load false 1) [.t 29],
 oA 31 .mv [.t 1],
 oA 32 (.call .pure false 107) [.t 26, .t 30, .t 31],
 oA 23 .mv [.t 32],
 oA 33 (.ext 0) [.t 23],
 oA 34 (.ext 1) [.t 23],
 oA 35 (.ias 1) [.t 24, .t 25],
 oN (.store 1) [.t 35, .t 33],
 oA 7 .mv [.t 34]]))))))
 (.reg [oA 36 (.bin .add) [.t 15, .c (.int .i64 1)],
 oA 15 .mv [.t 36]]))))))
def f98 : AF := ⟨2, 40, [.t 4, .t 5],
 (.seq
 (.reg [oA 4 .mv [.c (.sl [] 1 true)],
 oA 5 .mv [.c (.int .u32 0)]])
 ((.seq
 (.reg [oA 10 .mv [.t 0],
 oA 11 .len [.t 10],
 oA 12 (.mks 1 4 [.int .u32 0]) [.t 11, .t 11],
 oA 6 .mv [.t 12]])
 ((.seq
 (.reg [oA 7 .mv [.c (.int .u32 0)]])
 ((.seq
 ((.seq
 (.reg [oA 13 .mv [.t 0],
 oA 14 .len [.t 13],
 oA 15 .mv [.c (.int .i64 0)]])
 (.block 0 (.loop f98_0m f98_0))))
 ((.seq
 (.reg [oA 37 .mv [.t 6],
 oA 38 (.call .pure false 91) [.t 37],
 oA 39 .mv [.t 7],
 oA 4 .mv [.t 38],
 oA 5 .mv [.t 39]])
 (.ret))))))))))⟩
def f99 : AF := ⟨1, 6, [.t 2],
 (.seq
 (.reg [oA 2 .mv [.c (.int .i64 0)]])
 ((.seq
 (.reg [oA 3 .mv [.t 0],
 oA 4 (.call .pure false 68) [.t 3],
 oA 5 (.bin .sub) [.c (.int .i64 32), .t 4],
 oA 2 .mv [.t 5]])
 (.ret))))⟩
def f100_0m : List Bool := [false, true, false, false, false, true, false, false, false, false, false, false, false, true, true, true]
def f100_0 : AC :=
 (.seq
 (.reg [oA 16 (.bin .lss) [.t 15, .t 14]])
 ((.seq
 (.cond (.t 16)
 (.skip)
 (.exit 0))
 ((.seq
 (.block 1 ((.seq
 (.reg [oA 17 .mv [.t 15],
 oA 18 (.ias 1) [.t 13, .t 15],
 oA 19 (.load false 1) [.t 18],
 oA 6 .mv [.t 17],
 oA 7 .mv [.t 19]])
 ((.seq
 (.reg [oA 20 .mv [.t 7],
 oA 21 (.conv .u64) [.t 20],
 oA 22 .mv [.t 1],
 oA 23 (.bin .shl) [.t 21, .t 22],
 oA 8 .mv [.t 23]])
 ((.seq
 (.reg [oA 24 .mv [.t 5],
 oA 25 .mv [.t 6],
 oA 26 (.ias 1) [.t 24, .t 25],
 oA 27 (.load false 1) [.t 26],
 oA 28 .mv [.t 8],
 oA 29 (.conv .u32) [.t 28],
 oA 30 (.bin .or) [.t 27, .t 29],
 oA 31 (.ias 1) [.t 24, .t 25],
 oN (.store 1) [.t 31, .t 30]])
 (.reg [oA 32 .mv [.t 5],
 oA 33 .mv [.t 6],
 oA 34 (.bin .add) [.t 33, .c (.int .i64 1)],
 oA 35 .mv [.t 8],
 oA 36 (.bin .shr) [.t 35, .c (.int .u64 32)],
 oA 37 (.conv .u32) [.t 36],
 oA 38 (.ias 1) [.t 32, .t 34],
 oN (.store 1) [.t 38, .t 37]]))))))))
 (.reg [oA 39 (.bin .add) [.t 15, .c (.int .i64 1)],
 oA 15 .mv [.t 39]]))))))
def f100 : AF := ⟨2, 41, [.t 4],
 (.seq
 (.reg [oA 4 .mv [.c (.sl [] 1 true)]])
 ((.seq
 (.reg [oA 9 .mv [.t 0],
 oA 10 .len [.t 9],
 oA 11 (.bin .add) [.t 10, .c (.int .i64 1)],
 oA 12 (.mks 1 4 [.int .u32 0]) [.t 11, .t 11],
 oA 5 .mv [.t 12]])
 ((.seq
 ((.seq
 (.reg [oA 13 .mv [.t 0],
 oA 14 .len [.t 13],
 oA 15 .mv [.c (.int .i64 0)]])
 (.block 0 (.loop f100_0m f100_0))))
 ((.seq
 (.reg [oA 40 .mv [.t 5],
 oA 4 .mv [.t 40]])
 (.ret))))))))⟩
def f101_0m : List Bool := [true, true, false, false, false, true, true, false, false, true]
def f101_0 : AC :=
 (.seq
 ((.seq
 (.reg [oA 49 .mv [.t 9],
 oA 50 (.bin .leq) [.t 49, .c (.int .u64 4294967295)],
 oA 51 .mv [.t 50],
 oG 52 .mv [.t 6] 51 true,
 oG 53 .mv [.t 1] 51 true,
 oG 54 .mv [.t 5] 51 true,
 oG 55 (.bin .sub) [.t 54, .c (.int .i64 2)] 51 true,
 oG 56 (.ias 1) [.t 53, .t 55] 51 true,
 oG 57 (.load false 1) [.t 56] 51 true,
 oG 58 (.conv .u64) [.t 57] 51 true,
 oG 59 (.bin .mul) [.t 52, .t 58] 51 true,
 oG 60 .mv [.t 9] 51 true,
 oG 61 (.bin .shl) [.t 60, .c (.int .u64 32)] 51 true,
 oG 62 .mv [.t 0] 51 true,
 oG 63 .mv [.t 5] 51 true,
 oG 64 (.bin .sub) [.t 63, .c (.int .i64 2)] 51 true,
 oG 65 (.ias 1) [.t 62, .t 64] 51 true,
 oG 66 (.load false 1) [.t 65] 51 true,
 oG 67 (.conv .u64) [.t 66] 51 true,
 oG 68 (.bin .or) [.t 61, .t 67] 51 true,
 oG 69 (.bin .gtr) [.t 59, .t 68] 51 true,
 oA 70 .pick [.t 51, .t 69, .c (.bool false)]])
 (.cond (.t 70)
 (.skip)
 (.exit 0))))
 ((.seq
 (.block 1 (.reg [oA 79 .mv [.t 6],
 oA 80 (.bin .sub) [.t 79, .c (.int .u64 1)],
 oA 6 .mv [.t 80]]))
 (.reg [oA 71 .mv [.t 9],
 oA 72 .mv [.t 1],
 oA 73 .mv [.t 5],
 oA 74 (.bin .sub) [.t 73, .c (.int .i64 1)],
 oA 75 (.ias 1) [.t 72, .t 74],
 oA 76 (.load false 1) [.t 75],
 oA 77 (.conv .u64) [.t 76],
 oA 78 (.bin .add) [.t 71, .t 77],
 oA 9 .mv [.t 78]]))))
def f101_1m : List Bool := [true, true, false, false, false, false, true, false, false, false, true, true, false, false, false, false, false, false, false, false, false, false, false, false, false, false, false, false, false, false, false, false, false, false, false, false, false, false, false, false, false, false, false, false, false, false, false, false, false, false, false, false, false, false, false, false, false, false, false, false, false, false, false, false, false, false, false, false, false, false, false, false, false, false, false, false, false, false, false, false, false, false, true, true]
def f101_1 : AC :=
 (.seq
 (.reg [oA 84 (.bin .lss) [.t 83, .t 82]])
 ((.seq
 (.cond (.t 84)
 (.skip)
 (.exit 2))
 ((.seq
 (.block 3 ((.seq
 (.reg [oA 85 .mv [.t 83],
 oA 12 .mv [.t 85]])
 ((.seq
 (.reg [oA 86 .mv [.t 10],
 oA 87 .mv [.t 6],
 oA 88 .mv [.t 1],
 oA 89 .mv [.t 12],
 oA 90 (.call .pure false 104) [.t 88, .t 89],
 oA 91 (.conv .u64) [.t 90],
 oA 92 (.bin .mul) [.t 87, .t 91],
 oA 93 (.bin .add) [.t 86, .t 92],
 oA 10 .mv [.t 93]])
 ((.seq
 (.reg [oA 95 .mv [.t 0],
 oA 96 .mv [.t 12],
 oA 97 .mv [.t 0],
 oA 98 .mv [.t 12],
 oA 99 (.ias 1) [.t 97, .t 98],
 oA 100 (.load false 1) [.t 99],
 oA 101 .mv [.t 10],
 oA 102 (.conv .u32) [.t 101],
 oA 103 .mv [.t 11],
 oA 104 (.call .pure false 105) [.t 100, .t 102, .t 103],
 oA 94 .mv [.t 104],
 oA 105 (.ext 0) [.t 94],
 oA 106 (.ext 1) [.t 94],
 oA 107 (.ias 1) [.t 95, .t 96],
 oN (.store 1) [.t 107, .t 105],
 oA 11 .mv [.t 106]])
 (.reg [oA 108 .mv [.t 10],
 oA 109 (.bin .shr) [.t 108, .c (.int .u64 32)],
 oA 10 .mv [.t 109]]))))))))
 (.reg [oA 110 (.bin .add) [.t 83, .c (.int .i64 1)],
 oA 83 .mv [.t 110]]))))))
def f101_2m : List Bool := [true, true, false, false, false, false, true, false, false, false, false, true, false, true, false, false, false, false, false, false, false, false, false, false, false, false, false, false, false, false, false, false, false, false, false, false, false, false, false, false, false, false, false, false, false, false, false, false, false, false, false, false, false, false, false, false, false, false, false, false, false, false, false, false, false, false, false, false, false, false, false, false, false, false, false, false, false, false, false, false, false, false, false, false, false, false, false, false, false, false, false, false, false, false, false, false, false, false, false, false, false, false, false, false, false, false, false, false, false, false, false, false, false, false, false, false, true, true]
def f101_2 : AC :=
 (.seq
 (.reg [oA 118 (.bin .lss) [.t 117, .t 116]])
 ((.seq
 (.cond (.t 118)
 (.skip)
 (.exit 6))
 ((.seq
 (.block 7 ((.seq
 (.reg [oA 119 .mv [.t 117],
 oA 14 .mv [.t 119]])
 (.reg [oA 121 .mv [.t 0],
 oA 122 .mv [.t 14],
 oA 123 .mv [.t 0],
 oA 124 .mv [.t 14],
 oA 125 (.ias 1) [.t 123, .t 124],
 oA 126 (.load false 1) [.t 125],
 oA 127 .mv [.t 1],
 oA 128 .mv [.t 14],
 oA 129 (.call .pure true 104) [.t 127, .t 128],
 oA 130 .mv [.t 13],
 oA 131 (.call .pure true 103) [.t 126, .t 129, .t 130],
 oA 120 .mv [.t 131],
 oA 132 (.ext 0) [.t 120],
 oA 133 (.ext 1) [.t 120],
 oA 134 (.ias 1) [.t 121, .t 122],
 oN (.store 1) [.t 134, .t 132],
 oA 13 .mv [.t 133]]))))
 (.reg [oA 135 (.bin .add) [.t 117, .c (.int .i64 1)],
 oA 117 .mv [.t 135]]))))))
def f101_3m : List Bool := [true, true, false, false, false, false, true, false, false, false, false, true]
def f101_3 : AC :=
 (.seq
 ((.seq
 (.reg [oA 111 .mv [.t 11],
 oA 112 (.bin .gtr) [.t 111, .c (.int .u32 0)]])
 (.cond (.t 112)
 (.skip)
 (.exit 4))))
 (.block 5 ((.seq
 (.reg [oA 113 .mv [.t 6],
 oA 114 (.bin .sub) [.t 113, .c (.int .u64 1)],
 oA 6 .mv [.t 114]])
 ((.seq
 (.reg [oA 13 .mv [.c (.int .u32 0)]])
 ((.seq
 ((.seq
 (.reg [oA 115 .mv [.t 0],
 oA 116 .len [.t 115],
 oA 117 .mv [.c (.int .i64 0)]])
 (.block 6 (.loop f101_2m f101_2))))
 (.reg [oA 136 .mv [.t 11],
 oA 137 .mv [.t 13],
 oA 138 (.bin .sub) [.t 136, .t 137],
 oA 11 .mv [.t 138]])))))))))
def f101 : AF := ⟨2, 141, [.t 4],
 (.seq
 (.reg [oA 4 .mv [.c (.int .u32 0)]])
 ((.seq
 (.reg [oA 15 .mv [.t 1],
 oA 16 .len [.t 15],
 oA 5 .mv [.t 16]])
 ((.seq
 (.reg [oA 6 .mv [.c (.int .u64 4294967295)]])
 ((.seq
 ((.seq
 (.reg [oA 17 .mv [.t 0],
 oA 18 .mv [.t 5],
 oA 19 (.ias 1) [.t 17, .t 18],
 oA 20 (.load false 1) [.t 19],
 oA 21 .mv [.t 1],
 oA 22 .mv [.t 5],
 oA 23 (.bin .sub) [.t 22, .c (.int .i64 1)],
 oA 24 (.ias 1) [.t 21, .t 23],
 oA 25 (.load false 1) [.t 24],
 oA 26 (.bin .lss) [.t 20, .t 25]])
 (.cond (.t 26)
 ((.seq
 (.reg [oA 28 .mv [.t 0],
 oA 29 .mv [.t 5],
 oA 30 (.ias 1) [.t 28, .t 29],
 oA 31 (.load false 1) [.t 30],
 oA 32 .mv [.t 0],
 oA 33 .mv [.t 5],
 oA 34 (.bin .sub) [.t 33, .c (.int .i64 1)],
 oA 35 (.ias 1) [.t 32, .t 34],
 oA 36 (.load false 1) [.t 35],
 oA 37 .mv [.t 1],
 oA 38 .mv [.t 5],
 oA 39 (.bin .sub) [.t 38, .c (.int .i64 1)],
 oA 40 (.ias 1) [.t 37, .t 39],
 oA 41 (.load false 1) [.t 40],
 oA 42 (.call .pure true 107) [.t 31, .t 36, .t 41],
 oA 27 .mv [.t 42],
 oA 43 (.ext 0) [.t 27],
 oA 44 (.ext 1) [.t 27],
 oA 7 .mv [.t 43],
 oA 8 .mv [.t 44]])
 ((.seq
 (.reg [oA 45 .mv [.t 8],
 oA 46 (.conv .u64) [.t 45],
 oA 9 .mv [.t 46]])
 ((.seq
 (.reg [oA 47 .mv [.t 7],
 oA 48 (.conv .u64) [.t 47],
 oA 6 .mv [.t 48]])
 (.block 0 (.loop f101_0m f101_0))))))))
 (.skip))))
 ((.seq
 (.reg [oA 10 .mv [.c (.int .u64 0)]])
 ((.seq
 (.reg [oA 11 .mv [.c (.int .u32 0)]])
 ((.seq
 ((.seq
 (.reg [oA 81 .mv [.t 0],
 oA 82 .len [.t 81],
 oA 83 .mv [.c (.int .i64 0)]])
 (.block 2 (.loop f101_1m f101_1))))
 ((.seq
 (.block 4 (.loop f101_3m f101_3))
 ((.seq
 (.reg [oA 139 .mv [.t 6],
 oA 140 (.conv .u32) [.t 139],
 oA 4 .mv [.t 140]])
 (.ret))))))))))))))))))⟩
def f102_0m : List Bool := [true, true, false, false, false, true, false, false, false, false, false, true, true]
def f102_0 : AC :=
 (.seq
 (.reg [oA 13 (.bin .lss) [.t 12, .t 11]])
 ((.seq
 (.cond (.t 13)
 (.skip)
 (.exit 0))
 ((.seq
 (.block 1 ((.seq
 (.reg [oA 14 .mv [.t 12],
 oA 6 .mv [.t 14]])
 (.reg [oA 15 .mv [.t 5],
 oA 16 .mv [.t 6],
 oA 17 .mv [.t 0],
 oA 18 .mv [.t 6],
 oA 19 (.bin .add) [.t 18, .c (.int .i64 1)],
 oA 20 (.call .pure true 104) [.t 17, .t 19],
 oA 21 (.conv .u64) [.t 20],
 oA 22 (.bin .shl) [.t 21, .c (.int .u64 32)],
 oA 23 .mv [.t 0],
 oA 24 .mv [.t 6],
 oA 25 (.ias 1) [.t 23, .t 24],
 oA 26 (.load false 1) [.t 25],
 oA 27 (.conv .u64) [.t 26],
 oA 28 (.bin .or) [.t 22, .t 27],
 oA 29 .mv [.t 1],
 oA 30 (.bin .shr) [.t 28, .t 29],
 oA 31 (.conv .u32) [.t 30],
 oA 32 (.ias 1) [.t 15, .t 16],
 oN (.store 1) [.t 32, .t 31]]))))
 (.reg [oA 33 (.bin .add) [.t 12, .c (.int .i64 1)],
 oA 12 .mv [.t 33]]))))))
def f102 : AF := ⟨2, 36, [.t 4],
 (.seq
 (.reg [oA 4 .mv [.c (.sl [] 1 true)]])
 ((.seq
 (.reg [oA 7 .mv [.t 0],
 oA 8 .len [.t 7],
 oA 9 (.mks 1 4 [.int .u32 0]) [.t 8, .t 8],
 oA 5 .mv [.t 9]])
 ((.seq
 ((.seq
 (.reg [oA 10 .mv [.t 0],
 oA 11 .len [.t 10],
 oA 12 .mv [.c (.int .i64 0)]])
 (.block 0 (.loop f102_0m f102_0))))
 ((.seq
 (.reg [oA 34 .mv [.t 5],
 oA 35 (.call .pure false 91) [.t 34],
 oA 4 .mv [.t 35]])
 (.ret))))))))⟩
def f103 : AF := ⟨3, 22, [.t 6, .t 7],
 (.seq
 (.reg [oA 6 .mv [.c (.int .u32 0)],
 oA 7 .mv [.c (.int .u32 0)]])
 ((.seq
 (.reg [oA 9 .mv [.t 0],
 oA 10 (.conv .u64) [.t 9],
 oA 11 .mv [.t 1],
 oA 12 (.conv .u64) [.t 11],
 oA 13 (.bin .add) [.t 10, .t 12],
 oA 14 .mv [.t 2],
 oA 15 (.conv .u64) [.t 14],
 oA 16 (.bin .add) [.t 13, .t 15],
 oA 8 .mv [.t 16]])
 ((.seq
 (.reg [oA 17 .mv [.t 8],
 oA 18 (.conv .u32) [.t 17],
 oA 6 .mv [.t 18]])
 ((.seq
 (.reg [oA 19 .mv [.t 8],
 oA 20 (.bin .shr) [.t 19, .c (.int .u64 32)],
 oA 21 (.conv .u32) [.t 20],
 oA 7 .mv [.t 21]])
 (.ret))))))))⟩
def f104 : AF := ⟨2, 13, [.t 4],
 (.seq
 (.reg [oA 4 .mv [.c (.int .u32 0)]])
 ((.seq
 ((.seq
 (.reg [oA 5 .mv [.t 1],
 oA 6 .mv [.t 0],
 oA 7 .len [.t 6],
 oA 8 (.bin .lss) [.t 5, .t 7]])
 (.cond (.t 8)
 ((.seq
 (.reg [oA 9 .mv [.t 0],
 oA 10 .mv [.t 1],
 oA 11 (.ias 1) [.t 9, .t 10],
 oA 12 (.load false 1) [.t 11],
 oA 4 .mv [.t 12]])
 (.ret)))
 (.skip))))
 ((.seq
 (.reg [oA 4 .mv [.c (.int .u32 0)]])
 (.ret))))))⟩
def f105 : AF := ⟨3, 25, [.t 6, .t 7],
 (.seq
 (.reg [oA 6 .mv [.c (.int .u32 0)],
 oA 7 .mv [.c (.int .u32 0)]])
 ((.seq
 (.reg [oA 8 .mv [.t 0],
 oA 9 .mv [.t 1],
 oA 10 (.bin .sub) [.t 8, .t 9],
 oA 11 .mv [.t 2],
 oA 12 (.bin .sub) [.t 10, .t 11],
 oA 6 .mv [.t 12]])
 ((.seq
 (.reg [oA 13 .mv [.t 0],
 oA 14 (.un .xor) [.t 13],
 oA 15 .mv [.t 1],
 oA 16 (.bin .and) [.t 14, .t 15],
 oA 17 .mv [.t 0],
 oA 18 .mv [.t 1],
 oA 19 (.bin .xor) [.t 17, .t 18],
 oA 20 (.un .xor) [.t 19],
 oA 21 .mv [.t 6],
 oA 22 (.bin .and) [.t 20, .t 21],
 oA 23 (.bin .or) [.t 16, .t 22],
 oA 24 (.bin .shr) [.t 23, .c (.int .u64 31)],
 oA 7 .mv [.t 24]])
 (.ret))))))⟩
def f106 : AF := ⟨2, 20, [.t 4],
 (.seq
 (.reg [oA 4 .mv [.c (.int .i64 0)]])
 ((.seq
 (.reg [oA 7 .mv [.t 0],
 oA 8 (.call .pure false 108) [.t 7],
 oA 5 .mv [.t 8]])
 ((.seq
 (.reg [oA 9 .mv [.t 1],
 oA 10 (.call .pure false 108) [.t 9],
 oA 6 .mv [.t 10]])
 ((.seq
 ((.seq
 (.reg [oA 11 .mv [.t 5]])
 (.cond (.t 11)
 ((.seq
 ((.seq
 (.reg [oA 12 .mv [.t 6]])
 (.cond (.t 12)
 ((.seq
 (.reg [oA 4 .mv [.c (.int .i64 0)]])
 (.ret)))
 (.skip))))
 ((.seq
 (.reg [oA 4 .mv [.c (.int .i64 (-1))]])
 (.ret)))))
 (.skip))))
 ((.seq
 ((.seq
 (.reg [oA 13 .mv [.t 6]])
 (.cond (.t 13)
 ((.seq
 (.reg [oA 4 .mv [.c (.int .i64 1)]])
 (.ret)))
 (.skip))))
 ((.seq
 ((.seq
 (.reg [oA 14 .mv [.t 0],
 oA 15 .mv [.t 1],
 oA 16 (.bin .lss) [.t 14, .t 15]])
 (.cond (.t 16)
 ((.seq
 (.reg [oA 4 .mv [.c (.int .i64 (-1))]])
 (.ret)))
 (.skip))))
 ((.seq
 ((.seq
 (.reg [oA 17 .mv [.t 0],
 oA 18 .mv [.t 1],
 oA 19 (.bin .gtr) [.t 17, .t 18]])
 (.cond (.t 19)
 ((.seq
 (.reg [oA 4 .mv [.c (.int .i64 1)]])
 (.ret)))
 (.skip))))
 ((.seq
 (.reg [oA 4 .mv [.c (.int .i64 0)]])
 (.ret))))))))))))))))⟩
def f107 : AF := ⟨3, 33, [.t 6, .t 7],
 (.seq
 (.reg [oA 6 .mv [.c (.int .u32 0)],
 oA 7 .mv [.c (.int .u32 0)]])
 ((.seq
 ((.seq
 (.reg [oA 9 .mv [.t 2],
 oA 10 (.bin .neq) [.t 9, .c (.int .u32 0)],
 oA 11 .mv [.t 10],
 oG 12 .mv [.t 2] 11 true,
 oG 13 .mv [.t 0] 11 true,
 oG 14 (.bin .leq) [.t 12, .t 13] 11 true,
 oA 15 .pick [.t 11, .t 14, .c (.bool false)]])
 (.cond (.t 15)
 (.reg [oA 16 .stop [],
 oN .stop []])
 (.skip))))
 ((.seq
 (.reg [oA 17 .mv [.t 0],
 oA 18 (.conv .u64) [.t 17],
 oA 19 (.bin .shl) [.t 18, .c (.int .u64 32)],
 oA 20 .mv [.t 1],
 oA 21 (.conv .u64) [.t 20],
 oA 22 (.bin .or) [.t 19, .t 21],
 oA 8 .mv [.t 22]])
 ((.seq
 (.reg [oA 23 .mv [.t 8],
 oA 24 .mv [.t 2],
 oA 25 (.conv .u64) [.t 24],
 oA 26 (.bin .quo) [.t 23, .t 25],
 oA 27 (.conv .u32) [.t 26],
 oA 28 .mv [.t 8],
 oA 29 .mv [.t 2],
 oA 30 (.conv .u64) [.t 29],
 oA 31 (.bin .rem) [.t 28, .t 30],
 oA 32 (.conv .u32) [.t 31],
 oA 6 .mv [.t 27],
 oA 7 .mv [.t 32]])
 (.ret))))))))⟩
def f108 : AF := ⟨1, 6, [.t 2],
 (.seq
 (.reg [oA 2 .mv [.c (.bool false)]])
 ((.seq
 (.reg [oA 3 .mv [.t 0],
 oA 4 .mv [.t 0],
 oA 5 (.bin .neq) [.t 3, .t 4],
 oA 2 .mv [.t 5]])
 (.ret))))⟩
end Go.AVM
