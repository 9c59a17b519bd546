/- Texts joined: AvF0. -/
import Derived.Test.YtlpbjbgfgfjnlaaAvPermutes1
/- The functions of the program, told for the abstract machine: made by a small program (Gen) out of the translated code. -/
set_option linter.unusedVariables false
namespace Go.AVM
/-- How many bits. -/
def tab256 : ByteArray := ⟨#[0, 1, 2, 2, 3, 3, 3, 3, 4, 4, 4, 4, 4, 4, 4, 4, 5, 5, 5, 5, 5, 5, 5, 5, 5, 5, 5, 5, 5, 5, 5, 5, 6, 6, 6, 6, 6, 6, 6, 6, 6, 6, 6, 6, 6, 6, 6, 6, 6, 6, 6, 6, 6, 6, 6, 6, 6, 6, 6, 6, 6, 6, 6, 6, 7, 7, 7, 7, 7, 7, 7, 7, 7, 7, 7, 7, 7, 7, 7, 7, 7, 7, 7, 7, 7, 7, 7, 7, 7, 7, 7, 7, 7, 7, 7, 7, 7, 7, 7, 7, 7, 7, 7, 7, 7, 7, 7, 7, 7, 7, 7, 7, 7, 7, 7, 7, 7, 7, 7, 7, 7, 7, 7, 7, 7, 7, 7, 7, 8, 8, 8, 8, 8, 8, 8, 8, 8, 8, 8, 8, 8, 8, 8, 8, 8, 8, 8, 8, 8, 8, 8, 8, 8, 8, 8, 8, 8, 8, 8, 8, 8, 8, 8, 8, 8, 8, 8, 8, 8, 8, 8, 8, 8, 8, 8, 8, 8, 8, 8, 8, 8, 8, 8, 8, 8, 8, 8, 8, 8, 8, 8, 8, 8, 8, 8, 8, 8, 8, 8, 8, 8, 8, 8, 8, 8, 8, 8, 8, 8, 8, 8, 8, 8, 8, 8, 8, 8, 8, 8, 8, 8, 8, 8, 8, 8, 8, 8, 8, 8, 8, 8, 8, 8, 8, 8, 8, 8, 8, 8, 8, 8, 8, 8, 8, 8, 8, 8, 8, 8, 8, 8, 8, 8, 8, 8, 8]⟩
/-- gosem.cut.init -/
def f2 : AF := ⟨0, 1, [],
 .reg [⟨(some 0), .call .pure false 1, [], none⟩]⟩
def f3_0m : List Bool := [false, false, false, false, false, true, true, true, true, true]
def f3_0 : AC :=
 (.seq
 ((.seq
 (.reg [⟨(some 21), .mv, [.t 9], none⟩,
 ⟨(some 22), .mv, [.t 8], none⟩,
 ⟨(some 23), .len, [.t 22], none⟩,
 ⟨(some 24), .bin .lss, [.t 21, .t 23], none⟩])
 (.cond (.t 24)
 (.skip)
 (.exit 0))))
 ((.seq
 (.block 1 ((.seq
 (.reg [⟨(some 27), .mv, [.t 7], none⟩,
 ⟨(some 28), .mv, [.t 8], none⟩,
 ⟨(some 29), .mv, [.t 9], none⟩,
 ⟨(some 30), .ias 8, [.t 28, .t 29], none⟩,
 ⟨(some 31), .load true 8, [.t 30], none⟩,
 ⟨(some 32), .call .pure true 12, [.t 27, .t 31], none⟩,
 ⟨(some 33), .un .not, [.t 32], none⟩,
 ⟨(some 34), .mv, [.t 33], none⟩,
 ⟨(some 35), .mv, [.t 9], (some (34, false))⟩,
 ⟨(some 36), .bin .gtr, [.t 35, .c (.int .i64 0)], (some (34, false))⟩,
 ⟨(some 37), .mv, [.t 36], (some (34, false))⟩,
 ⟨(some 38), .mv, [.t 6], (some (37, true))⟩,
 ⟨(some 39), .mv, [.t 8], (some (37, true))⟩,
 ⟨(some 40), .mv, [.t 9], (some (37, true))⟩,
 ⟨(some 41), .bin .sub, [.t 40, .c (.int .i64 1)], (some (37, true))⟩,
 ⟨(some 42), .ias 8, [.t 39, .t 41], (some (37, true))⟩,
 ⟨(some 43), .load true 8, [.t 42], (some (37, true))⟩,
 ⟨(some 44), .mv, [.t 8], (some (37, true))⟩,
 ⟨(some 45), .mv, [.t 9], (some (37, true))⟩,
 ⟨(some 46), .ias 8, [.t 44, .t 45], (some (37, true))⟩,
 ⟨(some 47), .load true 8, [.t 46], (some (37, true))⟩,
 ⟨(some 48), .call .pure true 13, [.t 38, .t 43, .t 47], (some (37, true))⟩,
 ⟨(some 49), .bin .neq, [.t 48, .c (.int .i64 1)], (some (37, true))⟩,
 ⟨(some 50), .pick, [.t 37, .t 49, .c (.bool false)], (some (34, false))⟩,
 ⟨(some 51), .pick, [.t 34, .c (.bool true), .t 50], none⟩])
 (.cond (.t 51)
 ((.seq
 (.reg [⟨(some 4), .mv, [.c (.bool false)], none⟩])
 (.ret)))
 (.skip)))))
 (.reg [⟨(some 25), .mv, [.t 9], none⟩,
 ⟨(some 26), .bin .add, [.t 25, .c (.int .i64 1)], none⟩,
 ⟨(some 9), .mv, [.t 26], none⟩]))))
def f3_1m : List Bool := [false, false, false, false, false, true, true, true, true, false, true]
def f3_1 : AC :=
 (.seq
 ((.seq
 (.reg [⟨(some 52), .mv, [.t 10], none⟩,
 ⟨(some 53), .mv, [.t 7], none⟩,
 ⟨(some 54), .len, [.t 53], none⟩,
 ⟨(some 55), .bin .lss, [.t 52, .t 54], none⟩])
 (.cond (.t 55)
 (.skip)
 (.exit 2))))
 ((.seq
 (.block 3 ((.seq
 (.reg [⟨(some 58), .mv, [.t 8], none⟩,
 ⟨(some 59), .mv, [.t 7], none⟩,
 ⟨(some 60), .mv, [.t 10], none⟩,
 ⟨(some 61), .ias 8, [.t 59, .t 60], none⟩,
 ⟨(some 62), .load true 8, [.t 61], none⟩,
 ⟨(some 63), .call .pure false 12, [.t 58, .t 62], none⟩,
 ⟨(some 64), .un .not, [.t 63], none⟩])
 (.cond (.t 64)
 ((.seq
 (.reg [⟨(some 4), .mv, [.c (.bool false)], none⟩])
 (.ret)))
 (.skip)))))
 (.reg [⟨(some 56), .mv, [.t 10], none⟩,
 ⟨(some 57), .bin .add, [.t 56, .c (.int .i64 1)], none⟩,
 ⟨(some 10), .mv, [.t 57], none⟩]))))
/-- eliminant/eliminantlaw05.OrderSorts -/
def f3 : AF := ⟨2, 73, [.t 4],
 (.seq
 (.reg [⟨(some 2), .box 1, [.t 0], none⟩,
 ⟨(some 4), .mv, [.c (.bool false)], none⟩])
 ((.seq
 (.reg [⟨(some 11), .call .pure false 8, [], none⟩,
 ⟨(some 5), .mv, [.t 11], none⟩])
 ((.seq
 ((.seq
 (.reg [⟨(some 12), .mv, [.t 5], none⟩,
 ⟨(some 13), .un .not, [.t 12], none⟩])
 (.cond (.t 13)
 ((.seq
 (.reg [⟨(some 4), .mv, [.c (.bool false)], none⟩])
 (.ret)))
 (.skip))))
 ((.seq
 (.reg [⟨(some 14), .load true 1, [.t 2], none⟩,
 ⟨(some 15), .call .pure false 9, [.t 14], none⟩,
 ⟨(some 16), .mv, [.t 1], none⟩,
 ⟨(some 17), .call .pure false 10, [.t 16], none⟩,
 ⟨(some 6), .mv, [.t 15], none⟩,
 ⟨(some 7), .mv, [.t 17], none⟩])
 ((.seq
 (.reg [⟨(some 18), .mv, [.t 6], none⟩,
 ⟨(some 19), .mv, [.t 7], none⟩,
 ⟨(some 20), .call .pure false 11, [.t 18, .t 19], none⟩,
 ⟨(some 8), .mv, [.t 20], none⟩])
 ((.seq
 ((.seq
 (.reg [⟨(some 9), .mv, [.c (.int .i64 0)], none⟩])
 (.block 0 (.loop f3_0m f3_0))))
 ((.seq
 ((.seq
 (.reg [⟨(some 10), .mv, [.c (.int .i64 0)], none⟩])
 (.block 2 (.loop f3_1m f3_1))))
 ((.seq
 (.reg [⟨(some 65), .mv, [.t 6], none⟩,
 ⟨(some 66), .mv, [.t 8], none⟩,
 ⟨(some 67), .call .pure false 11, [.t 65, .t 66], none⟩,
 ⟨(some 68), .mv, [.t 8], none⟩,
 ⟨(some 69), .call .pure false 14, [.t 67, .t 68], none⟩,
 ⟨(some 70), .mv, [.t 69], none⟩,
 ⟨(some 71), .mv, [.t 5], (some (70, true))⟩,
 ⟨(some 72), .pick, [.t 70, .t 71, .c (.bool false)], none⟩,
 ⟨(some 4), .mv, [.t 72], none⟩])
 (.ret))))))))))))))))⟩
/-- eliminant/eliminantlaw05.OrderNamed -/
def f4 : AF := ⟨2, 77, [.t 4],
 (.seq
 (.reg [⟨(some 2), .box 16, [.t 0], none⟩,
 ⟨(some 4), .mv, [.c (.bool false)], none⟩])
 ((.seq
 (.reg [⟨(some 10), .call .pure false 8, [], none⟩,
 ⟨(some 5), .mv, [.t 10], none⟩])
 ((.seq
 ((.seq
 (.reg [⟨(some 11), .mv, [.t 5], none⟩,
 ⟨(some 12), .un .not, [.t 11], none⟩])
 (.cond (.t 12)
 ((.seq
 (.reg [⟨(some 4), .mv, [.c (.bool false)], none⟩])
 (.ret)))
 (.skip))))
 ((.seq
 (.reg [⟨(some 6), .alloc (List.replicate 8 (.int .i64 0)), [], none⟩,
 ⟨(some 7), .alloc (List.replicate 8 (.int .i64 0)), [], none⟩,
 ⟨(some 13), .iaa 2 8, [.t 2, .c (.int .i64 0)], none⟩,
 ⟨(some 14), .load true 8, [.t 13], none⟩,
 ⟨(some 15), .call .pure true 15, [.t 14], none⟩,
 ⟨(some 16), .iaa 2 8, [.t 2, .c (.int .i64 1)], none⟩,
 ⟨(some 17), .load true 8, [.t 16], none⟩,
 ⟨(some 18), .call .pure true 15, [.t 17], none⟩,
 ⟨none, .store 8, [.t 6, .t 15], none⟩,
 ⟨none, .store 8, [.t 7, .t 18], none⟩])
 ((.seq
 ((.seq
 (.reg [⟨(some 19), .mv, [.t 1], none⟩])
 (.cond (.t 19)
 (.reg [⟨(some 20), .iaa 8 1, [.t 7, .c (.int .i64 7)], none⟩,
 ⟨(some 21), .load false 1, [.t 20], none⟩,
 ⟨(some 22), .load true 8, [.t 6], none⟩,
 ⟨(some 23), .call .pure true 16, [.t 22], none⟩,
 ⟨(some 24), .bin .add, [.t 21, .t 23], none⟩,
 ⟨(some 25), .load true 8, [.t 7], none⟩,
 ⟨(some 26), .call .pure true 16, [.t 25], none⟩,
 ⟨(some 27), .bin .sub, [.t 24, .t 26], none⟩,
 ⟨(some 28), .mx, [.c (.int .i64 0), .t 27], none⟩,
 ⟨(some 29), .iaa 8 1, [.t 7, .c (.int .i64 7)], none⟩,
 ⟨none, .store 1, [.t 29, .t 28], none⟩])
 (.skip))))
 ((.seq
 ((.seq
 (.reg [⟨(some 30), .iaa 8 1, [.t 7, .c (.int .i64 7)], none⟩,
 ⟨(some 31), .load false 1, [.t 30], none⟩,
 ⟨(some 32), .bin .gtr, [.t 31, .c (.int .i64 65535)], none⟩])
 (.cond (.t 32)
 ((.seq
 (.reg [⟨(some 33), .mv, [.t 5], none⟩,
 ⟨(some 4), .mv, [.t 33], none⟩])
 (.ret)))
 (.skip))))
 ((.seq
 (.reg [⟨(some 34), .load true 8, [.t 6], none⟩,
 ⟨(some 35), .load true 8, [.t 7], none⟩,
 ⟨(some 36), .call .pure true 17, [.t 34, .t 35], none⟩,
 ⟨(some 37), .load true 8, [.t 6], none⟩,
 ⟨(some 38), .load true 8, [.t 7], none⟩,
 ⟨(some 39), .call .pure true 18, [.t 37, .t 38], none⟩,
 ⟨(some 8), .mv, [.t 36], none⟩,
 ⟨(some 9), .mv, [.t 39], none⟩])
 ((.seq
 ((.seq
 (.reg [⟨(some 40), .load true 8, [.t 6], none⟩,
 ⟨(some 41), .call .pure true 16, [.t 40], none⟩,
 ⟨(some 42), .load true 8, [.t 7], none⟩,
 ⟨(some 43), .call .pure true 16, [.t 42], none⟩,
 ⟨(some 44), .bin .lss, [.t 41, .t 43], none⟩])
 (.cond (.t 44)
 (.reg [⟨(some 8), .mv, [.c (.int .i64 (-1))], none⟩,
 ⟨(some 9), .mv, [.c (.int .i64 (-1))], none⟩])
 (.skip))))
 ((.seq
 ((.seq
 (.reg [⟨(some 45), .load true 8, [.t 6], none⟩,
 ⟨(some 46), .call .pure true 16, [.t 45], none⟩,
 ⟨(some 47), .load true 8, [.t 7], none⟩,
 ⟨(some 48), .call .pure true 16, [.t 47], none⟩,
 ⟨(some 49), .bin .gtr, [.t 46, .t 48], none⟩])
 (.cond (.t 49)
 (.reg [⟨(some 8), .mv, [.c (.int .i64 1)], none⟩,
 ⟨(some 9), .mv, [.c (.int .i64 1)], none⟩])
 (.skip))))
 ((.seq
 (.reg [⟨(some 50), .call .pure true 19, [], none⟩,
 ⟨(some 51), .load true 8, [.t 6], none⟩,
 ⟨(some 52), .load true 8, [.t 7], none⟩,
 ⟨(some 53), .call .pure true 13, [.t 50, .t 51, .t 52], none⟩,
 ⟨(some 54), .load true 8, [.t 6], none⟩,
 ⟨(some 55), .load true 8, [.t 7], none⟩,
 ⟨(some 56), .call .pure true 17, [.t 54, .t 55], none⟩,
 ⟨(some 57), .bin .eql, [.t 53, .t 56], none⟩,
 ⟨(some 58), .mv, [.t 57], none⟩,
 ⟨(some 59), .call .pure true 20, [], (some (58, true))⟩,
 ⟨(some 60), .load true 8, [.t 6], (some (58, true))⟩,
 ⟨(some 61), .load true 8, [.t 7], (some (58, true))⟩,
 ⟨(some 62), .call .pure true 13, [.t 59, .t 60, .t 61], (some (58, true))⟩,
 ⟨(some 63), .mv, [.t 8], (some (58, true))⟩,
 ⟨(some 64), .bin .eql, [.t 62, .t 63], (some (58, true))⟩,
 ⟨(some 65), .pick, [.t 58, .t 64, .c (.bool false)], none⟩,
 ⟨(some 66), .mv, [.t 65], none⟩,
 ⟨(some 67), .call .pure true 21, [], (some (66, true))⟩,
 ⟨(some 68), .load true 8, [.t 6], (some (66, true))⟩,
 ⟨(some 69), .load true 8, [.t 7], (some (66, true))⟩,
 ⟨(some 70), .call .pure true 13, [.t 67, .t 68, .t 69], (some (66, true))⟩,
 ⟨(some 71), .mv, [.t 9], (some (66, true))⟩,
 ⟨(some 72), .bin .eql, [.t 70, .t 71], (some (66, true))⟩,
 ⟨(some 73), .pick, [.t 66, .t 72, .c (.bool false)], none⟩,
 ⟨(some 74), .mv, [.t 73], none⟩,
 ⟨(some 75), .mv, [.t 5], (some (74, true))⟩,
 ⟨(some 76), .pick, [.t 74, .t 75, .c (.bool false)], none⟩,
 ⟨(some 4), .mv, [.t 76], none⟩])
 (.ret))))))))))))))))))))⟩
def f5_0m : List Bool := [false, true, false, true, false, false, false, true, true, true, true]
def f5_0 : AC :=
 (.seq
 ((.seq
 (.reg [⟨(some 32), .mv, [.t 10], none⟩,
 ⟨(some 33), .bin .lss, [.t 32, .c (.int .i64 8)], none⟩])
 (.cond (.t 33)
 (.skip)
 (.exit 0))))
 ((.seq
 (.block 1 ((.seq
 (.reg [⟨(some 36), .mv, [.t 1], none⟩,
 ⟨(some 37), .mv, [.t 10], none⟩,
 ⟨(some 38), .call .pure false 25, [.t 36, .t 37], none⟩])
 (.cond (.t 38)
 (.reg [⟨(some 39), .mv, [.t 10], none⟩,
 ⟨(some 40), .iaa 8 1, [.t 9, .t 39], none⟩,
 ⟨none, .store 1, [.t 40, .c (.int .i64 0)], none⟩])
 (.skip)))))
 (.reg [⟨(some 34), .mv, [.t 10], none⟩,
 ⟨(some 35), .bin .add, [.t 34, .c (.int .i64 1)], none⟩,
 ⟨(some 10), .mv, [.t 35], none⟩]))))
/-- eliminant/eliminantlaw05.OrderEliminates -/
def f5 : AF := ⟨3, 68, [.t 6],
 (.seq
 (.reg [⟨(some 3), .box 1, [.t 0], none⟩,
 ⟨(some 5), .box 16, [.t 2], none⟩,
 ⟨(some 6), .mv, [.c (.bool false)], none⟩])
 ((.seq
 (.reg [⟨(some 12), .call .pure false 8, [], none⟩,
 ⟨(some 7), .mv, [.t 12], none⟩])
 ((.seq
 ((.seq
 (.reg [⟨(some 13), .mv, [.t 7], none⟩,
 ⟨(some 14), .un .not, [.t 13], none⟩])
 (.cond (.t 14)
 ((.seq
 (.reg [⟨(some 6), .mv, [.c (.bool false)], none⟩])
 (.ret)))
 (.skip))))
 ((.seq
 ((.seq
 (.reg [⟨(some 15), .mv, [.t 1], none⟩,
 ⟨(some 16), .call .pure false 23, [.t 15], none⟩,
 ⟨(some 17), .mv, [.t 1], none⟩,
 ⟨(some 18), .call .pure false 22, [.t 16, .t 17], none⟩,
 ⟨(some 19), .un .not, [.t 18], none⟩,
 ⟨(some 20), .mv, [.t 19], none⟩,
 ⟨(some 21), .mv, [.t 1], (some (20, false))⟩,
 ⟨(some 22), .call .pure false 23, [.t 21], (some (20, false))⟩,
 ⟨(some 23), .call .pure false 24, [.t 22], (some (20, false))⟩,
 ⟨(some 24), .un .not, [.t 23], (some (20, false))⟩,
 ⟨(some 25), .pick, [.t 20, .c (.bool true), .t 24], none⟩])
 (.cond (.t 25)
 ((.seq
 (.reg [⟨(some 6), .mv, [.c (.bool false)], none⟩])
 (.ret)))
 (.skip))))
 ((.seq
 (.reg [⟨(some 8), .alloc (List.replicate 8 (.int .i64 0)), [], none⟩,
 ⟨(some 9), .alloc (List.replicate 8 (.int .i64 0)), [], none⟩,
 ⟨(some 26), .iaa 2 8, [.t 5, .c (.int .i64 0)], none⟩,
 ⟨(some 27), .load true 8, [.t 26], none⟩,
 ⟨(some 28), .call .pure true 15, [.t 27], none⟩,
 ⟨(some 29), .iaa 2 8, [.t 5, .c (.int .i64 1)], none⟩,
 ⟨(some 30), .load true 8, [.t 29], none⟩,
 ⟨(some 31), .call .pure true 15, [.t 30], none⟩,
 ⟨none, .store 8, [.t 8, .t 28], none⟩,
 ⟨none, .store 8, [.t 9, .t 31], none⟩])
 ((.seq
 ((.seq
 (.reg [⟨(some 10), .mv, [.c (.int .i64 0)], none⟩])
 (.block 0 (.loop f5_0m f5_0))))
 ((.seq
 ((.seq
 (.reg [⟨(some 41), .load true 8, [.t 8], none⟩,
 ⟨(some 42), .call .pure false 26, [.t 41], none⟩,
 ⟨(some 43), .mv, [.t 1], none⟩,
 ⟨(some 44), .bin .and, [.t 42, .t 43], none⟩,
 ⟨(some 45), .bin .eql, [.t 44, .c (.int .u8 0)], none⟩])
 (.cond (.t 45)
 ((.seq
 (.reg [⟨(some 46), .mv, [.t 7], none⟩,
 ⟨(some 6), .mv, [.t 46], none⟩])
 (.ret)))
 (.skip))))
 ((.seq
 (.reg [⟨(some 47), .load true 1, [.t 3], none⟩,
 ⟨(some 48), .call .pure false 9, [.t 47], none⟩,
 ⟨(some 11), .mv, [.t 48], none⟩])
 ((.seq
 ((.seq
 (.reg [⟨(some 49), .mv, [.t 11], none⟩,
 ⟨(some 50), .mv, [.t 1], none⟩,
 ⟨(some 51), .call .pure false 22, [.t 49, .t 50], none⟩,
 ⟨(some 52), .mv, [.t 51], none⟩,
 ⟨(some 53), .mv, [.t 11], (some (52, true))⟩,
 ⟨(some 54), .load true 8, [.t 8], (some (52, true))⟩,
 ⟨(some 55), .load true 8, [.t 9], (some (52, true))⟩,
 ⟨(some 56), .call .pure false 13, [.t 53, .t 54, .t 55], (some (52, true))⟩,
 ⟨(some 57), .bin .neq, [.t 56, .c (.int .i64 1)], (some (52, true))⟩,
 ⟨(some 58), .pick, [.t 52, .t 57, .c (.bool false)], none⟩])
 (.cond (.t 58)
 ((.seq
 (.reg [⟨(some 6), .mv, [.c (.bool false)], none⟩])
 (.ret)))
 (.skip))))
 ((.seq
 (.reg [⟨(some 59), .mv, [.t 1], none⟩,
 ⟨(some 60), .call .pure true 23, [.t 59], none⟩,
 ⟨(some 61), .load true 8, [.t 8], none⟩,
 ⟨(some 62), .load true 8, [.t 9], none⟩,
 ⟨(some 63), .call .pure true 13, [.t 60, .t 61, .t 62], none⟩,
 ⟨(some 64), .bin .eql, [.t 63, .c (.int .i64 1)], none⟩,
 ⟨(some 65), .mv, [.t 64], none⟩,
 ⟨(some 66), .mv, [.t 7], (some (65, true))⟩,
 ⟨(some 67), .pick, [.t 65, .t 66, .c (.bool false)], none⟩,
 ⟨(some 6), .mv, [.t 67], none⟩])
 (.ret))))))))))))))))))))⟩
def f6_0m : List Bool := [false, false, false, false, false, false, false, true, true, true, true, true, true, true]
def f6_0 : AC :=
 (.seq
 ((.seq
 (.reg [⟨(some 35), .mv, [.t 13], none⟩,
 ⟨(some 36), .bin .lss, [.t 35, .c (.int .i64 8)], none⟩])
 (.cond (.t 36)
 (.skip)
 (.exit 0))))
 ((.seq
 (.block 1 (.reg [⟨(some 39), .mv, [.t 13], none⟩,
 ⟨(some 40), .iaa 8 1, [.t 11, .t 39], none⟩,
 ⟨(some 41), .load false 1, [.t 40], none⟩,
 ⟨(some 42), .mv, [.t 13], none⟩,
 ⟨(some 43), .iaa 8 1, [.t 12, .t 41], none⟩,
 ⟨none, .store 1, [.t 43, .t 42], none⟩]))
 (.reg [⟨(some 37), .mv, [.t 13], none⟩,
 ⟨(some 38), .bin .add, [.t 37, .c (.int .i64 1)], none⟩,
 ⟨(some 13), .mv, [.t 38], none⟩]))))
/-- eliminant/eliminantlaw05.OrderPermutes -/
def f6 : AF := ⟨3, 119, [.t 6],
 (.seq
 (.reg [⟨(some 3), .box 1, [.t 0], none⟩,
 ⟨(some 4), .box 16, [.t 1], none⟩,
 ⟨(some 6), .mv, [.c (.bool false)], none⟩])
 ((.seq
 (.reg [⟨(some 21), .call .pure false 8, [], none⟩,
 ⟨(some 7), .mv, [.t 21], none⟩])
 ((.seq
 ((.seq
 (.reg [⟨(some 22), .mv, [.t 7], none⟩,
 ⟨(some 23), .un .not, [.t 22], none⟩])
 (.cond (.t 23)
 ((.seq
 (.reg [⟨(some 6), .mv, [.c (.bool false)], none⟩])
 (.ret)))
 (.skip))))
 ((.seq
 (.reg [⟨(some 9), .alloc (List.replicate 8 (.int .i64 0)), [], none⟩,
 ⟨(some 10), .alloc (List.replicate 8 (.int .i64 0)), [], none⟩,
 ⟨(some 11), .alloc (List.replicate 8 (.int .i64 0)), [], none⟩,
 ⟨(some 24), .load true 1, [.t 3], none⟩,
 ⟨(some 25), .call .pure true 9, [.t 24], none⟩,
 ⟨(some 26), .iaa 2 8, [.t 4, .c (.int .i64 0)], none⟩,
 ⟨(some 27), .load true 8, [.t 26], none⟩,
 ⟨(some 28), .call .pure true 15, [.t 27], none⟩,
 ⟨(some 29), .iaa 2 8, [.t 4, .c (.int .i64 1)], none⟩,
 ⟨(some 30), .load true 8, [.t 29], none⟩,
 ⟨(some 31), .call .pure true 15, [.t 30], none⟩,
 ⟨(some 32), .mv, [.t 2], none⟩,
 ⟨(some 33), .call .pure true 27, [.t 32], none⟩,
 ⟨(some 8), .mv, [.t 25], none⟩,
 ⟨none, .store 8, [.t 9, .t 28], none⟩,
 ⟨none, .store 8, [.t 10, .t 31], none⟩,
 ⟨none, .store 8, [.t 11, .t 33], none⟩])
 ((.seq
 (.reg [⟨(some 34), .build (List.replicate 8 (.int .i64 0)) [], [], none⟩,
 ⟨(some 12), .alloc (List.replicate 8 (.int .i64 0)), [], none⟩,
 ⟨none, .store 8, [.t 12, .t 34], none⟩])
 ((.seq
 ((.seq
 (.reg [⟨(some 13), .mv, [.c (.int .i64 0)], none⟩])
 (.block 0 (.loop f6_0m f6_0))))
 ((.seq
 (.reg [⟨(some 44), .mv, [.t 8], none⟩,
 ⟨(some 45), .load true 8, [.t 9], none⟩,
 ⟨(some 46), .load true 8, [.t 10], none⟩,
 ⟨(some 47), .call .pure false 13, [.t 44, .t 45, .t 46], none⟩,
 ⟨(some 14), .mv, [.t 47], none⟩])
 ((.seq
 (.reg [⟨(some 49), .mv, [.t 8], none⟩,
 ⟨(some 50), .call .pure false 28, [.t 49], none⟩,
 ⟨(some 48), .mv, [.t 50], none⟩,
 ⟨(some 51), .ext 0, [.t 48], none⟩,
 ⟨(some 52), .ext 1, [.t 48], none⟩,
 ⟨(some 15), .mv, [.t 51], none⟩,
 ⟨(some 16), .mv, [.t 52], none⟩])
 ((.seq
 (.reg [⟨(some 54), .mv, [.t 8], none⟩,
 ⟨(some 55), .load true 8, [.t 11], none⟩,
 ⟨(some 56), .call .pure false 29, [.t 54, .t 55], none⟩,
 ⟨(some 53), .mv, [.t 56], none⟩,
 ⟨(some 57), .ext 0, [.t 53], none⟩,
 ⟨(some 58), .ext 1, [.t 53], none⟩,
 ⟨(some 17), .mv, [.t 57], none⟩,
 ⟨(some 18), .mv, [.t 58], none⟩])
 ((.seq
 ((.seq
 (.reg [⟨(some 59), .mv, [.t 16], none⟩,
 ⟨(some 60), .bin .neq, [.t 59, .c (.int .i64 0)], none⟩,
 ⟨(some 61), .mv, [.t 60], none⟩,
 ⟨(some 62), .mv, [.t 18], (some (61, false))⟩,
 ⟨(some 63), .bin .neq, [.t 62, .c (.int .i64 0)], (some (61, false))⟩,
 ⟨(some 64), .pick, [.t 61, .c (.bool true), .t 63], none⟩,
 ⟨(some 65), .mv, [.t 64], none⟩,
 ⟨(some 66), .mv, [.t 15], (some (65, false))⟩,
 ⟨(some 67), .call .pure false 24, [.t 66], (some (65, false))⟩,
 ⟨(some 68), .un .not, [.t 67], (some (65, false))⟩,
 ⟨(some 69), .pick, [.t 65, .c (.bool true), .t 68], none⟩,
 ⟨(some 70), .mv, [.t 69], none⟩,
 ⟨(some 71), .mv, [.t 17], (some (70, false))⟩,
 ⟨(some 72), .call .pure false 24, [.t 71], (some (70, false))⟩,
 ⟨(some 73), .un .not, [.t 72], (some (70, false))⟩,
 ⟨(some 74), .pick, [.t 70, .c (.bool true), .t 73], none⟩,
 ⟨(some 75), .mv, [.t 74], none⟩,
 ⟨(some 76), .mv, [.t 15], (some (75, false))⟩,
 ⟨(some 77), .load true 8, [.t 9], (some (75, false))⟩,
 ⟨(some 78), .load true 8, [.t 10], (some (75, false))⟩,
 ⟨(some 79), .call .pure false 30, [.t 76, .t 77, .t 78], (some (75, false))⟩,
 ⟨(some 80), .mv, [.t 14], (some (75, false))⟩,
 ⟨(some 81), .bin .neq, [.t 79, .t 80], (some (75, false))⟩,
 ⟨(some 82), .pick, [.t 75, .c (.bool true), .t 81], none⟩,
 ⟨(some 83), .mv, [.t 82], none⟩,
 ⟨(some 84), .mv, [.t 15], (some (83, false))⟩,
 ⟨(some 85), .load true 8, [.t 9], (some (83, false))⟩,
 ⟨(some 86), .load true 8, [.t 10], (some (83, false))⟩,
 ⟨(some 87), .call .pure false 13, [.t 84, .t 85, .t 86], (some (83, false))⟩,
 ⟨(some 88), .mv, [.t 14], (some (83, false))⟩,
 ⟨(some 89), .bin .neq, [.t 87, .t 88], (some (83, false))⟩,
 ⟨(some 90), .pick, [.t 83, .c (.bool true), .t 89], none⟩])
 (.cond (.t 90)
 ((.seq
 (.reg [⟨(some 6), .mv, [.c (.bool false)], none⟩])
 (.ret)))
 (.skip))))
 ((.seq
 (.reg [⟨(some 92), .mv, [.t 17], none⟩,
 ⟨(some 93), .load true 8, [.t 12], none⟩,
 ⟨(some 94), .call .pure false 29, [.t 92, .t 93], none⟩,
 ⟨(some 91), .mv, [.t 94], none⟩,
 ⟨(some 95), .ext 0, [.t 91], none⟩,
 ⟨(some 96), .ext 1, [.t 91], none⟩,
 ⟨(some 19), .mv, [.t 95], none⟩,
 ⟨(some 20), .mv, [.t 96], none⟩])
 ((.seq
 (.reg [⟨(some 97), .mv, [.t 17], none⟩,
 ⟨(some 98), .load true 8, [.t 9], none⟩,
 ⟨(some 99), .load true 8, [.t 11], none⟩,
 ⟨(some 100), .call .pure true 31, [.t 98, .t 99], none⟩,
 ⟨(some 101), .load true 8, [.t 10], none⟩,
 ⟨(some 102), .load true 8, [.t 11], none⟩,
 ⟨(some 103), .call .pure true 31, [.t 101, .t 102], none⟩,
 ⟨(some 104), .call .pure true 13, [.t 97, .t 100, .t 103], none⟩,
 ⟨(some 105), .mv, [.t 14], none⟩,
 ⟨(some 106), .bin .eql, [.t 104, .t 105], none⟩,
 ⟨(some 107), .mv, [.t 106], none⟩,
 ⟨(some 108), .mv, [.t 20], (some (107, true))⟩,
 ⟨(some 109), .bin .eql, [.t 108, .c (.int .i64 0)], (some (107, true))⟩,
 ⟨(some 110), .pick, [.t 107, .t 109, .c (.bool false)], none⟩,
 ⟨(some 111), .mv, [.t 110], none⟩,
 ⟨(some 112), .mv, [.t 19], (some (111, true))⟩,
 ⟨(some 113), .mv, [.t 15], (some (111, true))⟩,
 ⟨(some 114), .call .pure true 32, [.t 112, .t 113], (some (111, true))⟩,
 ⟨(some 115), .pick, [.t 111, .t 114, .c (.bool false)], none⟩,
 ⟨(some 116), .mv, [.t 115], none⟩,
 ⟨(some 117), .mv, [.t 7], (some (116, true))⟩,
 ⟨(some 118), .pick, [.t 116, .t 117, .c (.bool false)], none⟩,
 ⟨(some 6), .mv, [.t 118], none⟩])
 (.ret))))))))))))))))))))))))⟩
/-- eliminant/eliminantlaw05.OrderAdmissible -/
def f7 : AF := ⟨2, 118, [.t 4],
 (.seq
 (.reg [⟨(some 2), .box 1, [.t 0], none⟩,
 ⟨(some 3), .box 24, [.t 1], none⟩,
 ⟨(some 4), .mv, [.c (.bool false)], none⟩])
 ((.seq
 (.reg [⟨(some 15), .call .pure false 8, [], none⟩,
 ⟨(some 5), .mv, [.t 15], none⟩])
 ((.seq
 ((.seq
 (.reg [⟨(some 16), .mv, [.t 5], none⟩,
 ⟨(some 17), .un .not, [.t 16], none⟩])
 (.cond (.t 17)
 ((.seq
 (.reg [⟨(some 4), .mv, [.c (.bool false)], none⟩])
 (.ret)))
 (.skip))))
 ((.seq
 (.reg [⟨(some 7), .alloc (List.replicate 8 (.int .i64 0)), [], none⟩,
 ⟨(some 8), .alloc (List.replicate 8 (.int .i64 0)), [], none⟩,
 ⟨(some 9), .alloc (List.replicate 8 (.int .i64 0)), [], none⟩,
 ⟨(some 18), .load true 1, [.t 2], none⟩,
 ⟨(some 19), .call .pure true 9, [.t 18], none⟩,
 ⟨(some 20), .iaa 3 8, [.t 3, .c (.int .i64 0)], none⟩,
 ⟨(some 21), .load true 8, [.t 20], none⟩,
 ⟨(some 22), .call .pure true 15, [.t 21], none⟩,
 ⟨(some 23), .iaa 3 8, [.t 3, .c (.int .i64 1)], none⟩,
 ⟨(some 24), .load true 8, [.t 23], none⟩,
 ⟨(some 25), .call .pure true 15, [.t 24], none⟩,
 ⟨(some 26), .iaa 3 8, [.t 3, .c (.int .i64 2)], none⟩,
 ⟨(some 27), .load true 8, [.t 26], none⟩,
 ⟨(some 28), .call .pure true 15, [.t 27], none⟩,
 ⟨(some 6), .mv, [.t 19], none⟩,
 ⟨none, .store 8, [.t 7, .t 22], none⟩,
 ⟨none, .store 8, [.t 8, .t 25], none⟩,
 ⟨none, .store 8, [.t 9, .t 28], none⟩])
 ((.seq
 (.reg [⟨(some 29), .mv, [.t 6], none⟩,
 ⟨(some 30), .load true 8, [.t 7], none⟩,
 ⟨(some 31), .load true 8, [.t 8], none⟩,
 ⟨(some 32), .call .pure false 13, [.t 29, .t 30, .t 31], none⟩,
 ⟨(some 10), .mv, [.t 32], none⟩])
 ((.seq
 ((.seq
 (.reg [⟨(some 33), .mv, [.t 6], none⟩,
 ⟨(some 34), .call .pure false 24, [.t 33], none⟩,
 ⟨(some 35), .un .not, [.t 34], none⟩,
 ⟨(some 36), .mv, [.t 35], none⟩,
 ⟨(some 37), .mv, [.t 10], (some (36, false))⟩,
 ⟨(some 38), .mv, [.t 6], (some (36, false))⟩,
 ⟨(some 39), .load true 8, [.t 8], (some (36, false))⟩,
 ⟨(some 40), .load true 8, [.t 7], (some (36, false))⟩,
 ⟨(some 41), .call .pure false 13, [.t 38, .t 39, .t 40], (some (36, false))⟩,
 ⟨(some 42), .un .neg, [.t 41], (some (36, false))⟩,
 ⟨(some 43), .bin .neq, [.t 37, .t 42], (some (36, false))⟩,
 ⟨(some 44), .pick, [.t 36, .c (.bool true), .t 43], none⟩,
 ⟨(some 45), .mv, [.t 44], none⟩,
 ⟨(some 46), .mv, [.t 10], (some (45, false))⟩,
 ⟨(some 47), .bin .eql, [.t 46, .c (.int .i64 0)], (some (45, false))⟩,
 ⟨(some 48), .load true 8, [.t 7], (some (45, false))⟩,
 ⟨(some 49), .load true 8, [.t 8], (some (45, false))⟩,
 ⟨(some 50), .eqa false (some .i64) 8, [.t 48, .t 49], (some (45, false))⟩,
 ⟨(some 51), .eqb true, [.t 47, .t 50], (some (45, false))⟩,
 ⟨(some 52), .pick, [.t 45, .c (.bool true), .t 51], none⟩,
 ⟨(some 53), .mv, [.t 52], none⟩,
 ⟨(some 54), .mv, [.t 6], (some (53, false))⟩,
 ⟨(some 55), .load true 8, [.t 7], (some (53, false))⟩,
 ⟨(some 56), .build (List.replicate 8 (.int .i64 0)) [], [], (some (53, false))⟩,
 ⟨(some 57), .call .pure false 13, [.t 54, .t 55, .t 56], (some (53, false))⟩,
 ⟨(some 58), .bin .lss, [.t 57, .c (.int .i64 0)], (some (53, false))⟩,
 ⟨(some 59), .pick, [.t 53, .c (.bool true), .t 58], none⟩,
 ⟨(some 60), .mv, [.t 59], none⟩,
 ⟨(some 61), .mv, [.t 10], (some (60, false))⟩,
 ⟨(some 62), .bin .lss, [.t 61, .c (.int .i64 (-1))], (some (60, false))⟩,
 ⟨(some 63), .pick, [.t 60, .c (.bool true), .t 62], none⟩,
 ⟨(some 64), .mv, [.t 63], none⟩,
 ⟨(some 65), .mv, [.t 10], (some (64, false))⟩,
 ⟨(some 66), .bin .gtr, [.t 65, .c (.int .i64 1)], (some (64, false))⟩,
 ⟨(some 67), .pick, [.t 64, .c (.bool true), .t 66], none⟩])
 (.cond (.t 67)
 ((.seq
 (.reg [⟨(some 4), .mv, [.c (.bool false)], none⟩])
 (.ret)))
 (.skip))))
 ((.seq
 (.reg [⟨(some 69), .load true 8, [.t 7], none⟩,
 ⟨(some 70), .load true 8, [.t 9], none⟩,
 ⟨(some 71), .call .pure false 33, [.t 69, .t 70], none⟩,
 ⟨(some 68), .mv, [.t 71], none⟩,
 ⟨(some 72), .ext 0, [.t 68], none⟩,
 ⟨(some 73), .ext 1, [.t 68], none⟩,
 ⟨(some 11), .alloc (List.replicate 8 (.int .i64 0)), [], none⟩,
 ⟨none, .store 8, [.t 11, .t 72], none⟩,
 ⟨(some 12), .mv, [.t 73], none⟩])
 ((.seq
 (.reg [⟨(some 75), .load true 8, [.t 8], none⟩,
 ⟨(some 76), .load true 8, [.t 9], none⟩,
 ⟨(some 77), .call .pure false 33, [.t 75, .t 76], none⟩,
 ⟨(some 74), .mv, [.t 77], none⟩,
 ⟨(some 78), .ext 0, [.t 74], none⟩,
 ⟨(some 79), .ext 1, [.t 74], none⟩,
 ⟨(some 13), .alloc (List.replicate 8 (.int .i64 0)), [], none⟩,
 ⟨none, .store 8, [.t 13, .t 78], none⟩,
 ⟨(some 14), .mv, [.t 79], none⟩])
 ((.seq
 ((.seq
 (.reg [⟨(some 80), .mv, [.t 12], none⟩,
 ⟨(some 81), .bin .neq, [.t 80, .c (.int .i64 0)], none⟩,
 ⟨(some 82), .mv, [.t 81], none⟩,
 ⟨(some 83), .mv, [.t 14], (some (82, false))⟩,
 ⟨(some 84), .bin .neq, [.t 83, .c (.int .i64 0)], (some (82, false))⟩,
 ⟨(some 85), .pick, [.t 82, .c (.bool true), .t 84], none⟩,
 ⟨(some 86), .mv, [.t 85], none⟩,
 ⟨(some 87), .mv, [.t 6], (some (86, false))⟩,
 ⟨(some 88), .load true 8, [.t 11], (some (86, false))⟩,
 ⟨(some 89), .load true 8, [.t 13], (some (86, false))⟩,
 ⟨(some 90), .call .pure false 13, [.t 87, .t 88, .t 89], (some (86, false))⟩,
 ⟨(some 91), .mv, [.t 10], (some (86, false))⟩,
 ⟨(some 92), .bin .neq, [.t 90, .t 91], (some (86, false))⟩,
 ⟨(some 93), .pick, [.t 86, .c (.bool true), .t 92], none⟩])
 (.cond (.t 93)
 ((.seq
 (.reg [⟨(some 4), .mv, [.c (.bool false)], none⟩])
 (.ret)))
 (.skip))))
 ((.seq
 ((.seq
 (.reg [⟨(some 94), .mv, [.t 10], none⟩,
 ⟨(some 95), .bin .geq, [.t 94, .c (.int .i64 0)], none⟩,
 ⟨(some 96), .mv, [.t 95], none⟩,
 ⟨(some 97), .mv, [.t 6], (some (96, true))⟩,
 ⟨(some 98), .load true 8, [.t 8], (some (96, true))⟩,
 ⟨(some 99), .load true 8, [.t 9], (some (96, true))⟩,
 ⟨(some 100), .call .pure false 13, [.t 97, .t 98, .t 99], (some (96, true))⟩,
 ⟨(some 101), .bin .geq, [.t 100, .c (.int .i64 0)], (some (96, true))⟩,
 ⟨(some 102), .pick, [.t 96, .t 101, .c (.bool false)], none⟩,
 ⟨(some 103), .mv, [.t 102], none⟩,
 ⟨(some 104), .mv, [.t 6], (some (103, true))⟩,
 ⟨(some 105), .load true 8, [.t 7], (some (103, true))⟩,
 ⟨(some 106), .load true 8, [.t 9], (some (103, true))⟩,
 ⟨(some 107), .call .pure false 13, [.t 104, .t 105, .t 106], (some (103, true))⟩,
 ⟨(some 108), .bin .lss, [.t 107, .c (.int .i64 0)], (some (103, true))⟩,
 ⟨(some 109), .pick, [.t 103, .t 108, .c (.bool false)], none⟩])
 (.cond (.t 109)
 ((.seq
 (.reg [⟨(some 4), .mv, [.c (.bool false)], none⟩])
 (.ret)))
 (.skip))))
 ((.seq
 (.reg [⟨(some 110), .mv, [.t 6], none⟩,
 ⟨(some 111), .load true 8, [.t 11], none⟩,
 ⟨(some 112), .load true 8, [.t 7], none⟩,
 ⟨(some 113), .call .pure false 13, [.t 110, .t 111, .t 112], none⟩,
 ⟨(some 114), .bin .geq, [.t 113, .c (.int .i64 0)], none⟩,
 ⟨(some 115), .mv, [.t 114], none⟩,
 ⟨(some 116), .mv, [.t 5], (some (115, true))⟩,
 ⟨(some 117), .pick, [.t 115, .t 116, .c (.bool false)], none⟩,
 ⟨(some 4), .mv, [.t 117], none⟩])
 (.ret))))))))))))))))))))))⟩
/-- eliminant/eliminantlaw05.examples -/
def f8 : AF := ⟨0, 118, [.t 0],
 (.seq
 (.reg [⟨(some 0), .mv, [.c (.bool false)], none⟩])
 ((.seq
 (.reg [⟨(some 12), .call .pure false 34, [.c (.int .i64 1), .c (.int .i64 5)], none⟩,
 ⟨(some 13), .call .pure false 34, [.c (.int .i64 0), .c (.int .i64 1)], none⟩,
 ⟨(some 1), .alloc (List.replicate 8 (.int .i64 0)), [], none⟩,
 ⟨(some 2), .alloc (List.replicate 8 (.int .i64 0)), [], none⟩,
 ⟨none, .store 8, [.t 1, .t 12], none⟩,
 ⟨none, .store 8, [.t 2, .t 13], none⟩])
 ((.seq
 (.reg [⟨(some 14), .build (List.replicate 8 (.int .i64 0)) [(0, 1), (1, 1), (2, 1)], [.c (.int .i64 1), .c (.int .i64 0), .c (.int .i64 1)], none⟩,
 ⟨(some 15), .call .pure false 34, [.c (.int .i64 1), .c (.int .i64 2)], none⟩,
 ⟨(some 3), .alloc (List.replicate 8 (.int .i64 0)), [], none⟩,
 ⟨(some 4), .alloc (List.replicate 8 (.int .i64 0)), [], none⟩,
 ⟨none, .store 8, [.t 3, .t 14], none⟩,
 ⟨none, .store 8, [.t 4, .t 15], none⟩])
 ((.seq
 (.reg [⟨(some 16), .build (List.replicate 8 (.int .i64 0)) [(0, 1), (1, 1), (2, 1), (3, 1), (4, 1), (5, 1), (6, 1), (7, 1)], [.c (.int .i64 1), .c (.int .i64 3), .c (.int .i64 0), .c (.int .i64 0), .c (.int .i64 0), .c (.int .i64 0), .c (.int .i64 0), .c (.int .i64 0)], none⟩,
 ⟨(some 17), .lit 8 (.agg (List.replicate 8 (.int .i64 0))) 1 [0], [.t 16], none⟩,
 ⟨(some 5), .mv, [.t 17], none⟩])
 ((.seq
 ((.seq
 (.reg [⟨(some 18), .call .pure true 19, [], none⟩,
 ⟨(some 19), .load true 8, [.t 2], none⟩,
 ⟨(some 20), .load true 8, [.t 1], none⟩,
 ⟨(some 21), .call .pure true 13, [.t 18, .t 19, .t 20], none⟩,
 ⟨(some 22), .bin .neq, [.t 21, .c (.int .i64 1)], none⟩,
 ⟨(some 23), .mv, [.t 22], none⟩,
 ⟨(some 24), .call .pure true 20, [], (some (23, false))⟩,
 ⟨(some 25), .load true 8, [.t 2], (some (23, false))⟩,
 ⟨(some 26), .load true 8, [.t 1], (some (23, false))⟩,
 ⟨(some 27), .call .pure true 13, [.t 24, .t 25, .t 26], (some (23, false))⟩,
 ⟨(some 28), .bin .neq, [.t 27, .c (.int .i64 (-1))], (some (23, false))⟩,
 ⟨(some 29), .pick, [.t 23, .c (.bool true), .t 28], none⟩,
 ⟨(some 30), .mv, [.t 29], none⟩,
 ⟨(some 31), .call .pure true 21, [], (some (30, false))⟩,
 ⟨(some 32), .load true 8, [.t 3], (some (30, false))⟩,
 ⟨(some 33), .load true 8, [.t 4], (some (30, false))⟩,
 ⟨(some 34), .call .pure true 13, [.t 31, .t 32, .t 33], (some (30, false))⟩,
 ⟨(some 35), .bin .neq, [.t 34, .c (.int .i64 (-1))], (some (30, false))⟩,
 ⟨(some 36), .pick, [.t 30, .c (.bool true), .t 35], none⟩,
 ⟨(some 37), .mv, [.t 36], none⟩,
 ⟨(some 38), .call .pure true 20, [], (some (37, false))⟩,
 ⟨(some 39), .load true 8, [.t 3], (some (37, false))⟩,
 ⟨(some 40), .load true 8, [.t 4], (some (37, false))⟩,
 ⟨(some 41), .call .pure true 13, [.t 38, .t 39, .t 40], (some (37, false))⟩,
 ⟨(some 42), .bin .neq, [.t 41, .c (.int .i64 1)], (some (37, false))⟩,
 ⟨(some 43), .pick, [.t 37, .c (.bool true), .t 42], none⟩,
 ⟨(some 44), .mv, [.t 43], none⟩,
 ⟨(some 45), .mv, [.t 5], (some (44, false))⟩,
 ⟨(some 46), .call .pure true 34, [.c (.int .i64 1), .c (.int .i64 1)], (some (44, false))⟩,
 ⟨(some 47), .call .pure true 34, [.c (.int .i64 0), .c (.int .i64 3)], (some (44, false))⟩,
 ⟨(some 48), .call .pure true 13, [.t 45, .t 46, .t 47], (some (44, false))⟩,
 ⟨(some 49), .bin .neq, [.t 48, .c (.int .i64 (-1))], (some (44, false))⟩,
 ⟨(some 50), .pick, [.t 44, .c (.bool true), .t 49], none⟩])
 (.cond (.t 50)
 ((.seq
 (.reg [⟨(some 0), .mv, [.c (.bool false)], none⟩])
 (.ret)))
 (.skip))))
 ((.seq
 (.reg [⟨(some 52), .call .pure false 19, [], none⟩,
 ⟨(some 53), .call .pure false 28, [.t 52], none⟩,
 ⟨(some 51), .mv, [.t 53], none⟩,
 ⟨(some 54), .ext 0, [.t 51], none⟩,
 ⟨(some 55), .ext 1, [.t 51], none⟩,
 ⟨(some 6), .mv, [.t 54], none⟩,
 ⟨(some 7), .mv, [.t 55], none⟩])
 ((.seq
 (.reg [⟨(some 57), .call .pure false 20, [], none⟩,
 ⟨(some 58), .call .pure false 28, [.t 57], none⟩,
 ⟨(some 56), .mv, [.t 58], none⟩,
 ⟨(some 59), .ext 0, [.t 56], none⟩,
 ⟨(some 60), .ext 1, [.t 56], none⟩,
 ⟨(some 8), .mv, [.t 59], none⟩,
 ⟨(some 9), .mv, [.t 60], none⟩])
 ((.seq
 (.reg [⟨(some 62), .call .pure false 21, [], none⟩,
 ⟨(some 63), .call .pure false 28, [.t 62], none⟩,
 ⟨(some 61), .mv, [.t 63], none⟩,
 ⟨(some 64), .ext 0, [.t 61], none⟩,
 ⟨(some 65), .ext 1, [.t 61], none⟩,
 ⟨(some 10), .mv, [.t 64], none⟩,
 ⟨(some 11), .mv, [.t 65], none⟩])
 ((.seq
 ((.seq
 (.reg [⟨(some 66), .call .pure true 21, [], none⟩,
 ⟨(some 67), .call .pure true 22, [.t 66, .c (.int .u8 1)], none⟩,
 ⟨(some 68), .mv, [.t 67], none⟩,
 ⟨(some 69), .call .pure true 23, [.c (.int .u8 2)], (some (68, false))⟩,
 ⟨(some 70), .call .pure true 22, [.t 69, .c (.int .u8 2)], (some (68, false))⟩,
 ⟨(some 71), .un .not, [.t 70], (some (68, false))⟩,
 ⟨(some 72), .pick, [.t 68, .c (.bool true), .t 71], none⟩,
 ⟨(some 73), .mv, [.t 72], none⟩,
 ⟨(some 74), .call .pure true 19, [], (some (73, false))⟩,
 ⟨(some 75), .load true 8, [.t 1], (some (73, false))⟩,
 ⟨(some 76), .load true 8, [.t 2], (some (73, false))⟩,
 ⟨(some 77), .load true 8, [.t 1], (some (73, false))⟩,
 ⟨(some 78), .lit 8 (.agg (List.replicate 8 (.int .i64 0))) 3 [0, 1, 2], [.t 75, .t 76, .t 77], (some (73, false))⟩,
 ⟨(some 79), .call .pure true 11, [.t 74, .t 78], (some (73, false))⟩,
 ⟨(some 80), .len, [.t 79], (some (73, false))⟩,
 ⟨(some 81), .bin .neq, [.t 80, .c (.int .i64 2)], (some (73, false))⟩,
 ⟨(some 82), .pick, [.t 73, .c (.bool true), .t 81], none⟩])
 (.cond (.t 82)
 ((.seq
 (.reg [⟨(some 0), .mv, [.c (.bool false)], none⟩])
 (.ret)))
 (.skip))))
 ((.seq
 (.reg [⟨(some 83), .mv, [.t 7], none⟩,
 ⟨(some 84), .bin .eql, [.t 83, .c (.int .i64 0)], none⟩,
 ⟨(some 85), .mv, [.t 84], none⟩,
 ⟨(some 86), .mv, [.t 9], (some (85, true))⟩,
 ⟨(some 87), .bin .eql, [.t 86, .c (.int .i64 0)], (some (85, true))⟩,
 ⟨(some 88), .pick, [.t 85, .t 87, .c (.bool false)], none⟩,
 ⟨(some 89), .mv, [.t 88], none⟩,
 ⟨(some 90), .mv, [.t 11], (some (89, true))⟩,
 ⟨(some 91), .bin .eql, [.t 90, .c (.int .i64 0)], (some (89, true))⟩,
 ⟨(some 92), .pick, [.t 89, .t 91, .c (.bool false)], none⟩,
 ⟨(some 93), .mv, [.t 92], none⟩,
 ⟨(some 94), .mv, [.t 6], (some (93, true))⟩,
 ⟨(some 95), .len, [.t 94], (some (93, true))⟩,
 ⟨(some 96), .bin .eql, [.t 95, .c (.int .i64 8)], (some (93, true))⟩,
 ⟨(some 97), .pick, [.t 93, .t 96, .c (.bool false)], none⟩,
 ⟨(some 98), .mv, [.t 97], none⟩,
 ⟨(some 99), .mv, [.t 8], (some (98, true))⟩,
 ⟨(some 100), .len, [.t 99], (some (98, true))⟩,
 ⟨(some 101), .bin .eql, [.t 100, .c (.int .i64 9)], (some (98, true))⟩,
 ⟨(some 102), .pick, [.t 98, .t 101, .c (.bool false)], none⟩,
 ⟨(some 103), .mv, [.t 102], none⟩,
 ⟨(some 104), .mv, [.t 10], (some (103, true))⟩,
 ⟨(some 105), .len, [.t 104], (some (103, true))⟩,
 ⟨(some 106), .bin .eql, [.t 105, .c (.int .i64 8)], (some (103, true))⟩,
 ⟨(some 107), .pick, [.t 103, .t 106, .c (.bool false)], none⟩,
 ⟨(some 108), .mv, [.t 107], none⟩,
 ⟨(some 109), .mv, [.t 5], (some (108, true))⟩,
 ⟨(some 110), .call .pure false 24, [.t 109], (some (108, true))⟩,
 ⟨(some 111), .pick, [.t 108, .t 110, .c (.bool false)], none⟩,
 ⟨(some 112), .mv, [.t 111], none⟩,
 ⟨(some 113), .build (List.replicate 8 (.int .i64 0)) [(0, 1)], [.c (.int .i64 (-1))], (some (112, true))⟩,
 ⟨(some 114), .lit 8 (.agg (List.replicate 8 (.int .i64 0))) 1 [0], [.t 113], (some (112, true))⟩,
 ⟨(some 115), .call .pure false 24, [.t 114], (some (112, true))⟩,
 ⟨(some 116), .un .not, [.t 115], (some (112, true))⟩,
 ⟨(some 117), .pick, [.t 112, .t 116, .c (.bool false)], none⟩,
 ⟨(some 0), .mv, [.t 117], none⟩])
 (.ret))))))))))))))))))))⟩
def f9_0m : List Bool := [false, true, false, true, true, true, true]
def f9_0 : AC :=
 (.seq
 ((.seq
 (.reg [⟨(some 24), .mv, [.t 6], none⟩,
 ⟨(some 25), .bin .lss, [.t 24, .c (.int .i64 8)], none⟩])
 (.cond (.t 25)
 (.skip)
 (.exit 2))))
 ((.seq
 (.block 3 (.reg [⟨(some 28), .mv, [.t 6], none⟩,
 ⟨(some 29), .faddr 0 1, [.t 1], none⟩,
 ⟨(some 30), .load false 1, [.t 29], none⟩,
 ⟨(some 31), .mv, [.t 4], none⟩,
 ⟨(some 32), .mv, [.t 6], none⟩,
 ⟨(some 33), .ias 8, [.t 30, .t 31], none⟩,
 ⟨(some 34), .iaa 8 1, [.t 33, .t 32], none⟩,
 ⟨(some 35), .load false 1, [.t 34], none⟩,
 ⟨(some 36), .conv .i64, [.t 35], none⟩,
 ⟨(some 37), .iaa 8 1, [.t 5, .t 28], none⟩,
 ⟨none, .store 1, [.t 37, .t 36], none⟩]))
 (.reg [⟨(some 26), .mv, [.t 6], none⟩,
 ⟨(some 27), .bin .add, [.t 26, .c (.int .i64 1)], none⟩,
 ⟨(some 6), .mv, [.t 27], none⟩]))))
def f9_1m : List Bool := [false, true, false, true, true]
def f9_1 : AC :=
 (.seq
 ((.seq
 (.reg [⟨(some 12), .mv, [.t 4], none⟩,
 ⟨(some 13), .faddr 0 1, [.t 1], none⟩,
 ⟨(some 14), .load false 1, [.t 13], none⟩,
 ⟨(some 15), .len, [.t 14], none⟩,
 ⟨(some 16), .bin .lss, [.t 12, .t 15], none⟩,
 ⟨(some 17), .mv, [.t 16], none⟩,
 ⟨(some 18), .mv, [.t 4], (some (17, true))⟩,
 ⟨(some 19), .bin .lss, [.t 18, .c (.int .i64 6)], (some (17, true))⟩,
 ⟨(some 20), .pick, [.t 17, .t 19, .c (.bool false)], none⟩])
 (.cond (.t 20)
 (.skip)
 (.exit 0))))
 ((.seq
 (.block 1 ((.seq
 (.reg [⟨(some 23), .build (List.replicate 8 (.int .i64 0)) [], [], none⟩,
 ⟨(some 5), .alloc (List.replicate 8 (.int .i64 0)), [], none⟩,
 ⟨none, .store 8, [.t 5, .t 23], none⟩])
 ((.seq
 ((.seq
 (.reg [⟨(some 6), .mv, [.c (.int .i64 0)], none⟩])
 (.block 2 (.loop f9_0m f9_0))))
 (.reg [⟨(some 38), .mv, [.t 3], none⟩,
 ⟨(some 39), .load true 8, [.t 5], none⟩,
 ⟨(some 40), .lit 8 (.agg (List.replicate 8 (.int .i64 0))) 1 [0], [.t 39], none⟩,
 ⟨(some 41), .app 8 64, [.t 38, .t 40], none⟩,
 ⟨(some 3), .mv, [.t 41], none⟩]))))))
 (.reg [⟨(some 21), .mv, [.t 4], none⟩,
 ⟨(some 22), .bin .add, [.t 21, .c (.int .i64 1)], none⟩,
 ⟨(some 4), .mv, [.t 22], none⟩]))))
def f9_2m : List Bool := [false, false, false, true, false, false, false, true, true, true]
def f9_2 : AC :=
 (.seq
 ((.seq
 (.reg [⟨(some 46), .mv, [.t 9], none⟩,
 ⟨(some 47), .mv, [.t 3], none⟩,
 ⟨(some 48), .len, [.t 47], none⟩,
 ⟨(some 49), .bin .lss, [.t 46, .t 48], none⟩])
 (.cond (.t 49)
 (.skip)
 (.exit 6))))
 ((.seq
 (.block 7 ((.seq
 (.reg [⟨(some 52), .mv, [.t 8], none⟩,
 ⟨(some 53), .bin .eql, [.t 52, .c (.int .i64 0)], none⟩])
 (.cond (.t 53)
 (.reg [⟨(some 54), .mv, [.t 3], none⟩,
 ⟨(some 55), .mv, [.t 9], none⟩,
 ⟨(some 56), .mv, [.t 7], none⟩,
 ⟨(some 57), .ias 8, [.t 54, .t 55], none⟩,
 ⟨(some 58), .iaa 8 1, [.t 57, .t 56], none⟩,
 ⟨(some 59), .load false 1, [.t 58], none⟩,
 ⟨(some 8), .mv, [.t 59], none⟩])
 (.skip)))))
 (.reg [⟨(some 50), .mv, [.t 9], none⟩,
 ⟨(some 51), .bin .add, [.t 50, .c (.int .i64 1)], none⟩,
 ⟨(some 9), .mv, [.t 51], none⟩]))))
def f9_3m : List Bool := [false, false, false, true, false, false, false, true, true, false, true]
def f9_3 : AC :=
 (.seq
 ((.seq
 (.reg [⟨(some 60), .mv, [.t 10], none⟩,
 ⟨(some 61), .mv, [.t 3], none⟩,
 ⟨(some 62), .len, [.t 61], none⟩,
 ⟨(some 63), .bin .lss, [.t 60, .t 62], none⟩,
 ⟨(some 64), .mv, [.t 63], none⟩,
 ⟨(some 65), .mv, [.t 8], (some (64, true))⟩,
 ⟨(some 66), .bin .lss, [.t 65, .c (.int .i64 0)], (some (64, true))⟩,
 ⟨(some 67), .pick, [.t 64, .t 66, .c (.bool false)], none⟩])
 (.cond (.t 67)
 (.skip)
 (.exit 8))))
 ((.seq
 (.block 9 (.reg [⟨(some 70), .mv, [.t 3], none⟩,
 ⟨(some 71), .mv, [.t 10], none⟩,
 ⟨(some 72), .mv, [.t 7], none⟩,
 ⟨(some 73), .mv, [.t 3], none⟩,
 ⟨(some 74), .mv, [.t 10], none⟩,
 ⟨(some 75), .mv, [.t 7], none⟩,
 ⟨(some 76), .ias 8, [.t 73, .t 74], none⟩,
 ⟨(some 77), .iaa 8 1, [.t 76, .t 75], none⟩,
 ⟨(some 78), .load false 1, [.t 77], none⟩,
 ⟨(some 79), .un .neg, [.t 78], none⟩,
 ⟨(some 80), .ias 8, [.t 70, .t 71], none⟩,
 ⟨(some 81), .iaa 8 1, [.t 80, .t 72], none⟩,
 ⟨none, .store 1, [.t 81, .t 79], none⟩]))
 (.reg [⟨(some 68), .mv, [.t 10], none⟩,
 ⟨(some 69), .bin .add, [.t 68, .c (.int .i64 1)], none⟩,
 ⟨(some 10), .mv, [.t 69], none⟩]))))
def f9_4m : List Bool := [false, false, false, true, false, false, false, true]
def f9_4 : AC :=
 (.seq
 ((.seq
 (.reg [⟨(some 42), .mv, [.t 7], none⟩,
 ⟨(some 43), .bin .lss, [.t 42, .c (.int .i64 8)], none⟩])
 (.cond (.t 43)
 (.skip)
 (.exit 4))))
 ((.seq
 (.block 5 ((.seq
 (.reg [⟨(some 8), .mv, [.c (.int .i64 0)], none⟩])
 ((.seq
 ((.seq
 (.reg [⟨(some 9), .mv, [.c (.int .i64 0)], none⟩])
 (.block 6 (.loop f9_2m f9_2))))
 ((.seq
 (.reg [⟨(some 10), .mv, [.c (.int .i64 0)], none⟩])
 (.block 8 (.loop f9_3m f9_3)))))))))
 (.reg [⟨(some 44), .mv, [.t 7], none⟩,
 ⟨(some 45), .bin .add, [.t 44, .c (.int .i64 1)], none⟩,
 ⟨(some 7), .mv, [.t 45], none⟩]))))
/-- eliminant/eliminantref05.Made -/
def f9 : AF := ⟨1, 83, [.t 2],
 (.seq
 (.reg [⟨(some 1), .box 1, [.t 0], none⟩,
 ⟨(some 2), .mv, [.c (.sl [] 8 true)], none⟩])
 ((.seq
 (.reg [⟨(some 11), .lit 8 (.agg (List.replicate 8 (.int .i64 0))) 0 [], [], none⟩,
 ⟨(some 3), .mv, [.t 11], none⟩])
 ((.seq
 ((.seq
 (.reg [⟨(some 4), .mv, [.c (.int .i64 0)], none⟩])
 (.block 0 (.loop f9_1m f9_1))))
 ((.seq
 ((.seq
 (.reg [⟨(some 7), .mv, [.c (.int .i64 0)], none⟩])
 (.block 4 (.loop f9_4m f9_4))))
 ((.seq
 (.reg [⟨(some 82), .mv, [.t 3], none⟩,
 ⟨(some 2), .mv, [.t 82], none⟩])
 (.ret))))))))))⟩
/-- eliminant/order.Sort -/
def f11 : AF := ⟨2, 13, [.t 4],
 (.seq
 (.reg [⟨(some 2), .box 1, [.t 0], none⟩,
 ⟨(some 4), .mv, [.c (.sl [] 8 true)], none⟩])
 ((.seq
 (.reg [⟨(some 6), .mv, [.t 1], none⟩,
 ⟨(some 7), .clone 8 64, [.t 6], none⟩,
 ⟨(some 5), .mv, [.t 7], none⟩])
 ((.seq
 (.reg [⟨(some 8), .mv, [.t 5], none⟩,
 ⟨(some 9), .mkfn 37, [.t 2], none⟩,
 ⟨(some 10), .call .sh false 36, [.t 8, .t 9], none⟩])
 ((.seq
 (.reg [⟨(some 11), .mv, [.t 5], none⟩,
 ⟨(some 12), .call .sh false 38, [.t 11], none⟩,
 ⟨(some 4), .mv, [.t 12], none⟩])
 (.ret))))))))⟩
def f13_0m : List Bool := [false, false, false, false, true, true, false, false, false, true, false, false, false, false, false, true, true, true, false, false, false, true, true]
def f13_0 : AC :=
 (.seq
 (.reg [⟨(some 23), .bin .lss, [.t 22, .c (.int .i64 8)], none⟩])
 ((.seq
 (.cond (.t 23)
 (.skip)
 (.exit 2))
 ((.seq
 (.block 3 ((.seq
 (.reg [⟨(some 24), .mv, [.t 22], none⟩,
 ⟨(some 25), .ixa false 8 1, [.t 21, .t 22], none⟩,
 ⟨(some 10), .mv, [.t 24], none⟩,
 ⟨(some 11), .mv, [.t 25], none⟩])
 (.reg [⟨(some 26), .mv, [.t 9], none⟩,
 ⟨(some 27), .mv, [.t 11], none⟩,
 ⟨(some 28), .mv, [.t 10], none⟩,
 ⟨(some 29), .iaa 8 1, [.t 4, .t 28], none⟩,
 ⟨(some 30), .load false 1, [.t 29], none⟩,
 ⟨(some 31), .mv, [.t 10], none⟩,
 ⟨(some 32), .iaa 8 1, [.t 5, .t 31], none⟩,
 ⟨(some 33), .load false 1, [.t 32], none⟩,
 ⟨(some 34), .bin .sub, [.t 30, .t 33], none⟩,
 ⟨(some 35), .bin .mul, [.t 27, .t 34], none⟩,
 ⟨(some 36), .bin .add, [.t 26, .t 35], none⟩,
 ⟨(some 9), .mv, [.t 36], none⟩]))))
 (.reg [⟨(some 37), .bin .add, [.t 22, .c (.int .i64 1)], none⟩,
 ⟨(some 22), .mv, [.t 37], none⟩]))))))
def f13_1m : List Bool := [false, false, false, false, true, true, false, false, false, false, false, false, false, false, false, true, true, true]
def f13_1 : AC :=
 (.seq
 (.reg [⟨(some 18), .bin .lss, [.t 17, .t 16], none⟩])
 ((.seq
 (.cond (.t 18)
 (.skip)
 (.exit 0))
 ((.seq
 (.block 1 ((.seq
 (.reg [⟨(some 19), .ias 8, [.t 15, .t 17], none⟩,
 ⟨(some 20), .load true 8, [.t 19], none⟩,
 ⟨(some 8), .alloc (List.replicate 8 (.int .i64 0)), [], none⟩,
 ⟨none, .store 8, [.t 8, .t 20], none⟩])
 ((.seq
 (.reg [⟨(some 9), .mv, [.c (.int .i64 0)], none⟩])
 ((.seq
 ((.seq
 (.reg [⟨(some 21), .load true 8, [.t 8], none⟩,
 ⟨(some 22), .mv, [.c (.int .i64 0)], none⟩])
 (.block 2 (.loop f13_0m f13_0))))
 (.block 4 ((.seq
 (.reg [⟨(some 39), .mv, [.t 9], none⟩,
 ⟨(some 40), .bin .lss, [.t 39, .c (.int .i64 0)], none⟩,
 ⟨(some 38), .mv, [.t 40], none⟩])
 (.cond (.t 38)
 ((.seq
 (.reg [⟨(some 6), .mv, [.c (.int .i64 (-1))], none⟩])
 (.ret)))
 ((.seq
 (.reg [⟨(some 42), .mv, [.t 9], none⟩,
 ⟨(some 43), .bin .gtr, [.t 42, .c (.int .i64 0)], none⟩,
 ⟨(some 41), .mv, [.t 43], none⟩])
 (.cond (.t 41)
 ((.seq
 (.reg [⟨(some 6), .mv, [.c (.int .i64 1)], none⟩])
 (.ret)))
 (.skip)))))))))))))))
 (.reg [⟨(some 44), .bin .add, [.t 17, .c (.int .i64 1)], none⟩,
 ⟨(some 17), .mv, [.t 44], none⟩]))))))
/-- eliminant/order.Cmp -/
def f13 : AF := ⟨3, 48, [.t 6],
 (.seq
 (.reg [⟨(some 4), .box 8, [.t 1], none⟩,
 ⟨(some 5), .box 8, [.t 2], none⟩,
 ⟨(some 6), .mv, [.c (.int .i64 0)], none⟩])
 ((.seq
 ((.seq
 (.reg [⟨(some 12), .load true 8, [.t 4], none⟩,
 ⟨(some 13), .load true 8, [.t 5], none⟩,
 ⟨(some 14), .eqa false (some .i64) 8, [.t 12, .t 13], none⟩])
 (.cond (.t 14)
 ((.seq
 (.reg [⟨(some 6), .mv, [.c (.int .i64 0)], none⟩])
 (.ret)))
 (.skip))))
 ((.seq
 ((.seq
 (.reg [⟨(some 15), .mv, [.t 0], none⟩,
 ⟨(some 16), .len, [.t 15], none⟩,
 ⟨(some 17), .mv, [.c (.int .i64 0)], none⟩])
 (.block 0 (.loop f13_1m f13_1))))
 ((.seq
 (.reg [⟨(some 45), .load true 8, [.t 4], none⟩,
 ⟨(some 46), .load true 8, [.t 5], none⟩,
 ⟨(some 47), .call .pure false 17, [.t 45, .t 46], none⟩,
 ⟨(some 6), .mv, [.t 47], none⟩])
 (.ret))))))))⟩
def f15_0m : List Bool := [false, true, true, true, true]
def f15_0 : AC :=
 (.seq
 ((.seq
 (.reg [⟨(some 6), .mv, [.t 4], none⟩,
 ⟨(some 7), .bin .lss, [.t 6, .c (.int .i64 8)], none⟩])
 (.cond (.t 7)
 (.skip)
 (.exit 0))))
 ((.seq
 (.block 1 (.reg [⟨(some 10), .mv, [.t 4], none⟩,
 ⟨(some 11), .mv, [.t 4], none⟩,
 ⟨(some 12), .iaa 8 1, [.t 1, .t 11], none⟩,
 ⟨(some 13), .load false 1, [.t 12], none⟩,
 ⟨(some 14), .conv .i64, [.t 13], none⟩,
 ⟨(some 15), .bin .rem, [.t 14, .c (.int .i64 20000)], none⟩,
 ⟨(some 16), .iaa 8 1, [.t 3, .t 10], none⟩,
 ⟨none, .store 1, [.t 16, .t 15], none⟩]))
 (.reg [⟨(some 8), .mv, [.t 4], none⟩,
 ⟨(some 9), .bin .add, [.t 8, .c (.int .i64 1)], none⟩,
 ⟨(some 4), .mv, [.t 9], none⟩]))))
/-- eliminant/eliminantlaw05.mono -/
def f15 : AF := ⟨1, 18, [.c 2 true 8],
 (.seq
 (.reg [⟨(some 1), .box 8, [.t 0], none⟩,
 ⟨(some 2), .alloc (List.replicate 8 (.int .i64 0)), [], none⟩])
 ((.seq
 (.reg [⟨(some 5), .build (List.replicate 8 (.int .i64 0)) [], [], none⟩,
 ⟨(some 3), .alloc (List.replicate 8 (.int .i64 0)), [], none⟩,
 ⟨none, .store 8, [.t 3, .t 5], none⟩])
 ((.seq
 ((.seq
 (.reg [⟨(some 4), .mv, [.c (.int .i64 0)], none⟩])
 (.block 0 (.loop f15_0m f15_0))))
 ((.seq
 (.reg [⟨(some 17), .load true 8, [.t 3], none⟩,
 ⟨none, .store 8, [.t 2, .t 17], none⟩])
 (.ret))))))))⟩
def f16_0m : List Bool := [false, false, false, true, false, false, true, true]
def f16_0 : AC :=
 (.seq
 (.reg [⟨(some 8), .bin .lss, [.t 7, .c (.int .i64 8)], none⟩])
 ((.seq
 (.cond (.t 8)
 (.skip)
 (.exit 0))
 ((.seq
 (.block 1 ((.seq
 (.reg [⟨(some 9), .ixa false 8 1, [.t 6, .t 7], none⟩,
 ⟨(some 5), .mv, [.t 9], none⟩])
 (.reg [⟨(some 10), .mv, [.t 3], none⟩,
 ⟨(some 11), .mv, [.t 5], none⟩,
 ⟨(some 12), .bin .add, [.t 10, .t 11], none⟩,
 ⟨(some 3), .mv, [.t 12], none⟩]))))
 (.reg [⟨(some 13), .bin .add, [.t 7, .c (.int .i64 1)], none⟩,
 ⟨(some 7), .mv, [.t 13], none⟩]))))))
/-- eliminant/monomial.Degree -/
def f16 : AF := ⟨1, 15, [.t 2],
 (.seq
 (.reg [⟨(some 1), .box 8, [.t 0], none⟩,
 ⟨(some 2), .mv, [.c (.int .i64 0)], none⟩])
 ((.seq
 (.reg [⟨(some 3), .mv, [.c (.int .i64 0)], none⟩])
 ((.seq
 ((.seq
 (.reg [⟨(some 6), .load true 8, [.t 1], none⟩,
 ⟨(some 7), .mv, [.c (.int .i64 0)], none⟩])
 (.block 0 (.loop f16_0m f16_0))))
 ((.seq
 (.reg [⟨(some 14), .mv, [.t 3], none⟩,
 ⟨(some 2), .mv, [.t 14], none⟩])
 (.ret))))))))⟩
/-- eliminant/monomial.Cmp -/
def f17 : AF := ⟨2, 8, [.t 4],
 (.seq
 (.reg [⟨(some 2), .box 8, [.t 0], none⟩,
 ⟨(some 3), .box 8, [.t 1], none⟩,
 ⟨(some 4), .mv, [.c (.int .i64 0)], none⟩])
 ((.seq
 (.reg [⟨(some 5), .slca 8 1 false false false, [.t 2], none⟩,
 ⟨(some 6), .slca 8 1 false false false, [.t 3], none⟩,
 ⟨(some 7), .call .pure true 39, [.t 5, .t 6], none⟩,
 ⟨(some 4), .mv, [.t 7], none⟩])
 (.ret))))⟩
/-- eliminant/order.Lex -/
def f19 : AF := ⟨0, 2, [.t 0],
 (.seq
 (.reg [⟨(some 0), .mv, [.c (.sl [] 8 true)], none⟩])
 ((.seq
 (.reg [⟨(some 1), .lit 8 (.agg (List.replicate 8 (.int .i64 0))) 0 [], [], none⟩,
 ⟨(some 0), .mv, [.t 1], none⟩])
 (.ret))))⟩
/-- eliminant/order.Graded -/
def f20 : AF := ⟨0, 3, [.t 0],
 (.seq
 (.reg [⟨(some 0), .mv, [.c (.sl [] 8 true)], none⟩])
 ((.seq
 (.reg [⟨(some 1), .call .pure false 40, [.c (.int .u8 255)], none⟩,
 ⟨(some 2), .lit 8 (.agg (List.replicate 8 (.int .i64 0))) 1 [0], [.t 1], none⟩,
 ⟨(some 0), .mv, [.t 2], none⟩])
 (.ret))))⟩
def f21_0m : List Bool := [false, true, true]
def f21_0 : AC :=
 (.seq
 ((.seq
 (.reg [⟨(some 4), .mv, [.t 2], none⟩,
 ⟨(some 5), .bin .gtr, [.t 4, .c (.int .i64 0)], none⟩])
 (.cond (.t 5)
 (.skip)
 (.exit 0))))
 ((.seq
 (.block 1 (.reg [⟨(some 8), .mv, [.t 1], none⟩,
 ⟨(some 9), .mv, [.t 2], none⟩,
 ⟨(some 10), .call .pure false 41, [.t 9, .c (.int .i64 (-1))], none⟩,
 ⟨(some 11), .lit 8 (.agg (List.replicate 8 (.int .i64 0))) 1 [0], [.t 10], none⟩,
 ⟨(some 12), .app 8 64, [.t 8, .t 11], none⟩,
 ⟨(some 1), .mv, [.t 12], none⟩]))
 (.reg [⟨(some 6), .mv, [.t 2], none⟩,
 ⟨(some 7), .bin .sub, [.t 6, .c (.int .i64 1)], none⟩,
 ⟨(some 2), .mv, [.t 7], none⟩]))))
/-- eliminant/order.Reverse -/
def f21 : AF := ⟨0, 14, [.t 0],
 (.seq
 (.reg [⟨(some 0), .mv, [.c (.sl [] 8 true)], none⟩])
 ((.seq
 (.reg [⟨(some 3), .call (.own 0) false 20, [], none⟩,
 ⟨(some 1), .mv, [.t 3], none⟩])
 ((.seq
 ((.seq
 (.reg [⟨(some 2), .mv, [.c (.int .i64 7)], none⟩])
 (.block 0 (.loop f21_0m f21_0))))
 ((.seq
 (.reg [⟨(some 13), .mv, [.t 1], none⟩,
 ⟨(some 0), .mv, [.t 13], none⟩])
 (.ret))))))))⟩
def f22_0m : List Bool := [true, true, false, false, false, true, false, false, true, false, false, true]
def f22_0 : AC :=
 (.seq
 (.reg [⟨(some 12), .bin .lss, [.t 11, .c (.int .i64 8)], none⟩])
 ((.seq
 (.cond (.t 12)
 (.skip)
 (.exit 2))
 ((.seq
 (.block 3 ((.seq
 (.reg [⟨(some 13), .mv, [.t 11], none⟩,
 ⟨(some 6), .alloc [.int .i64 0], [], none⟩,
 ⟨none, .store 1, [.t 6, .t 13], none⟩])
 ((.seq
 ((.seq
 (.reg [⟨(some 14), .mv, [.t 1], none⟩,
 ⟨(some 15), .load false 1, [.t 5], none⟩,
 ⟨(some 16), .bin .shr, [.t 14, .t 15], none⟩,
 ⟨(some 17), .bin .and, [.t 16, .c (.int .u8 1)], none⟩,
 ⟨(some 18), .bin .eql, [.t 17, .c (.int .u8 0)], none⟩,
 ⟨(some 19), .mv, [.t 18], none⟩,
 ⟨(some 20), .mv, [.t 1], (some (19, false))⟩,
 ⟨(some 21), .load false 1, [.t 6], (some (19, false))⟩,
 ⟨(some 22), .bin .shr, [.t 20, .t 21], (some (19, false))⟩,
 ⟨(some 23), .bin .and, [.t 22, .c (.int .u8 1)], (some (19, false))⟩,
 ⟨(some 24), .bin .eql, [.t 23, .c (.int .u8 1)], (some (19, false))⟩,
 ⟨(some 25), .pick, [.t 19, .c (.bool true), .t 24], none⟩])
 (.cond (.t 25)
 (.exit 3)
 (.skip))))
 ((.seq
 (.reg [⟨(some 26), .mv, [.t 0], none⟩,
 ⟨(some 27), .mkfn 43, [.t 5, .t 6], none⟩,
 ⟨(some 28), .call .pure false 42, [.t 26, .t 27], none⟩,
 ⟨(some 7), .mv, [.t 28], none⟩])
 ((.seq
 (.reg [⟨(some 29), .mv, [.t 7], none⟩,
 ⟨(some 30), .bin .lss, [.t 29, .c (.int .i64 0)], none⟩,
 ⟨(some 31), .mv, [.t 30], none⟩,
 ⟨(some 32), .load false 1, [.t 5], (some (31, true))⟩,
 ⟨(some 33), .load false 1, [.t 6], (some (31, true))⟩,
 ⟨(some 34), .bin .gtr, [.t 32, .t 33], (some (31, true))⟩,
 ⟨(some 35), .pick, [.t 31, .t 34, .c (.bool false)], none⟩,
 ⟨(some 36), .mv, [.t 35], none⟩,
 ⟨(some 37), .mv, [.t 7], (some (36, false))⟩,
 ⟨(some 38), .bin .geq, [.t 37, .c (.int .i64 0)], (some (36, false))⟩,
 ⟨(some 39), .mv, [.t 38], (some (36, false))⟩,
 ⟨(some 40), .mv, [.t 0], (some (39, true))⟩,
 ⟨(some 41), .mv, [.t 7], (some (39, true))⟩,
 ⟨(some 42), .load false 1, [.t 6], (some (39, true))⟩,
 ⟨(some 43), .ias 8, [.t 40, .t 41], (some (39, true))⟩,
 ⟨(some 44), .iaa 8 1, [.t 43, .t 42], (some (39, true))⟩,
 ⟨(some 45), .load false 1, [.t 44], (some (39, true))⟩,
 ⟨(some 46), .bin .neq, [.t 45, .c (.int .i64 0)], (some (39, true))⟩,
 ⟨(some 47), .pick, [.t 39, .t 46, .c (.bool false)], (some (36, false))⟩,
 ⟨(some 48), .pick, [.t 36, .c (.bool true), .t 47], none⟩])
 (.cond (.t 48)
 ((.seq
 (.reg [⟨(some 4), .mv, [.c (.bool false)], none⟩])
 (.ret)))
 (.skip)))))))))))
 (.reg [⟨(some 49), .bin .add, [.t 11, .c (.int .i64 1)], none⟩,
 ⟨(some 11), .mv, [.t 49], none⟩]))))))
def f22_1m : List Bool := [true, true, false, false, false, false, false, false, true]
def f22_1 : AC :=
 (.seq
 (.reg [⟨(some 9), .bin .lss, [.t 8, .c (.int .i64 8)], none⟩])
 ((.seq
 (.cond (.t 9)
 (.skip)
 (.exit 0))
 ((.seq
 (.block 1 ((.seq
 (.reg [⟨(some 10), .mv, [.t 8], none⟩,
 ⟨(some 5), .alloc [.int .i64 0], [], none⟩,
 ⟨none, .store 1, [.t 5, .t 10], none⟩])
 ((.seq
 (.reg [⟨(some 11), .mv, [.c (.int .i64 0)], none⟩])
 (.block 2 (.loop f22_0m f22_0)))))))
 (.reg [⟨(some 50), .bin .add, [.t 8, .c (.int .i64 1)], none⟩,
 ⟨(some 8), .mv, [.t 50], none⟩]))))))
/-- eliminant/order.Eliminates -/
def f22 : AF := ⟨2, 51, [.t 4],
 (.seq
 (.reg [⟨(some 4), .mv, [.c (.bool false)], none⟩])
 ((.seq
 ((.seq
 (.reg [⟨(some 8), .mv, [.c (.int .i64 0)], none⟩])
 (.block 0 (.loop f22_1m f22_1))))
 ((.seq
 (.reg [⟨(some 4), .mv, [.c (.bool true)], none⟩])
 (.ret))))))⟩
/-- eliminant/order.Eliminating -/
def f23 : AF := ⟨1, 8, [.t 2],
 (.seq
 (.reg [⟨(some 2), .mv, [.c (.sl [] 8 true)], none⟩])
 ((.seq
 (.reg [⟨(some 3), .mv, [.t 0], none⟩,
 ⟨(some 4), .call .pure false 40, [.t 3], none⟩,
 ⟨(some 5), .lit 8 (.agg (List.replicate 8 (.int .i64 0))) 1 [0], [.t 4], none⟩,
 ⟨(some 6), .call .pure false 21, [], none⟩,
 ⟨(some 7), .app 8 64, [.t 5, .t 6], none⟩,
 ⟨(some 2), .mv, [.t 7], none⟩])
 (.ret))))⟩
def f24_0m : List Bool := [false, false, false, true, false, false, false, false, false, false, false, true, true, true, false, false, false, true, true]
def f24_0 : AC :=
 (.seq
 (.reg [⟨(some 19), .bin .lss, [.t 18, .c (.int .i64 8)], none⟩])
 ((.seq
 (.cond (.t 19)
 (.skip)
 (.exit 2))
 ((.seq
 (.block 3 ((.seq
 (.reg [⟨(some 20), .mv, [.t 18], none⟩,
 ⟨(some 21), .ixa false 8 1, [.t 17, .t 18], none⟩,
 ⟨(some 6), .mv, [.t 20], none⟩,
 ⟨(some 7), .mv, [.t 21], none⟩])
 ((.seq
 ((.seq
 (.reg [⟨(some 22), .mv, [.t 7], none⟩,
 ⟨(some 23), .bin .lss, [.t 22, .c (.int .i64 (-1000))], none⟩,
 ⟨(some 24), .mv, [.t 23], none⟩,
 ⟨(some 25), .mv, [.t 7], (some (24, false))⟩,
 ⟨(some 26), .bin .gtr, [.t 25, .c (.int .i64 1000)], (some (24, false))⟩,
 ⟨(some 27), .pick, [.t 24, .c (.bool true), .t 26], none⟩,
 ⟨(some 28), .mv, [.t 27], none⟩,
 ⟨(some 29), .mv, [.t 7], (some (28, false))⟩,
 ⟨(some 30), .bin .lss, [.t 29, .c (.int .i64 0)], (some (28, false))⟩,
 ⟨(some 31), .mv, [.t 30], (some (28, false))⟩,
 ⟨(some 32), .mv, [.t 6], (some (31, true))⟩,
 ⟨(some 33), .iaa 8 1, [.t 3, .t 32], (some (31, true))⟩,
 ⟨(some 34), .load false 1, [.t 33], (some (31, true))⟩,
 ⟨(some 35), .un .not, [.t 34], (some (31, true))⟩,
 ⟨(some 36), .pick, [.t 31, .t 35, .c (.bool false)], (some (28, false))⟩,
 ⟨(some 37), .pick, [.t 28, .c (.bool true), .t 36], none⟩])
 (.cond (.t 37)
 ((.seq
 (.reg [⟨(some 2), .mv, [.c (.bool false)], none⟩])
 (.ret)))
 (.skip))))
 (.reg [⟨(some 38), .mv, [.t 6], none⟩,
 ⟨(some 39), .mv, [.t 6], none⟩,
 ⟨(some 40), .iaa 8 1, [.t 3, .t 39], none⟩,
 ⟨(some 41), .load false 1, [.t 40], none⟩,
 ⟨(some 42), .mv, [.t 41], none⟩,
 ⟨(some 43), .mv, [.t 7], (some (42, false))⟩,
 ⟨(some 44), .bin .gtr, [.t 43, .c (.int .i64 0)], (some (42, false))⟩,
 ⟨(some 45), .pick, [.t 42, .c (.bool true), .t 44], none⟩,
 ⟨(some 46), .iaa 8 1, [.t 3, .t 38], none⟩,
 ⟨none, .store 1, [.t 46, .t 45], none⟩]))))))
 (.reg [⟨(some 47), .bin .add, [.t 18, .c (.int .i64 1)], none⟩,
 ⟨(some 18), .mv, [.t 47], none⟩]))))))
def f24_1m : List Bool := [false, false, false, true, false, false, false, false, false, false, false, true, true, true]
def f24_1 : AC :=
 (.seq
 (.reg [⟨(some 14), .bin .lss, [.t 13, .t 12], none⟩])
 ((.seq
 (.cond (.t 14)
 (.skip)
 (.exit 0))
 ((.seq
 (.block 1 ((.seq
 (.reg [⟨(some 15), .ias 8, [.t 11, .t 13], none⟩,
 ⟨(some 16), .load true 8, [.t 15], none⟩,
 ⟨(some 5), .alloc (List.replicate 8 (.int .i64 0)), [], none⟩,
 ⟨none, .store 8, [.t 5, .t 16], none⟩])
 ((.seq
 (.reg [⟨(some 17), .load true 8, [.t 5], none⟩,
 ⟨(some 18), .mv, [.c (.int .i64 0)], none⟩])
 (.block 2 (.loop f24_0m f24_0)))))))
 (.reg [⟨(some 48), .bin .add, [.t 13, .c (.int .i64 1)], none⟩,
 ⟨(some 13), .mv, [.t 48], none⟩]))))))
/-- eliminant/order.Valid -/
def f24 : AF := ⟨1, 49, [.t 2],
 (.seq
 (.reg [⟨(some 2), .mv, [.c (.bool false)], none⟩])
 ((.seq
 ((.seq
 (.reg [⟨(some 8), .mv, [.t 0], none⟩,
 ⟨(some 9), .len, [.t 8], none⟩,
 ⟨(some 10), .bin .gtr, [.t 9, .c (.int .i64 24)], none⟩])
 (.cond (.t 10)
 ((.seq
 (.reg [⟨(some 2), .mv, [.c (.bool false)], none⟩])
 (.ret)))
 (.skip))))
 ((.seq
 (.reg [⟨(some 3), .alloc (List.replicate 8 (.bool false)), [], none⟩])
 ((.seq
 ((.seq
 (.reg [⟨(some 11), .mv, [.t 0], none⟩,
 ⟨(some 12), .len, [.t 11], none⟩,
 ⟨(some 13), .mv, [.c (.int .i64 0)], none⟩])
 (.block 0 (.loop f24_1m f24_1))))
 ((.seq
 (.reg [⟨(some 2), .mv, [.c (.bool true)], none⟩])
 (.ret))))))))))⟩
def f27_0m : List Bool := [false, false, true, true, true, true, true]
def f27_0 : AC :=
 (.seq
 ((.seq
 (.reg [⟨(some 12), .mv, [.t 6], none⟩,
 ⟨(some 13), .bin .lss, [.t 12, .c (.int .i64 8)], none⟩])
 (.cond (.t 13)
 (.skip)
 (.exit 0))))
 ((.seq
 (.block 1 ((.seq
 (.reg [⟨(some 16), .mv, [.t 5], none⟩,
 ⟨(some 17), .mv, [.t 3], none⟩,
 ⟨(some 18), .len, [.t 17], none⟩,
 ⟨(some 19), .bin .rem, [.t 16, .t 18], none⟩,
 ⟨(some 7), .mv, [.t 19], none⟩])
 ((.seq
 (.reg [⟨(some 20), .mv, [.t 5], none⟩,
 ⟨(some 21), .mv, [.t 3], none⟩,
 ⟨(some 22), .len, [.t 21], none⟩,
 ⟨(some 23), .bin .quo, [.t 20, .t 22], none⟩,
 ⟨(some 5), .mv, [.t 23], none⟩])
 ((.seq
 (.reg [⟨(some 24), .mv, [.t 6], none⟩,
 ⟨(some 25), .mv, [.t 3], none⟩,
 ⟨(some 26), .mv, [.t 7], none⟩,
 ⟨(some 27), .ias 1, [.t 25, .t 26], none⟩,
 ⟨(some 28), .load false 1, [.t 27], none⟩,
 ⟨(some 29), .iaa 8 1, [.t 4, .t 24], none⟩,
 ⟨none, .store 1, [.t 29, .t 28], none⟩])
 (.reg [⟨(some 30), .lit 1 (.int .i64 0) 0 [], [], none⟩,
 ⟨(some 31), .mv, [.t 3], none⟩,
 ⟨(some 32), .mv, [.t 7], none⟩,
 ⟨(some 33), .slc 1 false true false, [.t 31, .t 32], none⟩,
 ⟨(some 34), .app 1 8, [.t 30, .t 33], none⟩,
 ⟨(some 35), .mv, [.t 3], none⟩,
 ⟨(some 36), .mv, [.t 7], none⟩,
 ⟨(some 37), .bin .add, [.t 36, .c (.int .i64 1)], none⟩,
 ⟨(some 38), .slc 1 true false false, [.t 35, .t 37], none⟩,
 ⟨(some 39), .app 1 8, [.t 34, .t 38], none⟩,
 ⟨(some 3), .mv, [.t 39], none⟩]))))))))
 (.reg [⟨(some 14), .mv, [.t 6], none⟩,
 ⟨(some 15), .bin .add, [.t 14, .c (.int .i64 1)], none⟩,
 ⟨(some 6), .mv, [.t 15], none⟩]))))
/-- eliminant/eliminantref05.Shuffle -/
def f27 : AF := ⟨1, 41, [.c 2 true 8],
 (.seq
 (.reg [⟨(some 2), .alloc (List.replicate 8 (.int .i64 0)), [], none⟩])
 ((.seq
 (.reg [⟨(some 8), .lit 1 (.int .i64 0) 8 [0, 1, 2, 3, 4, 5, 6, 7], [.c (.int .i64 0), .c (.int .i64 1), .c (.int .i64 2), .c (.int .i64 3), .c (.int .i64 4), .c (.int .i64 5), .c (.int .i64 6), .c (.int .i64 7)], none⟩,
 ⟨(some 9), .build (List.replicate 8 (.int .i64 0)) [], [], none⟩,
 ⟨(some 10), .mv, [.t 0], none⟩,
 ⟨(some 11), .conv .i64, [.t 10], none⟩,
 ⟨(some 4), .alloc (List.replicate 8 (.int .i64 0)), [], none⟩,
 ⟨(some 3), .mv, [.t 8], none⟩,
 ⟨none, .store 8, [.t 4, .t 9], none⟩,
 ⟨(some 5), .mv, [.t 11], none⟩])
 ((.seq
 ((.seq
 (.reg [⟨(some 6), .mv, [.c (.int .i64 0)], none⟩])
 (.block 0 (.loop f27_0m f27_0))))
 ((.seq
 (.reg [⟨(some 40), .load true 8, [.t 4], none⟩,
 ⟨none, .store 8, [.t 2, .t 40], none⟩])
 (.ret))))))))⟩
def f28_0m : List Bool := [false, false, false, false, true, false, false, false, false, false, false, false, false, false, true]
def f28_0 : AC :=
 (.seq
 (.reg [⟨(some 15), .bin .lss, [.t 14, .c (.int .i64 8)], none⟩])
 ((.seq
 (.cond (.t 15)
 (.skip)
 (.exit 0))
 ((.seq
 (.block 1 ((.seq
 (.reg [⟨(some 16), .mv, [.t 14], none⟩,
 ⟨(some 5), .mv, [.t 16], none⟩])
 (.reg [⟨(some 17), .mv, [.t 4], none⟩,
 ⟨(some 18), .mv, [.t 5], none⟩,
 ⟨(some 19), .call .pure false 41, [.t 18, .c (.int .i64 1)], none⟩,
 ⟨(some 20), .lit 8 (.agg (List.replicate 8 (.int .i64 0))) 1 [0], [.t 19], none⟩,
 ⟨(some 21), .app 8 64, [.t 17, .t 20], none⟩,
 ⟨(some 4), .mv, [.t 21], none⟩]))))
 (.reg [⟨(some 22), .bin .add, [.t 14, .c (.int .i64 1)], none⟩,
 ⟨(some 14), .mv, [.t 22], none⟩]))))))
/-- eliminant/order.Full -/
def f28 : AF := ⟨1, 27, [.t 2, .t 3],
 (.seq
 (.reg [⟨(some 2), .mv, [.c (.sl [] 8 true)], none⟩,
 ⟨(some 3), .mv, [.c (.int .i64 0)], none⟩])
 ((.seq
 ((.seq
 (.reg [⟨(some 6), .mv, [.t 0], none⟩,
 ⟨(some 7), .call .pure false 24, [.t 6], none⟩,
 ⟨(some 8), .un .not, [.t 7], none⟩])
 (.cond (.t 8)
 ((.seq
 (.reg [⟨(some 2), .mv, [.c (.sl [] 8 true)], none⟩,
 ⟨(some 3), .mv, [.c (.int .i64 50)], none⟩])
 (.ret)))
 (.skip))))
 ((.seq
 (.reg [⟨(some 9), .mv, [.t 0], none⟩,
 ⟨(some 10), .clone 8 64, [.t 9], none⟩,
 ⟨(some 4), .mv, [.t 10], none⟩])
 ((.seq
 ((.seq
 (.reg [⟨(some 11), .mv, [.t 0], none⟩,
 ⟨(some 12), .call .pure false 45, [.t 11], none⟩])
 (.cond (.t 12)
 ((.seq
 (.reg [⟨(some 13), .mv, [.t 4], none⟩,
 ⟨(some 2), .mv, [.t 13], none⟩,
 ⟨(some 3), .mv, [.c (.int .i64 0)], none⟩])
 (.ret)))
 (.skip))))
 ((.seq
 ((.seq
 (.reg [⟨(some 14), .mv, [.c (.int .i64 0)], none⟩])
 (.block 0 (.loop f28_0m f28_0))))
 ((.seq
 ((.seq
 (.reg [⟨(some 23), .mv, [.t 4], none⟩,
 ⟨(some 24), .len, [.t 23], none⟩,
 ⟨(some 25), .bin .gtr, [.t 24, .c (.int .i64 24)], none⟩])
 (.cond (.t 25)
 ((.seq
 (.reg [⟨(some 2), .mv, [.c (.sl [] 8 true)], none⟩,
 ⟨(some 3), .mv, [.c (.int .i64 2)], none⟩])
 (.ret)))
 (.skip))))
 ((.seq
 (.reg [⟨(some 26), .mv, [.t 4], none⟩,
 ⟨(some 2), .mv, [.t 26], none⟩,
 ⟨(some 3), .mv, [.c (.int .i64 0)], none⟩])
 (.ret))))))))))))))⟩
def f29_0m : List Bool := [true, false, false, true, false, false, true, false, false, false, false, false, false, false, false, false, false, false, true, true]
def f29_0 : AC :=
 (.seq
 (.reg [⟨(some 20), .bin .lss, [.t 19, .c (.int .i64 8)], none⟩])
 ((.seq
 (.cond (.t 20)
 (.skip)
 (.exit 0))
 ((.seq
 (.block 1 ((.seq
 (.reg [⟨(some 21), .ixa false 8 1, [.t 18, .t 19], none⟩,
 ⟨(some 8), .mv, [.t 21], none⟩])
 ((.seq
 ((.seq
 (.reg [⟨(some 22), .mv, [.t 8], none⟩,
 ⟨(some 23), .bin .lss, [.t 22, .c (.int .i64 0)], none⟩,
 ⟨(some 24), .mv, [.t 23], none⟩,
 ⟨(some 25), .mv, [.t 8], (some (24, false))⟩,
 ⟨(some 26), .bin .geq, [.t 25, .c (.int .i64 8)], (some (24, false))⟩,
 ⟨(some 27), .pick, [.t 24, .c (.bool true), .t 26], none⟩,
 ⟨(some 28), .mv, [.t 27], none⟩,
 ⟨(some 29), .mv, [.t 8], (some (28, false))⟩,
 ⟨(some 30), .iaa 8 1, [.t 6, .t 29], (some (28, false))⟩,
 ⟨(some 31), .load false 1, [.t 30], (some (28, false))⟩,
 ⟨(some 32), .pick, [.t 28, .c (.bool true), .t 31], none⟩])
 (.cond (.t 32)
 ((.seq
 (.reg [⟨(some 4), .mv, [.c (.sl [] 8 true)], none⟩,
 ⟨(some 5), .mv, [.c (.int .i64 1)], none⟩])
 (.ret)))
 (.skip))))
 (.reg [⟨(some 33), .mv, [.t 8], none⟩,
 ⟨(some 34), .iaa 8 1, [.t 6, .t 33], none⟩,
 ⟨none, .store 1, [.t 34, .c (.bool true)], none⟩]))))))
 (.reg [⟨(some 35), .bin .add, [.t 19, .c (.int .i64 1)], none⟩,
 ⟨(some 19), .mv, [.t 35], none⟩]))))))
def f29_1m : List Bool := [false, false, false, true, false, false, false, false, false, true, true, true, false, false, false, false, false, false, false, false, false, false, false, false, false, false, false, false, false, false, false, false, false, false, false, false, false, false, false, false, false, true, true, true, false, false, false, false, true, true]
def f29_1 : AC :=
 (.seq
 (.reg [⟨(some 50), .bin .lss, [.t 49, .c (.int .i64 8)], none⟩])
 ((.seq
 (.cond (.t 50)
 (.skip)
 (.exit 4))
 ((.seq
 (.block 5 ((.seq
 (.reg [⟨(some 51), .mv, [.t 49], none⟩,
 ⟨(some 52), .ixa false 8 1, [.t 48, .t 49], none⟩,
 ⟨(some 13), .mv, [.t 51], none⟩,
 ⟨(some 14), .mv, [.t 52], none⟩])
 (.reg [⟨(some 53), .mv, [.t 9], none⟩,
 ⟨(some 54), .mv, [.t 11], none⟩,
 ⟨(some 55), .mv, [.t 13], none⟩,
 ⟨(some 56), .iaa 8 1, [.t 3, .t 55], none⟩,
 ⟨(some 57), .load false 1, [.t 56], none⟩,
 ⟨(some 58), .mv, [.t 14], none⟩,
 ⟨(some 59), .ias 8, [.t 53, .t 54], none⟩,
 ⟨(some 60), .iaa 8 1, [.t 59, .t 57], none⟩,
 ⟨none, .store 1, [.t 60, .t 58], none⟩]))))
 (.reg [⟨(some 61), .bin .add, [.t 49, .c (.int .i64 1)], none⟩,
 ⟨(some 49), .mv, [.t 61], none⟩]))))))
def f29_2m : List Bool := [false, false, false, true, false, false, false, false, false, true, true, false, false, false, false, false, false, false, false, false, false, false, false, false, false, false, false, false, false, false, false, false, false, false, false, false, false, false, false, false, false, true, true, true]
def f29_2 : AC :=
 (.seq
 (.reg [⟨(some 44), .bin .lss, [.t 43, .t 42], none⟩])
 ((.seq
 (.cond (.t 44)
 (.skip)
 (.exit 2))
 ((.seq
 (.block 3 ((.seq
 (.reg [⟨(some 45), .mv, [.t 43], none⟩,
 ⟨(some 46), .ias 8, [.t 41, .t 43], none⟩,
 ⟨(some 47), .load true 8, [.t 46], none⟩,
 ⟨(some 12), .alloc (List.replicate 8 (.int .i64 0)), [], none⟩,
 ⟨(some 11), .mv, [.t 45], none⟩,
 ⟨none, .store 8, [.t 12, .t 47], none⟩])
 ((.seq
 (.reg [⟨(some 48), .load true 8, [.t 12], none⟩,
 ⟨(some 49), .mv, [.c (.int .i64 0)], none⟩])
 (.block 4 (.loop f29_1m f29_1)))))))
 (.reg [⟨(some 62), .bin .add, [.t 43, .c (.int .i64 1)], none⟩,
 ⟨(some 43), .mv, [.t 62], none⟩]))))))
/-- eliminant/order.Permute -/
def f29 : AF := ⟨2, 65, [.t 4, .t 5],
 (.seq
 (.reg [⟨(some 3), .box 8, [.t 1], none⟩,
 ⟨(some 4), .mv, [.c (.sl [] 8 true)], none⟩,
 ⟨(some 5), .mv, [.c (.int .i64 0)], none⟩])
 ((.seq
 ((.seq
 (.reg [⟨(some 15), .mv, [.t 0], none⟩,
 ⟨(some 16), .call .pure false 24, [.t 15], none⟩,
 ⟨(some 17), .un .not, [.t 16], none⟩])
 (.cond (.t 17)
 ((.seq
 (.reg [⟨(some 4), .mv, [.c (.sl [] 8 true)], none⟩,
 ⟨(some 5), .mv, [.c (.int .i64 50)], none⟩])
 (.ret)))
 (.skip))))
 ((.seq
 (.reg [⟨(some 6), .alloc (List.replicate 8 (.bool false)), [], none⟩])
 ((.seq
 ((.seq
 (.reg [⟨(some 18), .load true 8, [.t 3], none⟩,
 ⟨(some 19), .mv, [.c (.int .i64 0)], none⟩])
 (.block 0 (.loop f29_0m f29_0))))
 ((.seq
 (.reg [⟨(some 37), .mv, [.t 0], none⟩,
 ⟨(some 38), .call (.own 0) false 28, [.t 37], none⟩,
 ⟨(some 36), .mv, [.t 38], none⟩,
 ⟨(some 39), .ext 0, [.t 36], none⟩,
 ⟨(some 40), .ext 1, [.t 36], none⟩,
 ⟨(some 9), .mv, [.t 39], none⟩,
 ⟨(some 10), .mv, [.t 40], none⟩])
 ((.seq
 ((.seq
 (.reg [⟨(some 41), .mv, [.t 9], none⟩,
 ⟨(some 42), .len, [.t 41], none⟩,
 ⟨(some 43), .mv, [.c (.int .i64 0)], none⟩])
 (.block 2 (.loop f29_2m f29_2))))
 ((.seq
 (.reg [⟨(some 63), .mv, [.t 9], none⟩,
 ⟨(some 64), .mv, [.t 10], none⟩,
 ⟨(some 4), .mv, [.t 63], none⟩,
 ⟨(some 5), .mv, [.t 64], none⟩])
 (.ret))))))))))))))⟩
def f30_0m : List Bool := [true, false, false, false, true, true, false, true, true, true]
def f30_0 : AC :=
 (.seq
 ((.seq
 (.reg [⟨(some 16), .mv, [.t 9], none⟩,
 ⟨(some 17), .bin .lss, [.t 16, .c (.int .i64 8)], none⟩])
 (.cond (.t 17)
 (.skip)
 (.exit 2))))
 ((.seq
 (.block 3 (.reg [⟨(some 20), .mv, [.t 8], none⟩,
 ⟨(some 21), .mv, [.t 0], none⟩,
 ⟨(some 22), .mv, [.t 7], none⟩,
 ⟨(some 23), .mv, [.t 9], none⟩,
 ⟨(some 24), .ias 8, [.t 21, .t 22], none⟩,
 ⟨(some 25), .iaa 8 1, [.t 24, .t 23], none⟩,
 ⟨(some 26), .load false 1, [.t 25], none⟩,
 ⟨(some 27), .mv, [.t 9], none⟩,
 ⟨(some 28), .iaa 8 1, [.t 4, .t 27], none⟩,
 ⟨(some 29), .load false 1, [.t 28], none⟩,
 ⟨(some 30), .mv, [.t 9], none⟩,
 ⟨(some 31), .iaa 8 1, [.t 5, .t 30], none⟩,
 ⟨(some 32), .load false 1, [.t 31], none⟩,
 ⟨(some 33), .bin .sub, [.t 29, .t 32], none⟩,
 ⟨(some 34), .bin .mul, [.t 26, .t 33], none⟩,
 ⟨(some 35), .bin .add, [.t 20, .t 34], none⟩,
 ⟨(some 8), .mv, [.t 35], none⟩]))
 (.reg [⟨(some 18), .mv, [.t 9], none⟩,
 ⟨(some 19), .bin .add, [.t 18, .c (.int .i64 1)], none⟩,
 ⟨(some 9), .mv, [.t 19], none⟩]))))
def f30_1m : List Bool := [true, false, false, false, true, true, false, true]
def f30_1 : AC :=
 (.seq
 ((.seq
 (.reg [⟨(some 10), .mv, [.t 7], none⟩,
 ⟨(some 11), .mv, [.t 0], none⟩,
 ⟨(some 12), .len, [.t 11], none⟩,
 ⟨(some 13), .bin .lss, [.t 10, .t 12], none⟩])
 (.cond (.t 13)
 (.skip)
 (.exit 0))))
 ((.seq
 (.block 1 ((.seq
 (.reg [⟨(some 8), .mv, [.c (.int .i64 0)], none⟩])
 ((.seq
 ((.seq
 (.reg [⟨(some 9), .mv, [.c (.int .i64 0)], none⟩])
 (.block 2 (.loop f30_0m f30_0))))
 ((.seq
 ((.seq
 (.reg [⟨(some 36), .mv, [.t 8], none⟩,
 ⟨(some 37), .bin .lss, [.t 36, .c (.int .i64 0)], none⟩])
 (.cond (.t 37)
 ((.seq
 (.reg [⟨(some 6), .mv, [.c (.int .i64 (-1))], none⟩])
 (.ret)))
 (.skip))))
 ((.seq
 (.reg [⟨(some 38), .mv, [.t 8], none⟩,
 ⟨(some 39), .bin .gtr, [.t 38, .c (.int .i64 0)], none⟩])
 (.cond (.t 39)
 ((.seq
 (.reg [⟨(some 6), .mv, [.c (.int .i64 1)], none⟩])
 (.ret)))
 (.skip)))))))))))
 (.reg [⟨(some 14), .mv, [.t 7], none⟩,
 ⟨(some 15), .bin .add, [.t 14, .c (.int .i64 1)], none⟩,
 ⟨(some 7), .mv, [.t 15], none⟩]))))
/-- eliminant/eliminantlaw05.rows -/
def f30 : AF := ⟨3, 40, [.t 6],
 (.seq
 (.reg [⟨(some 4), .box 8, [.t 1], none⟩,
 ⟨(some 5), .box 8, [.t 2], none⟩,
 ⟨(some 6), .mv, [.c (.int .i64 0)], none⟩])
 ((.seq
 ((.seq
 (.reg [⟨(some 7), .mv, [.c (.int .i64 0)], none⟩])
 (.block 0 (.loop f30_1m f30_1))))
 ((.seq
 (.reg [⟨(some 6), .mv, [.c (.int .i64 0)], none⟩])
 (.ret))))))⟩
def f31_0m : List Bool := [false, false, true, true, true, true, true]
def f31_0 : AC :=
 (.seq
 ((.seq
 (.reg [⟨(some 8), .mv, [.t 6], none⟩,
 ⟨(some 9), .bin .lss, [.t 8, .c (.int .i64 8)], none⟩])
 (.cond (.t 9)
 (.skip)
 (.exit 0))))
 ((.seq
 (.block 1 (.reg [⟨(some 12), .mv, [.t 6], none⟩,
 ⟨(some 13), .iaa 8 1, [.t 3, .t 12], none⟩,
 ⟨(some 14), .load false 1, [.t 13], none⟩,
 ⟨(some 15), .mv, [.t 6], none⟩,
 ⟨(some 16), .iaa 8 1, [.t 2, .t 15], none⟩,
 ⟨(some 17), .load false 1, [.t 16], none⟩,
 ⟨(some 18), .iaa 8 1, [.t 5, .t 14], none⟩,
 ⟨none, .store 1, [.t 18, .t 17], none⟩]))
 (.reg [⟨(some 10), .mv, [.t 6], none⟩,
 ⟨(some 11), .bin .add, [.t 10, .c (.int .i64 1)], none⟩,
 ⟨(some 6), .mv, [.t 11], none⟩]))))
/-- eliminant/eliminantref05.Moved -/
def f31 : AF := ⟨2, 20, [.c 4 true 8],
 (.seq
 (.reg [⟨(some 2), .box 8, [.t 0], none⟩,
 ⟨(some 3), .box 8, [.t 1], none⟩,
 ⟨(some 4), .alloc (List.replicate 8 (.int .i64 0)), [], none⟩])
 ((.seq
 (.reg [⟨(some 7), .build (List.replicate 8 (.int .i64 0)) [], [], none⟩,
 ⟨(some 5), .alloc (List.replicate 8 (.int .i64 0)), [], none⟩,
 ⟨none, .store 8, [.t 5, .t 7], none⟩])
 ((.seq
 ((.seq
 (.reg [⟨(some 6), .mv, [.c (.int .i64 0)], none⟩])
 (.block 0 (.loop f31_0m f31_0))))
 ((.seq
 (.reg [⟨(some 19), .load true 8, [.t 5], none⟩,
 ⟨none, .store 8, [.t 4, .t 19], none⟩])
 (.ret))))))))⟩
def f32_0m : List Bool := [true, true, false, false, false, true]
def f32_0 : AC :=
 (.seq
 ((.seq
 (.reg [⟨(some 11), .mv, [.t 5], none⟩,
 ⟨(some 12), .mv, [.t 0], none⟩,
 ⟨(some 13), .len, [.t 12], none⟩,
 ⟨(some 14), .bin .lss, [.t 11, .t 13], none⟩])
 (.cond (.t 14)
 (.skip)
 (.exit 0))))
 ((.seq
 (.block 1 ((.seq
 (.reg [⟨(some 17), .mv, [.t 0], none⟩,
 ⟨(some 18), .mv, [.t 5], none⟩,
 ⟨(some 19), .ias 8, [.t 17, .t 18], none⟩,
 ⟨(some 20), .load true 8, [.t 19], none⟩,
 ⟨(some 21), .mv, [.t 1], none⟩,
 ⟨(some 22), .mv, [.t 5], none⟩,
 ⟨(some 23), .ias 8, [.t 21, .t 22], none⟩,
 ⟨(some 24), .load true 8, [.t 23], none⟩,
 ⟨(some 25), .eqa true (some .i64) 8, [.t 20, .t 24], none⟩])
 (.cond (.t 25)
 ((.seq
 (.reg [⟨(some 4), .mv, [.c (.bool false)], none⟩])
 (.ret)))
 (.skip)))))
 (.reg [⟨(some 15), .mv, [.t 5], none⟩,
 ⟨(some 16), .bin .add, [.t 15, .c (.int .i64 1)], none⟩,
 ⟨(some 5), .mv, [.t 16], none⟩]))))
/-- eliminant/eliminantref05.Same -/
def f32 : AF := ⟨2, 26, [.t 4],
 (.seq
 (.reg [⟨(some 4), .mv, [.c (.bool false)], none⟩])
 ((.seq
 ((.seq
 (.reg [⟨(some 6), .mv, [.t 0], none⟩,
 ⟨(some 7), .len, [.t 6], none⟩,
 ⟨(some 8), .mv, [.t 1], none⟩,
 ⟨(some 9), .len, [.t 8], none⟩,
 ⟨(some 10), .bin .neq, [.t 7, .t 9], none⟩])
 (.cond (.t 10)
 ((.seq
 (.reg [⟨(some 4), .mv, [.c (.bool false)], none⟩])
 (.ret)))
 (.skip))))
 ((.seq
 ((.seq
 (.reg [⟨(some 5), .mv, [.c (.int .i64 0)], none⟩])
 (.block 0 (.loop f32_0m f32_0))))
 ((.seq
 (.reg [⟨(some 4), .mv, [.c (.bool true)], none⟩])
 (.ret))))))))⟩
/-- eliminant/eliminantref05.Power -/
def f34 : AF := ⟨2, 11, [.c 4 true 8],
 (.seq
 (.reg [⟨(some 4), .alloc (List.replicate 8 (.int .i64 0)), [], none⟩])
 ((.seq
 (.reg [⟨(some 6), .build (List.replicate 8 (.int .i64 0)) [], [], none⟩,
 ⟨(some 5), .alloc (List.replicate 8 (.int .i64 0)), [], none⟩,
 ⟨none, .store 8, [.t 5, .t 6], none⟩])
 ((.seq
 (.reg [⟨(some 7), .mv, [.t 0], none⟩,
 ⟨(some 8), .mv, [.t 1], none⟩,
 ⟨(some 9), .iaa 8 1, [.t 5, .t 7], none⟩,
 ⟨none, .store 1, [.t 9, .t 8], none⟩])
 ((.seq
 (.reg [⟨(some 10), .load true 8, [.t 5], none⟩,
 ⟨none, .store 8, [.t 4, .t 10], none⟩])
 (.ret))))))))⟩
/-- slices.SortFunc[[]eliminant/api.Mono,eliminant/api.Mono] -/
def f36 : AF := ⟨2, 14, [],
 (.seq
 (.reg [⟨(some 5), .mv, [.t 0], none⟩,
 ⟨(some 6), .len, [.t 5], none⟩,
 ⟨(some 4), .mv, [.t 6], none⟩])
 (.reg [⟨(some 7), .mv, [.t 0], none⟩,
 ⟨(some 8), .mv, [.t 4], none⟩,
 ⟨(some 9), .mv, [.t 4], none⟩,
 ⟨(some 10), .conv .u64, [.t 9], none⟩,
 ⟨(some 11), .call .pure false 50, [.t 10], none⟩,
 ⟨(some 12), .mv, [.t 1], none⟩,
 ⟨(some 13), .call .sh false 49, [.t 7, .c (.int .i64 0), .t 8, .t 11, .t 12], none⟩]))⟩
/-- eliminant/order.Sort$1 -/
def f37 : AF := ⟨3, 10, [.t 5],
 (.seq
 (.reg [⟨(some 3), .box 8, [.t 0], none⟩,
 ⟨(some 4), .box 8, [.t 1], none⟩,
 ⟨(some 5), .mv, [.c (.int .i64 0)], none⟩])
 ((.seq
 (.reg [⟨(some 6), .load false 1, [.t 2], none⟩,
 ⟨(some 7), .load true 8, [.t 4], none⟩,
 ⟨(some 8), .load true 8, [.t 3], none⟩,
 ⟨(some 9), .call .pure false 13, [.t 6, .t 7, .t 8], none⟩,
 ⟨(some 5), .mv, [.t 9], none⟩])
 (.ret))))⟩
def f38_0m : List Bool := [true, false, false, true, true, true]
def f38_0 : AC :=
 (.seq
 ((.seq
 (.reg [⟨(some 29), .mv, [.t 5], none⟩,
 ⟨(some 30), .mv, [.t 4], none⟩,
 ⟨(some 31), .len, [.t 30], none⟩,
 ⟨(some 32), .bin .lss, [.t 29, .t 31], none⟩])
 (.cond (.t 32)
 (.skip)
 (.exit 2))))
 ((.seq
 (.block 3 ((.seq
 (.reg [⟨(some 35), .mv, [.t 4], none⟩,
 ⟨(some 36), .mv, [.t 5], none⟩,
 ⟨(some 37), .ias 8, [.t 35, .t 36], none⟩,
 ⟨(some 38), .load true 8, [.t 37], none⟩,
 ⟨(some 39), .mv, [.t 4], none⟩,
 ⟨(some 40), .mv, [.t 5], none⟩,
 ⟨(some 41), .bin .sub, [.t 40, .c (.int .i64 1)], none⟩,
 ⟨(some 42), .ias 8, [.t 39, .t 41], none⟩,
 ⟨(some 43), .load true 8, [.t 42], none⟩,
 ⟨(some 44), .eqa true (some .i64) 8, [.t 38, .t 43], none⟩])
 (.cond (.t 44)
 ((.seq
 (.reg [⟨(some 45), .mv, [.t 0], none⟩,
 ⟨(some 46), .mv, [.t 3], none⟩,
 ⟨(some 47), .mv, [.t 4], none⟩,
 ⟨(some 48), .mv, [.t 5], none⟩,
 ⟨(some 49), .ias 8, [.t 47, .t 48], none⟩,
 ⟨(some 50), .load true 8, [.t 49], none⟩,
 ⟨(some 51), .ias 8, [.t 45, .t 46], none⟩,
 ⟨none, .store 8, [.t 51, .t 50], none⟩])
 (.reg [⟨(some 52), .mv, [.t 3], none⟩,
 ⟨(some 53), .bin .add, [.t 52, .c (.int .i64 1)], none⟩,
 ⟨(some 3), .mv, [.t 53], none⟩])))
 (.skip)))))
 (.reg [⟨(some 33), .mv, [.t 5], none⟩,
 ⟨(some 34), .bin .add, [.t 33, .c (.int .i64 1)], none⟩,
 ⟨(some 5), .mv, [.t 34], none⟩]))))
def f38_1m : List Bool := [true, false, false, true]
def f38_1 : AC :=
 (.seq
 ((.seq
 (.reg [⟨(some 10), .mv, [.t 3], none⟩,
 ⟨(some 11), .mv, [.t 0], none⟩,
 ⟨(some 12), .len, [.t 11], none⟩,
 ⟨(some 13), .bin .lss, [.t 10, .t 12], none⟩])
 (.cond (.t 13)
 (.skip)
 (.exit 0))))
 ((.seq
 (.block 1 ((.seq
 (.reg [⟨(some 16), .mv, [.t 0], none⟩,
 ⟨(some 17), .mv, [.t 3], none⟩,
 ⟨(some 18), .ias 8, [.t 16, .t 17], none⟩,
 ⟨(some 19), .load true 8, [.t 18], none⟩,
 ⟨(some 20), .mv, [.t 0], none⟩,
 ⟨(some 21), .mv, [.t 3], none⟩,
 ⟨(some 22), .bin .sub, [.t 21, .c (.int .i64 1)], none⟩,
 ⟨(some 23), .ias 8, [.t 20, .t 22], none⟩,
 ⟨(some 24), .load true 8, [.t 23], none⟩,
 ⟨(some 25), .eqa false (some .i64) 8, [.t 19, .t 24], none⟩])
 (.cond (.t 25)
 ((.seq
 (.reg [⟨(some 26), .mv, [.t 0], none⟩,
 ⟨(some 27), .mv, [.t 3], none⟩,
 ⟨(some 28), .slc 8 true false false, [.t 26, .t 27], none⟩,
 ⟨(some 4), .mv, [.t 28], none⟩])
 ((.seq
 ((.seq
 (.reg [⟨(some 5), .mv, [.c (.int .i64 1)], none⟩])
 (.block 2 (.loop f38_0m f38_0))))
 ((.seq
 (.reg [⟨(some 54), .mv, [.t 0], none⟩,
 ⟨(some 55), .mv, [.t 3], none⟩,
 ⟨(some 56), .slc 8 true false false, [.t 54, .t 55], none⟩,
 ⟨none, .clr 8 (List.replicate 8 (.int .i64 0)), [.t 56], none⟩])
 ((.seq
 (.reg [⟨(some 57), .mv, [.t 0], none⟩,
 ⟨(some 58), .mv, [.t 3], none⟩,
 ⟨(some 59), .slc 8 false true false, [.t 57, .t 58], none⟩,
 ⟨(some 2), .mv, [.t 59], none⟩])
 (.ret)))))))))
 (.skip)))))
 (.reg [⟨(some 14), .mv, [.t 3], none⟩,
 ⟨(some 15), .bin .add, [.t 14, .c (.int .i64 1)], none⟩,
 ⟨(some 3), .mv, [.t 15], none⟩]))))
/-- slices.Compact[[]eliminant/api.Mono,eliminant/api.Mono] -/
def f38 : AF := ⟨1, 61, [.t 2],
 (.seq
 (.reg [⟨(some 2), .mv, [.c (.sl [] 8 true)], none⟩])
 ((.seq
 ((.seq
 (.reg [⟨(some 6), .mv, [.t 0], none⟩,
 ⟨(some 7), .len, [.t 6], none⟩,
 ⟨(some 8), .bin .lss, [.t 7, .c (.int .i64 2)], none⟩])
 (.cond (.t 8)
 ((.seq
 (.reg [⟨(some 9), .mv, [.t 0], none⟩,
 ⟨(some 2), .mv, [.t 9], none⟩])
 (.ret)))
 (.skip))))
 ((.seq
 ((.seq
 (.reg [⟨(some 3), .mv, [.c (.int .i64 1)], none⟩])
 (.block 0 (.loop f38_1m f38_1))))
 ((.seq
 (.reg [⟨(some 60), .mv, [.t 0], none⟩,
 ⟨(some 2), .mv, [.t 60], none⟩])
 (.ret))))))))⟩
def f39_0m : List Bool := [true, true, false, false, false, false, false, false, false, true, true, true]
def f39_0 : AC :=
 (.seq
 (.reg [⟨(some 12), .bin .lss, [.t 11, .t 10], none⟩])
 ((.seq
 (.cond (.t 12)
 (.skip)
 (.exit 0))
 ((.seq
 (.block 1 ((.seq
 (.reg [⟨(some 13), .mv, [.t 11], none⟩,
 ⟨(some 14), .ias 1, [.t 9, .t 11], none⟩,
 ⟨(some 15), .load false 1, [.t 14], none⟩,
 ⟨(some 5), .mv, [.t 13], none⟩,
 ⟨(some 6), .mv, [.t 15], none⟩])
 ((.seq
 ((.seq
 (.reg [⟨(some 16), .mv, [.t 5], none⟩,
 ⟨(some 17), .mv, [.t 1], none⟩,
 ⟨(some 18), .len, [.t 17], none⟩,
 ⟨(some 19), .bin .geq, [.t 16, .t 18], none⟩])
 (.cond (.t 19)
 ((.seq
 (.reg [⟨(some 4), .mv, [.c (.int .i64 1)], none⟩])
 (.ret)))
 (.skip))))
 ((.seq
 (.reg [⟨(some 20), .mv, [.t 1], none⟩,
 ⟨(some 21), .mv, [.t 5], none⟩,
 ⟨(some 22), .ias 1, [.t 20, .t 21], none⟩,
 ⟨(some 23), .load false 1, [.t 22], none⟩,
 ⟨(some 7), .mv, [.t 23], none⟩])
 ((.seq
 (.reg [⟨(some 24), .mv, [.t 6], none⟩,
 ⟨(some 25), .mv, [.t 7], none⟩,
 ⟨(some 26), .call .pure false 51, [.t 24, .t 25], none⟩,
 ⟨(some 8), .mv, [.t 26], none⟩])
 ((.seq
 (.reg [⟨(some 27), .mv, [.t 8], none⟩,
 ⟨(some 28), .bin .neq, [.t 27, .c (.int .i64 0)], none⟩])
 (.cond (.t 28)
 ((.seq
 (.reg [⟨(some 29), .mv, [.t 8], none⟩,
 ⟨(some 4), .mv, [.t 29], none⟩])
 (.ret)))
 (.skip)))))))))))))
 (.reg [⟨(some 30), .bin .add, [.t 11, .c (.int .i64 1)], none⟩,
 ⟨(some 11), .mv, [.t 30], none⟩]))))))
/-- slices.Compare[[]int,int] -/
def f39 : AF := ⟨2, 36, [.t 4],
 (.seq
 (.reg [⟨(some 4), .mv, [.c (.int .i64 0)], none⟩])
 ((.seq
 ((.seq
 (.reg [⟨(some 9), .mv, [.t 0], none⟩,
 ⟨(some 10), .len, [.t 9], none⟩,
 ⟨(some 11), .mv, [.c (.int .i64 0)], none⟩])
 (.block 0 (.loop f39_0m f39_0))))
 ((.seq
 ((.seq
 (.reg [⟨(some 31), .mv, [.t 0], none⟩,
 ⟨(some 32), .len, [.t 31], none⟩,
 ⟨(some 33), .mv, [.t 1], none⟩,
 ⟨(some 34), .len, [.t 33], none⟩,
 ⟨(some 35), .bin .lss, [.t 32, .t 34], none⟩])
 (.cond (.t 35)
 ((.seq
 (.reg [⟨(some 4), .mv, [.c (.int .i64 (-1))], none⟩])
 (.ret)))
 (.skip))))
 ((.seq
 (.reg [⟨(some 4), .mv, [.c (.int .i64 0)], none⟩])
 (.ret))))))))⟩
def f40_0m : List Bool := [true, false, true, true, false, true]
def f40_0 : AC :=
 (.seq
 (.reg [⟨(some 6), .bin .lss, [.t 5, .c (.int .i64 8)], none⟩])
 ((.seq
 (.cond (.t 6)
 (.skip)
 (.exit 0))
 ((.seq
 (.block 1 ((.seq
 (.reg [⟨(some 7), .mv, [.t 5], none⟩,
 ⟨(some 4), .mv, [.t 7], none⟩])
 (.reg [⟨(some 8), .mv, [.t 4], none⟩,
 ⟨(some 9), .mv, [.t 0], none⟩,
 ⟨(some 10), .mv, [.t 4], none⟩,
 ⟨(some 11), .bin .shr, [.t 9, .t 10], none⟩,
 ⟨(some 12), .bin .and, [.t 11, .c (.int .u8 1)], none⟩,
 ⟨(some 13), .conv .i64, [.t 12], none⟩,
 ⟨(some 14), .iaa 8 1, [.t 3, .t 8], none⟩,
 ⟨none, .store 1, [.t 14, .t 13], none⟩]))))
 (.reg [⟨(some 15), .bin .add, [.t 5, .c (.int .i64 1)], none⟩,
 ⟨(some 5), .mv, [.t 15], none⟩]))))))
/-- eliminant/order.ones -/
def f40 : AF := ⟨1, 17, [.c 2 true 8],
 (.seq
 (.reg [⟨(some 2), .alloc (List.replicate 8 (.int .i64 0)), [], none⟩])
 ((.seq
 (.reg [⟨(some 3), .alloc (List.replicate 8 (.int .i64 0)), [], none⟩])
 ((.seq
 ((.seq
 (.reg [⟨(some 5), .mv, [.c (.int .i64 0)], none⟩])
 (.block 0 (.loop f40_0m f40_0))))
 ((.seq
 (.reg [⟨(some 16), .load true 8, [.t 3], none⟩,
 ⟨none, .store 8, [.t 2, .t 16], none⟩])
 (.ret))))))))⟩
/-- eliminant/order.unit -/
def f41 : AF := ⟨2, 10, [.c 4 true 8],
 (.seq
 (.reg [⟨(some 4), .alloc (List.replicate 8 (.int .i64 0)), [], none⟩])
 ((.seq
 (.reg [⟨(some 5), .alloc (List.replicate 8 (.int .i64 0)), [], none⟩])
 ((.seq
 (.reg [⟨(some 6), .mv, [.t 0], none⟩,
 ⟨(some 7), .mv, [.t 1], none⟩,
 ⟨(some 8), .iaa 8 1, [.t 5, .t 6], none⟩,
 ⟨none, .store 1, [.t 8, .t 7], none⟩])
 ((.seq
 (.reg [⟨(some 9), .load true 8, [.t 5], none⟩,
 ⟨none, .store 8, [.t 4, .t 9], none⟩])
 (.ret))))))))⟩
def f42_0m : List Bool := [true, true, false, false, false, false, false, true, true]
def f42_0 : AC :=
 (.seq
 (.reg [⟨(some 9), .bin .lss, [.t 8, .t 7], none⟩])
 ((.seq
 (.cond (.t 9)
 (.skip)
 (.exit 0))
 ((.seq
 (.block 1 ((.seq
 (.reg [⟨(some 10), .mv, [.t 8], none⟩,
 ⟨(some 5), .mv, [.t 10], none⟩])
 ((.seq
 (.reg [⟨(some 11), .mv, [.t 1], none⟩,
 ⟨(some 12), .mv, [.t 0], none⟩,
 ⟨(some 13), .mv, [.t 5], none⟩,
 ⟨(some 14), .ias 8, [.t 12, .t 13], none⟩,
 ⟨(some 15), .load true 8, [.t 14], none⟩,
 ⟨(some 16), .callv .pure false, [.t 11, .t 15], none⟩])
 (.cond (.t 16)
 ((.seq
 (.reg [⟨(some 17), .mv, [.t 5], none⟩,
 ⟨(some 4), .mv, [.t 17], none⟩])
 (.ret)))
 (.skip)))))))
 (.reg [⟨(some 18), .bin .add, [.t 8, .c (.int .i64 1)], none⟩,
 ⟨(some 8), .mv, [.t 18], none⟩]))))))
/-- slices.IndexFunc[eliminant/api.Order,[8]int] -/
def f42 : AF := ⟨2, 19, [.t 4],
 (.seq
 (.reg [⟨(some 4), .mv, [.c (.int .i64 0)], none⟩])
 ((.seq
 ((.seq
 (.reg [⟨(some 6), .mv, [.t 0], none⟩,
 ⟨(some 7), .len, [.t 6], none⟩,
 ⟨(some 8), .mv, [.c (.int .i64 0)], none⟩])
 (.block 0 (.loop f42_0m f42_0))))
 ((.seq
 (.reg [⟨(some 4), .mv, [.c (.int .i64 (-1))], none⟩])
 (.ret))))))⟩
/-- eliminant/order.Eliminates$1 -/
def f43 : AF := ⟨3, 15, [.t 4],
 (.seq
 (.reg [⟨(some 3), .box 8, [.t 0], none⟩,
 ⟨(some 4), .mv, [.c (.bool false)], none⟩])
 ((.seq
 (.reg [⟨(some 5), .load false 1, [.t 1], none⟩,
 ⟨(some 6), .iaa 8 1, [.t 3, .t 5], none⟩,
 ⟨(some 7), .load false 1, [.t 6], none⟩,
 ⟨(some 8), .bin .neq, [.t 7, .c (.int .i64 0)], none⟩,
 ⟨(some 9), .mv, [.t 8], none⟩,
 ⟨(some 10), .load false 1, [.t 2], (some (9, false))⟩,
 ⟨(some 11), .iaa 8 1, [.t 3, .t 10], (some (9, false))⟩,
 ⟨(some 12), .load false 1, [.t 11], (some (9, false))⟩,
 ⟨(some 13), .bin .neq, [.t 12, .c (.int .i64 0)], (some (9, false))⟩,
 ⟨(some 14), .pick, [.t 9, .c (.bool true), .t 13], none⟩,
 ⟨(some 4), .mv, [.t 14], none⟩])
 (.ret))))⟩
def f45_0m : List Bool := [false, false, false, true, false, false, true, false, false, false, false, false, false, false, false, false, false, true, true, true, false, false, false, true, true]
def f45_0 : AC :=
 (.seq
 (.reg [⟨(some 25), .bin .lss, [.t 24, .c (.int .i64 8)], none⟩])
 ((.seq
 (.cond (.t 25)
 (.skip)
 (.exit 2))
 ((.seq
 (.block 3 ((.seq
 (.reg [⟨(some 26), .ixa false 8 1, [.t 23, .t 24], none⟩,
 ⟨(some 8), .mv, [.t 26], none⟩])
 (.reg [⟨(some 27), .mv, [.t 6], none⟩,
 ⟨(some 28), .mv, [.t 8], none⟩,
 ⟨(some 29), .call .pure false 52, [.t 28], none⟩,
 ⟨(some 30), .lit 4 (.agg [.bool false, .sl [] 1 true, .bool false, .sl [] 1 true]) 1 [0], [.t 29], none⟩,
 ⟨(some 31), .app 4 64, [.t 27, .t 30], none⟩,
 ⟨(some 6), .mv, [.t 31], none⟩]))))
 (.reg [⟨(some 32), .bin .add, [.t 24, .c (.int .i64 1)], none⟩,
 ⟨(some 24), .mv, [.t 32], none⟩]))))))
def f45_1m : List Bool := [false, false, false, true, false, false, false, false, false, false, false, false, false, false, false, false, false, true, true, true]
def f45_1 : AC :=
 (.seq
 (.reg [⟨(some 20), .bin .lss, [.t 19, .t 18], none⟩])
 ((.seq
 (.cond (.t 20)
 (.skip)
 (.exit 0))
 ((.seq
 (.block 1 ((.seq
 (.reg [⟨(some 21), .ias 8, [.t 17, .t 19], none⟩,
 ⟨(some 22), .load true 8, [.t 21], none⟩,
 ⟨(some 5), .alloc (List.replicate 8 (.int .i64 0)), [], none⟩,
 ⟨none, .store 8, [.t 5, .t 22], none⟩])
 ((.seq
 (.reg [⟨(some 6), .mv, [.c (.sl [] 4 true)], none⟩])
 ((.seq
 ((.seq
 (.reg [⟨(some 23), .load true 8, [.t 5], none⟩,
 ⟨(some 24), .mv, [.c (.int .i64 0)], none⟩])
 (.block 2 (.loop f45_0m f45_0))))
 (.reg [⟨(some 33), .mv, [.t 3], none⟩,
 ⟨(some 34), .mv, [.t 6], none⟩,
 ⟨(some 35), .lit 1 (.sl [] 4 true) 1 [0], [.t 34], none⟩,
 ⟨(some 36), .app 1 24, [.t 33, .t 35], none⟩,
 ⟨(some 3), .mv, [.t 36], none⟩]))))))))
 (.reg [⟨(some 37), .bin .add, [.t 19, .c (.int .i64 1)], none⟩,
 ⟨(some 19), .mv, [.t 37], none⟩]))))))
def f45_2m : List Bool := [false, false, false, true, false, false, false, false, false, true, false, true, false, true, true, false, false, false, false, false, false, false, false, false, false, false, false, false, false, false, false, false, false, false, false, false, false, false, true, false, false, false, false, false, false, false, false, false, false, false, false, false, false, false, false, true, true, true, false, false, false, false, false, false, false, false, false, false, false, false, false, false, false, false, true, true]
def f45_2 : AC :=
 (.seq
 (.reg [⟨(some 76), .bin .lss, [.t 75, .t 74], none⟩])
 ((.seq
 (.cond (.t 76)
 (.skip)
 (.exit 8))
 ((.seq
 (.block 9 ((.seq
 (.reg [⟨(some 77), .mv, [.t 75], none⟩,
 ⟨(some 16), .mv, [.t 77], none⟩])
 (.reg [⟨(some 78), .mv, [.t 13], none⟩,
 ⟨(some 79), .mv, [.t 16], none⟩,
 ⟨(some 80), .mv, [.t 13], none⟩,
 ⟨(some 81), .mv, [.t 16], none⟩,
 ⟨(some 82), .ias 4, [.t 80, .t 81], none⟩,
 ⟨(some 83), .load true 4, [.t 82], none⟩,
 ⟨(some 84), .load true 4, [.t 14], none⟩,
 ⟨(some 85), .mv, [.t 11], none⟩,
 ⟨(some 86), .mv, [.t 16], none⟩,
 ⟨(some 87), .ias 4, [.t 85, .t 86], none⟩,
 ⟨(some 88), .load true 4, [.t 87], none⟩,
 ⟨(some 89), .call .pure true 59, [.t 84, .t 88], none⟩,
 ⟨(some 90), .call .pure true 58, [.t 83, .t 89], none⟩,
 ⟨(some 91), .ias 4, [.t 78, .t 79], none⟩,
 ⟨none, .store 4, [.t 91, .t 90], none⟩]))))
 (.reg [⟨(some 92), .bin .add, [.t 75, .c (.int .i64 1)], none⟩,
 ⟨(some 75), .mv, [.t 92], none⟩]))))))
def f45_3m : List Bool := [false, false, false, true, false, false, false, false, false, true, false, true, false, false, false, false, false, false, false, false, false, false, false, false, false, false, false, false, false, false, false, false, false, false, false, false, false, false, true, false, false, false, false, false, false, false, false, false, false, false, false, false, false, false, false, true, true, true]
def f45_3 : AC :=
 (.seq
 (.reg [⟨(some 58), .bin .lss, [.t 57, .t 56], none⟩])
 ((.seq
 (.cond (.t 58)
 (.skip)
 (.exit 6))
 ((.seq
 (.block 7 ((.seq
 (.reg [⟨(some 59), .ias 1, [.t 55, .t 57], none⟩,
 ⟨(some 60), .load false 1, [.t 59], none⟩,
 ⟨(some 13), .mv, [.t 60], none⟩])
 ((.seq
 (.reg [⟨(some 14), .alloc [.bool false, .sl [] 1 true, .bool false, .sl [] 1 true], [], none⟩,
 ⟨(some 62), .mv, [.t 13], none⟩,
 ⟨(some 63), .load false 1, [.t 9], none⟩,
 ⟨(some 64), .ias 4, [.t 62, .t 63], none⟩,
 ⟨(some 65), .load true 4, [.t 64], none⟩,
 ⟨(some 66), .mv, [.t 11], none⟩,
 ⟨(some 67), .load false 1, [.t 9], none⟩,
 ⟨(some 68), .ias 4, [.t 66, .t 67], none⟩,
 ⟨(some 69), .load true 4, [.t 68], none⟩,
 ⟨(some 70), .call .pure true 57, [.t 65, .t 69], none⟩,
 ⟨(some 61), .mv, [.t 70], none⟩,
 ⟨(some 71), .ext 0, [.t 61], none⟩,
 ⟨(some 72), .ext 1, [.t 61], none⟩,
 ⟨none, .store 4, [.t 14, .t 71], none⟩,
 ⟨(some 15), .mv, [.t 72], none⟩])
 ((.seq
 (.reg [⟨(some 73), .mv, [.t 13], none⟩,
 ⟨(some 74), .len, [.t 73], none⟩,
 ⟨(some 75), .mv, [.c (.int .i64 0)], none⟩])
 (.block 8 (.loop f45_2m f45_2)))))))))
 (.reg [⟨(some 93), .bin .add, [.t 57, .c (.int .i64 1)], none⟩,
 ⟨(some 57), .mv, [.t 93], none⟩]))))))
def f45_4m : List Bool := [false, false, false, true, false, false, false, false, false, false, false, false, false, false, false, false, false, false, false, false, false, false, false, false, false, false, false, false, false, false, false, false, false, false, false, false, false, false, true]
def f45_4 : AC :=
 (.seq
 (.reg [⟨(some 39), .bin .lss, [.t 38, .c (.int .i64 8)], none⟩])
 ((.seq
 (.cond (.t 39)
 (.skip)
 (.exit 4))
 ((.seq
 (.block 5 ((.seq
 (.reg [⟨(some 40), .mv, [.t 38], none⟩,
 ⟨(some 9), .alloc [.int .i64 0], [], none⟩,
 ⟨none, .store 1, [.t 9, .t 40], none⟩])
 ((.seq
 (.reg [⟨(some 41), .mv, [.t 3], none⟩,
 ⟨(some 42), .mkfn 54, [.t 9], none⟩,
 ⟨(some 43), .call .pure false 53, [.t 41, .t 42], none⟩,
 ⟨(some 10), .mv, [.t 43], none⟩])
 ((.seq
 ((.seq
 (.reg [⟨(some 44), .mv, [.t 10], none⟩,
 ⟨(some 45), .bin .lss, [.t 44, .c (.int .i64 0)], none⟩])
 (.cond (.t 45)
 ((.seq
 (.reg [⟨(some 2), .mv, [.c (.bool false)], none⟩])
 (.ret)))
 (.skip))))
 ((.seq
 (.reg [⟨(some 46), .mv, [.t 3], none⟩,
 ⟨(some 47), .mv, [.t 10], none⟩,
 ⟨(some 48), .ias 1, [.t 46, .t 47], none⟩,
 ⟨(some 49), .load false 1, [.t 48], none⟩,
 ⟨(some 11), .mv, [.t 49], none⟩])
 ((.seq
 (.reg [⟨(some 50), .mv, [.t 3], none⟩,
 ⟨(some 51), .mv, [.t 10], none⟩,
 ⟨(some 52), .mv, [.t 10], none⟩,
 ⟨(some 53), .bin .add, [.t 52, .c (.int .i64 1)], none⟩,
 ⟨(some 54), .call .sh false 56, [.t 50, .t 51, .t 53], none⟩,
 ⟨(some 3), .mv, [.t 54], none⟩])
 ((.seq
 (.reg [⟨(some 55), .mv, [.t 3], none⟩,
 ⟨(some 56), .len, [.t 55], none⟩,
 ⟨(some 57), .mv, [.c (.int .i64 0)], none⟩])
 (.block 6 (.loop f45_3m f45_3)))))))))))))))
 (.reg [⟨(some 94), .bin .add, [.t 38, .c (.int .i64 1)], none⟩,
 ⟨(some 38), .mv, [.t 94], none⟩]))))))
/-- eliminant/order.independent -/
def f45 : AF := ⟨1, 95, [.t 2],
 (.seq
 (.reg [⟨(some 2), .mv, [.c (.bool false)], none⟩])
 ((.seq
 (.reg [⟨(some 3), .mv, [.c (.sl [] 1 true)], none⟩])
 ((.seq
 ((.seq
 (.reg [⟨(some 17), .mv, [.t 0], none⟩,
 ⟨(some 18), .len, [.t 17], none⟩,
 ⟨(some 19), .mv, [.c (.int .i64 0)], none⟩])
 (.block 0 (.loop f45_1m f45_1))))
 ((.seq
 ((.seq
 (.reg [⟨(some 38), .mv, [.c (.int .i64 0)], none⟩])
 (.block 4 (.loop f45_4m f45_4))))
 ((.seq
 (.reg [⟨(some 2), .mv, [.c (.bool true)], none⟩])
 (.ret))))))))))⟩
def f49_0m : List Bool := [true, true, true, true, true, false, false, false, false, false, true, true]
def f49_0 : AC :=
 .block 1 ((.seq
 (.reg [⟨(some 21), .mv, [.t 2], none⟩,
 ⟨(some 22), .mv, [.t 1], none⟩,
 ⟨(some 23), .bin .sub, [.t 21, .t 22], none⟩,
 ⟨(some 12), .mv, [.t 23], none⟩])
 ((.seq
 ((.seq
 (.reg [⟨(some 24), .mv, [.t 12], none⟩,
 ⟨(some 25), .bin .leq, [.t 24, .c (.int .i64 12)], none⟩])
 (.cond (.t 25)
 ((.seq
 (.reg [⟨(some 26), .mv, [.t 0], none⟩,
 ⟨(some 27), .mv, [.t 1], none⟩,
 ⟨(some 28), .mv, [.t 2], none⟩,
 ⟨(some 29), .mv, [.t 4], none⟩,
 ⟨(some 30), .call .sh false 60, [.t 26, .t 27, .t 28, .t 29], none⟩])
 (.ret)))
 (.skip))))
 ((.seq
 ((.seq
 (.reg [⟨(some 31), .mv, [.t 3], none⟩,
 ⟨(some 32), .bin .eql, [.t 31, .c (.int .i64 0)], none⟩])
 (.cond (.t 32)
 ((.seq
 (.reg [⟨(some 33), .mv, [.t 0], none⟩,
 ⟨(some 34), .mv, [.t 1], none⟩,
 ⟨(some 35), .mv, [.t 2], none⟩,
 ⟨(some 36), .mv, [.t 4], none⟩,
 ⟨(some 37), .call .sh false 61, [.t 33, .t 34, .t 35, .t 36], none⟩])
 (.ret)))
 (.skip))))
 ((.seq
 ((.seq
 (.reg [⟨(some 38), .mv, [.t 10], none⟩,
 ⟨(some 39), .un .not, [.t 38], none⟩])
 (.cond (.t 39)
 ((.seq
 (.reg [⟨(some 40), .mv, [.t 0], none⟩,
 ⟨(some 41), .mv, [.t 1], none⟩,
 ⟨(some 42), .mv, [.t 2], none⟩,
 ⟨(some 43), .mv, [.t 4], none⟩,
 ⟨(some 44), .call .sh false 62, [.t 40, .t 41, .t 42, .t 43], none⟩])
 (.reg [⟨(some 45), .mv, [.t 3], none⟩,
 ⟨(some 46), .bin .sub, [.t 45, .c (.int .i64 1)], none⟩,
 ⟨(some 3), .mv, [.t 46], none⟩])))
 (.skip))))
 ((.seq
 (.reg [⟨(some 48), .mv, [.t 0], none⟩,
 ⟨(some 49), .mv, [.t 1], none⟩,
 ⟨(some 50), .mv, [.t 2], none⟩,
 ⟨(some 51), .mv, [.t 4], none⟩,
 ⟨(some 52), .call .sh false 63, [.t 48, .t 49, .t 50, .t 51], none⟩,
 ⟨(some 47), .mv, [.t 52], none⟩,
 ⟨(some 53), .ext 0, [.t 47], none⟩,
 ⟨(some 54), .ext 1, [.t 47], none⟩,
 ⟨(some 13), .mv, [.t 53], none⟩,
 ⟨(some 14), .mv, [.t 54], none⟩])
 ((.seq
 ((.seq
 (.reg [⟨(some 55), .mv, [.t 14], none⟩,
 ⟨(some 56), .bin .eql, [.t 55, .c (.int .i64 2)], none⟩])
 (.cond (.t 56)
 ((.seq
 (.reg [⟨(some 57), .mv, [.t 0], none⟩,
 ⟨(some 58), .mv, [.t 1], none⟩,
 ⟨(some 59), .mv, [.t 2], none⟩,
 ⟨(some 60), .mv, [.t 4], none⟩,
 ⟨(some 61), .call .sh false 64, [.t 57, .t 58, .t 59, .t 60], none⟩])
 ((.seq
 (.reg [⟨(some 62), .mv, [.t 2], none⟩,
 ⟨(some 63), .bin .sub, [.t 62, .c (.int .i64 1)], none⟩,
 ⟨(some 64), .mv, [.t 13], none⟩,
 ⟨(some 65), .mv, [.t 1], none⟩,
 ⟨(some 66), .bin .sub, [.t 64, .t 65], none⟩,
 ⟨(some 67), .bin .sub, [.t 63, .t 66], none⟩,
 ⟨(some 13), .mv, [.t 67], none⟩])
 (.reg [⟨(some 14), .mv, [.c (.int .i64 1)], none⟩])))))
 (.skip))))
 ((.seq
 ((.seq
 (.reg [⟨(some 68), .mv, [.t 10], none⟩,
 ⟨(some 69), .mv, [.t 68], none⟩,
 ⟨(some 70), .mv, [.t 11], (some (69, true))⟩,
 ⟨(some 71), .pick, [.t 69, .t 70, .c (.bool false)], none⟩,
 ⟨(some 72), .mv, [.t 71], none⟩,
 ⟨(some 73), .mv, [.t 14], (some (72, true))⟩,
 ⟨(some 74), .bin .eql, [.t 73, .c (.int .i64 1)], (some (72, true))⟩,
 ⟨(some 75), .pick, [.t 72, .t 74, .c (.bool false)], none⟩])
 (.cond (.t 75)
 ((.seq
 (.reg [⟨(some 76), .mv, [.t 0], none⟩,
 ⟨(some 77), .mv, [.t 1], none⟩,
 ⟨(some 78), .mv, [.t 2], none⟩,
 ⟨(some 79), .mv, [.t 4], none⟩,
 ⟨(some 80), .call .sh false 65, [.t 76, .t 77, .t 78, .t 79], none⟩])
 (.cond (.t 80)
 (.ret)
 (.skip))))
 (.skip))))
 ((.seq
 ((.seq
 (.reg [⟨(some 81), .mv, [.t 1], none⟩,
 ⟨(some 82), .bin .gtr, [.t 81, .c (.int .i64 0)], none⟩,
 ⟨(some 83), .mv, [.t 82], none⟩,
 ⟨(some 84), .mv, [.t 4], (some (83, true))⟩,
 ⟨(some 85), .mv, [.t 0], (some (83, true))⟩,
 ⟨(some 86), .mv, [.t 1], (some (83, true))⟩,
 ⟨(some 87), .bin .sub, [.t 86, .c (.int .i64 1)], (some (83, true))⟩,
 ⟨(some 88), .ias 8, [.t 85, .t 87], (some (83, true))⟩,
 ⟨(some 89), .load true 8, [.t 88], (some (83, true))⟩,
 ⟨(some 90), .mv, [.t 0], (some (83, true))⟩,
 ⟨(some 91), .mv, [.t 13], (some (83, true))⟩,
 ⟨(some 92), .ias 8, [.t 90, .t 91], (some (83, true))⟩,
 ⟨(some 93), .load true 8, [.t 92], (some (83, true))⟩,
 ⟨(some 94), .callv .pure true, [.t 84, .t 89, .t 93], (some (83, true))⟩,
 ⟨(some 95), .bin .lss, [.t 94, .c (.int .i64 0)], (some (83, true))⟩,
 ⟨(some 96), .un .not, [.t 95], (some (83, true))⟩,
 ⟨(some 97), .pick, [.t 83, .t 96, .c (.bool false)], none⟩])
 (.cond (.t 97)
 ((.seq
 (.reg [⟨(some 98), .mv, [.t 0], none⟩,
 ⟨(some 99), .mv, [.t 1], none⟩,
 ⟨(some 100), .mv, [.t 2], none⟩,
 ⟨(some 101), .mv, [.t 13], none⟩,
 ⟨(some 102), .mv, [.t 4], none⟩,
 ⟨(some 103), .call .sh false 66, [.t 98, .t 99, .t 100, .t 101, .t 102], none⟩,
 ⟨(some 15), .mv, [.t 103], none⟩])
 ((.seq
 (.reg [⟨(some 104), .mv, [.t 15], none⟩,
 ⟨(some 1), .mv, [.t 104], none⟩])
 (.exit 1)))))
 (.skip))))
 ((.seq
 (.reg [⟨(some 106), .mv, [.t 0], none⟩,
 ⟨(some 107), .mv, [.t 1], none⟩,
 ⟨(some 108), .mv, [.t 2], none⟩,
 ⟨(some 109), .mv, [.t 13], none⟩,
 ⟨(some 110), .mv, [.t 4], none⟩,
 ⟨(some 111), .call .sh false 67, [.t 106, .t 107, .t 108, .t 109, .t 110], none⟩,
 ⟨(some 105), .mv, [.t 111], none⟩,
 ⟨(some 112), .ext 0, [.t 105], none⟩,
 ⟨(some 113), .ext 1, [.t 105], none⟩,
 ⟨(some 16), .mv, [.t 112], none⟩,
 ⟨(some 17), .mv, [.t 113], none⟩])
 ((.seq
 (.reg [⟨(some 114), .mv, [.t 17], none⟩,
 ⟨(some 11), .mv, [.t 114], none⟩])
 ((.seq
 (.reg [⟨(some 115), .mv, [.t 16], none⟩,
 ⟨(some 116), .mv, [.t 1], none⟩,
 ⟨(some 117), .bin .sub, [.t 115, .t 116], none⟩,
 ⟨(some 118), .mv, [.t 2], none⟩,
 ⟨(some 119), .mv, [.t 16], none⟩,
 ⟨(some 120), .bin .sub, [.t 118, .t 119], none⟩,
 ⟨(some 18), .mv, [.t 117], none⟩,
 ⟨(some 19), .mv, [.t 120], none⟩])
 ((.seq
 (.reg [⟨(some 121), .mv, [.t 12], none⟩,
 ⟨(some 122), .bin .quo, [.t 121, .c (.int .i64 8)], none⟩,
 ⟨(some 20), .mv, [.t 122], none⟩])
 ((.seq
 (.reg [⟨(some 123), .mv, [.t 18], none⟩,
 ⟨(some 124), .mv, [.t 19], none⟩,
 ⟨(some 125), .bin .lss, [.t 123, .t 124], none⟩])
 (.cond (.t 125)
 ((.seq
 (.reg [⟨(some 126), .mv, [.t 18], none⟩,
 ⟨(some 127), .mv, [.t 20], none⟩,
 ⟨(some 128), .bin .geq, [.t 126, .t 127], none⟩,
 ⟨(some 10), .mv, [.t 128], none⟩])
 ((.seq
 (.reg [⟨(some 129), .mv, [.t 0], none⟩,
 ⟨(some 130), .mv, [.t 1], none⟩,
 ⟨(some 131), .mv, [.t 16], none⟩,
 ⟨(some 132), .mv, [.t 3], none⟩,
 ⟨(some 133), .mv, [.t 4], none⟩,
 ⟨(some 134), .call .sh false 49, [.t 129, .t 130, .t 131, .t 132, .t 133], none⟩])
 (.reg [⟨(some 135), .mv, [.t 16], none⟩,
 ⟨(some 136), .bin .add, [.t 135, .c (.int .i64 1)], none⟩,
 ⟨(some 1), .mv, [.t 136], none⟩])))))
 ((.seq
 (.reg [⟨(some 137), .mv, [.t 19], none⟩,
 ⟨(some 138), .mv, [.t 20], none⟩,
 ⟨(some 139), .bin .geq, [.t 137, .t 138], none⟩,
 ⟨(some 10), .mv, [.t 139], none⟩])
 ((.seq
 (.reg [⟨(some 140), .mv, [.t 0], none⟩,
 ⟨(some 141), .mv, [.t 16], none⟩,
 ⟨(some 142), .bin .add, [.t 141, .c (.int .i64 1)], none⟩,
 ⟨(some 143), .mv, [.t 2], none⟩,
 ⟨(some 144), .mv, [.t 3], none⟩,
 ⟨(some 145), .mv, [.t 4], none⟩,
 ⟨(some 146), .call .sh false 49, [.t 140, .t 142, .t 143, .t 144, .t 145], none⟩])
 (.reg [⟨(some 147), .mv, [.t 16], none⟩,
 ⟨(some 2), .mv, [.t 147], none⟩]))))))))))))))))))))))))))))))))
/-- slices.pdqsortCmpFunc[eliminant/api.Mono] -/
def f49 : AF := ⟨5, 148, [],
 (.seq
 (.reg [⟨(some 10), .mv, [.c (.bool true)], none⟩])
 ((.seq
 (.reg [⟨(some 11), .mv, [.c (.bool true)], none⟩])
 (.block 0 (.loop f49_0m f49_0)))))⟩
/-- math/bits.Len -/
def f50 : AF := ⟨1, 8, [.t 2],
 (.seq
 (.reg [⟨(some 2), .mv, [.c (.int .i64 0)], none⟩])
 ((.seq
 (.cond (.c (.bool false))
 ((.seq
 (.reg [⟨(some 3), .mv, [.t 0], none⟩,
 ⟨(some 4), .conv .u32, [.t 3], none⟩,
 ⟨(some 5), .call .pure false 68, [.t 4], none⟩,
 ⟨(some 2), .mv, [.t 5], none⟩])
 (.ret)))
 (.skip))
 ((.seq
 (.reg [⟨(some 6), .mv, [.t 0], none⟩,
 ⟨(some 7), .call .pure false 69, [.t 6], none⟩,
 ⟨(some 2), .mv, [.t 7], none⟩])
 (.ret))))))⟩
/-- cmp.Compare[int] -/
def f51 : AF := ⟨2, 20, [.t 4],
 (.seq
 (.reg [⟨(some 4), .mv, [.c (.int .i64 0)], none⟩])
 ((.seq
 (.reg [⟨(some 7), .mv, [.t 0], none⟩,
 ⟨(some 8), .call .pure false 70, [.t 7], none⟩,
 ⟨(some 5), .mv, [.t 8], none⟩])
 ((.seq
 (.reg [⟨(some 9), .mv, [.t 1], none⟩,
 ⟨(some 10), .call .pure false 70, [.t 9], none⟩,
 ⟨(some 6), .mv, [.t 10], none⟩])
 ((.seq
 ((.seq
 (.reg [⟨(some 11), .mv, [.t 5], none⟩])
 (.cond (.t 11)
 ((.seq
 ((.seq
 (.reg [⟨(some 12), .mv, [.t 6], none⟩])
 (.cond (.t 12)
 ((.seq
 (.reg [⟨(some 4), .mv, [.c (.int .i64 0)], none⟩])
 (.ret)))
 (.skip))))
 ((.seq
 (.reg [⟨(some 4), .mv, [.c (.int .i64 (-1))], none⟩])
 (.ret)))))
 (.skip))))
 ((.seq
 ((.seq
 (.reg [⟨(some 13), .mv, [.t 6], none⟩])
 (.cond (.t 13)
 ((.seq
 (.reg [⟨(some 4), .mv, [.c (.int .i64 1)], none⟩])
 (.ret)))
 (.skip))))
 ((.seq
 ((.seq
 (.reg [⟨(some 14), .mv, [.t 0], none⟩,
 ⟨(some 15), .mv, [.t 1], none⟩,
 ⟨(some 16), .bin .lss, [.t 14, .t 15], none⟩])
 (.cond (.t 16)
 ((.seq
 (.reg [⟨(some 4), .mv, [.c (.int .i64 (-1))], none⟩])
 (.ret)))
 (.skip))))
 ((.seq
 ((.seq
 (.reg [⟨(some 17), .mv, [.t 0], none⟩,
 ⟨(some 18), .mv, [.t 1], none⟩,
 ⟨(some 19), .bin .gtr, [.t 17, .t 18], none⟩])
 (.cond (.t 19)
 ((.seq
 (.reg [⟨(some 4), .mv, [.c (.int .i64 1)], none⟩])
 (.ret)))
 (.skip))))
 ((.seq
 (.reg [⟨(some 4), .mv, [.c (.int .i64 0)], none⟩])
 (.ret))))))))))))))))⟩
/-- eliminant/rational.Whole -/
def f52 : AF := ⟨1, 6, [.c 2 true 4],
 (.seq
 (.reg [⟨(some 2), .alloc [.bool false, .sl [] 1 true, .bool false, .sl [] 1 true], [], none⟩])
 ((.seq
 (.reg [⟨(some 3), .mv, [.t 0], none⟩,
 ⟨(some 4), .call .pure false 72, [.t 3], none⟩,
 ⟨(some 5), .call .pure false 71, [.t 4], none⟩,
 ⟨none, .store 4, [.t 2, .t 5], none⟩])
 (.ret))))⟩
def f53_0m : List Bool := [true, true, false, false, false, false, false, true, true]
def f53_0 : AC :=
 (.seq
 (.reg [⟨(some 9), .bin .lss, [.t 8, .t 7], none⟩])
 ((.seq
 (.cond (.t 9)
 (.skip)
 (.exit 0))
 ((.seq
 (.block 1 ((.seq
 (.reg [⟨(some 10), .mv, [.t 8], none⟩,
 ⟨(some 5), .mv, [.t 10], none⟩])
 ((.seq
 (.reg [⟨(some 11), .mv, [.t 1], none⟩,
 ⟨(some 12), .mv, [.t 0], none⟩,
 ⟨(some 13), .mv, [.t 5], none⟩,
 ⟨(some 14), .ias 1, [.t 12, .t 13], none⟩,
 ⟨(some 15), .load false 1, [.t 14], none⟩,
 ⟨(some 16), .callv .pure false, [.t 11, .t 15], none⟩])
 (.cond (.t 16)
 ((.seq
 (.reg [⟨(some 17), .mv, [.t 5], none⟩,
 ⟨(some 4), .mv, [.t 17], none⟩])
 (.ret)))
 (.skip)))))))
 (.reg [⟨(some 18), .bin .add, [.t 8, .c (.int .i64 1)], none⟩,
 ⟨(some 8), .mv, [.t 18], none⟩]))))))
/-- slices.IndexFunc[[][]eliminant/api.Rat,[]eliminant/api.Rat] -/
def f53 : AF := ⟨2, 19, [.t 4],
 (.seq
 (.reg [⟨(some 4), .mv, [.c (.int .i64 0)], none⟩])
 ((.seq
 ((.seq
 (.reg [⟨(some 6), .mv, [.t 0], none⟩,
 ⟨(some 7), .len, [.t 6], none⟩,
 ⟨(some 8), .mv, [.c (.int .i64 0)], none⟩])
 (.block 0 (.loop f53_0m f53_0))))
 ((.seq
 (.reg [⟨(some 4), .mv, [.c (.int .i64 (-1))], none⟩])
 (.ret))))))⟩
/-- eliminant/order.independent$1 -/
def f54 : AF := ⟨2, 10, [.t 3],
 (.seq
 (.reg [⟨(some 3), .mv, [.c (.bool false)], none⟩])
 ((.seq
 (.reg [⟨(some 4), .mv, [.t 0], none⟩,
 ⟨(some 5), .load false 1, [.t 1], none⟩,
 ⟨(some 6), .ias 4, [.t 4, .t 5], none⟩,
 ⟨(some 7), .load true 4, [.t 6], none⟩,
 ⟨(some 8), .call .pure false 55, [.t 7], none⟩,
 ⟨(some 9), .bin .neq, [.t 8, .c (.int .i64 0)], none⟩,
 ⟨(some 3), .mv, [.t 9], none⟩])
 (.ret))))⟩
/-- eliminant/rational.Sign -/
def f55 : AF := ⟨1, 6, [.t 2],
 (.seq
 (.reg [⟨(some 1), .box 4, [.t 0], none⟩,
 ⟨(some 2), .mv, [.c (.int .i64 0)], none⟩])
 ((.seq
 (.reg [⟨(some 3), .faddr 0 2, [.t 1], none⟩,
 ⟨(some 4), .load true 2, [.t 3], none⟩,
 ⟨(some 5), .call .pure false 73, [.t 4], none⟩,
 ⟨(some 2), .mv, [.t 5], none⟩])
 (.ret))))⟩
/-- slices.Delete[[][]eliminant/api.Rat,[]eliminant/api.Rat] -/
def f56 : AF := ⟨3, 33, [.t 6],
 (.seq
 (.reg [⟨(some 6), .mv, [.c (.sl [] 1 true)], none⟩])
 ((.seq
 (.reg [⟨(some 8), .mv, [.t 0], none⟩,
 ⟨(some 9), .mv, [.t 1], none⟩,
 ⟨(some 10), .mv, [.t 2], none⟩,
 ⟨(some 11), .mv, [.t 0], none⟩,
 ⟨(some 12), .len, [.t 11], none⟩,
 ⟨(some 13), .slc 1 true true true, [.t 8, .t 9, .t 10, .t 12], none⟩])
 ((.seq
 ((.seq
 (.reg [⟨(some 14), .mv, [.t 1], none⟩,
 ⟨(some 15), .mv, [.t 2], none⟩,
 ⟨(some 16), .bin .eql, [.t 14, .t 15], none⟩])
 (.cond (.t 16)
 ((.seq
 (.reg [⟨(some 17), .mv, [.t 0], none⟩,
 ⟨(some 6), .mv, [.t 17], none⟩])
 (.ret)))
 (.skip))))
 ((.seq
 (.reg [⟨(some 18), .mv, [.t 0], none⟩,
 ⟨(some 19), .len, [.t 18], none⟩,
 ⟨(some 7), .mv, [.t 19], none⟩])
 ((.seq
 (.reg [⟨(some 20), .mv, [.t 0], none⟩,
 ⟨(some 21), .mv, [.t 1], none⟩,
 ⟨(some 22), .slc 1 false true false, [.t 20, .t 21], none⟩,
 ⟨(some 23), .mv, [.t 0], none⟩,
 ⟨(some 24), .mv, [.t 2], none⟩,
 ⟨(some 25), .slc 1 true false false, [.t 23, .t 24], none⟩,
 ⟨(some 26), .app 1 24, [.t 22, .t 25], none⟩,
 ⟨(some 0), .mv, [.t 26], none⟩])
 ((.seq
 (.reg [⟨(some 27), .mv, [.t 0], none⟩,
 ⟨(some 28), .mv, [.t 0], none⟩,
 ⟨(some 29), .len, [.t 28], none⟩,
 ⟨(some 30), .mv, [.t 7], none⟩,
 ⟨(some 31), .slc 1 true true false, [.t 27, .t 29, .t 30], none⟩,
 ⟨none, .clr 1 [.sl [] 4 true], [.t 31], none⟩])
 ((.seq
 (.reg [⟨(some 32), .mv, [.t 0], none⟩,
 ⟨(some 6), .mv, [.t 32], none⟩])
 (.ret))))))))))))))⟩
/-- eliminant/rational.Div -/
def f57 : AF := ⟨2, 21, [.c 4 true 4, .t 5],
 (.seq
 (.reg [⟨(some 2), .box 4, [.t 0], none⟩,
 ⟨(some 3), .box 4, [.t 1], none⟩,
 ⟨(some 4), .alloc [.bool false, .sl [] 1 true, .bool false, .sl [] 1 true], [], none⟩,
 ⟨(some 5), .mv, [.c (.int .i64 0)], none⟩])
 ((.seq
 (.reg [⟨(some 6), .faddr 0 2, [.t 2], none⟩,
 ⟨(some 7), .load true 2, [.t 6], none⟩,
 ⟨(some 8), .faddr 2 2, [.t 3], none⟩,
 ⟨(some 9), .load true 2, [.t 8], none⟩,
 ⟨(some 10), .lit 2 (.agg [.bool false, .sl [] 1 true]) 2 [0, 1], [.t 7, .t 9], none⟩,
 ⟨(some 11), .call .pure true 75, [.t 10], none⟩,
 ⟨(some 12), .faddr 2 2, [.t 2], none⟩,
 ⟨(some 13), .load true 2, [.t 12], none⟩,
 ⟨(some 14), .faddr 0 2, [.t 3], none⟩,
 ⟨(some 15), .load true 2, [.t 14], none⟩,
 ⟨(some 16), .lit 2 (.agg [.bool false, .sl [] 1 true]) 2 [0, 1], [.t 13, .t 15], none⟩,
 ⟨(some 17), .call .pure true 75, [.t 16], none⟩,
 ⟨(some 18), .call .pure true 74, [.t 11, .t 17], none⟩,
 ⟨(some 19), .ext 0, [.t 18], none⟩,
 ⟨(some 20), .ext 1, [.t 18], none⟩,
 ⟨none, .store 4, [.t 4, .t 19], none⟩,
 ⟨(some 5), .mv, [.t 20], none⟩])
 (.ret))))⟩
/-- eliminant/rational.Sub -/
def f58 : AF := ⟨2, 25, [.c 4 true 4],
 (.seq
 (.reg [⟨(some 2), .box 4, [.t 0], none⟩,
 ⟨(some 3), .box 4, [.t 1], none⟩,
 ⟨(some 4), .alloc [.bool false, .sl [] 1 true, .bool false, .sl [] 1 true], [], none⟩])
 ((.seq
 (.reg [⟨(some 5), .faddr 0 2, [.t 2], none⟩,
 ⟨(some 6), .load true 2, [.t 5], none⟩,
 ⟨(some 7), .faddr 2 2, [.t 3], none⟩,
 ⟨(some 8), .load true 2, [.t 7], none⟩,
 ⟨(some 9), .lit 2 (.agg [.bool false, .sl [] 1 true]) 2 [0, 1], [.t 6, .t 8], none⟩,
 ⟨(some 10), .call .pure true 75, [.t 9], none⟩,
 ⟨(some 11), .faddr 0 2, [.t 3], none⟩,
 ⟨(some 12), .load true 2, [.t 11], none⟩,
 ⟨(some 13), .faddr 2 2, [.t 2], none⟩,
 ⟨(some 14), .load true 2, [.t 13], none⟩,
 ⟨(some 15), .lit 2 (.agg [.bool false, .sl [] 1 true]) 2 [0, 1], [.t 12, .t 14], none⟩,
 ⟨(some 16), .call .pure true 75, [.t 15], none⟩,
 ⟨(some 17), .call .pure true 77, [.t 10, .t 16], none⟩,
 ⟨(some 18), .faddr 2 2, [.t 2], none⟩,
 ⟨(some 19), .load true 2, [.t 18], none⟩,
 ⟨(some 20), .faddr 2 2, [.t 3], none⟩,
 ⟨(some 21), .load true 2, [.t 20], none⟩,
 ⟨(some 22), .lit 2 (.agg [.bool false, .sl [] 1 true]) 2 [0, 1], [.t 19, .t 21], none⟩,
 ⟨(some 23), .call .pure true 75, [.t 22], none⟩,
 ⟨(some 24), .call .pure true 76, [.t 17, .t 23], none⟩,
 ⟨none, .store 4, [.t 4, .t 24], none⟩])
 (.ret))))⟩
/-- eliminant/rational.Mul -/
def f59 : AF := ⟨2, 18, [.c 4 true 4],
 (.seq
 (.reg [⟨(some 2), .box 4, [.t 0], none⟩,
 ⟨(some 3), .box 4, [.t 1], none⟩,
 ⟨(some 4), .alloc [.bool false, .sl [] 1 true, .bool false, .sl [] 1 true], [], none⟩])
 ((.seq
 (.reg [⟨(some 5), .faddr 0 2, [.t 2], none⟩,
 ⟨(some 6), .load true 2, [.t 5], none⟩,
 ⟨(some 7), .faddr 0 2, [.t 3], none⟩,
 ⟨(some 8), .load true 2, [.t 7], none⟩,
 ⟨(some 9), .lit 2 (.agg [.bool false, .sl [] 1 true]) 2 [0, 1], [.t 6, .t 8], none⟩,
 ⟨(some 10), .call .pure true 75, [.t 9], none⟩,
 ⟨(some 11), .faddr 2 2, [.t 2], none⟩,
 ⟨(some 12), .load true 2, [.t 11], none⟩,
 ⟨(some 13), .faddr 2 2, [.t 3], none⟩,
 ⟨(some 14), .load true 2, [.t 13], none⟩,
 ⟨(some 15), .lit 2 (.agg [.bool false, .sl [] 1 true]) 2 [0, 1], [.t 12, .t 14], none⟩,
 ⟨(some 16), .call .pure true 75, [.t 15], none⟩,
 ⟨(some 17), .call .pure true 76, [.t 10, .t 16], none⟩,
 ⟨none, .store 4, [.t 4, .t 17], none⟩])
 (.ret))))⟩
def f60_0m : List Bool := [true, true, true, true, false, false, false, false, true, true]
def f60_0 : AC :=
 (.seq
 ((.seq
 (.reg [⟨(some 18), .mv, [.t 9], none⟩,
 ⟨(some 19), .mv, [.t 1], none⟩,
 ⟨(some 20), .bin .gtr, [.t 18, .t 19], none⟩,
 ⟨(some 21), .mv, [.t 20], none⟩,
 ⟨(some 22), .mv, [.t 3], (some (21, true))⟩,
 ⟨(some 23), .mv, [.t 0], (some (21, true))⟩,
 ⟨(some 24), .mv, [.t 9], (some (21, true))⟩,
 ⟨(some 25), .ias 8, [.t 23, .t 24], (some (21, true))⟩,
 ⟨(some 26), .load true 8, [.t 25], (some (21, true))⟩,
 ⟨(some 27), .mv, [.t 0], (some (21, true))⟩,
 ⟨(some 28), .mv, [.t 9], (some (21, true))⟩,
 ⟨(some 29), .bin .sub, [.t 28, .c (.int .i64 1)], (some (21, true))⟩,
 ⟨(some 30), .ias 8, [.t 27, .t 29], (some (21, true))⟩,
 ⟨(some 31), .load true 8, [.t 30], (some (21, true))⟩,
 ⟨(some 32), .callv .pure true, [.t 22, .t 26, .t 31], (some (21, true))⟩,
 ⟨(some 33), .bin .lss, [.t 32, .c (.int .i64 0)], (some (21, true))⟩,
 ⟨(some 34), .pick, [.t 21, .t 33, .c (.bool false)], none⟩])
 (.cond (.t 34)
 (.skip)
 (.exit 2))))
 ((.seq
 (.block 3 (.reg [⟨(some 37), .mv, [.t 0], none⟩,
 ⟨(some 38), .mv, [.t 9], none⟩,
 ⟨(some 39), .mv, [.t 0], none⟩,
 ⟨(some 40), .mv, [.t 9], none⟩,
 ⟨(some 41), .bin .sub, [.t 40, .c (.int .i64 1)], none⟩,
 ⟨(some 42), .mv, [.t 0], none⟩,
 ⟨(some 43), .mv, [.t 9], none⟩,
 ⟨(some 44), .bin .sub, [.t 43, .c (.int .i64 1)], none⟩,
 ⟨(some 45), .ias 8, [.t 42, .t 44], none⟩,
 ⟨(some 46), .load true 8, [.t 45], none⟩,
 ⟨(some 47), .mv, [.t 0], none⟩,
 ⟨(some 48), .mv, [.t 9], none⟩,
 ⟨(some 49), .ias 8, [.t 47, .t 48], none⟩,
 ⟨(some 50), .load true 8, [.t 49], none⟩,
 ⟨(some 51), .ias 8, [.t 37, .t 38], none⟩,
 ⟨none, .store 8, [.t 51, .t 46], none⟩,
 ⟨(some 52), .ias 8, [.t 39, .t 41], none⟩,
 ⟨none, .store 8, [.t 52, .t 50], none⟩]))
 (.reg [⟨(some 35), .mv, [.t 9], none⟩,
 ⟨(some 36), .bin .sub, [.t 35, .c (.int .i64 1)], none⟩,
 ⟨(some 9), .mv, [.t 36], none⟩]))))
def f60_1m : List Bool := [true, true, true, true, false, false, false, false, true]
def f60_1 : AC :=
 (.seq
 ((.seq
 (.reg [⟨(some 12), .mv, [.t 8], none⟩,
 ⟨(some 13), .mv, [.t 2], none⟩,
 ⟨(some 14), .bin .lss, [.t 12, .t 13], none⟩])
 (.cond (.t 14)
 (.skip)
 (.exit 0))))
 ((.seq
 (.block 1 ((.seq
 (.reg [⟨(some 17), .mv, [.t 8], none⟩,
 ⟨(some 9), .mv, [.t 17], none⟩])
 (.block 2 (.loop f60_0m f60_0)))))
 (.reg [⟨(some 15), .mv, [.t 8], none⟩,
 ⟨(some 16), .bin .add, [.t 15, .c (.int .i64 1)], none⟩,
 ⟨(some 8), .mv, [.t 16], none⟩]))))
/-- slices.insertionSortCmpFunc[eliminant/api.Mono] -/
def f60 : AF := ⟨4, 53, [],
 (.seq
 (.reg [⟨(some 10), .mv, [.t 1], none⟩,
 ⟨(some 11), .bin .add, [.t 10, .c (.int .i64 1)], none⟩,
 ⟨(some 8), .mv, [.t 11], none⟩])
 (.block 0 (.loop f60_1m f60_1)))⟩
def f61_0m : List Bool := [true, false, false, true, false, false, false, false, true, true, true, true]
def f61_0 : AC :=
 (.seq
 ((.seq
 (.reg [⟨(some 20), .mv, [.t 11], none⟩,
 ⟨(some 21), .bin .geq, [.t 20, .c (.int .i64 0)], none⟩])
 (.cond (.t 21)
 (.skip)
 (.exit 0))))
 ((.seq
 (.block 1 (.reg [⟨(some 24), .mv, [.t 0], none⟩,
 ⟨(some 25), .mv, [.t 11], none⟩,
 ⟨(some 26), .mv, [.t 10], none⟩,
 ⟨(some 27), .mv, [.t 8], none⟩,
 ⟨(some 28), .mv, [.t 3], none⟩,
 ⟨(some 29), .call .pure false 78, [.t 24, .t 25, .t 26, .t 27, .t 28], none⟩]))
 (.reg [⟨(some 22), .mv, [.t 11], none⟩,
 ⟨(some 23), .bin .sub, [.t 22, .c (.int .i64 1)], none⟩,
 ⟨(some 11), .mv, [.t 23], none⟩]))))
def f61_1m : List Bool := [true, false, false, true, false, false, false, false, true, true, false, false, true]
def f61_1 : AC :=
 (.seq
 ((.seq
 (.reg [⟨(some 32), .mv, [.t 12], none⟩,
 ⟨(some 33), .bin .geq, [.t 32, .c (.int .i64 0)], none⟩])
 (.cond (.t 33)
 (.skip)
 (.exit 2))))
 ((.seq
 (.block 3 ((.seq
 (.reg [⟨(some 36), .mv, [.t 0], none⟩,
 ⟨(some 37), .mv, [.t 8], none⟩,
 ⟨(some 38), .mv, [.t 0], none⟩,
 ⟨(some 39), .mv, [.t 8], none⟩,
 ⟨(some 40), .mv, [.t 12], none⟩,
 ⟨(some 41), .bin .add, [.t 39, .t 40], none⟩,
 ⟨(some 42), .mv, [.t 0], none⟩,
 ⟨(some 43), .mv, [.t 8], none⟩,
 ⟨(some 44), .mv, [.t 12], none⟩,
 ⟨(some 45), .bin .add, [.t 43, .t 44], none⟩,
 ⟨(some 46), .ias 8, [.t 42, .t 45], none⟩,
 ⟨(some 47), .load true 8, [.t 46], none⟩,
 ⟨(some 48), .mv, [.t 0], none⟩,
 ⟨(some 49), .mv, [.t 8], none⟩,
 ⟨(some 50), .ias 8, [.t 48, .t 49], none⟩,
 ⟨(some 51), .load true 8, [.t 50], none⟩,
 ⟨(some 52), .ias 8, [.t 36, .t 37], none⟩,
 ⟨none, .store 8, [.t 52, .t 47], none⟩,
 ⟨(some 53), .ias 8, [.t 38, .t 41], none⟩,
 ⟨none, .store 8, [.t 53, .t 51], none⟩])
 (.reg [⟨(some 54), .mv, [.t 0], none⟩,
 ⟨(some 55), .mv, [.t 9], none⟩,
 ⟨(some 56), .mv, [.t 12], none⟩,
 ⟨(some 57), .mv, [.t 8], none⟩,
 ⟨(some 58), .mv, [.t 3], none⟩,
 ⟨(some 59), .call .pure false 78, [.t 54, .t 55, .t 56, .t 57, .t 58], none⟩]))))
 (.reg [⟨(some 34), .mv, [.t 12], none⟩,
 ⟨(some 35), .bin .sub, [.t 34, .c (.int .i64 1)], none⟩,
 ⟨(some 12), .mv, [.t 35], none⟩]))))
/-- slices.heapSortCmpFunc[eliminant/api.Mono] -/
def f61 : AF := ⟨4, 60, [],
 (.seq
 (.reg [⟨(some 13), .mv, [.t 1], none⟩,
 ⟨(some 8), .mv, [.t 13], none⟩])
 ((.seq
 (.reg [⟨(some 9), .mv, [.c (.int .i64 0)], none⟩])
 ((.seq
 (.reg [⟨(some 14), .mv, [.t 2], none⟩,
 ⟨(some 15), .mv, [.t 1], none⟩,
 ⟨(some 16), .bin .sub, [.t 14, .t 15], none⟩,
 ⟨(some 10), .mv, [.t 16], none⟩])
 ((.seq
 ((.seq
 (.reg [⟨(some 17), .mv, [.t 10], none⟩,
 ⟨(some 18), .bin .sub, [.t 17, .c (.int .i64 1)], none⟩,
 ⟨(some 19), .bin .quo, [.t 18, .c (.int .i64 2)], none⟩,
 ⟨(some 11), .mv, [.t 19], none⟩])
 (.block 0 (.loop f61_0m f61_0))))
 ((.seq
 (.reg [⟨(some 30), .mv, [.t 10], none⟩,
 ⟨(some 31), .bin .sub, [.t 30, .c (.int .i64 1)], none⟩,
 ⟨(some 12), .mv, [.t 31], none⟩])
 (.block 2 (.loop f61_1m f61_1)))))))))))⟩
def f62_0m : List Bool := [true, true, false, false, false, false, false, false, true, true, true, true]
def f62_0 : AC :=
 (.seq
 ((.seq
 (.reg [⟨(some 28), .mv, [.t 11], none⟩,
 ⟨(some 29), .mv, [.t 1], none⟩,
 ⟨(some 30), .mv, [.t 8], none⟩,
 ⟨(some 31), .bin .quo, [.t 30, .c (.int .i64 4)], none⟩,
 ⟨(some 32), .bin .mul, [.t 31, .c (.int .i64 2)], none⟩,
 ⟨(some 33), .bin .add, [.t 29, .t 32], none⟩,
 ⟨(some 34), .bin .add, [.t 33, .c (.int .i64 1)], none⟩,
 ⟨(some 35), .bin .leq, [.t 28, .t 34], none⟩])
 (.cond (.t 35)
 (.skip)
 (.exit 0))))
 ((.seq
 (.block 1 ((.seq
 (.reg [⟨(some 38), .call .pure false 80, [.t 9], none⟩,
 ⟨(some 39), .mv, [.t 10], none⟩,
 ⟨(some 40), .bin .sub, [.t 39, .c (.int .u64 1)], none⟩,
 ⟨(some 41), .bin .and, [.t 38, .t 40], none⟩,
 ⟨(some 42), .conv .i64, [.t 41], none⟩,
 ⟨(some 12), .mv, [.t 42], none⟩])
 ((.seq
 ((.seq
 (.reg [⟨(some 43), .mv, [.t 12], none⟩,
 ⟨(some 44), .mv, [.t 8], none⟩,
 ⟨(some 45), .bin .geq, [.t 43, .t 44], none⟩])
 (.cond (.t 45)
 (.reg [⟨(some 46), .mv, [.t 12], none⟩,
 ⟨(some 47), .mv, [.t 8], none⟩,
 ⟨(some 48), .bin .sub, [.t 46, .t 47], none⟩,
 ⟨(some 12), .mv, [.t 48], none⟩])
 (.skip))))
 (.reg [⟨(some 49), .mv, [.t 0], none⟩,
 ⟨(some 50), .mv, [.t 11], none⟩,
 ⟨(some 51), .mv, [.t 0], none⟩,
 ⟨(some 52), .mv, [.t 1], none⟩,
 ⟨(some 53), .mv, [.t 12], none⟩,
 ⟨(some 54), .bin .add, [.t 52, .t 53], none⟩,
 ⟨(some 55), .mv, [.t 0], none⟩,
 ⟨(some 56), .mv, [.t 1], none⟩,
 ⟨(some 57), .mv, [.t 12], none⟩,
 ⟨(some 58), .bin .add, [.t 56, .t 57], none⟩,
 ⟨(some 59), .ias 8, [.t 55, .t 58], none⟩,
 ⟨(some 60), .load true 8, [.t 59], none⟩,
 ⟨(some 61), .mv, [.t 0], none⟩,
 ⟨(some 62), .mv, [.t 11], none⟩,
 ⟨(some 63), .ias 8, [.t 61, .t 62], none⟩,
 ⟨(some 64), .load true 8, [.t 63], none⟩,
 ⟨(some 65), .ias 8, [.t 49, .t 50], none⟩,
 ⟨none, .store 8, [.t 65, .t 60], none⟩,
 ⟨(some 66), .ias 8, [.t 51, .t 54], none⟩,
 ⟨none, .store 8, [.t 66, .t 64], none⟩]))))))
 (.reg [⟨(some 36), .mv, [.t 11], none⟩,
 ⟨(some 37), .bin .add, [.t 36, .c (.int .i64 1)], none⟩,
 ⟨(some 11), .mv, [.t 37], none⟩]))))
/-- slices.breakPatternsCmpFunc[eliminant/api.Mono] -/
def f62 : AF := ⟨4, 67, [],
 (.seq
 (.reg [⟨(some 13), .mv, [.t 2], none⟩,
 ⟨(some 14), .mv, [.t 1], none⟩,
 ⟨(some 15), .bin .sub, [.t 13, .t 14], none⟩,
 ⟨(some 8), .mv, [.t 15], none⟩])
 ((.seq
 (.reg [⟨(some 16), .mv, [.t 8], none⟩,
 ⟨(some 17), .bin .geq, [.t 16, .c (.int .i64 8)], none⟩])
 (.cond (.t 17)
 ((.seq
 (.reg [⟨(some 18), .mv, [.t 8], none⟩,
 ⟨(some 19), .conv .u64, [.t 18], none⟩,
 ⟨(some 9), .alloc [.int .u64 0], [], none⟩,
 ⟨none, .store 1, [.t 9, .t 19], none⟩])
 ((.seq
 (.reg [⟨(some 20), .mv, [.t 8], none⟩,
 ⟨(some 21), .call .pure false 79, [.t 20], none⟩,
 ⟨(some 10), .mv, [.t 21], none⟩])
 ((.seq
 (.reg [⟨(some 22), .mv, [.t 1], none⟩,
 ⟨(some 23), .mv, [.t 8], none⟩,
 ⟨(some 24), .bin .quo, [.t 23, .c (.int .i64 4)], none⟩,
 ⟨(some 25), .bin .mul, [.t 24, .c (.int .i64 2)], none⟩,
 ⟨(some 26), .bin .add, [.t 22, .t 25], none⟩,
 ⟨(some 27), .bin .sub, [.t 26, .c (.int .i64 1)], none⟩,
 ⟨(some 11), .mv, [.t 27], none⟩])
 (.block 0 (.loop f62_0m f62_0))))))))
 (.skip)))))⟩
/-- slices.choosePivotCmpFunc[eliminant/api.Mono] -/
def f63 : AF := ⟨4, 63, [.t 8, .t 9],
 (.seq
 (.reg [⟨(some 8), .mv, [.c (.int .i64 0)], none⟩,
 ⟨(some 9), .mv, [.c (.int .i64 0)], none⟩])
 ((.seq
 (.reg [⟨(some 15), .mv, [.t 2], none⟩,
 ⟨(some 16), .mv, [.t 1], none⟩,
 ⟨(some 17), .bin .sub, [.t 15, .t 16], none⟩,
 ⟨(some 10), .mv, [.t 17], none⟩])
 ((.seq
 (.reg [⟨(some 11), .alloc [.int .i64 0], [], none⟩])
 ((.seq
 (.reg [⟨(some 18), .mv, [.t 1], none⟩,
 ⟨(some 19), .mv, [.t 10], none⟩,
 ⟨(some 20), .bin .quo, [.t 19, .c (.int .i64 4)], none⟩,
 ⟨(some 21), .bin .mul, [.t 20, .c (.int .i64 1)], none⟩,
 ⟨(some 22), .bin .add, [.t 18, .t 21], none⟩,
 ⟨(some 12), .mv, [.t 22], none⟩])
 ((.seq
 (.reg [⟨(some 23), .mv, [.t 1], none⟩,
 ⟨(some 24), .mv, [.t 10], none⟩,
 ⟨(some 25), .bin .quo, [.t 24, .c (.int .i64 4)], none⟩,
 ⟨(some 26), .bin .mul, [.t 25, .c (.int .i64 2)], none⟩,
 ⟨(some 27), .bin .add, [.t 23, .t 26], none⟩,
 ⟨(some 13), .mv, [.t 27], none⟩])
 ((.seq
 (.reg [⟨(some 28), .mv, [.t 1], none⟩,
 ⟨(some 29), .mv, [.t 10], none⟩,
 ⟨(some 30), .bin .quo, [.t 29, .c (.int .i64 4)], none⟩,
 ⟨(some 31), .bin .mul, [.t 30, .c (.int .i64 3)], none⟩,
 ⟨(some 32), .bin .add, [.t 28, .t 31], none⟩,
 ⟨(some 14), .mv, [.t 32], none⟩])
 ((.seq
 ((.seq
 (.reg [⟨(some 33), .mv, [.t 10], none⟩,
 ⟨(some 34), .bin .geq, [.t 33, .c (.int .i64 8)], none⟩])
 (.cond (.t 34)
 ((.seq
 ((.seq
 (.reg [⟨(some 35), .mv, [.t 10], none⟩,
 ⟨(some 36), .bin .geq, [.t 35, .c (.int .i64 50)], none⟩])
 (.cond (.t 36)
 ((.seq
 (.reg [⟨(some 37), .mv, [.t 0], none⟩,
 ⟨(some 38), .mv, [.t 12], none⟩,
 ⟨(some 39), .mv, [.t 3], none⟩,
 ⟨(some 40), .call .pure false 81, [.t 37, .t 38, .t 11, .t 39], none⟩,
 ⟨(some 12), .mv, [.t 40], none⟩])
 ((.seq
 (.reg [⟨(some 41), .mv, [.t 0], none⟩,
 ⟨(some 42), .mv, [.t 13], none⟩,
 ⟨(some 43), .mv, [.t 3], none⟩,
 ⟨(some 44), .call .pure false 81, [.t 41, .t 42, .t 11, .t 43], none⟩,
 ⟨(some 13), .mv, [.t 44], none⟩])
 (.reg [⟨(some 45), .mv, [.t 0], none⟩,
 ⟨(some 46), .mv, [.t 14], none⟩,
 ⟨(some 47), .mv, [.t 3], none⟩,
 ⟨(some 48), .call .pure false 81, [.t 45, .t 46, .t 11, .t 47], none⟩,
 ⟨(some 14), .mv, [.t 48], none⟩])))))
 (.skip))))
 (.reg [⟨(some 49), .mv, [.t 0], none⟩,
 ⟨(some 50), .mv, [.t 12], none⟩,
 ⟨(some 51), .mv, [.t 13], none⟩,
 ⟨(some 52), .mv, [.t 14], none⟩,
 ⟨(some 53), .mv, [.t 3], none⟩,
 ⟨(some 54), .call .pure false 82, [.t 49, .t 50, .t 51, .t 52, .t 11, .t 53], none⟩,
 ⟨(some 13), .mv, [.t 54], none⟩])))
 (.skip))))
 ((.seq
 (.reg [⟨(some 55), .load false 1, [.t 11], none⟩])
 (.block 0 ((.seq
 (.reg [⟨(some 58), .bin .eql, [.t 55, .c (.int .i64 0)], none⟩,
 ⟨(some 57), .mv, [.t 58], none⟩])
 (.cond (.t 57)
 ((.seq
 (.reg [⟨(some 59), .mv, [.t 13], none⟩,
 ⟨(some 8), .mv, [.t 59], none⟩,
 ⟨(some 9), .mv, [.c (.int .i64 1)], none⟩])
 (.ret)))
 ((.seq
 (.reg [⟨(some 61), .bin .eql, [.t 55, .c (.int .i64 12)], none⟩,
 ⟨(some 60), .mv, [.t 61], none⟩])
 (.cond (.t 60)
 ((.seq
 (.reg [⟨(some 62), .mv, [.t 13], none⟩,
 ⟨(some 8), .mv, [.t 62], none⟩,
 ⟨(some 9), .mv, [.c (.int .i64 2)], none⟩])
 (.ret)))
 ((.seq
 (.reg [⟨(some 56), .mv, [.t 13], none⟩,
 ⟨(some 8), .mv, [.t 56], none⟩,
 ⟨(some 9), .mv, [.c (.int .i64 0)], none⟩])
 (.ret)))))))))))))))))))))))))⟩
def f64_0m : List Bool := [true, false, false, false, false, false, false, false, true, true]
def f64_0 : AC :=
 (.seq
 ((.seq
 (.reg [⟨(some 13), .mv, [.t 8], none⟩,
 ⟨(some 14), .mv, [.t 9], none⟩,
 ⟨(some 15), .bin .lss, [.t 13, .t 14], none⟩])
 (.cond (.t 15)
 (.skip)
 (.exit 0))))
 (.block 1 ((.seq
 (.reg [⟨(some 16), .mv, [.t 0], none⟩,
 ⟨(some 17), .mv, [.t 8], none⟩,
 ⟨(some 18), .mv, [.t 0], none⟩,
 ⟨(some 19), .mv, [.t 9], none⟩,
 ⟨(some 20), .mv, [.t 0], none⟩,
 ⟨(some 21), .mv, [.t 9], none⟩,
 ⟨(some 22), .ias 8, [.t 20, .t 21], none⟩,
 ⟨(some 23), .load true 8, [.t 22], none⟩,
 ⟨(some 24), .mv, [.t 0], none⟩,
 ⟨(some 25), .mv, [.t 8], none⟩,
 ⟨(some 26), .ias 8, [.t 24, .t 25], none⟩,
 ⟨(some 27), .load true 8, [.t 26], none⟩,
 ⟨(some 28), .ias 8, [.t 16, .t 17], none⟩,
 ⟨none, .store 8, [.t 28, .t 23], none⟩,
 ⟨(some 29), .ias 8, [.t 18, .t 19], none⟩,
 ⟨none, .store 8, [.t 29, .t 27], none⟩])
 ((.seq
 (.reg [⟨(some 30), .mv, [.t 8], none⟩,
 ⟨(some 31), .bin .add, [.t 30, .c (.int .i64 1)], none⟩,
 ⟨(some 8), .mv, [.t 31], none⟩])
 (.reg [⟨(some 32), .mv, [.t 9], none⟩,
 ⟨(some 33), .bin .sub, [.t 32, .c (.int .i64 1)], none⟩,
 ⟨(some 9), .mv, [.t 33], none⟩])))))))
/-- slices.reverseRangeCmpFunc[eliminant/api.Mono] -/
def f64 : AF := ⟨4, 34, [],
 (.seq
 (.reg [⟨(some 10), .mv, [.t 1], none⟩,
 ⟨(some 8), .mv, [.t 10], none⟩])
 ((.seq
 (.reg [⟨(some 11), .mv, [.t 2], none⟩,
 ⟨(some 12), .bin .sub, [.t 11, .c (.int .i64 1)], none⟩,
 ⟨(some 9), .mv, [.t 12], none⟩])
 (.block 0 (.loop f64_0m f64_0)))))⟩
def f65_0m : List Bool := [true, true, true, true, false, false, false, false, false, true, true]
def f65_0 : AC :=
 (.seq
 ((.seq
 (.reg [⟨(some 19), .mv, [.t 9], none⟩,
 ⟨(some 20), .mv, [.t 2], none⟩,
 ⟨(some 21), .bin .lss, [.t 19, .t 20], none⟩,
 ⟨(some 22), .mv, [.t 21], none⟩,
 ⟨(some 23), .mv, [.t 3], (some (22, true))⟩,
 ⟨(some 24), .mv, [.t 0], (some (22, true))⟩,
 ⟨(some 25), .mv, [.t 9], (some (22, true))⟩,
 ⟨(some 26), .ias 8, [.t 24, .t 25], (some (22, true))⟩,
 ⟨(some 27), .load true 8, [.t 26], (some (22, true))⟩,
 ⟨(some 28), .mv, [.t 0], (some (22, true))⟩,
 ⟨(some 29), .mv, [.t 9], (some (22, true))⟩,
 ⟨(some 30), .bin .sub, [.t 29, .c (.int .i64 1)], (some (22, true))⟩,
 ⟨(some 31), .ias 8, [.t 28, .t 30], (some (22, true))⟩,
 ⟨(some 32), .load true 8, [.t 31], (some (22, true))⟩,
 ⟨(some 33), .callv .pure true, [.t 23, .t 27, .t 32], (some (22, true))⟩,
 ⟨(some 34), .bin .lss, [.t 33, .c (.int .i64 0)], (some (22, true))⟩,
 ⟨(some 35), .un .not, [.t 34], (some (22, true))⟩,
 ⟨(some 36), .pick, [.t 22, .t 35, .c (.bool false)], none⟩])
 (.cond (.t 36)
 (.skip)
 (.exit 2))))
 (.block 3 (.reg [⟨(some 37), .mv, [.t 9], none⟩,
 ⟨(some 38), .bin .add, [.t 37, .c (.int .i64 1)], none⟩,
 ⟨(some 9), .mv, [.t 38], none⟩])))
def f65_1m : List Bool := [true, true, true, true, false, false, false, false, false, true, true, true]
def f65_1 : AC :=
 (.seq
 ((.seq
 (.reg [⟨(some 68), .mv, [.t 11], none⟩,
 ⟨(some 69), .bin .geq, [.t 68, .c (.int .i64 1)], none⟩])
 (.cond (.t 69)
 (.skip)
 (.exit 4))))
 ((.seq
 (.block 5 ((.seq
 ((.seq
 (.reg [⟨(some 72), .mv, [.t 3], none⟩,
 ⟨(some 73), .mv, [.t 0], none⟩,
 ⟨(some 74), .mv, [.t 11], none⟩,
 ⟨(some 75), .ias 8, [.t 73, .t 74], none⟩,
 ⟨(some 76), .load true 8, [.t 75], none⟩,
 ⟨(some 77), .mv, [.t 0], none⟩,
 ⟨(some 78), .mv, [.t 11], none⟩,
 ⟨(some 79), .bin .sub, [.t 78, .c (.int .i64 1)], none⟩,
 ⟨(some 80), .ias 8, [.t 77, .t 79], none⟩,
 ⟨(some 81), .load true 8, [.t 80], none⟩,
 ⟨(some 82), .callv .pure true, [.t 72, .t 76, .t 81], none⟩,
 ⟨(some 83), .bin .lss, [.t 82, .c (.int .i64 0)], none⟩,
 ⟨(some 84), .un .not, [.t 83], none⟩])
 (.cond (.t 84)
 (.exit 4)
 (.skip))))
 (.reg [⟨(some 85), .mv, [.t 0], none⟩,
 ⟨(some 86), .mv, [.t 11], none⟩,
 ⟨(some 87), .mv, [.t 0], none⟩,
 ⟨(some 88), .mv, [.t 11], none⟩,
 ⟨(some 89), .bin .sub, [.t 88, .c (.int .i64 1)], none⟩,
 ⟨(some 90), .mv, [.t 0], none⟩,
 ⟨(some 91), .mv, [.t 11], none⟩,
 ⟨(some 92), .bin .sub, [.t 91, .c (.int .i64 1)], none⟩,
 ⟨(some 93), .ias 8, [.t 90, .t 92], none⟩,
 ⟨(some 94), .load true 8, [.t 93], none⟩,
 ⟨(some 95), .mv, [.t 0], none⟩,
 ⟨(some 96), .mv, [.t 11], none⟩,
 ⟨(some 97), .ias 8, [.t 95, .t 96], none⟩,
 ⟨(some 98), .load true 8, [.t 97], none⟩,
 ⟨(some 99), .ias 8, [.t 85, .t 86], none⟩,
 ⟨none, .store 8, [.t 99, .t 94], none⟩,
 ⟨(some 100), .ias 8, [.t 87, .t 89], none⟩,
 ⟨none, .store 8, [.t 100, .t 98], none⟩]))))
 (.reg [⟨(some 70), .mv, [.t 11], none⟩,
 ⟨(some 71), .bin .sub, [.t 70, .c (.int .i64 1)], none⟩,
 ⟨(some 11), .mv, [.t 71], none⟩]))))
def f65_2m : List Bool := [true, true, true, true, false, false, false, false, false, true, true, false, true]
def f65_2 : AC :=
 (.seq
 ((.seq
 (.reg [⟨(some 107), .mv, [.t 12], none⟩,
 ⟨(some 108), .mv, [.t 2], none⟩,
 ⟨(some 109), .bin .lss, [.t 107, .t 108], none⟩])
 (.cond (.t 109)
 (.skip)
 (.exit 6))))
 ((.seq
 (.block 7 ((.seq
 ((.seq
 (.reg [⟨(some 112), .mv, [.t 3], none⟩,
 ⟨(some 113), .mv, [.t 0], none⟩,
 ⟨(some 114), .mv, [.t 12], none⟩,
 ⟨(some 115), .ias 8, [.t 113, .t 114], none⟩,
 ⟨(some 116), .load true 8, [.t 115], none⟩,
 ⟨(some 117), .mv, [.t 0], none⟩,
 ⟨(some 118), .mv, [.t 12], none⟩,
 ⟨(some 119), .bin .sub, [.t 118, .c (.int .i64 1)], none⟩,
 ⟨(some 120), .ias 8, [.t 117, .t 119], none⟩,
 ⟨(some 121), .load true 8, [.t 120], none⟩,
 ⟨(some 122), .callv .pure true, [.t 112, .t 116, .t 121], none⟩,
 ⟨(some 123), .bin .lss, [.t 122, .c (.int .i64 0)], none⟩,
 ⟨(some 124), .un .not, [.t 123], none⟩])
 (.cond (.t 124)
 (.exit 6)
 (.skip))))
 (.reg [⟨(some 125), .mv, [.t 0], none⟩,
 ⟨(some 126), .mv, [.t 12], none⟩,
 ⟨(some 127), .mv, [.t 0], none⟩,
 ⟨(some 128), .mv, [.t 12], none⟩,
 ⟨(some 129), .bin .sub, [.t 128, .c (.int .i64 1)], none⟩,
 ⟨(some 130), .mv, [.t 0], none⟩,
 ⟨(some 131), .mv, [.t 12], none⟩,
 ⟨(some 132), .bin .sub, [.t 131, .c (.int .i64 1)], none⟩,
 ⟨(some 133), .ias 8, [.t 130, .t 132], none⟩,
 ⟨(some 134), .load true 8, [.t 133], none⟩,
 ⟨(some 135), .mv, [.t 0], none⟩,
 ⟨(some 136), .mv, [.t 12], none⟩,
 ⟨(some 137), .ias 8, [.t 135, .t 136], none⟩,
 ⟨(some 138), .load true 8, [.t 137], none⟩,
 ⟨(some 139), .ias 8, [.t 125, .t 126], none⟩,
 ⟨none, .store 8, [.t 139, .t 134], none⟩,
 ⟨(some 140), .ias 8, [.t 127, .t 129], none⟩,
 ⟨none, .store 8, [.t 140, .t 138], none⟩]))))
 (.reg [⟨(some 110), .mv, [.t 12], none⟩,
 ⟨(some 111), .bin .add, [.t 110, .c (.int .i64 1)], none⟩,
 ⟨(some 12), .mv, [.t 111], none⟩]))))
def f65_3m : List Bool := [true, true, true, true, false, false, false, false, false, true, true]
def f65_3 : AC :=
 (.seq
 ((.seq
 (.reg [⟨(some 15), .mv, [.t 10], none⟩,
 ⟨(some 16), .bin .lss, [.t 15, .c (.int .i64 5)], none⟩])
 (.cond (.t 16)
 (.skip)
 (.exit 0))))
 ((.seq
 (.block 1 ((.seq
 (.block 2 (.loop f65_0m f65_0))
 ((.seq
 ((.seq
 (.reg [⟨(some 39), .mv, [.t 9], none⟩,
 ⟨(some 40), .mv, [.t 2], none⟩,
 ⟨(some 41), .bin .eql, [.t 39, .t 40], none⟩])
 (.cond (.t 41)
 ((.seq
 (.reg [⟨(some 8), .mv, [.c (.bool true)], none⟩])
 (.ret)))
 (.skip))))
 ((.seq
 ((.seq
 (.reg [⟨(some 42), .mv, [.t 2], none⟩,
 ⟨(some 43), .mv, [.t 1], none⟩,
 ⟨(some 44), .bin .sub, [.t 42, .t 43], none⟩,
 ⟨(some 45), .bin .lss, [.t 44, .c (.int .i64 50)], none⟩])
 (.cond (.t 45)
 ((.seq
 (.reg [⟨(some 8), .mv, [.c (.bool false)], none⟩])
 (.ret)))
 (.skip))))
 ((.seq
 (.reg [⟨(some 46), .mv, [.t 0], none⟩,
 ⟨(some 47), .mv, [.t 9], none⟩,
 ⟨(some 48), .mv, [.t 0], none⟩,
 ⟨(some 49), .mv, [.t 9], none⟩,
 ⟨(some 50), .bin .sub, [.t 49, .c (.int .i64 1)], none⟩,
 ⟨(some 51), .mv, [.t 0], none⟩,
 ⟨(some 52), .mv, [.t 9], none⟩,
 ⟨(some 53), .bin .sub, [.t 52, .c (.int .i64 1)], none⟩,
 ⟨(some 54), .ias 8, [.t 51, .t 53], none⟩,
 ⟨(some 55), .load true 8, [.t 54], none⟩,
 ⟨(some 56), .mv, [.t 0], none⟩,
 ⟨(some 57), .mv, [.t 9], none⟩,
 ⟨(some 58), .ias 8, [.t 56, .t 57], none⟩,
 ⟨(some 59), .load true 8, [.t 58], none⟩,
 ⟨(some 60), .ias 8, [.t 46, .t 47], none⟩,
 ⟨none, .store 8, [.t 60, .t 55], none⟩,
 ⟨(some 61), .ias 8, [.t 48, .t 50], none⟩,
 ⟨none, .store 8, [.t 61, .t 59], none⟩])
 ((.seq
 ((.seq
 (.reg [⟨(some 62), .mv, [.t 9], none⟩,
 ⟨(some 63), .mv, [.t 1], none⟩,
 ⟨(some 64), .bin .sub, [.t 62, .t 63], none⟩,
 ⟨(some 65), .bin .geq, [.t 64, .c (.int .i64 2)], none⟩])
 (.cond (.t 65)
 ((.seq
 (.reg [⟨(some 66), .mv, [.t 9], none⟩,
 ⟨(some 67), .bin .sub, [.t 66, .c (.int .i64 1)], none⟩,
 ⟨(some 11), .mv, [.t 67], none⟩])
 (.block 4 (.loop f65_1m f65_1))))
 (.skip))))
 ((.seq
 (.reg [⟨(some 101), .mv, [.t 2], none⟩,
 ⟨(some 102), .mv, [.t 9], none⟩,
 ⟨(some 103), .bin .sub, [.t 101, .t 102], none⟩,
 ⟨(some 104), .bin .geq, [.t 103, .c (.int .i64 2)], none⟩])
 (.cond (.t 104)
 ((.seq
 (.reg [⟨(some 105), .mv, [.t 9], none⟩,
 ⟨(some 106), .bin .add, [.t 105, .c (.int .i64 1)], none⟩,
 ⟨(some 12), .mv, [.t 106], none⟩])
 (.block 6 (.loop f65_2m f65_2))))
 (.skip)))))))))))))))
 (.reg [⟨(some 17), .mv, [.t 10], none⟩,
 ⟨(some 18), .bin .add, [.t 17, .c (.int .i64 1)], none⟩,
 ⟨(some 10), .mv, [.t 18], none⟩]))))
/-- slices.partialInsertionSortCmpFunc[eliminant/api.Mono] -/
def f65 : AF := ⟨4, 141, [.t 8],
 (.seq
 (.reg [⟨(some 8), .mv, [.c (.bool false)], none⟩])
 ((.seq
 (.reg [⟨(some 13), .mv, [.t 1], none⟩,
 ⟨(some 14), .bin .add, [.t 13, .c (.int .i64 1)], none⟩,
 ⟨(some 9), .mv, [.t 14], none⟩])
 ((.seq
 ((.seq
 (.reg [⟨(some 10), .mv, [.c (.int .i64 0)], none⟩])
 (.block 0 (.loop f65_3m f65_3))))
 ((.seq
 (.reg [⟨(some 8), .mv, [.c (.bool false)], none⟩])
 (.ret))))))))⟩
def f66_0m : List Bool := [true, true, false, false, true, false, false, false, false, false, false, true, true]
def f66_0 : AC :=
 (.seq
 ((.seq
 (.reg [⟨(some 31), .mv, [.t 11], none⟩,
 ⟨(some 32), .mv, [.t 12], none⟩,
 ⟨(some 33), .bin .leq, [.t 31, .t 32], none⟩,
 ⟨(some 34), .mv, [.t 33], none⟩,
 ⟨(some 35), .mv, [.t 4], (some (34, true))⟩,
 ⟨(some 36), .mv, [.t 0], (some (34, true))⟩,
 ⟨(some 37), .mv, [.t 1], (some (34, true))⟩,
 ⟨(some 38), .ias 8, [.t 36, .t 37], (some (34, true))⟩,
 ⟨(some 39), .load true 8, [.t 38], (some (34, true))⟩,
 ⟨(some 40), .mv, [.t 0], (some (34, true))⟩,
 ⟨(some 41), .mv, [.t 11], (some (34, true))⟩,
 ⟨(some 42), .ias 8, [.t 40, .t 41], (some (34, true))⟩,
 ⟨(some 43), .load true 8, [.t 42], (some (34, true))⟩,
 ⟨(some 44), .callv .pure true, [.t 35, .t 39, .t 43], (some (34, true))⟩,
 ⟨(some 45), .bin .lss, [.t 44, .c (.int .i64 0)], (some (34, true))⟩,
 ⟨(some 46), .un .not, [.t 45], (some (34, true))⟩,
 ⟨(some 47), .pick, [.t 34, .t 46, .c (.bool false)], none⟩])
 (.cond (.t 47)
 (.skip)
 (.exit 2))))
 (.block 3 (.reg [⟨(some 48), .mv, [.t 11], none⟩,
 ⟨(some 49), .bin .add, [.t 48, .c (.int .i64 1)], none⟩,
 ⟨(some 11), .mv, [.t 49], none⟩])))
def f66_1m : List Bool := [true, true, false, false, true, false, false, false, false, false, false, true, true]
def f66_1 : AC :=
 (.seq
 ((.seq
 (.reg [⟨(some 50), .mv, [.t 11], none⟩,
 ⟨(some 51), .mv, [.t 12], none⟩,
 ⟨(some 52), .bin .leq, [.t 50, .t 51], none⟩,
 ⟨(some 53), .mv, [.t 52], none⟩,
 ⟨(some 54), .mv, [.t 4], (some (53, true))⟩,
 ⟨(some 55), .mv, [.t 0], (some (53, true))⟩,
 ⟨(some 56), .mv, [.t 1], (some (53, true))⟩,
 ⟨(some 57), .ias 8, [.t 55, .t 56], (some (53, true))⟩,
 ⟨(some 58), .load true 8, [.t 57], (some (53, true))⟩,
 ⟨(some 59), .mv, [.t 0], (some (53, true))⟩,
 ⟨(some 60), .mv, [.t 12], (some (53, true))⟩,
 ⟨(some 61), .ias 8, [.t 59, .t 60], (some (53, true))⟩,
 ⟨(some 62), .load true 8, [.t 61], (some (53, true))⟩,
 ⟨(some 63), .callv .pure true, [.t 54, .t 58, .t 62], (some (53, true))⟩,
 ⟨(some 64), .bin .lss, [.t 63, .c (.int .i64 0)], (some (53, true))⟩,
 ⟨(some 65), .pick, [.t 53, .t 64, .c (.bool false)], none⟩])
 (.cond (.t 65)
 (.skip)
 (.exit 4))))
 (.block 5 (.reg [⟨(some 66), .mv, [.t 12], none⟩,
 ⟨(some 67), .bin .sub, [.t 66, .c (.int .i64 1)], none⟩,
 ⟨(some 12), .mv, [.t 67], none⟩])))
def f66_2m : List Bool := [true, true, false, false, true, false, false, false, false, false, false, true, true]
def f66_2 : AC :=
 .block 1 ((.seq
 (.block 2 (.loop f66_0m f66_0))
 ((.seq
 (.block 4 (.loop f66_1m f66_1))
 ((.seq
 ((.seq
 (.reg [⟨(some 68), .mv, [.t 11], none⟩,
 ⟨(some 69), .mv, [.t 12], none⟩,
 ⟨(some 70), .bin .gtr, [.t 68, .t 69], none⟩])
 (.cond (.t 70)
 (.exit 0)
 (.skip))))
 ((.seq
 (.reg [⟨(some 71), .mv, [.t 0], none⟩,
 ⟨(some 72), .mv, [.t 11], none⟩,
 ⟨(some 73), .mv, [.t 0], none⟩,
 ⟨(some 74), .mv, [.t 12], none⟩,
 ⟨(some 75), .mv, [.t 0], none⟩,
 ⟨(some 76), .mv, [.t 12], none⟩,
 ⟨(some 77), .ias 8, [.t 75, .t 76], none⟩,
 ⟨(some 78), .load true 8, [.t 77], none⟩,
 ⟨(some 79), .mv, [.t 0], none⟩,
 ⟨(some 80), .mv, [.t 11], none⟩,
 ⟨(some 81), .ias 8, [.t 79, .t 80], none⟩,
 ⟨(some 82), .load true 8, [.t 81], none⟩,
 ⟨(some 83), .ias 8, [.t 71, .t 72], none⟩,
 ⟨none, .store 8, [.t 83, .t 78], none⟩,
 ⟨(some 84), .ias 8, [.t 73, .t 74], none⟩,
 ⟨none, .store 8, [.t 84, .t 82], none⟩])
 ((.seq
 (.reg [⟨(some 85), .mv, [.t 11], none⟩,
 ⟨(some 86), .bin .add, [.t 85, .c (.int .i64 1)], none⟩,
 ⟨(some 11), .mv, [.t 86], none⟩])
 (.reg [⟨(some 87), .mv, [.t 12], none⟩,
 ⟨(some 88), .bin .sub, [.t 87, .c (.int .i64 1)], none⟩,
 ⟨(some 12), .mv, [.t 88], none⟩])))))))))))
/-- slices.partitionEqualCmpFunc[eliminant/api.Mono] -/
def f66 : AF := ⟨5, 90, [.t 10],
 (.seq
 (.reg [⟨(some 10), .mv, [.c (.int .i64 0)], none⟩])
 ((.seq
 (.reg [⟨(some 13), .mv, [.t 0], none⟩,
 ⟨(some 14), .mv, [.t 1], none⟩,
 ⟨(some 15), .mv, [.t 0], none⟩,
 ⟨(some 16), .mv, [.t 3], none⟩,
 ⟨(some 17), .mv, [.t 0], none⟩,
 ⟨(some 18), .mv, [.t 3], none⟩,
 ⟨(some 19), .ias 8, [.t 17, .t 18], none⟩,
 ⟨(some 20), .load true 8, [.t 19], none⟩,
 ⟨(some 21), .mv, [.t 0], none⟩,
 ⟨(some 22), .mv, [.t 1], none⟩,
 ⟨(some 23), .ias 8, [.t 21, .t 22], none⟩,
 ⟨(some 24), .load true 8, [.t 23], none⟩,
 ⟨(some 25), .ias 8, [.t 13, .t 14], none⟩,
 ⟨none, .store 8, [.t 25, .t 20], none⟩,
 ⟨(some 26), .ias 8, [.t 15, .t 16], none⟩,
 ⟨none, .store 8, [.t 26, .t 24], none⟩])
 ((.seq
 (.reg [⟨(some 27), .mv, [.t 1], none⟩,
 ⟨(some 28), .bin .add, [.t 27, .c (.int .i64 1)], none⟩,
 ⟨(some 29), .mv, [.t 2], none⟩,
 ⟨(some 30), .bin .sub, [.t 29, .c (.int .i64 1)], none⟩,
 ⟨(some 11), .mv, [.t 28], none⟩,
 ⟨(some 12), .mv, [.t 30], none⟩])
 ((.seq
 (.block 0 (.loop f66_2m f66_2))
 ((.seq
 (.reg [⟨(some 89), .mv, [.t 11], none⟩,
 ⟨(some 10), .mv, [.t 89], none⟩])
 (.ret))))))))))⟩
def f67_0m : List Bool := [true, true, false, false, true, false, false, false, false, false, false, false, true, true]
def f67_0 : AC :=
 (.seq
 ((.seq
 (.reg [⟨(some 32), .mv, [.t 12], none⟩,
 ⟨(some 33), .mv, [.t 13], none⟩,
 ⟨(some 34), .bin .leq, [.t 32, .t 33], none⟩,
 ⟨(some 35), .mv, [.t 34], none⟩,
 ⟨(some 36), .mv, [.t 4], (some (35, true))⟩,
 ⟨(some 37), .mv, [.t 0], (some (35, true))⟩,
 ⟨(some 38), .mv, [.t 12], (some (35, true))⟩,
 ⟨(some 39), .ias 8, [.t 37, .t 38], (some (35, true))⟩,
 ⟨(some 40), .load true 8, [.t 39], (some (35, true))⟩,
 ⟨(some 41), .mv, [.t 0], (some (35, true))⟩,
 ⟨(some 42), .mv, [.t 1], (some (35, true))⟩,
 ⟨(some 43), .ias 8, [.t 41, .t 42], (some (35, true))⟩,
 ⟨(some 44), .load true 8, [.t 43], (some (35, true))⟩,
 ⟨(some 45), .callv .pure true, [.t 36, .t 40, .t 44], (some (35, true))⟩,
 ⟨(some 46), .bin .lss, [.t 45, .c (.int .i64 0)], (some (35, true))⟩,
 ⟨(some 47), .pick, [.t 35, .t 46, .c (.bool false)], none⟩])
 (.cond (.t 47)
 (.skip)
 (.exit 0))))
 (.block 1 (.reg [⟨(some 48), .mv, [.t 12], none⟩,
 ⟨(some 49), .bin .add, [.t 48, .c (.int .i64 1)], none⟩,
 ⟨(some 12), .mv, [.t 49], none⟩])))
def f67_1m : List Bool := [true, true, false, false, true, false, false, false, false, false, false, false, true, true]
def f67_1 : AC :=
 (.seq
 ((.seq
 (.reg [⟨(some 50), .mv, [.t 12], none⟩,
 ⟨(some 51), .mv, [.t 13], none⟩,
 ⟨(some 52), .bin .leq, [.t 50, .t 51], none⟩,
 ⟨(some 53), .mv, [.t 52], none⟩,
 ⟨(some 54), .mv, [.t 4], (some (53, true))⟩,
 ⟨(some 55), .mv, [.t 0], (some (53, true))⟩,
 ⟨(some 56), .mv, [.t 13], (some (53, true))⟩,
 ⟨(some 57), .ias 8, [.t 55, .t 56], (some (53, true))⟩,
 ⟨(some 58), .load true 8, [.t 57], (some (53, true))⟩,
 ⟨(some 59), .mv, [.t 0], (some (53, true))⟩,
 ⟨(some 60), .mv, [.t 1], (some (53, true))⟩,
 ⟨(some 61), .ias 8, [.t 59, .t 60], (some (53, true))⟩,
 ⟨(some 62), .load true 8, [.t 61], (some (53, true))⟩,
 ⟨(some 63), .callv .pure true, [.t 54, .t 58, .t 62], (some (53, true))⟩,
 ⟨(some 64), .bin .lss, [.t 63, .c (.int .i64 0)], (some (53, true))⟩,
 ⟨(some 65), .un .not, [.t 64], (some (53, true))⟩,
 ⟨(some 66), .pick, [.t 53, .t 65, .c (.bool false)], none⟩])
 (.cond (.t 66)
 (.skip)
 (.exit 2))))
 (.block 3 (.reg [⟨(some 67), .mv, [.t 13], none⟩,
 ⟨(some 68), .bin .sub, [.t 67, .c (.int .i64 1)], none⟩,
 ⟨(some 13), .mv, [.t 68], none⟩])))
def f67_2m : List Bool := [true, true, false, false, true, false, false, false, false, false, false, false, true, true]
def f67_2 : AC :=
 (.seq
 ((.seq
 (.reg [⟨(some 105), .mv, [.t 12], none⟩,
 ⟨(some 106), .mv, [.t 13], none⟩,
 ⟨(some 107), .bin .leq, [.t 105, .t 106], none⟩,
 ⟨(some 108), .mv, [.t 107], none⟩,
 ⟨(some 109), .mv, [.t 4], (some (108, true))⟩,
 ⟨(some 110), .mv, [.t 0], (some (108, true))⟩,
 ⟨(some 111), .mv, [.t 12], (some (108, true))⟩,
 ⟨(some 112), .ias 8, [.t 110, .t 111], (some (108, true))⟩,
 ⟨(some 113), .load true 8, [.t 112], (some (108, true))⟩,
 ⟨(some 114), .mv, [.t 0], (some (108, true))⟩,
 ⟨(some 115), .mv, [.t 1], (some (108, true))⟩,
 ⟨(some 116), .ias 8, [.t 114, .t 115], (some (108, true))⟩,
 ⟨(some 117), .load true 8, [.t 116], (some (108, true))⟩,
 ⟨(some 118), .callv .pure true, [.t 109, .t 113, .t 117], (some (108, true))⟩,
 ⟨(some 119), .bin .lss, [.t 118, .c (.int .i64 0)], (some (108, true))⟩,
 ⟨(some 120), .pick, [.t 108, .t 119, .c (.bool false)], none⟩])
 (.cond (.t 120)
 (.skip)
 (.exit 6))))
 (.block 7 (.reg [⟨(some 121), .mv, [.t 12], none⟩,
 ⟨(some 122), .bin .add, [.t 121, .c (.int .i64 1)], none⟩,
 ⟨(some 12), .mv, [.t 122], none⟩])))
def f67_3m : List Bool := [true, true, false, false, true, false, false, false, false, false, false, false, true, true]
def f67_3 : AC :=
 (.seq
 ((.seq
 (.reg [⟨(some 123), .mv, [.t 12], none⟩,
 ⟨(some 124), .mv, [.t 13], none⟩,
 ⟨(some 125), .bin .leq, [.t 123, .t 124], none⟩,
 ⟨(some 126), .mv, [.t 125], none⟩,
 ⟨(some 127), .mv, [.t 4], (some (126, true))⟩,
 ⟨(some 128), .mv, [.t 0], (some (126, true))⟩,
 ⟨(some 129), .mv, [.t 13], (some (126, true))⟩,
 ⟨(some 130), .ias 8, [.t 128, .t 129], (some (126, true))⟩,
 ⟨(some 131), .load true 8, [.t 130], (some (126, true))⟩,
 ⟨(some 132), .mv, [.t 0], (some (126, true))⟩,
 ⟨(some 133), .mv, [.t 1], (some (126, true))⟩,
 ⟨(some 134), .ias 8, [.t 132, .t 133], (some (126, true))⟩,
 ⟨(some 135), .load true 8, [.t 134], (some (126, true))⟩,
 ⟨(some 136), .callv .pure true, [.t 127, .t 131, .t 135], (some (126, true))⟩,
 ⟨(some 137), .bin .lss, [.t 136, .c (.int .i64 0)], (some (126, true))⟩,
 ⟨(some 138), .un .not, [.t 137], (some (126, true))⟩,
 ⟨(some 139), .pick, [.t 126, .t 138, .c (.bool false)], none⟩])
 (.cond (.t 139)
 (.skip)
 (.exit 8))))
 (.block 9 (.reg [⟨(some 140), .mv, [.t 13], none⟩,
 ⟨(some 141), .bin .sub, [.t 140, .c (.int .i64 1)], none⟩,
 ⟨(some 13), .mv, [.t 141], none⟩])))
def f67_4m : List Bool := [true, true, false, false, true, false, false, false, false, false, false, false, true, true]
def f67_4 : AC :=
 .block 5 ((.seq
 (.block 6 (.loop f67_2m f67_2))
 ((.seq
 (.block 8 (.loop f67_3m f67_3))
 ((.seq
 ((.seq
 (.reg [⟨(some 142), .mv, [.t 12], none⟩,
 ⟨(some 143), .mv, [.t 13], none⟩,
 ⟨(some 144), .bin .gtr, [.t 142, .t 143], none⟩])
 (.cond (.t 144)
 (.exit 4)
 (.skip))))
 ((.seq
 (.reg [⟨(some 145), .mv, [.t 0], none⟩,
 ⟨(some 146), .mv, [.t 12], none⟩,
 ⟨(some 147), .mv, [.t 0], none⟩,
 ⟨(some 148), .mv, [.t 13], none⟩,
 ⟨(some 149), .mv, [.t 0], none⟩,
 ⟨(some 150), .mv, [.t 13], none⟩,
 ⟨(some 151), .ias 8, [.t 149, .t 150], none⟩,
 ⟨(some 152), .load true 8, [.t 151], none⟩,
 ⟨(some 153), .mv, [.t 0], none⟩,
 ⟨(some 154), .mv, [.t 12], none⟩,
 ⟨(some 155), .ias 8, [.t 153, .t 154], none⟩,
 ⟨(some 156), .load true 8, [.t 155], none⟩,
 ⟨(some 157), .ias 8, [.t 145, .t 146], none⟩,
 ⟨none, .store 8, [.t 157, .t 152], none⟩,
 ⟨(some 158), .ias 8, [.t 147, .t 148], none⟩,
 ⟨none, .store 8, [.t 158, .t 156], none⟩])
 ((.seq
 (.reg [⟨(some 159), .mv, [.t 12], none⟩,
 ⟨(some 160), .bin .add, [.t 159, .c (.int .i64 1)], none⟩,
 ⟨(some 12), .mv, [.t 160], none⟩])
 (.reg [⟨(some 161), .mv, [.t 13], none⟩,
 ⟨(some 162), .bin .sub, [.t 161, .c (.int .i64 1)], none⟩,
 ⟨(some 13), .mv, [.t 162], none⟩])))))))))))
/-- slices.partitionCmpFunc[eliminant/api.Mono] -/
def f67 : AF := ⟨5, 178, [.t 10, .t 11],
 (.seq
 (.reg [⟨(some 10), .mv, [.c (.int .i64 0)], none⟩,
 ⟨(some 11), .mv, [.c (.bool false)], none⟩])
 ((.seq
 (.reg [⟨(some 14), .mv, [.t 0], none⟩,
 ⟨(some 15), .mv, [.t 1], none⟩,
 ⟨(some 16), .mv, [.t 0], none⟩,
 ⟨(some 17), .mv, [.t 3], none⟩,
 ⟨(some 18), .mv, [.t 0], none⟩,
 ⟨(some 19), .mv, [.t 3], none⟩,
 ⟨(some 20), .ias 8, [.t 18, .t 19], none⟩,
 ⟨(some 21), .load true 8, [.t 20], none⟩,
 ⟨(some 22), .mv, [.t 0], none⟩,
 ⟨(some 23), .mv, [.t 1], none⟩,
 ⟨(some 24), .ias 8, [.t 22, .t 23], none⟩,
 ⟨(some 25), .load true 8, [.t 24], none⟩,
 ⟨(some 26), .ias 8, [.t 14, .t 15], none⟩,
 ⟨none, .store 8, [.t 26, .t 21], none⟩,
 ⟨(some 27), .ias 8, [.t 16, .t 17], none⟩,
 ⟨none, .store 8, [.t 27, .t 25], none⟩])
 ((.seq
 (.reg [⟨(some 28), .mv, [.t 1], none⟩,
 ⟨(some 29), .bin .add, [.t 28, .c (.int .i64 1)], none⟩,
 ⟨(some 30), .mv, [.t 2], none⟩,
 ⟨(some 31), .bin .sub, [.t 30, .c (.int .i64 1)], none⟩,
 ⟨(some 12), .mv, [.t 29], none⟩,
 ⟨(some 13), .mv, [.t 31], none⟩])
 ((.seq
 (.block 0 (.loop f67_0m f67_0))
 ((.seq
 (.block 2 (.loop f67_1m f67_1))
 ((.seq
 ((.seq
 (.reg [⟨(some 69), .mv, [.t 12], none⟩,
 ⟨(some 70), .mv, [.t 13], none⟩,
 ⟨(some 71), .bin .gtr, [.t 69, .t 70], none⟩])
 (.cond (.t 71)
 ((.seq
 (.reg [⟨(some 72), .mv, [.t 0], none⟩,
 ⟨(some 73), .mv, [.t 13], none⟩,
 ⟨(some 74), .mv, [.t 0], none⟩,
 ⟨(some 75), .mv, [.t 1], none⟩,
 ⟨(some 76), .mv, [.t 0], none⟩,
 ⟨(some 77), .mv, [.t 1], none⟩,
 ⟨(some 78), .ias 8, [.t 76, .t 77], none⟩,
 ⟨(some 79), .load true 8, [.t 78], none⟩,
 ⟨(some 80), .mv, [.t 0], none⟩,
 ⟨(some 81), .mv, [.t 13], none⟩,
 ⟨(some 82), .ias 8, [.t 80, .t 81], none⟩,
 ⟨(some 83), .load true 8, [.t 82], none⟩,
 ⟨(some 84), .ias 8, [.t 72, .t 73], none⟩,
 ⟨none, .store 8, [.t 84, .t 79], none⟩,
 ⟨(some 85), .ias 8, [.t 74, .t 75], none⟩,
 ⟨none, .store 8, [.t 85, .t 83], none⟩])
 ((.seq
 (.reg [⟨(some 86), .mv, [.t 13], none⟩,
 ⟨(some 10), .mv, [.t 86], none⟩,
 ⟨(some 11), .mv, [.c (.bool true)], none⟩])
 (.ret)))))
 (.skip))))
 ((.seq
 (.reg [⟨(some 87), .mv, [.t 0], none⟩,
 ⟨(some 88), .mv, [.t 12], none⟩,
 ⟨(some 89), .mv, [.t 0], none⟩,
 ⟨(some 90), .mv, [.t 13], none⟩,
 ⟨(some 91), .mv, [.t 0], none⟩,
 ⟨(some 92), .mv, [.t 13], none⟩,
 ⟨(some 93), .ias 8, [.t 91, .t 92], none⟩,
 ⟨(some 94), .load true 8, [.t 93], none⟩,
 ⟨(some 95), .mv, [.t 0], none⟩,
 ⟨(some 96), .mv, [.t 12], none⟩,
 ⟨(some 97), .ias 8, [.t 95, .t 96], none⟩,
 ⟨(some 98), .load true 8, [.t 97], none⟩,
 ⟨(some 99), .ias 8, [.t 87, .t 88], none⟩,
 ⟨none, .store 8, [.t 99, .t 94], none⟩,
 ⟨(some 100), .ias 8, [.t 89, .t 90], none⟩,
 ⟨none, .store 8, [.t 100, .t 98], none⟩])
 ((.seq
 (.reg [⟨(some 101), .mv, [.t 12], none⟩,
 ⟨(some 102), .bin .add, [.t 101, .c (.int .i64 1)], none⟩,
 ⟨(some 12), .mv, [.t 102], none⟩])
 ((.seq
 (.reg [⟨(some 103), .mv, [.t 13], none⟩,
 ⟨(some 104), .bin .sub, [.t 103, .c (.int .i64 1)], none⟩,
 ⟨(some 13), .mv, [.t 104], none⟩])
 ((.seq
 (.block 4 (.loop f67_4m f67_4))
 ((.seq
 (.reg [⟨(some 163), .mv, [.t 0], none⟩,
 ⟨(some 164), .mv, [.t 13], none⟩,
 ⟨(some 165), .mv, [.t 0], none⟩,
 ⟨(some 166), .mv, [.t 1], none⟩,
 ⟨(some 167), .mv, [.t 0], none⟩,
 ⟨(some 168), .mv, [.t 1], none⟩,
 ⟨(some 169), .ias 8, [.t 167, .t 168], none⟩,
 ⟨(some 170), .load true 8, [.t 169], none⟩,
 ⟨(some 171), .mv, [.t 0], none⟩,
 ⟨(some 172), .mv, [.t 13], none⟩,
 ⟨(some 173), .ias 8, [.t 171, .t 172], none⟩,
 ⟨(some 174), .load true 8, [.t 173], none⟩,
 ⟨(some 175), .ias 8, [.t 163, .t 164], none⟩,
 ⟨none, .store 8, [.t 175, .t 170], none⟩,
 ⟨(some 176), .ias 8, [.t 165, .t 166], none⟩,
 ⟨none, .store 8, [.t 176, .t 174], none⟩])
 ((.seq
 (.reg [⟨(some 177), .mv, [.t 13], none⟩,
 ⟨(some 10), .mv, [.t 177], none⟩,
 ⟨(some 11), .mv, [.c (.bool false)], none⟩])
 (.ret))))))))))))))))))))))))⟩
/-- math/bits.Len32 -/
def f68 : AF := ⟨1, 19, [.t 2],
 (.seq
 (.reg [⟨(some 2), .mv, [.c (.int .i64 0)], none⟩])
 ((.seq
 ((.seq
 (.reg [⟨(some 3), .mv, [.t 0], none⟩,
 ⟨(some 4), .bin .geq, [.t 3, .c (.int .u32 65536)], none⟩])
 (.cond (.t 4)
 ((.seq
 (.reg [⟨(some 5), .mv, [.t 0], none⟩,
 ⟨(some 6), .bin .shr, [.t 5, .c (.int .u64 16)], none⟩,
 ⟨(some 0), .mv, [.t 6], none⟩])
 (.reg [⟨(some 2), .mv, [.c (.int .i64 16)], none⟩])))
 (.skip))))
 ((.seq
 ((.seq
 (.reg [⟨(some 7), .mv, [.t 0], none⟩,
 ⟨(some 8), .bin .geq, [.t 7, .c (.int .u32 256)], none⟩])
 (.cond (.t 8)
 ((.seq
 (.reg [⟨(some 9), .mv, [.t 0], none⟩,
 ⟨(some 10), .bin .shr, [.t 9, .c (.int .u64 8)], none⟩,
 ⟨(some 0), .mv, [.t 10], none⟩])
 (.reg [⟨(some 11), .mv, [.t 2], none⟩,
 ⟨(some 12), .bin .add, [.t 11, .c (.int .i64 8)], none⟩,
 ⟨(some 2), .mv, [.t 12], none⟩])))
 (.skip))))
 ((.seq
 (.reg [⟨(some 13), .mv, [.t 2], none⟩,
 ⟨(some 14), .mv, [.t 0], none⟩,
 ⟨(some 15), .conv .u8, [.t 14], none⟩,
 ⟨(some 16), .ixs, [.c (.str tab256), .t 15], none⟩,
 ⟨(some 17), .conv .i64, [.t 16], none⟩,
 ⟨(some 18), .bin .add, [.t 13, .t 17], none⟩,
 ⟨(some 2), .mv, [.t 18], none⟩])
 (.ret))))))))⟩
/-- math/bits.Len64 -/
def f69 : AF := ⟨1, 25, [.t 2],
 (.seq
 (.reg [⟨(some 2), .mv, [.c (.int .i64 0)], none⟩])
 ((.seq
 ((.seq
 (.reg [⟨(some 3), .mv, [.t 0], none⟩,
 ⟨(some 4), .bin .geq, [.t 3, .c (.int .u64 4294967296)], none⟩])
 (.cond (.t 4)
 ((.seq
 (.reg [⟨(some 5), .mv, [.t 0], none⟩,
 ⟨(some 6), .bin .shr, [.t 5, .c (.int .u64 32)], none⟩,
 ⟨(some 0), .mv, [.t 6], none⟩])
 (.reg [⟨(some 2), .mv, [.c (.int .i64 32)], none⟩])))
 (.skip))))
 ((.seq
 ((.seq
 (.reg [⟨(some 7), .mv, [.t 0], none⟩,
 ⟨(some 8), .bin .geq, [.t 7, .c (.int .u64 65536)], none⟩])
 (.cond (.t 8)
 ((.seq
 (.reg [⟨(some 9), .mv, [.t 0], none⟩,
 ⟨(some 10), .bin .shr, [.t 9, .c (.int .u64 16)], none⟩,
 ⟨(some 0), .mv, [.t 10], none⟩])
 (.reg [⟨(some 11), .mv, [.t 2], none⟩,
 ⟨(some 12), .bin .add, [.t 11, .c (.int .i64 16)], none⟩,
 ⟨(some 2), .mv, [.t 12], none⟩])))
 (.skip))))
 ((.seq
 ((.seq
 (.reg [⟨(some 13), .mv, [.t 0], none⟩,
 ⟨(some 14), .bin .geq, [.t 13, .c (.int .u64 256)], none⟩])
 (.cond (.t 14)
 ((.seq
 (.reg [⟨(some 15), .mv, [.t 0], none⟩,
 ⟨(some 16), .bin .shr, [.t 15, .c (.int .u64 8)], none⟩,
 ⟨(some 0), .mv, [.t 16], none⟩])
 (.reg [⟨(some 17), .mv, [.t 2], none⟩,
 ⟨(some 18), .bin .add, [.t 17, .c (.int .i64 8)], none⟩,
 ⟨(some 2), .mv, [.t 18], none⟩])))
 (.skip))))
 ((.seq
 (.reg [⟨(some 19), .mv, [.t 2], none⟩,
 ⟨(some 20), .mv, [.t 0], none⟩,
 ⟨(some 21), .conv .u8, [.t 20], none⟩,
 ⟨(some 22), .ixs, [.c (.str tab256), .t 21], none⟩,
 ⟨(some 23), .conv .i64, [.t 22], none⟩,
 ⟨(some 24), .bin .add, [.t 19, .t 23], none⟩,
 ⟨(some 2), .mv, [.t 24], none⟩])
 (.ret))))))))))⟩
/-- cmp.isNaN[int] -/
def f70 : AF := ⟨1, 6, [.t 2],
 (.seq
 (.reg [⟨(some 2), .mv, [.c (.bool false)], none⟩])
 ((.seq
 (.reg [⟨(some 3), .mv, [.t 0], none⟩,
 ⟨(some 4), .mv, [.t 0], none⟩,
 ⟨(some 5), .bin .neq, [.t 3, .t 4], none⟩,
 ⟨(some 2), .mv, [.t 5], none⟩])
 (.ret))))⟩
/-- eliminant/rational.of -/
def f71 : AF := ⟨1, 6, [.c 2 true 4],
 (.seq
 (.reg [⟨(some 1), .box 2, [.t 0], none⟩,
 ⟨(some 2), .alloc [.bool false, .sl [] 1 true, .bool false, .sl [] 1 true], [], none⟩])
 ((.seq
 (.reg [⟨(some 3), .load true 2, [.t 1], none⟩,
 ⟨(some 4), .call .pure true 72, [.c (.int .i64 1)], none⟩,
 ⟨(some 5), .build [.bool false, .sl [] 1 true, .bool false, .sl [] 1 true] [(0, 2), (2, 2)], [.t 3, .t 4], none⟩,
 ⟨none, .store 4, [.t 2, .t 5], none⟩])
 (.ret))))⟩
/-- eliminant/integer.Of -/
def f72 : AF := ⟨1, 14, [.c 2 true 2],
 (.seq
 (.reg [⟨(some 2), .alloc [.bool false, .sl [] 1 true], [], none⟩])
 ((.seq
 ((.seq
 (.reg [⟨(some 3), .mv, [.t 0], none⟩,
 ⟨(some 4), .bin .lss, [.t 3, .c (.int .i64 0)], none⟩])
 (.cond (.t 4)
 ((.seq
 (.reg [⟨(some 5), .mv, [.t 0], none⟩,
 ⟨(some 6), .conv .u64, [.t 5], none⟩,
 ⟨(some 7), .un .neg, [.t 6], none⟩,
 ⟨(some 8), .call .pure false 83, [.t 7], none⟩,
 ⟨(some 9), .call .pure false 84, [.t 8, .c (.bool true)], none⟩,
 ⟨none, .store 2, [.t 2, .t 9], none⟩])
 (.ret)))
 (.skip))))
 ((.seq
 (.reg [⟨(some 10), .mv, [.t 0], none⟩,
 ⟨(some 11), .conv .u64, [.t 10], none⟩,
 ⟨(some 12), .call .pure false 83, [.t 11], none⟩,
 ⟨(some 13), .call .pure false 84, [.t 12, .c (.bool false)], none⟩,
 ⟨none, .store 2, [.t 2, .t 13], none⟩])
 (.ret))))))⟩
/-- eliminant/integer.Sign -/
def f73 : AF := ⟨1, 9, [.t 2],
 (.seq
 (.reg [⟨(some 1), .box 2, [.t 0], none⟩,
 ⟨(some 2), .mv, [.c (.int .i64 0)], none⟩])
 ((.seq
 ((.seq
 (.reg [⟨(some 3), .faddr 0 1, [.t 1], none⟩,
 ⟨(some 4), .load false 1, [.t 3], none⟩])
 (.cond (.t 4)
 ((.seq
 (.reg [⟨(some 2), .mv, [.c (.int .i64 (-1))], none⟩])
 (.ret)))
 (.skip))))
 ((.seq
 (.reg [⟨(some 5), .faddr 1 1, [.t 1], none⟩,
 ⟨(some 6), .load false 1, [.t 5], none⟩,
 ⟨(some 7), .len, [.t 6], none⟩,
 ⟨(some 8), .mn, [.t 7, .c (.int .i64 1)], none⟩,
 ⟨(some 2), .mv, [.t 8], none⟩])
 (.ret))))))⟩
/-- eliminant/rational.New -/
def f74 : AF := ⟨2, 13, [.c 4 true 4, .t 5],
 (.seq
 (.reg [⟨(some 2), .box 2, [.t 0], none⟩,
 ⟨(some 3), .box 2, [.t 1], none⟩,
 ⟨(some 4), .alloc [.bool false, .sl [] 1 true, .bool false, .sl [] 1 true], [], none⟩,
 ⟨(some 5), .mv, [.c (.int .i64 0)], none⟩])
 ((.seq
 ((.seq
 (.reg [⟨(some 6), .load true 2, [.t 3], none⟩,
 ⟨(some 7), .call .pure false 73, [.t 6], none⟩,
 ⟨(some 8), .bin .eql, [.t 7, .c (.int .i64 0)], none⟩])
 (.cond (.t 8)
 ((.seq
 (.reg [⟨(some 9), .build [.bool false, .sl [] 1 true, .bool false, .sl [] 1 true] [], [], none⟩,
 ⟨none, .store 4, [.t 4, .t 9], none⟩,
 ⟨(some 5), .mv, [.c (.int .i64 10)], none⟩])
 (.ret)))
 (.skip))))
 ((.seq
 (.reg [⟨(some 10), .load true 2, [.t 2], none⟩,
 ⟨(some 11), .load true 2, [.t 3], none⟩,
 ⟨(some 12), .call .pure false 76, [.t 10, .t 11], none⟩,
 ⟨none, .store 4, [.t 4, .t 12], none⟩,
 ⟨(some 5), .mv, [.c (.int .i64 0)], none⟩])
 (.ret))))))⟩
def f75_0m : List Bool := [false, false, true, true, false, false, false, true, true, true]
def f75_0 : AC :=
 (.seq
 (.reg [⟨(some 10), .bin .lss, [.t 9, .t 8], none⟩])
 ((.seq
 (.cond (.t 10)
 (.skip)
 (.exit 0))
 ((.seq
 (.block 1 ((.seq
 (.reg [⟨(some 11), .ias 2, [.t 7, .t 9], none⟩,
 ⟨(some 12), .load true 2, [.t 11], none⟩,
 ⟨(some 5), .alloc [.bool false, .sl [] 1 true], [], none⟩,
 ⟨none, .store 2, [.t 5, .t 12], none⟩])
 (.reg [⟨(some 13), .load true 2, [.t 3], none⟩,
 ⟨(some 14), .load true 2, [.t 5], none⟩,
 ⟨(some 15), .call .pure false 85, [.t 13, .t 14], none⟩,
 ⟨none, .store 2, [.t 3, .t 15], none⟩]))))
 (.reg [⟨(some 16), .bin .add, [.t 9, .c (.int .i64 1)], none⟩,
 ⟨(some 9), .mv, [.t 16], none⟩]))))))
/-- eliminant/rational.product -/
def f75 : AF := ⟨1, 18, [.c 2 true 2],
 (.seq
 (.reg [⟨(some 2), .alloc [.bool false, .sl [] 1 true], [], none⟩])
 ((.seq
 (.reg [⟨(some 6), .call .pure false 72, [.c (.int .i64 1)], none⟩,
 ⟨(some 3), .alloc [.bool false, .sl [] 1 true], [], none⟩,
 ⟨none, .store 2, [.t 3, .t 6], none⟩])
 ((.seq
 ((.seq
 (.reg [⟨(some 7), .mv, [.t 0], none⟩,
 ⟨(some 8), .len, [.t 7], none⟩,
 ⟨(some 9), .mv, [.c (.int .i64 0)], none⟩])
 (.block 0 (.loop f75_0m f75_0))))
 ((.seq
 (.reg [⟨(some 17), .load true 2, [.t 3], none⟩,
 ⟨none, .store 2, [.t 2, .t 17], none⟩])
 (.ret))))))))⟩
/-- eliminant/rational.lowest -/
def f76 : AF := ⟨2, 31, [.c 4 true 4],
 (.seq
 (.reg [⟨(some 2), .box 2, [.t 0], none⟩,
 ⟨(some 3), .box 2, [.t 1], none⟩,
 ⟨(some 4), .alloc [.bool false, .sl [] 1 true, .bool false, .sl [] 1 true], [], none⟩])
 ((.seq
 (.reg [⟨(some 6), .load true 2, [.t 2], none⟩,
 ⟨(some 7), .load true 2, [.t 3], none⟩,
 ⟨(some 8), .call .pure false 86, [.t 6, .t 7], none⟩,
 ⟨(some 5), .alloc [.bool false, .sl [] 1 true], [], none⟩,
 ⟨none, .store 2, [.t 5, .t 8], none⟩])
 ((.seq
 ((.seq
 (.reg [⟨(some 9), .load true 2, [.t 3], none⟩,
 ⟨(some 10), .call .pure false 73, [.t 9], none⟩,
 ⟨(some 11), .bin .lss, [.t 10, .c (.int .i64 0)], none⟩])
 (.cond (.t 11)
 (.reg [⟨(some 12), .load true 2, [.t 5], none⟩,
 ⟨(some 13), .call .pure false 87, [.t 12], none⟩,
 ⟨none, .store 2, [.t 5, .t 13], none⟩])
 (.skip))))
 ((.seq
 (.reg [⟨(some 15), .load true 2, [.t 2], none⟩,
 ⟨(some 16), .load true 2, [.t 5], none⟩,
 ⟨(some 17), .call .pure false 88, [.t 15, .t 16], none⟩,
 ⟨(some 14), .mv, [.t 17], none⟩,
 ⟨(some 18), .ext 0, [.t 14], none⟩,
 ⟨(some 19), .ext 1, [.t 14], none⟩,
 ⟨(some 20), .ext 2, [.t 14], none⟩,
 ⟨none, .store 2, [.t 2, .t 18], none⟩])
 ((.seq
 (.reg [⟨(some 22), .load true 2, [.t 3], none⟩,
 ⟨(some 23), .load true 2, [.t 5], none⟩,
 ⟨(some 24), .call .pure false 88, [.t 22, .t 23], none⟩,
 ⟨(some 21), .mv, [.t 24], none⟩,
 ⟨(some 25), .ext 0, [.t 21], none⟩,
 ⟨(some 26), .ext 1, [.t 21], none⟩,
 ⟨(some 27), .ext 2, [.t 21], none⟩,
 ⟨none, .store 2, [.t 3, .t 25], none⟩])
 ((.seq
 (.reg [⟨(some 28), .load true 2, [.t 2], none⟩,
 ⟨(some 29), .load true 2, [.t 3], none⟩,
 ⟨(some 30), .build [.bool false, .sl [] 1 true, .bool false, .sl [] 1 true] [(0, 2), (2, 2)], [.t 28, .t 29], none⟩,
 ⟨none, .store 4, [.t 4, .t 30], none⟩])
 (.ret))))))))))))⟩
/-- eliminant/integer.Sub -/
def f77 : AF := ⟨2, 9, [.c 4 true 2],
 (.seq
 (.reg [⟨(some 2), .box 2, [.t 0], none⟩,
 ⟨(some 3), .box 2, [.t 1], none⟩,
 ⟨(some 4), .alloc [.bool false, .sl [] 1 true], [], none⟩])
 ((.seq
 (.reg [⟨(some 5), .load true 2, [.t 2], none⟩,
 ⟨(some 6), .load true 2, [.t 3], none⟩,
 ⟨(some 7), .call .pure true 87, [.t 6], none⟩,
 ⟨(some 8), .call .pure true 89, [.t 5, .t 7], none⟩,
 ⟨none, .store 2, [.t 4, .t 8], none⟩])
 (.ret))))⟩
def f78_0m : List Bool := [true, false, true, true, true, false, false, false, false, false, true]
def f78_0 : AC :=
 .block 1 ((.seq
 (.reg [⟨(some 13), .mv, [.t 10], none⟩,
 ⟨(some 14), .bin .mul, [.c (.int .i64 2), .t 13], none⟩,
 ⟨(some 15), .bin .add, [.t 14, .c (.int .i64 1)], none⟩,
 ⟨(some 11), .mv, [.t 15], none⟩])
 ((.seq
 ((.seq
 (.reg [⟨(some 16), .mv, [.t 11], none⟩,
 ⟨(some 17), .mv, [.t 2], none⟩,
 ⟨(some 18), .bin .geq, [.t 16, .t 17], none⟩])
 (.cond (.t 18)
 (.exit 0)
 (.skip))))
 ((.seq
 ((.seq
 (.reg [⟨(some 19), .mv, [.t 11], none⟩,
 ⟨(some 20), .bin .add, [.t 19, .c (.int .i64 1)], none⟩,
 ⟨(some 21), .mv, [.t 2], none⟩,
 ⟨(some 22), .bin .lss, [.t 20, .t 21], none⟩,
 ⟨(some 23), .mv, [.t 22], none⟩,
 ⟨(some 24), .mv, [.t 4], (some (23, true))⟩,
 ⟨(some 25), .mv, [.t 0], (some (23, true))⟩,
 ⟨(some 26), .mv, [.t 3], (some (23, true))⟩,
 ⟨(some 27), .mv, [.t 11], (some (23, true))⟩,
 ⟨(some 28), .bin .add, [.t 26, .t 27], (some (23, true))⟩,
 ⟨(some 29), .ias 8, [.t 25, .t 28], (some (23, true))⟩,
 ⟨(some 30), .load true 8, [.t 29], (some (23, true))⟩,
 ⟨(some 31), .mv, [.t 0], (some (23, true))⟩,
 ⟨(some 32), .mv, [.t 3], (some (23, true))⟩,
 ⟨(some 33), .mv, [.t 11], (some (23, true))⟩,
 ⟨(some 34), .bin .add, [.t 32, .t 33], (some (23, true))⟩,
 ⟨(some 35), .bin .add, [.t 34, .c (.int .i64 1)], (some (23, true))⟩,
 ⟨(some 36), .ias 8, [.t 31, .t 35], (some (23, true))⟩,
 ⟨(some 37), .load true 8, [.t 36], (some (23, true))⟩,
 ⟨(some 38), .callv .pure true, [.t 24, .t 30, .t 37], (some (23, true))⟩,
 ⟨(some 39), .bin .lss, [.t 38, .c (.int .i64 0)], (some (23, true))⟩,
 ⟨(some 40), .pick, [.t 23, .t 39, .c (.bool false)], none⟩])
 (.cond (.t 40)
 (.reg [⟨(some 41), .mv, [.t 11], none⟩,
 ⟨(some 42), .bin .add, [.t 41, .c (.int .i64 1)], none⟩,
 ⟨(some 11), .mv, [.t 42], none⟩])
 (.skip))))
 ((.seq
 ((.seq
 (.reg [⟨(some 43), .mv, [.t 4], none⟩,
 ⟨(some 44), .mv, [.t 0], none⟩,
 ⟨(some 45), .mv, [.t 3], none⟩,
 ⟨(some 46), .mv, [.t 10], none⟩,
 ⟨(some 47), .bin .add, [.t 45, .t 46], none⟩,
 ⟨(some 48), .ias 8, [.t 44, .t 47], none⟩,
 ⟨(some 49), .load true 8, [.t 48], none⟩,
 ⟨(some 50), .mv, [.t 0], none⟩,
 ⟨(some 51), .mv, [.t 3], none⟩,
 ⟨(some 52), .mv, [.t 11], none⟩,
 ⟨(some 53), .bin .add, [.t 51, .t 52], none⟩,
 ⟨(some 54), .ias 8, [.t 50, .t 53], none⟩,
 ⟨(some 55), .load true 8, [.t 54], none⟩,
 ⟨(some 56), .callv .pure true, [.t 43, .t 49, .t 55], none⟩,
 ⟨(some 57), .bin .lss, [.t 56, .c (.int .i64 0)], none⟩,
 ⟨(some 58), .un .not, [.t 57], none⟩])
 (.cond (.t 58)
 (.ret)
 (.skip))))
 ((.seq
 (.reg [⟨(some 59), .mv, [.t 0], none⟩,
 ⟨(some 60), .mv, [.t 3], none⟩,
 ⟨(some 61), .mv, [.t 10], none⟩,
 ⟨(some 62), .bin .add, [.t 60, .t 61], none⟩,
 ⟨(some 63), .mv, [.t 0], none⟩,
 ⟨(some 64), .mv, [.t 3], none⟩,
 ⟨(some 65), .mv, [.t 11], none⟩,
 ⟨(some 66), .bin .add, [.t 64, .t 65], none⟩,
 ⟨(some 67), .mv, [.t 0], none⟩,
 ⟨(some 68), .mv, [.t 3], none⟩,
 ⟨(some 69), .mv, [.t 11], none⟩,
 ⟨(some 70), .bin .add, [.t 68, .t 69], none⟩,
 ⟨(some 71), .ias 8, [.t 67, .t 70], none⟩,
 ⟨(some 72), .load true 8, [.t 71], none⟩,
 ⟨(some 73), .mv, [.t 0], none⟩,
 ⟨(some 74), .mv, [.t 3], none⟩,
 ⟨(some 75), .mv, [.t 10], none⟩,
 ⟨(some 76), .bin .add, [.t 74, .t 75], none⟩,
 ⟨(some 77), .ias 8, [.t 73, .t 76], none⟩,
 ⟨(some 78), .load true 8, [.t 77], none⟩,
 ⟨(some 79), .ias 8, [.t 59, .t 62], none⟩,
 ⟨none, .store 8, [.t 79, .t 72], none⟩,
 ⟨(some 80), .ias 8, [.t 63, .t 66], none⟩,
 ⟨none, .store 8, [.t 80, .t 78], none⟩])
 (.reg [⟨(some 81), .mv, [.t 11], none⟩,
 ⟨(some 10), .mv, [.t 81], none⟩])))))))))))
/-- slices.siftDownCmpFunc[eliminant/api.Mono] -/
def f78 : AF := ⟨5, 82, [],
 (.seq
 (.reg [⟨(some 12), .mv, [.t 1], none⟩,
 ⟨(some 10), .mv, [.t 12], none⟩])
 (.block 0 (.loop f78_0m f78_0)))⟩
/-- slices.nextPowerOfTwo -/
def f79 : AF := ⟨1, 7, [.t 2],
 (.seq
 (.reg [⟨(some 2), .mv, [.c (.int .u64 0)], none⟩])
 ((.seq
 (.reg [⟨(some 3), .mv, [.t 0], none⟩,
 ⟨(some 4), .conv .u64, [.t 3], none⟩,
 ⟨(some 5), .call .pure false 50, [.t 4], none⟩,
 ⟨(some 6), .bin .shl, [.c (.int .u64 1), .t 5], none⟩,
 ⟨(some 2), .mv, [.t 6], none⟩])
 (.ret))))⟩
/-- (*slices.xorshift).Next -/
def f80 : AF := ⟨1, 33, [.t 2],
 (.seq
 (.reg [⟨(some 2), .mv, [.c (.int .u64 0)], none⟩])
 ((.seq
 (.reg [⟨(some 3), .mv, [.t 0], none⟩,
 ⟨(some 4), .nilChk, [.t 3], none⟩,
 ⟨(some 5), .load false 1, [.t 4], none⟩,
 ⟨(some 6), .mv, [.t 0], none⟩,
 ⟨(some 7), .nilChk, [.t 6], none⟩,
 ⟨(some 8), .load false 1, [.t 7], none⟩,
 ⟨(some 9), .bin .shl, [.t 8, .c (.int .u64 13)], none⟩,
 ⟨(some 10), .bin .xor, [.t 5, .t 9], none⟩,
 ⟨(some 11), .nilChk, [.t 3], none⟩,
 ⟨none, .store 1, [.t 11, .t 10], none⟩])
 ((.seq
 (.reg [⟨(some 12), .mv, [.t 0], none⟩,
 ⟨(some 13), .nilChk, [.t 12], none⟩,
 ⟨(some 14), .load false 1, [.t 13], none⟩,
 ⟨(some 15), .mv, [.t 0], none⟩,
 ⟨(some 16), .nilChk, [.t 15], none⟩,
 ⟨(some 17), .load false 1, [.t 16], none⟩,
 ⟨(some 18), .bin .shr, [.t 17, .c (.int .u64 7)], none⟩,
 ⟨(some 19), .bin .xor, [.t 14, .t 18], none⟩,
 ⟨(some 20), .nilChk, [.t 12], none⟩,
 ⟨none, .store 1, [.t 20, .t 19], none⟩])
 ((.seq
 (.reg [⟨(some 21), .mv, [.t 0], none⟩,
 ⟨(some 22), .nilChk, [.t 21], none⟩,
 ⟨(some 23), .load false 1, [.t 22], none⟩,
 ⟨(some 24), .mv, [.t 0], none⟩,
 ⟨(some 25), .nilChk, [.t 24], none⟩,
 ⟨(some 26), .load false 1, [.t 25], none⟩,
 ⟨(some 27), .bin .shl, [.t 26, .c (.int .u64 17)], none⟩,
 ⟨(some 28), .bin .xor, [.t 23, .t 27], none⟩,
 ⟨(some 29), .nilChk, [.t 21], none⟩,
 ⟨none, .store 1, [.t 29, .t 28], none⟩])
 ((.seq
 (.reg [⟨(some 30), .mv, [.t 0], none⟩,
 ⟨(some 31), .nilChk, [.t 30], none⟩,
 ⟨(some 32), .load false 1, [.t 31], none⟩,
 ⟨(some 2), .mv, [.t 32], none⟩])
 (.ret))))))))))⟩
/-- slices.medianAdjacentCmpFunc[eliminant/api.Mono] -/
def f81 : AF := ⟨4, 18, [.t 8],
 (.seq
 (.reg [⟨(some 8), .mv, [.c (.int .i64 0)], none⟩])
 ((.seq
 (.reg [⟨(some 9), .mv, [.t 0], none⟩,
 ⟨(some 10), .mv, [.t 1], none⟩,
 ⟨(some 11), .bin .sub, [.t 10, .c (.int .i64 1)], none⟩,
 ⟨(some 12), .mv, [.t 1], none⟩,
 ⟨(some 13), .mv, [.t 1], none⟩,
 ⟨(some 14), .bin .add, [.t 13, .c (.int .i64 1)], none⟩,
 ⟨(some 15), .mv, [.t 2], none⟩,
 ⟨(some 16), .mv, [.t 3], none⟩,
 ⟨(some 17), .call .pure false 82, [.t 9, .t 11, .t 12, .t 14, .t 15, .t 16], none⟩,
 ⟨(some 8), .mv, [.t 17], none⟩])
 (.ret))))⟩
/-- slices.medianCmpFunc[eliminant/api.Mono] -/
def f82 : AF := ⟨6, 41, [.t 12],
 (.seq
 (.reg [⟨(some 12), .mv, [.c (.int .i64 0)], none⟩])
 ((.seq
 (.reg [⟨(some 14), .mv, [.t 0], none⟩,
 ⟨(some 15), .mv, [.t 1], none⟩,
 ⟨(some 16), .mv, [.t 2], none⟩,
 ⟨(some 17), .mv, [.t 4], none⟩,
 ⟨(some 18), .mv, [.t 5], none⟩,
 ⟨(some 19), .call .pure false 90, [.t 14, .t 15, .t 16, .t 17, .t 18], none⟩,
 ⟨(some 13), .mv, [.t 19], none⟩,
 ⟨(some 20), .ext 0, [.t 13], none⟩,
 ⟨(some 21), .ext 1, [.t 13], none⟩,
 ⟨(some 1), .mv, [.t 20], none⟩,
 ⟨(some 2), .mv, [.t 21], none⟩])
 ((.seq
 (.reg [⟨(some 23), .mv, [.t 0], none⟩,
 ⟨(some 24), .mv, [.t 2], none⟩,
 ⟨(some 25), .mv, [.t 3], none⟩,
 ⟨(some 26), .mv, [.t 4], none⟩,
 ⟨(some 27), .mv, [.t 5], none⟩,
 ⟨(some 28), .call .pure false 90, [.t 23, .t 24, .t 25, .t 26, .t 27], none⟩,
 ⟨(some 22), .mv, [.t 28], none⟩,
 ⟨(some 29), .ext 0, [.t 22], none⟩,
 ⟨(some 30), .ext 1, [.t 22], none⟩,
 ⟨(some 2), .mv, [.t 29], none⟩,
 ⟨(some 3), .mv, [.t 30], none⟩])
 ((.seq
 (.reg [⟨(some 32), .mv, [.t 0], none⟩,
 ⟨(some 33), .mv, [.t 1], none⟩,
 ⟨(some 34), .mv, [.t 2], none⟩,
 ⟨(some 35), .mv, [.t 4], none⟩,
 ⟨(some 36), .mv, [.t 5], none⟩,
 ⟨(some 37), .call .pure false 90, [.t 32, .t 33, .t 34, .t 35, .t 36], none⟩,
 ⟨(some 31), .mv, [.t 37], none⟩,
 ⟨(some 38), .ext 0, [.t 31], none⟩,
 ⟨(some 39), .ext 1, [.t 31], none⟩,
 ⟨(some 1), .mv, [.t 38], none⟩,
 ⟨(some 2), .mv, [.t 39], none⟩])
 ((.seq
 (.reg [⟨(some 40), .mv, [.t 2], none⟩,
 ⟨(some 12), .mv, [.t 40], none⟩])
 (.ret))))))))))⟩
/-- eliminant/integer.natural -/
def f83 : AF := ⟨1, 10, [.t 2],
 (.seq
 (.reg [⟨(some 2), .mv, [.c (.sl [] 1 true)], none⟩])
 ((.seq
 (.reg [⟨(some 3), .mv, [.t 0], none⟩,
 ⟨(some 4), .conv .u32, [.t 3], none⟩,
 ⟨(some 5), .mv, [.t 0], none⟩,
 ⟨(some 6), .bin .shr, [.t 5, .c (.int .u64 32)], none⟩,
 ⟨(some 7), .conv .u32, [.t 6], none⟩,
 ⟨(some 8), .lit 1 (.int .u32 0) 2 [0, 1], [.t 4, .t 7], none⟩,
 ⟨(some 9), .call .pure false 91, [.t 8], none⟩,
 ⟨(some 2), .mv, [.t 9], none⟩])
 (.ret))))⟩
/-- (eliminant/integer.nat).signed -/
def f84 : AF := ⟨2, 16, [.c 4 true 2],
 (.seq
 (.reg [⟨(some 4), .alloc [.bool false, .sl [] 1 true], [], none⟩])
 ((.seq
 (.reg [⟨(some 5), .mv, [.t 0], none⟩,
 ⟨(some 6), .call .pure false 91, [.t 5], none⟩,
 ⟨(some 0), .mv, [.t 6], none⟩])
 ((.seq
 (.reg [⟨(some 7), .mv, [.t 1], none⟩,
 ⟨(some 8), .mv, [.t 7], none⟩,
 ⟨(some 9), .mv, [.t 0], (some (8, true))⟩,
 ⟨(some 10), .len, [.t 9], (some (8, true))⟩,
 ⟨(some 11), .bin .gtr, [.t 10, .c (.int .i64 0)], (some (8, true))⟩,
 ⟨(some 12), .pick, [.t 8, .t 11, .c (.bool false)], none⟩,
 ⟨(some 13), .mv, [.t 0], none⟩,
 ⟨(some 14), .clone 1 4, [.t 13], none⟩,
 ⟨(some 15), .build [.bool false, .sl [] 1 true] [(0, 1), (1, 1)], [.t 12, .t 14], none⟩,
 ⟨none, .store 2, [.t 4, .t 15], none⟩])
 (.ret))))))⟩
/-- eliminant/integer.Mul -/
def f85 : AF := ⟨2, 16, [.c 4 true 2],
 (.seq
 (.reg [⟨(some 2), .box 2, [.t 0], none⟩,
 ⟨(some 3), .box 2, [.t 1], none⟩,
 ⟨(some 4), .alloc [.bool false, .sl [] 1 true], [], none⟩])
 ((.seq
 (.reg [⟨(some 5), .faddr 1 1, [.t 2], none⟩,
 ⟨(some 6), .load false 1, [.t 5], none⟩,
 ⟨(some 7), .faddr 1 1, [.t 3], none⟩,
 ⟨(some 8), .load false 1, [.t 7], none⟩,
 ⟨(some 9), .call .pure true 93, [.t 6, .t 8], none⟩,
 ⟨(some 10), .faddr 0 1, [.t 2], none⟩,
 ⟨(some 11), .load false 1, [.t 10], none⟩,
 ⟨(some 12), .faddr 0 1, [.t 3], none⟩,
 ⟨(some 13), .load false 1, [.t 12], none⟩,
 ⟨(some 14), .eqb true, [.t 11, .t 13], none⟩,
 ⟨(some 15), .call .pure true 84, [.t 9, .t 14], none⟩,
 ⟨none, .store 2, [.t 4, .t 15], none⟩])
 (.ret))))⟩
def f86_0m : List Bool := [false, false, false, false, true, true, true]
def f86_0 : AC :=
 (.seq
 ((.seq
 (.reg [⟨(some 13), .mv, [.t 6], none⟩,
 ⟨(some 14), .len, [.t 13], none⟩,
 ⟨(some 15), .bin .gtr, [.t 14, .c (.int .i64 0)], none⟩])
 (.cond (.t 15)
 (.skip)
 (.exit 0))))
 (.block 1 ((.seq
 (.reg [⟨(some 17), .mv, [.t 5], none⟩,
 ⟨(some 18), .mv, [.t 6], none⟩,
 ⟨(some 19), .call .pure false 94, [.t 17, .t 18], none⟩,
 ⟨(some 16), .mv, [.t 19], none⟩,
 ⟨(some 20), .ext 0, [.t 16], none⟩,
 ⟨(some 21), .ext 1, [.t 16], none⟩,
 ⟨(some 7), .mv, [.t 20], none⟩,
 ⟨(some 8), .mv, [.t 21], none⟩])
 (.reg [⟨(some 22), .mv, [.t 6], none⟩,
 ⟨(some 23), .mv, [.t 8], none⟩,
 ⟨(some 5), .mv, [.t 22], none⟩,
 ⟨(some 6), .mv, [.t 23], none⟩])))))
/-- eliminant/integer.Gcd -/
def f86 : AF := ⟨2, 26, [.c 4 true 2],
 (.seq
 (.reg [⟨(some 2), .box 2, [.t 0], none⟩,
 ⟨(some 3), .box 2, [.t 1], none⟩,
 ⟨(some 4), .alloc [.bool false, .sl [] 1 true], [], none⟩])
 ((.seq
 (.reg [⟨(some 9), .faddr 1 1, [.t 2], none⟩,
 ⟨(some 10), .load false 1, [.t 9], none⟩,
 ⟨(some 11), .faddr 1 1, [.t 3], none⟩,
 ⟨(some 12), .load false 1, [.t 11], none⟩,
 ⟨(some 5), .mv, [.t 10], none⟩,
 ⟨(some 6), .mv, [.t 12], none⟩])
 ((.seq
 (.block 0 (.loop f86_0m f86_0))
 ((.seq
 (.reg [⟨(some 24), .mv, [.t 5], none⟩,
 ⟨(some 25), .call .pure false 84, [.t 24, .c (.bool false)], none⟩,
 ⟨none, .store 2, [.t 4, .t 25], none⟩])
 (.ret))))))))⟩
/-- eliminant/integer.Neg -/
def f87 : AF := ⟨1, 9, [.c 2 true 2],
 (.seq
 (.reg [⟨(some 1), .box 2, [.t 0], none⟩,
 ⟨(some 2), .alloc [.bool false, .sl [] 1 true], [], none⟩])
 ((.seq
 (.reg [⟨(some 3), .faddr 1 1, [.t 1], none⟩,
 ⟨(some 4), .load false 1, [.t 3], none⟩,
 ⟨(some 5), .faddr 0 1, [.t 1], none⟩,
 ⟨(some 6), .load false 1, [.t 5], none⟩,
 ⟨(some 7), .un .not, [.t 6], none⟩,
 ⟨(some 8), .call .pure false 84, [.t 4, .t 7], none⟩,
 ⟨none, .store 2, [.t 2, .t 8], none⟩])
 (.ret))))⟩
/-- eliminant/integer.DivMod -/
def f88 : AF := ⟨2, 46, [.c 4 true 2, .c 5 true 2, .t 6],
 (.seq
 (.reg [⟨(some 2), .box 2, [.t 0], none⟩,
 ⟨(some 3), .box 2, [.t 1], none⟩,
 ⟨(some 4), .alloc [.bool false, .sl [] 1 true], [], none⟩,
 ⟨(some 5), .alloc [.bool false, .sl [] 1 true], [], none⟩,
 ⟨(some 6), .mv, [.c (.int .i64 0)], none⟩])
 ((.seq
 (.reg [⟨(some 10), .faddr 1 1, [.t 3], none⟩,
 ⟨(some 11), .load false 1, [.t 10], none⟩,
 ⟨(some 7), .mv, [.t 11], none⟩])
 ((.seq
 ((.seq
 (.reg [⟨(some 12), .mv, [.t 7], none⟩,
 ⟨(some 13), .len, [.t 12], none⟩,
 ⟨(some 14), .bin .eql, [.t 13, .c (.int .i64 0)], none⟩])
 (.cond (.t 14)
 ((.seq
 (.reg [⟨(some 15), .build [.bool false, .sl [] 1 true] [], [], none⟩,
 ⟨(some 16), .build [.bool false, .sl [] 1 true] [], [], none⟩,
 ⟨none, .store 2, [.t 4, .t 15], none⟩,
 ⟨none, .store 2, [.t 5, .t 16], none⟩,
 ⟨(some 6), .mv, [.c (.int .i64 10)], none⟩])
 (.ret)))
 (.skip))))
 ((.seq
 (.reg [⟨(some 18), .faddr 1 1, [.t 2], none⟩,
 ⟨(some 19), .load false 1, [.t 18], none⟩,
 ⟨(some 20), .mv, [.t 7], none⟩,
 ⟨(some 21), .call .pure false 94, [.t 19, .t 20], none⟩,
 ⟨(some 17), .mv, [.t 21], none⟩,
 ⟨(some 22), .ext 0, [.t 17], none⟩,
 ⟨(some 23), .ext 1, [.t 17], none⟩,
 ⟨(some 8), .mv, [.t 22], none⟩,
 ⟨(some 9), .mv, [.t 23], none⟩])
 ((.seq
 ((.seq
 (.reg [⟨(some 24), .faddr 0 1, [.t 2], none⟩,
 ⟨(some 25), .load false 1, [.t 24], none⟩,
 ⟨(some 26), .mv, [.t 25], none⟩,
 ⟨(some 27), .mv, [.t 9], (some (26, true))⟩,
 ⟨(some 28), .len, [.t 27], (some (26, true))⟩,
 ⟨(some 29), .bin .gtr, [.t 28, .c (.int .i64 0)], (some (26, true))⟩,
 ⟨(some 30), .pick, [.t 26, .t 29, .c (.bool false)], none⟩])
 (.cond (.t 30)
 (.reg [⟨(some 31), .mv, [.t 8], none⟩,
 ⟨(some 32), .call .pure false 83, [.c (.int .u64 1)], none⟩,
 ⟨(some 33), .call .pure false 95, [.t 31, .t 32], none⟩,
 ⟨(some 34), .mv, [.t 7], none⟩,
 ⟨(some 35), .mv, [.t 9], none⟩,
 ⟨(some 36), .call .pure false 96, [.t 34, .t 35], none⟩,
 ⟨(some 8), .mv, [.t 33], none⟩,
 ⟨(some 9), .mv, [.t 36], none⟩])
 (.skip))))
 ((.seq
 (.reg [⟨(some 37), .mv, [.t 8], none⟩,
 ⟨(some 38), .faddr 0 1, [.t 2], none⟩,
 ⟨(some 39), .load false 1, [.t 38], none⟩,
 ⟨(some 40), .faddr 0 1, [.t 3], none⟩,
 ⟨(some 41), .load false 1, [.t 40], none⟩,
 ⟨(some 42), .eqb true, [.t 39, .t 41], none⟩,
 ⟨(some 43), .call .pure false 84, [.t 37, .t 42], none⟩,
 ⟨(some 44), .mv, [.t 9], none⟩,
 ⟨(some 45), .call .pure false 84, [.t 44, .c (.bool false)], none⟩,
 ⟨none, .store 2, [.t 4, .t 43], none⟩,
 ⟨none, .store 2, [.t 5, .t 45], none⟩,
 ⟨(some 6), .mv, [.c (.int .i64 0)], none⟩])
 (.ret))))))))))))⟩
/-- eliminant/integer.Add -/
def f89 : AF := ⟨2, 40, [.c 4 true 2],
 (.seq
 (.reg [⟨(some 2), .box 2, [.t 0], none⟩,
 ⟨(some 3), .box 2, [.t 1], none⟩,
 ⟨(some 4), .alloc [.bool false, .sl [] 1 true], [], none⟩])
 ((.seq
 (.reg [⟨(some 7), .faddr 1 1, [.t 2], none⟩,
 ⟨(some 8), .load false 1, [.t 7], none⟩,
 ⟨(some 9), .faddr 1 1, [.t 3], none⟩,
 ⟨(some 10), .load false 1, [.t 9], none⟩,
 ⟨(some 5), .mv, [.t 8], none⟩,
 ⟨(some 6), .mv, [.t 10], none⟩])
 ((.seq
 (.block 0 ((.seq
 (.reg [⟨(some 12), .faddr 0 1, [.t 2], none⟩,
 ⟨(some 13), .load false 1, [.t 12], none⟩,
 ⟨(some 14), .faddr 0 1, [.t 3], none⟩,
 ⟨(some 15), .load false 1, [.t 14], none⟩,
 ⟨(some 16), .eqb false, [.t 13, .t 15], none⟩,
 ⟨(some 11), .mv, [.t 16], none⟩])
 (.cond (.t 11)
 ((.seq
 (.reg [⟨(some 17), .mv, [.t 5], none⟩,
 ⟨(some 18), .mv, [.t 6], none⟩,
 ⟨(some 19), .call .pure true 95, [.t 17, .t 18], none⟩,
 ⟨(some 20), .faddr 0 1, [.t 2], none⟩,
 ⟨(some 21), .load false 1, [.t 20], none⟩,
 ⟨(some 22), .call .pure true 84, [.t 19, .t 21], none⟩,
 ⟨none, .store 2, [.t 4, .t 22], none⟩])
 (.ret)))
 ((.seq
 (.reg [⟨(some 24), .mv, [.t 5], none⟩,
 ⟨(some 25), .mv, [.t 6], none⟩,
 ⟨(some 26), .call .pure false 97, [.t 24, .t 25], none⟩,
 ⟨(some 27), .bin .lss, [.t 26, .c (.int .i64 0)], none⟩,
 ⟨(some 23), .mv, [.t 27], none⟩])
 (.cond (.t 23)
 ((.seq
 (.reg [⟨(some 28), .mv, [.t 6], none⟩,
 ⟨(some 29), .mv, [.t 5], none⟩,
 ⟨(some 30), .call .pure true 96, [.t 28, .t 29], none⟩,
 ⟨(some 31), .faddr 0 1, [.t 3], none⟩,
 ⟨(some 32), .load false 1, [.t 31], none⟩,
 ⟨(some 33), .call .pure true 84, [.t 30, .t 32], none⟩,
 ⟨none, .store 2, [.t 4, .t 33], none⟩])
 (.ret)))
 (.skip))))))))
 ((.seq
 (.reg [⟨(some 34), .mv, [.t 5], none⟩,
 ⟨(some 35), .mv, [.t 6], none⟩,
 ⟨(some 36), .call .pure true 96, [.t 34, .t 35], none⟩,
 ⟨(some 37), .faddr 0 1, [.t 2], none⟩,
 ⟨(some 38), .load false 1, [.t 37], none⟩,
 ⟨(some 39), .call .pure true 84, [.t 36, .t 38], none⟩,
 ⟨none, .store 2, [.t 4, .t 39], none⟩])
 (.ret))))))))⟩
/-- slices.order2CmpFunc[eliminant/api.Mono] -/
def f90 : AF := ⟨5, 32, [.t 10, .t 11],
 (.seq
 (.reg [⟨(some 10), .mv, [.c (.int .i64 0)], none⟩,
 ⟨(some 11), .mv, [.c (.int .i64 0)], none⟩])
 ((.seq
 ((.seq
 (.reg [⟨(some 12), .mv, [.t 4], none⟩,
 ⟨(some 13), .mv, [.t 0], none⟩,
 ⟨(some 14), .mv, [.t 2], none⟩,
 ⟨(some 15), .ias 8, [.t 13, .t 14], none⟩,
 ⟨(some 16), .load true 8, [.t 15], none⟩,
 ⟨(some 17), .mv, [.t 0], none⟩,
 ⟨(some 18), .mv, [.t 1], none⟩,
 ⟨(some 19), .ias 8, [.t 17, .t 18], none⟩,
 ⟨(some 20), .load true 8, [.t 19], none⟩,
 ⟨(some 21), .callv .pure true, [.t 12, .t 16, .t 20], none⟩,
 ⟨(some 22), .bin .lss, [.t 21, .c (.int .i64 0)], none⟩])
 (.cond (.t 22)
 ((.seq
 (.reg [⟨(some 23), .mv, [.t 3], none⟩,
 ⟨(some 24), .nilChk, [.t 23], none⟩,
 ⟨(some 25), .load false 1, [.t 24], none⟩,
 ⟨(some 26), .bin .add, [.t 25, .c (.int .i64 1)], none⟩,
 ⟨(some 27), .nilChk, [.t 23], none⟩,
 ⟨none, .store 1, [.t 27, .t 26], none⟩])
 ((.seq
 (.reg [⟨(some 28), .mv, [.t 2], none⟩,
 ⟨(some 29), .mv, [.t 1], none⟩,
 ⟨(some 10), .mv, [.t 28], none⟩,
 ⟨(some 11), .mv, [.t 29], none⟩])
 (.ret)))))
 (.skip))))
 ((.seq
 (.reg [⟨(some 30), .mv, [.t 1], none⟩,
 ⟨(some 31), .mv, [.t 2], none⟩,
 ⟨(some 10), .mv, [.t 30], none⟩,
 ⟨(some 11), .mv, [.t 31], none⟩])
 (.ret))))))⟩
def f91_0m : List Bool := [true, false, false, true]
def f91_0 : AC :=
 (.seq
 ((.seq
 (.reg [⟨(some 6), .mv, [.t 3], none⟩,
 ⟨(some 7), .bin .gtr, [.t 6, .c (.int .i64 0)], none⟩,
 ⟨(some 8), .mv, [.t 7], none⟩,
 ⟨(some 9), .mv, [.t 0], (some (8, true))⟩,
 ⟨(some 10), .mv, [.t 3], (some (8, true))⟩,
 ⟨(some 11), .bin .sub, [.t 10, .c (.int .i64 1)], (some (8, true))⟩,
 ⟨(some 12), .ias 1, [.t 9, .t 11], (some (8, true))⟩,
 ⟨(some 13), .load false 1, [.t 12], (some (8, true))⟩,
 ⟨(some 14), .bin .eql, [.t 13, .c (.int .u32 0)], (some (8, true))⟩,
 ⟨(some 15), .pick, [.t 8, .t 14, .c (.bool false)], none⟩])
 (.cond (.t 15)
 (.skip)
 (.exit 0))))
 (.block 1 (.reg [⟨(some 16), .mv, [.t 3], none⟩,
 ⟨(some 17), .bin .sub, [.t 16, .c (.int .i64 1)], none⟩,
 ⟨(some 3), .mv, [.t 17], none⟩])))
/-- (eliminant/integer.nat).norm -/
def f91 : AF := ⟨1, 22, [.t 2],
 (.seq
 (.reg [⟨(some 2), .mv, [.c (.sl [] 1 true)], none⟩])
 ((.seq
 (.reg [⟨(some 4), .mv, [.t 0], none⟩,
 ⟨(some 5), .len, [.t 4], none⟩,
 ⟨(some 3), .mv, [.t 5], none⟩])
 ((.seq
 (.block 0 (.loop f91_0m f91_0))
 ((.seq
 (.reg [⟨(some 18), .mv, [.t 0], none⟩,
 ⟨(some 19), .mv, [.t 3], none⟩,
 ⟨(some 20), .mv, [.t 3], none⟩,
 ⟨(some 21), .slc 1 false true true, [.t 18, .t 19, .t 20], none⟩,
 ⟨(some 2), .mv, [.t 21], none⟩])
 (.ret))))))))⟩
def f93_0m : List Bool := [false, true, false, false, false, true, true, true, true, false, false, false, false, false, false, false, false, true, true, true, false, false, false, false, true, true, true]
def f93_0 : AC :=
 (.seq
 (.reg [⟨(some 27), .bin .lss, [.t 26, .t 25], none⟩])
 ((.seq
 (.cond (.t 27)
 (.skip)
 (.exit 2))
 ((.seq
 (.block 3 ((.seq
 (.reg [⟨(some 28), .mv, [.t 26], none⟩,
 ⟨(some 29), .ias 1, [.t 24, .t 26], none⟩,
 ⟨(some 30), .load false 1, [.t 29], none⟩,
 ⟨(some 9), .mv, [.t 28], none⟩,
 ⟨(some 10), .mv, [.t 30], none⟩])
 ((.seq
 (.reg [⟨(some 31), .mv, [.t 8], none⟩,
 ⟨(some 32), .mv, [.t 7], none⟩,
 ⟨(some 33), .conv .u64, [.t 32], none⟩,
 ⟨(some 34), .mv, [.t 10], none⟩,
 ⟨(some 35), .conv .u64, [.t 34], none⟩,
 ⟨(some 36), .bin .mul, [.t 33, .t 35], none⟩,
 ⟨(some 37), .mv, [.t 5], none⟩,
 ⟨(some 38), .mv, [.t 6], none⟩,
 ⟨(some 39), .mv, [.t 9], none⟩,
 ⟨(some 40), .bin .add, [.t 38, .t 39], none⟩,
 ⟨(some 41), .ias 1, [.t 37, .t 40], none⟩,
 ⟨(some 42), .load false 1, [.t 41], none⟩,
 ⟨(some 43), .conv .u64, [.t 42], none⟩,
 ⟨(some 44), .bin .add, [.t 36, .t 43], none⟩,
 ⟨(some 45), .bin .add, [.t 31, .t 44], none⟩,
 ⟨(some 8), .mv, [.t 45], none⟩])
 ((.seq
 (.reg [⟨(some 46), .mv, [.t 5], none⟩,
 ⟨(some 47), .mv, [.t 6], none⟩,
 ⟨(some 48), .mv, [.t 9], none⟩,
 ⟨(some 49), .bin .add, [.t 47, .t 48], none⟩,
 ⟨(some 50), .mv, [.t 8], none⟩,
 ⟨(some 51), .conv .u32, [.t 50], none⟩,
 ⟨(some 52), .ias 1, [.t 46, .t 49], none⟩,
 ⟨none, .store 1, [.t 52, .t 51], none⟩])
 (.reg [⟨(some 53), .mv, [.t 8], none⟩,
 ⟨(some 54), .bin .shr, [.t 53, .c (.int .u64 32)], none⟩,
 ⟨(some 8), .mv, [.t 54], none⟩]))))))))
 (.reg [⟨(some 55), .bin .add, [.t 26, .c (.int .i64 1)], none⟩,
 ⟨(some 26), .mv, [.t 55], none⟩]))))))
def f93_1m : List Bool := [false, true, false, false, false, true, false, false, false, false, false, false, false, false, false, false, false, true, true, true]
def f93_1 : AC :=
 (.seq
 (.reg [⟨(some 20), .bin .lss, [.t 19, .t 18], none⟩])
 ((.seq
 (.cond (.t 20)
 (.skip)
 (.exit 0))
 ((.seq
 (.block 1 ((.seq
 (.reg [⟨(some 21), .mv, [.t 19], none⟩,
 ⟨(some 22), .ias 1, [.t 17, .t 19], none⟩,
 ⟨(some 23), .load false 1, [.t 22], none⟩,
 ⟨(some 6), .mv, [.t 21], none⟩,
 ⟨(some 7), .mv, [.t 23], none⟩])
 ((.seq
 (.reg [⟨(some 8), .mv, [.c (.int .u64 0)], none⟩])
 ((.seq
 ((.seq
 (.reg [⟨(some 24), .mv, [.t 1], none⟩,
 ⟨(some 25), .len, [.t 24], none⟩,
 ⟨(some 26), .mv, [.c (.int .i64 0)], none⟩])
 (.block 2 (.loop f93_0m f93_0))))
 (.reg [⟨(some 56), .mv, [.t 5], none⟩,
 ⟨(some 57), .mv, [.t 6], none⟩,
 ⟨(some 58), .mv, [.t 1], none⟩,
 ⟨(some 59), .len, [.t 58], none⟩,
 ⟨(some 60), .bin .add, [.t 57, .t 59], none⟩,
 ⟨(some 61), .mv, [.t 8], none⟩,
 ⟨(some 62), .conv .u32, [.t 61], none⟩,
 ⟨(some 63), .ias 1, [.t 56, .t 60], none⟩,
 ⟨none, .store 1, [.t 63, .t 62], none⟩]))))))))
 (.reg [⟨(some 64), .bin .add, [.t 19, .c (.int .i64 1)], none⟩,
 ⟨(some 19), .mv, [.t 64], none⟩]))))))
/-- (eliminant/integer.nat).mul -/
def f93 : AF := ⟨2, 67, [.t 4],
 (.seq
 (.reg [⟨(some 4), .mv, [.c (.sl [] 1 true)], none⟩])
 ((.seq
 (.reg [⟨(some 11), .mv, [.t 0], none⟩,
 ⟨(some 12), .len, [.t 11], none⟩,
 ⟨(some 13), .mv, [.t 1], none⟩,
 ⟨(some 14), .len, [.t 13], none⟩,
 ⟨(some 15), .bin .add, [.t 12, .t 14], none⟩,
 ⟨(some 16), .mks 1 4 [.int .u32 0], [.t 15, .t 15], none⟩,
 ⟨(some 5), .mv, [.t 16], none⟩])
 ((.seq
 ((.seq
 (.reg [⟨(some 17), .mv, [.t 0], none⟩,
 ⟨(some 18), .len, [.t 17], none⟩,
 ⟨(some 19), .mv, [.c (.int .i64 0)], none⟩])
 (.block 0 (.loop f93_1m f93_1))))
 ((.seq
 (.reg [⟨(some 65), .mv, [.t 5], none⟩,
 ⟨(some 66), .call .pure false 91, [.t 65], none⟩,
 ⟨(some 4), .mv, [.t 66], none⟩])
 (.ret))))))))⟩
def f94_0m : List Bool := [false, false, false, false, false, false, false, false, true, true, true, true, false, false, false, false, false, false, false, false, false, false, false, false, false, false, false, false, false, false, false, false, false, false, false, false, false, false, false, false, false, false, false, false, false, false, false, false, false, false, false, false, false, false, false, true, true]
def f94_0 : AC :=
 (.seq
 (.reg [⟨(some 57), .bin .lss, [.t 56, .t 55], none⟩])
 ((.seq
 (.cond (.t 57)
 (.skip)
 (.exit 0))
 ((.seq
 (.block 1 ((.seq
 (.reg [⟨(some 58), .mv, [.t 56], none⟩,
 ⟨(some 12), .mv, [.t 58], none⟩])
 ((.seq
 (.reg [⟨(some 59), .mv, [.t 11], none⟩,
 ⟨(some 60), .len, [.t 59], none⟩,
 ⟨(some 61), .bin .sub, [.t 60, .c (.int .i64 1)], none⟩,
 ⟨(some 62), .mv, [.t 12], none⟩,
 ⟨(some 63), .bin .sub, [.t 61, .t 62], none⟩,
 ⟨(some 13), .mv, [.t 63], none⟩])
 (.reg [⟨(some 64), .mv, [.t 11], none⟩,
 ⟨(some 65), .mv, [.t 13], none⟩,
 ⟨(some 66), .mv, [.t 9], none⟩,
 ⟨(some 67), .mv, [.t 13], none⟩,
 ⟨(some 68), .mv, [.t 13], none⟩,
 ⟨(some 69), .mv, [.t 10], none⟩,
 ⟨(some 70), .len, [.t 69], none⟩,
 ⟨(some 71), .bin .add, [.t 68, .t 70], none⟩,
 ⟨(some 72), .bin .add, [.t 71, .c (.int .i64 1)], none⟩,
 ⟨(some 73), .slc 1 true true false, [.t 66, .t 67, .t 72], none⟩,
 ⟨(some 74), .mv, [.t 10], none⟩,
 ⟨(some 75), .call .sh false 101, [.t 73, .t 74], none⟩,
 ⟨(some 76), .ias 1, [.t 64, .t 65], none⟩,
 ⟨none, .store 1, [.t 76, .t 75], none⟩]))))))
 (.reg [⟨(some 77), .bin .add, [.t 56, .c (.int .i64 1)], none⟩,
 ⟨(some 56), .mv, [.t 77], none⟩]))))))
/-- (eliminant/integer.nat).div -/
def f94 : AF := ⟨2, 84, [.t 4, .t 5],
 (.seq
 (.reg [⟨(some 4), .mv, [.c (.sl [] 1 true)], none⟩,
 ⟨(some 5), .mv, [.c (.sl [] 1 true)], none⟩])
 ((.seq
 ((.seq
 (.reg [⟨(some 14), .mv, [.t 0], none⟩,
 ⟨(some 15), .mv, [.t 1], none⟩,
 ⟨(some 16), .call .pure false 97, [.t 14, .t 15], none⟩,
 ⟨(some 17), .bin .lss, [.t 16, .c (.int .i64 0)], none⟩])
 (.cond (.t 17)
 ((.seq
 (.reg [⟨(some 18), .mv, [.t 0], none⟩,
 ⟨(some 4), .mv, [.c (.sl [] 1 true)], none⟩,
 ⟨(some 5), .mv, [.t 18], none⟩])
 (.ret)))
 (.skip))))
 ((.seq
 ((.seq
 (.reg [⟨(some 19), .mv, [.t 1], none⟩,
 ⟨(some 20), .len, [.t 19], none⟩,
 ⟨(some 21), .bin .eql, [.t 20, .c (.int .i64 1)], none⟩])
 (.cond (.t 21)
 ((.seq
 (.reg [⟨(some 23), .mv, [.t 0], none⟩,
 ⟨(some 24), .mv, [.t 1], none⟩,
 ⟨(some 25), .ias 1, [.t 24, .c (.int .i64 0)], none⟩,
 ⟨(some 26), .load false 1, [.t 25], none⟩,
 ⟨(some 27), .call .pure false 98, [.t 23, .t 26], none⟩,
 ⟨(some 22), .mv, [.t 27], none⟩,
 ⟨(some 28), .ext 0, [.t 22], none⟩,
 ⟨(some 29), .ext 1, [.t 22], none⟩,
 ⟨(some 6), .mv, [.t 28], none⟩,
 ⟨(some 7), .mv, [.t 29], none⟩])
 ((.seq
 (.reg [⟨(some 30), .mv, [.t 6], none⟩,
 ⟨(some 31), .mv, [.t 7], none⟩,
 ⟨(some 32), .lit 1 (.int .u32 0) 1 [0], [.t 31], none⟩,
 ⟨(some 33), .call .pure false 91, [.t 32], none⟩,
 ⟨(some 4), .mv, [.t 30], none⟩,
 ⟨(some 5), .mv, [.t 33], none⟩])
 (.ret)))))
 (.skip))))
 ((.seq
 (.reg [⟨(some 34), .mv, [.t 1], none⟩,
 ⟨(some 35), .mv, [.t 1], none⟩,
 ⟨(some 36), .len, [.t 35], none⟩,
 ⟨(some 37), .bin .sub, [.t 36, .c (.int .i64 1)], none⟩,
 ⟨(some 38), .ias 1, [.t 34, .t 37], none⟩,
 ⟨(some 39), .load false 1, [.t 38], none⟩,
 ⟨(some 40), .call .pure false 99, [.t 39], none⟩,
 ⟨(some 8), .mv, [.t 40], none⟩])
 ((.seq
 (.reg [⟨(some 41), .mv, [.t 0], none⟩,
 ⟨(some 42), .mv, [.t 8], none⟩,
 ⟨(some 43), .call (.own 0) false 100, [.t 41, .t 42], none⟩,
 ⟨(some 44), .mv, [.t 1], none⟩,
 ⟨(some 45), .mv, [.t 8], none⟩,
 ⟨(some 46), .call .pure false 100, [.t 44, .t 45], none⟩,
 ⟨(some 47), .call .pure false 91, [.t 46], none⟩,
 ⟨(some 9), .mv, [.t 43], none⟩,
 ⟨(some 10), .mv, [.t 47], none⟩])
 ((.seq
 (.reg [⟨(some 48), .mv, [.t 9], none⟩,
 ⟨(some 49), .len, [.t 48], none⟩,
 ⟨(some 50), .mv, [.t 10], none⟩,
 ⟨(some 51), .len, [.t 50], none⟩,
 ⟨(some 52), .bin .sub, [.t 49, .t 51], none⟩,
 ⟨(some 53), .mks 1 4 [.int .u32 0], [.t 52, .t 52], none⟩,
 ⟨(some 11), .mv, [.t 53], none⟩])
 ((.seq
 ((.seq
 (.reg [⟨(some 54), .mv, [.t 11], none⟩,
 ⟨(some 55), .len, [.t 54], none⟩,
 ⟨(some 56), .mv, [.c (.int .i64 0)], none⟩])
 (.block 0 (.loop f94_0m f94_0))))
 ((.seq
 (.reg [⟨(some 78), .mv, [.t 11], none⟩,
 ⟨(some 79), .call .pure false 91, [.t 78], none⟩,
 ⟨(some 80), .mv, [.t 9], none⟩,
 ⟨(some 81), .call .pure false 91, [.t 80], none⟩,
 ⟨(some 82), .mv, [.t 8], none⟩,
 ⟨(some 83), .call .pure false 102, [.t 81, .t 82], none⟩,
 ⟨(some 4), .mv, [.t 79], none⟩,
 ⟨(some 5), .mv, [.t 83], none⟩])
 (.ret))))))))))))))))⟩
def f95_0m : List Bool := [true, true, false, false, false, true, true, true, false, false, false, false, false, false, false, false, false, true, true]
def f95_0 : AC :=
 (.seq
 (.reg [⟨(some 19), .bin .lss, [.t 18, .t 17], none⟩])
 ((.seq
 (.cond (.t 19)
 (.skip)
 (.exit 0))
 ((.seq
 (.block 1 ((.seq
 (.reg [⟨(some 20), .mv, [.t 18], none⟩,
 ⟨(some 8), .mv, [.t 20], none⟩])
 (.reg [⟨(some 22), .mv, [.t 6], none⟩,
 ⟨(some 23), .mv, [.t 8], none⟩,
 ⟨(some 24), .mv, [.t 0], none⟩,
 ⟨(some 25), .mv, [.t 8], none⟩,
 ⟨(some 26), .call .pure false 104, [.t 24, .t 25], none⟩,
 ⟨(some 27), .mv, [.t 1], none⟩,
 ⟨(some 28), .mv, [.t 8], none⟩,
 ⟨(some 29), .call .pure false 104, [.t 27, .t 28], none⟩,
 ⟨(some 30), .mv, [.t 7], none⟩,
 ⟨(some 31), .call .pure false 103, [.t 26, .t 29, .t 30], none⟩,
 ⟨(some 21), .mv, [.t 31], none⟩,
 ⟨(some 32), .ext 0, [.t 21], none⟩,
 ⟨(some 33), .ext 1, [.t 21], none⟩,
 ⟨(some 34), .ias 1, [.t 22, .t 23], none⟩,
 ⟨none, .store 1, [.t 34, .t 32], none⟩,
 ⟨(some 7), .mv, [.t 33], none⟩]))))
 (.reg [⟨(some 35), .bin .add, [.t 18, .c (.int .i64 1)], none⟩,
 ⟨(some 18), .mv, [.t 35], none⟩]))))))
/-- (eliminant/integer.nat).add -/
def f95 : AF := ⟨2, 42, [.t 4],
 (.seq
 (.reg [⟨(some 4), .mv, [.c (.sl [] 1 true)], none⟩])
 ((.seq
 (.reg [⟨(some 9), .mv, [.t 0], none⟩,
 ⟨(some 10), .len, [.t 9], none⟩,
 ⟨(some 11), .mv, [.t 1], none⟩,
 ⟨(some 12), .len, [.t 11], none⟩,
 ⟨(some 13), .mx, [.t 10, .t 12], none⟩,
 ⟨(some 5), .mv, [.t 13], none⟩])
 ((.seq
 (.reg [⟨(some 14), .mv, [.t 5], none⟩,
 ⟨(some 15), .bin .add, [.t 14, .c (.int .i64 1)], none⟩,
 ⟨(some 16), .mks 1 4 [.int .u32 0], [.t 15, .t 15], none⟩,
 ⟨(some 6), .mv, [.t 16], none⟩])
 ((.seq
 (.reg [⟨(some 7), .mv, [.c (.int .u32 0)], none⟩])
 ((.seq
 ((.seq
 (.reg [⟨(some 17), .mv, [.t 5], none⟩,
 ⟨(some 18), .mv, [.c (.int .i64 0)], none⟩])
 (.block 0 (.loop f95_0m f95_0))))
 ((.seq
 (.reg [⟨(some 36), .mv, [.t 6], none⟩,
 ⟨(some 37), .mv, [.t 5], none⟩,
 ⟨(some 38), .mv, [.t 7], none⟩,
 ⟨(some 39), .ias 1, [.t 36, .t 37], none⟩,
 ⟨none, .store 1, [.t 39, .t 38], none⟩])
 ((.seq
 (.reg [⟨(some 40), .mv, [.t 6], none⟩,
 ⟨(some 41), .call .pure false 91, [.t 40], none⟩,
 ⟨(some 4), .mv, [.t 41], none⟩])
 (.ret))))))))))))))⟩
def f96_0m : List Bool := [true, true, false, false, false, true, true, false, false, false, false, false, true, true]
def f96_0 : AC :=
 (.seq
 (.reg [⟨(some 14), .bin .lss, [.t 13, .t 12], none⟩])
 ((.seq
 (.cond (.t 14)
 (.skip)
 (.exit 0))
 ((.seq
 (.block 1 ((.seq
 (.reg [⟨(some 15), .mv, [.t 13], none⟩,
 ⟨(some 7), .mv, [.t 15], none⟩])
 (.reg [⟨(some 17), .mv, [.t 5], none⟩,
 ⟨(some 18), .mv, [.t 7], none⟩,
 ⟨(some 19), .mv, [.t 0], none⟩,
 ⟨(some 20), .mv, [.t 7], none⟩,
 ⟨(some 21), .ias 1, [.t 19, .t 20], none⟩,
 ⟨(some 22), .load false 1, [.t 21], none⟩,
 ⟨(some 23), .mv, [.t 1], none⟩,
 ⟨(some 24), .mv, [.t 7], none⟩,
 ⟨(some 25), .call .pure true 104, [.t 23, .t 24], none⟩,
 ⟨(some 26), .mv, [.t 6], none⟩,
 ⟨(some 27), .call .pure true 105, [.t 22, .t 25, .t 26], none⟩,
 ⟨(some 16), .mv, [.t 27], none⟩,
 ⟨(some 28), .ext 0, [.t 16], none⟩,
 ⟨(some 29), .ext 1, [.t 16], none⟩,
 ⟨(some 30), .ias 1, [.t 17, .t 18], none⟩,
 ⟨none, .store 1, [.t 30, .t 28], none⟩,
 ⟨(some 6), .mv, [.t 29], none⟩]))))
 (.reg [⟨(some 31), .bin .add, [.t 13, .c (.int .i64 1)], none⟩,
 ⟨(some 13), .mv, [.t 31], none⟩]))))))
/-- (eliminant/integer.nat).sub -/
def f96 : AF := ⟨2, 34, [.t 4],
 (.seq
 (.reg [⟨(some 4), .mv, [.c (.sl [] 1 true)], none⟩])
 ((.seq
 (.reg [⟨(some 8), .mv, [.t 0], none⟩,
 ⟨(some 9), .len, [.t 8], none⟩,
 ⟨(some 10), .mks 1 4 [.int .u32 0], [.t 9, .t 9], none⟩,
 ⟨(some 5), .mv, [.t 10], none⟩])
 ((.seq
 (.reg [⟨(some 6), .mv, [.c (.int .u32 0)], none⟩])
 ((.seq
 ((.seq
 (.reg [⟨(some 11), .mv, [.t 5], none⟩,
 ⟨(some 12), .len, [.t 11], none⟩,
 ⟨(some 13), .mv, [.c (.int .i64 0)], none⟩])
 (.block 0 (.loop f96_0m f96_0))))
 ((.seq
 (.reg [⟨(some 32), .mv, [.t 5], none⟩,
 ⟨(some 33), .call .pure false 91, [.t 32], none⟩,
 ⟨(some 4), .mv, [.t 33], none⟩])
 (.ret))))))))))⟩
def f97_0m : List Bool := [true, true, false, false, false, false, false, false, false, false, false, false, false, false, false, false, false, false, true, true]
def f97_0 : AC :=
 (.seq
 (.reg [⟨(some 20), .bin .lss, [.t 19, .t 18], none⟩])
 ((.seq
 (.cond (.t 20)
 (.skip)
 (.exit 0))
 ((.seq
 (.block 1 ((.seq
 (.reg [⟨(some 21), .mv, [.t 19], none⟩,
 ⟨(some 5), .mv, [.t 21], none⟩])
 ((.seq
 (.reg [⟨(some 22), .mv, [.t 0], none⟩,
 ⟨(some 23), .len, [.t 22], none⟩,
 ⟨(some 24), .bin .sub, [.t 23, .c (.int .i64 1)], none⟩,
 ⟨(some 25), .mv, [.t 5], none⟩,
 ⟨(some 26), .bin .sub, [.t 24, .t 25], none⟩,
 ⟨(some 6), .mv, [.t 26], none⟩])
 ((.seq
 (.reg [⟨(some 27), .mv, [.t 0], none⟩,
 ⟨(some 28), .mv, [.t 6], none⟩,
 ⟨(some 29), .ias 1, [.t 27, .t 28], none⟩,
 ⟨(some 30), .load false 1, [.t 29], none⟩,
 ⟨(some 31), .mv, [.t 1], none⟩,
 ⟨(some 32), .mv, [.t 6], none⟩,
 ⟨(some 33), .ias 1, [.t 31, .t 32], none⟩,
 ⟨(some 34), .load false 1, [.t 33], none⟩,
 ⟨(some 35), .bin .neq, [.t 30, .t 34], none⟩])
 (.cond (.t 35)
 ((.seq
 (.reg [⟨(some 36), .mv, [.t 0], none⟩,
 ⟨(some 37), .mv, [.t 6], none⟩,
 ⟨(some 38), .ias 1, [.t 36, .t 37], none⟩,
 ⟨(some 39), .load false 1, [.t 38], none⟩,
 ⟨(some 40), .mv, [.t 1], none⟩,
 ⟨(some 41), .mv, [.t 6], none⟩,
 ⟨(some 42), .ias 1, [.t 40, .t 41], none⟩,
 ⟨(some 43), .load false 1, [.t 42], none⟩,
 ⟨(some 44), .call .pure true 106, [.t 39, .t 43], none⟩,
 ⟨(some 4), .mv, [.t 44], none⟩])
 (.ret)))
 (.skip)))))))))
 (.reg [⟨(some 45), .bin .add, [.t 19, .c (.int .i64 1)], none⟩,
 ⟨(some 19), .mv, [.t 45], none⟩]))))))
/-- (eliminant/integer.nat).cmp -/
def f97 : AF := ⟨2, 46, [.t 4],
 (.seq
 (.reg [⟨(some 4), .mv, [.c (.int .i64 0)], none⟩])
 ((.seq
 ((.seq
 (.reg [⟨(some 7), .mv, [.t 0], none⟩,
 ⟨(some 8), .len, [.t 7], none⟩,
 ⟨(some 9), .mv, [.t 1], none⟩,
 ⟨(some 10), .len, [.t 9], none⟩,
 ⟨(some 11), .bin .neq, [.t 8, .t 10], none⟩])
 (.cond (.t 11)
 ((.seq
 (.reg [⟨(some 12), .mv, [.t 0], none⟩,
 ⟨(some 13), .len, [.t 12], none⟩,
 ⟨(some 14), .mv, [.t 1], none⟩,
 ⟨(some 15), .len, [.t 14], none⟩,
 ⟨(some 16), .call .pure false 51, [.t 13, .t 15], none⟩,
 ⟨(some 4), .mv, [.t 16], none⟩])
 (.ret)))
 (.skip))))
 ((.seq
 ((.seq
 (.reg [⟨(some 17), .mv, [.t 0], none⟩,
 ⟨(some 18), .len, [.t 17], none⟩,
 ⟨(some 19), .mv, [.c (.int .i64 0)], none⟩])
 (.block 0 (.loop f97_0m f97_0))))
 ((.seq
 (.reg [⟨(some 4), .mv, [.c (.int .i64 0)], none⟩])
 (.ret))))))))⟩
def f98_0m : List Bool := [true, true, false, false, false, false, true, true, false, false, false, false, false, false, true, true]
def f98_0 : AC :=
 (.seq
 (.reg [⟨(some 16), .bin .lss, [.t 15, .t 14], none⟩])
 ((.seq
 (.cond (.t 16)
 (.skip)
 (.exit 0))
 ((.seq
 (.block 1 ((.seq
 (.reg [⟨(some 17), .mv, [.t 15], none⟩,
 ⟨(some 8), .mv, [.t 17], none⟩])
 ((.seq
 (.reg [⟨(some 18), .mv, [.t 0], none⟩,
 ⟨(some 19), .len, [.t 18], none⟩,
 ⟨(some 20), .bin .sub, [.t 19, .c (.int .i64 1)], none⟩,
 ⟨(some 21), .mv, [.t 8], none⟩,
 ⟨(some 22), .bin .sub, [.t 20, .t 21], none⟩,
 ⟨(some 9), .mv, [.t 22], none⟩])
 (.reg [⟨(some 24), .mv, [.t 6], none⟩,
 ⟨(some 25), .mv, [.t 9], none⟩,
 ⟨(some 26), .mv, [.t 7], none⟩,
 ⟨(some 27), .mv, [.t 0], none⟩,
 ⟨(some 28), .mv, [.t 9], none⟩,
 ⟨(some 29), .ias 1, [.t 27, .t 28], none⟩,
 ⟨(some 30), .load false 1, [.t 29], none⟩,
 ⟨(some 31), .mv, [.t 1], none⟩,
 ⟨(some 32), .call .pure false 107, [.t 26, .t 30, .t 31], none⟩,
 ⟨(some 23), .mv, [.t 32], none⟩,
 ⟨(some 33), .ext 0, [.t 23], none⟩,
 ⟨(some 34), .ext 1, [.t 23], none⟩,
 ⟨(some 35), .ias 1, [.t 24, .t 25], none⟩,
 ⟨none, .store 1, [.t 35, .t 33], none⟩,
 ⟨(some 7), .mv, [.t 34], none⟩]))))))
 (.reg [⟨(some 36), .bin .add, [.t 15, .c (.int .i64 1)], none⟩,
 ⟨(some 15), .mv, [.t 36], none⟩]))))))
/-- (eliminant/integer.nat).word -/
def f98 : AF := ⟨2, 40, [.t 4, .t 5],
 (.seq
 (.reg [⟨(some 4), .mv, [.c (.sl [] 1 true)], none⟩,
 ⟨(some 5), .mv, [.c (.int .u32 0)], none⟩])
 ((.seq
 (.reg [⟨(some 10), .mv, [.t 0], none⟩,
 ⟨(some 11), .len, [.t 10], none⟩,
 ⟨(some 12), .mks 1 4 [.int .u32 0], [.t 11, .t 11], none⟩,
 ⟨(some 6), .mv, [.t 12], none⟩])
 ((.seq
 (.reg [⟨(some 7), .mv, [.c (.int .u32 0)], none⟩])
 ((.seq
 ((.seq
 (.reg [⟨(some 13), .mv, [.t 0], none⟩,
 ⟨(some 14), .len, [.t 13], none⟩,
 ⟨(some 15), .mv, [.c (.int .i64 0)], none⟩])
 (.block 0 (.loop f98_0m f98_0))))
 ((.seq
 (.reg [⟨(some 37), .mv, [.t 6], none⟩,
 ⟨(some 38), .call .pure false 91, [.t 37], none⟩,
 ⟨(some 39), .mv, [.t 7], none⟩,
 ⟨(some 4), .mv, [.t 38], none⟩,
 ⟨(some 5), .mv, [.t 39], none⟩])
 (.ret))))))))))⟩
/-- math/bits.LeadingZeros32 -/
def f99 : AF := ⟨1, 6, [.t 2],
 (.seq
 (.reg [⟨(some 2), .mv, [.c (.int .i64 0)], none⟩])
 ((.seq
 (.reg [⟨(some 3), .mv, [.t 0], none⟩,
 ⟨(some 4), .call .pure false 68, [.t 3], none⟩,
 ⟨(some 5), .bin .sub, [.c (.int .i64 32), .t 4], none⟩,
 ⟨(some 2), .mv, [.t 5], none⟩])
 (.ret))))⟩
def f100_0m : List Bool := [false, true, false, false, false, true, false, false, false, false, false, false, false, true, true, true]
def f100_0 : AC :=
 (.seq
 (.reg [⟨(some 16), .bin .lss, [.t 15, .t 14], none⟩])
 ((.seq
 (.cond (.t 16)
 (.skip)
 (.exit 0))
 ((.seq
 (.block 1 ((.seq
 (.reg [⟨(some 17), .mv, [.t 15], none⟩,
 ⟨(some 18), .ias 1, [.t 13, .t 15], none⟩,
 ⟨(some 19), .load false 1, [.t 18], none⟩,
 ⟨(some 6), .mv, [.t 17], none⟩,
 ⟨(some 7), .mv, [.t 19], none⟩])
 ((.seq
 (.reg [⟨(some 20), .mv, [.t 7], none⟩,
 ⟨(some 21), .conv .u64, [.t 20], none⟩,
 ⟨(some 22), .mv, [.t 1], none⟩,
 ⟨(some 23), .bin .shl, [.t 21, .t 22], none⟩,
 ⟨(some 8), .mv, [.t 23], none⟩])
 ((.seq
 (.reg [⟨(some 24), .mv, [.t 5], none⟩,
 ⟨(some 25), .mv, [.t 6], none⟩,
 ⟨(some 26), .ias 1, [.t 24, .t 25], none⟩,
 ⟨(some 27), .load false 1, [.t 26], none⟩,
 ⟨(some 28), .mv, [.t 8], none⟩,
 ⟨(some 29), .conv .u32, [.t 28], none⟩,
 ⟨(some 30), .bin .or, [.t 27, .t 29], none⟩,
 ⟨(some 31), .ias 1, [.t 24, .t 25], none⟩,
 ⟨none, .store 1, [.t 31, .t 30], none⟩])
 (.reg [⟨(some 32), .mv, [.t 5], none⟩,
 ⟨(some 33), .mv, [.t 6], none⟩,
 ⟨(some 34), .bin .add, [.t 33, .c (.int .i64 1)], none⟩,
 ⟨(some 35), .mv, [.t 8], none⟩,
 ⟨(some 36), .bin .shr, [.t 35, .c (.int .u64 32)], none⟩,
 ⟨(some 37), .conv .u32, [.t 36], none⟩,
 ⟨(some 38), .ias 1, [.t 32, .t 34], none⟩,
 ⟨none, .store 1, [.t 38, .t 37], none⟩]))))))))
 (.reg [⟨(some 39), .bin .add, [.t 15, .c (.int .i64 1)], none⟩,
 ⟨(some 15), .mv, [.t 39], none⟩]))))))
/-- (eliminant/integer.nat).shl -/
def f100 : AF := ⟨2, 41, [.t 4],
 (.seq
 (.reg [⟨(some 4), .mv, [.c (.sl [] 1 true)], none⟩])
 ((.seq
 (.reg [⟨(some 9), .mv, [.t 0], none⟩,
 ⟨(some 10), .len, [.t 9], none⟩,
 ⟨(some 11), .bin .add, [.t 10, .c (.int .i64 1)], none⟩,
 ⟨(some 12), .mks 1 4 [.int .u32 0], [.t 11, .t 11], none⟩,
 ⟨(some 5), .mv, [.t 12], none⟩])
 ((.seq
 ((.seq
 (.reg [⟨(some 13), .mv, [.t 0], none⟩,
 ⟨(some 14), .len, [.t 13], none⟩,
 ⟨(some 15), .mv, [.c (.int .i64 0)], none⟩])
 (.block 0 (.loop f100_0m f100_0))))
 ((.seq
 (.reg [⟨(some 40), .mv, [.t 5], none⟩,
 ⟨(some 4), .mv, [.t 40], none⟩])
 (.ret))))))))⟩
def f101_0m : List Bool := [true, true, false, false, false, true, true, false, false, true]
def f101_0 : AC :=
 (.seq
 ((.seq
 (.reg [⟨(some 49), .mv, [.t 9], none⟩,
 ⟨(some 50), .bin .leq, [.t 49, .c (.int .u64 4294967295)], none⟩,
 ⟨(some 51), .mv, [.t 50], none⟩,
 ⟨(some 52), .mv, [.t 6], (some (51, true))⟩,
 ⟨(some 53), .mv, [.t 1], (some (51, true))⟩,
 ⟨(some 54), .mv, [.t 5], (some (51, true))⟩,
 ⟨(some 55), .bin .sub, [.t 54, .c (.int .i64 2)], (some (51, true))⟩,
 ⟨(some 56), .ias 1, [.t 53, .t 55], (some (51, true))⟩,
 ⟨(some 57), .load false 1, [.t 56], (some (51, true))⟩,
 ⟨(some 58), .conv .u64, [.t 57], (some (51, true))⟩,
 ⟨(some 59), .bin .mul, [.t 52, .t 58], (some (51, true))⟩,
 ⟨(some 60), .mv, [.t 9], (some (51, true))⟩,
 ⟨(some 61), .bin .shl, [.t 60, .c (.int .u64 32)], (some (51, true))⟩,
 ⟨(some 62), .mv, [.t 0], (some (51, true))⟩,
 ⟨(some 63), .mv, [.t 5], (some (51, true))⟩,
 ⟨(some 64), .bin .sub, [.t 63, .c (.int .i64 2)], (some (51, true))⟩,
 ⟨(some 65), .ias 1, [.t 62, .t 64], (some (51, true))⟩,
 ⟨(some 66), .load false 1, [.t 65], (some (51, true))⟩,
 ⟨(some 67), .conv .u64, [.t 66], (some (51, true))⟩,
 ⟨(some 68), .bin .or, [.t 61, .t 67], (some (51, true))⟩,
 ⟨(some 69), .bin .gtr, [.t 59, .t 68], (some (51, true))⟩,
 ⟨(some 70), .pick, [.t 51, .t 69, .c (.bool false)], none⟩])
 (.cond (.t 70)
 (.skip)
 (.exit 0))))
 ((.seq
 (.block 1 (.reg [⟨(some 79), .mv, [.t 6], none⟩,
 ⟨(some 80), .bin .sub, [.t 79, .c (.int .u64 1)], none⟩,
 ⟨(some 6), .mv, [.t 80], none⟩]))
 (.reg [⟨(some 71), .mv, [.t 9], none⟩,
 ⟨(some 72), .mv, [.t 1], none⟩,
 ⟨(some 73), .mv, [.t 5], none⟩,
 ⟨(some 74), .bin .sub, [.t 73, .c (.int .i64 1)], none⟩,
 ⟨(some 75), .ias 1, [.t 72, .t 74], none⟩,
 ⟨(some 76), .load false 1, [.t 75], none⟩,
 ⟨(some 77), .conv .u64, [.t 76], none⟩,
 ⟨(some 78), .bin .add, [.t 71, .t 77], none⟩,
 ⟨(some 9), .mv, [.t 78], none⟩]))))
def f101_1m : List Bool := [true, true, false, false, false, false, true, false, false, false, true, true, false, false, false, false, false, false, false, false, false, false, false, false, false, false, false, false, false, false, false, false, false, false, false, false, false, false, false, false, false, false, false, false, false, false, false, false, false, false, false, false, false, false, false, false, false, false, false, false, false, false, false, false, false, false, false, false, false, false, false, false, false, false, false, false, false, false, false, false, false, false, true, true]
def f101_1 : AC :=
 (.seq
 (.reg [⟨(some 84), .bin .lss, [.t 83, .t 82], none⟩])
 ((.seq
 (.cond (.t 84)
 (.skip)
 (.exit 2))
 ((.seq
 (.block 3 ((.seq
 (.reg [⟨(some 85), .mv, [.t 83], none⟩,
 ⟨(some 12), .mv, [.t 85], none⟩])
 ((.seq
 (.reg [⟨(some 86), .mv, [.t 10], none⟩,
 ⟨(some 87), .mv, [.t 6], none⟩,
 ⟨(some 88), .mv, [.t 1], none⟩,
 ⟨(some 89), .mv, [.t 12], none⟩,
 ⟨(some 90), .call .pure false 104, [.t 88, .t 89], none⟩,
 ⟨(some 91), .conv .u64, [.t 90], none⟩,
 ⟨(some 92), .bin .mul, [.t 87, .t 91], none⟩,
 ⟨(some 93), .bin .add, [.t 86, .t 92], none⟩,
 ⟨(some 10), .mv, [.t 93], none⟩])
 ((.seq
 (.reg [⟨(some 95), .mv, [.t 0], none⟩,
 ⟨(some 96), .mv, [.t 12], none⟩,
 ⟨(some 97), .mv, [.t 0], none⟩,
 ⟨(some 98), .mv, [.t 12], none⟩,
 ⟨(some 99), .ias 1, [.t 97, .t 98], none⟩,
 ⟨(some 100), .load false 1, [.t 99], none⟩,
 ⟨(some 101), .mv, [.t 10], none⟩,
 ⟨(some 102), .conv .u32, [.t 101], none⟩,
 ⟨(some 103), .mv, [.t 11], none⟩,
 ⟨(some 104), .call .pure false 105, [.t 100, .t 102, .t 103], none⟩,
 ⟨(some 94), .mv, [.t 104], none⟩,
 ⟨(some 105), .ext 0, [.t 94], none⟩,
 ⟨(some 106), .ext 1, [.t 94], none⟩,
 ⟨(some 107), .ias 1, [.t 95, .t 96], none⟩,
 ⟨none, .store 1, [.t 107, .t 105], none⟩,
 ⟨(some 11), .mv, [.t 106], none⟩])
 (.reg [⟨(some 108), .mv, [.t 10], none⟩,
 ⟨(some 109), .bin .shr, [.t 108, .c (.int .u64 32)], none⟩,
 ⟨(some 10), .mv, [.t 109], none⟩]))))))))
 (.reg [⟨(some 110), .bin .add, [.t 83, .c (.int .i64 1)], none⟩,
 ⟨(some 83), .mv, [.t 110], none⟩]))))))
def f101_2m : List Bool := [true, true, false, false, false, false, true, false, false, false, false, true, false, true, false, false, false, false, false, false, false, false, false, false, false, false, false, false, false, false, false, false, false, false, false, false, false, false, false, false, false, false, false, false, false, false, false, false, false, false, false, false, false, false, false, false, false, false, false, false, false, false, false, false, false, false, false, false, false, false, false, false, false, false, false, false, false, false, false, false, false, false, false, false, false, false, false, false, false, false, false, false, false, false, false, false, false, false, false, false, false, false, false, false, false, false, false, false, false, false, false, false, false, false, false, false, true, true]
def f101_2 : AC :=
 (.seq
 (.reg [⟨(some 118), .bin .lss, [.t 117, .t 116], none⟩])
 ((.seq
 (.cond (.t 118)
 (.skip)
 (.exit 6))
 ((.seq
 (.block 7 ((.seq
 (.reg [⟨(some 119), .mv, [.t 117], none⟩,
 ⟨(some 14), .mv, [.t 119], none⟩])
 (.reg [⟨(some 121), .mv, [.t 0], none⟩,
 ⟨(some 122), .mv, [.t 14], none⟩,
 ⟨(some 123), .mv, [.t 0], none⟩,
 ⟨(some 124), .mv, [.t 14], none⟩,
 ⟨(some 125), .ias 1, [.t 123, .t 124], none⟩,
 ⟨(some 126), .load false 1, [.t 125], none⟩,
 ⟨(some 127), .mv, [.t 1], none⟩,
 ⟨(some 128), .mv, [.t 14], none⟩,
 ⟨(some 129), .call .pure true 104, [.t 127, .t 128], none⟩,
 ⟨(some 130), .mv, [.t 13], none⟩,
 ⟨(some 131), .call .pure true 103, [.t 126, .t 129, .t 130], none⟩,
 ⟨(some 120), .mv, [.t 131], none⟩,
 ⟨(some 132), .ext 0, [.t 120], none⟩,
 ⟨(some 133), .ext 1, [.t 120], none⟩,
 ⟨(some 134), .ias 1, [.t 121, .t 122], none⟩,
 ⟨none, .store 1, [.t 134, .t 132], none⟩,
 ⟨(some 13), .mv, [.t 133], none⟩]))))
 (.reg [⟨(some 135), .bin .add, [.t 117, .c (.int .i64 1)], none⟩,
 ⟨(some 117), .mv, [.t 135], none⟩]))))))
def f101_3m : List Bool := [true, true, false, false, false, false, true, false, false, false, false, true]
def f101_3 : AC :=
 (.seq
 ((.seq
 (.reg [⟨(some 111), .mv, [.t 11], none⟩,
 ⟨(some 112), .bin .gtr, [.t 111, .c (.int .u32 0)], none⟩])
 (.cond (.t 112)
 (.skip)
 (.exit 4))))
 (.block 5 ((.seq
 (.reg [⟨(some 113), .mv, [.t 6], none⟩,
 ⟨(some 114), .bin .sub, [.t 113, .c (.int .u64 1)], none⟩,
 ⟨(some 6), .mv, [.t 114], none⟩])
 ((.seq
 (.reg [⟨(some 13), .mv, [.c (.int .u32 0)], none⟩])
 ((.seq
 ((.seq
 (.reg [⟨(some 115), .mv, [.t 0], none⟩,
 ⟨(some 116), .len, [.t 115], none⟩,
 ⟨(some 117), .mv, [.c (.int .i64 0)], none⟩])
 (.block 6 (.loop f101_2m f101_2))))
 (.reg [⟨(some 136), .mv, [.t 11], none⟩,
 ⟨(some 137), .mv, [.t 13], none⟩,
 ⟨(some 138), .bin .sub, [.t 136, .t 137], none⟩,
 ⟨(some 11), .mv, [.t 138], none⟩])))))))))
/-- (eliminant/integer.nat).reduce -/
def f101 : AF := ⟨2, 141, [.t 4],
 (.seq
 (.reg [⟨(some 4), .mv, [.c (.int .u32 0)], none⟩])
 ((.seq
 (.reg [⟨(some 15), .mv, [.t 1], none⟩,
 ⟨(some 16), .len, [.t 15], none⟩,
 ⟨(some 5), .mv, [.t 16], none⟩])
 ((.seq
 (.reg [⟨(some 6), .mv, [.c (.int .u64 4294967295)], none⟩])
 ((.seq
 ((.seq
 (.reg [⟨(some 17), .mv, [.t 0], none⟩,
 ⟨(some 18), .mv, [.t 5], none⟩,
 ⟨(some 19), .ias 1, [.t 17, .t 18], none⟩,
 ⟨(some 20), .load false 1, [.t 19], none⟩,
 ⟨(some 21), .mv, [.t 1], none⟩,
 ⟨(some 22), .mv, [.t 5], none⟩,
 ⟨(some 23), .bin .sub, [.t 22, .c (.int .i64 1)], none⟩,
 ⟨(some 24), .ias 1, [.t 21, .t 23], none⟩,
 ⟨(some 25), .load false 1, [.t 24], none⟩,
 ⟨(some 26), .bin .lss, [.t 20, .t 25], none⟩])
 (.cond (.t 26)
 ((.seq
 (.reg [⟨(some 28), .mv, [.t 0], none⟩,
 ⟨(some 29), .mv, [.t 5], none⟩,
 ⟨(some 30), .ias 1, [.t 28, .t 29], none⟩,
 ⟨(some 31), .load false 1, [.t 30], none⟩,
 ⟨(some 32), .mv, [.t 0], none⟩,
 ⟨(some 33), .mv, [.t 5], none⟩,
 ⟨(some 34), .bin .sub, [.t 33, .c (.int .i64 1)], none⟩,
 ⟨(some 35), .ias 1, [.t 32, .t 34], none⟩,
 ⟨(some 36), .load false 1, [.t 35], none⟩,
 ⟨(some 37), .mv, [.t 1], none⟩,
 ⟨(some 38), .mv, [.t 5], none⟩,
 ⟨(some 39), .bin .sub, [.t 38, .c (.int .i64 1)], none⟩,
 ⟨(some 40), .ias 1, [.t 37, .t 39], none⟩,
 ⟨(some 41), .load false 1, [.t 40], none⟩,
 ⟨(some 42), .call .pure true 107, [.t 31, .t 36, .t 41], none⟩,
 ⟨(some 27), .mv, [.t 42], none⟩,
 ⟨(some 43), .ext 0, [.t 27], none⟩,
 ⟨(some 44), .ext 1, [.t 27], none⟩,
 ⟨(some 7), .mv, [.t 43], none⟩,
 ⟨(some 8), .mv, [.t 44], none⟩])
 ((.seq
 (.reg [⟨(some 45), .mv, [.t 8], none⟩,
 ⟨(some 46), .conv .u64, [.t 45], none⟩,
 ⟨(some 9), .mv, [.t 46], none⟩])
 ((.seq
 (.reg [⟨(some 47), .mv, [.t 7], none⟩,
 ⟨(some 48), .conv .u64, [.t 47], none⟩,
 ⟨(some 6), .mv, [.t 48], none⟩])
 (.block 0 (.loop f101_0m f101_0))))))))
 (.skip))))
 ((.seq
 (.reg [⟨(some 10), .mv, [.c (.int .u64 0)], none⟩])
 ((.seq
 (.reg [⟨(some 11), .mv, [.c (.int .u32 0)], none⟩])
 ((.seq
 ((.seq
 (.reg [⟨(some 81), .mv, [.t 0], none⟩,
 ⟨(some 82), .len, [.t 81], none⟩,
 ⟨(some 83), .mv, [.c (.int .i64 0)], none⟩])
 (.block 2 (.loop f101_1m f101_1))))
 ((.seq
 (.block 4 (.loop f101_3m f101_3))
 ((.seq
 (.reg [⟨(some 139), .mv, [.t 6], none⟩,
 ⟨(some 140), .conv .u32, [.t 139], none⟩,
 ⟨(some 4), .mv, [.t 140], none⟩])
 (.ret))))))))))))))))))⟩
def f102_0m : List Bool := [true, true, false, false, false, true, false, false, false, false, false, true, true]
def f102_0 : AC :=
 (.seq
 (.reg [⟨(some 13), .bin .lss, [.t 12, .t 11], none⟩])
 ((.seq
 (.cond (.t 13)
 (.skip)
 (.exit 0))
 ((.seq
 (.block 1 ((.seq
 (.reg [⟨(some 14), .mv, [.t 12], none⟩,
 ⟨(some 6), .mv, [.t 14], none⟩])
 (.reg [⟨(some 15), .mv, [.t 5], none⟩,
 ⟨(some 16), .mv, [.t 6], none⟩,
 ⟨(some 17), .mv, [.t 0], none⟩,
 ⟨(some 18), .mv, [.t 6], none⟩,
 ⟨(some 19), .bin .add, [.t 18, .c (.int .i64 1)], none⟩,
 ⟨(some 20), .call .pure true 104, [.t 17, .t 19], none⟩,
 ⟨(some 21), .conv .u64, [.t 20], none⟩,
 ⟨(some 22), .bin .shl, [.t 21, .c (.int .u64 32)], none⟩,
 ⟨(some 23), .mv, [.t 0], none⟩,
 ⟨(some 24), .mv, [.t 6], none⟩,
 ⟨(some 25), .ias 1, [.t 23, .t 24], none⟩,
 ⟨(some 26), .load false 1, [.t 25], none⟩,
 ⟨(some 27), .conv .u64, [.t 26], none⟩,
 ⟨(some 28), .bin .or, [.t 22, .t 27], none⟩,
 ⟨(some 29), .mv, [.t 1], none⟩,
 ⟨(some 30), .bin .shr, [.t 28, .t 29], none⟩,
 ⟨(some 31), .conv .u32, [.t 30], none⟩,
 ⟨(some 32), .ias 1, [.t 15, .t 16], none⟩,
 ⟨none, .store 1, [.t 32, .t 31], none⟩]))))
 (.reg [⟨(some 33), .bin .add, [.t 12, .c (.int .i64 1)], none⟩,
 ⟨(some 12), .mv, [.t 33], none⟩]))))))
/-- (eliminant/integer.nat).shr -/
def f102 : AF := ⟨2, 36, [.t 4],
 (.seq
 (.reg [⟨(some 4), .mv, [.c (.sl [] 1 true)], none⟩])
 ((.seq
 (.reg [⟨(some 7), .mv, [.t 0], none⟩,
 ⟨(some 8), .len, [.t 7], none⟩,
 ⟨(some 9), .mks 1 4 [.int .u32 0], [.t 8, .t 8], none⟩,
 ⟨(some 5), .mv, [.t 9], none⟩])
 ((.seq
 ((.seq
 (.reg [⟨(some 10), .mv, [.t 0], none⟩,
 ⟨(some 11), .len, [.t 10], none⟩,
 ⟨(some 12), .mv, [.c (.int .i64 0)], none⟩])
 (.block 0 (.loop f102_0m f102_0))))
 ((.seq
 (.reg [⟨(some 34), .mv, [.t 5], none⟩,
 ⟨(some 35), .call .pure false 91, [.t 34], none⟩,
 ⟨(some 4), .mv, [.t 35], none⟩])
 (.ret))))))))⟩
/-- math/bits.Add32 -/
def f103 : AF := ⟨3, 22, [.t 6, .t 7],
 (.seq
 (.reg [⟨(some 6), .mv, [.c (.int .u32 0)], none⟩,
 ⟨(some 7), .mv, [.c (.int .u32 0)], none⟩])
 ((.seq
 (.reg [⟨(some 9), .mv, [.t 0], none⟩,
 ⟨(some 10), .conv .u64, [.t 9], none⟩,
 ⟨(some 11), .mv, [.t 1], none⟩,
 ⟨(some 12), .conv .u64, [.t 11], none⟩,
 ⟨(some 13), .bin .add, [.t 10, .t 12], none⟩,
 ⟨(some 14), .mv, [.t 2], none⟩,
 ⟨(some 15), .conv .u64, [.t 14], none⟩,
 ⟨(some 16), .bin .add, [.t 13, .t 15], none⟩,
 ⟨(some 8), .mv, [.t 16], none⟩])
 ((.seq
 (.reg [⟨(some 17), .mv, [.t 8], none⟩,
 ⟨(some 18), .conv .u32, [.t 17], none⟩,
 ⟨(some 6), .mv, [.t 18], none⟩])
 ((.seq
 (.reg [⟨(some 19), .mv, [.t 8], none⟩,
 ⟨(some 20), .bin .shr, [.t 19, .c (.int .u64 32)], none⟩,
 ⟨(some 21), .conv .u32, [.t 20], none⟩,
 ⟨(some 7), .mv, [.t 21], none⟩])
 (.ret))))))))⟩
/-- (eliminant/integer.nat).at -/
def f104 : AF := ⟨2, 13, [.t 4],
 (.seq
 (.reg [⟨(some 4), .mv, [.c (.int .u32 0)], none⟩])
 ((.seq
 ((.seq
 (.reg [⟨(some 5), .mv, [.t 1], none⟩,
 ⟨(some 6), .mv, [.t 0], none⟩,
 ⟨(some 7), .len, [.t 6], none⟩,
 ⟨(some 8), .bin .lss, [.t 5, .t 7], none⟩])
 (.cond (.t 8)
 ((.seq
 (.reg [⟨(some 9), .mv, [.t 0], none⟩,
 ⟨(some 10), .mv, [.t 1], none⟩,
 ⟨(some 11), .ias 1, [.t 9, .t 10], none⟩,
 ⟨(some 12), .load false 1, [.t 11], none⟩,
 ⟨(some 4), .mv, [.t 12], none⟩])
 (.ret)))
 (.skip))))
 ((.seq
 (.reg [⟨(some 4), .mv, [.c (.int .u32 0)], none⟩])
 (.ret))))))⟩
/-- math/bits.Sub32 -/
def f105 : AF := ⟨3, 25, [.t 6, .t 7],
 (.seq
 (.reg [⟨(some 6), .mv, [.c (.int .u32 0)], none⟩,
 ⟨(some 7), .mv, [.c (.int .u32 0)], none⟩])
 ((.seq
 (.reg [⟨(some 8), .mv, [.t 0], none⟩,
 ⟨(some 9), .mv, [.t 1], none⟩,
 ⟨(some 10), .bin .sub, [.t 8, .t 9], none⟩,
 ⟨(some 11), .mv, [.t 2], none⟩,
 ⟨(some 12), .bin .sub, [.t 10, .t 11], none⟩,
 ⟨(some 6), .mv, [.t 12], none⟩])
 ((.seq
 (.reg [⟨(some 13), .mv, [.t 0], none⟩,
 ⟨(some 14), .un .xor, [.t 13], none⟩,
 ⟨(some 15), .mv, [.t 1], none⟩,
 ⟨(some 16), .bin .and, [.t 14, .t 15], none⟩,
 ⟨(some 17), .mv, [.t 0], none⟩,
 ⟨(some 18), .mv, [.t 1], none⟩,
 ⟨(some 19), .bin .xor, [.t 17, .t 18], none⟩,
 ⟨(some 20), .un .xor, [.t 19], none⟩,
 ⟨(some 21), .mv, [.t 6], none⟩,
 ⟨(some 22), .bin .and, [.t 20, .t 21], none⟩,
 ⟨(some 23), .bin .or, [.t 16, .t 22], none⟩,
 ⟨(some 24), .bin .shr, [.t 23, .c (.int .u64 31)], none⟩,
 ⟨(some 7), .mv, [.t 24], none⟩])
 (.ret))))))⟩
/-- cmp.Compare[uint32] -/
def f106 : AF := ⟨2, 20, [.t 4],
 (.seq
 (.reg [⟨(some 4), .mv, [.c (.int .i64 0)], none⟩])
 ((.seq
 (.reg [⟨(some 7), .mv, [.t 0], none⟩,
 ⟨(some 8), .call .pure false 108, [.t 7], none⟩,
 ⟨(some 5), .mv, [.t 8], none⟩])
 ((.seq
 (.reg [⟨(some 9), .mv, [.t 1], none⟩,
 ⟨(some 10), .call .pure false 108, [.t 9], none⟩,
 ⟨(some 6), .mv, [.t 10], none⟩])
 ((.seq
 ((.seq
 (.reg [⟨(some 11), .mv, [.t 5], none⟩])
 (.cond (.t 11)
 ((.seq
 ((.seq
 (.reg [⟨(some 12), .mv, [.t 6], none⟩])
 (.cond (.t 12)
 ((.seq
 (.reg [⟨(some 4), .mv, [.c (.int .i64 0)], none⟩])
 (.ret)))
 (.skip))))
 ((.seq
 (.reg [⟨(some 4), .mv, [.c (.int .i64 (-1))], none⟩])
 (.ret)))))
 (.skip))))
 ((.seq
 ((.seq
 (.reg [⟨(some 13), .mv, [.t 6], none⟩])
 (.cond (.t 13)
 ((.seq
 (.reg [⟨(some 4), .mv, [.c (.int .i64 1)], none⟩])
 (.ret)))
 (.skip))))
 ((.seq
 ((.seq
 (.reg [⟨(some 14), .mv, [.t 0], none⟩,
 ⟨(some 15), .mv, [.t 1], none⟩,
 ⟨(some 16), .bin .lss, [.t 14, .t 15], none⟩])
 (.cond (.t 16)
 ((.seq
 (.reg [⟨(some 4), .mv, [.c (.int .i64 (-1))], none⟩])
 (.ret)))
 (.skip))))
 ((.seq
 ((.seq
 (.reg [⟨(some 17), .mv, [.t 0], none⟩,
 ⟨(some 18), .mv, [.t 1], none⟩,
 ⟨(some 19), .bin .gtr, [.t 17, .t 18], none⟩])
 (.cond (.t 19)
 ((.seq
 (.reg [⟨(some 4), .mv, [.c (.int .i64 1)], none⟩])
 (.ret)))
 (.skip))))
 ((.seq
 (.reg [⟨(some 4), .mv, [.c (.int .i64 0)], none⟩])
 (.ret))))))))))))))))⟩
/-- math/bits.Div32 -/
def f107 : AF := ⟨3, 33, [.t 6, .t 7],
 (.seq
 (.reg [⟨(some 6), .mv, [.c (.int .u32 0)], none⟩,
 ⟨(some 7), .mv, [.c (.int .u32 0)], none⟩])
 ((.seq
 ((.seq
 (.reg [⟨(some 9), .mv, [.t 2], none⟩,
 ⟨(some 10), .bin .neq, [.t 9, .c (.int .u32 0)], none⟩,
 ⟨(some 11), .mv, [.t 10], none⟩,
 ⟨(some 12), .mv, [.t 2], (some (11, true))⟩,
 ⟨(some 13), .mv, [.t 0], (some (11, true))⟩,
 ⟨(some 14), .bin .leq, [.t 12, .t 13], (some (11, true))⟩,
 ⟨(some 15), .pick, [.t 11, .t 14, .c (.bool false)], none⟩])
 (.cond (.t 15)
 (.reg [⟨(some 16), .stop, [], none⟩,
 ⟨none, .stop, [], none⟩])
 (.skip))))
 ((.seq
 (.reg [⟨(some 17), .mv, [.t 0], none⟩,
 ⟨(some 18), .conv .u64, [.t 17], none⟩,
 ⟨(some 19), .bin .shl, [.t 18, .c (.int .u64 32)], none⟩,
 ⟨(some 20), .mv, [.t 1], none⟩,
 ⟨(some 21), .conv .u64, [.t 20], none⟩,
 ⟨(some 22), .bin .or, [.t 19, .t 21], none⟩,
 ⟨(some 8), .mv, [.t 22], none⟩])
 ((.seq
 (.reg [⟨(some 23), .mv, [.t 8], none⟩,
 ⟨(some 24), .mv, [.t 2], none⟩,
 ⟨(some 25), .conv .u64, [.t 24], none⟩,
 ⟨(some 26), .bin .quo, [.t 23, .t 25], none⟩,
 ⟨(some 27), .conv .u32, [.t 26], none⟩,
 ⟨(some 28), .mv, [.t 8], none⟩,
 ⟨(some 29), .mv, [.t 2], none⟩,
 ⟨(some 30), .conv .u64, [.t 29], none⟩,
 ⟨(some 31), .bin .rem, [.t 28, .t 30], none⟩,
 ⟨(some 32), .conv .u32, [.t 31], none⟩,
 ⟨(some 6), .mv, [.t 27], none⟩,
 ⟨(some 7), .mv, [.t 32], none⟩])
 (.ret))))))))⟩
/-- cmp.isNaN[uint32] -/
def f108 : AF := ⟨1, 6, [.t 2],
 (.seq
 (.reg [⟨(some 2), .mv, [.c (.bool false)], none⟩])
 ((.seq
 (.reg [⟨(some 3), .mv, [.t 0], none⟩,
 ⟨(some 4), .mv, [.t 0], none⟩,
 ⟨(some 5), .bin .neq, [.t 3, .t 4], none⟩,
 ⟨(some 2), .mv, [.t 5], none⟩])
 (.ret))))⟩
end Go.AVM

