/- The tellings tell the code: reckoned, function by function. -/
import Derived.Test.YtlpbjbgfgfjnlaaAvExec
import Derived.Test.YtlpbjbgfgfjnlaaAvTab
import Derived.Test.YtlpbjbgfgfjnlaaChecked
import Derived.KernelRfl
namespace Go.AVM
open Go.Proofs
def midL : List (Option Nat) := [none, none, none, some 3, some 4, some 5, some 6, some 7, some 8, some 9, some 10, some 11, some 12, some 13, some 14, some 15, some 16, some 17, some 18, some 19, some 20, some 21, some 22, some 23, some 24, some 25, some 26, some 27, some 28, some 29, some 30, some 31, some 32, some 33, some 34, some 35, some 36, some 37, some 38, some 39, some 40, some 41, some 42, some 43, some 44, some 45, some 46, some 47, some 48, some 49, some 50, some 51, some 52, some 53, some 54, some 55, some 56, some 57, some 58, some 59, some 60, some 61, some 62, some 63, some 64, some 65, some 66, some 67, some 68, some 69, some 70, some 71, some 72, some 73, some 74, some 75, some 76, some 77, some 78, some 79, some 80, some 81, some 82, some 83, some 84, some 85, some 86, some 87, some 88, some 89, some 90, some 91, some 92, some 93, some 94, some 95, some 96, some 97, some 98, some 99, some 100, some 101, some 102, some 103, some 104, some 105, some 106, some 107, some 108]
def mid : FuncId → Option Nat := fun f => (midL[f]?).join
def fidL : List (Nat × FuncId) := [(3, 3), (4, 4), (5, 5), (6, 6), (7, 7), (8, 8), (9, 9), (10, 10), (11, 11), (12, 12), (13, 13), (14, 14), (15, 15), (16, 16), (17, 17), (18, 18), (19, 19), (20, 20), (21, 21), (22, 22), (23, 23), (24, 24), (25, 25), (26, 26), (27, 27), (28, 28), (29, 29), (30, 30), (31, 31), (32, 32), (33, 33), (34, 34), (35, 35), (36, 36), (37, 37), (38, 38), (39, 39), (40, 40), (41, 41), (42, 42), (43, 43), (44, 44), (45, 45), (46, 46), (47, 47), (48, 48), (49, 49), (50, 50), (51, 51), (52, 52), (53, 53), (54, 54), (55, 55), (56, 56), (57, 57), (58, 58), (59, 59), (60, 60), (61, 61), (62, 62), (63, 63), (64, 64), (65, 65), (66, 66), (67, 67), (68, 68), (69, 69), (70, 70), (71, 71), (72, 72), (73, 73), (74, 74), (75, 75), (76, 76), (77, 77), (78, 78), (79, 79), (80, 80), (81, 81), (82, 82), (83, 83), (84, 84), (85, 85), (86, 86), (87, 87), (88, 88), (89, 89), (90, 90), (91, 91), (92, 92), (93, 93), (94, 94), (95, 95), (96, 96), (97, 97), (98, 98), (99, 99), (100, 100), (101, 101), (102, 102), (103, 103), (104, 104), (105, 105), (106, 106), (107, 107), (108, 108)]
def fid : Nat → FuncId := fun n => ((fidL.find? fun p => p.1 == n).map (·.2)).getD 0
theorem ok_3 : okF Try.prog mid Try.f3 f3 = true := by kernel_rfl
theorem ok_4 : okF Try.prog mid Try.f4 f4 = true := by kernel_rfl
theorem ok_5 : okF Try.prog mid Try.f5 f5 = true := by kernel_rfl
theorem ok_6 : okF Try.prog mid Try.f6 f6 = true := by kernel_rfl
theorem ok_7 : okF Try.prog mid Try.f7 f7 = true := by kernel_rfl
theorem ok_8 : okF Try.prog mid Try.f8 f8 = true := by kernel_rfl
theorem ok_9 : okF Try.prog mid Try.f9 f9 = true := by kernel_rfl
theorem ok_10 : okF Try.prog mid Try.f10 f10 = true := by kernel_rfl
theorem ok_11 : okF Try.prog mid Try.f11 f11 = true := by kernel_rfl
theorem ok_12 : okF Try.prog mid Try.f12 f12 = true := by kernel_rfl
theorem ok_13 : okF Try.prog mid Try.f13 f13 = true := by kernel_rfl
theorem ok_14 : okF Try.prog mid Try.f14 f14 = true := by kernel_rfl
theorem ok_15 : okF Try.prog mid Try.f15 f15 = true := by kernel_rfl
theorem ok_16 : okF Try.prog mid Try.f16 f16 = true := by kernel_rfl
theorem ok_17 : okF Try.prog mid Try.f17 f17 = true := by kernel_rfl
theorem ok_18 : okF Try.prog mid Try.f18 f18 = true := by kernel_rfl
theorem ok_19 : okF Try.prog mid Try.f19 f19 = true := by kernel_rfl
theorem ok_20 : okF Try.prog mid Try.f20 f20 = true := by kernel_rfl
theorem ok_21 : okF Try.prog mid Try.f21 f21 = true := by kernel_rfl
theorem ok_22 : okF Try.prog mid Try.f22 f22 = true := by kernel_rfl
theorem ok_23 : okF Try.prog mid Try.f23 f23 = true := by kernel_rfl
theorem ok_24 : okF Try.prog mid Try.f24 f24 = true := by kernel_rfl
theorem ok_25 : okF Try.prog mid Try.f25 f25 = true := by kernel_rfl
theorem ok_26 : okF Try.prog mid Try.f26 f26 = true := by kernel_rfl
theorem ok_27 : okF Try.prog mid Try.f27 f27 = true := by kernel_rfl
theorem ok_28 : okF Try.prog mid Try.f28 f28 = true := by kernel_rfl
theorem ok_29 : okF Try.prog mid Try.f29 f29 = true := by kernel_rfl
theorem ok_30 : okF Try.prog mid Try.f30 f30 = true := by kernel_rfl
theorem ok_31 : okF Try.prog mid Try.f31 f31 = true := by kernel_rfl
theorem ok_32 : okF Try.prog mid Try.f32 f32 = true := by kernel_rfl
theorem ok_33 : okF Try.prog mid Try.f33 f33 = true := by kernel_rfl
theorem ok_34 : okF Try.prog mid Try.f34 f34 = true := by kernel_rfl
theorem ok_35 : okF Try.prog mid Try.f35 f35 = true := by kernel_rfl
theorem ok_36 : okF Try.prog mid Try.f36 f36 = true := by kernel_rfl
theorem ok_37 : okF Try.prog mid Try.f37 f37 = true := by kernel_rfl
theorem ok_38 : okF Try.prog mid Try.f38 f38 = true := by kernel_rfl
theorem ok_39 : okF Try.prog mid Try.f39 f39 = true := by kernel_rfl
theorem ok_40 : okF Try.prog mid Try.f40 f40 = true := by kernel_rfl
theorem ok_41 : okF Try.prog mid Try.f41 f41 = true := by kernel_rfl
theorem ok_42 : okF Try.prog mid Try.f42 f42 = true := by kernel_rfl
theorem ok_43 : okF Try.prog mid Try.f43 f43 = true := by kernel_rfl
theorem ok_44 : okF Try.prog mid Try.f44 f44 = true := by kernel_rfl
theorem ok_45 : okF Try.prog mid Try.f45 f45 = true := by kernel_rfl
theorem ok_46 : okF Try.prog mid Try.f46 f46 = true := by kernel_rfl
theorem ok_47 : okF Try.prog mid Try.f47 f47 = true := by kernel_rfl
theorem ok_48 : okF Try.prog mid Try.f48 f48 = true := by kernel_rfl
theorem ok_49 : okF Try.prog mid Try.f49 f49 = true := by kernel_rfl
theorem ok_50 : okF Try.prog mid Try.f50 f50 = true := by kernel_rfl
theorem ok_51 : okF Try.prog mid Try.f51 f51 = true := by kernel_rfl
theorem ok_52 : okF Try.prog mid Try.f52 f52 = true := by kernel_rfl
theorem ok_53 : okF Try.prog mid Try.f53 f53 = true := by kernel_rfl
theorem ok_54 : okF Try.prog mid Try.f54 f54 = true := by kernel_rfl
theorem ok_55 : okF Try.prog mid Try.f55 f55 = true := by kernel_rfl
theorem ok_56 : okF Try.prog mid Try.f56 f56 = true := by kernel_rfl
theorem ok_57 : okF Try.prog mid Try.f57 f57 = true := by kernel_rfl
theorem ok_58 : okF Try.prog mid Try.f58 f58 = true := by kernel_rfl
theorem ok_59 : okF Try.prog mid Try.f59 f59 = true := by kernel_rfl
theorem ok_60 : okF Try.prog mid Try.f60 f60 = true := by kernel_rfl
theorem ok_61 : okF Try.prog mid Try.f61 f61 = true := by kernel_rfl
theorem ok_62 : okF Try.prog mid Try.f62 f62 = true := by kernel_rfl
theorem ok_63 : okF Try.prog mid Try.f63 f63 = true := by kernel_rfl
theorem ok_64 : okF Try.prog mid Try.f64 f64 = true := by kernel_rfl
theorem ok_65 : okF Try.prog mid Try.f65 f65 = true := by kernel_rfl
theorem ok_66 : okF Try.prog mid Try.f66 f66 = true := by kernel_rfl
theorem ok_67 : okF Try.prog mid Try.f67 f67 = true := by kernel_rfl
theorem ok_68 : okF Try.prog mid Try.f68 f68 = true := by kernel_rfl
theorem ok_69 : okF Try.prog mid Try.f69 f69 = true := by kernel_rfl
theorem ok_70 : okF Try.prog mid Try.f70 f70 = true := by kernel_rfl
theorem ok_71 : okF Try.prog mid Try.f71 f71 = true := by kernel_rfl
theorem ok_72 : okF Try.prog mid Try.f72 f72 = true := by kernel_rfl
theorem ok_73 : okF Try.prog mid Try.f73 f73 = true := by kernel_rfl
theorem ok_74 : okF Try.prog mid Try.f74 f74 = true := by kernel_rfl
theorem ok_75 : okF Try.prog mid Try.f75 f75 = true := by kernel_rfl
theorem ok_76 : okF Try.prog mid Try.f76 f76 = true := by kernel_rfl
theorem ok_77 : okF Try.prog mid Try.f77 f77 = true := by kernel_rfl
theorem ok_78 : okF Try.prog mid Try.f78 f78 = true := by kernel_rfl
theorem ok_79 : okF Try.prog mid Try.f79 f79 = true := by kernel_rfl
theorem ok_80 : okF Try.prog mid Try.f80 f80 = true := by kernel_rfl
theorem ok_81 : okF Try.prog mid Try.f81 f81 = true := by kernel_rfl
theorem ok_82 : okF Try.prog mid Try.f82 f82 = true := by kernel_rfl
theorem ok_83 : okF Try.prog mid Try.f83 f83 = true := by kernel_rfl
theorem ok_84 : okF Try.prog mid Try.f84 f84 = true := by kernel_rfl
theorem ok_85 : okF Try.prog mid Try.f85 f85 = true := by kernel_rfl
theorem ok_86 : okF Try.prog mid Try.f86 f86 = true := by kernel_rfl
theorem ok_87 : okF Try.prog mid Try.f87 f87 = true := by kernel_rfl
theorem ok_88 : okF Try.prog mid Try.f88 f88 = true := by kernel_rfl
theorem ok_89 : okF Try.prog mid Try.f89 f89 = true := by kernel_rfl
theorem ok_90 : okF Try.prog mid Try.f90 f90 = true := by kernel_rfl
theorem ok_91 : okF Try.prog mid Try.f91 f91 = true := by kernel_rfl
theorem ok_92 : okF Try.prog mid Try.f92 f92 = true := by kernel_rfl
theorem ok_93 : okF Try.prog mid Try.f93 f93 = true := by kernel_rfl
theorem ok_94 : okF Try.prog mid Try.f94 f94 = true := by kernel_rfl
theorem ok_95 : okF Try.prog mid Try.f95 f95 = true := by kernel_rfl
theorem ok_96 : okF Try.prog mid Try.f96 f96 = true := by kernel_rfl
theorem ok_97 : okF Try.prog mid Try.f97 f97 = true := by kernel_rfl
theorem ok_98 : okF Try.prog mid Try.f98 f98 = true := by kernel_rfl
theorem ok_99 : okF Try.prog mid Try.f99 f99 = true := by kernel_rfl
theorem ok_100 : okF Try.prog mid Try.f100 f100 = true := by kernel_rfl
theorem ok_101 : okF Try.prog mid Try.f101 f101 = true := by kernel_rfl
theorem ok_102 : okF Try.prog mid Try.f102 f102 = true := by kernel_rfl
theorem ok_103 : okF Try.prog mid Try.f103 f103 = true := by kernel_rfl
theorem ok_104 : okF Try.prog mid Try.f104 f104 = true := by kernel_rfl
theorem ok_105 : okF Try.prog mid Try.f105 f105 = true := by kernel_rfl
theorem ok_106 : okF Try.prog mid Try.f106 f106 = true := by kernel_rfl
theorem ok_107 : okF Try.prog mid Try.f107 f107 = true := by kernel_rfl
theorem ok_108 : okF Try.prog mid Try.f108 f108 = true := by kernel_rfl
end Go.AVM
