/- Texts joined: AvChk, AvProg, AvOpen, AvRow. -/
import Derived.Test.YtlpbjbgfgfjnlaaGreatChecked
import Derived.KernelRfl
import Derived.Test.YtlpbjbgfgfjnlaaGreatAvMatch3
import Derived.Test.YtlpbjbgfgfjnlaaGreatAvMatch5
import Derived.Eval
import GoSem.ClaimJoined
import Derived.Test.YtlpbjbgfgfjnlaaGreatRows
import Derived.ProofKit
set_option linter.unusedVariables false
set_option linter.unusedSimpArgs false
set_option linter.unusedSectionVars false
namespace Go.AVM
open Go.Proofs
def midL : List (Option Nat) := [none, none, none, some 127, some 128, some 8, some 9, some 10, some 13, some 129, some 27, some 28, some 130, some 29, some 131, some 32, some 14, some 11, some 132, some 22, some 133, some 19, some 134, some 20, some 135, some 21, some 136, some 23, some 137, some 24, some 138, some 34, some 15, some 17, some 139, some 140, some 44, some 45, some 41, some 141, some 142, some 143, some 35, some 36, some 37, some 38, some 42, some 43, some 25, some 40, some 39, some 52, some 53, some 54, some 55, some 56, some 57, some 58, some 59, some 144, some 145, some 146, some 147, some 148, some 49, some 50, some 51, some 71, some 72, some 73, some 74, some 75, some 76, some 77, some 149, some 150, some 151, some 152, some 153, some 154, some 60, some 61, some 62, some 63, some 64, some 65, some 66, some 67, some 68, some 69, some 70, some 83, some 84, some 85, some 86, some 87, some 88, some 89, some 155, some 156, some 157, some 158, some 159, some 160, some 161, some 162, some 78, some 79, some 80, some 81, some 82, some 91, some 92, some 93, some 94, some 95, some 96, some 97, some 163, some 164, some 165, some 166, some 90, some 98, some 99, some 100, some 101, some 102, some 103, some 104, some 105, some 106, some 167, some 168, some 169, some 170, some 171, some 172, some 107, some 108, some 173, some 174, some 175, some 176, some 177]
def mid : FuncId → Option Nat := fun f => (midL[f]?).join
def fidL : List (Nat × FuncId) := [(127, 3), (128, 4), (8, 5), (9, 6), (10, 7), (13, 8), (129, 9), (27, 10), (28, 11), (130, 12), (29, 13), (131, 14), (32, 15), (14, 16), (11, 17), (132, 18), (22, 19), (133, 20), (19, 21), (134, 22), (20, 23), (135, 24), (21, 25), (136, 26), (23, 27), (137, 28), (24, 29), (138, 30), (34, 31), (15, 32), (17, 33), (139, 34), (140, 35), (44, 36), (45, 37), (41, 38), (141, 39), (142, 40), (143, 41), (35, 42), (36, 43), (37, 44), (38, 45), (42, 46), (43, 47), (25, 48), (40, 49), (39, 50), (52, 51), (53, 52), (54, 53), (55, 54), (56, 55), (57, 56), (58, 57), (59, 58), (144, 59), (145, 60), (146, 61), (147, 62), (148, 63), (49, 64), (50, 65), (51, 66), (71, 67), (72, 68), (73, 69), (74, 70), (75, 71), (76, 72), (77, 73), (149, 74), (150, 75), (151, 76), (152, 77), (153, 78), (154, 79), (60, 80), (61, 81), (62, 82), (63, 83), (64, 84), (65, 85), (66, 86), (67, 87), (68, 88), (69, 89), (70, 90), (83, 91), (84, 92), (85, 93), (86, 94), (87, 95), (88, 96), (89, 97), (155, 98), (156, 99), (157, 100), (158, 101), (159, 102), (160, 103), (161, 104), (162, 105), (78, 106), (79, 107), (80, 108), (81, 109), (82, 110), (91, 111), (92, 112), (93, 113), (94, 114), (95, 115), (96, 116), (97, 117), (163, 118), (164, 119), (165, 120), (166, 121), (90, 122), (98, 123), (99, 124), (100, 125), (101, 126), (102, 127), (103, 128), (104, 129), (105, 130), (106, 131), (167, 132), (168, 133), (169, 134), (170, 135), (171, 136), (172, 137), (107, 138), (108, 139), (173, 140), (174, 141), (175, 142), (176, 143), (177, 144)]
def fid : Nat → FuncId := fun n => ((fidL.find? fun p => p.1 == n).map (·.2)).getD 0
theorem ok_127 : okF Tryz.prog mid Tryz.f3 f127 = true := by kernel_rfl
theorem ok_8 : okF Tryz.prog mid Tryz.f5 f8 = true := by kernel_rfl
theorem ok_9 : okF Tryz.prog mid Tryz.f6 f9 = true := by kernel_rfl
theorem ok_10 : okF Tryz.prog mid Tryz.f7 f10 = true := by kernel_rfl
theorem ok_13 : okF Tryz.prog mid Tryz.f8 f13 = true := by kernel_rfl
theorem ok_129 : okF Tryz.prog mid Tryz.f9 f129 = true := by kernel_rfl
theorem ok_27 : okF Tryz.prog mid Tryz.f10 f27 = true := by kernel_rfl
theorem ok_28 : okF Tryz.prog mid Tryz.f11 f28 = true := by kernel_rfl
theorem ok_130 : okF Tryz.prog mid Tryz.f12 f130 = true := by kernel_rfl
theorem ok_29 : okF Tryz.prog mid Tryz.f13 f29 = true := by kernel_rfl
theorem ok_131 : okF Tryz.prog mid Tryz.f14 f131 = true := by kernel_rfl
theorem ok_32 : okF Tryz.prog mid Tryz.f15 f32 = true := by kernel_rfl
theorem ok_14 : okF Tryz.prog mid Tryz.f16 f14 = true := by kernel_rfl
theorem ok_11 : okF Tryz.prog mid Tryz.f17 f11 = true := by kernel_rfl
theorem ok_132 : okF Tryz.prog mid Tryz.f18 f132 = true := by kernel_rfl
theorem ok_22 : okF Tryz.prog mid Tryz.f19 f22 = true := by kernel_rfl
theorem ok_133 : okF Tryz.prog mid Tryz.f20 f133 = true := by kernel_rfl
theorem ok_19 : okF Tryz.prog mid Tryz.f21 f19 = true := by kernel_rfl
theorem ok_134 : okF Tryz.prog mid Tryz.f22 f134 = true := by kernel_rfl
theorem ok_20 : okF Tryz.prog mid Tryz.f23 f20 = true := by kernel_rfl
theorem ok_135 : okF Tryz.prog mid Tryz.f24 f135 = true := by kernel_rfl
theorem ok_21 : okF Tryz.prog mid Tryz.f25 f21 = true := by kernel_rfl
theorem ok_136 : okF Tryz.prog mid Tryz.f26 f136 = true := by kernel_rfl
theorem ok_23 : okF Tryz.prog mid Tryz.f27 f23 = true := by kernel_rfl
theorem ok_137 : okF Tryz.prog mid Tryz.f28 f137 = true := by kernel_rfl
theorem ok_24 : okF Tryz.prog mid Tryz.f29 f24 = true := by kernel_rfl
theorem ok_138 : okF Tryz.prog mid Tryz.f30 f138 = true := by kernel_rfl
theorem ok_34 : okF Tryz.prog mid Tryz.f31 f34 = true := by kernel_rfl
theorem ok_15 : okF Tryz.prog mid Tryz.f32 f15 = true := by kernel_rfl
theorem ok_17 : okF Tryz.prog mid Tryz.f33 f17 = true := by kernel_rfl
theorem ok_139 : okF Tryz.prog mid Tryz.f34 f139 = true := by kernel_rfl
theorem ok_140 : okF Tryz.prog mid Tryz.f35 f140 = true := by kernel_rfl
theorem ok_45 : okF Tryz.prog mid Tryz.f37 f45 = true := by kernel_rfl
theorem ok_41 : okF Tryz.prog mid Tryz.f38 f41 = true := by kernel_rfl
theorem ok_141 : okF Tryz.prog mid Tryz.f39 f141 = true := by kernel_rfl
theorem ok_142 : okF Tryz.prog mid Tryz.f40 f142 = true := by kernel_rfl
theorem ok_143 : okF Tryz.prog mid Tryz.f41 f143 = true := by kernel_rfl
theorem ok_36 : okF Tryz.prog mid Tryz.f43 f36 = true := by kernel_rfl
theorem ok_37 : okF Tryz.prog mid Tryz.f44 f37 = true := by kernel_rfl
theorem ok_38 : okF Tryz.prog mid Tryz.f45 f38 = true := by kernel_rfl
theorem ok_42 : okF Tryz.prog mid Tryz.f46 f42 = true := by kernel_rfl
theorem ok_43 : okF Tryz.prog mid Tryz.f47 f43 = true := by kernel_rfl
theorem ok_25 : okF Tryz.prog mid Tryz.f48 f25 = true := by kernel_rfl
theorem ok_40 : okF Tryz.prog mid Tryz.f49 f40 = true := by kernel_rfl
theorem ok_39 : okF Tryz.prog mid Tryz.f50 f39 = true := by kernel_rfl
theorem ok_52 : okF Tryz.prog mid Tryz.f51 f52 = true := by kernel_rfl
theorem ok_53 : okF Tryz.prog mid Tryz.f52 f53 = true := by kernel_rfl
theorem ok_54 : okF Tryz.prog mid Tryz.f53 f54 = true := by kernel_rfl
theorem ok_55 : okF Tryz.prog mid Tryz.f54 f55 = true := by kernel_rfl
theorem ok_56 : okF Tryz.prog mid Tryz.f55 f56 = true := by kernel_rfl
theorem ok_57 : okF Tryz.prog mid Tryz.f56 f57 = true := by kernel_rfl
theorem ok_58 : okF Tryz.prog mid Tryz.f57 f58 = true := by kernel_rfl
theorem ok_59 : okF Tryz.prog mid Tryz.f58 f59 = true := by kernel_rfl
theorem ok_144 : okF Tryz.prog mid Tryz.f59 f144 = true := by kernel_rfl
theorem ok_145 : okF Tryz.prog mid Tryz.f60 f145 = true := by kernel_rfl
theorem ok_146 : okF Tryz.prog mid Tryz.f61 f146 = true := by kernel_rfl
theorem ok_147 : okF Tryz.prog mid Tryz.f62 f147 = true := by kernel_rfl
theorem ok_148 : okF Tryz.prog mid Tryz.f63 f148 = true := by kernel_rfl
theorem ok_49 : okF Tryz.prog mid Tryz.f64 f49 = true := by kernel_rfl
theorem ok_50 : okF Tryz.prog mid Tryz.f65 f50 = true := by kernel_rfl
theorem ok_51 : okF Tryz.prog mid Tryz.f66 f51 = true := by kernel_rfl
theorem ok_71 : okF Tryz.prog mid Tryz.f67 f71 = true := by kernel_rfl
theorem ok_72 : okF Tryz.prog mid Tryz.f68 f72 = true := by kernel_rfl
theorem ok_73 : okF Tryz.prog mid Tryz.f69 f73 = true := by kernel_rfl
theorem ok_74 : okF Tryz.prog mid Tryz.f70 f74 = true := by kernel_rfl
theorem ok_75 : okF Tryz.prog mid Tryz.f71 f75 = true := by kernel_rfl
theorem ok_76 : okF Tryz.prog mid Tryz.f72 f76 = true := by kernel_rfl
theorem ok_77 : okF Tryz.prog mid Tryz.f73 f77 = true := by kernel_rfl
theorem ok_149 : okF Tryz.prog mid Tryz.f74 f149 = true := by kernel_rfl
theorem ok_150 : okF Tryz.prog mid Tryz.f75 f150 = true := by kernel_rfl
theorem ok_151 : okF Tryz.prog mid Tryz.f76 f151 = true := by kernel_rfl
theorem ok_152 : okF Tryz.prog mid Tryz.f77 f152 = true := by kernel_rfl
theorem ok_153 : okF Tryz.prog mid Tryz.f78 f153 = true := by kernel_rfl
theorem ok_154 : okF Tryz.prog mid Tryz.f79 f154 = true := by kernel_rfl
theorem ok_60 : okF Tryz.prog mid Tryz.f80 f60 = true := by kernel_rfl
theorem ok_61 : okF Tryz.prog mid Tryz.f81 f61 = true := by kernel_rfl
theorem ok_62 : okF Tryz.prog mid Tryz.f82 f62 = true := by kernel_rfl
theorem ok_63 : okF Tryz.prog mid Tryz.f83 f63 = true := by kernel_rfl
theorem ok_64 : okF Tryz.prog mid Tryz.f84 f64 = true := by kernel_rfl
theorem ok_65 : okF Tryz.prog mid Tryz.f85 f65 = true := by kernel_rfl
theorem ok_66 : okF Tryz.prog mid Tryz.f86 f66 = true := by kernel_rfl
theorem ok_67 : okF Tryz.prog mid Tryz.f87 f67 = true := by kernel_rfl
theorem ok_68 : okF Tryz.prog mid Tryz.f88 f68 = true := by kernel_rfl
theorem ok_69 : okF Tryz.prog mid Tryz.f89 f69 = true := by kernel_rfl
theorem ok_70 : okF Tryz.prog mid Tryz.f90 f70 = true := by kernel_rfl
theorem ok_83 : okF Tryz.prog mid Tryz.f91 f83 = true := by kernel_rfl
theorem ok_84 : okF Tryz.prog mid Tryz.f92 f84 = true := by kernel_rfl
theorem ok_85 : okF Tryz.prog mid Tryz.f93 f85 = true := by kernel_rfl
theorem ok_86 : okF Tryz.prog mid Tryz.f94 f86 = true := by kernel_rfl
theorem ok_87 : okF Tryz.prog mid Tryz.f95 f87 = true := by kernel_rfl
theorem ok_88 : okF Tryz.prog mid Tryz.f96 f88 = true := by kernel_rfl
theorem ok_89 : okF Tryz.prog mid Tryz.f97 f89 = true := by kernel_rfl
theorem ok_155 : okF Tryz.prog mid Tryz.f98 f155 = true := by kernel_rfl
theorem ok_156 : okF Tryz.prog mid Tryz.f99 f156 = true := by kernel_rfl
theorem ok_157 : okF Tryz.prog mid Tryz.f100 f157 = true := by kernel_rfl
theorem ok_158 : okF Tryz.prog mid Tryz.f101 f158 = true := by kernel_rfl
theorem ok_159 : okF Tryz.prog mid Tryz.f102 f159 = true := by kernel_rfl
theorem ok_160 : okF Tryz.prog mid Tryz.f103 f160 = true := by kernel_rfl
theorem ok_161 : okF Tryz.prog mid Tryz.f104 f161 = true := by kernel_rfl
theorem ok_162 : okF Tryz.prog mid Tryz.f105 f162 = true := by kernel_rfl
theorem ok_78 : okF Tryz.prog mid Tryz.f106 f78 = true := by kernel_rfl
theorem ok_79 : okF Tryz.prog mid Tryz.f107 f79 = true := by kernel_rfl
theorem ok_80 : okF Tryz.prog mid Tryz.f108 f80 = true := by kernel_rfl
theorem ok_81 : okF Tryz.prog mid Tryz.f109 f81 = true := by kernel_rfl
theorem ok_82 : okF Tryz.prog mid Tryz.f110 f82 = true := by kernel_rfl
theorem ok_91 : okF Tryz.prog mid Tryz.f111 f91 = true := by kernel_rfl
theorem ok_93 : okF Tryz.prog mid Tryz.f113 f93 = true := by kernel_rfl
theorem ok_94 : okF Tryz.prog mid Tryz.f114 f94 = true := by kernel_rfl
theorem ok_95 : okF Tryz.prog mid Tryz.f115 f95 = true := by kernel_rfl
theorem ok_96 : okF Tryz.prog mid Tryz.f116 f96 = true := by kernel_rfl
theorem ok_97 : okF Tryz.prog mid Tryz.f117 f97 = true := by kernel_rfl
theorem ok_163 : okF Tryz.prog mid Tryz.f118 f163 = true := by kernel_rfl
theorem ok_164 : okF Tryz.prog mid Tryz.f119 f164 = true := by kernel_rfl
theorem ok_165 : okF Tryz.prog mid Tryz.f120 f165 = true := by kernel_rfl
theorem ok_166 : okF Tryz.prog mid Tryz.f121 f166 = true := by kernel_rfl
theorem ok_90 : okF Tryz.prog mid Tryz.f122 f90 = true := by kernel_rfl
theorem ok_98 : okF Tryz.prog mid Tryz.f123 f98 = true := by kernel_rfl
theorem ok_99 : okF Tryz.prog mid Tryz.f124 f99 = true := by kernel_rfl
theorem ok_100 : okF Tryz.prog mid Tryz.f125 f100 = true := by kernel_rfl
theorem ok_101 : okF Tryz.prog mid Tryz.f126 f101 = true := by kernel_rfl
theorem ok_102 : okF Tryz.prog mid Tryz.f127 f102 = true := by kernel_rfl
theorem ok_103 : okF Tryz.prog mid Tryz.f128 f103 = true := by kernel_rfl
theorem ok_104 : okF Tryz.prog mid Tryz.f129 f104 = true := by kernel_rfl
theorem ok_105 : okF Tryz.prog mid Tryz.f130 f105 = true := by kernel_rfl
theorem ok_106 : okF Tryz.prog mid Tryz.f131 f106 = true := by kernel_rfl
theorem ok_167 : okF Tryz.prog mid Tryz.f132 f167 = true := by kernel_rfl
theorem ok_168 : okF Tryz.prog mid Tryz.f133 f168 = true := by kernel_rfl
theorem ok_169 : okF Tryz.prog mid Tryz.f134 f169 = true := by kernel_rfl
theorem ok_170 : okF Tryz.prog mid Tryz.f135 f170 = true := by kernel_rfl
theorem ok_171 : okF Tryz.prog mid Tryz.f136 f171 = true := by kernel_rfl
theorem ok_172 : okF Tryz.prog mid Tryz.f137 f172 = true := by kernel_rfl
theorem ok_107 : okF Tryz.prog mid Tryz.f138 f107 = true := by kernel_rfl
theorem ok_108 : okF Tryz.prog mid Tryz.f139 f108 = true := by kernel_rfl
theorem ok_173 : okF Tryz.prog mid Tryz.f140 f173 = true := by kernel_rfl
theorem ok_174 : okF Tryz.prog mid Tryz.f141 f174 = true := by kernel_rfl
theorem ok_175 : okF Tryz.prog mid Tryz.f142 f175 = true := by kernel_rfl
theorem ok_176 : okF Tryz.prog mid Tryz.f143 f176 = true := by kernel_rfl
theorem ok_177 : okF Tryz.prog mid Tryz.f144 f177 = true := by kernel_rfl
end Go.AVM
namespace Go.AVM
open Go.Proofs
theorem mid_ok : MidOk fid mid := by
  have h : (midL.zipIdx.all fun p => match p.1 with | some m => fid m == p.2 | none => true) = true := by kernel_rfl
  intro f m hm
  unfold mid at hm
  cases hf : midL[f]? with
  | none => rw [hf] at hm; cases hm
  | some o =>
    rw [hf] at hm
    cases o with
    | none => cases hm
    | some m' =>
      simp only [Option.join_some, Option.some.injEq] at hm
      subst hm
      have := List.all_eq_true.1 h (some m', f) (List.mem_iff_getElem?.2 ⟨f, by rw [List.getElem?_zipIdx, hf]; simp⟩)
      simpa using this
theorem fid_127 : fid 127 = 3 := by kernel_rfl
theorem fid_8 : fid 8 = 5 := by kernel_rfl
theorem fid_9 : fid 9 = 6 := by kernel_rfl
theorem fid_10 : fid 10 = 7 := by kernel_rfl
theorem fid_13 : fid 13 = 8 := by kernel_rfl
theorem fid_129 : fid 129 = 9 := by kernel_rfl
theorem fid_27 : fid 27 = 10 := by kernel_rfl
theorem fid_28 : fid 28 = 11 := by kernel_rfl
theorem fid_130 : fid 130 = 12 := by kernel_rfl
theorem fid_29 : fid 29 = 13 := by kernel_rfl
theorem fid_131 : fid 131 = 14 := by kernel_rfl
theorem fid_32 : fid 32 = 15 := by kernel_rfl
theorem fid_14 : fid 14 = 16 := by kernel_rfl
theorem fid_11 : fid 11 = 17 := by kernel_rfl
theorem fid_132 : fid 132 = 18 := by kernel_rfl
theorem fid_22 : fid 22 = 19 := by kernel_rfl
theorem fid_133 : fid 133 = 20 := by kernel_rfl
theorem fid_19 : fid 19 = 21 := by kernel_rfl
theorem fid_134 : fid 134 = 22 := by kernel_rfl
theorem fid_20 : fid 20 = 23 := by kernel_rfl
theorem fid_135 : fid 135 = 24 := by kernel_rfl
theorem fid_21 : fid 21 = 25 := by kernel_rfl
theorem fid_136 : fid 136 = 26 := by kernel_rfl
theorem fid_23 : fid 23 = 27 := by kernel_rfl
theorem fid_137 : fid 137 = 28 := by kernel_rfl
theorem fid_24 : fid 24 = 29 := by kernel_rfl
theorem fid_138 : fid 138 = 30 := by kernel_rfl
theorem fid_34 : fid 34 = 31 := by kernel_rfl
theorem fid_15 : fid 15 = 32 := by kernel_rfl
theorem fid_17 : fid 17 = 33 := by kernel_rfl
theorem fid_139 : fid 139 = 34 := by kernel_rfl
theorem fid_140 : fid 140 = 35 := by kernel_rfl
theorem fid_45 : fid 45 = 37 := by kernel_rfl
theorem fid_41 : fid 41 = 38 := by kernel_rfl
theorem fid_141 : fid 141 = 39 := by kernel_rfl
theorem fid_142 : fid 142 = 40 := by kernel_rfl
theorem fid_143 : fid 143 = 41 := by kernel_rfl
theorem fid_36 : fid 36 = 43 := by kernel_rfl
theorem fid_37 : fid 37 = 44 := by kernel_rfl
theorem fid_38 : fid 38 = 45 := by kernel_rfl
theorem fid_42 : fid 42 = 46 := by kernel_rfl
theorem fid_43 : fid 43 = 47 := by kernel_rfl
theorem fid_25 : fid 25 = 48 := by kernel_rfl
theorem fid_40 : fid 40 = 49 := by kernel_rfl
theorem fid_39 : fid 39 = 50 := by kernel_rfl
theorem fid_52 : fid 52 = 51 := by kernel_rfl
theorem fid_53 : fid 53 = 52 := by kernel_rfl
theorem fid_54 : fid 54 = 53 := by kernel_rfl
theorem fid_55 : fid 55 = 54 := by kernel_rfl
theorem fid_56 : fid 56 = 55 := by kernel_rfl
theorem fid_57 : fid 57 = 56 := by kernel_rfl
theorem fid_58 : fid 58 = 57 := by kernel_rfl
theorem fid_59 : fid 59 = 58 := by kernel_rfl
theorem fid_144 : fid 144 = 59 := by kernel_rfl
theorem fid_145 : fid 145 = 60 := by kernel_rfl
theorem fid_146 : fid 146 = 61 := by kernel_rfl
theorem fid_147 : fid 147 = 62 := by kernel_rfl
theorem fid_148 : fid 148 = 63 := by kernel_rfl
theorem fid_49 : fid 49 = 64 := by kernel_rfl
theorem fid_50 : fid 50 = 65 := by kernel_rfl
theorem fid_51 : fid 51 = 66 := by kernel_rfl
theorem fid_71 : fid 71 = 67 := by kernel_rfl
theorem fid_72 : fid 72 = 68 := by kernel_rfl
theorem fid_73 : fid 73 = 69 := by kernel_rfl
theorem fid_74 : fid 74 = 70 := by kernel_rfl
theorem fid_75 : fid 75 = 71 := by kernel_rfl
theorem fid_76 : fid 76 = 72 := by kernel_rfl
theorem fid_77 : fid 77 = 73 := by kernel_rfl
theorem fid_149 : fid 149 = 74 := by kernel_rfl
theorem fid_150 : fid 150 = 75 := by kernel_rfl
theorem fid_151 : fid 151 = 76 := by kernel_rfl
theorem fid_152 : fid 152 = 77 := by kernel_rfl
theorem fid_153 : fid 153 = 78 := by kernel_rfl
theorem fid_154 : fid 154 = 79 := by kernel_rfl
theorem fid_60 : fid 60 = 80 := by kernel_rfl
theorem fid_61 : fid 61 = 81 := by kernel_rfl
theorem fid_62 : fid 62 = 82 := by kernel_rfl
theorem fid_63 : fid 63 = 83 := by kernel_rfl
theorem fid_64 : fid 64 = 84 := by kernel_rfl
theorem fid_65 : fid 65 = 85 := by kernel_rfl
theorem fid_66 : fid 66 = 86 := by kernel_rfl
theorem fid_67 : fid 67 = 87 := by kernel_rfl
theorem fid_68 : fid 68 = 88 := by kernel_rfl
theorem fid_69 : fid 69 = 89 := by kernel_rfl
theorem fid_70 : fid 70 = 90 := by kernel_rfl
theorem fid_83 : fid 83 = 91 := by kernel_rfl
theorem fid_84 : fid 84 = 92 := by kernel_rfl
theorem fid_85 : fid 85 = 93 := by kernel_rfl
theorem fid_86 : fid 86 = 94 := by kernel_rfl
theorem fid_87 : fid 87 = 95 := by kernel_rfl
theorem fid_88 : fid 88 = 96 := by kernel_rfl
theorem fid_89 : fid 89 = 97 := by kernel_rfl
theorem fid_155 : fid 155 = 98 := by kernel_rfl
theorem fid_156 : fid 156 = 99 := by kernel_rfl
theorem fid_157 : fid 157 = 100 := by kernel_rfl
theorem fid_158 : fid 158 = 101 := by kernel_rfl
theorem fid_159 : fid 159 = 102 := by kernel_rfl
theorem fid_160 : fid 160 = 103 := by kernel_rfl
theorem fid_161 : fid 161 = 104 := by kernel_rfl
theorem fid_162 : fid 162 = 105 := by kernel_rfl
theorem fid_78 : fid 78 = 106 := by kernel_rfl
theorem fid_79 : fid 79 = 107 := by kernel_rfl
theorem fid_80 : fid 80 = 108 := by kernel_rfl
theorem fid_81 : fid 81 = 109 := by kernel_rfl
theorem fid_82 : fid 82 = 110 := by kernel_rfl
theorem fid_91 : fid 91 = 111 := by kernel_rfl
theorem fid_93 : fid 93 = 113 := by kernel_rfl
theorem fid_94 : fid 94 = 114 := by kernel_rfl
theorem fid_95 : fid 95 = 115 := by kernel_rfl
theorem fid_96 : fid 96 = 116 := by kernel_rfl
theorem fid_97 : fid 97 = 117 := by kernel_rfl
theorem fid_163 : fid 163 = 118 := by kernel_rfl
theorem fid_164 : fid 164 = 119 := by kernel_rfl
theorem fid_165 : fid 165 = 120 := by kernel_rfl
theorem fid_166 : fid 166 = 121 := by kernel_rfl
theorem fid_90 : fid 90 = 122 := by kernel_rfl
theorem fid_98 : fid 98 = 123 := by kernel_rfl
theorem fid_99 : fid 99 = 124 := by kernel_rfl
theorem fid_100 : fid 100 = 125 := by kernel_rfl
theorem fid_101 : fid 101 = 126 := by kernel_rfl
theorem fid_102 : fid 102 = 127 := by kernel_rfl
theorem fid_103 : fid 103 = 128 := by kernel_rfl
theorem fid_104 : fid 104 = 129 := by kernel_rfl
theorem fid_105 : fid 105 = 130 := by kernel_rfl
theorem fid_106 : fid 106 = 131 := by kernel_rfl
theorem fid_167 : fid 167 = 132 := by kernel_rfl
theorem fid_168 : fid 168 = 133 := by kernel_rfl
theorem fid_169 : fid 169 = 134 := by kernel_rfl
theorem fid_170 : fid 170 = 135 := by kernel_rfl
theorem fid_171 : fid 171 = 136 := by kernel_rfl
theorem fid_172 : fid 172 = 137 := by kernel_rfl
theorem fid_107 : fid 107 = 138 := by kernel_rfl
theorem fid_108 : fid 108 = 139 := by kernel_rfl
theorem fid_173 : fid 173 = 140 := by kernel_rfl
theorem fid_174 : fid 174 = 141 := by kernel_rfl
theorem fid_175 : fid 175 = 142 := by kernel_rfl
theorem fid_176 : fid 176 = 143 := by kernel_rfl
theorem fid_177 : fid 177 = 144 := by kernel_rfl
theorem prog_ok : ProgOk Tryz.prog fid mid tab := by
  intro f af h
  unfold tab at h
  split at h
  · cases h; exact ⟨Tryz.f3, by rw [fid_127]; exact Tryz.func3, ok_127⟩
  · cases h; exact ⟨Tryz.f5, by rw [fid_8]; exact Tryz.func5, ok_8⟩
  · cases h; exact ⟨Tryz.f6, by rw [fid_9]; exact Tryz.func6, ok_9⟩
  · cases h; exact ⟨Tryz.f7, by rw [fid_10]; exact Tryz.func7, ok_10⟩
  · cases h; exact ⟨Tryz.f8, by rw [fid_13]; exact Tryz.func8, ok_13⟩
  · cases h; exact ⟨Tryz.f9, by rw [fid_129]; exact Tryz.func9, ok_129⟩
  · cases h; exact ⟨Tryz.f10, by rw [fid_27]; exact Tryz.func10, ok_27⟩
  · cases h; exact ⟨Tryz.f11, by rw [fid_28]; exact Tryz.func11, ok_28⟩
  · cases h; exact ⟨Tryz.f12, by rw [fid_130]; exact Tryz.func12, ok_130⟩
  · cases h; exact ⟨Tryz.f13, by rw [fid_29]; exact Tryz.func13, ok_29⟩
  · cases h; exact ⟨Tryz.f14, by rw [fid_131]; exact Tryz.func14, ok_131⟩
  · cases h; exact ⟨Tryz.f15, by rw [fid_32]; exact Tryz.func15, ok_32⟩
  · cases h; exact ⟨Tryz.f16, by rw [fid_14]; exact Tryz.func16, ok_14⟩
  · cases h; exact ⟨Tryz.f17, by rw [fid_11]; exact Tryz.func17, ok_11⟩
  · cases h; exact ⟨Tryz.f18, by rw [fid_132]; exact Tryz.func18, ok_132⟩
  · cases h; exact ⟨Tryz.f19, by rw [fid_22]; exact Tryz.func19, ok_22⟩
  · cases h; exact ⟨Tryz.f20, by rw [fid_133]; exact Tryz.func20, ok_133⟩
  · cases h; exact ⟨Tryz.f21, by rw [fid_19]; exact Tryz.func21, ok_19⟩
  · cases h; exact ⟨Tryz.f22, by rw [fid_134]; exact Tryz.func22, ok_134⟩
  · cases h; exact ⟨Tryz.f23, by rw [fid_20]; exact Tryz.func23, ok_20⟩
  · cases h; exact ⟨Tryz.f24, by rw [fid_135]; exact Tryz.func24, ok_135⟩
  · cases h; exact ⟨Tryz.f25, by rw [fid_21]; exact Tryz.func25, ok_21⟩
  · cases h; exact ⟨Tryz.f26, by rw [fid_136]; exact Tryz.func26, ok_136⟩
  · cases h; exact ⟨Tryz.f27, by rw [fid_23]; exact Tryz.func27, ok_23⟩
  · cases h; exact ⟨Tryz.f28, by rw [fid_137]; exact Tryz.func28, ok_137⟩
  · cases h; exact ⟨Tryz.f29, by rw [fid_24]; exact Tryz.func29, ok_24⟩
  · cases h; exact ⟨Tryz.f30, by rw [fid_138]; exact Tryz.func30, ok_138⟩
  · cases h; exact ⟨Tryz.f31, by rw [fid_34]; exact Tryz.func31, ok_34⟩
  · cases h; exact ⟨Tryz.f32, by rw [fid_15]; exact Tryz.func32, ok_15⟩
  · cases h; exact ⟨Tryz.f33, by rw [fid_17]; exact Tryz.func33, ok_17⟩
  · cases h; exact ⟨Tryz.f34, by rw [fid_139]; exact Tryz.func34, ok_139⟩
  · cases h; exact ⟨Tryz.f35, by rw [fid_140]; exact Tryz.func35, ok_140⟩
  · cases h; exact ⟨Tryz.f37, by rw [fid_45]; exact Tryz.func37, ok_45⟩
  · cases h; exact ⟨Tryz.f38, by rw [fid_41]; exact Tryz.func38, ok_41⟩
  · cases h; exact ⟨Tryz.f39, by rw [fid_141]; exact Tryz.func39, ok_141⟩
  · cases h; exact ⟨Tryz.f40, by rw [fid_142]; exact Tryz.func40, ok_142⟩
  · cases h; exact ⟨Tryz.f41, by rw [fid_143]; exact Tryz.func41, ok_143⟩
  · cases h; exact ⟨Tryz.f43, by rw [fid_36]; exact Tryz.func43, ok_36⟩
  · cases h; exact ⟨Tryz.f44, by rw [fid_37]; exact Tryz.func44, ok_37⟩
  · cases h; exact ⟨Tryz.f45, by rw [fid_38]; exact Tryz.func45, ok_38⟩
  · cases h; exact ⟨Tryz.f46, by rw [fid_42]; exact Tryz.func46, ok_42⟩
  · cases h; exact ⟨Tryz.f47, by rw [fid_43]; exact Tryz.func47, ok_43⟩
  · cases h; exact ⟨Tryz.f48, by rw [fid_25]; exact Tryz.func48, ok_25⟩
  · cases h; exact ⟨Tryz.f49, by rw [fid_40]; exact Tryz.func49, ok_40⟩
  · cases h; exact ⟨Tryz.f50, by rw [fid_39]; exact Tryz.func50, ok_39⟩
  · cases h; exact ⟨Tryz.f51, by rw [fid_52]; exact Tryz.func51, ok_52⟩
  · cases h; exact ⟨Tryz.f52, by rw [fid_53]; exact Tryz.func52, ok_53⟩
  · cases h; exact ⟨Tryz.f53, by rw [fid_54]; exact Tryz.func53, ok_54⟩
  · cases h; exact ⟨Tryz.f54, by rw [fid_55]; exact Tryz.func54, ok_55⟩
  · cases h; exact ⟨Tryz.f55, by rw [fid_56]; exact Tryz.func55, ok_56⟩
  · cases h; exact ⟨Tryz.f56, by rw [fid_57]; exact Tryz.func56, ok_57⟩
  · cases h; exact ⟨Tryz.f57, by rw [fid_58]; exact Tryz.func57, ok_58⟩
  · cases h; exact ⟨Tryz.f58, by rw [fid_59]; exact Tryz.func58, ok_59⟩
  · cases h; exact ⟨Tryz.f59, by rw [fid_144]; exact Tryz.func59, ok_144⟩
  · cases h; exact ⟨Tryz.f60, by rw [fid_145]; exact Tryz.func60, ok_145⟩
  · cases h; exact ⟨Tryz.f61, by rw [fid_146]; exact Tryz.func61, ok_146⟩
  · cases h; exact ⟨Tryz.f62, by rw [fid_147]; exact Tryz.func62, ok_147⟩
  · cases h; exact ⟨Tryz.f63, by rw [fid_148]; exact Tryz.func63, ok_148⟩
  · cases h; exact ⟨Tryz.f64, by rw [fid_49]; exact Tryz.func64, ok_49⟩
  · cases h; exact ⟨Tryz.f65, by rw [fid_50]; exact Tryz.func65, ok_50⟩
  · cases h; exact ⟨Tryz.f66, by rw [fid_51]; exact Tryz.func66, ok_51⟩
  · cases h; exact ⟨Tryz.f67, by rw [fid_71]; exact Tryz.func67, ok_71⟩
  · cases h; exact ⟨Tryz.f68, by rw [fid_72]; exact Tryz.func68, ok_72⟩
  · cases h; exact ⟨Tryz.f69, by rw [fid_73]; exact Tryz.func69, ok_73⟩
  · cases h; exact ⟨Tryz.f70, by rw [fid_74]; exact Tryz.func70, ok_74⟩
  · cases h; exact ⟨Tryz.f71, by rw [fid_75]; exact Tryz.func71, ok_75⟩
  · cases h; exact ⟨Tryz.f72, by rw [fid_76]; exact Tryz.func72, ok_76⟩
  · cases h; exact ⟨Tryz.f73, by rw [fid_77]; exact Tryz.func73, ok_77⟩
  · cases h; exact ⟨Tryz.f74, by rw [fid_149]; exact Tryz.func74, ok_149⟩
  · cases h; exact ⟨Tryz.f75, by rw [fid_150]; exact Tryz.func75, ok_150⟩
  · cases h; exact ⟨Tryz.f76, by rw [fid_151]; exact Tryz.func76, ok_151⟩
  · cases h; exact ⟨Tryz.f77, by rw [fid_152]; exact Tryz.func77, ok_152⟩
  · cases h; exact ⟨Tryz.f78, by rw [fid_153]; exact Tryz.func78, ok_153⟩
  · cases h; exact ⟨Tryz.f79, by rw [fid_154]; exact Tryz.func79, ok_154⟩
  · cases h; exact ⟨Tryz.f80, by rw [fid_60]; exact Tryz.func80, ok_60⟩
  · cases h; exact ⟨Tryz.f81, by rw [fid_61]; exact Tryz.func81, ok_61⟩
  · cases h; exact ⟨Tryz.f82, by rw [fid_62]; exact Tryz.func82, ok_62⟩
  · cases h; exact ⟨Tryz.f83, by rw [fid_63]; exact Tryz.func83, ok_63⟩
  · cases h; exact ⟨Tryz.f84, by rw [fid_64]; exact Tryz.func84, ok_64⟩
  · cases h; exact ⟨Tryz.f85, by rw [fid_65]; exact Tryz.func85, ok_65⟩
  · cases h; exact ⟨Tryz.f86, by rw [fid_66]; exact Tryz.func86, ok_66⟩
  · cases h; exact ⟨Tryz.f87, by rw [fid_67]; exact Tryz.func87, ok_67⟩
  · cases h; exact ⟨Tryz.f88, by rw [fid_68]; exact Tryz.func88, ok_68⟩
  · cases h; exact ⟨Tryz.f89, by rw [fid_69]; exact Tryz.func89, ok_69⟩
  · cases h; exact ⟨Tryz.f90, by rw [fid_70]; exact Tryz.func90, ok_70⟩
  · cases h; exact ⟨Tryz.f91, by rw [fid_83]; exact Tryz.func91, ok_83⟩
  · cases h; exact ⟨Tryz.f92, by rw [fid_84]; exact Tryz.func92, ok_84⟩
  · cases h; exact ⟨Tryz.f93, by rw [fid_85]; exact Tryz.func93, ok_85⟩
  · cases h; exact ⟨Tryz.f94, by rw [fid_86]; exact Tryz.func94, ok_86⟩
  · cases h; exact ⟨Tryz.f95, by rw [fid_87]; exact Tryz.func95, ok_87⟩
  · cases h; exact ⟨Tryz.f96, by rw [fid_88]; exact Tryz.func96, ok_88⟩
  · cases h; exact ⟨Tryz.f97, by rw [fid_89]; exact Tryz.func97, ok_89⟩
  · cases h; exact ⟨Tryz.f98, by rw [fid_155]; exact Tryz.func98, ok_155⟩
  · cases h; exact ⟨Tryz.f99, by rw [fid_156]; exact Tryz.func99, ok_156⟩
  · cases h; exact ⟨Tryz.f100, by rw [fid_157]; exact Tryz.func100, ok_157⟩
  · cases h; exact ⟨Tryz.f101, by rw [fid_158]; exact Tryz.func101, ok_158⟩
  · cases h; exact ⟨Tryz.f102, by rw [fid_159]; exact Tryz.func102, ok_159⟩
  · cases h; exact ⟨Tryz.f103, by rw [fid_160]; exact Tryz.func103, ok_160⟩
  · cases h; exact ⟨Tryz.f104, by rw [fid_161]; exact Tryz.func104, ok_161⟩
  · cases h; exact ⟨Tryz.f105, by rw [fid_162]; exact Tryz.func105, ok_162⟩
  · cases h; exact ⟨Tryz.f106, by rw [fid_78]; exact Tryz.func106, ok_78⟩
  · cases h; exact ⟨Tryz.f107, by rw [fid_79]; exact Tryz.func107, ok_79⟩
  · cases h; exact ⟨Tryz.f108, by rw [fid_80]; exact Tryz.func108, ok_80⟩
  · cases h; exact ⟨Tryz.f109, by rw [fid_81]; exact Tryz.func109, ok_81⟩
  · cases h; exact ⟨Tryz.f110, by rw [fid_82]; exact Tryz.func110, ok_82⟩
  · cases h; exact ⟨Tryz.f111, by rw [fid_91]; exact Tryz.func111, ok_91⟩
  · cases h; exact ⟨Tryz.f113, by rw [fid_93]; exact Tryz.func113, ok_93⟩
  · cases h; exact ⟨Tryz.f114, by rw [fid_94]; exact Tryz.func114, ok_94⟩
  · cases h; exact ⟨Tryz.f115, by rw [fid_95]; exact Tryz.func115, ok_95⟩
  · cases h; exact ⟨Tryz.f116, by rw [fid_96]; exact Tryz.func116, ok_96⟩
  · cases h; exact ⟨Tryz.f117, by rw [fid_97]; exact Tryz.func117, ok_97⟩
  · cases h; exact ⟨Tryz.f118, by rw [fid_163]; exact Tryz.func118, ok_163⟩
  · cases h; exact ⟨Tryz.f119, by rw [fid_164]; exact Tryz.func119, ok_164⟩
  · cases h; exact ⟨Tryz.f120, by rw [fid_165]; exact Tryz.func120, ok_165⟩
  · cases h; exact ⟨Tryz.f121, by rw [fid_166]; exact Tryz.func121, ok_166⟩
  · cases h; exact ⟨Tryz.f122, by rw [fid_90]; exact Tryz.func122, ok_90⟩
  · cases h; exact ⟨Tryz.f123, by rw [fid_98]; exact Tryz.func123, ok_98⟩
  · cases h; exact ⟨Tryz.f124, by rw [fid_99]; exact Tryz.func124, ok_99⟩
  · cases h; exact ⟨Tryz.f125, by rw [fid_100]; exact Tryz.func125, ok_100⟩
  · cases h; exact ⟨Tryz.f126, by rw [fid_101]; exact Tryz.func126, ok_101⟩
  · cases h; exact ⟨Tryz.f127, by rw [fid_102]; exact Tryz.func127, ok_102⟩
  · cases h; exact ⟨Tryz.f128, by rw [fid_103]; exact Tryz.func128, ok_103⟩
  · cases h; exact ⟨Tryz.f129, by rw [fid_104]; exact Tryz.func129, ok_104⟩
  · cases h; exact ⟨Tryz.f130, by rw [fid_105]; exact Tryz.func130, ok_105⟩
  · cases h; exact ⟨Tryz.f131, by rw [fid_106]; exact Tryz.func131, ok_106⟩
  · cases h; exact ⟨Tryz.f132, by rw [fid_167]; exact Tryz.func132, ok_167⟩
  · cases h; exact ⟨Tryz.f133, by rw [fid_168]; exact Tryz.func133, ok_168⟩
  · cases h; exact ⟨Tryz.f134, by rw [fid_169]; exact Tryz.func134, ok_169⟩
  · cases h; exact ⟨Tryz.f135, by rw [fid_170]; exact Tryz.func135, ok_170⟩
  · cases h; exact ⟨Tryz.f136, by rw [fid_171]; exact Tryz.func136, ok_171⟩
  · cases h; exact ⟨Tryz.f137, by rw [fid_172]; exact Tryz.func137, ok_172⟩
  · cases h; exact ⟨Tryz.f138, by rw [fid_107]; exact Tryz.func138, ok_107⟩
  · cases h; exact ⟨Tryz.f139, by rw [fid_108]; exact Tryz.func139, ok_108⟩
  · cases h; exact ⟨Tryz.f140, by rw [fid_173]; exact Tryz.func140, ok_173⟩
  · cases h; exact ⟨Tryz.f141, by rw [fid_174]; exact Tryz.func141, ok_174⟩
  · cases h; exact ⟨Tryz.f142, by rw [fid_175]; exact Tryz.func142, ok_175⟩
  · cases h; exact ⟨Tryz.f143, by rw [fid_176]; exact Tryz.func143, ok_176⟩
  · cases h; exact ⟨Tryz.f144, by rw [fid_177]; exact Tryz.func144, ok_177⟩
  · cases h
theorem runs_sound : SoundR Tryz.prog fid (run tab) := run_sound mid_ok Tryz.checked.mixed prog_ok
end Go.AVM
namespace Go.AVM
section
variable {P : Program} {fid : Nat → FuncId} {W : World} {H : Type} {enc : TypeId × Value → H}
def memOf (W : World) : Mem := fun b o => (W.cell? ⟨b, o, none⟩).filter (·.oneCell')
theorem memOf_some {b o : Nat} {v : Value} (h : memOf W b o = some v) : W.cell? ⟨b, o, none⟩ = some v ∧ v.plain := by
  unfold memOf at h
  rw [Option.filter_eq_some_iff] at h
  exact ⟨h.1, plain_one.2 h.2⟩
theorem memOf_mk {b o : Nat} {v : Value} (h : W.cell? ⟨b, o, none⟩ = some v) (hp : v.plain) : memOf W b o = some v := by
  unfold memOf
  rw [Option.filter_eq_some_iff]
  exact ⟨h, plain_one.1 hp⟩
def CellsR (fid : Nat → FuncId) (M : Mem) (avs : List AV) (cs : List Value) : Prop :=
  avs.length = cs.length ∧ ∀ (k : Nat) (x : AV), avs[k]? = some x → ∃ v : Value, cs[k]? = some v ∧ v.plain ∧ FRep fid M x v
def Opens (P : Program) (fid : Nat → FuncId) (t : TypeId) (X : Type) (en : X → List AV) (ok : X → Prop) : Prop :=
  ∀ {H : Type} (enc : TypeId × Value → H) (W : World) (base : Nat) (spare : Nat → Bool) (held : Bool) (fuel : Nat) (cs : List Value) (d : DataW H) (ps : List MemPlace),
    DataW.trod enc P W base spare held fuel t cs = some (d, ps) → ∃ x, ok x ∧ CellsR fid (memOf W) (en x) cs
theorem plain_int {k : IntKind} {n : Int} : (Value.int k n).plain := ⟨fun _ h => (by cases h), fun _ h => (by cases h)⟩
theorem plain_slice {a : Option Addr} {n c : Nat} : (Value.slice a n c).plain := ⟨fun _ h => (by cases h), fun _ h => (by cases h)⟩
theorem CellsR.one {M : Mem} {x : AV} {v : Value} (hp : v.plain) (h : FRep fid M x v) : CellsR fid M [x] [v] :=
  ⟨rfl, fun k y hy => by
    cases k with
    | zero => simp at hy; subst hy; exact ⟨v, rfl, hp, h⟩
    | succ k => simp at hy⟩
theorem opens_int {t : TypeId} {k : IntKind} (hu : P.underlying t = some (.int k)) : Opens P fid t Int (fun n => [.int k n]) (fun n => k.min ≤ n ∧ n ≤ k.max) := by
  intro H enc W base spare held fuel cs d ps h
  cases fuel with
  | zero => simp [DataW.trod] at h
  | succ fuel =>
    unfold DataW.trod at h
    rw [hu] at h
    split at h <;> try (simp_all; done)
    rename_i k' k2 n heq
    cases heq
    split at h
    · rename_i hc
      obtain ⟨rfl, hwf⟩ := hc
      simp [Lit.wf] at hwf
      exact ⟨n, hwf, .one plain_int (.int _ _)⟩
    · cases h
theorem cellsR_parts {M : Mem} {X : Type} {en : X → List AV} {sz : Nat} : ∀ {xs : List X} {cs : List Value}, cs.length = xs.length * sz → (∀ (i : Nat) (x : X), xs[i]? = some x → CellsR fid M (en x) ((cs.drop (i * sz)).take sz)) → CellsR fid M (xs.flatMap en) cs
  | [], cs, hl, _ => by
    simp at hl; subst hl
    exact ⟨rfl, fun k x hx => by simp at hx⟩
  | x :: xs, cs, hl, h => by
    have h0 := h 0 x rfl
    simp only [Nat.zero_mul, List.drop_zero] at h0
    have hsz : (cs.take sz).length = sz := by
      rw [List.length_take, List.length_cons, Nat.succ_mul] at *; omega
    have hen : (en x).length = sz := h0.1.trans hsz
    have ih := cellsR_parts (xs := xs) (cs := cs.drop sz) (en := en) (sz := sz) (by rw [List.length_drop, hl, List.length_cons, Nat.succ_mul]; omega) (fun i y hy => by
      have := h (i + 1) y (by simpa using hy)
      rw [List.drop_drop, show sz + i * sz = (i + 1) * sz by rw [Nat.succ_mul]; omega]
      exact this)
    refine ⟨by rw [List.flatMap_cons, List.length_append, hen, ih.1, List.length_drop, hl, List.length_cons, Nat.succ_mul]; omega, fun k y hk => ?_⟩
    rw [List.flatMap_cons, List.getElem?_append, hen] at hk
    split at hk
    · rename_i hlt
      obtain ⟨v, h1, h2, h3⟩ := h0.2 k y hk
      rw [List.getElem?_take_of_lt hlt] at h1
      exact ⟨v, h1, h2, h3⟩
    · rename_i hge
      obtain ⟨v, h1, h2, h3⟩ := ih.2 _ y hk
      rw [List.getElem?_drop, show sz + (k - sz) = k by omega] at h1
      exact ⟨v, h1, h2, h3⟩
theorem mapM_choose {X Y : Type} {f : Nat → Option Y} {Q : Nat → X → Prop} {n : Nat} {ys : List Y} (h : (List.range n).mapM f = some ys) (hf : ∀ i y, i < n → f i = some y → ∃ x, Q i x) : ∃ xs : List X, xs.length = n ∧ ∀ (i : Nat) (x : X), xs[i]? = some x → Q i x := by
  have key : ∀ i, i < n → ∃ x, Q i x := by
    intro i hi
    obtain ⟨hl, hq⟩ := mapM_some h
    obtain ⟨y, _, hy⟩ := hq i i (by simp [hi])
    exact hf i y hi hy
  clear h hf
  induction n with
  | zero => exact ⟨[], rfl, fun i x hx => by simp at hx⟩
  | succ n ih =>
    obtain ⟨xs, hl, hq⟩ := ih fun i hi => key i (by omega)
    obtain ⟨x, hx⟩ := key n (by omega)
    refine ⟨xs ++ [x], by simp [hl], fun i y hy => ?_⟩
    by_cases hi : i < n
    · rw [List.getElem?_append_left (by omega)] at hy; exact hq i y hy
    · rw [List.getElem?_append_right (by omega)] at hy
      by_cases hin : i = n
      · subst hin; simp [hl] at hy; subst hy; exact hx
      · rw [List.getElem?_eq_none (by simp; omega)] at hy; cases hy
theorem opens_array {t e : TypeId} {n : Nat} {X : Type} {en : X → List AV} {ok : X → Prop} (hu : P.underlying t = some (.array n e)) (hc : P.cellsOf t = n * P.cellsOf e) (h : Opens P fid e X en ok) :
    Opens P fid t (List X) (fun xs => xs.flatMap en) (fun xs => xs.length = n ∧ ∀ x ∈ xs, ok x) := by
  intro H enc W base spare held fuel cs d ps hd
  cases fuel with
  | zero => simp [DataW.trod] at hd
  | succ fuel =>
    unfold DataW.trod at hd
    rw [hu] at hd
    split at hd <;> try (exfalso; simp_all; done)
    rename_i cs _ _ n' e' heq
    cases heq
    split at hd
    · rename_i hl
      obtain ⟨ys, hm, _⟩ := Option.map_eq_some_iff.1 hd
      obtain ⟨xs, hxl, hq⟩ := mapM_choose (Q := fun i x => ok x ∧ CellsR fid (memOf W) (en x) ((cs.drop (i * P.cellsOf e)).take (P.cellsOf e))) hm fun i y hi hy => by
        obtain ⟨d', ps'⟩ := y
        exact h enc W base spare held fuel _ d' ps' hy
      refine ⟨xs, ⟨hxl, fun x hx => ?_⟩, cellsR_parts (by rw [hl, hc, hxl]) fun i x hx => (hq i x hx).2⟩
      obtain ⟨i, hi⟩ := List.mem_iff_getElem?.1 hx
      exact (hq i x hi).1
    · cases hd
def elOf (sz : Nat) (l : List AV) : AV := if sz = 1 then l.headD .any else .agg l
theorem elOf_cells {M : Mem} {sz : Nat} {l : List AV} {cs : List Value} (h : CellsR fid M l cs) (hl : l.length = sz) : (elOf sz l).cells = l := by
  unfold elOf
  split
  · rename_i h1
    subst h1
    match l, hl with
    | [x], _ =>
      obtain ⟨v, _, hp, hr⟩ := h.2 0 x rfl
      simpa using hr.cells_of_plain hp
  · rfl
theorem cells?_get {a : Addr} {base n : Nat} {cs : List Value} (h : W.cells? base a n = some cs) : cs.length = n ∧ ∀ j, j < n → ∃ v, cs[j]? = some v ∧ W.cell? (a.add j) = some v := by
  unfold World.cells? at h
  split at h
  · obtain ⟨hl, hq⟩ := mapM_some h
    refine ⟨by simpa using hl, fun j hj => hq j j (by simp [hj])⟩
  · cases h
theorem add_add {a : Addr} (hs : a.spot = none) (m j : Nat) : (a.add m).add j = ⟨a.block, a.off + m + j, none⟩ := by
  obtain ⟨b, o, sp⟩ := a
  simp only at hs
  subst hs
  unfold Addr.add
  split <;> split <;> simp_all
theorem opens_slice {t e : TypeId} {sz : Nat} {X : Type} {en : X → List AV} {ok : X → Prop} (hu : P.underlying t = some (.slice e)) (hc : P.cellsOf e = sz) (hpos : 0 < sz) (h : Opens P fid e X en ok) :
    Opens P fid t (List X) (fun xs => [.sl (xs.map fun x => elOf sz (en x)) sz false]) (fun xs => xs.length ≤ maxLen ∧ ∀ x ∈ xs, ok x) := by
  intro H enc W base spare held fuel cs d ps hd
  cases fuel with
  | zero => simp [DataW.trod] at hd
  | succ fuel =>
    unfold DataW.trod at hd
    rw [hu] at hd
    split at hd <;> try (exfalso; simp_all; done)
    · exact ⟨[], ⟨Nat.zero_le _, fun x hx => by cases hx⟩, .one plain_slice (.slN _ _ _ _ (fun h => by cases h))⟩
    · rename_i e' a len cap heq
      cases heq
      simp only at hd
      split at hd
      · rename_i hb
        obtain ⟨elems, hm, _⟩ := Option.bind_eq_some_iff.1 hd
        obtain ⟨xs, hxl, hq⟩ := mapM_choose (Q := fun i x => ok x ∧ ∃ cs, W.cells? base (a.add (i * P.cellsOf e)) (P.cellsOf e) = some cs ∧ CellsR fid (memOf W) (en x) cs) hm fun i y hi hy => by
          obtain ⟨cs, h1, h2⟩ := Option.bind_eq_some_iff.1 hy
          obtain ⟨d', ps'⟩ := y
          obtain ⟨x, o1, o2⟩ := h enc W base spare held fuel _ d' ps' h2
          exact ⟨x, o1, cs, h1, o2⟩
        subst hc
        refine ⟨xs, ⟨by omega, fun x hx => ?_⟩, .one plain_slice ?_⟩
        · obtain ⟨i, hi⟩ := List.mem_iff_getElem?.1 hx
          exact (hq i x hi).1
        · have hlen : (xs.map fun x => elOf (P.cellsOf e) (en x)).length = len := by simp [hxl]
          have key : FRep fid (memOf W) (.sl (xs.map fun x => elOf (P.cellsOf e) (en x)) (P.cellsOf e) false) (.slice (some a) (xs.map fun x => elOf (P.cellsOf e) (en x)).length cap) := by
            refine FRep.sl_mk (by rw [hlen]; exact hb.2.1) (fun h => by cases h) ?_
            match xs, hq with
            | [], _ => exact .inl rfl
            | x0 :: xr, hq =>
              right
              have hsp : a.spot = none := by
                obtain ⟨_, cs0, h1, _⟩ := hq 0 x0 rfl
                obtain ⟨_, h2⟩ := cells?_get h1
                obtain ⟨v, _, h3⟩ := h2 0 hpos
                have e0 : (a.add (0 * P.cellsOf e)).add 0 = a := by simp [Addr.add]
                rw [e0] at h3
                unfold World.cell? at h3
                split at h3
                · split at h3
                  · cases h3
                  · rename_i hsp; simpa using hsp
                · cases h3
              refine ⟨a.block, a.off, by obtain ⟨b, o, sp⟩ := a; simp only at hsp; subst hsp; rfl, fun i el hel => ?_⟩
              rw [List.getElem?_map] at hel
              obtain ⟨x, hx, rfl⟩ := Option.map_eq_some_iff.1 hel
              obtain ⟨_, cs1, h1, h2⟩ := hq i x hx
              obtain ⟨hl1, h3⟩ := cells?_get h1
              have hel : (en x).length = P.cellsOf e := h2.1.trans hl1
              rw [elOf_cells h2 hel]
              refine ⟨hel, fun k y hy => ?_⟩
              have hk : k < P.cellsOf e := by have := (List.getElem?_eq_some_iff.1 hy).1; omega
              obtain ⟨v, v1, v2, v3⟩ := h2.2 k y hy
              obtain ⟨v', w1, w2⟩ := h3 k hk
              rw [v1] at w1; cases w1
              rw [add_add hsp] at w2
              exact ⟨v, memOf_mk w2 v2, v3⟩
          rw [hlen] at key
          exact key
      · cases hd
theorem opens_struct1 {t : TypeId} {fs : Array Field} {f : Field} {X : Type} {en : X → List AV} {ok : X → Prop} (hu : P.underlying t = some (.struct fs)) (hfs : fs.toList = [f]) (ho : f.offset = 0) (hc : P.cellsOf t = P.cellsOf f.type) (h : Opens P fid f.type X en ok) :
    Opens P fid t X en ok := by
  intro H enc W base spare held fuel cs d ps hd
  cases fuel with
  | zero => simp [DataW.trod] at hd
  | succ fuel =>
    unfold DataW.trod at hd
    rw [hu] at hd
    split at hd <;> try (exfalso; simp_all; done)
    rename_i cs _ _ fs' heq
    cases heq
    split at hd
    · rename_i hl
      obtain ⟨ys, hm, _⟩ := Option.map_eq_some_iff.1 hd
      rw [hfs] at hm
      obtain ⟨_, hq⟩ := mapM_some hm
      obtain ⟨⟨d', ps'⟩, _, hy⟩ := hq 0 f rfl
      rw [ho, List.drop_zero, List.take_of_length_le (by omega)] at hy
      exact h enc W base spare held fuel _ d' ps' hy
    · cases hd
theorem arg_agg {t : TypeId} {X : Type} {en : X → List AV} {ok : X → Prop} (h : Opens P fid t X en ok) {base : Nat} {spare : Nat → Bool} {held : Bool} {cs : Array Value} {d : DataW H} {ps : List MemPlace} (ht : DataW.Trod enc P W base spare held t (.agg cs) d ps) :
    ∃ x, ok x ∧ FRep fid (memOf W) (.agg (en x)) (.agg cs) := by
  obtain ⟨fuel, hf⟩ := ht
  obtain ⟨x, h1, h2⟩ := h enc W base spare held fuel _ d ps hf
  have e : (Value.agg cs).cells.toList = cs.toList := rfl
  rw [e] at h2
  refine ⟨x, h1, FRep.agg_mk (by rw [← Array.length_toList]; exact h2.1.symm) fun k y hy => ?_⟩
  obtain ⟨v, v1, v2, v3⟩ := h2.2 k y hy
  exact ⟨v, by simpa using v1, v2, v3⟩
theorem arg_one {t : TypeId} {X : Type} {en : X → AV} {ok : X → Prop} (h : Opens P fid t X (fun x => [en x]) ok) {base : Nat} {spare : Nat → Bool} {held : Bool} {v : Value} (hv : v.cells.toList = [v]) {d : DataW H} {ps : List MemPlace} (ht : DataW.Trod enc P W base spare held t v d ps) :
    ∃ x, ok x ∧ FRep fid (memOf W) (en x) v := by
  obtain ⟨fuel, hf⟩ := ht
  rw [hv] at hf
  obtain ⟨x, h1, h2⟩ := h enc W base spare held fuel _ d ps hf
  obtain ⟨v', v1, v2, v3⟩ := h2.2 0 (en x) rfl
  simp at v1; subst v1
  exact ⟨x, h1, v3⟩
end
end Go.AVM
namespace Go.AVM
open Go.Proofs Go.ChangeShapes Go.WideShapes Go.ChangeAt Go.RowKit
theorem fzv_true {S : Store} {r : AV} (h : fzv S r = some (.bool true)) : r = .bool true := by
  cases r <;> simp only [fzv, fz1, fzDepth, fzc] at h <;> first | (cases h; rfl) | (cases h; done) | skip
  all_goals
    obtain ⟨_, _, h⟩ := Option.bind_eq_some_iff.1 h
    first
      | cases h
      | (obtain ⟨_, _, h⟩ := Option.bind_eq_some_iff.1 h; cases h)
theorem true_call {f : Nat} {args : List AV} {cargs : Array Value} {W : World} (h : callPure (run tab) f args = some (.bool true)) (ha : AsRep fid (fun _ _ => none) (memOf W) args cargs) :
    Calls Tryz.prog (fid f) cargs W fun e W' => e = .returned (.bool true) ∧ Below W.heap.size W W' ∧ ∃ S' J' M', Inv fid S' J' M' W' ∧ Step [] (fun _ _ => none) (memOf W) W S' J' M' W' := by
  unfold callPure at h
  obtain ⟨⟨r, S'⟩, hr, hf⟩ := Option.bind_eq_some_iff.1 h
  have hrt := fzv_true hf
  subst hrt
  have I : Inv fid [] (fun _ _ => none) (memOf W) W := Inv.empty fun b o v hv => memOf_some hv
  refine ((runs_sound f args [] _ S' hr).2 _ _ W cargs I ha).mono fun e W' hl => ?_
  obtain ⟨v, J', M', rfl, I', st, hrep⟩ := hl
  exact ⟨by rw [hrep.bool_inv], ⟨st.os, st.tape, st.output, st.size, fun k hk => st.frame k hk not_wr_nil⟩, S', J', M', I', st⟩
end Go.AVM
