/- Texts joined: AvChk, AvProg, AvOpen, AvRow. -/
import Derived.Test.YtlpbjbgfgfjnlaaChecked
import Derived.KernelRfl
import Derived.Test.YtlpbjbgfgfjnlaaAvPermutes3
import Derived.Test.YtlpbjbgfgfjnlaaAvPermutes5
import Derived.Eval
import GoSem.ClaimJoined
import Derived.Test.YtlpbjbgfgfjnlaaRows
import Derived.ProofKit
/- The tellings tell the code: reckoned, function by function. -/
namespace Go.AVM
open Go.Proofs
def midL : List (Option Nat) := [none, none, none, some 3, some 4, some 5, some 6, some 7, some 8, some 9, some 10, some 11, some 12, some 13, some 14, some 15, some 16, some 17, some 18, some 19, some 20, some 21, some 22, some 23, some 24, some 25, some 26, some 27, some 28, some 29, some 30, some 31, some 32, some 33, some 34, some 35, some 36, some 37, some 38, some 39, some 40, some 41, some 42, some 43, some 44, some 45, some 46, some 47, some 48, some 49, some 50, some 51, some 52, some 53, some 54, some 55, some 56, some 57, some 58, some 59, some 60, some 61, some 62, some 63, some 64, some 65, some 66, some 67, some 68, some 69, some 70, some 71, some 72, some 73, some 74, some 75, some 76, some 77, some 78, some 79, some 80, some 81, some 82, some 83, some 84, some 85, some 86, some 87, some 88, some 89, some 90, some 91, some 92, some 93, some 94, some 95, some 96, some 97, some 98, some 99, some 100, some 101, some 102, some 103, some 104, some 105, some 106, some 107, some 108]
def mid : FuncId → Option Nat := fun f => (midL[f]?).join
def fidL : List (Nat × FuncId) := [(3, 3), (4, 4), (5, 5), (6, 6), (7, 7), (8, 8), (9, 9), (10, 10), (11, 11), (12, 12), (13, 13), (14, 14), (15, 15), (16, 16), (17, 17), (18, 18), (19, 19), (20, 20), (21, 21), (22, 22), (23, 23), (24, 24), (25, 25), (26, 26), (27, 27), (28, 28), (29, 29), (30, 30), (31, 31), (32, 32), (33, 33), (34, 34), (35, 35), (36, 36), (37, 37), (38, 38), (39, 39), (40, 40), (41, 41), (42, 42), (43, 43), (44, 44), (45, 45), (46, 46), (47, 47), (48, 48), (49, 49), (50, 50), (51, 51), (52, 52), (53, 53), (54, 54), (55, 55), (56, 56), (57, 57), (58, 58), (59, 59), (60, 60), (61, 61), (62, 62), (63, 63), (64, 64), (65, 65), (66, 66), (67, 67), (68, 68), (69, 69), (70, 70), (71, 71), (72, 72), (73, 73), (74, 74), (75, 75), (76, 76), (77, 77), (78, 78), (79, 79), (80, 80), (81, 81), (82, 82), (83, 83), (84, 84), (85, 85), (86, 86), (87, 87), (88, 88), (89, 89), (90, 90), (91, 91), (92, 92), (93, 93), (94, 94), (95, 95), (96, 96), (97, 97), (98, 98), (99, 99), (100, 100), (101, 101), (102, 102), (103, 103), (104, 104), (105, 105), (106, 106), (107, 107), (108, 108)]
def fid : Nat → FuncId := fun n => ((fidL.find? fun p => p.1 == n).map (·.2)).getD 0
theorem ok_6 : okF Try.prog mid Try.f6 f6 = true := by kernel_rfl
theorem ok_8 : okF Try.prog mid Try.f8 f8 = true := by kernel_rfl
theorem ok_9 : okF Try.prog mid Try.f9 f9 = true := by kernel_rfl
theorem ok_11 : okF Try.prog mid Try.f11 f11 = true := by kernel_rfl
theorem ok_13 : okF Try.prog mid Try.f13 f13 = true := by kernel_rfl
theorem ok_15 : okF Try.prog mid Try.f15 f15 = true := by kernel_rfl
theorem ok_17 : okF Try.prog mid Try.f17 f17 = true := by kernel_rfl
theorem ok_19 : okF Try.prog mid Try.f19 f19 = true := by kernel_rfl
theorem ok_20 : okF Try.prog mid Try.f20 f20 = true := by kernel_rfl
theorem ok_21 : okF Try.prog mid Try.f21 f21 = true := by kernel_rfl
theorem ok_22 : okF Try.prog mid Try.f22 f22 = true := by kernel_rfl
theorem ok_23 : okF Try.prog mid Try.f23 f23 = true := by kernel_rfl
theorem ok_24 : okF Try.prog mid Try.f24 f24 = true := by kernel_rfl
theorem ok_27 : okF Try.prog mid Try.f27 f27 = true := by kernel_rfl
theorem ok_28 : okF Try.prog mid Try.f28 f28 = true := by kernel_rfl
theorem ok_29 : okF Try.prog mid Try.f29 f29 = true := by kernel_rfl
theorem ok_30 : okF Try.prog mid Try.f30 f30 = true := by kernel_rfl
theorem ok_31 : okF Try.prog mid Try.f31 f31 = true := by kernel_rfl
theorem ok_32 : okF Try.prog mid Try.f32 f32 = true := by kernel_rfl
theorem ok_34 : okF Try.prog mid Try.f34 f34 = true := by kernel_rfl
theorem ok_36 : okF Try.prog mid Try.f36 f36 = true := by kernel_rfl
theorem ok_37 : okF Try.prog mid Try.f37 f37 = true := by kernel_rfl
theorem ok_38 : okF Try.prog mid Try.f38 f38 = true := by kernel_rfl
theorem ok_39 : okF Try.prog mid Try.f39 f39 = true := by kernel_rfl
theorem ok_40 : okF Try.prog mid Try.f40 f40 = true := by kernel_rfl
theorem ok_41 : okF Try.prog mid Try.f41 f41 = true := by kernel_rfl
theorem ok_42 : okF Try.prog mid Try.f42 f42 = true := by kernel_rfl
theorem ok_43 : okF Try.prog mid Try.f43 f43 = true := by kernel_rfl
theorem ok_45 : okF Try.prog mid Try.f45 f45 = true := by kernel_rfl
theorem ok_49 : okF Try.prog mid Try.f49 f49 = true := by kernel_rfl
theorem ok_50 : okF Try.prog mid Try.f50 f50 = true := by kernel_rfl
theorem ok_51 : okF Try.prog mid Try.f51 f51 = true := by kernel_rfl
theorem ok_52 : okF Try.prog mid Try.f52 f52 = true := by kernel_rfl
theorem ok_53 : okF Try.prog mid Try.f53 f53 = true := by kernel_rfl
theorem ok_54 : okF Try.prog mid Try.f54 f54 = true := by kernel_rfl
theorem ok_55 : okF Try.prog mid Try.f55 f55 = true := by kernel_rfl
theorem ok_56 : okF Try.prog mid Try.f56 f56 = true := by kernel_rfl
theorem ok_57 : okF Try.prog mid Try.f57 f57 = true := by kernel_rfl
theorem ok_58 : okF Try.prog mid Try.f58 f58 = true := by kernel_rfl
theorem ok_59 : okF Try.prog mid Try.f59 f59 = true := by kernel_rfl
theorem ok_60 : okF Try.prog mid Try.f60 f60 = true := by kernel_rfl
theorem ok_61 : okF Try.prog mid Try.f61 f61 = true := by kernel_rfl
theorem ok_62 : okF Try.prog mid Try.f62 f62 = true := by kernel_rfl
theorem ok_63 : okF Try.prog mid Try.f63 f63 = true := by kernel_rfl
theorem ok_64 : okF Try.prog mid Try.f64 f64 = true := by kernel_rfl
theorem ok_65 : okF Try.prog mid Try.f65 f65 = true := by kernel_rfl
theorem ok_66 : okF Try.prog mid Try.f66 f66 = true := by kernel_rfl
theorem ok_67 : okF Try.prog mid Try.f67 f67 = true := by kernel_rfl
theorem ok_68 : okF Try.prog mid Try.f68 f68 = true := by kernel_rfl
theorem ok_69 : okF Try.prog mid Try.f69 f69 = true := by kernel_rfl
theorem ok_70 : okF Try.prog mid Try.f70 f70 = true := by kernel_rfl
theorem ok_71 : okF Try.prog mid Try.f71 f71 = true := by kernel_rfl
theorem ok_72 : okF Try.prog mid Try.f72 f72 = true := by kernel_rfl
theorem ok_73 : okF Try.prog mid Try.f73 f73 = true := by kernel_rfl
theorem ok_74 : okF Try.prog mid Try.f74 f74 = true := by kernel_rfl
theorem ok_75 : okF Try.prog mid Try.f75 f75 = true := by kernel_rfl
theorem ok_76 : okF Try.prog mid Try.f76 f76 = true := by kernel_rfl
theorem ok_77 : okF Try.prog mid Try.f77 f77 = true := by kernel_rfl
theorem ok_78 : okF Try.prog mid Try.f78 f78 = true := by kernel_rfl
theorem ok_79 : okF Try.prog mid Try.f79 f79 = true := by kernel_rfl
theorem ok_80 : okF Try.prog mid Try.f80 f80 = true := by kernel_rfl
theorem ok_81 : okF Try.prog mid Try.f81 f81 = true := by kernel_rfl
theorem ok_82 : okF Try.prog mid Try.f82 f82 = true := by kernel_rfl
theorem ok_83 : okF Try.prog mid Try.f83 f83 = true := by kernel_rfl
theorem ok_84 : okF Try.prog mid Try.f84 f84 = true := by kernel_rfl
theorem ok_85 : okF Try.prog mid Try.f85 f85 = true := by kernel_rfl
theorem ok_86 : okF Try.prog mid Try.f86 f86 = true := by kernel_rfl
theorem ok_87 : okF Try.prog mid Try.f87 f87 = true := by kernel_rfl
theorem ok_88 : okF Try.prog mid Try.f88 f88 = true := by kernel_rfl
theorem ok_89 : okF Try.prog mid Try.f89 f89 = true := by kernel_rfl
theorem ok_90 : okF Try.prog mid Try.f90 f90 = true := by kernel_rfl
theorem ok_91 : okF Try.prog mid Try.f91 f91 = true := by kernel_rfl
theorem ok_93 : okF Try.prog mid Try.f93 f93 = true := by kernel_rfl
theorem ok_94 : okF Try.prog mid Try.f94 f94 = true := by kernel_rfl
theorem ok_95 : okF Try.prog mid Try.f95 f95 = true := by kernel_rfl
theorem ok_96 : okF Try.prog mid Try.f96 f96 = true := by kernel_rfl
theorem ok_97 : okF Try.prog mid Try.f97 f97 = true := by kernel_rfl
theorem ok_98 : okF Try.prog mid Try.f98 f98 = true := by kernel_rfl
theorem ok_99 : okF Try.prog mid Try.f99 f99 = true := by kernel_rfl
theorem ok_100 : okF Try.prog mid Try.f100 f100 = true := by kernel_rfl
theorem ok_101 : okF Try.prog mid Try.f101 f101 = true := by kernel_rfl
theorem ok_102 : okF Try.prog mid Try.f102 f102 = true := by kernel_rfl
theorem ok_103 : okF Try.prog mid Try.f103 f103 = true := by kernel_rfl
theorem ok_104 : okF Try.prog mid Try.f104 f104 = true := by kernel_rfl
theorem ok_105 : okF Try.prog mid Try.f105 f105 = true := by kernel_rfl
theorem ok_106 : okF Try.prog mid Try.f106 f106 = true := by kernel_rfl
theorem ok_107 : okF Try.prog mid Try.f107 f107 = true := by kernel_rfl
theorem ok_108 : okF Try.prog mid Try.f108 f108 = true := by kernel_rfl
end Go.AVM

/- The table of tellings is right; so every run of it is a call of the program. -/
set_option linter.unusedVariables false
namespace Go.AVM
open Go.Proofs
theorem mid_ok : MidOk fid mid := by
  have h : (midL.zipIdx.all fun p => match p.1 with | some m => fid m == p.2 | none => true) = true := by kernel_rfl
  intro f m hm
  unfold mid at hm
  cases hf : midL[f]? with
  | none => rw [hf] at hm; cases hm
  | some o =>
    rw [hf] at hm
    cases o with
    | none => cases hm
    | some m' =>
      simp only [Option.join_some, Option.some.injEq] at hm
      subst hm
      have := List.all_eq_true.1 h (some m', f) (List.mem_iff_getElem?.2 ⟨f, by rw [List.getElem?_zipIdx, hf]; simp⟩)
      simpa using this
theorem fid_6 : fid 6 = 6 := by kernel_rfl
theorem fid_8 : fid 8 = 8 := by kernel_rfl
theorem fid_9 : fid 9 = 9 := by kernel_rfl
theorem fid_11 : fid 11 = 11 := by kernel_rfl
theorem fid_13 : fid 13 = 13 := by kernel_rfl
theorem fid_15 : fid 15 = 15 := by kernel_rfl
theorem fid_17 : fid 17 = 17 := by kernel_rfl
theorem fid_19 : fid 19 = 19 := by kernel_rfl
theorem fid_20 : fid 20 = 20 := by kernel_rfl
theorem fid_21 : fid 21 = 21 := by kernel_rfl
theorem fid_22 : fid 22 = 22 := by kernel_rfl
theorem fid_23 : fid 23 = 23 := by kernel_rfl
theorem fid_24 : fid 24 = 24 := by kernel_rfl
theorem fid_27 : fid 27 = 27 := by kernel_rfl
theorem fid_28 : fid 28 = 28 := by kernel_rfl
theorem fid_29 : fid 29 = 29 := by kernel_rfl
theorem fid_30 : fid 30 = 30 := by kernel_rfl
theorem fid_31 : fid 31 = 31 := by kernel_rfl
theorem fid_32 : fid 32 = 32 := by kernel_rfl
theorem fid_34 : fid 34 = 34 := by kernel_rfl
theorem fid_36 : fid 36 = 36 := by kernel_rfl
theorem fid_37 : fid 37 = 37 := by kernel_rfl
theorem fid_38 : fid 38 = 38 := by kernel_rfl
theorem fid_39 : fid 39 = 39 := by kernel_rfl
theorem fid_40 : fid 40 = 40 := by kernel_rfl
theorem fid_41 : fid 41 = 41 := by kernel_rfl
theorem fid_42 : fid 42 = 42 := by kernel_rfl
theorem fid_43 : fid 43 = 43 := by kernel_rfl
theorem fid_45 : fid 45 = 45 := by kernel_rfl
theorem fid_49 : fid 49 = 49 := by kernel_rfl
theorem fid_50 : fid 50 = 50 := by kernel_rfl
theorem fid_51 : fid 51 = 51 := by kernel_rfl
theorem fid_52 : fid 52 = 52 := by kernel_rfl
theorem fid_53 : fid 53 = 53 := by kernel_rfl
theorem fid_54 : fid 54 = 54 := by kernel_rfl
theorem fid_55 : fid 55 = 55 := by kernel_rfl
theorem fid_56 : fid 56 = 56 := by kernel_rfl
theorem fid_57 : fid 57 = 57 := by kernel_rfl
theorem fid_58 : fid 58 = 58 := by kernel_rfl
theorem fid_59 : fid 59 = 59 := by kernel_rfl
theorem fid_60 : fid 60 = 60 := by kernel_rfl
theorem fid_61 : fid 61 = 61 := by kernel_rfl
theorem fid_62 : fid 62 = 62 := by kernel_rfl
theorem fid_63 : fid 63 = 63 := by kernel_rfl
theorem fid_64 : fid 64 = 64 := by kernel_rfl
theorem fid_65 : fid 65 = 65 := by kernel_rfl
theorem fid_66 : fid 66 = 66 := by kernel_rfl
theorem fid_67 : fid 67 = 67 := by kernel_rfl
theorem fid_68 : fid 68 = 68 := by kernel_rfl
theorem fid_69 : fid 69 = 69 := by kernel_rfl
theorem fid_70 : fid 70 = 70 := by kernel_rfl
theorem fid_71 : fid 71 = 71 := by kernel_rfl
theorem fid_72 : fid 72 = 72 := by kernel_rfl
theorem fid_73 : fid 73 = 73 := by kernel_rfl
theorem fid_74 : fid 74 = 74 := by kernel_rfl
theorem fid_75 : fid 75 = 75 := by kernel_rfl
theorem fid_76 : fid 76 = 76 := by kernel_rfl
theorem fid_77 : fid 77 = 77 := by kernel_rfl
theorem fid_78 : fid 78 = 78 := by kernel_rfl
theorem fid_79 : fid 79 = 79 := by kernel_rfl
theorem fid_80 : fid 80 = 80 := by kernel_rfl
theorem fid_81 : fid 81 = 81 := by kernel_rfl
theorem fid_82 : fid 82 = 82 := by kernel_rfl
theorem fid_83 : fid 83 = 83 := by kernel_rfl
theorem fid_84 : fid 84 = 84 := by kernel_rfl
theorem fid_85 : fid 85 = 85 := by kernel_rfl
theorem fid_86 : fid 86 = 86 := by kernel_rfl
theorem fid_87 : fid 87 = 87 := by kernel_rfl
theorem fid_88 : fid 88 = 88 := by kernel_rfl
theorem fid_89 : fid 89 = 89 := by kernel_rfl
theorem fid_90 : fid 90 = 90 := by kernel_rfl
theorem fid_91 : fid 91 = 91 := by kernel_rfl
theorem fid_93 : fid 93 = 93 := by kernel_rfl
theorem fid_94 : fid 94 = 94 := by kernel_rfl
theorem fid_95 : fid 95 = 95 := by kernel_rfl
theorem fid_96 : fid 96 = 96 := by kernel_rfl
theorem fid_97 : fid 97 = 97 := by kernel_rfl
theorem fid_98 : fid 98 = 98 := by kernel_rfl
theorem fid_99 : fid 99 = 99 := by kernel_rfl
theorem fid_100 : fid 100 = 100 := by kernel_rfl
theorem fid_101 : fid 101 = 101 := by kernel_rfl
theorem fid_102 : fid 102 = 102 := by kernel_rfl
theorem fid_103 : fid 103 = 103 := by kernel_rfl
theorem fid_104 : fid 104 = 104 := by kernel_rfl
theorem fid_105 : fid 105 = 105 := by kernel_rfl
theorem fid_106 : fid 106 = 106 := by kernel_rfl
theorem fid_107 : fid 107 = 107 := by kernel_rfl
theorem fid_108 : fid 108 = 108 := by kernel_rfl
theorem prog_ok : ProgOk Try.prog fid mid tab := by
  intro f af h
  unfold tab at h
  split at h
  · cases h; exact ⟨Try.f6, by rw [fid_6]; exact Try.func6, ok_6⟩
  · cases h; exact ⟨Try.f8, by rw [fid_8]; exact Try.func8, ok_8⟩
  · cases h; exact ⟨Try.f9, by rw [fid_9]; exact Try.func9, ok_9⟩
  · cases h; exact ⟨Try.f11, by rw [fid_11]; exact Try.func11, ok_11⟩
  · cases h; exact ⟨Try.f13, by rw [fid_13]; exact Try.func13, ok_13⟩
  · cases h; exact ⟨Try.f15, by rw [fid_15]; exact Try.func15, ok_15⟩
  · cases h; exact ⟨Try.f17, by rw [fid_17]; exact Try.func17, ok_17⟩
  · cases h; exact ⟨Try.f19, by rw [fid_19]; exact Try.func19, ok_19⟩
  · cases h; exact ⟨Try.f20, by rw [fid_20]; exact Try.func20, ok_20⟩
  · cases h; exact ⟨Try.f21, by rw [fid_21]; exact Try.func21, ok_21⟩
  · cases h; exact ⟨Try.f22, by rw [fid_22]; exact Try.func22, ok_22⟩
  · cases h; exact ⟨Try.f23, by rw [fid_23]; exact Try.func23, ok_23⟩
  · cases h; exact ⟨Try.f24, by rw [fid_24]; exact Try.func24, ok_24⟩
  · cases h; exact ⟨Try.f27, by rw [fid_27]; exact Try.func27, ok_27⟩
  · cases h; exact ⟨Try.f28, by rw [fid_28]; exact Try.func28, ok_28⟩
  · cases h; exact ⟨Try.f29, by rw [fid_29]; exact Try.func29, ok_29⟩
  · cases h; exact ⟨Try.f30, by rw [fid_30]; exact Try.func30, ok_30⟩
  · cases h; exact ⟨Try.f31, by rw [fid_31]; exact Try.func31, ok_31⟩
  · cases h; exact ⟨Try.f32, by rw [fid_32]; exact Try.func32, ok_32⟩
  · cases h; exact ⟨Try.f34, by rw [fid_34]; exact Try.func34, ok_34⟩
  · cases h; exact ⟨Try.f36, by rw [fid_36]; exact Try.func36, ok_36⟩
  · cases h; exact ⟨Try.f37, by rw [fid_37]; exact Try.func37, ok_37⟩
  · cases h; exact ⟨Try.f38, by rw [fid_38]; exact Try.func38, ok_38⟩
  · cases h; exact ⟨Try.f39, by rw [fid_39]; exact Try.func39, ok_39⟩
  · cases h; exact ⟨Try.f40, by rw [fid_40]; exact Try.func40, ok_40⟩
  · cases h; exact ⟨Try.f41, by rw [fid_41]; exact Try.func41, ok_41⟩
  · cases h; exact ⟨Try.f42, by rw [fid_42]; exact Try.func42, ok_42⟩
  · cases h; exact ⟨Try.f43, by rw [fid_43]; exact Try.func43, ok_43⟩
  · cases h; exact ⟨Try.f45, by rw [fid_45]; exact Try.func45, ok_45⟩
  · cases h; exact ⟨Try.f49, by rw [fid_49]; exact Try.func49, ok_49⟩
  · cases h; exact ⟨Try.f50, by rw [fid_50]; exact Try.func50, ok_50⟩
  · cases h; exact ⟨Try.f51, by rw [fid_51]; exact Try.func51, ok_51⟩
  · cases h; exact ⟨Try.f52, by rw [fid_52]; exact Try.func52, ok_52⟩
  · cases h; exact ⟨Try.f53, by rw [fid_53]; exact Try.func53, ok_53⟩
  · cases h; exact ⟨Try.f54, by rw [fid_54]; exact Try.func54, ok_54⟩
  · cases h; exact ⟨Try.f55, by rw [fid_55]; exact Try.func55, ok_55⟩
  · cases h; exact ⟨Try.f56, by rw [fid_56]; exact Try.func56, ok_56⟩
  · cases h; exact ⟨Try.f57, by rw [fid_57]; exact Try.func57, ok_57⟩
  · cases h; exact ⟨Try.f58, by rw [fid_58]; exact Try.func58, ok_58⟩
  · cases h; exact ⟨Try.f59, by rw [fid_59]; exact Try.func59, ok_59⟩
  · cases h; exact ⟨Try.f60, by rw [fid_60]; exact Try.func60, ok_60⟩
  · cases h; exact ⟨Try.f61, by rw [fid_61]; exact Try.func61, ok_61⟩
  · cases h; exact ⟨Try.f62, by rw [fid_62]; exact Try.func62, ok_62⟩
  · cases h; exact ⟨Try.f63, by rw [fid_63]; exact Try.func63, ok_63⟩
  · cases h; exact ⟨Try.f64, by rw [fid_64]; exact Try.func64, ok_64⟩
  · cases h; exact ⟨Try.f65, by rw [fid_65]; exact Try.func65, ok_65⟩
  · cases h; exact ⟨Try.f66, by rw [fid_66]; exact Try.func66, ok_66⟩
  · cases h; exact ⟨Try.f67, by rw [fid_67]; exact Try.func67, ok_67⟩
  · cases h; exact ⟨Try.f68, by rw [fid_68]; exact Try.func68, ok_68⟩
  · cases h; exact ⟨Try.f69, by rw [fid_69]; exact Try.func69, ok_69⟩
  · cases h; exact ⟨Try.f70, by rw [fid_70]; exact Try.func70, ok_70⟩
  · cases h; exact ⟨Try.f71, by rw [fid_71]; exact Try.func71, ok_71⟩
  · cases h; exact ⟨Try.f72, by rw [fid_72]; exact Try.func72, ok_72⟩
  · cases h; exact ⟨Try.f73, by rw [fid_73]; exact Try.func73, ok_73⟩
  · cases h; exact ⟨Try.f74, by rw [fid_74]; exact Try.func74, ok_74⟩
  · cases h; exact ⟨Try.f75, by rw [fid_75]; exact Try.func75, ok_75⟩
  · cases h; exact ⟨Try.f76, by rw [fid_76]; exact Try.func76, ok_76⟩
  · cases h; exact ⟨Try.f77, by rw [fid_77]; exact Try.func77, ok_77⟩
  · cases h; exact ⟨Try.f78, by rw [fid_78]; exact Try.func78, ok_78⟩
  · cases h; exact ⟨Try.f79, by rw [fid_79]; exact Try.func79, ok_79⟩
  · cases h; exact ⟨Try.f80, by rw [fid_80]; exact Try.func80, ok_80⟩
  · cases h; exact ⟨Try.f81, by rw [fid_81]; exact Try.func81, ok_81⟩
  · cases h; exact ⟨Try.f82, by rw [fid_82]; exact Try.func82, ok_82⟩
  · cases h; exact ⟨Try.f83, by rw [fid_83]; exact Try.func83, ok_83⟩
  · cases h; exact ⟨Try.f84, by rw [fid_84]; exact Try.func84, ok_84⟩
  · cases h; exact ⟨Try.f85, by rw [fid_85]; exact Try.func85, ok_85⟩
  · cases h; exact ⟨Try.f86, by rw [fid_86]; exact Try.func86, ok_86⟩
  · cases h; exact ⟨Try.f87, by rw [fid_87]; exact Try.func87, ok_87⟩
  · cases h; exact ⟨Try.f88, by rw [fid_88]; exact Try.func88, ok_88⟩
  · cases h; exact ⟨Try.f89, by rw [fid_89]; exact Try.func89, ok_89⟩
  · cases h; exact ⟨Try.f90, by rw [fid_90]; exact Try.func90, ok_90⟩
  · cases h; exact ⟨Try.f91, by rw [fid_91]; exact Try.func91, ok_91⟩
  · cases h; exact ⟨Try.f93, by rw [fid_93]; exact Try.func93, ok_93⟩
  · cases h; exact ⟨Try.f94, by rw [fid_94]; exact Try.func94, ok_94⟩
  · cases h; exact ⟨Try.f95, by rw [fid_95]; exact Try.func95, ok_95⟩
  · cases h; exact ⟨Try.f96, by rw [fid_96]; exact Try.func96, ok_96⟩
  · cases h; exact ⟨Try.f97, by rw [fid_97]; exact Try.func97, ok_97⟩
  · cases h; exact ⟨Try.f98, by rw [fid_98]; exact Try.func98, ok_98⟩
  · cases h; exact ⟨Try.f99, by rw [fid_99]; exact Try.func99, ok_99⟩
  · cases h; exact ⟨Try.f100, by rw [fid_100]; exact Try.func100, ok_100⟩
  · cases h; exact ⟨Try.f101, by rw [fid_101]; exact Try.func101, ok_101⟩
  · cases h; exact ⟨Try.f102, by rw [fid_102]; exact Try.func102, ok_102⟩
  · cases h; exact ⟨Try.f103, by rw [fid_103]; exact Try.func103, ok_103⟩
  · cases h; exact ⟨Try.f104, by rw [fid_104]; exact Try.func104, ok_104⟩
  · cases h; exact ⟨Try.f105, by rw [fid_105]; exact Try.func105, ok_105⟩
  · cases h; exact ⟨Try.f106, by rw [fid_106]; exact Try.func106, ok_106⟩
  · cases h; exact ⟨Try.f107, by rw [fid_107]; exact Try.func107, ok_107⟩
  · cases h; exact ⟨Try.f108, by rw [fid_108]; exact Try.func108, ok_108⟩
  · cases h
theorem runs_sound : SoundR Try.prog fid (run tab) := run_sound mid_ok Try.checked.mixed prog_ok
end Go.AVM

/- The arguments of a row, as the abstract machine sees them. -/
set_option linter.unusedVariables false
set_option linter.unusedSimpArgs false
set_option linter.unusedSectionVars false
namespace Go.AVM
section
variable {P : Program} {fid : Nat → FuncId} {W : World} {H : Type} {enc : TypeId × Value → H}
/-- All that the memory holds. -/
def memOf (W : World) : Mem := fun b o => (W.cell? ⟨b, o, none⟩).filter (·.oneCell')
theorem memOf_some {b o : Nat} {v : Value} (h : memOf W b o = some v) : W.cell? ⟨b, o, none⟩ = some v ∧ v.plain := by
  unfold memOf at h
  rw [Option.filter_eq_some_iff] at h
  exact ⟨h.1, plain_one.2 h.2⟩
theorem memOf_mk {b o : Nat} {v : Value} (h : W.cell? ⟨b, o, none⟩ = some v) (hp : v.plain) : memOf W b o = some v := by
  unfold memOf
  rw [Option.filter_eq_some_iff]
  exact ⟨h, plain_one.1 hp⟩
def CellsR (fid : Nat → FuncId) (M : Mem) (avs : List AV) (cs : List Value) : Prop :=
  avs.length = cs.length ∧ ∀ (k : Nat) (x : AV), avs[k]? = some x → ∃ v : Value, cs[k]? = some v ∧ v.plain ∧ FRep fid M x v
/-- What reads as of this type is told by some x. -/
def Opens (P : Program) (fid : Nat → FuncId) (t : TypeId) (X : Type) (en : X → List AV) (ok : X → Prop) : Prop :=
  ∀ {H : Type} (enc : TypeId × Value → H) (W : World) (base : Nat) (spare : Nat → Bool) (held : Bool) (fuel : Nat) (cs : List Value) (d : DataW H) (ps : List MemPlace),
    DataW.trod enc P W base spare held fuel t cs = some (d, ps) → ∃ x, ok x ∧ CellsR fid (memOf W) (en x) cs

theorem plain_int {k : IntKind} {n : Int} : (Value.int k n).plain := ⟨fun _ h => (by cases h), fun _ h => (by cases h)⟩
theorem plain_slice {a : Option Addr} {n c : Nat} : (Value.slice a n c).plain := ⟨fun _ h => (by cases h), fun _ h => (by cases h)⟩
theorem CellsR.one {M : Mem} {x : AV} {v : Value} (hp : v.plain) (h : FRep fid M x v) : CellsR fid M [x] [v] :=
  ⟨rfl, fun k y hy => by
    cases k with
    | zero => simp at hy; subst hy; exact ⟨v, rfl, hp, h⟩
    | succ k => simp at hy⟩
theorem opens_int {t : TypeId} {k : IntKind} (hu : P.underlying t = some (.int k)) : Opens P fid t Int (fun n => [.int k n]) (fun n => k.min ≤ n ∧ n ≤ k.max) := by
  intro H enc W base spare held fuel cs d ps h
  cases fuel with
  | zero => simp [DataW.trod] at h
  | succ fuel =>
    unfold DataW.trod at h
    rw [hu] at h
    split at h <;> try (simp_all; done)
    rename_i k' k2 n heq
    cases heq
    split at h
    · rename_i hc
      obtain ⟨rfl, hwf⟩ := hc
      simp [Lit.wf] at hwf
      exact ⟨n, hwf, .one plain_int (.int _ _)⟩
    · cases h
/-- The parts of a row, joined. -/
theorem cellsR_parts {M : Mem} {X : Type} {en : X → List AV} {sz : Nat} : ∀ {xs : List X} {cs : List Value}, cs.length = xs.length * sz → (∀ (i : Nat) (x : X), xs[i]? = some x → CellsR fid M (en x) ((cs.drop (i * sz)).take sz)) → CellsR fid M (xs.flatMap en) cs
  | [], cs, hl, _ => by
    simp at hl; subst hl
    exact ⟨rfl, fun k x hx => by simp at hx⟩
  | x :: xs, cs, hl, h => by
    have h0 := h 0 x rfl
    simp only [Nat.zero_mul, List.drop_zero] at h0
    have hsz : (cs.take sz).length = sz := by
      rw [List.length_take, List.length_cons, Nat.succ_mul] at *; omega
    have hen : (en x).length = sz := h0.1.trans hsz
    have ih := cellsR_parts (xs := xs) (cs := cs.drop sz) (en := en) (sz := sz) (by rw [List.length_drop, hl, List.length_cons, Nat.succ_mul]; omega) (fun i y hy => by
      have := h (i + 1) y (by simpa using hy)
      rw [List.drop_drop, show sz + i * sz = (i + 1) * sz by rw [Nat.succ_mul]; omega]
      exact this)
    refine ⟨by rw [List.flatMap_cons, List.length_append, hen, ih.1, List.length_drop, hl, List.length_cons, Nat.succ_mul]; omega, fun k y hk => ?_⟩
    rw [List.flatMap_cons, List.getElem?_append, hen] at hk
    split at hk
    · rename_i hlt
      obtain ⟨v, h1, h2, h3⟩ := h0.2 k y hk
      rw [List.getElem?_take_of_lt hlt] at h1
      exact ⟨v, h1, h2, h3⟩
    · rename_i hge
      obtain ⟨v, h1, h2, h3⟩ := ih.2 _ y hk
      rw [List.getElem?_drop, show sz + (k - sz) = k by omega] at h1
      exact ⟨v, h1, h2, h3⟩
theorem mapM_choose {X Y : Type} {f : Nat → Option Y} {Q : Nat → X → Prop} {n : Nat} {ys : List Y} (h : (List.range n).mapM f = some ys) (hf : ∀ i y, i < n → f i = some y → ∃ x, Q i x) : ∃ xs : List X, xs.length = n ∧ ∀ (i : Nat) (x : X), xs[i]? = some x → Q i x := by
  have key : ∀ i, i < n → ∃ x, Q i x := by
    intro i hi
    obtain ⟨hl, hq⟩ := mapM_some h
    obtain ⟨y, _, hy⟩ := hq i i (by simp [hi])
    exact hf i y hi hy
  clear h hf
  induction n with
  | zero => exact ⟨[], rfl, fun i x hx => by simp at hx⟩
  | succ n ih =>
    obtain ⟨xs, hl, hq⟩ := ih fun i hi => key i (by omega)
    obtain ⟨x, hx⟩ := key n (by omega)
    refine ⟨xs ++ [x], by simp [hl], fun i y hy => ?_⟩
    by_cases hi : i < n
    · rw [List.getElem?_append_left (by omega)] at hy; exact hq i y hy
    · rw [List.getElem?_append_right (by omega)] at hy
      by_cases hin : i = n
      · subst hin; simp [hl] at hy; subst hy; exact hx
      · rw [List.getElem?_eq_none (by simp; omega)] at hy; cases hy
theorem opens_array {t e : TypeId} {n : Nat} {X : Type} {en : X → List AV} {ok : X → Prop} (hu : P.underlying t = some (.array n e)) (hc : P.cellsOf t = n * P.cellsOf e) (h : Opens P fid e X en ok) :
    Opens P fid t (List X) (fun xs => xs.flatMap en) (fun xs => xs.length = n ∧ ∀ x ∈ xs, ok x) := by
  intro H enc W base spare held fuel cs d ps hd
  cases fuel with
  | zero => simp [DataW.trod] at hd
  | succ fuel =>
    unfold DataW.trod at hd
    rw [hu] at hd
    split at hd <;> try (exfalso; simp_all; done)
    rename_i cs _ _ n' e' heq
    cases heq
    split at hd
    · rename_i hl
      obtain ⟨ys, hm, _⟩ := Option.map_eq_some_iff.1 hd
      obtain ⟨xs, hxl, hq⟩ := mapM_choose (Q := fun i x => ok x ∧ CellsR fid (memOf W) (en x) ((cs.drop (i * P.cellsOf e)).take (P.cellsOf e))) hm fun i y hi hy => by
        obtain ⟨d', ps'⟩ := y
        exact h enc W base spare held fuel _ d' ps' hy
      refine ⟨xs, ⟨hxl, fun x hx => ?_⟩, cellsR_parts (by rw [hl, hc, hxl]) fun i x hx => (hq i x hx).2⟩
      obtain ⟨i, hi⟩ := List.mem_iff_getElem?.1 hx
      exact (hq i x hi).1
    · cases hd
/-- An element, as the elements of a slice are told. -/
def elOf (sz : Nat) (l : List AV) : AV := if sz = 1 then l.headD .any else .agg l
theorem elOf_cells {M : Mem} {sz : Nat} {l : List AV} {cs : List Value} (h : CellsR fid M l cs) (hl : l.length = sz) : (elOf sz l).cells = l := by
  unfold elOf
  split
  · rename_i h1
    subst h1
    match l, hl with
    | [x], _ =>
      obtain ⟨v, _, hp, hr⟩ := h.2 0 x rfl
      simpa using hr.cells_of_plain hp
  · rfl
theorem cells?_get {a : Addr} {base n : Nat} {cs : List Value} (h : W.cells? base a n = some cs) : cs.length = n ∧ ∀ j, j < n → ∃ v, cs[j]? = some v ∧ W.cell? (a.add j) = some v := by
  unfold World.cells? at h
  split at h
  · obtain ⟨hl, hq⟩ := mapM_some h
    refine ⟨by simpa using hl, fun j hj => hq j j (by simp [hj])⟩
  · cases h
theorem add_add {a : Addr} (hs : a.spot = none) (m j : Nat) : (a.add m).add j = ⟨a.block, a.off + m + j, none⟩ := by
  obtain ⟨b, o, sp⟩ := a
  simp only at hs
  subst hs
  unfold Addr.add
  split <;> split <;> simp_all
theorem opens_slice {t e : TypeId} {sz : Nat} {X : Type} {en : X → List AV} {ok : X → Prop} (hu : P.underlying t = some (.slice e)) (hc : P.cellsOf e = sz) (hpos : 0 < sz) (h : Opens P fid e X en ok) :
    Opens P fid t (List X) (fun xs => [.sl (xs.map fun x => elOf sz (en x)) sz false]) (fun xs => xs.length ≤ maxLen ∧ ∀ x ∈ xs, ok x) := by
  intro H enc W base spare held fuel cs d ps hd
  cases fuel with
  | zero => simp [DataW.trod] at hd
  | succ fuel =>
    unfold DataW.trod at hd
    rw [hu] at hd
    split at hd <;> try (exfalso; simp_all; done)
    · exact ⟨[], ⟨Nat.zero_le _, fun x hx => by cases hx⟩, .one plain_slice (.slN _ _ _ _ (fun h => by cases h))⟩
    · rename_i e' a len cap heq
      cases heq
      simp only at hd
      split at hd
      · rename_i hb
        obtain ⟨elems, hm, _⟩ := Option.bind_eq_some_iff.1 hd
        obtain ⟨xs, hxl, hq⟩ := mapM_choose (Q := fun i x => ok x ∧ ∃ cs, W.cells? base (a.add (i * P.cellsOf e)) (P.cellsOf e) = some cs ∧ CellsR fid (memOf W) (en x) cs) hm fun i y hi hy => by
          obtain ⟨cs, h1, h2⟩ := Option.bind_eq_some_iff.1 hy
          obtain ⟨d', ps'⟩ := y
          obtain ⟨x, o1, o2⟩ := h enc W base spare held fuel _ d' ps' h2
          exact ⟨x, o1, cs, h1, o2⟩
        subst hc
        refine ⟨xs, ⟨by omega, fun x hx => ?_⟩, .one plain_slice ?_⟩
        · obtain ⟨i, hi⟩ := List.mem_iff_getElem?.1 hx
          exact (hq i x hi).1
        · have hlen : (xs.map fun x => elOf (P.cellsOf e) (en x)).length = len := by simp [hxl]
          have key : FRep fid (memOf W) (.sl (xs.map fun x => elOf (P.cellsOf e) (en x)) (P.cellsOf e) false) (.slice (some a) (xs.map fun x => elOf (P.cellsOf e) (en x)).length cap) := by
            refine FRep.sl_mk (by rw [hlen]; exact hb.2.1) (fun h => by cases h) ?_
            match xs, hq with
            | [], _ => exact .inl rfl
            | x0 :: xr, hq =>
              right
              have hsp : a.spot = none := by
                obtain ⟨_, cs0, h1, _⟩ := hq 0 x0 rfl
                obtain ⟨_, h2⟩ := cells?_get h1
                obtain ⟨v, _, h3⟩ := h2 0 hpos
                have e0 : (a.add (0 * P.cellsOf e)).add 0 = a := by simp [Addr.add]
                rw [e0] at h3
                unfold World.cell? at h3
                split at h3
                · split at h3
                  · cases h3
                  · rename_i hsp; simpa using hsp
                · cases h3
              refine ⟨a.block, a.off, by obtain ⟨b, o, sp⟩ := a; simp only at hsp; subst hsp; rfl, fun i el hel => ?_⟩
              rw [List.getElem?_map] at hel
              obtain ⟨x, hx, rfl⟩ := Option.map_eq_some_iff.1 hel
              obtain ⟨_, cs1, h1, h2⟩ := hq i x hx
              obtain ⟨hl1, h3⟩ := cells?_get h1
              have hel : (en x).length = P.cellsOf e := h2.1.trans hl1
              rw [elOf_cells h2 hel]
              refine ⟨hel, fun k y hy => ?_⟩
              have hk : k < P.cellsOf e := by have := (List.getElem?_eq_some_iff.1 hy).1; omega
              obtain ⟨v, v1, v2, v3⟩ := h2.2 k y hy
              obtain ⟨v', w1, w2⟩ := h3 k hk
              rw [v1] at w1; cases w1
              rw [add_add hsp] at w2
              exact ⟨v, memOf_mk w2 v2, v3⟩
          rw [hlen] at key
          exact key
      · cases hd
theorem opens_struct1 {t : TypeId} {fs : Array Field} {f : Field} {X : Type} {en : X → List AV} {ok : X → Prop} (hu : P.underlying t = some (.struct fs)) (hfs : fs.toList = [f]) (ho : f.offset = 0) (hc : P.cellsOf t = P.cellsOf f.type) (h : Opens P fid f.type X en ok) :
    Opens P fid t X en ok := by
  intro H enc W base spare held fuel cs d ps hd
  cases fuel with
  | zero => simp [DataW.trod] at hd
  | succ fuel =>
    unfold DataW.trod at hd
    rw [hu] at hd
    split at hd <;> try (exfalso; simp_all; done)
    rename_i cs _ _ fs' heq
    cases heq
    split at hd
    · rename_i hl
      obtain ⟨ys, hm, _⟩ := Option.map_eq_some_iff.1 hd
      rw [hfs] at hm
      obtain ⟨_, hq⟩ := mapM_some hm
      obtain ⟨⟨d', ps'⟩, _, hy⟩ := hq 0 f rfl
      rw [ho, List.drop_zero, List.take_of_length_le (by omega)] at hy
      exact h enc W base spare held fuel _ d' ps' hy
    · cases hd
/-- An argument of several cells. -/
theorem arg_agg {t : TypeId} {X : Type} {en : X → List AV} {ok : X → Prop} (h : Opens P fid t X en ok) {base : Nat} {spare : Nat → Bool} {held : Bool} {cs : Array Value} {d : DataW H} {ps : List MemPlace} (ht : DataW.Trod enc P W base spare held t (.agg cs) d ps) :
    ∃ x, ok x ∧ FRep fid (memOf W) (.agg (en x)) (.agg cs) := by
  obtain ⟨fuel, hf⟩ := ht
  obtain ⟨x, h1, h2⟩ := h enc W base spare held fuel _ d ps hf
  have e : (Value.agg cs).cells.toList = cs.toList := rfl
  rw [e] at h2
  refine ⟨x, h1, FRep.agg_mk (by rw [← Array.length_toList]; exact h2.1.symm) fun k y hy => ?_⟩
  obtain ⟨v, v1, v2, v3⟩ := h2.2 k y hy
  exact ⟨v, by simpa using v1, v2, v3⟩
end
end Go.AVM

/- From a run of a law's telling to its row. -/
set_option linter.unusedVariables false
set_option linter.unusedSimpArgs false
namespace Go.AVM
open Go.Proofs Go.ChangeShapes Go.WideShapes Go.ChangeAt Go.RowKit
theorem fzv_true {S : Store} {r : AV} (h : fzv S r = some (.bool true)) : r = .bool true := by
  cases r <;> simp only [fzv, fz1, fzDepth, fzc] at h <;> first | (cases h; rfl) | (cases h; done) | skip
  all_goals
    obtain ⟨_, _, h⟩ := Option.bind_eq_some_iff.1 h
    first
      | cases h
      | (obtain ⟨_, _, h⟩ := Option.bind_eq_some_iff.1 h; cases h)
/-- A call that answers true, and has only laid new blocks. -/
theorem true_call {f : Nat} {args : List AV} {cargs : Array Value} {W : World} (h : callPure (run tab) f args = some (.bool true)) (ha : AsRep fid (fun _ _ => none) (memOf W) args cargs) :
    Calls Try.prog (fid f) cargs W fun e W' => e = .returned (.bool true) ∧ Below W.heap.size W W' ∧ ∃ S' J' M', Inv fid S' J' M' W' ∧ Step [] (fun _ _ => none) (memOf W) W S' J' M' W' := by
  unfold callPure at h
  obtain ⟨⟨r, S'⟩, hr, hf⟩ := Option.bind_eq_some_iff.1 h
  have hrt := fzv_true hf
  subst hrt
  have I : Inv fid [] (fun _ _ => none) (memOf W) W := Inv.empty fun b o v hv => memOf_some hv
  refine ((runs_sound f args [] _ S' hr).2 _ _ W cargs I ha).mono fun e W' hl => ?_
  obtain ⟨v, J', M', rfl, I', st, hrep⟩ := hl
  exact ⟨by rw [hrep.bool_inv], ⟨st.os, st.tape, st.output, st.size, fun k hk => st.frame k hk not_wr_nil⟩, S', J', M', I', st⟩
end Go.AVM

