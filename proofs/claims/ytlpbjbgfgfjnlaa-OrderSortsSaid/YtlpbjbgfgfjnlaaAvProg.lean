/- The table of tellings is right; so every run of it is a call of the program. -/
import Derived.Test.YtlpbjbgfgfjnlaaAvChk
import Derived.Eval
set_option linter.unusedVariables false
namespace Go.AVM
open Go.Proofs
theorem mid_ok : MidOk fid mid := by
  have h : (midL.zipIdx.all fun p => match p.1 with | some m => fid m == p.2 | none => true) = true := by kernel_rfl
  intro f m hm
  unfold mid at hm
  cases hf : midL[f]? with
  | none => rw [hf] at hm; cases hm
  | some o =>
    rw [hf] at hm
    cases o with
    | none => cases hm
    | some m' =>
      simp only [Option.join_some, Option.some.injEq] at hm
      subst hm
      have := List.all_eq_true.1 h (some m', f) (List.mem_iff_getElem?.2 ⟨f, by rw [List.getElem?_zipIdx, hf]; simp⟩)
      simpa using this
theorem fid_3 : fid 3 = 3 := by kernel_rfl
theorem fid_4 : fid 4 = 4 := by kernel_rfl
theorem fid_5 : fid 5 = 5 := by kernel_rfl
theorem fid_6 : fid 6 = 6 := by kernel_rfl
theorem fid_7 : fid 7 = 7 := by kernel_rfl
theorem fid_8 : fid 8 = 8 := by kernel_rfl
theorem fid_9 : fid 9 = 9 := by kernel_rfl
theorem fid_10 : fid 10 = 10 := by kernel_rfl
theorem fid_11 : fid 11 = 11 := by kernel_rfl
theorem fid_12 : fid 12 = 12 := by kernel_rfl
theorem fid_13 : fid 13 = 13 := by kernel_rfl
theorem fid_14 : fid 14 = 14 := by kernel_rfl
theorem fid_15 : fid 15 = 15 := by kernel_rfl
theorem fid_16 : fid 16 = 16 := by kernel_rfl
theorem fid_17 : fid 17 = 17 := by kernel_rfl
theorem fid_18 : fid 18 = 18 := by kernel_rfl
theorem fid_19 : fid 19 = 19 := by kernel_rfl
theorem fid_20 : fid 20 = 20 := by kernel_rfl
theorem fid_21 : fid 21 = 21 := by kernel_rfl
theorem fid_22 : fid 22 = 22 := by kernel_rfl
theorem fid_23 : fid 23 = 23 := by kernel_rfl
theorem fid_24 : fid 24 = 24 := by kernel_rfl
theorem fid_25 : fid 25 = 25 := by kernel_rfl
theorem fid_26 : fid 26 = 26 := by kernel_rfl
theorem fid_27 : fid 27 = 27 := by kernel_rfl
theorem fid_28 : fid 28 = 28 := by kernel_rfl
theorem fid_29 : fid 29 = 29 := by kernel_rfl
theorem fid_30 : fid 30 = 30 := by kernel_rfl
theorem fid_31 : fid 31 = 31 := by kernel_rfl
theorem fid_32 : fid 32 = 32 := by kernel_rfl
theorem fid_33 : fid 33 = 33 := by kernel_rfl
theorem fid_34 : fid 34 = 34 := by kernel_rfl
theorem fid_35 : fid 35 = 35 := by kernel_rfl
theorem fid_36 : fid 36 = 36 := by kernel_rfl
theorem fid_37 : fid 37 = 37 := by kernel_rfl
theorem fid_38 : fid 38 = 38 := by kernel_rfl
theorem fid_39 : fid 39 = 39 := by kernel_rfl
theorem fid_40 : fid 40 = 40 := by kernel_rfl
theorem fid_41 : fid 41 = 41 := by kernel_rfl
theorem fid_42 : fid 42 = 42 := by kernel_rfl
theorem fid_43 : fid 43 = 43 := by kernel_rfl
theorem fid_44 : fid 44 = 44 := by kernel_rfl
theorem fid_45 : fid 45 = 45 := by kernel_rfl
theorem fid_46 : fid 46 = 46 := by kernel_rfl
theorem fid_47 : fid 47 = 47 := by kernel_rfl
theorem fid_48 : fid 48 = 48 := by kernel_rfl
theorem fid_49 : fid 49 = 49 := by kernel_rfl
theorem fid_50 : fid 50 = 50 := by kernel_rfl
theorem fid_51 : fid 51 = 51 := by kernel_rfl
theorem fid_52 : fid 52 = 52 := by kernel_rfl
theorem fid_53 : fid 53 = 53 := by kernel_rfl
theorem fid_54 : fid 54 = 54 := by kernel_rfl
theorem fid_55 : fid 55 = 55 := by kernel_rfl
theorem fid_56 : fid 56 = 56 := by kernel_rfl
theorem fid_57 : fid 57 = 57 := by kernel_rfl
theorem fid_58 : fid 58 = 58 := by kernel_rfl
theorem fid_59 : fid 59 = 59 := by kernel_rfl
theorem fid_60 : fid 60 = 60 := by kernel_rfl
theorem fid_61 : fid 61 = 61 := by kernel_rfl
theorem fid_62 : fid 62 = 62 := by kernel_rfl
theorem fid_63 : fid 63 = 63 := by kernel_rfl
theorem fid_64 : fid 64 = 64 := by kernel_rfl
theorem fid_65 : fid 65 = 65 := by kernel_rfl
theorem fid_66 : fid 66 = 66 := by kernel_rfl
theorem fid_67 : fid 67 = 67 := by kernel_rfl
theorem fid_68 : fid 68 = 68 := by kernel_rfl
theorem fid_69 : fid 69 = 69 := by kernel_rfl
theorem fid_70 : fid 70 = 70 := by kernel_rfl
theorem fid_71 : fid 71 = 71 := by kernel_rfl
theorem fid_72 : fid 72 = 72 := by kernel_rfl
theorem fid_73 : fid 73 = 73 := by kernel_rfl
theorem fid_74 : fid 74 = 74 := by kernel_rfl
theorem fid_75 : fid 75 = 75 := by kernel_rfl
theorem fid_76 : fid 76 = 76 := by kernel_rfl
theorem fid_77 : fid 77 = 77 := by kernel_rfl
theorem fid_78 : fid 78 = 78 := by kernel_rfl
theorem fid_79 : fid 79 = 79 := by kernel_rfl
theorem fid_80 : fid 80 = 80 := by kernel_rfl
theorem fid_81 : fid 81 = 81 := by kernel_rfl
theorem fid_82 : fid 82 = 82 := by kernel_rfl
theorem fid_83 : fid 83 = 83 := by kernel_rfl
theorem fid_84 : fid 84 = 84 := by kernel_rfl
theorem fid_85 : fid 85 = 85 := by kernel_rfl
theorem fid_86 : fid 86 = 86 := by kernel_rfl
theorem fid_87 : fid 87 = 87 := by kernel_rfl
theorem fid_88 : fid 88 = 88 := by kernel_rfl
theorem fid_89 : fid 89 = 89 := by kernel_rfl
theorem fid_90 : fid 90 = 90 := by kernel_rfl
theorem fid_91 : fid 91 = 91 := by kernel_rfl
theorem fid_92 : fid 92 = 92 := by kernel_rfl
theorem fid_93 : fid 93 = 93 := by kernel_rfl
theorem fid_94 : fid 94 = 94 := by kernel_rfl
theorem fid_95 : fid 95 = 95 := by kernel_rfl
theorem fid_96 : fid 96 = 96 := by kernel_rfl
theorem fid_97 : fid 97 = 97 := by kernel_rfl
theorem fid_98 : fid 98 = 98 := by kernel_rfl
theorem fid_99 : fid 99 = 99 := by kernel_rfl
theorem fid_100 : fid 100 = 100 := by kernel_rfl
theorem fid_101 : fid 101 = 101 := by kernel_rfl
theorem fid_102 : fid 102 = 102 := by kernel_rfl
theorem fid_103 : fid 103 = 103 := by kernel_rfl
theorem fid_104 : fid 104 = 104 := by kernel_rfl
theorem fid_105 : fid 105 = 105 := by kernel_rfl
theorem fid_106 : fid 106 = 106 := by kernel_rfl
theorem fid_107 : fid 107 = 107 := by kernel_rfl
theorem fid_108 : fid 108 = 108 := by kernel_rfl
theorem prog_ok : ProgOk Try.prog fid mid tab := by
  intro f af h
  unfold tab at h
  split at h
  · cases h; exact ⟨Try.f3, by rw [fid_3]; exact Try.func3, ok_3⟩
  · cases h; exact ⟨Try.f4, by rw [fid_4]; exact Try.func4, ok_4⟩
  · cases h; exact ⟨Try.f5, by rw [fid_5]; exact Try.func5, ok_5⟩
  · cases h; exact ⟨Try.f6, by rw [fid_6]; exact Try.func6, ok_6⟩
  · cases h; exact ⟨Try.f7, by rw [fid_7]; exact Try.func7, ok_7⟩
  · cases h; exact ⟨Try.f8, by rw [fid_8]; exact Try.func8, ok_8⟩
  · cases h; exact ⟨Try.f9, by rw [fid_9]; exact Try.func9, ok_9⟩
  · cases h; exact ⟨Try.f10, by rw [fid_10]; exact Try.func10, ok_10⟩
  · cases h; exact ⟨Try.f11, by rw [fid_11]; exact Try.func11, ok_11⟩
  · cases h; exact ⟨Try.f12, by rw [fid_12]; exact Try.func12, ok_12⟩
  · cases h; exact ⟨Try.f13, by rw [fid_13]; exact Try.func13, ok_13⟩
  · cases h; exact ⟨Try.f14, by rw [fid_14]; exact Try.func14, ok_14⟩
  · cases h; exact ⟨Try.f15, by rw [fid_15]; exact Try.func15, ok_15⟩
  · cases h; exact ⟨Try.f16, by rw [fid_16]; exact Try.func16, ok_16⟩
  · cases h; exact ⟨Try.f17, by rw [fid_17]; exact Try.func17, ok_17⟩
  · cases h; exact ⟨Try.f18, by rw [fid_18]; exact Try.func18, ok_18⟩
  · cases h; exact ⟨Try.f19, by rw [fid_19]; exact Try.func19, ok_19⟩
  · cases h; exact ⟨Try.f20, by rw [fid_20]; exact Try.func20, ok_20⟩
  · cases h; exact ⟨Try.f21, by rw [fid_21]; exact Try.func21, ok_21⟩
  · cases h; exact ⟨Try.f22, by rw [fid_22]; exact Try.func22, ok_22⟩
  · cases h; exact ⟨Try.f23, by rw [fid_23]; exact Try.func23, ok_23⟩
  · cases h; exact ⟨Try.f24, by rw [fid_24]; exact Try.func24, ok_24⟩
  · cases h; exact ⟨Try.f25, by rw [fid_25]; exact Try.func25, ok_25⟩
  · cases h; exact ⟨Try.f26, by rw [fid_26]; exact Try.func26, ok_26⟩
  · cases h; exact ⟨Try.f27, by rw [fid_27]; exact Try.func27, ok_27⟩
  · cases h; exact ⟨Try.f28, by rw [fid_28]; exact Try.func28, ok_28⟩
  · cases h; exact ⟨Try.f29, by rw [fid_29]; exact Try.func29, ok_29⟩
  · cases h; exact ⟨Try.f30, by rw [fid_30]; exact Try.func30, ok_30⟩
  · cases h; exact ⟨Try.f31, by rw [fid_31]; exact Try.func31, ok_31⟩
  · cases h; exact ⟨Try.f32, by rw [fid_32]; exact Try.func32, ok_32⟩
  · cases h; exact ⟨Try.f33, by rw [fid_33]; exact Try.func33, ok_33⟩
  · cases h; exact ⟨Try.f34, by rw [fid_34]; exact Try.func34, ok_34⟩
  · cases h; exact ⟨Try.f35, by rw [fid_35]; exact Try.func35, ok_35⟩
  · cases h; exact ⟨Try.f36, by rw [fid_36]; exact Try.func36, ok_36⟩
  · cases h; exact ⟨Try.f37, by rw [fid_37]; exact Try.func37, ok_37⟩
  · cases h; exact ⟨Try.f38, by rw [fid_38]; exact Try.func38, ok_38⟩
  · cases h; exact ⟨Try.f39, by rw [fid_39]; exact Try.func39, ok_39⟩
  · cases h; exact ⟨Try.f40, by rw [fid_40]; exact Try.func40, ok_40⟩
  · cases h; exact ⟨Try.f41, by rw [fid_41]; exact Try.func41, ok_41⟩
  · cases h; exact ⟨Try.f42, by rw [fid_42]; exact Try.func42, ok_42⟩
  · cases h; exact ⟨Try.f43, by rw [fid_43]; exact Try.func43, ok_43⟩
  · cases h; exact ⟨Try.f44, by rw [fid_44]; exact Try.func44, ok_44⟩
  · cases h; exact ⟨Try.f45, by rw [fid_45]; exact Try.func45, ok_45⟩
  · cases h; exact ⟨Try.f46, by rw [fid_46]; exact Try.func46, ok_46⟩
  · cases h; exact ⟨Try.f47, by rw [fid_47]; exact Try.func47, ok_47⟩
  · cases h; exact ⟨Try.f48, by rw [fid_48]; exact Try.func48, ok_48⟩
  · cases h; exact ⟨Try.f49, by rw [fid_49]; exact Try.func49, ok_49⟩
  · cases h; exact ⟨Try.f50, by rw [fid_50]; exact Try.func50, ok_50⟩
  · cases h; exact ⟨Try.f51, by rw [fid_51]; exact Try.func51, ok_51⟩
  · cases h; exact ⟨Try.f52, by rw [fid_52]; exact Try.func52, ok_52⟩
  · cases h; exact ⟨Try.f53, by rw [fid_53]; exact Try.func53, ok_53⟩
  · cases h; exact ⟨Try.f54, by rw [fid_54]; exact Try.func54, ok_54⟩
  · cases h; exact ⟨Try.f55, by rw [fid_55]; exact Try.func55, ok_55⟩
  · cases h; exact ⟨Try.f56, by rw [fid_56]; exact Try.func56, ok_56⟩
  · cases h; exact ⟨Try.f57, by rw [fid_57]; exact Try.func57, ok_57⟩
  · cases h; exact ⟨Try.f58, by rw [fid_58]; exact Try.func58, ok_58⟩
  · cases h; exact ⟨Try.f59, by rw [fid_59]; exact Try.func59, ok_59⟩
  · cases h; exact ⟨Try.f60, by rw [fid_60]; exact Try.func60, ok_60⟩
  · cases h; exact ⟨Try.f61, by rw [fid_61]; exact Try.func61, ok_61⟩
  · cases h; exact ⟨Try.f62, by rw [fid_62]; exact Try.func62, ok_62⟩
  · cases h; exact ⟨Try.f63, by rw [fid_63]; exact Try.func63, ok_63⟩
  · cases h; exact ⟨Try.f64, by rw [fid_64]; exact Try.func64, ok_64⟩
  · cases h; exact ⟨Try.f65, by rw [fid_65]; exact Try.func65, ok_65⟩
  · cases h; exact ⟨Try.f66, by rw [fid_66]; exact Try.func66, ok_66⟩
  · cases h; exact ⟨Try.f67, by rw [fid_67]; exact Try.func67, ok_67⟩
  · cases h; exact ⟨Try.f68, by rw [fid_68]; exact Try.func68, ok_68⟩
  · cases h; exact ⟨Try.f69, by rw [fid_69]; exact Try.func69, ok_69⟩
  · cases h; exact ⟨Try.f70, by rw [fid_70]; exact Try.func70, ok_70⟩
  · cases h; exact ⟨Try.f71, by rw [fid_71]; exact Try.func71, ok_71⟩
  · cases h; exact ⟨Try.f72, by rw [fid_72]; exact Try.func72, ok_72⟩
  · cases h; exact ⟨Try.f73, by rw [fid_73]; exact Try.func73, ok_73⟩
  · cases h; exact ⟨Try.f74, by rw [fid_74]; exact Try.func74, ok_74⟩
  · cases h; exact ⟨Try.f75, by rw [fid_75]; exact Try.func75, ok_75⟩
  · cases h; exact ⟨Try.f76, by rw [fid_76]; exact Try.func76, ok_76⟩
  · cases h; exact ⟨Try.f77, by rw [fid_77]; exact Try.func77, ok_77⟩
  · cases h; exact ⟨Try.f78, by rw [fid_78]; exact Try.func78, ok_78⟩
  · cases h; exact ⟨Try.f79, by rw [fid_79]; exact Try.func79, ok_79⟩
  · cases h; exact ⟨Try.f80, by rw [fid_80]; exact Try.func80, ok_80⟩
  · cases h; exact ⟨Try.f81, by rw [fid_81]; exact Try.func81, ok_81⟩
  · cases h; exact ⟨Try.f82, by rw [fid_82]; exact Try.func82, ok_82⟩
  · cases h; exact ⟨Try.f83, by rw [fid_83]; exact Try.func83, ok_83⟩
  · cases h; exact ⟨Try.f84, by rw [fid_84]; exact Try.func84, ok_84⟩
  · cases h; exact ⟨Try.f85, by rw [fid_85]; exact Try.func85, ok_85⟩
  · cases h; exact ⟨Try.f86, by rw [fid_86]; exact Try.func86, ok_86⟩
  · cases h; exact ⟨Try.f87, by rw [fid_87]; exact Try.func87, ok_87⟩
  · cases h; exact ⟨Try.f88, by rw [fid_88]; exact Try.func88, ok_88⟩
  · cases h; exact ⟨Try.f89, by rw [fid_89]; exact Try.func89, ok_89⟩
  · cases h; exact ⟨Try.f90, by rw [fid_90]; exact Try.func90, ok_90⟩
  · cases h; exact ⟨Try.f91, by rw [fid_91]; exact Try.func91, ok_91⟩
  · cases h; exact ⟨Try.f92, by rw [fid_92]; exact Try.func92, ok_92⟩
  · cases h; exact ⟨Try.f93, by rw [fid_93]; exact Try.func93, ok_93⟩
  · cases h; exact ⟨Try.f94, by rw [fid_94]; exact Try.func94, ok_94⟩
  · cases h; exact ⟨Try.f95, by rw [fid_95]; exact Try.func95, ok_95⟩
  · cases h; exact ⟨Try.f96, by rw [fid_96]; exact Try.func96, ok_96⟩
  · cases h; exact ⟨Try.f97, by rw [fid_97]; exact Try.func97, ok_97⟩
  · cases h; exact ⟨Try.f98, by rw [fid_98]; exact Try.func98, ok_98⟩
  · cases h; exact ⟨Try.f99, by rw [fid_99]; exact Try.func99, ok_99⟩
  · cases h; exact ⟨Try.f100, by rw [fid_100]; exact Try.func100, ok_100⟩
  · cases h; exact ⟨Try.f101, by rw [fid_101]; exact Try.func101, ok_101⟩
  · cases h; exact ⟨Try.f102, by rw [fid_102]; exact Try.func102, ok_102⟩
  · cases h; exact ⟨Try.f103, by rw [fid_103]; exact Try.func103, ok_103⟩
  · cases h; exact ⟨Try.f104, by rw [fid_104]; exact Try.func104, ok_104⟩
  · cases h; exact ⟨Try.f105, by rw [fid_105]; exact Try.func105, ok_105⟩
  · cases h; exact ⟨Try.f106, by rw [fid_106]; exact Try.func106, ok_106⟩
  · cases h; exact ⟨Try.f107, by rw [fid_107]; exact Try.func107, ok_107⟩
  · cases h; exact ⟨Try.f108, by rw [fid_108]; exact Try.func108, ok_108⟩
  · cases h
theorem runs_sound : SoundR Try.prog fid (run tab) := run_sound mid_ok Try.checked.mixed prog_ok
end Go.AVM
