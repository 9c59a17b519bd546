/- The table of the functions told. -/
import Derived.Test.YtlpbjbgfgfjnlaaAvF0
namespace Go.AVM
def tab : Prog := fun n => match n with
  | 3 => some f3
  | 4 => some f4
  | 5 => some f5
  | 6 => some f6
  | 7 => some f7
  | 8 => some f8
  | 9 => some f9
  | 10 => some f10
  | 11 => some f11
  | 12 => some f12
  | 13 => some f13
  | 14 => some f14
  | 15 => some f15
  | 16 => some f16
  | 17 => some f17
  | 18 => some f18
  | 19 => some f19
  | 20 => some f20
  | 21 => some f21
  | 22 => some f22
  | 23 => some f23
  | 24 => some f24
  | 25 => some f25
  | 26 => some f26
  | 27 => some f27
  | 28 => some f28
  | 29 => some f29
  | 30 => some f30
  | 31 => some f31
  | 32 => some f32
  | 33 => some f33
  | 34 => some f34
  | 35 => some f35
  | 36 => some f36
  | 37 => some f37
  | 38 => some f38
  | 39 => some f39
  | 40 => some f40
  | 41 => some f41
  | 42 => some f42
  | 43 => some f43
  | 44 => some f44
  | 45 => some f45
  | 46 => some f46
  | 47 => some f47
  | 48 => some f48
  | 49 => some f49
  | 50 => some f50
  | 51 => some f51
  | 52 => some f52
  | 53 => some f53
  | 54 => some f54
  | 55 => some f55
  | 56 => some f56
  | 57 => some f57
  | 58 => some f58
  | 59 => some f59
  | 60 => some f60
  | 61 => some f61
  | 62 => some f62
  | 63 => some f63
  | 64 => some f64
  | 65 => some f65
  | 66 => some f66
  | 67 => some f67
  | 68 => some f68
  | 69 => some f69
  | 70 => some f70
  | 71 => some f71
  | 72 => some f72
  | 73 => some f73
  | 74 => some f74
  | 75 => some f75
  | 76 => some f76
  | 77 => some f77
  | 78 => some f78
  | 79 => some f79
  | 80 => some f80
  | 81 => some f81
  | 82 => some f82
  | 83 => some f83
  | 84 => some f84
  | 85 => some f85
  | 86 => some f86
  | 87 => some f87
  | 88 => some f88
  | 89 => some f89
  | 90 => some f90
  | 91 => some f91
  | 92 => some f92
  | 93 => some f93
  | 94 => some f94
  | 95 => some f95
  | 96 => some f96
  | 97 => some f97
  | 98 => some f98
  | 99 => some f99
  | 100 => some f100
  | 101 => some f101
  | 102 => some f102
  | 103 => some f103
  | 104 => some f104
  | 105 => some f105
  | 106 => some f106
  | 107 => some f107
  | 108 => some f108
  | _ => none
theorem tab_3 : tab 3 = some f3 := rfl
theorem tab_4 : tab 4 = some f4 := rfl
theorem tab_5 : tab 5 = some f5 := rfl
theorem tab_6 : tab 6 = some f6 := rfl
theorem tab_7 : tab 7 = some f7 := rfl
theorem tab_8 : tab 8 = some f8 := rfl
theorem tab_9 : tab 9 = some f9 := rfl
theorem tab_10 : tab 10 = some f10 := rfl
theorem tab_11 : tab 11 = some f11 := rfl
theorem tab_12 : tab 12 = some f12 := rfl
theorem tab_13 : tab 13 = some f13 := rfl
theorem tab_14 : tab 14 = some f14 := rfl
theorem tab_15 : tab 15 = some f15 := rfl
theorem tab_16 : tab 16 = some f16 := rfl
theorem tab_17 : tab 17 = some f17 := rfl
theorem tab_18 : tab 18 = some f18 := rfl
theorem tab_19 : tab 19 = some f19 := rfl
theorem tab_20 : tab 20 = some f20 := rfl
theorem tab_21 : tab 21 = some f21 := rfl
theorem tab_22 : tab 22 = some f22 := rfl
theorem tab_23 : tab 23 = some f23 := rfl
theorem tab_24 : tab 24 = some f24 := rfl
theorem tab_25 : tab 25 = some f25 := rfl
theorem tab_26 : tab 26 = some f26 := rfl
theorem tab_27 : tab 27 = some f27 := rfl
theorem tab_28 : tab 28 = some f28 := rfl
theorem tab_29 : tab 29 = some f29 := rfl
theorem tab_30 : tab 30 = some f30 := rfl
theorem tab_31 : tab 31 = some f31 := rfl
theorem tab_32 : tab 32 = some f32 := rfl
theorem tab_33 : tab 33 = some f33 := rfl
theorem tab_34 : tab 34 = some f34 := rfl
theorem tab_35 : tab 35 = some f35 := rfl
theorem tab_36 : tab 36 = some f36 := rfl
theorem tab_37 : tab 37 = some f37 := rfl
theorem tab_38 : tab 38 = some f38 := rfl
theorem tab_39 : tab 39 = some f39 := rfl
theorem tab_40 : tab 40 = some f40 := rfl
theorem tab_41 : tab 41 = some f41 := rfl
theorem tab_42 : tab 42 = some f42 := rfl
theorem tab_43 : tab 43 = some f43 := rfl
theorem tab_44 : tab 44 = some f44 := rfl
theorem tab_45 : tab 45 = some f45 := rfl
theorem tab_46 : tab 46 = some f46 := rfl
theorem tab_47 : tab 47 = some f47 := rfl
theorem tab_48 : tab 48 = some f48 := rfl
theorem tab_49 : tab 49 = some f49 := rfl
theorem tab_50 : tab 50 = some f50 := rfl
theorem tab_51 : tab 51 = some f51 := rfl
theorem tab_52 : tab 52 = some f52 := rfl
theorem tab_53 : tab 53 = some f53 := rfl
theorem tab_54 : tab 54 = some f54 := rfl
theorem tab_55 : tab 55 = some f55 := rfl
theorem tab_56 : tab 56 = some f56 := rfl
theorem tab_57 : tab 57 = some f57 := rfl
theorem tab_58 : tab 58 = some f58 := rfl
theorem tab_59 : tab 59 = some f59 := rfl
theorem tab_60 : tab 60 = some f60 := rfl
theorem tab_61 : tab 61 = some f61 := rfl
theorem tab_62 : tab 62 = some f62 := rfl
theorem tab_63 : tab 63 = some f63 := rfl
theorem tab_64 : tab 64 = some f64 := rfl
theorem tab_65 : tab 65 = some f65 := rfl
theorem tab_66 : tab 66 = some f66 := rfl
theorem tab_67 : tab 67 = some f67 := rfl
theorem tab_68 : tab 68 = some f68 := rfl
theorem tab_69 : tab 69 = some f69 := rfl
theorem tab_70 : tab 70 = some f70 := rfl
theorem tab_71 : tab 71 = some f71 := rfl
theorem tab_72 : tab 72 = some f72 := rfl
theorem tab_73 : tab 73 = some f73 := rfl
theorem tab_74 : tab 74 = some f74 := rfl
theorem tab_75 : tab 75 = some f75 := rfl
theorem tab_76 : tab 76 = some f76 := rfl
theorem tab_77 : tab 77 = some f77 := rfl
theorem tab_78 : tab 78 = some f78 := rfl
theorem tab_79 : tab 79 = some f79 := rfl
theorem tab_80 : tab 80 = some f80 := rfl
theorem tab_81 : tab 81 = some f81 := rfl
theorem tab_82 : tab 82 = some f82 := rfl
theorem tab_83 : tab 83 = some f83 := rfl
theorem tab_84 : tab 84 = some f84 := rfl
theorem tab_85 : tab 85 = some f85 := rfl
theorem tab_86 : tab 86 = some f86 := rfl
theorem tab_87 : tab 87 = some f87 := rfl
theorem tab_88 : tab 88 = some f88 := rfl
theorem tab_89 : tab 89 = some f89 := rfl
theorem tab_90 : tab 90 = some f90 := rfl
theorem tab_91 : tab 91 = some f91 := rfl
theorem tab_92 : tab 92 = some f92 := rfl
theorem tab_93 : tab 93 = some f93 := rfl
theorem tab_94 : tab 94 = some f94 := rfl
theorem tab_95 : tab 95 = some f95 := rfl
theorem tab_96 : tab 96 = some f96 := rfl
theorem tab_97 : tab 97 = some f97 := rfl
theorem tab_98 : tab 98 = some f98 := rfl
theorem tab_99 : tab 99 = some f99 := rfl
theorem tab_100 : tab 100 = some f100 := rfl
theorem tab_101 : tab 101 = some f101 := rfl
theorem tab_102 : tab 102 = some f102 := rfl
theorem tab_103 : tab 103 = some f103 := rfl
theorem tab_104 : tab 104 = some f104 := rfl
theorem tab_105 : tab 105 = some f105 := rfl
theorem tab_106 : tab 106 = some f106 := rfl
theorem tab_107 : tab 107 = some f107 := rfl
theorem tab_108 : tab 108 = some f108 := rfl
end Go.AVM
