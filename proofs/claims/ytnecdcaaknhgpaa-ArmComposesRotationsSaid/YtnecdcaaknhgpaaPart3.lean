/- Part of the proof: the evaluation of the program's code and its tie to the machine, or what functions of the program compute over it. -/
import Derived.Test.YtnecdcaaknhgpaaPart2
import Derived.Test.YtnecdcaaknhgpaaEng6
namespace Go.Proofs.Ytnecdcaaknhgpaa
open Go Go.Zv
set_option maxRecDepth 100000

def E : FuncId → Option AFn
  | 3 => some A3
  | 4 => some A4
  | 5 => some A5
  | 6 => some A6
  | 7 => some A7
  | 8 => some A8
  | 9 => some A9
  | 10 => some A10
  | 11 => some A11
  | 12 => some A12
  | 13 => some A13
  | 14 => some A14
  | 15 => some A15
  | 16 => some A16
  | 17 => some A17
  | 18 => some A18
  | 19 => some A19
  | 20 => some A20
  | 21 => some A21
  | 22 => some A22
  | 23 => some A23
  | 24 => some A24
  | 25 => some A25
  | 26 => some A26
  | 27 => some A27
  | 28 => some A28
  | 29 => some A29
  | 30 => some A30
  | 31 => some A31
  | 32 => some A32
  | 33 => some A33
  | 34 => some A34
  | 35 => some A35
  | 36 => some A36
  | 37 => some A37
  | 38 => some A38
  | 39 => some A39
  | 40 => some A40
  | 41 => some A41
  | 42 => some A42
  | 43 => some A43
  | 44 => some A44
  | 45 => some A45
  | 46 => some A46
  | 47 => some A47
  | 48 => some A48
  | 49 => some A49
  | 50 => some A50
  | 51 => some A51
  | 52 => some A52
  | 53 => some A53
  | 54 => some A54
  | 55 => some A55
  | 56 => some A56
  | 57 => some A57
  | 58 => some A58
  | 59 => some A59
  | 60 => some A60
  | 61 => some A61
  | 62 => some A62
  | 63 => some A63
  | 64 => some A64
  | 65 => some A65
  | 66 => some A66
  | 67 => some A67
  | 68 => some A68
  | 69 => some A69
  | 70 => some A70
  | 71 => some A71
  | 72 => some A72
  | 73 => some A73
  | 74 => some A74
  | 75 => some A75
  | 76 => some A76
  | 77 => some A77
  | 78 => some A78
  | 79 => some A79
  | 80 => some A80
  | 81 => some A81
  | 82 => some A82
  | 83 => some A83
  | 84 => some A84
  | 85 => some A85
  | 86 => some A86
  | 87 => some A87
  | 88 => some A88
  | 89 => some A89
  | 90 => some A90
  | 91 => some A91
  | 92 => some A92
  | 93 => some A93
  | 94 => some A94
  | 95 => some A95
  | 96 => some A96
  | 97 => some A97
  | 98 => some A98
  | 99 => some A99
  | 100 => some A100
  | 101 => some A101
  | 102 => some A102
  | 103 => some A103
  | 104 => some A104
  | 105 => some A105
  | 106 => some A106
  | 107 => some A107
  | 108 => some A108
  | 109 => some A109
  | 110 => some A110
  | 111 => some A111
  | 112 => some A112
  | 113 => some A113
  | 114 => some A114
  | 115 => some A115
  | 116 => some A116
  | 117 => some A117
  | 118 => some A118
  | 119 => some A119
  | 120 => some A120
  | 121 => some A121
  | 122 => some A122
  | 123 => some A123
  | 124 => some A124
  | 125 => some A125
  | 126 => some A126
  | 127 => some A127
  | 128 => some A128
  | 129 => some A129
  | 130 => some A130
  | 131 => some A131
  | 132 => some A132
  | _ => none
theorem E_3 : E 3 = some A3 := rfl
theorem E_4 : E 4 = some A4 := rfl
theorem E_5 : E 5 = some A5 := rfl
theorem E_6 : E 6 = some A6 := rfl
theorem E_7 : E 7 = some A7 := rfl
theorem E_8 : E 8 = some A8 := rfl
theorem E_9 : E 9 = some A9 := rfl
theorem E_10 : E 10 = some A10 := rfl
theorem E_11 : E 11 = some A11 := rfl
theorem E_12 : E 12 = some A12 := rfl
theorem E_13 : E 13 = some A13 := rfl
theorem E_14 : E 14 = some A14 := rfl
theorem E_15 : E 15 = some A15 := rfl
theorem E_16 : E 16 = some A16 := rfl
theorem E_17 : E 17 = some A17 := rfl
theorem E_18 : E 18 = some A18 := rfl
theorem E_19 : E 19 = some A19 := rfl
theorem E_20 : E 20 = some A20 := rfl
theorem E_21 : E 21 = some A21 := rfl
theorem E_22 : E 22 = some A22 := rfl
theorem E_23 : E 23 = some A23 := rfl
theorem E_24 : E 24 = some A24 := rfl
theorem E_25 : E 25 = some A25 := rfl
theorem E_26 : E 26 = some A26 := rfl
theorem E_27 : E 27 = some A27 := rfl
theorem E_28 : E 28 = some A28 := rfl
theorem E_29 : E 29 = some A29 := rfl
theorem E_30 : E 30 = some A30 := rfl
theorem E_31 : E 31 = some A31 := rfl
theorem E_32 : E 32 = some A32 := rfl
theorem E_33 : E 33 = some A33 := rfl
theorem E_34 : E 34 = some A34 := rfl
theorem E_35 : E 35 = some A35 := rfl
theorem E_36 : E 36 = some A36 := rfl
theorem E_37 : E 37 = some A37 := rfl
theorem E_38 : E 38 = some A38 := rfl
theorem E_39 : E 39 = some A39 := rfl
theorem E_40 : E 40 = some A40 := rfl
theorem E_41 : E 41 = some A41 := rfl
theorem E_42 : E 42 = some A42 := rfl
theorem E_43 : E 43 = some A43 := rfl
theorem E_44 : E 44 = some A44 := rfl
theorem E_45 : E 45 = some A45 := rfl
theorem E_46 : E 46 = some A46 := rfl
theorem E_47 : E 47 = some A47 := rfl
theorem E_48 : E 48 = some A48 := rfl
theorem E_49 : E 49 = some A49 := rfl
theorem E_50 : E 50 = some A50 := rfl
theorem E_51 : E 51 = some A51 := rfl
theorem E_52 : E 52 = some A52 := rfl
theorem E_53 : E 53 = some A53 := rfl
theorem E_54 : E 54 = some A54 := rfl
theorem E_55 : E 55 = some A55 := rfl
theorem E_56 : E 56 = some A56 := rfl
theorem E_57 : E 57 = some A57 := rfl
theorem E_58 : E 58 = some A58 := rfl
theorem E_59 : E 59 = some A59 := rfl
theorem E_60 : E 60 = some A60 := rfl
theorem E_61 : E 61 = some A61 := rfl
theorem E_62 : E 62 = some A62 := rfl
theorem E_63 : E 63 = some A63 := rfl
theorem E_64 : E 64 = some A64 := rfl
theorem E_65 : E 65 = some A65 := rfl
theorem E_66 : E 66 = some A66 := rfl
theorem E_67 : E 67 = some A67 := rfl
theorem E_68 : E 68 = some A68 := rfl
theorem E_69 : E 69 = some A69 := rfl
theorem E_70 : E 70 = some A70 := rfl
theorem E_71 : E 71 = some A71 := rfl
theorem E_72 : E 72 = some A72 := rfl
theorem E_73 : E 73 = some A73 := rfl
theorem E_74 : E 74 = some A74 := rfl
theorem E_75 : E 75 = some A75 := rfl
theorem E_76 : E 76 = some A76 := rfl
theorem E_77 : E 77 = some A77 := rfl
theorem E_78 : E 78 = some A78 := rfl
theorem E_79 : E 79 = some A79 := rfl
theorem E_80 : E 80 = some A80 := rfl
theorem E_81 : E 81 = some A81 := rfl
theorem E_82 : E 82 = some A82 := rfl
theorem E_83 : E 83 = some A83 := rfl
theorem E_84 : E 84 = some A84 := rfl
theorem E_85 : E 85 = some A85 := rfl
theorem E_86 : E 86 = some A86 := rfl
theorem E_87 : E 87 = some A87 := rfl
theorem E_88 : E 88 = some A88 := rfl
theorem E_89 : E 89 = some A89 := rfl
theorem E_90 : E 90 = some A90 := rfl
theorem E_91 : E 91 = some A91 := rfl
theorem E_92 : E 92 = some A92 := rfl
theorem E_93 : E 93 = some A93 := rfl
theorem E_94 : E 94 = some A94 := rfl
theorem E_95 : E 95 = some A95 := rfl
theorem E_96 : E 96 = some A96 := rfl
theorem E_97 : E 97 = some A97 := rfl
theorem E_98 : E 98 = some A98 := rfl
theorem E_99 : E 99 = some A99 := rfl
theorem E_100 : E 100 = some A100 := rfl
theorem E_101 : E 101 = some A101 := rfl
theorem E_102 : E 102 = some A102 := rfl
theorem E_103 : E 103 = some A103 := rfl
theorem E_104 : E 104 = some A104 := rfl
theorem E_105 : E 105 = some A105 := rfl
theorem E_106 : E 106 = some A106 := rfl
theorem E_107 : E 107 = some A107 := rfl
theorem E_108 : E 108 = some A108 := rfl
theorem E_109 : E 109 = some A109 := rfl
theorem E_110 : E 110 = some A110 := rfl
theorem E_111 : E 111 = some A111 := rfl
theorem E_112 : E 112 = some A112 := rfl
theorem E_113 : E 113 = some A113 := rfl
theorem E_114 : E 114 = some A114 := rfl
theorem E_115 : E 115 = some A115 := rfl
theorem E_116 : E 116 = some A116 := rfl
theorem E_117 : E 117 = some A117 := rfl
theorem E_118 : E 118 = some A118 := rfl
theorem E_119 : E 119 = some A119 := rfl
theorem E_120 : E 120 = some A120 := rfl
theorem E_121 : E 121 = some A121 := rfl
theorem E_122 : E 122 = some A122 := rfl
theorem E_123 : E 123 = some A123 := rfl
theorem E_124 : E 124 = some A124 := rfl
theorem E_125 : E 125 = some A125 := rfl
theorem E_126 : E 126 = some A126 := rfl
theorem E_127 : E 127 = some A127 := rfl
theorem E_128 : E 128 = some A128 := rfl
theorem E_129 : E 129 = some A129 := rfl
theorem E_130 : E 130 = some A130 := rfl
theorem E_131 : E 131 = some A131 := rfl
theorem E_132 : E 132 = some A132 := rfl
theorem A3_L0_eq (s : St) : K E A3_L0 s = (K E A3_L0b s).bind (loopF E A3_L0 (some [3, 4, 5, 11, 12, 13, 14, 15]) [10, 58]) := loop_fold rfl s
theorem A4_L0_eq (s : St) : K E A4_L0 s = (K E A4_L0b s).bind (loopF E A4_L0 (some [9, 11, 13, 14, 15, 16, 20]) [8, 125, 134]) := loop_fold rfl s
theorem A4_L1_eq (s : St) : K E A4_L1 s = (K E A4_L1b s).bind (loopF E A4_L1 (some [9, 11, 13, 14, 15, 16, 18, 19]) [8, 104, 111]) := loop_fold rfl s
theorem A4_L2_eq (s : St) : K E A4_L2 s = (K E A4_L2b s).bind (loopF E A4_L2 (some [9, 11, 13, 14, 15, 16, 18]) [8, 19, 104, 111]) := loop_fold rfl s
theorem A4_L3_eq (s : St) : K E A4_L3 s = (K E A4_L3b s).bind (loopF E A4_L3 (some [9, 11, 13, 14, 15, 16, 17]) [8]) := loop_fold rfl s
theorem A5_L0_eq (s : St) : K E A5_L0 s = (K E A5_L0b s).bind (loopF E A5_L0 (some [11, 13, 19, 20, 21]) [10]) := loop_fold rfl s
theorem A5_L1_eq (s : St) : K E A5_L1 s = (K E A5_L1b s).bind (loopF E A5_L1 (some [5, 9, 11, 12, 13, 14, 16, 17, 18]) [10]) := loop_fold rfl s
theorem A6_L0_eq (s : St) : K E A6_L0 s = (K E A6_L0b s).bind (loopF E A6_L0 (some [2, 3, 7, 8, 9]) [6, 10, 11, 12, 13, 14, 15, 16, 56, 96, 109]) := loop_fold rfl s
theorem A8_L0_eq (s : St) : K E A8_L0 s = (K E A8_L0b s).bind (loopF E A8_L0 (some [2, 5, 7, 8, 9, 11]) [4, 12, 67]) := loop_fold rfl s
theorem A8_L1_eq (s : St) : K E A8_L1 s = (K E A8_L1b s).bind (loopF E A8_L1 (some [2, 5, 7, 8, 9]) [4, 10, 11, 12, 44, 67, 85, 108, 114, 134, 145]) := loop_fold rfl s
theorem A9_L0_eq (s : St) : K E A9_L0 s = (K E A9_L0b s).bind (loopF E A9_L0 (some [2, 5, 8, 9, 10, 13]) [4, 85, 92]) := loop_fold rfl s
theorem A9_L1_eq (s : St) : K E A9_L1 s = (K E A9_L1b s).bind (loopF E A9_L1 (some [2, 5, 8, 9, 10]) [4, 11, 12, 13, 54, 64, 71, 85, 92]) := loop_fold rfl s
theorem A10_L0_eq (s : St) : K E A10_L0 s = (K E A10_L0b s).bind (loopF E A10_L0 (some [5, 6, 7, 8, 10, 11, 12]) [4]) := loop_fold rfl s
theorem A11_L0_eq (s : St) : K E A11_L0 s = (K E A11_L0b s).bind (loopF E A11_L0 (some [9, 10, 16, 17]) [8]) := loop_fold rfl s
theorem A11_L1_eq (s : St) : K E A11_L1 s = (K E A11_L1b s).bind (loopF E A11_L1 (some [3, 4, 5, 6, 9, 10, 11, 12, 13]) [8, 14, 15, 74]) := loop_fold rfl s
theorem A11_L2_eq (s : St) : K E A11_L2 s = (K E A11_L2b s).bind (loopF E A11_L2 (some [3, 4, 5, 6, 9, 10, 11, 12]) [8, 13, 14, 15, 74]) := loop_fold rfl s
theorem A12_L0_eq (s : St) : K E A12_L0 s = (K E A12_L0b s).bind (loopF E A12_L0 (some [5, 6, 8, 13, 14, 16, 17]) [12, 68]) := loop_fold rfl s
theorem A13_L0_eq (s : St) : K E A13_L0 s = (K E A13_L0b s).bind (loopF E A13_L0 (some [2, 3, 4, 7, 8, 9, 13, 18, 19, 20, 21]) []) := loop_fold rfl s
theorem A13_L1_eq (s : St) : K E A13_L1 s = (K E A13_L1b s).bind (loopF E A13_L1 (some [2, 3, 4, 7, 8, 9, 13, 18, 19]) [6, 20, 21, 157, 165]) := loop_fold rfl s
theorem A13_L2_eq (s : St) : K E A13_L2 s = (K E A13_L2b s).bind (loopF E A13_L2 (some [2, 3, 4, 7, 8, 9, 13, 18]) [6, 19, 20, 21, 157, 165]) := loop_fold rfl s
theorem A13_L3_eq (s : St) : K E A13_L3 s = (K E A13_L3b s).bind (loopF E A13_L3 (some [2, 3, 4, 7, 8, 9, 13, 14, 15, 16, 17]) []) := loop_fold rfl s
theorem A13_L4_eq (s : St) : K E A13_L4 s = (K E A13_L4b s).bind (loopF E A13_L4 (some [2, 3, 4, 7, 8, 9, 13, 14, 15, 16]) [17]) := loop_fold rfl s
theorem A13_L5_eq (s : St) : K E A13_L5 s = (K E A13_L5b s).bind (loopF E A13_L5 (some [2, 3, 4, 7, 8, 9, 13, 14, 15]) [16, 17]) := loop_fold rfl s
theorem A13_L6_eq (s : St) : K E A13_L6 s = (K E A13_L6b s).bind (loopF E A13_L6 (some [2, 3, 4, 7, 8, 9, 13, 14]) [15, 16, 17]) := loop_fold rfl s
theorem A13_L7_eq (s : St) : K E A13_L7 s = (K E A13_L7b s).bind (loopF E A13_L7 (some [2, 3, 4, 7, 8, 9, 10]) [6, 11, 12, 47, 55, 63, 75, 81, 82, 83]) := loop_fold rfl s
theorem A15_L0_eq (s : St) : K E A15_L0 s = (K E A15_L0b s).bind (loopF E A15_L0 (some [1, 3, 10, 11]) [2, 4, 5]) := loop_fold rfl s
theorem A16_L0_eq (s : St) : K E A16_L0 s = (K E A16_L0b s).bind (loopF E A16_L0 (some [1, 3, 4]) [2]) := loop_fold rfl s
theorem A17_L0_eq (s : St) : K E A17_L0 s = (K E A17_L0b s).bind (loopF E A17_L0 (some [2, 7, 8]) [4, 5, 6]) := loop_fold rfl s
theorem A18_L0_eq (s : St) : K E A18_L0 s = (K E A18_L0b s).bind (loopF E A18_L0 (some [2, 3, 5]) [4]) := loop_fold rfl s
theorem A19_L0_eq (s : St) : K E A19_L0 s = (K E A19_L0b s).bind (loopF E A19_L0 (some [2, 3, 4, 5, 6]) []) := loop_fold rfl s
theorem A20_L0_eq (s : St) : K E A20_L0 s = (K E A20_L0b s).bind (loopF E A20_L0 (some [4, 5, 6, 7, 22, 23]) [8, 9, 37]) := loop_fold rfl s
theorem A21_L0_eq (s : St) : K E A21_L0 s = (K E A21_L0b s).bind (loopF E A21_L0 (some [2, 4, 5, 6, 7, 8]) [9, 10, 11, 28, 46, 52, 58, 63, 64]) := loop_fold rfl s
theorem A22_L0_eq (s : St) : K E A22_L0 s = (K E A22_L0b s).bind (loopF E A22_L0 (some [0, 1, 5]) [4]) := loop_fold rfl s
theorem A25_L0_eq (s : St) : K E A25_L0 s = (K E A25_L0b s).bind (loopF E A25_L0 (some [4, 5, 6, 10, 11]) [7, 8]) := loop_fold rfl s
theorem A27_L0_eq (s : St) : K E A27_L0 s = (K E A27_L0b s).bind (loopF E A27_L0 (some [2, 4, 5, 7, 18, 19]) [8, 9, 31, 32]) := loop_fold rfl s
theorem A28_L0_eq (s : St) : K E A28_L0 s = (K E A28_L0b s).bind (loopF E A28_L0 (some [2, 4, 5, 6, 7]) [30, 31]) := loop_fold rfl s
theorem A39_L0_eq (s : St) : K E A39_L0 s = (K E A39_L0b s).bind (loopF E A39_L0 (some [2, 3, 4, 5, 8, 9]) [6, 7, 16, 19]) := loop_fold rfl s
theorem A41_L0_eq (s : St) : K E A41_L0 s = (K E A41_L0b s).bind (loopF E A41_L0 (some [3, 4, 5, 6, 9, 12, 13, 14]) [11, 25]) := loop_fold rfl s
theorem A42_L0_eq (s : St) : K E A42_L0 s = (K E A42_L0b s).bind (loopF E A42_L0 (some [0, 3]) [2]) := loop_fold rfl s
theorem A43_L0_eq (s : St) : K E A43_L0 s = (K E A43_L0b s).bind (loopF E A43_L0 (some [0, 3, 5]) [4]) := loop_fold rfl s
theorem A68_L0_eq (s : St) : K E A68_L0 s = (K E A68_L0b s).bind (loopF E A68_L0 (some [0, 1, 12, 13]) [4, 5]) := loop_fold rfl s
theorem A69_L0_eq (s : St) : K E A69_L0 s = (K E A69_L0b s).bind (loopF E A69_L0 (some [0, 3, 4, 5, 45, 46]) [52]) := loop_fold rfl s
theorem A69_L1_eq (s : St) : K E A69_L1 s = (K E A69_L1b s).bind (loopF E A69_L1 (some [0, 3, 4, 5, 33, 34]) [40]) := loop_fold rfl s
theorem A71_L0_eq (s : St) : K E A71_L0 s = (K E A71_L0b s).bind (loopF E A71_L0 (some [0, 1, 5]) [4]) := loop_fold rfl s
theorem A73_L0_eq (s : St) : K E A73_L0 s = (K E A73_L0b s).bind (loopF E A73_L0 (some [1, 3]) [2, 4, 5, 16, 24]) := loop_fold rfl s
theorem A74_L0_eq (s : St) : K E A74_L0 s = (K E A74_L0b s).bind (loopF E A74_L0 (some [2, 3, 5]) [4]) := loop_fold rfl s
theorem A75_L0_eq (s : St) : K E A75_L0 s = (K E A75_L0b s).bind (loopF E A75_L0 (some [1, 3, 4, 5, 23, 24, 28, 29]) [7, 8, 9, 51]) := loop_fold rfl s
theorem A75_L1_eq (s : St) : K E A75_L1 s = (K E A75_L1b s).bind (loopF E A75_L1 (some [1, 3, 4, 23, 24]) [5, 6, 7, 8, 9, 51]) := loop_fold rfl s
theorem A77_L1_eq (s : St) : K E A77_L1 s = (K E A77_L1b s).bind (loopF E A77_L1 (some [1, 2, 3, 4, 5, 10, 11, 17, 18, 19]) [6, 7, 8, 36, 41, 46]) := loop_fold rfl s
theorem A77_L2_eq (s : St) : K E A77_L2 s = (K E A77_L2b s).bind (loopF E A77_L2 (some [1, 2, 3, 10, 11]) [4, 5, 6, 7, 8, 36, 41, 46]) := loop_fold rfl s
theorem A78_L0_eq (s : St) : K E A78_L0 s = (K E A78_L0b s).bind (loopF E A78_L0 (some [3, 7, 8, 9]) [4, 5, 18]) := loop_fold rfl s
theorem A81_L0_eq (s : St) : K E A81_L0 s = (K E A81_L0b s).bind (loopF E A81_L0 (some [0, 3, 4]) []) := loop_fold rfl s
theorem A85_L0_eq (s : St) : K E A85_L0 s = (K E A85_L0b s).bind (loopF E A85_L0 (some [6, 7, 8, 9]) []) := loop_fold rfl s
theorem A86_L0_eq (s : St) : K E A86_L0 s = (K E A86_L0b s).bind (loopF E A86_L0 (some [3, 4, 5]) []) := loop_fold rfl s
theorem A87_L0_eq (s : St) : K E A87_L0 s = (K E A87_L0b s).bind (loopF E A87_L0 (some [0, 1, 7, 8]) [4, 5, 16]) := loop_fold rfl s
theorem A89_L0_eq (s : St) : K E A89_L0 s = (K E A89_L0b s).bind (loopF E A89_L0 (some [0, 1, 5, 6, 7]) [3, 4, 24]) := loop_fold rfl s
theorem A92_L0_eq (s : St) : K E A92_L0 s = (K E A92_L0b s).bind (loopF E A92_L0 (some [1, 5, 8, 9, 10]) [7, 17, 18]) := loop_fold rfl s
theorem A100_L0_eq (s : St) : K E A100_L0 s = (K E A100_L0b s).bind (loopF E A100_L0 (some [0, 3]) [2, 17]) := loop_fold rfl s
theorem A101_L0_eq (s : St) : K E A101_L0 s = (K E A101_L0b s).bind (loopF E A101_L0 (some [1, 3, 4]) [19]) := loop_fold rfl s
theorem A102_L0_eq (s : St) : K E A102_L0 s = (K E A102_L0b s).bind (loopF E A102_L0 (some [0, 3, 4]) [2, 5, 19, 62]) := loop_fold rfl s
theorem A103_L0_eq (s : St) : K E A103_L0 s = (K E A103_L0b s).bind (loopF E A103_L0 (some [0, 1, 5, 6, 7]) [4, 20, 28, 35]) := loop_fold rfl s
theorem A104_L0_eq (s : St) : K E A104_L0 s = (K E A104_L0b s).bind (loopF E A104_L0 (some [0, 1, 5, 6]) [4]) := loop_fold rfl s
theorem A104_L1_eq (s : St) : K E A104_L1 s = (K E A104_L1b s).bind (loopF E A104_L1 (some [0, 1, 5]) [4, 6]) := loop_fold rfl s
theorem A106_L0_eq (s : St) : K E A106_L0 s = (K E A106_L0b s).bind (loopF E A106_L0 (some [0, 2, 17, 18, 19, 25, 26]) [9, 31]) := loop_fold rfl s
theorem A106_L1_eq (s : St) : K E A106_L1 s = (K E A106_L1b s).bind (loopF E A106_L1 (some [0, 2, 17, 18, 19]) [7, 9, 25, 31]) := loop_fold rfl s
theorem A109_L0_eq (s : St) : K E A109_L0 s = (K E A109_L0b s).bind (loopF E A109_L0 (some [6, 7, 20, 21]) []) := loop_fold rfl s
theorem A112_L0_eq (s : St) : K E A112_L0 s = (K E A112_L0b s).bind (loopF E A112_L0 (some [0, 1, 5, 6, 7]) [3, 4, 24]) := loop_fold rfl s
theorem A113_L0_eq (s : St) : K E A113_L0 s = (K E A113_L0b s).bind (loopF E A113_L0 (some [0, 3, 5, 6]) [2, 62, 66, 69, 73, 74]) := loop_fold rfl s
theorem A113_L1_eq (s : St) : K E A113_L1 s = (K E A113_L1b s).bind (loopF E A113_L1 (some [0, 3, 5]) [2, 6, 33, 37, 41, 42, 62, 66, 69, 73, 74]) := loop_fold rfl s
theorem A113_L2_eq (s : St) : K E A113_L2 s = (K E A113_L2b s).bind (loopF E A113_L2 (some [0, 3, 4]) [2, 24]) := loop_fold rfl s
theorem A114_L0_eq (s : St) : K E A114_L0 s = (K E A114_L0b s).bind (loopF E A114_L0 (some [0, 3, 4]) [2]) := loop_fold rfl s
theorem A114_L1_eq (s : St) : K E A114_L1 s = (K E A114_L1b s).bind (loopF E A114_L1 (some [0, 3]) [2, 4, 15]) := loop_fold rfl s
theorem A115_L0_eq (s : St) : K E A115_L0 s = (K E A115_L0b s).bind (loopF E A115_L0 (some [0, 3, 4]) [2, 71]) := loop_fold rfl s
theorem A115_L1_eq (s : St) : K E A115_L1 s = (K E A115_L1b s).bind (loopF E A115_L1 (some [0, 3]) [2, 4, 71]) := loop_fold rfl s
theorem A116_L0_eq (s : St) : K E A116_L0 s = (K E A116_L0b s).bind (loopF E A116_L0 (some [0, 1, 7, 8]) [4, 5]) := loop_fold rfl s
theorem A117_L0_eq (s : St) : K E A117_L0 s = (K E A117_L0b s).bind (loopF E A117_L0 (some [2, 4, 6, 9, 10, 11]) [8]) := loop_fold rfl s
theorem A125_L0_eq (s : St) : K E A125_L0 s = (K E A125_L0b s).bind (loopF E A125_L0 (some [0, 3, 4]) [5, 6, 15, 19]) := loop_fold rfl s
theorem A126_L0_eq (s : St) : K E A126_L0 s = (K E A126_L0b s).bind (loopF E A126_L0 (some [0, 3]) [2, 27]) := loop_fold rfl s
end Go.Proofs.Ytnecdcaaknhgpaa

namespace Go.Proofs.Ytnecdcaaknhgpaa
set_option maxRecDepth 100000
set_option maxHeartbeats 4000000
set_option linter.unusedSimpArgs false
set_option linter.unusedVariables false
open Go Go.Zv
theorem wr_nat {n : Nat} (h : n < 9223372036854775808) : IntKind.i64.wrap (n : Int) = n := by
  simp [IntKind.wrap, IntKind.signed, IntKind.bits]; omega
theorem wr_succ {n : Nat} (h : n + 1 < 9223372036854775808) : IntKind.i64.wrap ((n : Int) + 1) = ((n + 1 : Nat) : Int) := by
  have := wr_nat h; simpa using this
theorem tmod_pos {x n : Int} (h : 0 ≤ x) : x.tmod n = x % n := Int.tmod_eq_emod_of_nonneg h
theorem tmod36 (q : Int) : (if q.tmod 36 < 0 then q.tmod 36 + 36 else q.tmod 36) = q % 36 := by
  by_cases h : 0 ≤ q
  · rw [tmod_pos h]; split <;> omega
  · obtain ⟨p, rfl⟩ : ∃ p : Int, q = -p := ⟨-q, by omega⟩
    rw [Int.neg_tmod, tmod_pos (by omega)]
    split <;> omega
theorem tb36 (q : Int) : -36 < q.tmod 36 ∧ q.tmod 36 < 36 := ⟨Int.lt_tmod_of_pos q (by omega), Int.tmod_lt_of_pos q (by omega)⟩
theorem c120 (q : Int) : pc E 120 [.int .i64 q] = some (.int .i64 (q % 36)) := by
  have h := tmod36 q
  have hb := tb36 q
  have w : IntKind.i64.wrap (q.tmod 36 + 36) = q.tmod 36 + 36 := wrap_small (by omega) (by omega)
  by_cases hc : q.tmod 36 < 0
  · rw [if_pos hc] at h
    have w2 : IntKind.i64.wrap (q % 36) = q % 36 := wrap_small (by omega) (by omega)
    rw [pc_eq]; simp +contextual -implicitDefEqProofs (maxSteps := 2000000) only [go_sem, ↓reduceIte, Nat.reduceAdd, Nat.reduceMul, Nat.reduceSub, Nat.reduceEqDiff, Nat.reduceLeDiff, Nat.reduceDiv, Nat.reduceMod, Nat.reduceBEq, Nat.reduceBNe, reduceCtorEq, Int.reduceLE, Int.reduceLT, Int.reduceToNat, Int.reduceNeg, Nat.reduceLT, Int.reduceEq, Int.reduceSub, Int.reduceAdd, Int.reduceMul, Nat.reducePow, Int.reduceBEq, Int.reduceBNe, Int.reduceMod, E_120, A120, hc, w, h, w2]
  · rw [if_neg hc] at h
    rw [h] at hc
    rw [pc_eq]; simp +contextual -implicitDefEqProofs (maxSteps := 2000000) only [go_sem, ↓reduceIte, Nat.reduceAdd, Nat.reduceMul, Nat.reduceSub, Nat.reduceEqDiff, Nat.reduceLeDiff, Nat.reduceDiv, Nat.reduceMod, Nat.reduceBEq, Nat.reduceBNe, reduceCtorEq, Int.reduceLE, Int.reduceLT, Int.reduceToNat, Int.reduceNeg, Nat.reduceLT, Int.reduceEq, Int.reduceSub, Int.reduceAdd, Int.reduceMul, Nat.reducePow, Int.reduceBEq, Int.reduceBNe, Int.reduceMod, E_120, A120, h, hc]
theorem c121 : pc E 121 [] = some (.agg [.int .i64 65, .int .i64 0, .int .i64 63, .int .i64 16, .int .i64 60, .int .i64 25, .int .i64 56, .int .i64 33, .int .i64 52, .int .i64 39, .int .i64 39, .int .i64 52, .int .i64 33, .int .i64 56, .int .i64 25, .int .i64 60, .int .i64 16, .int .i64 63]) := by
  rw [pc_eq]; simp +contextual -implicitDefEqProofs (maxSteps := 2000000) only [go_sem, ↓reduceIte, Nat.reduceAdd, Nat.reduceMul, Nat.reduceSub, Nat.reduceEqDiff, Nat.reduceLeDiff, Nat.reduceDiv, Nat.reduceMod, Nat.reduceBEq, Nat.reduceBNe, reduceCtorEq, Int.reduceLE, Int.reduceLT, Int.reduceToNat, Int.reduceNeg, Nat.reduceLT, Int.reduceEq, Int.reduceSub, Int.reduceAdd, Int.reduceMul, Nat.reducePow, Int.reduceBEq, Int.reduceBNe, Int.reduceMod, E_121, A121]
theorem c91 (x y : Int) (h1 : -1000000000000 ≤ y) (h2 : y ≤ 1000000000000) : pc E 91 [.agg [.int .i64 x, .int .i64 y]] = some (.agg [.int .i64 (-y), .int .i64 x]) := by
  have w : IntKind.i64.wrap (0 - y) = -y := by rw [wrap_small (by omega) (by omega)]; omega
  rw [pc_eq]; simp +contextual -implicitDefEqProofs (maxSteps := 2000000) only [go_sem, ↓reduceIte, Nat.reduceAdd, Nat.reduceMul, Nat.reduceSub, Nat.reduceEqDiff, Nat.reduceLeDiff, Nat.reduceDiv, Nat.reduceMod, Nat.reduceBEq, Nat.reduceBNe, reduceCtorEq, Int.reduceLE, Int.reduceLT, Int.reduceToNat, Int.reduceNeg, Nat.reduceLT, Int.reduceEq, Int.reduceSub, Int.reduceAdd, Int.reduceMul, Nat.reducePow, Int.reduceBEq, Int.reduceBNe, Int.reduceMod, E_91, A91, w]
/-- cosine and sine, times 65 -/
def cs : Nat → Int × Int
  | 0 => (65, 0) | 1 => (63, 16) | 2 => (60, 25) | 3 => (56, 33) | 4 => (52, 39) | 5 => (39, 52) | 6 => (33, 56) | 7 => (25, 60) | 8 => (16, 63)
  | 9 => (0, 65) | 10 => (-16, 63) | 11 => (-25, 60) | 12 => (-33, 56) | 13 => (-39, 52) | 14 => (-52, 39) | 15 => (-56, 33) | 16 => (-60, 25) | 17 => (-63, 16)
  | 18 => (-65, 0) | 19 => (-63, -16) | 20 => (-60, -25) | 21 => (-56, -33) | 22 => (-52, -39) | 23 => (-39, -52) | 24 => (-33, -56) | 25 => (-25, -60) | 26 => (-16, -63)
  | 27 => (0, -65) | 28 => (16, -63) | 29 => (25, -60) | 30 => (33, -56) | 31 => (39, -52) | 32 => (52, -39) | 33 => (56, -33) | 34 => (60, -25) | 35 => (63, -16)
  | _ => (65, 0)
def csI (q : Int) : Int × Int := cs (q % 36).toNat
theorem cases36 {k : Int} (h1 : 0 ≤ k) (h2 : k < 36) : k = 0 ∨ k = 1 ∨ k = 2 ∨ k = 3 ∨ k = 4 ∨ k = 5 ∨ k = 6 ∨ k = 7 ∨ k = 8 ∨ k = 9 ∨ k = 10 ∨ k = 11 ∨ k = 12 ∨ k = 13 ∨ k = 14 ∨ k = 15 ∨ k = 16 ∨ k = 17 ∨ k = 18 ∨ k = 19 ∨ k = 20 ∨ k = 21 ∨ k = 22 ∨ k = 23 ∨ k = 24 ∨ k = 25 ∨ k = 26 ∨ k = 27 ∨ k = 28 ∨ k = 29 ∨ k = 30 ∨ k = 31 ∨ k = 32 ∨ k = 33 ∨ k = 34 ∨ k = 35 := by omega
theorem left_ok (x y : Int) (h1 : -65 ≤ y) (h2 : y ≤ 65) : pc E 91 [.agg [.int .i64 x, .int .i64 y]] = some (.agg [.int .i64 (-y), .int .i64 x]) := c91 x y (by omega) (by omega)
end Go.Proofs.Ytnecdcaaknhgpaa

namespace Go.Proofs.Ytnecdcaaknhgpaa
set_option maxRecDepth 100000
set_option maxHeartbeats 4000000
set_option linter.unusedSimpArgs false
set_option linter.unusedVariables false
open Go Go.Zv
theorem c109 (q : Int) : pc E 109 [.int .i64 q] = some (.tup [.int .i64 (csI q).1, .int .i64 (csI q).2]) := by
  have h := c120 q
  have h1 : 0 ≤ q % 36 := by omega
  have h2 : q % 36 < 36 := by omega
  unfold csI
  generalize q % 36 = k at *
  rcases cases36 h1 h2 with rfl | rfl | rfl | rfl | rfl | rfl | rfl | rfl | rfl | rfl | rfl | rfl | rfl | rfl | rfl | rfl | rfl | rfl | rfl | rfl | rfl | rfl | rfl | rfl | rfl | rfl | rfl | rfl | rfl | rfl | rfl | rfl | rfl | rfl | rfl | rfl <;>
    (rw [pc_eq]; simp +contextual -implicitDefEqProofs (maxSteps := 2000000) only [go_sem, ↓reduceIte, Nat.reduceAdd, Nat.reduceMul, Nat.reduceSub, Nat.reduceEqDiff, Nat.reduceLeDiff, Nat.reduceDiv, Nat.reduceMod, Nat.reduceBEq, Nat.reduceBNe, reduceCtorEq, Int.reduceLE, Int.reduceLT, Int.reduceToNat, Int.reduceNeg, Nat.reduceLT, Int.reduceEq, Int.reduceSub, Int.reduceAdd, Int.reduceMul, Nat.reducePow, Int.reduceBEq, Int.reduceBNe, Int.reduceMod, E_109, A109, h, c121, A109_L0_eq, A109_L0b, Int.reduceTDiv, Int.reduceTMod, left_ok, Int.neg_neg]) <;> rfl
theorem c110 (q : Int) : pc E 110 [.int .i64 q] = some (.int .i64 (q % 36)) := by
  have hb := tb36 q
  have w1 : IntKind.i64.wrap (q.tmod 36 + 36) = q.tmod 36 + 36 := wrap_small (by omega) (by omega)
  have e : (q.tmod 36 + 36).tmod 36 = q % 36 := by
    rw [tmod_pos (by omega)]
    have := tmod36 q
    split at this <;> omega
  rw [pc_eq]; simp +contextual -implicitDefEqProofs (maxSteps := 2000000) only [go_sem, ↓reduceIte, Nat.reduceAdd, Nat.reduceMul, Nat.reduceSub, Nat.reduceEqDiff, Nat.reduceLeDiff, Nat.reduceDiv, Nat.reduceMod, Nat.reduceBEq, Nat.reduceBNe, reduceCtorEq, Int.reduceLE, Int.reduceLT, Int.reduceToNat, Int.reduceNeg, Nat.reduceLT, Int.reduceEq, Int.reduceSub, Int.reduceAdd, Int.reduceMul, Nat.reducePow, Int.reduceBEq, Int.reduceBNe, Int.reduceMod, E_110, A110, w1, e]
theorem c85 (q : Int) : pc E 85 [.int .i64 q] = some (.tup [.int .i64 (csI q).1, .int .i64 (csI q).2]) := by
  have h := c110 q
  have h1 : 0 ≤ q % 36 := by omega
  have h2 : q % 36 < 36 := by omega
  unfold csI
  generalize q % 36 = k at *
  rcases cases36 h1 h2 with rfl | rfl | rfl | rfl | rfl | rfl | rfl | rfl | rfl | rfl | rfl | rfl | rfl | rfl | rfl | rfl | rfl | rfl | rfl | rfl | rfl | rfl | rfl | rfl | rfl | rfl | rfl | rfl | rfl | rfl | rfl | rfl | rfl | rfl | rfl | rfl <;>
    (rw [pc_eq]; simp +contextual -implicitDefEqProofs (maxSteps := 2000000) only [go_sem, ↓reduceIte, Nat.reduceAdd, Nat.reduceMul, Nat.reduceSub, Nat.reduceEqDiff, Nat.reduceLeDiff, Nat.reduceDiv, Nat.reduceMod, Nat.reduceBEq, Nat.reduceBNe, reduceCtorEq, Int.reduceLE, Int.reduceLT, Int.reduceToNat, Int.reduceNeg, Nat.reduceLT, Int.reduceEq, Int.reduceSub, Int.reduceAdd, Int.reduceMul, Nat.reducePow, Int.reduceBEq, Int.reduceBNe, Int.reduceMod, E_85, A85, h, A85_L0_eq, A85_L0b, Int.reduceTDiv, Int.reduceTMod, Int.neg_neg]) <;> rfl
end Go.Proofs.Ytnecdcaaknhgpaa

namespace Go.Proofs.Ytnecdcaaknhgpaa
set_option maxRecDepth 100000
set_option maxHeartbeats 4000000
set_option linter.unusedSimpArgs false
set_option linter.unusedVariables false
open Go Go.Zv
theorem sq_nn (x : Int) : 0 ≤ x * x := by
  rcases Int.lt_or_le x 0 with h | h
  · have := Int.mul_nonneg (show 0 ≤ -x by omega) (show 0 ≤ -x by omega); rwa [Int.neg_mul_neg] at this
  · exact Int.mul_nonneg h h
theorem sq_lt {r x : Int} (hr : 0 ≤ r) (h : r < x) : r * r < x * x := by
  have h1 : r * r ≤ r * x := Int.mul_le_mul_of_nonneg_left (by omega) hr
  have h2 : r * x < x * x := Int.mul_lt_mul_of_pos_right h (by omega)
  omega
theorem abs_of_sq {x r : Int} (hr : 0 ≤ r) (h : x * x ≤ r * r) : -r ≤ x ∧ x ≤ r := by
  constructor
  · refine Int.not_lt.1 fun hx => ?_
    have h1 : r * r < (-x) * (-x) := sq_lt hr (by omega)
    rw [Int.neg_mul_neg] at h1; omega
  · refine Int.not_lt.1 fun hx => ?_
    have h1 : r * r < x * x := sq_lt hr hx
    omega
/-- a valid direction -/
structure VD (x y r : Int) : Prop where
  r0 : 0 ≤ r
  eq : x * x + y * y = r * r
theorem VD.x {x y r : Int} (h : VD x y r) : -r ≤ x ∧ x ≤ r := abs_of_sq h.r0 (by have := sq_nn y; have := h.eq; omega)
theorem VD.y {x y r : Int} (h : VD x y r) : -r ≤ y ∧ y ≤ r := abs_of_sq h.r0 (by have := sq_nn x; have := h.eq; omega)
theorem cs_norm (k : Nat) : (cs k).1 * (cs k).1 + (cs k).2 * (cs k).2 = 65 * 65 := by
  unfold cs; split <;> rfl
theorem csI_norm (q : Int) : (csI q).1 * (csI q).1 + (csI q).2 * (csI q).2 = 65 * 65 := cs_norm _
theorem csV (q : Int) : VD (csI q).1 (csI q).2 65 := ⟨by omega, csI_norm q⟩
theorem VD.mul {x y r c s t : Int} (h : VD x y r) (k : VD c s t) : VD (x * c - y * s) (x * s + y * c) (r * t) := by
  refine ⟨Int.mul_nonneg h.r0 k.r0, ?_⟩
  have e : (x * c - y * s) * (x * c - y * s) + (x * s + y * c) * (x * s + y * c) = (x * x + y * y) * (c * c + s * s) := by grind
  rw [e, h.eq, k.eq]; grind
theorem c81_0 : pc E 81 [.int .i64 0] = some (.int .i64 1) := by rw [pc_eq]; simp +contextual -implicitDefEqProofs (maxSteps := 2000000) only [go_sem, ↓reduceIte, Nat.reduceAdd, Nat.reduceMul, Nat.reduceSub, Nat.reduceEqDiff, Nat.reduceLeDiff, Nat.reduceDiv, Nat.reduceMod, Nat.reduceBEq, Nat.reduceBNe, reduceCtorEq, Int.reduceLE, Int.reduceLT, Int.reduceToNat, Int.reduceNeg, Nat.reduceLT, Int.reduceEq, Int.reduceSub, Int.reduceAdd, Int.reduceMul, Nat.reducePow, Int.reduceBEq, Int.reduceBNe, Int.reduceMod, E_81, A81, A81_L0_eq, A81_L0b]
theorem c81_1 : pc E 81 [.int .i64 1] = some (.int .i64 65) := by rw [pc_eq]; simp +contextual -implicitDefEqProofs (maxSteps := 2000000) only [go_sem, ↓reduceIte, Nat.reduceAdd, Nat.reduceMul, Nat.reduceSub, Nat.reduceEqDiff, Nat.reduceLeDiff, Nat.reduceDiv, Nat.reduceMod, Nat.reduceBEq, Nat.reduceBNe, reduceCtorEq, Int.reduceLE, Int.reduceLT, Int.reduceToNat, Int.reduceNeg, Nat.reduceLT, Int.reduceEq, Int.reduceSub, Int.reduceAdd, Int.reduceMul, Nat.reducePow, Int.reduceBEq, Int.reduceBNe, Int.reduceMod, E_81, A81, A81_L0_eq, A81_L0b]
theorem c81_2 : pc E 81 [.int .i64 2] = some (.int .i64 4225) := by rw [pc_eq]; simp +contextual -implicitDefEqProofs (maxSteps := 2000000) only [go_sem, ↓reduceIte, Nat.reduceAdd, Nat.reduceMul, Nat.reduceSub, Nat.reduceEqDiff, Nat.reduceLeDiff, Nat.reduceDiv, Nat.reduceMod, Nat.reduceBEq, Nat.reduceBNe, reduceCtorEq, Int.reduceLE, Int.reduceLT, Int.reduceToNat, Int.reduceNeg, Nat.reduceLT, Int.reduceEq, Int.reduceSub, Int.reduceAdd, Int.reduceMul, Nat.reducePow, Int.reduceBEq, Int.reduceBNe, Int.reduceMod, E_81, A81, A81_L0_eq, A81_L0b]
theorem c81_3 : pc E 81 [.int .i64 3] = some (.int .i64 274625) := by rw [pc_eq]; simp +contextual -implicitDefEqProofs (maxSteps := 2000000) only [go_sem, ↓reduceIte, Nat.reduceAdd, Nat.reduceMul, Nat.reduceSub, Nat.reduceEqDiff, Nat.reduceLeDiff, Nat.reduceDiv, Nat.reduceMod, Nat.reduceBEq, Nat.reduceBNe, reduceCtorEq, Int.reduceLE, Int.reduceLT, Int.reduceToNat, Int.reduceNeg, Nat.reduceLT, Int.reduceEq, Int.reduceSub, Int.reduceAdd, Int.reduceMul, Nat.reducePow, Int.reduceBEq, Int.reduceBNe, Int.reduceMod, E_81, A81, A81_L0_eq, A81_L0b]
theorem c86_0 : pc E 86 [.int .i64 0] = some (.int .i64 1) := by rw [pc_eq]; simp +contextual -implicitDefEqProofs (maxSteps := 2000000) only [go_sem, ↓reduceIte, Nat.reduceAdd, Nat.reduceMul, Nat.reduceSub, Nat.reduceEqDiff, Nat.reduceLeDiff, Nat.reduceDiv, Nat.reduceMod, Nat.reduceBEq, Nat.reduceBNe, reduceCtorEq, Int.reduceLE, Int.reduceLT, Int.reduceToNat, Int.reduceNeg, Nat.reduceLT, Int.reduceEq, Int.reduceSub, Int.reduceAdd, Int.reduceMul, Nat.reducePow, Int.reduceBEq, Int.reduceBNe, Int.reduceMod, E_86, A86, A86_L0_eq, A86_L0b]
theorem c86_1 : pc E 86 [.int .i64 1] = some (.int .i64 65) := by rw [pc_eq]; simp +contextual -implicitDefEqProofs (maxSteps := 2000000) only [go_sem, ↓reduceIte, Nat.reduceAdd, Nat.reduceMul, Nat.reduceSub, Nat.reduceEqDiff, Nat.reduceLeDiff, Nat.reduceDiv, Nat.reduceMod, Nat.reduceBEq, Nat.reduceBNe, reduceCtorEq, Int.reduceLE, Int.reduceLT, Int.reduceToNat, Int.reduceNeg, Nat.reduceLT, Int.reduceEq, Int.reduceSub, Int.reduceAdd, Int.reduceMul, Nat.reducePow, Int.reduceBEq, Int.reduceBNe, Int.reduceMod, E_86, A86, A86_L0_eq, A86_L0b]
theorem c86_2 : pc E 86 [.int .i64 2] = some (.int .i64 4225) := by rw [pc_eq]; simp +contextual -implicitDefEqProofs (maxSteps := 2000000) only [go_sem, ↓reduceIte, Nat.reduceAdd, Nat.reduceMul, Nat.reduceSub, Nat.reduceEqDiff, Nat.reduceLeDiff, Nat.reduceDiv, Nat.reduceMod, Nat.reduceBEq, Nat.reduceBNe, reduceCtorEq, Int.reduceLE, Int.reduceLT, Int.reduceToNat, Int.reduceNeg, Nat.reduceLT, Int.reduceEq, Int.reduceSub, Int.reduceAdd, Int.reduceMul, Nat.reducePow, Int.reduceBEq, Int.reduceBNe, Int.reduceMod, E_86, A86, A86_L0_eq, A86_L0b]
theorem c86_3 : pc E 86 [.int .i64 3] = some (.int .i64 274625) := by rw [pc_eq]; simp +contextual -implicitDefEqProofs (maxSteps := 2000000) only [go_sem, ↓reduceIte, Nat.reduceAdd, Nat.reduceMul, Nat.reduceSub, Nat.reduceEqDiff, Nat.reduceLeDiff, Nat.reduceDiv, Nat.reduceMod, Nat.reduceBEq, Nat.reduceBNe, reduceCtorEq, Int.reduceLE, Int.reduceLT, Int.reduceToNat, Int.reduceNeg, Nat.reduceLT, Int.reduceEq, Int.reduceSub, Int.reduceAdd, Int.reduceMul, Nat.reducePow, Int.reduceBEq, Int.reduceBNe, Int.reduceMod, E_86, A86, A86_L0_eq, A86_L0b]
/-- 65 to the power n -/
def p65 : Nat → Int
  | 0 => 1 | 1 => 65 | 2 => 4225 | _ => 274625
theorem c81 (n : Nat) (h : n ≤ 3) : pc E 81 [.int .i64 n] = some (.int .i64 (p65 n)) := by
  rcases (show n = 0 ∨ n = 1 ∨ n = 2 ∨ n = 3 by omega) with rfl | rfl | rfl | rfl
  · exact c81_0
  · exact c81_1
  · exact c81_2
  · exact c81_3
theorem c86 (n : Nat) (h : n ≤ 3) : pc E 86 [.int .i64 n] = some (.int .i64 (p65 n)) := by
  rcases (show n = 0 ∨ n = 1 ∨ n = 2 ∨ n = 3 by omega) with rfl | rfl | rfl | rfl
  · exact c86_0
  · exact c86_1
  · exact c86_2
  · exact c86_3
theorem p65_bd (n : Nat) : 1 ≤ p65 n ∧ p65 n ≤ 274625 := by unfold p65; split <;> omega
theorem p65_succ {n : Nat} (h : n ≤ 2) : p65 n * 65 = p65 (n + 1) := by
  rcases (show n = 0 ∨ n = 1 ∨ n = 2 by omega) with rfl | rfl | rfl <;> rfl
theorem mul_bd {x y A C : Int} (h1 : -A ≤ x) (h2 : x ≤ A) (h3 : -C ≤ y) (h4 : y ≤ C) : -(A * C) ≤ x * y ∧ x * y ≤ A * C := by
  have a1 : 0 ≤ A := by omega
  have b1 : 0 ≤ C := by omega
  have e1 := Int.mul_nonneg (show 0 ≤ A - x by omega) (show 0 ≤ C + y by omega)
  have e2 := Int.mul_nonneg (show 0 ≤ A + x by omega) (show 0 ≤ C - y by omega)
  have e3 := Int.mul_nonneg (show 0 ≤ A - x by omega) (show 0 ≤ C - y by omega)
  have e4 := Int.mul_nonneg (show 0 ≤ A + x by omega) (show 0 ≤ C + y by omega)
  constructor <;> grind
theorem c83 (x y q : Int) (hx : -274625 ≤ x ∧ x ≤ 274625) (hy : -274625 ≤ y ∧ y ≤ 274625) : pc E 83 [.agg [.int .i64 x, .int .i64 y], .int .i64 q] = some (.agg [.int .i64 (x * (csI q).1 - y * (csI q).2), .int .i64 (x * (csI q).2 + y * (csI q).1)]) := by
  have h := c109 q
  have v := csV q
  have b1 := v.x
  have b2 := v.y
  generalize (csI q).1 = c at *
  generalize (csI q).2 = s at *
  have m1 := mul_bd hx.1 hx.2 b1.1 b1.2
  have m2 := mul_bd hx.1 hx.2 b2.1 b2.2
  have m3 := mul_bd hy.1 hy.2 b1.1 b1.2
  have m4 := mul_bd hy.1 hy.2 b2.1 b2.2
  have w1 : IntKind.i64.wrap (x * c) = x * c := wrap_small (by omega) (by omega)
  have w2 : IntKind.i64.wrap (x * s) = x * s := wrap_small (by omega) (by omega)
  have w3 : IntKind.i64.wrap (y * c) = y * c := wrap_small (by omega) (by omega)
  have w4 : IntKind.i64.wrap (y * s) = y * s := wrap_small (by omega) (by omega)
  have w5 : IntKind.i64.wrap (x * c - y * s) = x * c - y * s := wrap_small (by omega) (by omega)
  have w6 : IntKind.i64.wrap (x * s + y * c) = x * s + y * c := wrap_small (by omega) (by omega)
  rw [pc_eq]; simp +contextual -implicitDefEqProofs (maxSteps := 2000000) only [go_sem, ↓reduceIte, Nat.reduceAdd, Nat.reduceMul, Nat.reduceSub, Nat.reduceEqDiff, Nat.reduceLeDiff, Nat.reduceDiv, Nat.reduceMod, Nat.reduceBEq, Nat.reduceBNe, reduceCtorEq, Int.reduceLE, Int.reduceLT, Int.reduceToNat, Int.reduceNeg, Nat.reduceLT, Int.reduceEq, Int.reduceSub, Int.reduceAdd, Int.reduceMul, Nat.reducePow, Int.reduceBEq, Int.reduceBNe, Int.reduceMod, E_83, A83, h, w1, w2, w3, w4, w5, w6]
end Go.Proofs.Ytnecdcaaknhgpaa

namespace Go.Proofs.Ytnecdcaaknhgpaa
set_option maxRecDepth 100000
set_option maxHeartbeats 4000000
set_option linter.unusedSimpArgs false
set_option linter.unusedVariables false
open Go Go.Zv
theorem c82 (x y : Int) (n : Nat) (h3 : n ≤ 3) (hv : VD x y (p65 n)) : pc E 82 [.agg [.int .i64 x, .int .i64 y, .int .i64 n]] = some (.bool true) := by
  have h := c86 n h3
  have hx := hv.x
  have hy := hv.y
  have he := hv.eq
  have pb := p65_bd n
  have h0 : ¬ ((n : Int) < 0) := by omega
  have h2 : ¬ ((3 : Int) < n) := by omega
  generalize p65 n = r at *
  have m1 := mul_bd (A := 274625) (C := 274625) (x := x) (y := x) (by omega) (by omega) (by omega) (by omega)
  have m2 := mul_bd (A := 274625) (C := 274625) (x := y) (y := y) (by omega) (by omega) (by omega) (by omega)
  have m3 := mul_bd (A := 274625) (C := 274625) (x := r) (y := r) (by omega) (by omega) (by omega) (by omega)
  have w1 : IntKind.i64.wrap (x * x) = x * x := wrap_small (by omega) (by omega)
  have w2 : IntKind.i64.wrap (y * y) = y * y := wrap_small (by omega) (by omega)
  have w3 : IntKind.i64.wrap (r * r) = r * r := wrap_small (by omega) (by omega)
  have w4 : IntKind.i64.wrap (x * x + y * y) = r * r := by rw [he]; exact w3
  have w5 : IntKind.i64.wrap (0 - r) = -r := by rw [wrap_small (by omega) (by omega)]; omega
  rw [pc_eq]; simp +contextual -implicitDefEqProofs (maxSteps := 2000000) only [go_sem, ↓reduceIte, Nat.reduceAdd, Nat.reduceMul, Nat.reduceSub, Nat.reduceEqDiff, Nat.reduceLeDiff, Nat.reduceDiv, Nat.reduceMod, Nat.reduceBEq, Nat.reduceBNe, reduceCtorEq, Int.reduceLE, Int.reduceLT, Int.reduceToNat, Int.reduceNeg, Nat.reduceLT, Int.reduceEq, Int.reduceSub, Int.reduceAdd, Int.reduceMul, Nat.reducePow, Int.reduceBEq, Int.reduceBNe, Int.reduceMod, E_82, A82, E_108, A108, h, h0, h2, hx.1, hx.2, hy.1, hy.2, w1, w2, w3, w4, w5]
theorem c84 (x y : Int) (n : Nat) (h3 : n ≤ 3) (hv : VD x y (p65 n)) : pc E 84 [.agg [.int .i64 x, .int .i64 y, .int .i64 n]] = some (.bool true) := by
  have h := c81 n h3
  have hx := hv.x
  have hy := hv.y
  have he := hv.eq
  have pb := p65_bd n
  have h0 : ¬ ((n : Int) < 0) := by omega
  have h2 : ¬ ((3 : Int) < n) := by omega
  generalize p65 n = r at *
  have m1 := mul_bd (A := 274625) (C := 274625) (x := x) (y := x) (by omega) (by omega) (by omega) (by omega)
  have m2 := mul_bd (A := 274625) (C := 274625) (x := y) (y := y) (by omega) (by omega) (by omega) (by omega)
  have m3 := mul_bd (A := 274625) (C := 274625) (x := r) (y := r) (by omega) (by omega) (by omega) (by omega)
  have w1 : IntKind.i64.wrap (x * x) = x * x := wrap_small (by omega) (by omega)
  have w2 : IntKind.i64.wrap (y * y) = y * y := wrap_small (by omega) (by omega)
  have w3 : IntKind.i64.wrap (r * r) = r * r := wrap_small (by omega) (by omega)
  have w4 : IntKind.i64.wrap (x * x + y * y) = r * r := by rw [he]; exact w3
  have w5 : IntKind.i64.wrap (0 - r) = -r := by rw [wrap_small (by omega) (by omega)]; omega
  rw [pc_eq]; simp +contextual -implicitDefEqProofs (maxSteps := 2000000) only [go_sem, ↓reduceIte, Nat.reduceAdd, Nat.reduceMul, Nat.reduceSub, Nat.reduceEqDiff, Nat.reduceLeDiff, Nat.reduceDiv, Nat.reduceMod, Nat.reduceBEq, Nat.reduceBNe, reduceCtorEq, Int.reduceLE, Int.reduceLT, Int.reduceToNat, Int.reduceNeg, Nat.reduceLT, Int.reduceEq, Int.reduceSub, Int.reduceAdd, Int.reduceMul, Nat.reducePow, Int.reduceBEq, Int.reduceBNe, Int.reduceMod, E_84, A84, h, h0, h2, hx.1, hx.2, hy.1, hy.2, w1, w2, w3, w4, w5]
def cx (x y q : Int) : Int := x * (csI q).1 - y * (csI q).2
def cy (x y q : Int) : Int := x * (csI q).2 + y * (csI q).1
theorem cV {x y : Int} {n : Nat} (hn : n ≤ 2) (h : VD x y (p65 n)) (q : Int) : VD (cx x y q) (cy x y q) (p65 (n + 1)) := by
  have := h.mul (csV q)
  rwa [p65_succ hn] at this
theorem VD.bd {x y : Int} {n : Nat} (h : VD x y (p65 n)) : (-274625 ≤ x ∧ x ≤ 274625) ∧ (-274625 ≤ y ∧ y ≤ 274625) := by
  have := h.x; have := h.y; have := p65_bd n; omega
theorem c51 (x y q : Int) (n : Nat) (hn : n ≤ 2) (hv : VD x y (p65 n)) : pc E 51 [.agg [.int .i64 x, .int .i64 y, .int .i64 n], .int .i64 q] = some (.agg [.int .i64 (cx x y q), .int .i64 (cy x y q), .int .i64 (n + 1 : Nat)]) := by
  have h := c82 x y n (by omega) hv
  have h2 := c83 x y q hv.bd.1 hv.bd.2
  have h3 : ((n : Int) == 3) = false := by simp; omega
  have w := wr_succ (n := n) (by omega)
  rw [← cx, ← cy] at h2
  rw [pc_eq]; simp +contextual -implicitDefEqProofs (maxSteps := 2000000) only [go_sem, ↓reduceIte, Nat.reduceAdd, Nat.reduceMul, Nat.reduceSub, Nat.reduceEqDiff, Nat.reduceLeDiff, Nat.reduceDiv, Nat.reduceMod, Nat.reduceBEq, Nat.reduceBNe, reduceCtorEq, Int.reduceLE, Int.reduceLT, Int.reduceToNat, Int.reduceNeg, Nat.reduceLT, Int.reduceEq, Int.reduceSub, Int.reduceAdd, Int.reduceMul, Nat.reducePow, Int.reduceBEq, Int.reduceBNe, Int.reduceMod, E_51, A51, h, h2, h3, w]
theorem c52 (x y q : Int) (n : Nat) (hn : n ≤ 2) (hv : VD x y (p65 n)) : pc E 52 [.agg [.int .i64 x, .int .i64 y, .int .i64 n], .int .i64 q] = some (.agg [.int .i64 (cx x y q), .int .i64 (cy x y q), .int .i64 (n + 1 : Nat)]) := by
  have h := c84 x y n (by omega) hv
  have h2 := c85 q
  have h3 : ((n : Int) == 3) = false := by simp; omega
  have w := wr_succ (n := n) (by omega)
  have v := csV q
  have b1 := v.x
  have b2 := v.y
  have hx := hv.bd.1
  have hy := hv.bd.2
  unfold cx cy
  generalize (csI q).1 = c at *
  generalize (csI q).2 = s at *
  have m1 := mul_bd hx.1 hx.2 b1.1 b1.2
  have m2 := mul_bd hx.1 hx.2 b2.1 b2.2
  have m3 := mul_bd hy.1 hy.2 b1.1 b1.2
  have m4 := mul_bd hy.1 hy.2 b2.1 b2.2
  have w1 : IntKind.i64.wrap (x * c) = x * c := wrap_small (by omega) (by omega)
  have w2 : IntKind.i64.wrap (x * s) = x * s := wrap_small (by omega) (by omega)
  have w3 : IntKind.i64.wrap (y * c) = y * c := wrap_small (by omega) (by omega)
  have w4 : IntKind.i64.wrap (y * s) = y * s := wrap_small (by omega) (by omega)
  have w5 : IntKind.i64.wrap (x * c - y * s) = x * c - y * s := wrap_small (by omega) (by omega)
  have w6 : IntKind.i64.wrap (x * s + y * c) = x * s + y * c := wrap_small (by omega) (by omega)
  rw [pc_eq]; simp +contextual -implicitDefEqProofs (maxSteps := 2000000) only [go_sem, ↓reduceIte, Nat.reduceAdd, Nat.reduceMul, Nat.reduceSub, Nat.reduceEqDiff, Nat.reduceLeDiff, Nat.reduceDiv, Nat.reduceMod, Nat.reduceBEq, Nat.reduceBNe, reduceCtorEq, Int.reduceLE, Int.reduceLT, Int.reduceToNat, Int.reduceNeg, Nat.reduceLT, Int.reduceEq, Int.reduceSub, Int.reduceAdd, Int.reduceMul, Nat.reducePow, Int.reduceBEq, Int.reduceBNe, Int.reduceMod, E_52, A52, h, h2, h3, w, w1, w2, w3, w4, w5, w6]
/-- Unit over 65 to the power n -/
def u65 : Nat → Int
  | 0 => 4394000 | 1 => 67600 | 2 => 1040 | _ => 16
theorem tdiv_u : ∀ n : Nat, (4394000 : Int).tdiv (p65 n) = u65 n
  | 0 => rfl | 1 => rfl | 2 => rfl | _ + 3 => rfl
theorem u65_p : ∀ n : Nat, u65 n * p65 n = 4394000
  | 0 => rfl | 1 => rfl | 2 => rfl | _ + 3 => rfl
theorem u65_bd (n : Nat) : 16 ≤ u65 n ∧ u65 n ≤ 4394000 := by unfold u65; split <;> omega
theorem ux_bd {x y : Int} {n : Nat} (hv : VD x y (p65 n)) (m : Int) (hm : 0 ≤ m ∧ m ≤ 40) : (-175760000 ≤ m * u65 n * x ∧ m * u65 n * x ≤ 175760000) ∧ (-175760000 ≤ m * u65 n * y ∧ m * u65 n * y ≤ 175760000) := by
  have hx := hv.x
  have hy := hv.y
  have e := u65_p n
  have pb := p65_bd n
  have ub := u65_bd n
  generalize p65 n = r at *
  generalize u65 n = u at *
  have mu : 0 ≤ m * u := Int.mul_nonneg hm.1 (by omega)
  have k1 : m * u * r ≤ 175760000 := by
    have : m * u * r = m * 4394000 := by rw [Int.mul_assoc, e]
    omega
  have a1 := Int.mul_le_mul_of_nonneg_left hx.1 mu
  have a2 := Int.mul_le_mul_of_nonneg_left hx.2 mu
  have a3 := Int.mul_le_mul_of_nonneg_left hy.1 mu
  have a4 := Int.mul_le_mul_of_nonneg_left hy.2 mu
  rw [Int.mul_neg] at a1 a3
  omega
theorem mu_bd (n : Nat) (m : Int) (hm : 0 ≤ m ∧ m ≤ 40) : 0 ≤ m * u65 n ∧ m * u65 n ≤ 175760000 := by
  have ub := u65_bd n
  have := mul_bd (A := 40) (C := 4394000) (x := m) (y := u65 n) (by omega) (by omega) (by omega) (by omega)
  exact ⟨Int.mul_nonneg hm.1 (by omega), by omega⟩
theorem c55 (x y : Int) (n : Nat) (hn : n ≤ 3) (hv : VD x y (p65 n)) (m : Int) (hm : 0 ≤ m ∧ m ≤ 40) : pc E 55 [.agg [.int .i64 x, .int .i64 y, .int .i64 n], .int .i64 m] = some (.agg [.int .i64 (m * u65 n * x), .int .i64 (m * u65 n * y)]) := by
  have h := c86 n hn
  have t := tdiv_u n
  have b := ux_bd hv m hm
  have mb := mu_bd n m hm
  have ub := u65_bd n
  have pb := p65_bd n
  have nz : ¬ (p65 n = 0) := by omega
  generalize p65 n = r at *
  generalize u65 n = u at *
  have w0 : IntKind.i64.wrap u = u := wrap_small (by omega) (by omega)
  have w1 : IntKind.i64.wrap (m * u) = m * u := wrap_small (by omega) (by omega)
  have w2 : IntKind.i64.wrap (m * u * x) = m * u * x := wrap_small (by omega) (by omega)
  have w3 : IntKind.i64.wrap (m * u * y) = m * u * y := wrap_small (by omega) (by omega)
  rw [pc_eq]; simp +contextual -implicitDefEqProofs (maxSteps := 2000000) only [go_sem, ↓reduceIte, Nat.reduceAdd, Nat.reduceMul, Nat.reduceSub, Nat.reduceEqDiff, Nat.reduceLeDiff, Nat.reduceDiv, Nat.reduceMod, Nat.reduceBEq, Nat.reduceBNe, reduceCtorEq, Int.reduceLE, Int.reduceLT, Int.reduceToNat, Int.reduceNeg, Nat.reduceLT, Int.reduceEq, Int.reduceSub, Int.reduceAdd, Int.reduceMul, Nat.reducePow, Int.reduceBEq, Int.reduceBNe, Int.reduceMod, E_55, A55, h, t, w0, w1, w2, w3, nz]
theorem c49 (x y : Int) (n : Nat) (hn : n ≤ 3) (hv : VD x y (p65 n)) (m : Int) (hm : 0 ≤ m ∧ m ≤ 40) : pc E 49 [.agg [.int .i64 x, .int .i64 y, .int .i64 n], .int .i64 m] = some (.agg [.int .i64 (m * u65 n * x), .int .i64 (m * u65 n * y)]) := by
  have h := c81 n hn
  have t := tdiv_u n
  have b := ux_bd hv m hm
  have mb := mu_bd n m hm
  have ub := u65_bd n
  have pb := p65_bd n
  have nz : ¬ (p65 n = 0) := by omega
  generalize p65 n = r at *
  generalize u65 n = u at *
  have w0 : IntKind.i64.wrap u = u := wrap_small (by omega) (by omega)
  have w1 : IntKind.i64.wrap (m * u) = m * u := wrap_small (by omega) (by omega)
  have w2 : IntKind.i64.wrap (m * u * x) = m * u * x := wrap_small (by omega) (by omega)
  have w3 : IntKind.i64.wrap (m * u * y) = m * u * y := wrap_small (by omega) (by omega)
  rw [pc_eq]; simp +contextual -implicitDefEqProofs (maxSteps := 2000000) only [go_sem, ↓reduceIte, Nat.reduceAdd, Nat.reduceMul, Nat.reduceSub, Nat.reduceEqDiff, Nat.reduceLeDiff, Nat.reduceDiv, Nat.reduceMod, Nat.reduceBEq, Nat.reduceBNe, reduceCtorEq, Int.reduceLE, Int.reduceLT, Int.reduceToNat, Int.reduceNeg, Nat.reduceLT, Int.reduceEq, Int.reduceSub, Int.reduceAdd, Int.reduceMul, Nat.reducePow, Int.reduceBEq, Int.reduceBNe, Int.reduceMod, E_49, A49, h, t, w0, w1, w2, w3, nz]
end Go.Proofs.Ytnecdcaaknhgpaa

namespace Go.Proofs.Ytnecdcaaknhgpaa
set_option maxRecDepth 100000
set_option maxHeartbeats 4000000
set_option linter.unusedSimpArgs false
set_option linter.unusedVariables false
open Go Go.Zv
structure Arm where
  bx : Int
  by_ : Int
  l0 : Int
  l1 : Int
  l2 : Int
  w : Int
  lo0 : Int
  lo1 : Int
  lo2 : Int
  hi0 : Int
  hi1 : Int
  hi2 : Int
abbrev avc (a : Arm) : List LV := [.int .i64 a.bx, .int .i64 a.by_, .int .i64 a.l0, .int .i64 a.l1, .int .i64 a.l2, .int .i64 a.w, .int .i64 a.lo0, .int .i64 a.lo1, .int .i64 a.lo2, .int .i64 a.hi0, .int .i64 a.hi1, .int .i64 a.hi2]
abbrev av (a : Arm) : LV := .agg (avc a)
abbrev jv (q0 q1 q2 : Int) : LV := .agg [.int .i64 q0, .int .i64 q1, .int .i64 q2]
/-- a valid arm -/
structure OKa (a : Arm) : Prop where
  l0 : 1 ≤ a.l0 ∧ a.l0 ≤ 40
  l1 : 1 ≤ a.l1 ∧ a.l1 ≤ 40
  l2 : 1 ≤ a.l2 ∧ a.l2 ≤ 40
  w : 1 ≤ a.w ∧ a.w ≤ 4
  j0 : -17 ≤ a.lo0 ∧ a.lo0 ≤ a.hi0 ∧ a.hi0 ≤ 18
  j1 : -17 ≤ a.lo1 ∧ a.lo1 ≤ a.hi1 ∧ a.hi1 ≤ 18
  j2 : -17 ≤ a.lo2 ∧ a.lo2 ≤ a.hi2 ∧ a.hi2 ≤ 18
  bx : -((100 - (a.w + a.l0 + a.l1 + a.l2)) * 4394000) ≤ a.bx ∧ a.bx ≤ (100 - (a.w + a.l0 + a.l1 + a.l2)) * 4394000
  by_ : -((100 - (a.w + a.l0 + a.l1 + a.l2)) * 4394000) ≤ a.by_ ∧ a.by_ ≤ (100 - (a.w + a.l0 + a.l1 + a.l2)) * 4394000
  mx : a.bx.tmod 16 = 0
  my : a.by_.tmod 16 = 0
theorem VD0 : VD 1 0 (p65 0) := ⟨by simp [p65], by simp [p65]⟩
abbrev dirs (q0 q1 q2 : Int) : List LV := [.int .i64 (cx 1 0 q0), .int .i64 (cy 1 0 q0), .int .i64 1, .int .i64 (cx (cx 1 0 q0) (cy 1 0 q0) q1), .int .i64 (cy (cx 1 0 q0) (cy 1 0 q0) q1), .int .i64 2,
  .int .i64 (cx (cx (cx 1 0 q0) (cy 1 0 q0) q1) (cy (cx 1 0 q0) (cy 1 0 q0) q1) q2), .int .i64 (cy (cx (cx 1 0 q0) (cy 1 0 q0) q1) (cy (cx 1 0 q0) (cy 1 0 q0) q1) q2), .int .i64 3]
theorem c25 (a : Arm) (q0 q1 q2 : Int) : pc E 25 [av a, jv q0 q1 q2] = some (.agg (dirs q0 q1 q2)) := by
  have v1 := cV (n := 0) (by omega) VD0 q0
  have v2 := cV (n := 1) (by omega) v1 q1
  have h1 := c51 1 0 q0 0 (by omega) VD0
  have h2 := c51 _ _ q1 1 (by omega) v1
  have h3 := c51 _ _ q2 2 (by omega) v2
  simp only [Int.natCast_zero, Int.ofNat_zero, Int.natCast_one, Nat.zero_add, Nat.reduceAdd, Int.cast_ofNat_Int] at h1 h2 h3
  unfold dirs
  generalize cx 1 0 q0 = x1 at *
  generalize cy 1 0 q0 = y1 at *
  generalize cx x1 y1 q1 = x2 at *
  generalize cy x1 y1 q1 = y2 at *
  rw [pc_eq]; simp +contextual -implicitDefEqProofs (maxSteps := 2000000) only [go_sem, ↓reduceIte, Nat.reduceAdd, Nat.reduceMul, Nat.reduceSub, Nat.reduceEqDiff, Nat.reduceLeDiff, Nat.reduceDiv, Nat.reduceMod, Nat.reduceBEq, Nat.reduceBNe, reduceCtorEq, Int.reduceLE, Int.reduceLT, Int.reduceToNat, Int.reduceNeg, Nat.reduceLT, Int.reduceEq, Int.reduceSub, Int.reduceAdd, Int.reduceMul, Nat.reducePow, Int.reduceBEq, Int.reduceBNe, Int.reduceMod, E_25, A25, A25_L0_eq, A25_L0b, h1, h2, h3]
theorem c26 (a : Arm) (q0 q1 q2 : Int) : pc E 26 [av a, jv q0 q1 q2] = some (.agg (dirs q0 q1 q2)) := by
  have v1 := cV (n := 0) (by omega) VD0 q0
  have v2 := cV (n := 1) (by omega) v1 q1
  have h1 := c52 1 0 q0 0 (by omega) VD0
  have h2 := c52 _ _ q1 1 (by omega) v1
  have h3 := c52 _ _ q2 2 (by omega) v2
  simp only [Int.natCast_zero, Int.ofNat_zero, Int.natCast_one, Nat.zero_add, Nat.reduceAdd, Int.cast_ofNat_Int] at h1 h2 h3
  unfold dirs
  generalize cx 1 0 q0 = x1 at *
  generalize cy 1 0 q0 = y1 at *
  generalize cx x1 y1 q1 = x2 at *
  generalize cy x1 y1 q1 = y2 at *
  rw [pc_eq]; simp +contextual -implicitDefEqProofs (maxSteps := 2000000) only [go_sem, ↓reduceIte, Nat.reduceAdd, Nat.reduceMul, Nat.reduceSub, Nat.reduceEqDiff, Nat.reduceLeDiff, Nat.reduceDiv, Nat.reduceMod, Nat.reduceBEq, Nat.reduceBNe, reduceCtorEq, Int.reduceLE, Int.reduceLT, Int.reduceToNat, Int.reduceNeg, Nat.reduceLT, Int.reduceEq, Int.reduceSub, Int.reduceAdd, Int.reduceMul, Nat.reducePow, Int.reduceBEq, Int.reduceBNe, Int.reduceMod, E_26, A26, h1, h2, h3]
end Go.Proofs.Ytnecdcaaknhgpaa

namespace Go.Proofs.Ytnecdcaaknhgpaa
set_option maxRecDepth 100000
set_option maxHeartbeats 4000000
set_option linter.unusedSimpArgs false
set_option linter.unusedVariables false
open Go Go.Zv
theorem c54 (ax ay bx by_ : Int) : pc E 54 [.agg [.int .i64 ax, .int .i64 ay], .agg [.int .i64 bx, .int .i64 by_]] = some (.agg [.int .i64 (IntKind.i64.wrap (ax + bx)), .int .i64 (IntKind.i64.wrap (ay + by_))]) := by
  rw [pc_eq]; simp +contextual -implicitDefEqProofs (maxSteps := 2000000) only [go_sem, ↓reduceIte, Nat.reduceAdd, Nat.reduceMul, Nat.reduceSub, Nat.reduceEqDiff, Nat.reduceLeDiff, Nat.reduceDiv, Nat.reduceMod, Nat.reduceBEq, Nat.reduceBNe, reduceCtorEq, Int.reduceLE, Int.reduceLT, Int.reduceToNat, Int.reduceNeg, Nat.reduceLT, Int.reduceEq, Int.reduceSub, Int.reduceAdd, Int.reduceMul, Nat.reducePow, Int.reduceBEq, Int.reduceBNe, Int.reduceMod, E_54, A54]
theorem c50 (ax ay bx by_ : Int) : pc E 50 [.agg [.int .i64 ax, .int .i64 ay], .agg [.int .i64 bx, .int .i64 by_]] = some (.agg [.int .i64 (IntKind.i64.wrap (ax + bx)), .int .i64 (IntKind.i64.wrap (ay + by_))]) := by
  rw [pc_eq]; simp +contextual -implicitDefEqProofs (maxSteps := 2000000) only [go_sem, ↓reduceIte, Nat.reduceAdd, Nat.reduceMul, Nat.reduceSub, Nat.reduceEqDiff, Nat.reduceLeDiff, Nat.reduceDiv, Nat.reduceMod, Nat.reduceBEq, Nat.reduceBNe, reduceCtorEq, Int.reduceLE, Int.reduceLT, Int.reduceToNat, Int.reduceNeg, Nat.reduceLT, Int.reduceEq, Int.reduceSub, Int.reduceAdd, Int.reduceMul, Nat.reducePow, Int.reduceBEq, Int.reduceBNe, Int.reduceMod, E_50, A50]
theorem c67 (ax ay bx by_ : Int) : pc E 67 [.agg [.int .i64 ax, .int .i64 ay], .agg [.int .i64 bx, .int .i64 by_]] = some (.agg [.int .i64 (IntKind.i64.wrap (ax - bx)), .int .i64 (IntKind.i64.wrap (ay - by_))]) := by
  rw [pc_eq]; simp +contextual -implicitDefEqProofs (maxSteps := 2000000) only [go_sem, ↓reduceIte, Nat.reduceAdd, Nat.reduceMul, Nat.reduceSub, Nat.reduceEqDiff, Nat.reduceLeDiff, Nat.reduceDiv, Nat.reduceMod, Nat.reduceBEq, Nat.reduceBNe, reduceCtorEq, Int.reduceLE, Int.reduceLT, Int.reduceToNat, Int.reduceNeg, Nat.reduceLT, Int.reduceEq, Int.reduceSub, Int.reduceAdd, Int.reduceMul, Nat.reducePow, Int.reduceBEq, Int.reduceBNe, Int.reduceMod, E_67, A67]
structure Pts where
  x1 : Int
  y1 : Int
  x2 : Int
  y2 : Int
  x3 : Int
  y3 : Int
/-- the directions of the links -/
def dd (q0 q1 q2 : Int) : Pts := ⟨cx 1 0 q0, cy 1 0 q0, cx (cx 1 0 q0) (cy 1 0 q0) q1, cy (cx 1 0 q0) (cy 1 0 q0) q1, cx (cx (cx 1 0 q0) (cy 1 0 q0) q1) (cy (cx 1 0 q0) (cy 1 0 q0) q1) q2, cy (cx (cx 1 0 q0) (cy 1 0 q0) q1) (cy (cx 1 0 q0) (cy 1 0 q0) q1) q2⟩
structure DV (d : Pts) : Prop where
  v1 : VD d.x1 d.y1 (p65 1)
  v2 : VD d.x2 d.y2 (p65 2)
  v3 : VD d.x3 d.y3 (p65 3)
theorem ddV (q0 q1 q2 : Int) : DV (dd q0 q1 q2) := ⟨cV (n := 0) (by omega) VD0 q0, cV (n := 1) (by omega) (cV (n := 0) (by omega) VD0 q0) q1, cV (n := 2) (by omega) (cV (n := 1) (by omega) (cV (n := 0) (by omega) VD0 q0) q1) q2⟩
abbrev ddv (d : Pts) : List LV := [.int .i64 d.x1, .int .i64 d.y1, .int .i64 1, .int .i64 d.x2, .int .i64 d.y2, .int .i64 2, .int .i64 d.x3, .int .i64 d.y3, .int .i64 3]
theorem c25' (a : Arm) (q0 q1 q2 : Int) : pc E 25 [av a, jv q0 q1 q2] = some (.agg (ddv (dd q0 q1 q2))) := c25 a q0 q1 q2
theorem c26' (a : Arm) (q0 q1 q2 : Int) : pc E 26 [av a, jv q0 q1 q2] = some (.agg (ddv (dd q0 q1 q2))) := c26 a q0 q1 q2
/-- the ends of the links -/
def pp (a : Arm) (d : Pts) : Pts := ⟨a.bx + a.l0 * 67600 * d.x1, a.by_ + a.l0 * 67600 * d.y1, a.bx + a.l0 * 67600 * d.x1 + a.l1 * 1040 * d.x2, a.by_ + a.l0 * 67600 * d.y1 + a.l1 * 1040 * d.y2,
  a.bx + a.l0 * 67600 * d.x1 + a.l1 * 1040 * d.x2 + a.l2 * 16 * d.x3, a.by_ + a.l0 * 67600 * d.y1 + a.l1 * 1040 * d.y2 + a.l2 * 16 * d.y3⟩
abbrev ppv (a : Arm) (p : Pts) : List LV := [.int .i64 a.bx, .int .i64 a.by_, .int .i64 p.x1, .int .i64 p.y1, .int .i64 p.x2, .int .i64 p.y2, .int .i64 p.x3, .int .i64 p.y3]
structure Bds (a : Arm) (d : Pts) : Prop where
  o0x : -175760000 ≤ a.l0 * 67600 * d.x1 ∧ a.l0 * 67600 * d.x1 ≤ 175760000
  o0y : -175760000 ≤ a.l0 * 67600 * d.y1 ∧ a.l0 * 67600 * d.y1 ≤ 175760000
  o1x : -175760000 ≤ a.l1 * 1040 * d.x2 ∧ a.l1 * 1040 * d.x2 ≤ 175760000
  o1y : -175760000 ≤ a.l1 * 1040 * d.y2 ∧ a.l1 * 1040 * d.y2 ≤ 175760000
  o2x : -175760000 ≤ a.l2 * 16 * d.x3 ∧ a.l2 * 16 * d.x3 ≤ 175760000
  o2y : -175760000 ≤ a.l2 * 16 * d.y3 ∧ a.l2 * 16 * d.y3 ≤ 175760000
  bx : -439400000 ≤ a.bx ∧ a.bx ≤ 439400000
  by_ : -439400000 ≤ a.by_ ∧ a.by_ ≤ 439400000
theorem bds {a : Arm} (h : OKa a) {d : Pts} (v : DV d) : Bds a d := by
  have a1 := ux_bd v.v1 a.l0 (by have := h.l0; omega)
  have a2 := ux_bd v.v2 a.l1 (by have := h.l1; omega)
  have a3 := ux_bd v.v3 a.l2 (by have := h.l2; omega)
  exact ⟨a1.1, a1.2, a2.1, a2.2, a3.1, a3.2, by have := h.bx; have := h.w; have := h.l0; have := h.l1; have := h.l2; omega, by have := h.by_; have := h.w; have := h.l0; have := h.l1; have := h.l2; omega⟩
theorem c27 (a : Arm) (h : OKa a) (q0 q1 q2 : Int) : pc E 27 [av a, jv q0 q1 q2] = some (.agg (ppv a (pp a (dd q0 q1 q2)))) := by
  have hd := c25' a q0 q1 q2
  have v := ddV q0 q1 q2
  have b := bds h v
  have k1 := c55 _ _ 1 (by omega) v.v1 a.l0 (by have := h.l0; omega)
  have k2 := c55 _ _ 2 (by omega) v.v2 a.l1 (by have := h.l1; omega)
  have k3 := c55 _ _ 3 (by omega) v.v3 a.l2 (by have := h.l2; omega)
  simp only [u65, Int.natCast_one, Int.cast_ofNat_Int] at k1 k2 k3
  generalize dd q0 q1 q2 = d at *
  obtain ⟨o0x, o0y, o1x, o1y, o2x, o2y, bx, by_⟩ := b
  unfold pp
  have g1 := c54 a.bx a.by_ (a.l0 * 67600 * d.x1) (a.l0 * 67600 * d.y1)
  rw [wrap_small (by omega) (by omega), wrap_small (by omega) (by omega)] at g1
  have g2 := c54 (a.bx + a.l0 * 67600 * d.x1) (a.by_ + a.l0 * 67600 * d.y1) (a.l1 * 1040 * d.x2) (a.l1 * 1040 * d.y2)
  rw [wrap_small (by omega) (by omega), wrap_small (by omega) (by omega)] at g2
  have g3 := c54 (a.bx + a.l0 * 67600 * d.x1 + a.l1 * 1040 * d.x2) (a.by_ + a.l0 * 67600 * d.y1 + a.l1 * 1040 * d.y2) (a.l2 * 16 * d.x3) (a.l2 * 16 * d.y3)
  rw [wrap_small (by omega) (by omega), wrap_small (by omega) (by omega)] at g3
  generalize a.l0 * 67600 * d.x1 = e1 at *
  generalize a.l0 * 67600 * d.y1 = e2 at *
  generalize a.l1 * 1040 * d.x2 = e3 at *
  generalize a.l1 * 1040 * d.y2 = e4 at *
  generalize a.l2 * 16 * d.x3 = e5 at *
  generalize a.l2 * 16 * d.y3 = e6 at *
  rw [pc_eq]; simp +contextual -implicitDefEqProofs (maxSteps := 2000000) only [go_sem, ↓reduceIte, Nat.reduceAdd, Nat.reduceMul, Nat.reduceSub, Nat.reduceEqDiff, Nat.reduceLeDiff, Nat.reduceDiv, Nat.reduceMod, Nat.reduceBEq, Nat.reduceBNe, reduceCtorEq, Int.reduceLE, Int.reduceLT, Int.reduceToNat, Int.reduceNeg, Nat.reduceLT, Int.reduceEq, Int.reduceSub, Int.reduceAdd, Int.reduceMul, Nat.reducePow, Int.reduceBEq, Int.reduceBNe, Int.reduceMod, E_27, A27, A27_L0_eq, A27_L0b, hd, k1, k2, k3, E_53, A53, g1, g2, g3]
theorem c28 (a : Arm) (h : OKa a) (q0 q1 q2 : Int) : pc E 28 [av a, jv q0 q1 q2] = some (.agg (ppv a (pp a (dd q0 q1 q2)))) := by
  have hd := c26' a q0 q1 q2
  have v := ddV q0 q1 q2
  have b := bds h v
  have k1 := c49 _ _ 1 (by omega) v.v1 a.l0 (by have := h.l0; omega)
  have k2 := c49 _ _ 2 (by omega) v.v2 a.l1 (by have := h.l1; omega)
  have k3 := c49 _ _ 3 (by omega) v.v3 a.l2 (by have := h.l2; omega)
  simp only [u65, Int.natCast_one, Int.cast_ofNat_Int] at k1 k2 k3
  generalize dd q0 q1 q2 = d at *
  obtain ⟨o0x, o0y, o1x, o1y, o2x, o2y, bx, by_⟩ := b
  unfold pp
  have g1 := c50 a.bx a.by_ (a.l0 * 67600 * d.x1) (a.l0 * 67600 * d.y1)
  rw [wrap_small (by omega) (by omega), wrap_small (by omega) (by omega)] at g1
  have g2 := c50 (a.bx + a.l0 * 67600 * d.x1) (a.by_ + a.l0 * 67600 * d.y1) (a.l1 * 1040 * d.x2) (a.l1 * 1040 * d.y2)
  rw [wrap_small (by omega) (by omega), wrap_small (by omega) (by omega)] at g2
  have g3 := c50 (a.bx + a.l0 * 67600 * d.x1 + a.l1 * 1040 * d.x2) (a.by_ + a.l0 * 67600 * d.y1 + a.l1 * 1040 * d.y2) (a.l2 * 16 * d.x3) (a.l2 * 16 * d.y3)
  rw [wrap_small (by omega) (by omega), wrap_small (by omega) (by omega)] at g3
  generalize a.l0 * 67600 * d.x1 = e1 at *
  generalize a.l0 * 67600 * d.y1 = e2 at *
  generalize a.l1 * 1040 * d.x2 = e3 at *
  generalize a.l1 * 1040 * d.y2 = e4 at *
  generalize a.l2 * 16 * d.x3 = e5 at *
  generalize a.l2 * 16 * d.y3 = e6 at *
  rw [pc_eq]; simp +contextual -implicitDefEqProofs (maxSteps := 2000000) only [go_sem, ↓reduceIte, Nat.reduceAdd, Nat.reduceMul, Nat.reduceSub, Nat.reduceEqDiff, Nat.reduceLeDiff, Nat.reduceDiv, Nat.reduceMod, Nat.reduceBEq, Nat.reduceBNe, reduceCtorEq, Int.reduceLE, Int.reduceLT, Int.reduceToNat, Int.reduceNeg, Nat.reduceLT, Int.reduceEq, Int.reduceSub, Int.reduceAdd, Int.reduceMul, Nat.reducePow, Int.reduceBEq, Int.reduceBNe, Int.reduceMod, E_28, A28, A28_L0_eq, A28_L0b, hd, k1, k2, k3, g1, g2, g3]
end Go.Proofs.Ytnecdcaaknhgpaa

namespace Go.Proofs.Ytnecdcaaknhgpaa
set_option maxRecDepth 100000
set_option maxHeartbeats 4000000
set_option linter.unusedSimpArgs false
set_option linter.unusedVariables false
open Go Go.Zv
theorem c64 (x y : Int) (h : -1000000000 ≤ y ∧ y ≤ 1000000000) : pc E 64 [.agg [.int .i64 x, .int .i64 y]] = some (.agg [.int .i64 (-y), .int .i64 x]) := by
  have h1 := c91 x y (by omega) (by omega)
  rw [pc_eq]; simp +contextual -implicitDefEqProofs (maxSteps := 2000000) only [go_sem, ↓reduceIte, Nat.reduceAdd, Nat.reduceMul, Nat.reduceSub, Nat.reduceEqDiff, Nat.reduceLeDiff, Nat.reduceDiv, Nat.reduceMod, Nat.reduceBEq, Nat.reduceBNe, reduceCtorEq, Int.reduceLE, Int.reduceLT, Int.reduceToNat, Int.reduceNeg, Nat.reduceLT, Int.reduceEq, Int.reduceSub, Int.reduceAdd, Int.reduceMul, Nat.reducePow, Int.reduceBEq, Int.reduceBNe, Int.reduceMod, E_64, A64, h1]
def lkc (fx fy tx ty ox oy : Int) : List (Int × Int) := [(fx + oy, fy - ox), (tx + oy, ty - ox), (tx - oy, ty + ox), (fx - oy, fy + ox)]
abbrev pt (p : Int × Int) : LV := .agg [.int .i64 p.1, .int .i64 p.2]
def c2 (p : Int × Int) : List LV := [.int .i64 p.1, .int .i64 p.2]
theorem c48 (a : Arm) (hw : 0 ≤ a.w ∧ a.w ≤ 40) (q0 q1 q2 x y : Int) (n : Nat) (hn : n ≤ 3) (hv : VD x y (p65 n)) (fx fy tx ty : Int) (h1 : -1000000000 ≤ fx ∧ fx ≤ 1000000000) (h2 : -1000000000 ≤ fy ∧ fy ≤ 1000000000) (h3 : -1000000000 ≤ tx ∧ tx ≤ 1000000000) (h4 : -1000000000 ≤ ty ∧ ty ≤ 1000000000) :
    pc E 48 [.agg [.int .i64 a.bx, .int .i64 a.by_, .int .i64 a.l0, .int .i64 a.l1, .int .i64 a.l2, .int .i64 a.w, .int .i64 a.lo0, .int .i64 a.lo1, .int .i64 a.lo2, .int .i64 a.hi0, .int .i64 a.hi1, .int .i64 a.hi2, .int .i64 q0, .int .i64 q1, .int .i64 q2], .agg [.int .i64 x, .int .i64 y, .int .i64 n], .agg [.int .i64 fx, .int .i64 fy], .agg [.int .i64 tx, .int .i64 ty]] =
    some (.os 2 ((lkc fx fy tx ty (a.w * u65 n * x) (a.w * u65 n * y)).map c2)) := by
  have k := c55 x y n hn hv a.w hw
  have b := ux_bd hv a.w hw
  generalize a.w * u65 n * x = ox at *
  generalize a.w * u65 n * y = oy at *
  have r := c64 ox oy (by omega)
  have s1 := c67 fx fy (-oy) ox
  rw [wrap_small (by omega) (by omega), wrap_small (by omega) (by omega), show fx - -oy = fx + oy by omega] at s1
  have s2 := c67 tx ty (-oy) ox
  rw [wrap_small (by omega) (by omega), wrap_small (by omega) (by omega), show tx - -oy = tx + oy by omega] at s2
  have s3 := c54 tx ty (-oy) ox
  rw [wrap_small (by omega) (by omega), wrap_small (by omega) (by omega), show tx + -oy = tx - oy by omega] at s3
  have s4 := c54 fx fy (-oy) ox
  rw [wrap_small (by omega) (by omega), wrap_small (by omega) (by omega), show fx + -oy = fx - oy by omega] at s4
  rw [pc_eq]; simp +contextual -implicitDefEqProofs (maxSteps := 2000000) only [go_sem, ↓reduceIte, Nat.reduceAdd, Nat.reduceMul, Nat.reduceSub, Nat.reduceEqDiff, Nat.reduceLeDiff, Nat.reduceDiv, Nat.reduceMod, Nat.reduceBEq, Nat.reduceBNe, reduceCtorEq, Int.reduceLE, Int.reduceLT, Int.reduceToNat, Int.reduceNeg, Nat.reduceLT, Int.reduceEq, Int.reduceSub, Int.reduceAdd, Int.reduceMul, Nat.reducePow, Int.reduceBEq, Int.reduceBNe, Int.reduceMod, E_48, A48, k, r, s1, s2, s3, s4, lkc, c2, List.map_cons, List.map_nil]
end Go.Proofs.Ytnecdcaaknhgpaa

namespace Go.Proofs.Ytnecdcaaknhgpaa
set_option maxRecDepth 100000
set_option maxHeartbeats 4000000
set_option linter.unusedSimpArgs false
set_option linter.unusedVariables false
open Go Go.Zv
/-- the bodies of the links -/
def lks (a : Arm) (d : Pts) : List (List (Int × Int)) :=
  [lkc a.bx a.by_ (pp a d).x1 (pp a d).y1 (a.w * 67600 * d.x1) (a.w * 67600 * d.y1),
   lkc (pp a d).x1 (pp a d).y1 (pp a d).x2 (pp a d).y2 (a.w * 1040 * d.x2) (a.w * 1040 * d.y2),
   lkc (pp a d).x2 (pp a d).y2 (pp a d).x3 (pp a d).y3 (a.w * 16 * d.x3) (a.w * 16 * d.y3)]
abbrev lkv (l : List (Int × Int)) : LV := .vs (l.map c2)
theorem lkc_len (a b c d e f : Int) : (lkc a b c d e f).length = 4 := rfl
theorem c20 (a : Arm) (h : OKa a) (q0 q1 q2 : Int) : pc E 20 [av a, jv q0 q1 q2] = some (.agg ((lks a (dd q0 q1 q2)).map lkv)) := by
  have h1 := c25' a q0 q1 q2
  have h2 := c27 a h q0 q1 q2
  have v := ddV q0 q1 q2
  have b := bds h v
  obtain ⟨o0x, o0y, o1x, o1y, o2x, o2y, bx, by_⟩ := b
  have hw : 0 ≤ a.w ∧ a.w ≤ 40 := by have := h.w; omega
  generalize dd q0 q1 q2 = d at *
  have k1 := c48 a hw q0 q1 q2 _ _ 1 (by omega) v.v1 a.bx a.by_ (pp a d).x1 (pp a d).y1 (by omega) (by omega) (by simp only [pp]; omega) (by simp only [pp]; omega)
  have k2 := c48 a hw q0 q1 q2 _ _ 2 (by omega) v.v2 (pp a d).x1 (pp a d).y1 (pp a d).x2 (pp a d).y2 (by simp only [pp]; omega) (by simp only [pp]; omega) (by simp only [pp]; omega) (by simp only [pp]; omega)
  have k3 := c48 a hw q0 q1 q2 _ _ 3 (by omega) v.v3 (pp a d).x2 (pp a d).y2 (pp a d).x3 (pp a d).y3 (by simp only [pp]; omega) (by simp only [pp]; omega) (by simp only [pp]; omega) (by simp only [pp]; omega)
  simp only [u65, Int.natCast_one, Int.cast_ofNat_Int] at k1 k2 k3
  unfold lks
  have t : ∀ l : List (Int × Int), l.length = 4 → (l.map c2).take 4 = l.map c2 := fun l hl => List.take_of_length_le (by simp [hl])
  have t1 := t _ (lkc_len a.bx a.by_ (pp a d).x1 (pp a d).y1 (a.w * 67600 * d.x1) (a.w * 67600 * d.y1))
  have t2 := t _ (lkc_len (pp a d).x1 (pp a d).y1 (pp a d).x2 (pp a d).y2 (a.w * 1040 * d.x2) (a.w * 1040 * d.y2))
  have t3 := t _ (lkc_len (pp a d).x2 (pp a d).y2 (pp a d).x3 (pp a d).y3 (a.w * 16 * d.x3) (a.w * 16 * d.y3))
  have n1 := lkc_len a.bx a.by_ (pp a d).x1 (pp a d).y1 (a.w * 67600 * d.x1) (a.w * 67600 * d.y1)
  have n2 := lkc_len (pp a d).x1 (pp a d).y1 (pp a d).x2 (pp a d).y2 (a.w * 1040 * d.x2) (a.w * 1040 * d.y2)
  have n3 := lkc_len (pp a d).x2 (pp a d).y2 (pp a d).x3 (pp a d).y3 (a.w * 16 * d.x3) (a.w * 16 * d.y3)
  generalize lkc a.bx a.by_ (pp a d).x1 (pp a d).y1 (a.w * 67600 * d.x1) (a.w * 67600 * d.y1) = L1 at *
  generalize lkc (pp a d).x1 (pp a d).y1 (pp a d).x2 (pp a d).y2 (a.w * 1040 * d.x2) (a.w * 1040 * d.y2) = L2 at *
  generalize lkc (pp a d).x2 (pp a d).y2 (pp a d).x3 (pp a d).y3 (a.w * 16 * d.x3) (a.w * 16 * d.y3) = L3 at *
  rw [pc_eq]; simp +contextual -implicitDefEqProofs (maxSteps := 2000000) only [go_sem, ↓reduceIte, Nat.reduceAdd, Nat.reduceMul, Nat.reduceSub, Nat.reduceEqDiff, Nat.reduceLeDiff, Nat.reduceDiv, Nat.reduceMod, Nat.reduceBEq, Nat.reduceBNe, reduceCtorEq, Int.reduceLE, Int.reduceLT, Int.reduceToNat, Int.reduceNeg, Nat.reduceLT, Int.reduceEq, Int.reduceSub, Int.reduceAdd, Int.reduceMul, Nat.reducePow, Int.reduceBEq, Int.reduceBNe, Int.reduceMod, E_20, A20, A20_L0_eq, A20_L0b, h1, h2, k1, k2, k3, List.length_map, t1, t2, t3, n1, n2, n3, List.map_cons, List.map_nil]
end Go.Proofs.Ytnecdcaaknhgpaa

namespace Go.Proofs.Ytnecdcaaknhgpaa
set_option maxRecDepth 100000
set_option maxHeartbeats 4000000
set_option linter.unusedSimpArgs false
set_option linter.unusedVariables false
open Go Go.Zv
def fr (a : Arm) : Int := (100 - (a.w + a.l0 + a.l1 + a.l2)) * 4394000
open Classical in
noncomputable def okB (a : Arm) : Bool := decide (OKa a)
open Classical in
theorem okF {a : Arm} (h : OKa a → False) : okB a = false := by unfold okB; exact decide_eq_false h
open Classical in
theorem okT {a : Arm} (h : OKa a) : okB a = true := by unfold okB; exact decide_eq_true h
open Classical in
theorem okB_iff {a : Arm} : okB a = true ↔ OKa a := by unfold okB; exact decide_eq_true_iff
structure Pre (a : Arm) : Prop where
  l0 : 1 ≤ a.l0 ∧ a.l0 ≤ 40
  l1 : 1 ≤ a.l1 ∧ a.l1 ≤ 40
  l2 : 1 ≤ a.l2 ∧ a.l2 ≤ 40
  w : 1 ≤ a.w ∧ a.w ≤ 4
  j0 : -17 ≤ a.lo0 ∧ a.lo0 ≤ a.hi0 ∧ a.hi0 ≤ 18
  j1 : -17 ≤ a.lo1 ∧ a.lo1 ≤ a.hi1 ∧ a.hi1 ≤ 18
  j2 : -17 ≤ a.lo2 ∧ a.lo2 ≤ a.hi2 ∧ a.hi2 ≤ 18
theorem mn_iff (a b x : Int) : x ≤ mnI a b ↔ x ≤ a ∧ x ≤ b := by unfold mnI; split <;> omega
theorem mx_iff (a b x : Int) : mxI a b ≤ x ↔ a ≤ x ∧ b ≤ x := by unfold mxI; split <;> omega
theorem ok_of {a : Arm} (h : Pre a) (mx : a.bx.tmod 16 = 0) (my : a.by_.tmod 16 = 0) (h1 : -(fr a) ≤ mnI a.bx a.by_) (h2 : mxI a.bx a.by_ ≤ fr a) : OKa a := by
  rw [mn_iff] at h1; rw [mx_iff] at h2
  unfold fr at h1 h2
  exact ⟨h.l0, h.l1, h.l2, h.w, h.j0, h.j1, h.j2, ⟨h1.1, h2.1⟩, ⟨h1.2, h2.2⟩, mx, my⟩
theorem ok_inv {a : Arm} (h : OKa a) : (a.bx.tmod 16 = 0 ∧ a.by_.tmod 16 = 0) ∧ -(fr a) ≤ mnI a.bx a.by_ ∧ mxI a.bx a.by_ ≤ fr a := by
  rw [mn_iff, mx_iff]
  exact ⟨⟨h.mx, h.my⟩, ⟨h.bx.1, h.by_.1⟩, ⟨h.bx.2, h.by_.2⟩⟩
theorem c15p (a : Arm) (h : Pre a) : pc E 15 [av a] = some (.bool (okB a)) := by
  obtain ⟨l0, l1, l2, w, j0, j1, j2⟩ := h
  have p : Pre a := ⟨l0, l1, l2, w, j0, j1, j2⟩
  have g0 : ¬ a.l0 < 1 := by omega
  have g1 : ¬ 40 < a.l0 := by omega
  have g2 : ¬ a.lo0 < -17 := by omega
  have g3 : ¬ 18 < a.hi0 := by omega
  have g4 : ¬ a.hi0 < a.lo0 := by omega
  have g5 : ¬ a.l1 < 1 := by omega
  have g6 : ¬ 40 < a.l1 := by omega
  have g7 : ¬ a.lo1 < -17 := by omega
  have g8 : ¬ 18 < a.hi1 := by omega
  have g9 : ¬ a.hi1 < a.lo1 := by omega
  have g10 : ¬ a.l2 < 1 := by omega
  have g11 : ¬ 40 < a.l2 := by omega
  have g12 : ¬ a.lo2 < -17 := by omega
  have g13 : ¬ 18 < a.hi2 := by omega
  have g14 : ¬ a.hi2 < a.lo2 := by omega
  have g15 : ¬ a.w < 1 := by omega
  have g16 : ¬ 4 < a.w := by omega
  have w1 : IntKind.i64.wrap (a.w + a.l0) = a.w + a.l0 := wrap_small (by omega) (by omega)
  have w2 : IntKind.i64.wrap (a.w + a.l0 + a.l1) = a.w + a.l0 + a.l1 := wrap_small (by omega) (by omega)
  have w3 : IntKind.i64.wrap (a.w + a.l0 + a.l1 + a.l2) = a.w + a.l0 + a.l1 + a.l2 := wrap_small (by omega) (by omega)
  have w4 : IntKind.i64.wrap (100 - (a.w + a.l0 + a.l1 + a.l2)) = 100 - (a.w + a.l0 + a.l1 + a.l2) := wrap_small (by omega) (by omega)
  have w5 : IntKind.i64.wrap ((100 - (a.w + a.l0 + a.l1 + a.l2)) * 4394000) = fr a := by rw [wrap_small (by omega) (by omega)]; rfl
  have w6 : IntKind.i64.wrap (0 - fr a) = -(fr a) := by unfold fr; rw [wrap_small (by omega) (by omega)]; omega
  by_cases mx : a.bx.tmod 16 = 0
  · by_cases my : a.by_.tmod 16 = 0
    · by_cases h1 : -(fr a) ≤ mnI a.bx a.by_
      · by_cases h2 : mxI a.bx a.by_ ≤ fr a
        · have hv := okT (ok_of p mx my h1 h2)
          rw [pc_eq]; simp +contextual -implicitDefEqProofs (maxSteps := 2000000) only [go_sem, ↓reduceIte, Nat.reduceAdd, Nat.reduceMul, Nat.reduceSub, Nat.reduceEqDiff, Nat.reduceLeDiff, Nat.reduceDiv, Nat.reduceMod, Nat.reduceBEq, Nat.reduceBNe, reduceCtorEq, Int.reduceLE, Int.reduceLT, Int.reduceToNat, Int.reduceNeg, Nat.reduceLT, Int.reduceEq, Int.reduceSub, Int.reduceAdd, Int.reduceMul, Nat.reducePow, Int.reduceBEq, Int.reduceBNe, Int.reduceMod, E_15, A15, A15_L0_eq, A15_L0b, hv, g0, g1, g2, g3, g4, g5, g6, g7, g8, g9, g10, g11, g12, g13, g14, g15, g16, w1, w2, w3, w4, w5, w6, mx, my, h1, h2, bne_self_eq_false]
        · have hv := okF (fun h => h2 (ok_inv h).2.2)
          rw [pc_eq]; simp +contextual -implicitDefEqProofs (maxSteps := 2000000) only [go_sem, ↓reduceIte, Nat.reduceAdd, Nat.reduceMul, Nat.reduceSub, Nat.reduceEqDiff, Nat.reduceLeDiff, Nat.reduceDiv, Nat.reduceMod, Nat.reduceBEq, Nat.reduceBNe, reduceCtorEq, Int.reduceLE, Int.reduceLT, Int.reduceToNat, Int.reduceNeg, Nat.reduceLT, Int.reduceEq, Int.reduceSub, Int.reduceAdd, Int.reduceMul, Nat.reducePow, Int.reduceBEq, Int.reduceBNe, Int.reduceMod, E_15, A15, A15_L0_eq, A15_L0b, hv, g0, g1, g2, g3, g4, g5, g6, g7, g8, g9, g10, g11, g12, g13, g14, g15, g16, w1, w2, w3, w4, w5, w6, mx, my, h1, h2, bne_self_eq_false]
      · have hv := okF (fun h => h1 (ok_inv h).2.1)
        rw [pc_eq]; simp +contextual -implicitDefEqProofs (maxSteps := 2000000) only [go_sem, ↓reduceIte, Nat.reduceAdd, Nat.reduceMul, Nat.reduceSub, Nat.reduceEqDiff, Nat.reduceLeDiff, Nat.reduceDiv, Nat.reduceMod, Nat.reduceBEq, Nat.reduceBNe, reduceCtorEq, Int.reduceLE, Int.reduceLT, Int.reduceToNat, Int.reduceNeg, Nat.reduceLT, Int.reduceEq, Int.reduceSub, Int.reduceAdd, Int.reduceMul, Nat.reducePow, Int.reduceBEq, Int.reduceBNe, Int.reduceMod, E_15, A15, A15_L0_eq, A15_L0b, hv, g0, g1, g2, g3, g4, g5, g6, g7, g8, g9, g10, g11, g12, g13, g14, g15, g16, w1, w2, w3, w4, w5, w6, mx, my, h1, bne_self_eq_false]
    · have hv := okF (fun h => my (ok_inv h).1.2)
      have my' : (a.by_.tmod 16 != 0) = true := by simpa using my
      rw [pc_eq]; simp +contextual -implicitDefEqProofs (maxSteps := 2000000) only [go_sem, ↓reduceIte, Nat.reduceAdd, Nat.reduceMul, Nat.reduceSub, Nat.reduceEqDiff, Nat.reduceLeDiff, Nat.reduceDiv, Nat.reduceMod, Nat.reduceBEq, Nat.reduceBNe, reduceCtorEq, Int.reduceLE, Int.reduceLT, Int.reduceToNat, Int.reduceNeg, Nat.reduceLT, Int.reduceEq, Int.reduceSub, Int.reduceAdd, Int.reduceMul, Nat.reducePow, Int.reduceBEq, Int.reduceBNe, Int.reduceMod, E_15, A15, A15_L0_eq, A15_L0b, hv, g0, g1, g2, g3, g4, g5, g6, g7, g8, g9, g10, g11, g12, g13, g14, g15, g16, w1, w2, w3, w4, w5, w6, mx, my, my', bne_self_eq_false]
  · have hv := okF (fun h => mx (ok_inv h).1.1)
    have mx' : (a.bx.tmod 16 != 0) = true := by simpa using mx
    rw [pc_eq]; simp +contextual -implicitDefEqProofs (maxSteps := 2000000) only [go_sem, ↓reduceIte, Nat.reduceAdd, Nat.reduceMul, Nat.reduceSub, Nat.reduceEqDiff, Nat.reduceLeDiff, Nat.reduceDiv, Nat.reduceMod, Nat.reduceBEq, Nat.reduceBNe, reduceCtorEq, Int.reduceLE, Int.reduceLT, Int.reduceToNat, Int.reduceNeg, Nat.reduceLT, Int.reduceEq, Int.reduceSub, Int.reduceAdd, Int.reduceMul, Nat.reducePow, Int.reduceBEq, Int.reduceBNe, Int.reduceMod, E_15, A15, A15_L0_eq, A15_L0b, hv, g0, g1, g2, g3, g4, g5, g6, g7, g8, g9, g10, g11, g12, g13, g14, g15, g16, w1, w2, w3, w4, w5, w6, mx, mx', bne_self_eq_false]
theorem c15 (a : Arm) : pc E 15 [av a] = some (.bool (okB a)) := by
  by_cases hp : Pre a
  · exact c15p a hp
  have hp2 : ∀ (P : Prop), (Pre a → P) → True := fun _ _ => trivial
  have hv : okB a = false := okF (fun h => hp ⟨h.l0, h.l1, h.l2, h.w, h.j0, h.j1, h.j2⟩)
  by_cases g0 : a.l0 < 1
  · rw [pc_eq]; simp +contextual -implicitDefEqProofs (maxSteps := 2000000) only [go_sem, ↓reduceIte, Nat.reduceAdd, Nat.reduceMul, Nat.reduceSub, Nat.reduceEqDiff, Nat.reduceLeDiff, Nat.reduceDiv, Nat.reduceMod, Nat.reduceBEq, Nat.reduceBNe, reduceCtorEq, Int.reduceLE, Int.reduceLT, Int.reduceToNat, Int.reduceNeg, Nat.reduceLT, Int.reduceEq, Int.reduceSub, Int.reduceAdd, Int.reduceMul, Nat.reducePow, Int.reduceBEq, Int.reduceBNe, Int.reduceMod, E_15, A15, A15_L0_eq, A15_L0b, hv, g0]
  · by_cases g1 : 40 < a.l0
    · rw [pc_eq]; simp +contextual -implicitDefEqProofs (maxSteps := 2000000) only [go_sem, ↓reduceIte, Nat.reduceAdd, Nat.reduceMul, Nat.reduceSub, Nat.reduceEqDiff, Nat.reduceLeDiff, Nat.reduceDiv, Nat.reduceMod, Nat.reduceBEq, Nat.reduceBNe, reduceCtorEq, Int.reduceLE, Int.reduceLT, Int.reduceToNat, Int.reduceNeg, Nat.reduceLT, Int.reduceEq, Int.reduceSub, Int.reduceAdd, Int.reduceMul, Nat.reducePow, Int.reduceBEq, Int.reduceBNe, Int.reduceMod, E_15, A15, A15_L0_eq, A15_L0b, hv, g0, g1]
    · by_cases g2 : a.lo0 < -17
      · rw [pc_eq]; simp +contextual -implicitDefEqProofs (maxSteps := 2000000) only [go_sem, ↓reduceIte, Nat.reduceAdd, Nat.reduceMul, Nat.reduceSub, Nat.reduceEqDiff, Nat.reduceLeDiff, Nat.reduceDiv, Nat.reduceMod, Nat.reduceBEq, Nat.reduceBNe, reduceCtorEq, Int.reduceLE, Int.reduceLT, Int.reduceToNat, Int.reduceNeg, Nat.reduceLT, Int.reduceEq, Int.reduceSub, Int.reduceAdd, Int.reduceMul, Nat.reducePow, Int.reduceBEq, Int.reduceBNe, Int.reduceMod, E_15, A15, A15_L0_eq, A15_L0b, hv, g0, g1, g2]
      · by_cases g3 : 18 < a.hi0
        · rw [pc_eq]; simp +contextual -implicitDefEqProofs (maxSteps := 2000000) only [go_sem, ↓reduceIte, Nat.reduceAdd, Nat.reduceMul, Nat.reduceSub, Nat.reduceEqDiff, Nat.reduceLeDiff, Nat.reduceDiv, Nat.reduceMod, Nat.reduceBEq, Nat.reduceBNe, reduceCtorEq, Int.reduceLE, Int.reduceLT, Int.reduceToNat, Int.reduceNeg, Nat.reduceLT, Int.reduceEq, Int.reduceSub, Int.reduceAdd, Int.reduceMul, Nat.reducePow, Int.reduceBEq, Int.reduceBNe, Int.reduceMod, E_15, A15, A15_L0_eq, A15_L0b, hv, g0, g1, g2, g3]
        · by_cases g4 : a.hi0 < a.lo0
          · rw [pc_eq]; simp +contextual -implicitDefEqProofs (maxSteps := 2000000) only [go_sem, ↓reduceIte, Nat.reduceAdd, Nat.reduceMul, Nat.reduceSub, Nat.reduceEqDiff, Nat.reduceLeDiff, Nat.reduceDiv, Nat.reduceMod, Nat.reduceBEq, Nat.reduceBNe, reduceCtorEq, Int.reduceLE, Int.reduceLT, Int.reduceToNat, Int.reduceNeg, Nat.reduceLT, Int.reduceEq, Int.reduceSub, Int.reduceAdd, Int.reduceMul, Nat.reducePow, Int.reduceBEq, Int.reduceBNe, Int.reduceMod, E_15, A15, A15_L0_eq, A15_L0b, hv, g0, g1, g2, g3, g4]
          · by_cases g5 : a.l1 < 1
            · rw [pc_eq]; simp +contextual -implicitDefEqProofs (maxSteps := 2000000) only [go_sem, ↓reduceIte, Nat.reduceAdd, Nat.reduceMul, Nat.reduceSub, Nat.reduceEqDiff, Nat.reduceLeDiff, Nat.reduceDiv, Nat.reduceMod, Nat.reduceBEq, Nat.reduceBNe, reduceCtorEq, Int.reduceLE, Int.reduceLT, Int.reduceToNat, Int.reduceNeg, Nat.reduceLT, Int.reduceEq, Int.reduceSub, Int.reduceAdd, Int.reduceMul, Nat.reducePow, Int.reduceBEq, Int.reduceBNe, Int.reduceMod, E_15, A15, A15_L0_eq, A15_L0b, hv, g0, g1, g2, g3, g4, g5]
            · by_cases g6 : 40 < a.l1
              · rw [pc_eq]; simp +contextual -implicitDefEqProofs (maxSteps := 2000000) only [go_sem, ↓reduceIte, Nat.reduceAdd, Nat.reduceMul, Nat.reduceSub, Nat.reduceEqDiff, Nat.reduceLeDiff, Nat.reduceDiv, Nat.reduceMod, Nat.reduceBEq, Nat.reduceBNe, reduceCtorEq, Int.reduceLE, Int.reduceLT, Int.reduceToNat, Int.reduceNeg, Nat.reduceLT, Int.reduceEq, Int.reduceSub, Int.reduceAdd, Int.reduceMul, Nat.reducePow, Int.reduceBEq, Int.reduceBNe, Int.reduceMod, E_15, A15, A15_L0_eq, A15_L0b, hv, g0, g1, g2, g3, g4, g5, g6]
              · by_cases g7 : a.lo1 < -17
                · rw [pc_eq]; simp +contextual -implicitDefEqProofs (maxSteps := 2000000) only [go_sem, ↓reduceIte, Nat.reduceAdd, Nat.reduceMul, Nat.reduceSub, Nat.reduceEqDiff, Nat.reduceLeDiff, Nat.reduceDiv, Nat.reduceMod, Nat.reduceBEq, Nat.reduceBNe, reduceCtorEq, Int.reduceLE, Int.reduceLT, Int.reduceToNat, Int.reduceNeg, Nat.reduceLT, Int.reduceEq, Int.reduceSub, Int.reduceAdd, Int.reduceMul, Nat.reducePow, Int.reduceBEq, Int.reduceBNe, Int.reduceMod, E_15, A15, A15_L0_eq, A15_L0b, hv, g0, g1, g2, g3, g4, g5, g6, g7]
                · by_cases g8 : 18 < a.hi1
                  · rw [pc_eq]; simp +contextual -implicitDefEqProofs (maxSteps := 2000000) only [go_sem, ↓reduceIte, Nat.reduceAdd, Nat.reduceMul, Nat.reduceSub, Nat.reduceEqDiff, Nat.reduceLeDiff, Nat.reduceDiv, Nat.reduceMod, Nat.reduceBEq, Nat.reduceBNe, reduceCtorEq, Int.reduceLE, Int.reduceLT, Int.reduceToNat, Int.reduceNeg, Nat.reduceLT, Int.reduceEq, Int.reduceSub, Int.reduceAdd, Int.reduceMul, Nat.reducePow, Int.reduceBEq, Int.reduceBNe, Int.reduceMod, E_15, A15, A15_L0_eq, A15_L0b, hv, g0, g1, g2, g3, g4, g5, g6, g7, g8]
                  · by_cases g9 : a.hi1 < a.lo1
                    · rw [pc_eq]; simp +contextual -implicitDefEqProofs (maxSteps := 2000000) only [go_sem, ↓reduceIte, Nat.reduceAdd, Nat.reduceMul, Nat.reduceSub, Nat.reduceEqDiff, Nat.reduceLeDiff, Nat.reduceDiv, Nat.reduceMod, Nat.reduceBEq, Nat.reduceBNe, reduceCtorEq, Int.reduceLE, Int.reduceLT, Int.reduceToNat, Int.reduceNeg, Nat.reduceLT, Int.reduceEq, Int.reduceSub, Int.reduceAdd, Int.reduceMul, Nat.reducePow, Int.reduceBEq, Int.reduceBNe, Int.reduceMod, E_15, A15, A15_L0_eq, A15_L0b, hv, g0, g1, g2, g3, g4, g5, g6, g7, g8, g9]
                    · by_cases g10 : a.l2 < 1
                      · rw [pc_eq]; simp +contextual -implicitDefEqProofs (maxSteps := 2000000) only [go_sem, ↓reduceIte, Nat.reduceAdd, Nat.reduceMul, Nat.reduceSub, Nat.reduceEqDiff, Nat.reduceLeDiff, Nat.reduceDiv, Nat.reduceMod, Nat.reduceBEq, Nat.reduceBNe, reduceCtorEq, Int.reduceLE, Int.reduceLT, Int.reduceToNat, Int.reduceNeg, Nat.reduceLT, Int.reduceEq, Int.reduceSub, Int.reduceAdd, Int.reduceMul, Nat.reducePow, Int.reduceBEq, Int.reduceBNe, Int.reduceMod, E_15, A15, A15_L0_eq, A15_L0b, hv, g0, g1, g2, g3, g4, g5, g6, g7, g8, g9, g10]
                      · by_cases g11 : 40 < a.l2
                        · rw [pc_eq]; simp +contextual -implicitDefEqProofs (maxSteps := 2000000) only [go_sem, ↓reduceIte, Nat.reduceAdd, Nat.reduceMul, Nat.reduceSub, Nat.reduceEqDiff, Nat.reduceLeDiff, Nat.reduceDiv, Nat.reduceMod, Nat.reduceBEq, Nat.reduceBNe, reduceCtorEq, Int.reduceLE, Int.reduceLT, Int.reduceToNat, Int.reduceNeg, Nat.reduceLT, Int.reduceEq, Int.reduceSub, Int.reduceAdd, Int.reduceMul, Nat.reducePow, Int.reduceBEq, Int.reduceBNe, Int.reduceMod, E_15, A15, A15_L0_eq, A15_L0b, hv, g0, g1, g2, g3, g4, g5, g6, g7, g8, g9, g10, g11]
                        · by_cases g12 : a.lo2 < -17
                          · rw [pc_eq]; simp +contextual -implicitDefEqProofs (maxSteps := 2000000) only [go_sem, ↓reduceIte, Nat.reduceAdd, Nat.reduceMul, Nat.reduceSub, Nat.reduceEqDiff, Nat.reduceLeDiff, Nat.reduceDiv, Nat.reduceMod, Nat.reduceBEq, Nat.reduceBNe, reduceCtorEq, Int.reduceLE, Int.reduceLT, Int.reduceToNat, Int.reduceNeg, Nat.reduceLT, Int.reduceEq, Int.reduceSub, Int.reduceAdd, Int.reduceMul, Nat.reducePow, Int.reduceBEq, Int.reduceBNe, Int.reduceMod, E_15, A15, A15_L0_eq, A15_L0b, hv, g0, g1, g2, g3, g4, g5, g6, g7, g8, g9, g10, g11, g12]
                          · by_cases g13 : 18 < a.hi2
                            · rw [pc_eq]; simp +contextual -implicitDefEqProofs (maxSteps := 2000000) only [go_sem, ↓reduceIte, Nat.reduceAdd, Nat.reduceMul, Nat.reduceSub, Nat.reduceEqDiff, Nat.reduceLeDiff, Nat.reduceDiv, Nat.reduceMod, Nat.reduceBEq, Nat.reduceBNe, reduceCtorEq, Int.reduceLE, Int.reduceLT, Int.reduceToNat, Int.reduceNeg, Nat.reduceLT, Int.reduceEq, Int.reduceSub, Int.reduceAdd, Int.reduceMul, Nat.reducePow, Int.reduceBEq, Int.reduceBNe, Int.reduceMod, E_15, A15, A15_L0_eq, A15_L0b, hv, g0, g1, g2, g3, g4, g5, g6, g7, g8, g9, g10, g11, g12, g13]
                            · by_cases g14 : a.hi2 < a.lo2
                              · rw [pc_eq]; simp +contextual -implicitDefEqProofs (maxSteps := 2000000) only [go_sem, ↓reduceIte, Nat.reduceAdd, Nat.reduceMul, Nat.reduceSub, Nat.reduceEqDiff, Nat.reduceLeDiff, Nat.reduceDiv, Nat.reduceMod, Nat.reduceBEq, Nat.reduceBNe, reduceCtorEq, Int.reduceLE, Int.reduceLT, Int.reduceToNat, Int.reduceNeg, Nat.reduceLT, Int.reduceEq, Int.reduceSub, Int.reduceAdd, Int.reduceMul, Nat.reducePow, Int.reduceBEq, Int.reduceBNe, Int.reduceMod, E_15, A15, A15_L0_eq, A15_L0b, hv, g0, g1, g2, g3, g4, g5, g6, g7, g8, g9, g10, g11, g12, g13, g14]
                              · by_cases g15 : a.w < 1
                                · rw [pc_eq]; simp +contextual -implicitDefEqProofs (maxSteps := 2000000) only [go_sem, ↓reduceIte, Nat.reduceAdd, Nat.reduceMul, Nat.reduceSub, Nat.reduceEqDiff, Nat.reduceLeDiff, Nat.reduceDiv, Nat.reduceMod, Nat.reduceBEq, Nat.reduceBNe, reduceCtorEq, Int.reduceLE, Int.reduceLT, Int.reduceToNat, Int.reduceNeg, Nat.reduceLT, Int.reduceEq, Int.reduceSub, Int.reduceAdd, Int.reduceMul, Nat.reducePow, Int.reduceBEq, Int.reduceBNe, Int.reduceMod, E_15, A15, A15_L0_eq, A15_L0b, hv, g0, g1, g2, g3, g4, g5, g6, g7, g8, g9, g10, g11, g12, g13, g14, g15]
                                · by_cases g16 : 4 < a.w
                                  · rw [pc_eq]; simp +contextual -implicitDefEqProofs (maxSteps := 2000000) only [go_sem, ↓reduceIte, Nat.reduceAdd, Nat.reduceMul, Nat.reduceSub, Nat.reduceEqDiff, Nat.reduceLeDiff, Nat.reduceDiv, Nat.reduceMod, Nat.reduceBEq, Nat.reduceBNe, reduceCtorEq, Int.reduceLE, Int.reduceLT, Int.reduceToNat, Int.reduceNeg, Nat.reduceLT, Int.reduceEq, Int.reduceSub, Int.reduceAdd, Int.reduceMul, Nat.reducePow, Int.reduceBEq, Int.reduceBNe, Int.reduceMod, E_15, A15, A15_L0_eq, A15_L0b, hv, g0, g1, g2, g3, g4, g5, g6, g7, g8, g9, g10, g11, g12, g13, g14, g15, g16]
                                  · exfalso; exact hp ⟨by omega, by omega, by omega, by omega, by omega, by omega, by omega⟩
end Go.Proofs.Ytnecdcaaknhgpaa

namespace Go.Proofs.Ytnecdcaaknhgpaa
set_option maxRecDepth 100000
set_option maxHeartbeats 4000000
set_option linter.unusedSimpArgs false
set_option linter.unusedVariables false
open Go Go.Zv
def farB (a : Arm) : Bool := decide (1000000000 < a.bx) || (decide (a.bx < -1000000000) || (decide (1000000000 < a.by_) || decide (a.by_ < -1000000000)))
theorem c46 (a : Arm) : pc E 46 [av a] = some (.bool (farB a)) := by
  unfold farB
  by_cases g0 : 1000000000 < a.bx
  · rw [pc_eq]; simp +contextual -implicitDefEqProofs (maxSteps := 2000000) only [go_sem, ↓reduceIte, Nat.reduceAdd, Nat.reduceMul, Nat.reduceSub, Nat.reduceEqDiff, Nat.reduceLeDiff, Nat.reduceDiv, Nat.reduceMod, Nat.reduceBEq, Nat.reduceBNe, reduceCtorEq, Int.reduceLE, Int.reduceLT, Int.reduceToNat, Int.reduceNeg, Nat.reduceLT, Int.reduceEq, Int.reduceSub, Int.reduceAdd, Int.reduceMul, Nat.reducePow, Int.reduceBEq, Int.reduceBNe, Int.reduceMod, E_46, A46, g0]
  · by_cases g1 : a.bx < -1000000000
    · rw [pc_eq]; simp +contextual -implicitDefEqProofs (maxSteps := 2000000) only [go_sem, ↓reduceIte, Nat.reduceAdd, Nat.reduceMul, Nat.reduceSub, Nat.reduceEqDiff, Nat.reduceLeDiff, Nat.reduceDiv, Nat.reduceMod, Nat.reduceBEq, Nat.reduceBNe, reduceCtorEq, Int.reduceLE, Int.reduceLT, Int.reduceToNat, Int.reduceNeg, Nat.reduceLT, Int.reduceEq, Int.reduceSub, Int.reduceAdd, Int.reduceMul, Nat.reducePow, Int.reduceBEq, Int.reduceBNe, Int.reduceMod, E_46, A46, g0, g1]
    · by_cases g2 : 1000000000 < a.by_
      · rw [pc_eq]; simp +contextual -implicitDefEqProofs (maxSteps := 2000000) only [go_sem, ↓reduceIte, Nat.reduceAdd, Nat.reduceMul, Nat.reduceSub, Nat.reduceEqDiff, Nat.reduceLeDiff, Nat.reduceDiv, Nat.reduceMod, Nat.reduceBEq, Nat.reduceBNe, reduceCtorEq, Int.reduceLE, Int.reduceLT, Int.reduceToNat, Int.reduceNeg, Nat.reduceLT, Int.reduceEq, Int.reduceSub, Int.reduceAdd, Int.reduceMul, Nat.reducePow, Int.reduceBEq, Int.reduceBNe, Int.reduceMod, E_46, A46, g0, g1, g2]
      · rw [pc_eq]; simp +contextual -implicitDefEqProofs (maxSteps := 2000000) only [go_sem, ↓reduceIte, Nat.reduceAdd, Nat.reduceMul, Nat.reduceSub, Nat.reduceEqDiff, Nat.reduceLeDiff, Nat.reduceDiv, Nat.reduceMod, Nat.reduceBEq, Nat.reduceBNe, reduceCtorEq, Int.reduceLE, Int.reduceLT, Int.reduceToNat, Int.reduceNeg, Nat.reduceLT, Int.reduceEq, Int.reduceSub, Int.reduceAdd, Int.reduceMul, Nat.reducePow, Int.reduceBEq, Int.reduceBNe, Int.reduceMod, E_46, A46, g0, g1, g2]
def ab (n : Int) : Int := if n < 0 then -n else n
theorem c47 (n : Int) (h : -2000000000 ≤ n ∧ n ≤ 2000000000) : pc E 47 [.int .i64 n] = some (.int .i64 (ab n)) := by
  have w : IntKind.i64.wrap (0 - n) = -n := by rw [wrap_small (by omega) (by omega)]; omega
  unfold ab
  by_cases h : n < 0
  · rw [pc_eq]; simp +contextual -implicitDefEqProofs (maxSteps := 2000000) only [go_sem, ↓reduceIte, Nat.reduceAdd, Nat.reduceMul, Nat.reduceSub, Nat.reduceEqDiff, Nat.reduceLeDiff, Nat.reduceDiv, Nat.reduceMod, Nat.reduceBEq, Nat.reduceBNe, reduceCtorEq, Int.reduceLE, Int.reduceLT, Int.reduceToNat, Int.reduceNeg, Nat.reduceLT, Int.reduceEq, Int.reduceSub, Int.reduceAdd, Int.reduceMul, Nat.reducePow, Int.reduceBEq, Int.reduceBNe, Int.reduceMod, E_47, A47, h, w]
  · rw [pc_eq]; simp +contextual -implicitDefEqProofs (maxSteps := 2000000) only [go_sem, ↓reduceIte, Nat.reduceAdd, Nat.reduceMul, Nat.reduceSub, Nat.reduceEqDiff, Nat.reduceLeDiff, Nat.reduceDiv, Nat.reduceMod, Nat.reduceBEq, Nat.reduceBNe, reduceCtorEq, Int.reduceLE, Int.reduceLT, Int.reduceToNat, Int.reduceNeg, Nat.reduceLT, Int.reduceEq, Int.reduceSub, Int.reduceAdd, Int.reduceMul, Nat.reducePow, Int.reduceBEq, Int.reduceBNe, Int.reduceMod, E_47, A47, h]
theorem ok_inv2 {a : Arm} (h : OKa a) : farB a = false ∧ ab a.bx + (a.w + a.l0 + a.l1 + a.l2) * 4394000 ≤ 439400000 ∧ ab a.by_ + (a.w + a.l0 + a.l1 + a.l2) * 4394000 ≤ 439400000 := by
  obtain ⟨k1, k2, k3, k4, k5, k6, k7, k8, k9, _, _⟩ := h
  refine ⟨?_, ?_, ?_⟩
  · unfold farB; simp only [Bool.or_eq_false_iff, decide_eq_false_iff_not]; omega
  · unfold ab; split <;> omega
  · unfold ab; split <;> omega
theorem ok_of2 {a : Arm} (h : Pre a) (mx : a.bx.tmod 16 = 0) (my : a.by_.tmod 16 = 0) (h1 : ab a.bx + (a.w + a.l0 + a.l1 + a.l2) * 4394000 ≤ 439400000) (h2 : ab a.by_ + (a.w + a.l0 + a.l1 + a.l2) * 4394000 ≤ 439400000) : OKa a := by
  unfold ab at h1 h2
  exact ⟨h.l0, h.l1, h.l2, h.w, h.j0, h.j1, h.j2, by split at h1 <;> omega, by split at h2 <;> omega, mx, my⟩
theorem c16p (a : Arm) (h : Pre a) (hf : farB a = false) (mx : a.bx.tmod 16 = 0) (my : a.by_.tmod 16 = 0) : pc E 16 [av a] = some (.bool (okB a)) := by
  have hf2 := hf
  unfold farB at hf2
  simp only [Bool.or_eq_false_iff, decide_eq_false_iff_not] at hf2
  have h46 := c46 a
  rw [hf] at h46
  have hx := c47 a.bx (by omega)
  have hy := c47 a.by_ (by omega)
  have bx : 0 ≤ ab a.bx ∧ ab a.bx ≤ 1000000000 := by unfold ab; split <;> omega
  have by_ : 0 ≤ ab a.by_ ∧ ab a.by_ ≤ 1000000000 := by unfold ab; split <;> omega
  obtain ⟨l0, l1, l2, w, j0, j1, j2⟩ := h
  have p : Pre a := ⟨l0, l1, l2, w, j0, j1, j2⟩
  have g0 : ¬ a.l0 < 1 := by omega
  have g1 : ¬ 40 < a.l0 := by omega
  have g2 : ¬ a.lo0 < -17 := by omega
  have g2' : ¬ 18 < a.lo0 := by omega
  have g3 : ¬ 18 < a.hi0 := by omega
  have g3' : ¬ a.hi0 < -17 := by omega
  have g4 : ¬ a.hi0 < a.lo0 := by omega
  have g5 : ¬ a.l1 < 1 := by omega
  have g6 : ¬ 40 < a.l1 := by omega
  have g7 : ¬ a.lo1 < -17 := by omega
  have g7' : ¬ 18 < a.lo1 := by omega
  have g8 : ¬ 18 < a.hi1 := by omega
  have g8' : ¬ a.hi1 < -17 := by omega
  have g9 : ¬ a.hi1 < a.lo1 := by omega
  have g10 : ¬ a.l2 < 1 := by omega
  have g11 : ¬ 40 < a.l2 := by omega
  have g12 : ¬ a.lo2 < -17 := by omega
  have g12' : ¬ 18 < a.lo2 := by omega
  have g13 : ¬ 18 < a.hi2 := by omega
  have g13' : ¬ a.hi2 < -17 := by omega
  have g14 : ¬ a.hi2 < a.lo2 := by omega
  have g15 : ¬ a.w < 1 := by omega
  have g16 : ¬ 4 < a.w := by omega
  have w1 : IntKind.i64.wrap (a.w + a.l0) = a.w + a.l0 := wrap_small (by omega) (by omega)
  have w2 : IntKind.i64.wrap (a.w + a.l0 + a.l1) = a.w + a.l0 + a.l1 := wrap_small (by omega) (by omega)
  have w3 : IntKind.i64.wrap (a.w + a.l0 + a.l1 + a.l2) = a.w + a.l0 + a.l1 + a.l2 := wrap_small (by omega) (by omega)
  have w4 : IntKind.i64.wrap ((a.w + a.l0 + a.l1 + a.l2) * 4394000) = (a.w + a.l0 + a.l1 + a.l2) * 4394000 := wrap_small (by omega) (by omega)
  have w5 : IntKind.i64.wrap (ab a.bx + (a.w + a.l0 + a.l1 + a.l2) * 4394000) = ab a.bx + (a.w + a.l0 + a.l1 + a.l2) * 4394000 := wrap_small (by omega) (by omega)
  have w6 : IntKind.i64.wrap (ab a.by_ + (a.w + a.l0 + a.l1 + a.l2) * 4394000) = ab a.by_ + (a.w + a.l0 + a.l1 + a.l2) * 4394000 := wrap_small (by omega) (by omega)
  by_cases h1 : ab a.bx + (a.w + a.l0 + a.l1 + a.l2) * 4394000 ≤ 439400000
  · by_cases h2 : ab a.by_ + (a.w + a.l0 + a.l1 + a.l2) * 4394000 ≤ 439400000
    · have hv := okT (ok_of2 p mx my h1 h2)
      rw [pc_eq]; simp +contextual -implicitDefEqProofs (maxSteps := 2000000) only [go_sem, ↓reduceIte, Nat.reduceAdd, Nat.reduceMul, Nat.reduceSub, Nat.reduceEqDiff, Nat.reduceLeDiff, Nat.reduceDiv, Nat.reduceMod, Nat.reduceBEq, Nat.reduceBNe, reduceCtorEq, Int.reduceLE, Int.reduceLT, Int.reduceToNat, Int.reduceNeg, Nat.reduceLT, Int.reduceEq, Int.reduceSub, Int.reduceAdd, Int.reduceMul, Nat.reducePow, Int.reduceBEq, Int.reduceBNe, Int.reduceMod, E_16, A16, A16_L0_eq, A16_L0b, hv, h46, hx, hy, g0, g1, g2, g2', g3, g3', g4, g5, g6, g7, g7', g8, g8', g9, g10, g11, g12, g12', g13, g13', g14, g15, g16, w1, w2, w3, w4, w5, w6, mx, my, h1, h2, bne_self_eq_false]
    · have hv := okF (fun h => h2 (ok_inv2 h).2.2)
      rw [pc_eq]; simp +contextual -implicitDefEqProofs (maxSteps := 2000000) only [go_sem, ↓reduceIte, Nat.reduceAdd, Nat.reduceMul, Nat.reduceSub, Nat.reduceEqDiff, Nat.reduceLeDiff, Nat.reduceDiv, Nat.reduceMod, Nat.reduceBEq, Nat.reduceBNe, reduceCtorEq, Int.reduceLE, Int.reduceLT, Int.reduceToNat, Int.reduceNeg, Nat.reduceLT, Int.reduceEq, Int.reduceSub, Int.reduceAdd, Int.reduceMul, Nat.reducePow, Int.reduceBEq, Int.reduceBNe, Int.reduceMod, E_16, A16, A16_L0_eq, A16_L0b, hv, h46, hx, hy, g0, g1, g2, g2', g3, g3', g4, g5, g6, g7, g7', g8, g8', g9, g10, g11, g12, g12', g13, g13', g14, g15, g16, w1, w2, w3, w4, w5, w6, mx, my, h1, h2, bne_self_eq_false]
  · have hv := okF (fun h => h1 (ok_inv2 h).2.1)
    rw [pc_eq]; simp +contextual -implicitDefEqProofs (maxSteps := 2000000) only [go_sem, ↓reduceIte, Nat.reduceAdd, Nat.reduceMul, Nat.reduceSub, Nat.reduceEqDiff, Nat.reduceLeDiff, Nat.reduceDiv, Nat.reduceMod, Nat.reduceBEq, Nat.reduceBNe, reduceCtorEq, Int.reduceLE, Int.reduceLT, Int.reduceToNat, Int.reduceNeg, Nat.reduceLT, Int.reduceEq, Int.reduceSub, Int.reduceAdd, Int.reduceMul, Nat.reducePow, Int.reduceBEq, Int.reduceBNe, Int.reduceMod, E_16, A16, A16_L0_eq, A16_L0b, hv, h46, hx, hy, g0, g1, g2, g2', g3, g3', g4, g5, g6, g7, g7', g8, g8', g9, g10, g11, g12, g12', g13, g13', g14, g15, g16, w1, w2, w3, w4, w5, w6, mx, my, h1, bne_self_eq_false]
theorem c16 (a : Arm) : pc E 16 [av a] = some (.bool (okB a)) := by
  have h46 := c46 a
  cases hf : farB a with
  | true =>
    have hv := okF (fun h => by have := (ok_inv2 h).1; rw [hf] at this; cases this)
    rw [hf] at h46
    rw [pc_eq]; simp +contextual -implicitDefEqProofs (maxSteps := 2000000) only [go_sem, ↓reduceIte, Nat.reduceAdd, Nat.reduceMul, Nat.reduceSub, Nat.reduceEqDiff, Nat.reduceLeDiff, Nat.reduceDiv, Nat.reduceMod, Nat.reduceBEq, Nat.reduceBNe, reduceCtorEq, Int.reduceLE, Int.reduceLT, Int.reduceToNat, Int.reduceNeg, Nat.reduceLT, Int.reduceEq, Int.reduceSub, Int.reduceAdd, Int.reduceMul, Nat.reducePow, Int.reduceBEq, Int.reduceBNe, Int.reduceMod, E_16, A16, hv, h46]
  | false =>
    rw [hf] at h46
    by_cases mx : a.bx.tmod 16 = 0
    · by_cases my : a.by_.tmod 16 = 0
      · by_cases hp : Pre a
        · exact c16p a hp hf mx my
        · have hv : okB a = false := okF (fun h => hp ⟨h.l0, h.l1, h.l2, h.w, h.j0, h.j1, h.j2⟩)
          by_cases g15 : a.w < 1
          · rw [pc_eq]; simp +contextual -implicitDefEqProofs (maxSteps := 2000000) only [go_sem, ↓reduceIte, Nat.reduceAdd, Nat.reduceMul, Nat.reduceSub, Nat.reduceEqDiff, Nat.reduceLeDiff, Nat.reduceDiv, Nat.reduceMod, Nat.reduceBEq, Nat.reduceBNe, reduceCtorEq, Int.reduceLE, Int.reduceLT, Int.reduceToNat, Int.reduceNeg, Nat.reduceLT, Int.reduceEq, Int.reduceSub, Int.reduceAdd, Int.reduceMul, Nat.reducePow, Int.reduceBEq, Int.reduceBNe, Int.reduceMod, E_16, A16, A16_L0_eq, A16_L0b, hv, h46, mx, my, bne_self_eq_false, g15]
          · by_cases g16 : 4 < a.w
            · rw [pc_eq]; simp +contextual -implicitDefEqProofs (maxSteps := 2000000) only [go_sem, ↓reduceIte, Nat.reduceAdd, Nat.reduceMul, Nat.reduceSub, Nat.reduceEqDiff, Nat.reduceLeDiff, Nat.reduceDiv, Nat.reduceMod, Nat.reduceBEq, Nat.reduceBNe, reduceCtorEq, Int.reduceLE, Int.reduceLT, Int.reduceToNat, Int.reduceNeg, Nat.reduceLT, Int.reduceEq, Int.reduceSub, Int.reduceAdd, Int.reduceMul, Nat.reducePow, Int.reduceBEq, Int.reduceBNe, Int.reduceMod, E_16, A16, A16_L0_eq, A16_L0b, hv, h46, mx, my, bne_self_eq_false, g15, g16]
            · by_cases g0 : a.l0 < 1
              · rw [pc_eq]; simp +contextual -implicitDefEqProofs (maxSteps := 2000000) only [go_sem, ↓reduceIte, Nat.reduceAdd, Nat.reduceMul, Nat.reduceSub, Nat.reduceEqDiff, Nat.reduceLeDiff, Nat.reduceDiv, Nat.reduceMod, Nat.reduceBEq, Nat.reduceBNe, reduceCtorEq, Int.reduceLE, Int.reduceLT, Int.reduceToNat, Int.reduceNeg, Nat.reduceLT, Int.reduceEq, Int.reduceSub, Int.reduceAdd, Int.reduceMul, Nat.reducePow, Int.reduceBEq, Int.reduceBNe, Int.reduceMod, E_16, A16, A16_L0_eq, A16_L0b, hv, h46, mx, my, bne_self_eq_false, g15, g16, g0]
              · by_cases g1 : 40 < a.l0
                · rw [pc_eq]; simp +contextual -implicitDefEqProofs (maxSteps := 2000000) only [go_sem, ↓reduceIte, Nat.reduceAdd, Nat.reduceMul, Nat.reduceSub, Nat.reduceEqDiff, Nat.reduceLeDiff, Nat.reduceDiv, Nat.reduceMod, Nat.reduceBEq, Nat.reduceBNe, reduceCtorEq, Int.reduceLE, Int.reduceLT, Int.reduceToNat, Int.reduceNeg, Nat.reduceLT, Int.reduceEq, Int.reduceSub, Int.reduceAdd, Int.reduceMul, Nat.reducePow, Int.reduceBEq, Int.reduceBNe, Int.reduceMod, E_16, A16, A16_L0_eq, A16_L0b, hv, h46, mx, my, bne_self_eq_false, g15, g16, g0, g1]
                · by_cases g2 : a.lo0 < -17
                  · rw [pc_eq]; simp +contextual -implicitDefEqProofs (maxSteps := 2000000) only [go_sem, ↓reduceIte, Nat.reduceAdd, Nat.reduceMul, Nat.reduceSub, Nat.reduceEqDiff, Nat.reduceLeDiff, Nat.reduceDiv, Nat.reduceMod, Nat.reduceBEq, Nat.reduceBNe, reduceCtorEq, Int.reduceLE, Int.reduceLT, Int.reduceToNat, Int.reduceNeg, Nat.reduceLT, Int.reduceEq, Int.reduceSub, Int.reduceAdd, Int.reduceMul, Nat.reducePow, Int.reduceBEq, Int.reduceBNe, Int.reduceMod, E_16, A16, A16_L0_eq, A16_L0b, hv, h46, mx, my, bne_self_eq_false, g15, g16, g0, g1, g2]
                  · by_cases g2' : 18 < a.lo0
                    · rw [pc_eq]; simp +contextual -implicitDefEqProofs (maxSteps := 2000000) only [go_sem, ↓reduceIte, Nat.reduceAdd, Nat.reduceMul, Nat.reduceSub, Nat.reduceEqDiff, Nat.reduceLeDiff, Nat.reduceDiv, Nat.reduceMod, Nat.reduceBEq, Nat.reduceBNe, reduceCtorEq, Int.reduceLE, Int.reduceLT, Int.reduceToNat, Int.reduceNeg, Nat.reduceLT, Int.reduceEq, Int.reduceSub, Int.reduceAdd, Int.reduceMul, Nat.reducePow, Int.reduceBEq, Int.reduceBNe, Int.reduceMod, E_16, A16, A16_L0_eq, A16_L0b, hv, h46, mx, my, bne_self_eq_false, g15, g16, g0, g1, g2, g2']
                    · by_cases g3' : a.hi0 < -17
                      · rw [pc_eq]; simp +contextual -implicitDefEqProofs (maxSteps := 2000000) only [go_sem, ↓reduceIte, Nat.reduceAdd, Nat.reduceMul, Nat.reduceSub, Nat.reduceEqDiff, Nat.reduceLeDiff, Nat.reduceDiv, Nat.reduceMod, Nat.reduceBEq, Nat.reduceBNe, reduceCtorEq, Int.reduceLE, Int.reduceLT, Int.reduceToNat, Int.reduceNeg, Nat.reduceLT, Int.reduceEq, Int.reduceSub, Int.reduceAdd, Int.reduceMul, Nat.reducePow, Int.reduceBEq, Int.reduceBNe, Int.reduceMod, E_16, A16, A16_L0_eq, A16_L0b, hv, h46, mx, my, bne_self_eq_false, g15, g16, g0, g1, g2, g2', g3']
                      · by_cases g3 : 18 < a.hi0
                        · rw [pc_eq]; simp +contextual -implicitDefEqProofs (maxSteps := 2000000) only [go_sem, ↓reduceIte, Nat.reduceAdd, Nat.reduceMul, Nat.reduceSub, Nat.reduceEqDiff, Nat.reduceLeDiff, Nat.reduceDiv, Nat.reduceMod, Nat.reduceBEq, Nat.reduceBNe, reduceCtorEq, Int.reduceLE, Int.reduceLT, Int.reduceToNat, Int.reduceNeg, Nat.reduceLT, Int.reduceEq, Int.reduceSub, Int.reduceAdd, Int.reduceMul, Nat.reducePow, Int.reduceBEq, Int.reduceBNe, Int.reduceMod, E_16, A16, A16_L0_eq, A16_L0b, hv, h46, mx, my, bne_self_eq_false, g15, g16, g0, g1, g2, g2', g3', g3]
                        · by_cases g4 : a.hi0 < a.lo0
                          · rw [pc_eq]; simp +contextual -implicitDefEqProofs (maxSteps := 2000000) only [go_sem, ↓reduceIte, Nat.reduceAdd, Nat.reduceMul, Nat.reduceSub, Nat.reduceEqDiff, Nat.reduceLeDiff, Nat.reduceDiv, Nat.reduceMod, Nat.reduceBEq, Nat.reduceBNe, reduceCtorEq, Int.reduceLE, Int.reduceLT, Int.reduceToNat, Int.reduceNeg, Nat.reduceLT, Int.reduceEq, Int.reduceSub, Int.reduceAdd, Int.reduceMul, Nat.reducePow, Int.reduceBEq, Int.reduceBNe, Int.reduceMod, E_16, A16, A16_L0_eq, A16_L0b, hv, h46, mx, my, bne_self_eq_false, g15, g16, g0, g1, g2, g2', g3', g3, g4]
                          · by_cases g5 : a.l1 < 1
                            · rw [pc_eq]; simp +contextual -implicitDefEqProofs (maxSteps := 2000000) only [go_sem, ↓reduceIte, Nat.reduceAdd, Nat.reduceMul, Nat.reduceSub, Nat.reduceEqDiff, Nat.reduceLeDiff, Nat.reduceDiv, Nat.reduceMod, Nat.reduceBEq, Nat.reduceBNe, reduceCtorEq, Int.reduceLE, Int.reduceLT, Int.reduceToNat, Int.reduceNeg, Nat.reduceLT, Int.reduceEq, Int.reduceSub, Int.reduceAdd, Int.reduceMul, Nat.reducePow, Int.reduceBEq, Int.reduceBNe, Int.reduceMod, E_16, A16, A16_L0_eq, A16_L0b, hv, h46, mx, my, bne_self_eq_false, g15, g16, g0, g1, g2, g2', g3', g3, g4, g5]
                            · by_cases g6 : 40 < a.l1
                              · rw [pc_eq]; simp +contextual -implicitDefEqProofs (maxSteps := 2000000) only [go_sem, ↓reduceIte, Nat.reduceAdd, Nat.reduceMul, Nat.reduceSub, Nat.reduceEqDiff, Nat.reduceLeDiff, Nat.reduceDiv, Nat.reduceMod, Nat.reduceBEq, Nat.reduceBNe, reduceCtorEq, Int.reduceLE, Int.reduceLT, Int.reduceToNat, Int.reduceNeg, Nat.reduceLT, Int.reduceEq, Int.reduceSub, Int.reduceAdd, Int.reduceMul, Nat.reducePow, Int.reduceBEq, Int.reduceBNe, Int.reduceMod, E_16, A16, A16_L0_eq, A16_L0b, hv, h46, mx, my, bne_self_eq_false, g15, g16, g0, g1, g2, g2', g3', g3, g4, g5, g6]
                              · by_cases g7 : a.lo1 < -17
                                · rw [pc_eq]; simp +contextual -implicitDefEqProofs (maxSteps := 2000000) only [go_sem, ↓reduceIte, Nat.reduceAdd, Nat.reduceMul, Nat.reduceSub, Nat.reduceEqDiff, Nat.reduceLeDiff, Nat.reduceDiv, Nat.reduceMod, Nat.reduceBEq, Nat.reduceBNe, reduceCtorEq, Int.reduceLE, Int.reduceLT, Int.reduceToNat, Int.reduceNeg, Nat.reduceLT, Int.reduceEq, Int.reduceSub, Int.reduceAdd, Int.reduceMul, Nat.reducePow, Int.reduceBEq, Int.reduceBNe, Int.reduceMod, E_16, A16, A16_L0_eq, A16_L0b, hv, h46, mx, my, bne_self_eq_false, g15, g16, g0, g1, g2, g2', g3', g3, g4, g5, g6, g7]
                                · by_cases g7' : 18 < a.lo1
                                  · rw [pc_eq]; simp +contextual -implicitDefEqProofs (maxSteps := 2000000) only [go_sem, ↓reduceIte, Nat.reduceAdd, Nat.reduceMul, Nat.reduceSub, Nat.reduceEqDiff, Nat.reduceLeDiff, Nat.reduceDiv, Nat.reduceMod, Nat.reduceBEq, Nat.reduceBNe, reduceCtorEq, Int.reduceLE, Int.reduceLT, Int.reduceToNat, Int.reduceNeg, Nat.reduceLT, Int.reduceEq, Int.reduceSub, Int.reduceAdd, Int.reduceMul, Nat.reducePow, Int.reduceBEq, Int.reduceBNe, Int.reduceMod, E_16, A16, A16_L0_eq, A16_L0b, hv, h46, mx, my, bne_self_eq_false, g15, g16, g0, g1, g2, g2', g3', g3, g4, g5, g6, g7, g7']
                                  · by_cases g8' : a.hi1 < -17
                                    · rw [pc_eq]; simp +contextual -implicitDefEqProofs (maxSteps := 2000000) only [go_sem, ↓reduceIte, Nat.reduceAdd, Nat.reduceMul, Nat.reduceSub, Nat.reduceEqDiff, Nat.reduceLeDiff, Nat.reduceDiv, Nat.reduceMod, Nat.reduceBEq, Nat.reduceBNe, reduceCtorEq, Int.reduceLE, Int.reduceLT, Int.reduceToNat, Int.reduceNeg, Nat.reduceLT, Int.reduceEq, Int.reduceSub, Int.reduceAdd, Int.reduceMul, Nat.reducePow, Int.reduceBEq, Int.reduceBNe, Int.reduceMod, E_16, A16, A16_L0_eq, A16_L0b, hv, h46, mx, my, bne_self_eq_false, g15, g16, g0, g1, g2, g2', g3', g3, g4, g5, g6, g7, g7', g8']
                                    · by_cases g8 : 18 < a.hi1
                                      · rw [pc_eq]; simp +contextual -implicitDefEqProofs (maxSteps := 2000000) only [go_sem, ↓reduceIte, Nat.reduceAdd, Nat.reduceMul, Nat.reduceSub, Nat.reduceEqDiff, Nat.reduceLeDiff, Nat.reduceDiv, Nat.reduceMod, Nat.reduceBEq, Nat.reduceBNe, reduceCtorEq, Int.reduceLE, Int.reduceLT, Int.reduceToNat, Int.reduceNeg, Nat.reduceLT, Int.reduceEq, Int.reduceSub, Int.reduceAdd, Int.reduceMul, Nat.reducePow, Int.reduceBEq, Int.reduceBNe, Int.reduceMod, E_16, A16, A16_L0_eq, A16_L0b, hv, h46, mx, my, bne_self_eq_false, g15, g16, g0, g1, g2, g2', g3', g3, g4, g5, g6, g7, g7', g8', g8]
                                      · by_cases g9 : a.hi1 < a.lo1
                                        · rw [pc_eq]; simp +contextual -implicitDefEqProofs (maxSteps := 2000000) only [go_sem, ↓reduceIte, Nat.reduceAdd, Nat.reduceMul, Nat.reduceSub, Nat.reduceEqDiff, Nat.reduceLeDiff, Nat.reduceDiv, Nat.reduceMod, Nat.reduceBEq, Nat.reduceBNe, reduceCtorEq, Int.reduceLE, Int.reduceLT, Int.reduceToNat, Int.reduceNeg, Nat.reduceLT, Int.reduceEq, Int.reduceSub, Int.reduceAdd, Int.reduceMul, Nat.reducePow, Int.reduceBEq, Int.reduceBNe, Int.reduceMod, E_16, A16, A16_L0_eq, A16_L0b, hv, h46, mx, my, bne_self_eq_false, g15, g16, g0, g1, g2, g2', g3', g3, g4, g5, g6, g7, g7', g8', g8, g9]
                                        · by_cases g10 : a.l2 < 1
                                          · rw [pc_eq]; simp +contextual -implicitDefEqProofs (maxSteps := 2000000) only [go_sem, ↓reduceIte, Nat.reduceAdd, Nat.reduceMul, Nat.reduceSub, Nat.reduceEqDiff, Nat.reduceLeDiff, Nat.reduceDiv, Nat.reduceMod, Nat.reduceBEq, Nat.reduceBNe, reduceCtorEq, Int.reduceLE, Int.reduceLT, Int.reduceToNat, Int.reduceNeg, Nat.reduceLT, Int.reduceEq, Int.reduceSub, Int.reduceAdd, Int.reduceMul, Nat.reducePow, Int.reduceBEq, Int.reduceBNe, Int.reduceMod, E_16, A16, A16_L0_eq, A16_L0b, hv, h46, mx, my, bne_self_eq_false, g15, g16, g0, g1, g2, g2', g3', g3, g4, g5, g6, g7, g7', g8', g8, g9, g10]
                                          · by_cases g11 : 40 < a.l2
                                            · rw [pc_eq]; simp +contextual -implicitDefEqProofs (maxSteps := 2000000) only [go_sem, ↓reduceIte, Nat.reduceAdd, Nat.reduceMul, Nat.reduceSub, Nat.reduceEqDiff, Nat.reduceLeDiff, Nat.reduceDiv, Nat.reduceMod, Nat.reduceBEq, Nat.reduceBNe, reduceCtorEq, Int.reduceLE, Int.reduceLT, Int.reduceToNat, Int.reduceNeg, Nat.reduceLT, Int.reduceEq, Int.reduceSub, Int.reduceAdd, Int.reduceMul, Nat.reducePow, Int.reduceBEq, Int.reduceBNe, Int.reduceMod, E_16, A16, A16_L0_eq, A16_L0b, hv, h46, mx, my, bne_self_eq_false, g15, g16, g0, g1, g2, g2', g3', g3, g4, g5, g6, g7, g7', g8', g8, g9, g10, g11]
                                            · by_cases g12 : a.lo2 < -17
                                              · rw [pc_eq]; simp +contextual -implicitDefEqProofs (maxSteps := 2000000) only [go_sem, ↓reduceIte, Nat.reduceAdd, Nat.reduceMul, Nat.reduceSub, Nat.reduceEqDiff, Nat.reduceLeDiff, Nat.reduceDiv, Nat.reduceMod, Nat.reduceBEq, Nat.reduceBNe, reduceCtorEq, Int.reduceLE, Int.reduceLT, Int.reduceToNat, Int.reduceNeg, Nat.reduceLT, Int.reduceEq, Int.reduceSub, Int.reduceAdd, Int.reduceMul, Nat.reducePow, Int.reduceBEq, Int.reduceBNe, Int.reduceMod, E_16, A16, A16_L0_eq, A16_L0b, hv, h46, mx, my, bne_self_eq_false, g15, g16, g0, g1, g2, g2', g3', g3, g4, g5, g6, g7, g7', g8', g8, g9, g10, g11, g12]
                                              · by_cases g12' : 18 < a.lo2
                                                · rw [pc_eq]; simp +contextual -implicitDefEqProofs (maxSteps := 2000000) only [go_sem, ↓reduceIte, Nat.reduceAdd, Nat.reduceMul, Nat.reduceSub, Nat.reduceEqDiff, Nat.reduceLeDiff, Nat.reduceDiv, Nat.reduceMod, Nat.reduceBEq, Nat.reduceBNe, reduceCtorEq, Int.reduceLE, Int.reduceLT, Int.reduceToNat, Int.reduceNeg, Nat.reduceLT, Int.reduceEq, Int.reduceSub, Int.reduceAdd, Int.reduceMul, Nat.reducePow, Int.reduceBEq, Int.reduceBNe, Int.reduceMod, E_16, A16, A16_L0_eq, A16_L0b, hv, h46, mx, my, bne_self_eq_false, g15, g16, g0, g1, g2, g2', g3', g3, g4, g5, g6, g7, g7', g8', g8, g9, g10, g11, g12, g12']
                                                · by_cases g13' : a.hi2 < -17
                                                  · rw [pc_eq]; simp +contextual -implicitDefEqProofs (maxSteps := 2000000) only [go_sem, ↓reduceIte, Nat.reduceAdd, Nat.reduceMul, Nat.reduceSub, Nat.reduceEqDiff, Nat.reduceLeDiff, Nat.reduceDiv, Nat.reduceMod, Nat.reduceBEq, Nat.reduceBNe, reduceCtorEq, Int.reduceLE, Int.reduceLT, Int.reduceToNat, Int.reduceNeg, Nat.reduceLT, Int.reduceEq, Int.reduceSub, Int.reduceAdd, Int.reduceMul, Nat.reducePow, Int.reduceBEq, Int.reduceBNe, Int.reduceMod, E_16, A16, A16_L0_eq, A16_L0b, hv, h46, mx, my, bne_self_eq_false, g15, g16, g0, g1, g2, g2', g3', g3, g4, g5, g6, g7, g7', g8', g8, g9, g10, g11, g12, g12', g13']
                                                  · by_cases g13 : 18 < a.hi2
                                                    · rw [pc_eq]; simp +contextual -implicitDefEqProofs (maxSteps := 2000000) only [go_sem, ↓reduceIte, Nat.reduceAdd, Nat.reduceMul, Nat.reduceSub, Nat.reduceEqDiff, Nat.reduceLeDiff, Nat.reduceDiv, Nat.reduceMod, Nat.reduceBEq, Nat.reduceBNe, reduceCtorEq, Int.reduceLE, Int.reduceLT, Int.reduceToNat, Int.reduceNeg, Nat.reduceLT, Int.reduceEq, Int.reduceSub, Int.reduceAdd, Int.reduceMul, Nat.reducePow, Int.reduceBEq, Int.reduceBNe, Int.reduceMod, E_16, A16, A16_L0_eq, A16_L0b, hv, h46, mx, my, bne_self_eq_false, g15, g16, g0, g1, g2, g2', g3', g3, g4, g5, g6, g7, g7', g8', g8, g9, g10, g11, g12, g12', g13', g13]
                                                    · by_cases g14 : a.hi2 < a.lo2
                                                      · rw [pc_eq]; simp +contextual -implicitDefEqProofs (maxSteps := 2000000) only [go_sem, ↓reduceIte, Nat.reduceAdd, Nat.reduceMul, Nat.reduceSub, Nat.reduceEqDiff, Nat.reduceLeDiff, Nat.reduceDiv, Nat.reduceMod, Nat.reduceBEq, Nat.reduceBNe, reduceCtorEq, Int.reduceLE, Int.reduceLT, Int.reduceToNat, Int.reduceNeg, Nat.reduceLT, Int.reduceEq, Int.reduceSub, Int.reduceAdd, Int.reduceMul, Nat.reducePow, Int.reduceBEq, Int.reduceBNe, Int.reduceMod, E_16, A16, A16_L0_eq, A16_L0b, hv, h46, mx, my, bne_self_eq_false, g15, g16, g0, g1, g2, g2', g3', g3, g4, g5, g6, g7, g7', g8', g8, g9, g10, g11, g12, g12', g13', g13, g14]
                                                      · exfalso; exact hp ⟨by omega, by omega, by omega, by omega, by omega, by omega, by omega⟩
      · have hv := okF (fun h => my (ok_inv h).1.2)
        have my' : (a.by_.tmod 16 != 0) = true := by simpa using my
        by_cases g15 : a.w < 1
        · rw [pc_eq]; simp +contextual -implicitDefEqProofs (maxSteps := 2000000) only [go_sem, ↓reduceIte, Nat.reduceAdd, Nat.reduceMul, Nat.reduceSub, Nat.reduceEqDiff, Nat.reduceLeDiff, Nat.reduceDiv, Nat.reduceMod, Nat.reduceBEq, Nat.reduceBNe, reduceCtorEq, Int.reduceLE, Int.reduceLT, Int.reduceToNat, Int.reduceNeg, Nat.reduceLT, Int.reduceEq, Int.reduceSub, Int.reduceAdd, Int.reduceMul, Nat.reducePow, Int.reduceBEq, Int.reduceBNe, Int.reduceMod, E_16, A16, hv, h46, mx, my, my', bne_self_eq_false, g15]
        · by_cases g16 : 4 < a.w
          · rw [pc_eq]; simp +contextual -implicitDefEqProofs (maxSteps := 2000000) only [go_sem, ↓reduceIte, Nat.reduceAdd, Nat.reduceMul, Nat.reduceSub, Nat.reduceEqDiff, Nat.reduceLeDiff, Nat.reduceDiv, Nat.reduceMod, Nat.reduceBEq, Nat.reduceBNe, reduceCtorEq, Int.reduceLE, Int.reduceLT, Int.reduceToNat, Int.reduceNeg, Nat.reduceLT, Int.reduceEq, Int.reduceSub, Int.reduceAdd, Int.reduceMul, Nat.reducePow, Int.reduceBEq, Int.reduceBNe, Int.reduceMod, E_16, A16, hv, h46, mx, my, my', bne_self_eq_false, g15, g16]
          · rw [pc_eq]; simp +contextual -implicitDefEqProofs (maxSteps := 2000000) only [go_sem, ↓reduceIte, Nat.reduceAdd, Nat.reduceMul, Nat.reduceSub, Nat.reduceEqDiff, Nat.reduceLeDiff, Nat.reduceDiv, Nat.reduceMod, Nat.reduceBEq, Nat.reduceBNe, reduceCtorEq, Int.reduceLE, Int.reduceLT, Int.reduceToNat, Int.reduceNeg, Nat.reduceLT, Int.reduceEq, Int.reduceSub, Int.reduceAdd, Int.reduceMul, Nat.reducePow, Int.reduceBEq, Int.reduceBNe, Int.reduceMod, E_16, A16, hv, h46, mx, my, my', bne_self_eq_false, g15, g16]
    · have hv := okF (fun h => mx (ok_inv h).1.1)
      have mx' : (a.bx.tmod 16 != 0) = true := by simpa using mx
      by_cases g15 : a.w < 1
      · rw [pc_eq]; simp +contextual -implicitDefEqProofs (maxSteps := 2000000) only [go_sem, ↓reduceIte, Nat.reduceAdd, Nat.reduceMul, Nat.reduceSub, Nat.reduceEqDiff, Nat.reduceLeDiff, Nat.reduceDiv, Nat.reduceMod, Nat.reduceBEq, Nat.reduceBNe, reduceCtorEq, Int.reduceLE, Int.reduceLT, Int.reduceToNat, Int.reduceNeg, Nat.reduceLT, Int.reduceEq, Int.reduceSub, Int.reduceAdd, Int.reduceMul, Nat.reducePow, Int.reduceBEq, Int.reduceBNe, Int.reduceMod, E_16, A16, hv, h46, mx, mx', g15]
      · by_cases g16 : 4 < a.w
        · rw [pc_eq]; simp +contextual -implicitDefEqProofs (maxSteps := 2000000) only [go_sem, ↓reduceIte, Nat.reduceAdd, Nat.reduceMul, Nat.reduceSub, Nat.reduceEqDiff, Nat.reduceLeDiff, Nat.reduceDiv, Nat.reduceMod, Nat.reduceBEq, Nat.reduceBNe, reduceCtorEq, Int.reduceLE, Int.reduceLT, Int.reduceToNat, Int.reduceNeg, Nat.reduceLT, Int.reduceEq, Int.reduceSub, Int.reduceAdd, Int.reduceMul, Nat.reducePow, Int.reduceBEq, Int.reduceBNe, Int.reduceMod, E_16, A16, hv, h46, mx, mx', g15, g16]
        · rw [pc_eq]; simp +contextual -implicitDefEqProofs (maxSteps := 2000000) only [go_sem, ↓reduceIte, Nat.reduceAdd, Nat.reduceMul, Nat.reduceSub, Nat.reduceEqDiff, Nat.reduceLeDiff, Nat.reduceDiv, Nat.reduceMod, Nat.reduceBEq, Nat.reduceBNe, reduceCtorEq, Int.reduceLE, Int.reduceLT, Int.reduceToNat, Int.reduceNeg, Nat.reduceLT, Int.reduceEq, Int.reduceSub, Int.reduceAdd, Int.reduceMul, Nat.reducePow, Int.reduceBEq, Int.reduceBNe, Int.reduceMod, E_16, A16, hv, h46, mx, mx', g15, g16]
end Go.Proofs.Ytnecdcaaknhgpaa

namespace Go.Proofs.Ytnecdcaaknhgpaa
set_option maxRecDepth 100000
set_option maxHeartbeats 4000000
set_option linter.unusedSimpArgs false
set_option linter.unusedVariables false
open Go Go.Zv
/-- joints within an arm's limits -/
structure Lim (a : Arm) (q0 q1 q2 : Int) : Prop where
  a0 : a.lo0 ≤ q0 ∧ q0 ≤ a.hi0
  a1 : a.lo1 ≤ q1 ∧ q1 ≤ a.hi1
  a2 : a.lo2 ≤ q2 ∧ q2 ≤ a.hi2
def limB (a : Arm) (q0 q1 q2 : Int) : Bool := decide (a.lo0 ≤ q0 ∧ q0 ≤ a.hi0 ∧ a.lo1 ≤ q1 ∧ q1 ≤ a.hi1 ∧ a.lo2 ≤ q2 ∧ q2 ≤ a.hi2)
theorem limT {a : Arm} {q0 q1 q2 : Int} (h : Lim a q0 q1 q2) : limB a q0 q1 q2 = true := decide_eq_true ⟨h.a0.1, h.a0.2, h.a1.1, h.a1.2, h.a2.1, h.a2.2⟩
theorem limF {a : Arm} {q0 q1 q2 : Int} (h : ¬ Lim a q0 q1 q2) : limB a q0 q1 q2 = false := decide_eq_false fun k => h ⟨⟨k.1, k.2.1⟩, ⟨k.2.2.1, k.2.2.2.1⟩, ⟨k.2.2.2.2.1, k.2.2.2.2.2⟩⟩
theorem limB_iff {a : Arm} {q0 q1 q2 : Int} : limB a q0 q1 q2 = true ↔ Lim a q0 q1 q2 := by
  refine ⟨fun h => ?_, limT⟩
  have k := of_decide_eq_true h
  exact ⟨⟨k.1, k.2.1⟩, ⟨k.2.2.1, k.2.2.2.1⟩, ⟨k.2.2.2.2.1, k.2.2.2.2.2⟩⟩
theorem c17 (a : Arm) (q0 q1 q2 : Int) : pc E 17 [av a, jv q0 q1 q2] = some (.bool (limB a q0 q1 q2)) := by
  by_cases g0 : q0 < a.lo0
  · have hv := limF (a := a) (q0 := q0) (q1 := q1) (q2 := q2) (fun h => by obtain ⟨h1, h2, h3⟩ := h; omega)
    rw [pc_eq]; simp +contextual -implicitDefEqProofs (maxSteps := 2000000) only [go_sem, ↓reduceIte, Nat.reduceAdd, Nat.reduceMul, Nat.reduceSub, Nat.reduceEqDiff, Nat.reduceLeDiff, Nat.reduceDiv, Nat.reduceMod, Nat.reduceBEq, Nat.reduceBNe, reduceCtorEq, Int.reduceLE, Int.reduceLT, Int.reduceToNat, Int.reduceNeg, Nat.reduceLT, Int.reduceEq, Int.reduceSub, Int.reduceAdd, Int.reduceMul, Nat.reducePow, Int.reduceBEq, Int.reduceBNe, Int.reduceMod, E_17, A17, A17_L0_eq, A17_L0b, hv, g0]
  · by_cases g1 : a.hi0 < q0
    · have hv := limF (a := a) (q0 := q0) (q1 := q1) (q2 := q2) (fun h => by obtain ⟨h1, h2, h3⟩ := h; omega)
      rw [pc_eq]; simp +contextual -implicitDefEqProofs (maxSteps := 2000000) only [go_sem, ↓reduceIte, Nat.reduceAdd, Nat.reduceMul, Nat.reduceSub, Nat.reduceEqDiff, Nat.reduceLeDiff, Nat.reduceDiv, Nat.reduceMod, Nat.reduceBEq, Nat.reduceBNe, reduceCtorEq, Int.reduceLE, Int.reduceLT, Int.reduceToNat, Int.reduceNeg, Nat.reduceLT, Int.reduceEq, Int.reduceSub, Int.reduceAdd, Int.reduceMul, Nat.reducePow, Int.reduceBEq, Int.reduceBNe, Int.reduceMod, E_17, A17, A17_L0_eq, A17_L0b, hv, g0, g1]
    · by_cases g2 : q1 < a.lo1
      · have hv := limF (a := a) (q0 := q0) (q1 := q1) (q2 := q2) (fun h => by obtain ⟨h1, h2, h3⟩ := h; omega)
        rw [pc_eq]; simp +contextual -implicitDefEqProofs (maxSteps := 2000000) only [go_sem, ↓reduceIte, Nat.reduceAdd, Nat.reduceMul, Nat.reduceSub, Nat.reduceEqDiff, Nat.reduceLeDiff, Nat.reduceDiv, Nat.reduceMod, Nat.reduceBEq, Nat.reduceBNe, reduceCtorEq, Int.reduceLE, Int.reduceLT, Int.reduceToNat, Int.reduceNeg, Nat.reduceLT, Int.reduceEq, Int.reduceSub, Int.reduceAdd, Int.reduceMul, Nat.reducePow, Int.reduceBEq, Int.reduceBNe, Int.reduceMod, E_17, A17, A17_L0_eq, A17_L0b, hv, g0, g1, g2]
      · by_cases g3 : a.hi1 < q1
        · have hv := limF (a := a) (q0 := q0) (q1 := q1) (q2 := q2) (fun h => by obtain ⟨h1, h2, h3⟩ := h; omega)
          rw [pc_eq]; simp +contextual -implicitDefEqProofs (maxSteps := 2000000) only [go_sem, ↓reduceIte, Nat.reduceAdd, Nat.reduceMul, Nat.reduceSub, Nat.reduceEqDiff, Nat.reduceLeDiff, Nat.reduceDiv, Nat.reduceMod, Nat.reduceBEq, Nat.reduceBNe, reduceCtorEq, Int.reduceLE, Int.reduceLT, Int.reduceToNat, Int.reduceNeg, Nat.reduceLT, Int.reduceEq, Int.reduceSub, Int.reduceAdd, Int.reduceMul, Nat.reducePow, Int.reduceBEq, Int.reduceBNe, Int.reduceMod, E_17, A17, A17_L0_eq, A17_L0b, hv, g0, g1, g2, g3]
        · by_cases g4 : q2 < a.lo2
          · have hv := limF (a := a) (q0 := q0) (q1 := q1) (q2 := q2) (fun h => by obtain ⟨h1, h2, h3⟩ := h; omega)
            rw [pc_eq]; simp +contextual -implicitDefEqProofs (maxSteps := 2000000) only [go_sem, ↓reduceIte, Nat.reduceAdd, Nat.reduceMul, Nat.reduceSub, Nat.reduceEqDiff, Nat.reduceLeDiff, Nat.reduceDiv, Nat.reduceMod, Nat.reduceBEq, Nat.reduceBNe, reduceCtorEq, Int.reduceLE, Int.reduceLT, Int.reduceToNat, Int.reduceNeg, Nat.reduceLT, Int.reduceEq, Int.reduceSub, Int.reduceAdd, Int.reduceMul, Nat.reducePow, Int.reduceBEq, Int.reduceBNe, Int.reduceMod, E_17, A17, A17_L0_eq, A17_L0b, hv, g0, g1, g2, g3, g4]
          · by_cases g5 : a.hi2 < q2
            · have hv := limF (a := a) (q0 := q0) (q1 := q1) (q2 := q2) (fun h => by obtain ⟨h1, h2, h3⟩ := h; omega)
              rw [pc_eq]; simp +contextual -implicitDefEqProofs (maxSteps := 2000000) only [go_sem, ↓reduceIte, Nat.reduceAdd, Nat.reduceMul, Nat.reduceSub, Nat.reduceEqDiff, Nat.reduceLeDiff, Nat.reduceDiv, Nat.reduceMod, Nat.reduceBEq, Nat.reduceBNe, reduceCtorEq, Int.reduceLE, Int.reduceLT, Int.reduceToNat, Int.reduceNeg, Nat.reduceLT, Int.reduceEq, Int.reduceSub, Int.reduceAdd, Int.reduceMul, Nat.reducePow, Int.reduceBEq, Int.reduceBNe, Int.reduceMod, E_17, A17, A17_L0_eq, A17_L0b, hv, g0, g1, g2, g3, g4, g5]
            · have hv := limT (a := a) (q0 := q0) (q1 := q1) (q2 := q2) ⟨by omega, by omega, by omega⟩
              rw [pc_eq]; simp +contextual -implicitDefEqProofs (maxSteps := 2000000) only [go_sem, ↓reduceIte, Nat.reduceAdd, Nat.reduceMul, Nat.reduceSub, Nat.reduceEqDiff, Nat.reduceLeDiff, Nat.reduceDiv, Nat.reduceMod, Nat.reduceBEq, Nat.reduceBNe, reduceCtorEq, Int.reduceLE, Int.reduceLT, Int.reduceToNat, Int.reduceNeg, Nat.reduceLT, Int.reduceEq, Int.reduceSub, Int.reduceAdd, Int.reduceMul, Nat.reducePow, Int.reduceBEq, Int.reduceBNe, Int.reduceMod, E_17, A17, A17_L0_eq, A17_L0b, hv, g0, g1, g2, g3, g4, g5]
theorem c18 (a : Arm) (q0 q1 q2 : Int) : pc E 18 [av a, jv q0 q1 q2] = some (.bool (limB a q0 q1 q2)) := by
  by_cases g0 : q0 < a.lo0
  · have hv := limF (a := a) (q0 := q0) (q1 := q1) (q2 := q2) (fun h => by obtain ⟨h1, h2, h3⟩ := h; omega)
    rw [pc_eq]; simp +contextual -implicitDefEqProofs (maxSteps := 2000000) only [go_sem, ↓reduceIte, Nat.reduceAdd, Nat.reduceMul, Nat.reduceSub, Nat.reduceEqDiff, Nat.reduceLeDiff, Nat.reduceDiv, Nat.reduceMod, Nat.reduceBEq, Nat.reduceBNe, reduceCtorEq, Int.reduceLE, Int.reduceLT, Int.reduceToNat, Int.reduceNeg, Nat.reduceLT, Int.reduceEq, Int.reduceSub, Int.reduceAdd, Int.reduceMul, Nat.reducePow, Int.reduceBEq, Int.reduceBNe, Int.reduceMod, E_18, A18, A18_L0_eq, A18_L0b, hv, g0]
  · by_cases g1 : a.hi0 < q0
    · have hv := limF (a := a) (q0 := q0) (q1 := q1) (q2 := q2) (fun h => by obtain ⟨h1, h2, h3⟩ := h; omega)
      rw [pc_eq]; simp +contextual -implicitDefEqProofs (maxSteps := 2000000) only [go_sem, ↓reduceIte, Nat.reduceAdd, Nat.reduceMul, Nat.reduceSub, Nat.reduceEqDiff, Nat.reduceLeDiff, Nat.reduceDiv, Nat.reduceMod, Nat.reduceBEq, Nat.reduceBNe, reduceCtorEq, Int.reduceLE, Int.reduceLT, Int.reduceToNat, Int.reduceNeg, Nat.reduceLT, Int.reduceEq, Int.reduceSub, Int.reduceAdd, Int.reduceMul, Nat.reducePow, Int.reduceBEq, Int.reduceBNe, Int.reduceMod, E_18, A18, A18_L0_eq, A18_L0b, hv, g0, g1]
    · by_cases g2 : q1 < a.lo1
      · have hv := limF (a := a) (q0 := q0) (q1 := q1) (q2 := q2) (fun h => by obtain ⟨h1, h2, h3⟩ := h; omega)
        rw [pc_eq]; simp +contextual -implicitDefEqProofs (maxSteps := 2000000) only [go_sem, ↓reduceIte, Nat.reduceAdd, Nat.reduceMul, Nat.reduceSub, Nat.reduceEqDiff, Nat.reduceLeDiff, Nat.reduceDiv, Nat.reduceMod, Nat.reduceBEq, Nat.reduceBNe, reduceCtorEq, Int.reduceLE, Int.reduceLT, Int.reduceToNat, Int.reduceNeg, Nat.reduceLT, Int.reduceEq, Int.reduceSub, Int.reduceAdd, Int.reduceMul, Nat.reducePow, Int.reduceBEq, Int.reduceBNe, Int.reduceMod, E_18, A18, A18_L0_eq, A18_L0b, hv, g0, g1, g2]
      · by_cases g3 : a.hi1 < q1
        · have hv := limF (a := a) (q0 := q0) (q1 := q1) (q2 := q2) (fun h => by obtain ⟨h1, h2, h3⟩ := h; omega)
          rw [pc_eq]; simp +contextual -implicitDefEqProofs (maxSteps := 2000000) only [go_sem, ↓reduceIte, Nat.reduceAdd, Nat.reduceMul, Nat.reduceSub, Nat.reduceEqDiff, Nat.reduceLeDiff, Nat.reduceDiv, Nat.reduceMod, Nat.reduceBEq, Nat.reduceBNe, reduceCtorEq, Int.reduceLE, Int.reduceLT, Int.reduceToNat, Int.reduceNeg, Nat.reduceLT, Int.reduceEq, Int.reduceSub, Int.reduceAdd, Int.reduceMul, Nat.reducePow, Int.reduceBEq, Int.reduceBNe, Int.reduceMod, E_18, A18, A18_L0_eq, A18_L0b, hv, g0, g1, g2, g3]
        · by_cases g4 : q2 < a.lo2
          · have hv := limF (a := a) (q0 := q0) (q1 := q1) (q2 := q2) (fun h => by obtain ⟨h1, h2, h3⟩ := h; omega)
            rw [pc_eq]; simp +contextual -implicitDefEqProofs (maxSteps := 2000000) only [go_sem, ↓reduceIte, Nat.reduceAdd, Nat.reduceMul, Nat.reduceSub, Nat.reduceEqDiff, Nat.reduceLeDiff, Nat.reduceDiv, Nat.reduceMod, Nat.reduceBEq, Nat.reduceBNe, reduceCtorEq, Int.reduceLE, Int.reduceLT, Int.reduceToNat, Int.reduceNeg, Nat.reduceLT, Int.reduceEq, Int.reduceSub, Int.reduceAdd, Int.reduceMul, Nat.reducePow, Int.reduceBEq, Int.reduceBNe, Int.reduceMod, E_18, A18, A18_L0_eq, A18_L0b, hv, g0, g1, g2, g3, g4]
          · by_cases g5 : a.hi2 < q2
            · have hv := limF (a := a) (q0 := q0) (q1 := q1) (q2 := q2) (fun h => by obtain ⟨h1, h2, h3⟩ := h; omega)
              rw [pc_eq]; simp +contextual -implicitDefEqProofs (maxSteps := 2000000) only [go_sem, ↓reduceIte, Nat.reduceAdd, Nat.reduceMul, Nat.reduceSub, Nat.reduceEqDiff, Nat.reduceLeDiff, Nat.reduceDiv, Nat.reduceMod, Nat.reduceBEq, Nat.reduceBNe, reduceCtorEq, Int.reduceLE, Int.reduceLT, Int.reduceToNat, Int.reduceNeg, Nat.reduceLT, Int.reduceEq, Int.reduceSub, Int.reduceAdd, Int.reduceMul, Nat.reducePow, Int.reduceBEq, Int.reduceBNe, Int.reduceMod, E_18, A18, A18_L0_eq, A18_L0b, hv, g0, g1, g2, g3, g4, g5]
            · have hv := limT (a := a) (q0 := q0) (q1 := q1) (q2 := q2) ⟨by omega, by omega, by omega⟩
              rw [pc_eq]; simp +contextual -implicitDefEqProofs (maxSteps := 2000000) only [go_sem, ↓reduceIte, Nat.reduceAdd, Nat.reduceMul, Nat.reduceSub, Nat.reduceEqDiff, Nat.reduceLeDiff, Nat.reduceDiv, Nat.reduceMod, Nat.reduceBEq, Nat.reduceBNe, reduceCtorEq, Int.reduceLE, Int.reduceLT, Int.reduceToNat, Int.reduceNeg, Nat.reduceLT, Int.reduceEq, Int.reduceSub, Int.reduceAdd, Int.reduceMul, Nat.reducePow, Int.reduceBEq, Int.reduceBNe, Int.reduceMod, E_18, A18, A18_L0_eq, A18_L0b, hv, g0, g1, g2, g3, g4, g5]
def jt (lo hi r : Int) : Int := lo + r % (hi - lo + 1)
theorem jt_in {lo hi r : Int} (h : lo ≤ hi) : lo ≤ jt lo hi r ∧ jt lo hi r ≤ hi := by
  unfold jt
  have h1 := Int.emod_nonneg r (show hi - lo + 1 ≠ 0 by omega)
  have h2 := Int.emod_lt_of_pos r (show 0 < hi - lo + 1 by omega)
  omega
theorem jt_lim {a : Arm} (h : OKa a) (r0 r1 r2 : Int) : Lim a (jt a.lo0 a.hi0 r0) (jt a.lo1 a.hi1 r1) (jt a.lo2 a.hi2 r2) := ⟨jt_in h.j0.2.1, jt_in h.j1.2.1, jt_in h.j2.2.1⟩
theorem c19 (a : Arm) (h : OKa a) (r0 r1 r2 : Int) (h0 : 0 ≤ r0 ∧ r0 ≤ 255) (h1 : 0 ≤ r1 ∧ r1 ≤ 255) (h2 : 0 ≤ r2 ∧ r2 ≤ 255) :
    pc E 19 [av a, .agg [.int .u8 r0, .int .u8 r1, .int .u8 r2]] = some (jv (jt a.lo0 a.hi0 r0) (jt a.lo1 a.hi1 r1) (jt a.lo2 a.hi2 r2)) := by
  have j0 := h.j0
  have j1 := h.j1
  have j2 := h.j2
  have l := jt_lim h r0 r1 r2
  have l0 := l.a0
  have l1 := l.a1
  have l2 := l.a2
  have a0 : IntKind.i64.wrap r0 = r0 := wrap_small (by omega) (by omega)
  have a1 : IntKind.i64.wrap r1 = r1 := wrap_small (by omega) (by omega)
  have a2 : IntKind.i64.wrap r2 = r2 := wrap_small (by omega) (by omega)
  have b0 : IntKind.i64.wrap (a.hi0 - a.lo0) = a.hi0 - a.lo0 := wrap_small (by omega) (by omega)
  have b1 : IntKind.i64.wrap (a.hi1 - a.lo1) = a.hi1 - a.lo1 := wrap_small (by omega) (by omega)
  have b2 : IntKind.i64.wrap (a.hi2 - a.lo2) = a.hi2 - a.lo2 := wrap_small (by omega) (by omega)
  have d0 : IntKind.i64.wrap (a.hi0 - a.lo0 + 1) = a.hi0 - a.lo0 + 1 := wrap_small (by omega) (by omega)
  have d1 : IntKind.i64.wrap (a.hi1 - a.lo1 + 1) = a.hi1 - a.lo1 + 1 := wrap_small (by omega) (by omega)
  have d2 : IntKind.i64.wrap (a.hi2 - a.lo2 + 1) = a.hi2 - a.lo2 + 1 := wrap_small (by omega) (by omega)
  have z0 : ¬ (a.hi0 - a.lo0 + 1 = 0) := by omega
  have z1 : ¬ (a.hi1 - a.lo1 + 1 = 0) := by omega
  have z2 : ¬ (a.hi2 - a.lo2 + 1 = 0) := by omega
  have m0 : r0.tmod (a.hi0 - a.lo0 + 1) = r0 % (a.hi0 - a.lo0 + 1) := tmod_pos h0.1
  have m1 : r1.tmod (a.hi1 - a.lo1 + 1) = r1 % (a.hi1 - a.lo1 + 1) := tmod_pos h1.1
  have m2 : r2.tmod (a.hi2 - a.lo2 + 1) = r2 % (a.hi2 - a.lo2 + 1) := tmod_pos h2.1
  have e0 : IntKind.i64.wrap (a.lo0 + r0 % (a.hi0 - a.lo0 + 1)) = jt a.lo0 a.hi0 r0 := wrap_small (n := jt a.lo0 a.hi0 r0) (by omega) (by omega)
  have e1 : IntKind.i64.wrap (a.lo1 + r1 % (a.hi1 - a.lo1 + 1)) = jt a.lo1 a.hi1 r1 := wrap_small (n := jt a.lo1 a.hi1 r1) (by omega) (by omega)
  have e2 : IntKind.i64.wrap (a.lo2 + r2 % (a.hi2 - a.lo2 + 1)) = jt a.lo2 a.hi2 r2 := wrap_small (n := jt a.lo2 a.hi2 r2) (by omega) (by omega)
  rw [pc_eq]; simp +contextual -implicitDefEqProofs (maxSteps := 2000000) only [go_sem, ↓reduceIte, Nat.reduceAdd, Nat.reduceMul, Nat.reduceSub, Nat.reduceEqDiff, Nat.reduceLeDiff, Nat.reduceDiv, Nat.reduceMod, Nat.reduceBEq, Nat.reduceBNe, reduceCtorEq, Int.reduceLE, Int.reduceLT, Int.reduceToNat, Int.reduceNeg, Nat.reduceLT, Int.reduceEq, Int.reduceSub, Int.reduceAdd, Int.reduceMul, Nat.reducePow, Int.reduceBEq, Int.reduceBNe, Int.reduceMod, E_19, A19, A19_L0_eq, A19_L0b, a0, a1, a2, b0, b1, b2, d0, d1, d2, z0, z1, z2, m0, m1, m2, e0, e1, e2]
/-- a step of one joint -/
def st1 (q0 q1 q2 : Int) (k : Int) (b : Int) : Int × Int × Int := if k = 0 then (q0 + b, q1, q2) else if k = 1 then (q0, q1 + b, q2) else (q0, q1, q2 + b)
def stp (a : Arm) (q0 q1 q2 k b : Int) : LV :=
  if (0 ≤ k ∧ k ≤ 2) ∧ (b = 1 ∨ b = -1) ∧ limB a (st1 q0 q1 q2 k b).1 (st1 q0 q1 q2 k b).2.1 (st1 q0 q1 q2 k b).2.2 = true then .tup [jv (st1 q0 q1 q2 k b).1 (st1 q0 q1 q2 k b).2.1 (st1 q0 q1 q2 k b).2.2, .bool true]
  else .tup [jv 0 0 0, .bool false]
end Go.Proofs.Ytnecdcaaknhgpaa

namespace Go.Proofs.Ytnecdcaaknhgpaa
set_option maxRecDepth 100000
set_option maxHeartbeats 4000000
set_option linter.unusedSimpArgs false
set_option linter.unusedVariables false
open Go Go.Zv
theorem c23 (a : Arm) (q0 q1 q2 k b : Int) (h0 : -100 ≤ q0 ∧ q0 ≤ 100) (h1 : -100 ≤ q1 ∧ q1 ≤ 100) (h2 : -100 ≤ q2 ∧ q2 ≤ 100) : pc E 23 [av a, jv q0 q1 q2, .int .i64 k, .int .i64 b] = some (stp a q0 q1 q2 k b) := by
  by_cases k0 : k < 0
  · have hv : stp a q0 q1 q2 k b = .tup [jv 0 0 0, .bool false] := by unfold stp; rw [if_neg]; intro h; omega
    rw [hv, pc_eq]; simp +contextual -implicitDefEqProofs (maxSteps := 2000000) only [go_sem, ↓reduceIte, Nat.reduceAdd, Nat.reduceMul, Nat.reduceSub, Nat.reduceEqDiff, Nat.reduceLeDiff, Nat.reduceDiv, Nat.reduceMod, Nat.reduceBEq, Nat.reduceBNe, reduceCtorEq, Int.reduceLE, Int.reduceLT, Int.reduceToNat, Int.reduceNeg, Nat.reduceLT, Int.reduceEq, Int.reduceSub, Int.reduceAdd, Int.reduceMul, Nat.reducePow, Int.reduceBEq, Int.reduceBNe, Int.reduceMod, E_23, A23, k0]
  by_cases k3 : 3 ≤ k
  · have hv : stp a q0 q1 q2 k b = .tup [jv 0 0 0, .bool false] := by unfold stp; rw [if_neg]; intro h; omega
    rw [hv, pc_eq]; simp +contextual -implicitDefEqProofs (maxSteps := 2000000) only [go_sem, ↓reduceIte, Nat.reduceAdd, Nat.reduceMul, Nat.reduceSub, Nat.reduceEqDiff, Nat.reduceLeDiff, Nat.reduceDiv, Nat.reduceMod, Nat.reduceBEq, Nat.reduceBNe, reduceCtorEq, Int.reduceLE, Int.reduceLT, Int.reduceToNat, Int.reduceNeg, Nat.reduceLT, Int.reduceEq, Int.reduceSub, Int.reduceAdd, Int.reduceMul, Nat.reducePow, Int.reduceBEq, Int.reduceBNe, Int.reduceMod, E_23, A23, k0, k3]
  by_cases hb : b = 1 ∨ b = -1
  · have hl := c17 a (st1 q0 q1 q2 k b).1 (st1 q0 q1 q2 k b).2.1 (st1 q0 q1 q2 k b).2.2
    have hs : stp a q0 q1 q2 k b = if limB a (st1 q0 q1 q2 k b).1 (st1 q0 q1 q2 k b).2.1 (st1 q0 q1 q2 k b).2.2 = true then .tup [jv (st1 q0 q1 q2 k b).1 (st1 q0 q1 q2 k b).2.1 (st1 q0 q1 q2 k b).2.2, .bool true] else .tup [jv 0 0 0, .bool false] := by
      unfold stp
      by_cases hc : limB a (st1 q0 q1 q2 k b).1 (st1 q0 q1 q2 k b).2.1 (st1 q0 q1 q2 k b).2.2 = true
      · rw [if_pos ⟨by omega, hb, hc⟩, if_pos hc]
      · rw [if_neg (fun h => hc h.2.2), if_neg hc]
    rw [hs]
    have w0 : IntKind.i64.wrap (q0 + b) = q0 + b := wrap_small (by omega) (by omega)
    have w1 : IntKind.i64.wrap (q1 + b) = q1 + b := wrap_small (by omega) (by omega)
    have w2 : IntKind.i64.wrap (q2 + b) = q2 + b := wrap_small (by omega) (by omega)
    rcases (show k = 0 ∨ k = 1 ∨ k = 2 by omega) with rfl | rfl | rfl <;> simp only [st1, if_true, show ¬ ((1 : Int) = 0) from by omega, show ¬ ((2 : Int) = 0) from by omega, show ¬ ((2 : Int) = 1) from by omega, if_false] at hl ⊢
    · cases hc : limB a (q0 + b) q1 q2 <;> rw [hc] at hl <;> rcases hb with rfl | rfl <;> rw [pc_eq] <;> simp +contextual -implicitDefEqProofs (maxSteps := 2000000) only [go_sem, ↓reduceIte, Nat.reduceAdd, Nat.reduceMul, Nat.reduceSub, Nat.reduceEqDiff, Nat.reduceLeDiff, Nat.reduceDiv, Nat.reduceMod, Nat.reduceBEq, Nat.reduceBNe, reduceCtorEq, Int.reduceLE, Int.reduceLT, Int.reduceToNat, Int.reduceNeg, Nat.reduceLT, Int.reduceEq, Int.reduceSub, Int.reduceAdd, Int.reduceMul, Nat.reducePow, Int.reduceBEq, Int.reduceBNe, Int.reduceMod, E_23, A23, w0, hl, bne_self_eq_false]
    · cases hc : limB a q0 (q1 + b) q2 <;> rw [hc] at hl <;> rcases hb with rfl | rfl <;> rw [pc_eq] <;> simp +contextual -implicitDefEqProofs (maxSteps := 2000000) only [go_sem, ↓reduceIte, Nat.reduceAdd, Nat.reduceMul, Nat.reduceSub, Nat.reduceEqDiff, Nat.reduceLeDiff, Nat.reduceDiv, Nat.reduceMod, Nat.reduceBEq, Nat.reduceBNe, reduceCtorEq, Int.reduceLE, Int.reduceLT, Int.reduceToNat, Int.reduceNeg, Nat.reduceLT, Int.reduceEq, Int.reduceSub, Int.reduceAdd, Int.reduceMul, Nat.reducePow, Int.reduceBEq, Int.reduceBNe, Int.reduceMod, E_23, A23, w1, hl, bne_self_eq_false]
    · cases hc : limB a q0 q1 (q2 + b) <;> rw [hc] at hl <;> rcases hb with rfl | rfl <;> rw [pc_eq] <;> simp +contextual -implicitDefEqProofs (maxSteps := 2000000) only [go_sem, ↓reduceIte, Nat.reduceAdd, Nat.reduceMul, Nat.reduceSub, Nat.reduceEqDiff, Nat.reduceLeDiff, Nat.reduceDiv, Nat.reduceMod, Nat.reduceBEq, Nat.reduceBNe, reduceCtorEq, Int.reduceLE, Int.reduceLT, Int.reduceToNat, Int.reduceNeg, Nat.reduceLT, Int.reduceEq, Int.reduceSub, Int.reduceAdd, Int.reduceMul, Nat.reducePow, Int.reduceBEq, Int.reduceBNe, Int.reduceMod, E_23, A23, w2, hl, bne_self_eq_false]
  · have hv : stp a q0 q1 q2 k b = .tup [jv 0 0 0, .bool false] := by unfold stp; rw [if_neg]; intro h; exact hb h.2.1
    have b1 : ¬ b = 1 := fun h => hb (.inl h)
    have b2 : ¬ b = -1 := fun h => hb (.inr h)
    have b3 : (b != 1) = true := by simpa using b1
    have b4 : (b != -1) = true := by simpa using b2
    rw [hv, pc_eq]; simp +contextual -implicitDefEqProofs (maxSteps := 2000000) only [go_sem, ↓reduceIte, Nat.reduceAdd, Nat.reduceMul, Nat.reduceSub, Nat.reduceEqDiff, Nat.reduceLeDiff, Nat.reduceDiv, Nat.reduceMod, Nat.reduceBEq, Nat.reduceBNe, reduceCtorEq, Int.reduceLE, Int.reduceLT, Int.reduceToNat, Int.reduceNeg, Nat.reduceLT, Int.reduceEq, Int.reduceSub, Int.reduceAdd, Int.reduceMul, Nat.reducePow, Int.reduceBEq, Int.reduceBNe, Int.reduceMod, E_23, A23, k0, k3, b1, b2, b3, b4]
theorem c24 (a : Arm) (q0 q1 q2 k b : Int) (h0 : -100 ≤ q0 ∧ q0 ≤ 100) (h1 : -100 ≤ q1 ∧ q1 ≤ 100) (h2 : -100 ≤ q2 ∧ q2 ≤ 100) : pc E 24 [av a, jv q0 q1 q2, .int .i64 k, .int .i64 b] = some (stp a q0 q1 q2 k b) := by
  by_cases k0 : k < 0
  · have hv : stp a q0 q1 q2 k b = .tup [jv 0 0 0, .bool false] := by unfold stp; rw [if_neg]; intro h; omega
    rw [hv, pc_eq]; simp +contextual -implicitDefEqProofs (maxSteps := 2000000) only [go_sem, ↓reduceIte, Nat.reduceAdd, Nat.reduceMul, Nat.reduceSub, Nat.reduceEqDiff, Nat.reduceLeDiff, Nat.reduceDiv, Nat.reduceMod, Nat.reduceBEq, Nat.reduceBNe, reduceCtorEq, Int.reduceLE, Int.reduceLT, Int.reduceToNat, Int.reduceNeg, Nat.reduceLT, Int.reduceEq, Int.reduceSub, Int.reduceAdd, Int.reduceMul, Nat.reducePow, Int.reduceBEq, Int.reduceBNe, Int.reduceMod, E_24, A24, k0]
  by_cases k3 : 2 < k
  · have hv : stp a q0 q1 q2 k b = .tup [jv 0 0 0, .bool false] := by unfold stp; rw [if_neg]; intro h; omega
    rw [hv, pc_eq]; simp +contextual -implicitDefEqProofs (maxSteps := 2000000) only [go_sem, ↓reduceIte, Nat.reduceAdd, Nat.reduceMul, Nat.reduceSub, Nat.reduceEqDiff, Nat.reduceLeDiff, Nat.reduceDiv, Nat.reduceMod, Nat.reduceBEq, Nat.reduceBNe, reduceCtorEq, Int.reduceLE, Int.reduceLT, Int.reduceToNat, Int.reduceNeg, Nat.reduceLT, Int.reduceEq, Int.reduceSub, Int.reduceAdd, Int.reduceMul, Nat.reducePow, Int.reduceBEq, Int.reduceBNe, Int.reduceMod, E_24, A24, k0, k3]
  by_cases hb : b = 1 ∨ b = -1
  · have hl := c18 a (st1 q0 q1 q2 k b).1 (st1 q0 q1 q2 k b).2.1 (st1 q0 q1 q2 k b).2.2
    have hs : stp a q0 q1 q2 k b = if limB a (st1 q0 q1 q2 k b).1 (st1 q0 q1 q2 k b).2.1 (st1 q0 q1 q2 k b).2.2 = true then .tup [jv (st1 q0 q1 q2 k b).1 (st1 q0 q1 q2 k b).2.1 (st1 q0 q1 q2 k b).2.2, .bool true] else .tup [jv 0 0 0, .bool false] := by
      unfold stp
      by_cases hc : limB a (st1 q0 q1 q2 k b).1 (st1 q0 q1 q2 k b).2.1 (st1 q0 q1 q2 k b).2.2 = true
      · rw [if_pos ⟨by omega, hb, hc⟩, if_pos hc]
      · rw [if_neg (fun h => hc h.2.2), if_neg hc]
    rw [hs]
    have w0 : IntKind.i64.wrap (q0 + b) = q0 + b := wrap_small (by omega) (by omega)
    have w1 : IntKind.i64.wrap (q1 + b) = q1 + b := wrap_small (by omega) (by omega)
    have w2 : IntKind.i64.wrap (q2 + b) = q2 + b := wrap_small (by omega) (by omega)
    rcases (show k = 0 ∨ k = 1 ∨ k = 2 by omega) with rfl | rfl | rfl <;> simp only [st1, if_true, show ¬ ((1 : Int) = 0) from by omega, show ¬ ((2 : Int) = 0) from by omega, show ¬ ((2 : Int) = 1) from by omega, if_false] at hl ⊢
    · cases hc : limB a (q0 + b) q1 q2 <;> rw [hc] at hl <;> rcases hb with rfl | rfl <;> rw [pc_eq] <;> simp +contextual -implicitDefEqProofs (maxSteps := 2000000) only [go_sem, ↓reduceIte, Nat.reduceAdd, Nat.reduceMul, Nat.reduceSub, Nat.reduceEqDiff, Nat.reduceLeDiff, Nat.reduceDiv, Nat.reduceMod, Nat.reduceBEq, Nat.reduceBNe, reduceCtorEq, Int.reduceLE, Int.reduceLT, Int.reduceToNat, Int.reduceNeg, Nat.reduceLT, Int.reduceEq, Int.reduceSub, Int.reduceAdd, Int.reduceMul, Nat.reducePow, Int.reduceBEq, Int.reduceBNe, Int.reduceMod, E_24, A24, w0, hl, bne_self_eq_false]
    · cases hc : limB a q0 (q1 + b) q2 <;> rw [hc] at hl <;> rcases hb with rfl | rfl <;> rw [pc_eq] <;> simp +contextual -implicitDefEqProofs (maxSteps := 2000000) only [go_sem, ↓reduceIte, Nat.reduceAdd, Nat.reduceMul, Nat.reduceSub, Nat.reduceEqDiff, Nat.reduceLeDiff, Nat.reduceDiv, Nat.reduceMod, Nat.reduceBEq, Nat.reduceBNe, reduceCtorEq, Int.reduceLE, Int.reduceLT, Int.reduceToNat, Int.reduceNeg, Nat.reduceLT, Int.reduceEq, Int.reduceSub, Int.reduceAdd, Int.reduceMul, Nat.reducePow, Int.reduceBEq, Int.reduceBNe, Int.reduceMod, E_24, A24, w1, hl, bne_self_eq_false]
    · cases hc : limB a q0 q1 (q2 + b) <;> rw [hc] at hl <;> rcases hb with rfl | rfl <;> rw [pc_eq] <;> simp +contextual -implicitDefEqProofs (maxSteps := 2000000) only [go_sem, ↓reduceIte, Nat.reduceAdd, Nat.reduceMul, Nat.reduceSub, Nat.reduceEqDiff, Nat.reduceLeDiff, Nat.reduceDiv, Nat.reduceMod, Nat.reduceBEq, Nat.reduceBNe, reduceCtorEq, Int.reduceLE, Int.reduceLT, Int.reduceToNat, Int.reduceNeg, Nat.reduceLT, Int.reduceEq, Int.reduceSub, Int.reduceAdd, Int.reduceMul, Nat.reducePow, Int.reduceBEq, Int.reduceBNe, Int.reduceMod, E_24, A24, w2, hl, bne_self_eq_false]
  · have hv : stp a q0 q1 q2 k b = .tup [jv 0 0 0, .bool false] := by unfold stp; rw [if_neg]; intro h; exact hb h.2.1
    have b1 : ¬ b = 1 := fun h => hb (.inl h)
    have b2 : ¬ b = -1 := fun h => hb (.inr h)
    have b3 : (b != 1) = true := by simpa using b1
    have b4 : (b != -1) = true := by simpa using b2
    rw [hv, pc_eq]; simp +contextual -implicitDefEqProofs (maxSteps := 2000000) only [go_sem, ↓reduceIte, Nat.reduceAdd, Nat.reduceMul, Nat.reduceSub, Nat.reduceEqDiff, Nat.reduceLeDiff, Nat.reduceDiv, Nat.reduceMod, Nat.reduceBEq, Nat.reduceBNe, reduceCtorEq, Int.reduceLE, Int.reduceLT, Int.reduceToNat, Int.reduceNeg, Nat.reduceLT, Int.reduceEq, Int.reduceSub, Int.reduceAdd, Int.reduceMul, Nat.reducePow, Int.reduceBEq, Int.reduceBNe, Int.reduceMod, E_24, A24, k0, k3, b1, b2, b3, b4]
end Go.Proofs.Ytnecdcaaknhgpaa

namespace Go.Proofs.Ytnecdcaaknhgpaa
set_option maxRecDepth 100000
set_option maxHeartbeats 4000000
set_option linter.unusedSimpArgs false
set_option linter.unusedVariables false
open Go Go.Zv
theorem all_c2 (l : List (Int × Int)) : ((l.map c2).all fun x => x.length == 2) = true := by simp [c2]
theorem get_c2 {l : List (Int × Int)} {i : Nat} {p : Int × Int} (h : l[i]? = some p) : (l.map c2)[i]? = some [.int .i64 p.1, .int .i64 p.2] := by
  rw [List.getElem?_map, h]; rfl
theorem c22 (a b : List (Int × Int)) (hl : a.length ≤ 1000000000) : pc E 22 [lkv a, lkv b] = some (.bool (decide (a = b))) := by
  by_cases h : a.length = b.length
  · have lp := loop_eq (fun S => (K E A22_L0 S).bind (blockR 0 (some []) [4, 5])) (fun k => ⟨[(0, lkv a), (1, lkv b), (5, .int .i64 k)], [], [], 0⟩) a b h (some (.ex .ret ⟨[(4, .bool false)], [], [], 0⟩)) (some (.ex .nrm ⟨[], [], [], 0⟩))
      (by
        show (K E A22_L0 _).bind _ = _
        rw [A22_L0_eq]; simp +contextual -implicitDefEqProofs (maxSteps := 2000000) only [go_sem, ↓reduceIte, Nat.reduceAdd, Nat.reduceMul, Nat.reduceSub, Nat.reduceEqDiff, Nat.reduceLeDiff, Nat.reduceDiv, Nat.reduceMod, Nat.reduceBEq, Nat.reduceBNe, reduceCtorEq, Int.reduceLE, Int.reduceLT, Int.reduceToNat, Int.reduceNeg, Nat.reduceLT, Int.reduceEq, Int.reduceSub, Int.reduceAdd, Int.reduceMul, Nat.reducePow, Int.reduceBEq, Int.reduceBNe, Int.reduceMod, A22_L0b, Int.lt_irrefl, List.length_map])
      (fun k p q hk hp hq => by
        show (K E A22_L0 _).bind _ = if _ then (K E A22_L0 _).bind _ else _
        have h1 : (k : Int) < a.length := by omega
        have h0 : (0 : Int) ≤ k := by omega
        have hw := wr_succ (n := k) (by omega)
        have g1 := get_c2 hp
        have g2 := get_c2 hq
        obtain ⟨px, py⟩ := p
        obtain ⟨qx, qy⟩ := q
        conv => lhs; rw [A22_L0_eq]
        by_cases e : px = qx
        · subst e
          by_cases e2 : py = qy
          · subst e2
            simp +contextual -implicitDefEqProofs (maxSteps := 2000000) only [go_sem, ↓reduceIte, Nat.reduceAdd, Nat.reduceMul, Nat.reduceSub, Nat.reduceEqDiff, Nat.reduceLeDiff, Nat.reduceDiv, Nat.reduceMod, Nat.reduceBEq, Nat.reduceBNe, reduceCtorEq, Int.reduceLE, Int.reduceLT, Int.reduceToNat, Int.reduceNeg, Nat.reduceLT, Int.reduceEq, Int.reduceSub, Int.reduceAdd, Int.reduceMul, Nat.reducePow, Int.reduceBEq, Int.reduceBNe, Int.reduceMod, A22_L0b, List.length_map, h0, h1, hw, g1, g2, bne_self_eq_false, beq_self_eq_true]
          · have e' : (py == qy) = false := by simpa using e2
            simp +contextual -implicitDefEqProofs (maxSteps := 2000000) only [go_sem, ↓reduceIte, Nat.reduceAdd, Nat.reduceMul, Nat.reduceSub, Nat.reduceEqDiff, Nat.reduceLeDiff, Nat.reduceDiv, Nat.reduceMod, Nat.reduceBEq, Nat.reduceBNe, reduceCtorEq, Int.reduceLE, Int.reduceLT, Int.reduceToNat, Int.reduceNeg, Nat.reduceLT, Int.reduceEq, Int.reduceSub, Int.reduceAdd, Int.reduceMul, Nat.reducePow, Int.reduceBEq, Int.reduceBNe, Int.reduceMod, A22_L0b, List.length_map, h0, h1, hw, g1, g2, bne_self_eq_false, beq_self_eq_true, e', Prod.mk.injEq, e2]
        · have e' : (px == qx) = false := by simpa using e
          simp +contextual -implicitDefEqProofs (maxSteps := 2000000) only [go_sem, ↓reduceIte, Nat.reduceAdd, Nat.reduceMul, Nat.reduceSub, Nat.reduceEqDiff, Nat.reduceLeDiff, Nat.reduceDiv, Nat.reduceMod, Nat.reduceBEq, Nat.reduceBNe, reduceCtorEq, Int.reduceLE, Int.reduceLT, Int.reduceToNat, Int.reduceNeg, Nat.reduceLT, Int.reduceEq, Int.reduceSub, Int.reduceAdd, Int.reduceMul, Nat.reducePow, Int.reduceBEq, Int.reduceBNe, Int.reduceMod, A22_L0b, List.length_map, h0, h1, hw, g1, g2, e', Prod.mk.injEq, e])
    simp only [Int.natCast_zero, Int.ofNat_zero] at lp
    have h' : ((a.length : Int) != b.length) = false := by simp [h]
    by_cases e : a = b
    · subst e
      rw [if_pos rfl] at lp
      rw [pc_eq]; simp +contextual -implicitDefEqProofs (maxSteps := 2000000) only [go_sem, ↓reduceIte, Nat.reduceAdd, Nat.reduceMul, Nat.reduceSub, Nat.reduceEqDiff, Nat.reduceLeDiff, Nat.reduceDiv, Nat.reduceMod, Nat.reduceBEq, Nat.reduceBNe, reduceCtorEq, Int.reduceLE, Int.reduceLT, Int.reduceToNat, Int.reduceNeg, Nat.reduceLT, Int.reduceEq, Int.reduceSub, Int.reduceAdd, Int.reduceMul, Nat.reducePow, Int.reduceBEq, Int.reduceBNe, Int.reduceMod, E_22, A22, List.length_map, h', lp, bne_self_eq_false]
    · rw [if_neg e] at lp
      rw [pc_eq]; simp +contextual -implicitDefEqProofs (maxSteps := 2000000) only [go_sem, ↓reduceIte, Nat.reduceAdd, Nat.reduceMul, Nat.reduceSub, Nat.reduceEqDiff, Nat.reduceLeDiff, Nat.reduceDiv, Nat.reduceMod, Nat.reduceBEq, Nat.reduceBNe, reduceCtorEq, Int.reduceLE, Int.reduceLT, Int.reduceToNat, Int.reduceNeg, Nat.reduceLT, Int.reduceEq, Int.reduceSub, Int.reduceAdd, Int.reduceMul, Nat.reducePow, Int.reduceBEq, Int.reduceBNe, Int.reduceMod, E_22, A22, List.length_map, h', lp, e]
  · have h' : ((a.length : Int) != b.length) = true := by simp; omega
    have h2 : ¬ ((a.length : Int) = b.length) := by omega
    have e : ¬ a = b := fun e => h (by rw [e])
    rw [pc_eq]; simp +contextual -implicitDefEqProofs (maxSteps := 2000000) only [go_sem, ↓reduceIte, Nat.reduceAdd, Nat.reduceMul, Nat.reduceSub, Nat.reduceEqDiff, Nat.reduceLeDiff, Nat.reduceDiv, Nat.reduceMod, Nat.reduceBEq, Nat.reduceBNe, reduceCtorEq, Int.reduceLE, Int.reduceLT, Int.reduceToNat, Int.reduceNeg, Nat.reduceLT, Int.reduceEq, Int.reduceSub, Int.reduceAdd, Int.reduceMul, Nat.reducePow, Int.reduceBEq, Int.reduceBNe, Int.reduceMod, E_22, A22, List.length_map, h', h2, e]
def farI (ax ay bx by_ : Int) : Int := ((ax - bx).tdiv 16) * ((ax - bx).tdiv 16) + ((ay - by_).tdiv 16) * ((ay - by_).tdiv 16)
theorem td16 {x : Int} (h : -2000000000 ≤ x ∧ x ≤ 2000000000) : -125000000 ≤ x.tdiv 16 ∧ x.tdiv 16 ≤ 125000000 := by
  rcases Int.lt_or_le x 0 with hx | hx
  · obtain ⟨y, rfl⟩ : ∃ y : Int, x = -y := ⟨-x, by omega⟩
    rw [Int.neg_tdiv, Int.tdiv_eq_ediv_of_nonneg (by omega)]; omega
  · rw [Int.tdiv_eq_ediv_of_nonneg (by omega)]; omega
theorem c29 (ax ay bx by_ : Int) (h1 : -1000000000 ≤ ax ∧ ax ≤ 1000000000) (h2 : -1000000000 ≤ ay ∧ ay ≤ 1000000000) (h3 : -1000000000 ≤ bx ∧ bx ≤ 1000000000) (h4 : -1000000000 ≤ by_ ∧ by_ ≤ 1000000000) : pc E 29 [.agg [.int .i64 ax, .int .i64 ay], .agg [.int .i64 bx, .int .i64 by_]] = some (.int .i64 (farI ax ay bx by_)) := by
  have w1 : IntKind.i64.wrap (ax - bx) = ax - bx := wrap_small (by omega) (by omega)
  have w2 : IntKind.i64.wrap (ay - by_) = ay - by_ := wrap_small (by omega) (by omega)
  have t1 := td16 (x := ax - bx) (by omega)
  have t2 := td16 (x := ay - by_) (by omega)
  unfold farI
  generalize hu : (ax - bx).tdiv 16 = u at *
  generalize hv : (ay - by_).tdiv 16 = v at *
  have m1 := mul_bd (A := 125000000) (C := 125000000) (x := u) (y := u) (by omega) (by omega) (by omega) (by omega)
  have m2 := mul_bd (A := 125000000) (C := 125000000) (x := v) (y := v) (by omega) (by omega) (by omega) (by omega)
  have w3 : IntKind.i64.wrap u = u := wrap_small (by omega) (by omega)
  have w4 : IntKind.i64.wrap v = v := wrap_small (by omega) (by omega)
  have w5 : IntKind.i64.wrap (u * u) = u * u := wrap_small (by omega) (by omega)
  have w6 : IntKind.i64.wrap (v * v) = v * v := wrap_small (by omega) (by omega)
  have w7 : IntKind.i64.wrap (u * u + v * v) = u * u + v * v := wrap_small (by omega) (by omega)
  rw [pc_eq]; simp +contextual -implicitDefEqProofs (maxSteps := 2000000) only [go_sem, ↓reduceIte, Nat.reduceAdd, Nat.reduceMul, Nat.reduceSub, Nat.reduceEqDiff, Nat.reduceLeDiff, Nat.reduceDiv, Nat.reduceMod, Nat.reduceBEq, Nat.reduceBNe, reduceCtorEq, Int.reduceLE, Int.reduceLT, Int.reduceToNat, Int.reduceNeg, Nat.reduceLT, Int.reduceEq, Int.reduceSub, Int.reduceAdd, Int.reduceMul, Nat.reducePow, Int.reduceBEq, Int.reduceBNe, Int.reduceMod, E_29, A29, hu, hv, w1, w2, w3, w4, w5, w6, w7]
theorem c21 (a : Arm) (h : OKa a) (q0 q1 q2 : Int) : pc E 21 [av a, jv q0 q1 q2] = some (.agg ((lks a (dd q0 q1 q2)).map lkv)) := by
  have h1 := c26' a q0 q1 q2
  have h2 := c28 a h q0 q1 q2
  have v := ddV q0 q1 q2
  have b := bds h v
  obtain ⟨o0x, o0y, o1x, o1y, o2x, o2y, bx, by_⟩ := b
  have hw : 0 ≤ a.w ∧ a.w ≤ 40 := by have := h.w; omega
  generalize dd q0 q1 q2 = d at *
  have k1 := c49 _ _ 1 (by omega) v.v1 a.w hw
  have k2 := c49 _ _ 2 (by omega) v.v2 a.w hw
  have k3 := c49 _ _ 3 (by omega) v.v3 a.w hw
  have u1 := ux_bd v.v1 a.w hw
  have u2 := ux_bd v.v2 a.w hw
  have u3 := ux_bd v.v3 a.w hw
  simp only [u65, Int.natCast_one, Int.cast_ofNat_Int] at k1 k2 k3 u1 u2 u3
  unfold lks
  have hp : (-1000000000 ≤ (pp a d).x1 ∧ (pp a d).x1 ≤ 1000000000) ∧ (-1000000000 ≤ (pp a d).y1 ∧ (pp a d).y1 ≤ 1000000000) ∧ (-1000000000 ≤ (pp a d).x2 ∧ (pp a d).x2 ≤ 1000000000) ∧ (-1000000000 ≤ (pp a d).y2 ∧ (pp a d).y2 ≤ 1000000000) ∧ (-1000000000 ≤ (pp a d).x3 ∧ (pp a d).x3 ≤ 1000000000) ∧ (-1000000000 ≤ (pp a d).y3 ∧ (pp a d).y3 ≤ 1000000000) := by simp only [pp]; omega
  generalize pp a d = p at *
  obtain ⟨p1, p2, p3, p4, p5, p6⟩ := hp
  generalize a.w * 67600 * d.x1 = ox1 at *
  generalize a.w * 67600 * d.y1 = oy1 at *
  generalize a.w * 1040 * d.x2 = ox2 at *
  generalize a.w * 1040 * d.y2 = oy2 at *
  generalize a.w * 16 * d.x3 = ox3 at *
  generalize a.w * 16 * d.y3 = oy3 at *
  have n0a : IntKind.i64.wrap (0 - ox1) = -ox1 := by rw [wrap_small (by omega) (by omega)]; omega
  have n0b : IntKind.i64.wrap (0 - oy1) = -oy1 := by rw [wrap_small (by omega) (by omega)]; omega
  have g00 := c50 a.bx a.by_ oy1 (-ox1)
  rw [wrap_small (by omega) (by omega), wrap_small (by omega) (by omega), show a.by_ + -ox1 = a.by_ - ox1 by omega] at g00
  have g01 := c50 p.x1 p.y1 oy1 (-ox1)
  rw [wrap_small (by omega) (by omega), wrap_small (by omega) (by omega), show p.y1 + -ox1 = p.y1 - ox1 by omega] at g01
  have g02 := c50 p.x1 p.y1 (-oy1) ox1
  rw [wrap_small (by omega) (by omega), wrap_small (by omega) (by omega), show p.x1 + -oy1 = p.x1 - oy1 by omega] at g02
  have g03 := c50 a.bx a.by_ (-oy1) ox1
  rw [wrap_small (by omega) (by omega), wrap_small (by omega) (by omega), show a.bx + -oy1 = a.bx - oy1 by omega] at g03
  have n1a : IntKind.i64.wrap (0 - ox2) = -ox2 := by rw [wrap_small (by omega) (by omega)]; omega
  have n1b : IntKind.i64.wrap (0 - oy2) = -oy2 := by rw [wrap_small (by omega) (by omega)]; omega
  have g10 := c50 p.x1 p.y1 oy2 (-ox2)
  rw [wrap_small (by omega) (by omega), wrap_small (by omega) (by omega), show p.y1 + -ox2 = p.y1 - ox2 by omega] at g10
  have g11 := c50 p.x2 p.y2 oy2 (-ox2)
  rw [wrap_small (by omega) (by omega), wrap_small (by omega) (by omega), show p.y2 + -ox2 = p.y2 - ox2 by omega] at g11
  have g12 := c50 p.x2 p.y2 (-oy2) ox2
  rw [wrap_small (by omega) (by omega), wrap_small (by omega) (by omega), show p.x2 + -oy2 = p.x2 - oy2 by omega] at g12
  have g13 := c50 p.x1 p.y1 (-oy2) ox2
  rw [wrap_small (by omega) (by omega), wrap_small (by omega) (by omega), show p.x1 + -oy2 = p.x1 - oy2 by omega] at g13
  have n2a : IntKind.i64.wrap (0 - ox3) = -ox3 := by rw [wrap_small (by omega) (by omega)]; omega
  have n2b : IntKind.i64.wrap (0 - oy3) = -oy3 := by rw [wrap_small (by omega) (by omega)]; omega
  have g20 := c50 p.x2 p.y2 oy3 (-ox3)
  rw [wrap_small (by omega) (by omega), wrap_small (by omega) (by omega), show p.y2 + -ox3 = p.y2 - ox3 by omega] at g20
  have g21 := c50 p.x3 p.y3 oy3 (-ox3)
  rw [wrap_small (by omega) (by omega), wrap_small (by omega) (by omega), show p.y3 + -ox3 = p.y3 - ox3 by omega] at g21
  have g22 := c50 p.x3 p.y3 (-oy3) ox3
  rw [wrap_small (by omega) (by omega), wrap_small (by omega) (by omega), show p.x3 + -oy3 = p.x3 - oy3 by omega] at g22
  have g23 := c50 p.x2 p.y2 (-oy3) ox3
  rw [wrap_small (by omega) (by omega), wrap_small (by omega) (by omega), show p.x2 + -oy3 = p.x2 - oy3 by omega] at g23
  rw [pc_eq]; simp +contextual -implicitDefEqProofs (maxSteps := 2000000) only [go_sem, ↓reduceIte, Nat.reduceAdd, Nat.reduceMul, Nat.reduceSub, Nat.reduceEqDiff, Nat.reduceLeDiff, Nat.reduceDiv, Nat.reduceMod, Nat.reduceBEq, Nat.reduceBNe, reduceCtorEq, Int.reduceLE, Int.reduceLT, Int.reduceToNat, Int.reduceNeg, Nat.reduceLT, Int.reduceEq, Int.reduceSub, Int.reduceAdd, Int.reduceMul, Nat.reducePow, Int.reduceBEq, Int.reduceBNe, Int.reduceMod, E_21, A21, A21_L0_eq, A21_L0b, h1, h2, k1, k2, k3, g00, g01, g02, g03, g10, g11, g12, g13, g20, g21, g22, g23, n0a, n0b, n1a, n1b, n2a, n2b, lkc, c2, List.map_cons, List.map_nil]
  rfl
end Go.Proofs.Ytnecdcaaknhgpaa

namespace Go.Proofs.Ytnecdcaaknhgpaa
set_option maxRecDepth 100000
set_option maxHeartbeats 4000000
set_option linter.unusedSimpArgs false
set_option linter.unusedVariables false
open Go Go.Zv
def one : Arm := ⟨0, 0, 1, 1, 1, 1, -17, -17, -17, 18, 18, 18⟩
def one8 : Arm := ⟨8, 0, 1, 1, 1, 1, -17, -17, -17, 18, 18, 18⟩
theorem ok1 : OKa one := by constructor <;> simp [one]
theorem c45 : pc E 45 [] = some (av one) := by rw [pc_eq]; simp +contextual -implicitDefEqProofs (maxSteps := 2000000) only [go_sem, ↓reduceIte, Nat.reduceAdd, Nat.reduceMul, Nat.reduceSub, Nat.reduceEqDiff, Nat.reduceLeDiff, Nat.reduceDiv, Nat.reduceMod, Nat.reduceBEq, Nat.reduceBNe, reduceCtorEq, Int.reduceLE, Int.reduceLT, Int.reduceToNat, Int.reduceNeg, Nat.reduceLT, Int.reduceEq, Int.reduceSub, Int.reduceAdd, Int.reduceMul, Nat.reducePow, Int.reduceBEq, Int.reduceBNe, Int.reduceMod, E_45, A45]; rfl
theorem c14 : pc E 14 [] = some (.bool true) := by
  have h0 := c45
  have h1 : pc E 27 [av one, jv 0 0 0] = some (.agg [.int .i64 0, .int .i64 0, .int .i64 4394000, .int .i64 0, .int .i64 8788000, .int .i64 0, .int .i64 13182000, .int .i64 0]) := c27 one ok1 0 0 0
  have h2 : pc E 27 [av one, jv 9 0 (-9)] = some (.agg [.int .i64 0, .int .i64 0, .int .i64 0, .int .i64 4394000, .int .i64 0, .int .i64 8788000, .int .i64 4394000, .int .i64 8788000]) := c27 one ok1 9 0 (-9)
  have h3 : pc E 20 [av one, jv 0 0 0] = some (.agg [lkv [(0, -4394000), (4394000, -4394000), (4394000, 4394000), (0, 4394000)], lkv [(4394000, -4394000), (8788000, -4394000), (8788000, 4394000), (4394000, 4394000)], lkv [(8788000, -4394000), (13182000, -4394000), (13182000, 4394000), (8788000, 4394000)]]) := c20 one ok1 0 0 0
  have h4 : pc E 23 [av one, jv 18 0 (-17), .int .i64 1, .int .i64 (-1)] = some (.tup [jv 18 (-1) (-17), .bool true]) := c23 one 18 0 (-17) 1 (-1) (by omega) (by omega) (by omega)
  have h5 : pc E 23 [av one, jv 18 0 (-17), .int .i64 0, .int .i64 1] = some (.tup [jv 0 0 0, .bool false]) := c23 one 18 0 (-17) 0 1 (by omega) (by omega) (by omega)
  have h6 : pc E 23 [av one, jv 18 0 (-17), .int .i64 2, .int .i64 (-1)] = some (.tup [jv 0 0 0, .bool false]) := c23 one 18 0 (-17) 2 (-1) (by omega) (by omega) (by omega)
  have h7 := c15 one
  rw [okT ok1] at h7
  have h8 := c15 one8
  rw [okF (fun h => by have := h.mx; simp [one8] at this)] at h8
  have h9 : pc E 17 [av one, jv 18 (-1) (-17)] = some (.bool true) := c17 one 18 (-1) (-17)
  have h10 : pc E 17 [av one, jv 0 19 0] = some (.bool false) := c17 one 0 19 0
  have h11 : pc E 25 [av one, jv 1 0 0] = some (.agg [.int .i64 63, .int .i64 16, .int .i64 1, .int .i64 4095, .int .i64 1040, .int .i64 2, .int .i64 266175, .int .i64 67600, .int .i64 3]) := c25' one 1 0 0
  have h12 := c22 [(4394000, -4394000), (8788000, -4394000), (8788000, 4394000), (4394000, 4394000)] [(4394000, -4394000), (8788000, -4394000), (8788000, 4394000), (4394000, 4394000)] (by simp)
  simp only [lkv, List.map_cons, List.map_nil, c2, decide_true, one, one8] at h0 h1 h2 h3 h4 h5 h6 h7 h8 h9 h10 h11 h12
  rw [pc_eq]; simp +contextual -implicitDefEqProofs (maxSteps := 2000000) only [go_sem, ↓reduceIte, Nat.reduceAdd, Nat.reduceMul, Nat.reduceSub, Nat.reduceEqDiff, Nat.reduceLeDiff, Nat.reduceDiv, Nat.reduceMod, Nat.reduceBEq, Nat.reduceBNe, reduceCtorEq, Int.reduceLE, Int.reduceLT, Int.reduceToNat, Int.reduceNeg, Nat.reduceLT, Int.reduceEq, Int.reduceSub, Int.reduceAdd, Int.reduceMul, Nat.reducePow, Int.reduceBEq, Int.reduceBNe, Int.reduceMod, E_14, A14, h0, h1, h2, h3, h4, h5, h6, h7, h8, h9, h10, h11, h12]
end Go.Proofs.Ytnecdcaaknhgpaa

namespace Go.Proofs.Ytnecdcaaknhgpaa
set_option maxRecDepth 100000
set_option maxHeartbeats 4000000
set_option linter.unusedSimpArgs false
set_option linter.unusedVariables false
open Go Go.Zv
def b1 (b : UInt8) : List LV := [.int .u8 b.toNat]
theorem get_b1 {l : List UInt8} {i : Nat} {p : UInt8} (h : l[i]? = some p) : (l.map b1)[i]? = some [.int .u8 p.toNat] := by
  rw [List.getElem?_map, h]; rfl
theorem stp_f {a : Arm} {q0 q1 q2 k b : Int} (h : ¬ Lim a (st1 q0 q1 q2 k b).1 (st1 q0 q1 q2 k b).2.1 (st1 q0 q1 q2 k b).2.2) : stp a q0 q1 q2 k b = .tup [jv 0 0 0, .bool false] := by
  unfold stp; rw [if_neg]; intro hh; exact h (limB_iff.1 hh.2.2)
theorem stp_t {a : Arm} {q0 q1 q2 k b : Int} (hk : 0 ≤ k ∧ k ≤ 2) (hb : b = 1 ∨ b = -1) (h : Lim a (st1 q0 q1 q2 k b).1 (st1 q0 q1 q2 k b).2.1 (st1 q0 q1 q2 k b).2.2) : stp a q0 q1 q2 k b = .tup [jv (st1 q0 q1 q2 k b).1 (st1 q0 q1 q2 k b).2.1 (st1 q0 q1 q2 k b).2.2, .bool true] := by
  unfold stp; rw [if_pos ⟨hk, hb, limT h⟩]
theorem tbf : (true == false) = false := rfl
theorem fbt : (false == true) = false := rfl
theorem tbt : (true == true) = true := rfl
theorem fbf : (false == false) = true := rfl
theorem n01 : ¬ ((1 : Int) = 0) := by omega
theorem n02 : ¬ ((2 : Int) = 0) := by omega
theorem n12 : ¬ ((2 : Int) = 1) := by omega
theorem loop6 (a : Arm) (h : OKa a) (l : List UInt8) (hl : l.length ≤ 100) (p : Int × Int × Int) (hp : Lim a p.1 p.2.1 p.2.2) : ∃ q : Int × Int × Int, Lim a q.1 q.2.1 q.2.2 ∧
    (K E A6_L0 ⟨[(2, .vs (l.map b1)), (3, .ptr 768 0), (7, .bool true), (8, .ptr 2048 0), (9, .int .i64 0)], [], [(2048, .box [.int .i64 p.1, .int .i64 p.2.1, .int .i64 p.2.2]), (768, .box (avc a))], 0⟩).bind (blockR 0 (some [3, 7, 8]) [6, 9, 10, 11, 12, 13, 14, 15, 16, 56, 96, 109]) =
    some (.ex .nrm ⟨[(3, .ptr 768 0), (7, .bool true), (8, .ptr 2048 0)], [], [(2048, .box [.int .i64 q.1, .int .i64 q.2.1, .int .i64 q.2.2]), (768, .box (avc a))], 0⟩) := by
  have hh := loop_inv (σ := Int × Int × Int) (fun S => (K E A6_L0 S).bind (blockR 0 (some [3, 7, 8]) [6, 9, 10, 11, 12, 13, 14, 15, 16, 56, 96, 109]))
    (fun k q => ⟨[(2, .vs (l.map b1)), (3, .ptr 768 0), (7, .bool true), (8, .ptr 2048 0), (9, .int .i64 k)], [], [(2048, .box [.int .i64 q.1, .int .i64 q.2.1, .int .i64 q.2.2]), (768, .box (avc a))], 0⟩) l.length (fun k q => Lim a q.1 q.2.1 q.2.2) ?_ p hp
  · obtain ⟨q, h1, h2⟩ := hh
    refine ⟨q, h1, h2.trans ?_⟩
    show (K E A6_L0 _).bind _ = _
    rw [A6_L0_eq]; simp +contextual -implicitDefEqProofs (maxSteps := 2000000) only [go_sem, ↓reduceIte, Nat.reduceAdd, Nat.reduceMul, Nat.reduceSub, Nat.reduceEqDiff, Nat.reduceLeDiff, Nat.reduceDiv, Nat.reduceMod, Nat.reduceBEq, Nat.reduceBNe, reduceCtorEq, Int.reduceLE, Int.reduceLT, Int.reduceToNat, Int.reduceNeg, Nat.reduceLT, Int.reduceEq, Int.reduceSub, Int.reduceAdd, Int.reduceMul, Nat.reducePow, Int.reduceBEq, Int.reduceBNe, Int.reduceMod, A6_L0b, List.length_map, Int.lt_irrefl]
  · rintro k ⟨q0, q1, q2⟩ hk hq
    simp only at hq
    have hget : l[k]? = some (l[k]'hk) := List.getElem?_eq_getElem _
    generalize l[k]'hk = v at *
    have hg := get_b1 hget
    have hv : v.toNat < 256 := v.toNat_lt
    have h1 : (k : Int) < l.length := by omega
    have h0 : (0 : Int) ≤ k := by omega
    have hw := wr_succ (n := k) (by omega)
    have w0 : IntKind.i64.wrap (v.toNat : Int) = v.toNat := wrap_small (by omega) (by omega)
    have t1 : (v.toNat : Int).tmod 3 = (v.toNat : Int) % 3 := tmod_pos (by omega)
    have t2 : (v.toNat : Int).tdiv 3 = (v.toNat : Int) / 3 := Int.tdiv_eq_ediv_of_nonneg (by omega)
    have w2 : IntKind.i64.wrap ((v.toNat : Int) / 3) = (v.toNat : Int) / 3 := wrap_small (by omega) (by omega)
    have t3 : ((v.toNat : Int) / 3).tmod 2 = (v.toNat : Int) / 3 % 2 := tmod_pos (by omega)
    have m0 : (v.toNat : Int) % 3 = 0 ∨ (v.toNat : Int) % 3 = 1 ∨ (v.toNat : Int) % 3 = 2 := by omega
    have m1 : (v.toNat : Int) / 3 % 2 = 0 ∨ (v.toNat : Int) / 3 % 2 = 1 := by omega
    generalize (v.toNat : Int) % 3 = kk at *
    generalize (v.toNat : Int) / 3 % 2 = mm at *
    have j0 := h.j0
    have j1 := h.j1
    have j2 := h.j2
    have a0 := hq.a0
    have a1 := hq.a1
    have a2 := hq.a2
    rcases m0 with rfl | m0
    · rcases m1 with rfl | rfl
      · by_cases he : q0 = a.hi0
        · have f1 := c23 a q0 q1 q2 0 1 (by omega) (by omega) (by omega)
          rw [stp_f (by simp only [st1, if_true, n01, n02, n12, if_false]; intro hh; obtain ⟨k0, k1, k2⟩ := hh; omega)] at f1
          have he2 : (q0 == a.hi0) = true := by simpa using he
          refine ⟨(q0, q1, q2), hq, ?_⟩
          show (K E A6_L0 _).bind _ = (K E A6_L0 _).bind _
          conv => lhs; rw [A6_L0_eq]
          simp +contextual -implicitDefEqProofs (maxSteps := 2000000) only [go_sem, ↓reduceIte, Nat.reduceAdd, Nat.reduceMul, Nat.reduceSub, Nat.reduceEqDiff, Nat.reduceLeDiff, Nat.reduceDiv, Nat.reduceMod, Nat.reduceBEq, Nat.reduceBNe, reduceCtorEq, Int.reduceLE, Int.reduceLT, Int.reduceToNat, Int.reduceNeg, Nat.reduceLT, Int.reduceEq, Int.reduceSub, Int.reduceAdd, Int.reduceMul, Nat.reducePow, Int.reduceBEq, Int.reduceBNe, Int.reduceMod, A6_L0b, List.length_map, h0, h1, hw, hg, w0, t1, t2, w2, t3, f1, he2, beq_self_eq_true, tbf, fbt, tbt, fbf]
        · have lr : Lim a (q0 + 1) (q1) (q2) := ⟨by omega, by omega, by omega⟩
          have f1 := c23 a q0 q1 q2 0 1 (by omega) (by omega) (by omega)
          rw [stp_t (by omega) (by omega) (by simp only [st1, if_true, n01, n02, n12, if_false]; exact lr)] at f1
          have f2 := c23 a (q0 + 1) (q1) (q2) 0 (-1) (by omega) (by omega) (by omega)
          have eb : q0 + 1 + (-1) = q0 := by omega
          rw [stp_t (by omega) (by omega) (by simp only [st1, if_true, n01, n02, n12, if_false, eb]; exact hq)] at f2
          simp only [st1, if_true, n01, n02, n12, if_false, eb] at f1 f2
          have f3 := c17 a (q0 + 1) (q1) (q2)
          rw [limT lr] at f3
          have he' : (q0 == a.hi0) = false := by simpa using he
          have w5 : IntKind.i64.wrap (q0 + 1) = q0 + 1 := wrap_small (by omega) (by omega)
          refine ⟨(q0 + 1, q1, q2), lr, ?_⟩
          show (K E A6_L0 _).bind _ = (K E A6_L0 _).bind _
          conv => lhs; rw [A6_L0_eq]
          simp +contextual -implicitDefEqProofs (maxSteps := 2000000) only [go_sem, ↓reduceIte, Nat.reduceAdd, Nat.reduceMul, Nat.reduceSub, Nat.reduceEqDiff, Nat.reduceLeDiff, Nat.reduceDiv, Nat.reduceMod, Nat.reduceBEq, Nat.reduceBNe, reduceCtorEq, Int.reduceLE, Int.reduceLT, Int.reduceToNat, Int.reduceNeg, Nat.reduceLT, Int.reduceEq, Int.reduceSub, Int.reduceAdd, Int.reduceMul, Nat.reducePow, Int.reduceBEq, Int.reduceBNe, Int.reduceMod, A6_L0b, List.length_map, h0, h1, hw, hg, w0, t1, t2, w2, t3, f1, f2, f3, w5, he, he', beq_self_eq_true, bne_self_eq_false, tbf, fbt, tbt, fbf]
      · by_cases he : q0 = a.lo0
        · have f1 := c23 a q0 q1 q2 0 (-1) (by omega) (by omega) (by omega)
          rw [stp_f (by simp only [st1, if_true, n01, n02, n12, if_false]; intro hh; obtain ⟨k0, k1, k2⟩ := hh; omega)] at f1
          have he2 : (q0 == a.lo0) = true := by simpa using he
          refine ⟨(q0, q1, q2), hq, ?_⟩
          show (K E A6_L0 _).bind _ = (K E A6_L0 _).bind _
          conv => lhs; rw [A6_L0_eq]
          simp +contextual -implicitDefEqProofs (maxSteps := 2000000) only [go_sem, ↓reduceIte, Nat.reduceAdd, Nat.reduceMul, Nat.reduceSub, Nat.reduceEqDiff, Nat.reduceLeDiff, Nat.reduceDiv, Nat.reduceMod, Nat.reduceBEq, Nat.reduceBNe, reduceCtorEq, Int.reduceLE, Int.reduceLT, Int.reduceToNat, Int.reduceNeg, Nat.reduceLT, Int.reduceEq, Int.reduceSub, Int.reduceAdd, Int.reduceMul, Nat.reducePow, Int.reduceBEq, Int.reduceBNe, Int.reduceMod, A6_L0b, List.length_map, h0, h1, hw, hg, w0, t1, t2, w2, t3, f1, he2, beq_self_eq_true, tbf, fbt, tbt, fbf]
        · have lr : Lim a (q0 + (-1)) (q1) (q2) := ⟨by omega, by omega, by omega⟩
          have f1 := c23 a q0 q1 q2 0 (-1) (by omega) (by omega) (by omega)
          rw [stp_t (by omega) (by omega) (by simp only [st1, if_true, n01, n02, n12, if_false]; exact lr)] at f1
          have f2 := c23 a (q0 + (-1)) (q1) (q2) 0 1 (by omega) (by omega) (by omega)
          have eb : q0 + (-1) + 1 = q0 := by omega
          rw [stp_t (by omega) (by omega) (by simp only [st1, if_true, n01, n02, n12, if_false, eb]; exact hq)] at f2
          simp only [st1, if_true, n01, n02, n12, if_false, eb] at f1 f2
          have f3 := c17 a (q0 + (-1)) (q1) (q2)
          rw [limT lr] at f3
          have he' : (q0 == a.lo0) = false := by simpa using he
          have w5 : IntKind.i64.wrap (q0 + (-1)) = q0 + (-1) := wrap_small (by omega) (by omega)
          refine ⟨(q0 + (-1), q1, q2), lr, ?_⟩
          show (K E A6_L0 _).bind _ = (K E A6_L0 _).bind _
          conv => lhs; rw [A6_L0_eq]
          simp +contextual -implicitDefEqProofs (maxSteps := 2000000) only [go_sem, ↓reduceIte, Nat.reduceAdd, Nat.reduceMul, Nat.reduceSub, Nat.reduceEqDiff, Nat.reduceLeDiff, Nat.reduceDiv, Nat.reduceMod, Nat.reduceBEq, Nat.reduceBNe, reduceCtorEq, Int.reduceLE, Int.reduceLT, Int.reduceToNat, Int.reduceNeg, Nat.reduceLT, Int.reduceEq, Int.reduceSub, Int.reduceAdd, Int.reduceMul, Nat.reducePow, Int.reduceBEq, Int.reduceBNe, Int.reduceMod, A6_L0b, List.length_map, h0, h1, hw, hg, w0, t1, t2, w2, t3, f1, f2, f3, w5, he, he', beq_self_eq_true, bne_self_eq_false, tbf, fbt, tbt, fbf]
    rcases m0 with rfl | rfl
    · rcases m1 with rfl | rfl
      · by_cases he : q1 = a.hi1
        · have f1 := c23 a q0 q1 q2 1 1 (by omega) (by omega) (by omega)
          rw [stp_f (by simp only [st1, if_true, n01, n02, n12, if_false]; intro hh; obtain ⟨k0, k1, k2⟩ := hh; omega)] at f1
          have he2 : (q1 == a.hi1) = true := by simpa using he
          refine ⟨(q0, q1, q2), hq, ?_⟩
          show (K E A6_L0 _).bind _ = (K E A6_L0 _).bind _
          conv => lhs; rw [A6_L0_eq]
          simp +contextual -implicitDefEqProofs (maxSteps := 2000000) only [go_sem, ↓reduceIte, Nat.reduceAdd, Nat.reduceMul, Nat.reduceSub, Nat.reduceEqDiff, Nat.reduceLeDiff, Nat.reduceDiv, Nat.reduceMod, Nat.reduceBEq, Nat.reduceBNe, reduceCtorEq, Int.reduceLE, Int.reduceLT, Int.reduceToNat, Int.reduceNeg, Nat.reduceLT, Int.reduceEq, Int.reduceSub, Int.reduceAdd, Int.reduceMul, Nat.reducePow, Int.reduceBEq, Int.reduceBNe, Int.reduceMod, A6_L0b, List.length_map, h0, h1, hw, hg, w0, t1, t2, w2, t3, f1, he2, beq_self_eq_true, tbf, fbt, tbt, fbf]
        · have lr : Lim a (q0) (q1 + 1) (q2) := ⟨by omega, by omega, by omega⟩
          have f1 := c23 a q0 q1 q2 1 1 (by omega) (by omega) (by omega)
          rw [stp_t (by omega) (by omega) (by simp only [st1, if_true, n01, n02, n12, if_false]; exact lr)] at f1
          have f2 := c23 a (q0) (q1 + 1) (q2) 1 (-1) (by omega) (by omega) (by omega)
          have eb : q1 + 1 + (-1) = q1 := by omega
          rw [stp_t (by omega) (by omega) (by simp only [st1, if_true, n01, n02, n12, if_false, eb]; exact hq)] at f2
          simp only [st1, if_true, n01, n02, n12, if_false, eb] at f1 f2
          have f3 := c17 a (q0) (q1 + 1) (q2)
          rw [limT lr] at f3
          have he' : (q1 == a.hi1) = false := by simpa using he
          have w5 : IntKind.i64.wrap (q1 + 1) = q1 + 1 := wrap_small (by omega) (by omega)
          refine ⟨(q0, q1 + 1, q2), lr, ?_⟩
          show (K E A6_L0 _).bind _ = (K E A6_L0 _).bind _
          conv => lhs; rw [A6_L0_eq]
          simp +contextual -implicitDefEqProofs (maxSteps := 2000000) only [go_sem, ↓reduceIte, Nat.reduceAdd, Nat.reduceMul, Nat.reduceSub, Nat.reduceEqDiff, Nat.reduceLeDiff, Nat.reduceDiv, Nat.reduceMod, Nat.reduceBEq, Nat.reduceBNe, reduceCtorEq, Int.reduceLE, Int.reduceLT, Int.reduceToNat, Int.reduceNeg, Nat.reduceLT, Int.reduceEq, Int.reduceSub, Int.reduceAdd, Int.reduceMul, Nat.reducePow, Int.reduceBEq, Int.reduceBNe, Int.reduceMod, A6_L0b, List.length_map, h0, h1, hw, hg, w0, t1, t2, w2, t3, f1, f2, f3, w5, he, he', beq_self_eq_true, bne_self_eq_false, tbf, fbt, tbt, fbf]
      · by_cases he : q1 = a.lo1
        · have f1 := c23 a q0 q1 q2 1 (-1) (by omega) (by omega) (by omega)
          rw [stp_f (by simp only [st1, if_true, n01, n02, n12, if_false]; intro hh; obtain ⟨k0, k1, k2⟩ := hh; omega)] at f1
          have he2 : (q1 == a.lo1) = true := by simpa using he
          refine ⟨(q0, q1, q2), hq, ?_⟩
          show (K E A6_L0 _).bind _ = (K E A6_L0 _).bind _
          conv => lhs; rw [A6_L0_eq]
          simp +contextual -implicitDefEqProofs (maxSteps := 2000000) only [go_sem, ↓reduceIte, Nat.reduceAdd, Nat.reduceMul, Nat.reduceSub, Nat.reduceEqDiff, Nat.reduceLeDiff, Nat.reduceDiv, Nat.reduceMod, Nat.reduceBEq, Nat.reduceBNe, reduceCtorEq, Int.reduceLE, Int.reduceLT, Int.reduceToNat, Int.reduceNeg, Nat.reduceLT, Int.reduceEq, Int.reduceSub, Int.reduceAdd, Int.reduceMul, Nat.reducePow, Int.reduceBEq, Int.reduceBNe, Int.reduceMod, A6_L0b, List.length_map, h0, h1, hw, hg, w0, t1, t2, w2, t3, f1, he2, beq_self_eq_true, tbf, fbt, tbt, fbf]
        · have lr : Lim a (q0) (q1 + (-1)) (q2) := ⟨by omega, by omega, by omega⟩
          have f1 := c23 a q0 q1 q2 1 (-1) (by omega) (by omega) (by omega)
          rw [stp_t (by omega) (by omega) (by simp only [st1, if_true, n01, n02, n12, if_false]; exact lr)] at f1
          have f2 := c23 a (q0) (q1 + (-1)) (q2) 1 1 (by omega) (by omega) (by omega)
          have eb : q1 + (-1) + 1 = q1 := by omega
          rw [stp_t (by omega) (by omega) (by simp only [st1, if_true, n01, n02, n12, if_false, eb]; exact hq)] at f2
          simp only [st1, if_true, n01, n02, n12, if_false, eb] at f1 f2
          have f3 := c17 a (q0) (q1 + (-1)) (q2)
          rw [limT lr] at f3
          have he' : (q1 == a.lo1) = false := by simpa using he
          have w5 : IntKind.i64.wrap (q1 + (-1)) = q1 + (-1) := wrap_small (by omega) (by omega)
          refine ⟨(q0, q1 + (-1), q2), lr, ?_⟩
          show (K E A6_L0 _).bind _ = (K E A6_L0 _).bind _
          conv => lhs; rw [A6_L0_eq]
          simp +contextual -implicitDefEqProofs (maxSteps := 2000000) only [go_sem, ↓reduceIte, Nat.reduceAdd, Nat.reduceMul, Nat.reduceSub, Nat.reduceEqDiff, Nat.reduceLeDiff, Nat.reduceDiv, Nat.reduceMod, Nat.reduceBEq, Nat.reduceBNe, reduceCtorEq, Int.reduceLE, Int.reduceLT, Int.reduceToNat, Int.reduceNeg, Nat.reduceLT, Int.reduceEq, Int.reduceSub, Int.reduceAdd, Int.reduceMul, Nat.reducePow, Int.reduceBEq, Int.reduceBNe, Int.reduceMod, A6_L0b, List.length_map, h0, h1, hw, hg, w0, t1, t2, w2, t3, f1, f2, f3, w5, he, he', beq_self_eq_true, bne_self_eq_false, tbf, fbt, tbt, fbf]
    · rcases m1 with rfl | rfl
      · by_cases he : q2 = a.hi2
        · have f1 := c23 a q0 q1 q2 2 1 (by omega) (by omega) (by omega)
          rw [stp_f (by simp only [st1, if_true, n01, n02, n12, if_false]; intro hh; obtain ⟨k0, k1, k2⟩ := hh; omega)] at f1
          have he2 : (q2 == a.hi2) = true := by simpa using he
          refine ⟨(q0, q1, q2), hq, ?_⟩
          show (K E A6_L0 _).bind _ = (K E A6_L0 _).bind _
          conv => lhs; rw [A6_L0_eq]
          simp +contextual -implicitDefEqProofs (maxSteps := 2000000) only [go_sem, ↓reduceIte, Nat.reduceAdd, Nat.reduceMul, Nat.reduceSub, Nat.reduceEqDiff, Nat.reduceLeDiff, Nat.reduceDiv, Nat.reduceMod, Nat.reduceBEq, Nat.reduceBNe, reduceCtorEq, Int.reduceLE, Int.reduceLT, Int.reduceToNat, Int.reduceNeg, Nat.reduceLT, Int.reduceEq, Int.reduceSub, Int.reduceAdd, Int.reduceMul, Nat.reducePow, Int.reduceBEq, Int.reduceBNe, Int.reduceMod, A6_L0b, List.length_map, h0, h1, hw, hg, w0, t1, t2, w2, t3, f1, he2, beq_self_eq_true, tbf, fbt, tbt, fbf]
        · have lr : Lim a (q0) (q1) (q2 + 1) := ⟨by omega, by omega, by omega⟩
          have f1 := c23 a q0 q1 q2 2 1 (by omega) (by omega) (by omega)
          rw [stp_t (by omega) (by omega) (by simp only [st1, if_true, n01, n02, n12, if_false]; exact lr)] at f1
          have f2 := c23 a (q0) (q1) (q2 + 1) 2 (-1) (by omega) (by omega) (by omega)
          have eb : q2 + 1 + (-1) = q2 := by omega
          rw [stp_t (by omega) (by omega) (by simp only [st1, if_true, n01, n02, n12, if_false, eb]; exact hq)] at f2
          simp only [st1, if_true, n01, n02, n12, if_false, eb] at f1 f2
          have f3 := c17 a (q0) (q1) (q2 + 1)
          rw [limT lr] at f3
          have he' : (q2 == a.hi2) = false := by simpa using he
          have w5 : IntKind.i64.wrap (q2 + 1) = q2 + 1 := wrap_small (by omega) (by omega)
          refine ⟨(q0, q1, q2 + 1), lr, ?_⟩
          show (K E A6_L0 _).bind _ = (K E A6_L0 _).bind _
          conv => lhs; rw [A6_L0_eq]
          simp +contextual -implicitDefEqProofs (maxSteps := 2000000) only [go_sem, ↓reduceIte, Nat.reduceAdd, Nat.reduceMul, Nat.reduceSub, Nat.reduceEqDiff, Nat.reduceLeDiff, Nat.reduceDiv, Nat.reduceMod, Nat.reduceBEq, Nat.reduceBNe, reduceCtorEq, Int.reduceLE, Int.reduceLT, Int.reduceToNat, Int.reduceNeg, Nat.reduceLT, Int.reduceEq, Int.reduceSub, Int.reduceAdd, Int.reduceMul, Nat.reducePow, Int.reduceBEq, Int.reduceBNe, Int.reduceMod, A6_L0b, List.length_map, h0, h1, hw, hg, w0, t1, t2, w2, t3, f1, f2, f3, w5, he, he', beq_self_eq_true, bne_self_eq_false, tbf, fbt, tbt, fbf]
      · by_cases he : q2 = a.lo2
        · have f1 := c23 a q0 q1 q2 2 (-1) (by omega) (by omega) (by omega)
          rw [stp_f (by simp only [st1, if_true, n01, n02, n12, if_false]; intro hh; obtain ⟨k0, k1, k2⟩ := hh; omega)] at f1
          have he2 : (q2 == a.lo2) = true := by simpa using he
          refine ⟨(q0, q1, q2), hq, ?_⟩
          show (K E A6_L0 _).bind _ = (K E A6_L0 _).bind _
          conv => lhs; rw [A6_L0_eq]
          simp +contextual -implicitDefEqProofs (maxSteps := 2000000) only [go_sem, ↓reduceIte, Nat.reduceAdd, Nat.reduceMul, Nat.reduceSub, Nat.reduceEqDiff, Nat.reduceLeDiff, Nat.reduceDiv, Nat.reduceMod, Nat.reduceBEq, Nat.reduceBNe, reduceCtorEq, Int.reduceLE, Int.reduceLT, Int.reduceToNat, Int.reduceNeg, Nat.reduceLT, Int.reduceEq, Int.reduceSub, Int.reduceAdd, Int.reduceMul, Nat.reducePow, Int.reduceBEq, Int.reduceBNe, Int.reduceMod, A6_L0b, List.length_map, h0, h1, hw, hg, w0, t1, t2, w2, t3, f1, he2, beq_self_eq_true, tbf, fbt, tbt, fbf]
        · have lr : Lim a (q0) (q1) (q2 + (-1)) := ⟨by omega, by omega, by omega⟩
          have f1 := c23 a q0 q1 q2 2 (-1) (by omega) (by omega) (by omega)
          rw [stp_t (by omega) (by omega) (by simp only [st1, if_true, n01, n02, n12, if_false]; exact lr)] at f1
          have f2 := c23 a (q0) (q1) (q2 + (-1)) 2 1 (by omega) (by omega) (by omega)
          have eb : q2 + (-1) + 1 = q2 := by omega
          rw [stp_t (by omega) (by omega) (by simp only [st1, if_true, n01, n02, n12, if_false, eb]; exact hq)] at f2
          simp only [st1, if_true, n01, n02, n12, if_false, eb] at f1 f2
          have f3 := c17 a (q0) (q1) (q2 + (-1))
          rw [limT lr] at f3
          have he' : (q2 == a.lo2) = false := by simpa using he
          have w5 : IntKind.i64.wrap (q2 + (-1)) = q2 + (-1) := wrap_small (by omega) (by omega)
          refine ⟨(q0, q1, q2 + (-1)), lr, ?_⟩
          show (K E A6_L0 _).bind _ = (K E A6_L0 _).bind _
          conv => lhs; rw [A6_L0_eq]
          simp +contextual -implicitDefEqProofs (maxSteps := 2000000) only [go_sem, ↓reduceIte, Nat.reduceAdd, Nat.reduceMul, Nat.reduceSub, Nat.reduceEqDiff, Nat.reduceLeDiff, Nat.reduceDiv, Nat.reduceMod, Nat.reduceBEq, Nat.reduceBNe, reduceCtorEq, Int.reduceLE, Int.reduceLT, Int.reduceToNat, Int.reduceNeg, Nat.reduceLT, Int.reduceEq, Int.reduceSub, Int.reduceAdd, Int.reduceMul, Nat.reducePow, Int.reduceBEq, Int.reduceBNe, Int.reduceMod, A6_L0b, List.length_map, h0, h1, hw, hg, w0, t1, t2, w2, t3, f1, f2, f3, w5, he, he', beq_self_eq_true, bne_self_eq_false, tbf, fbt, tbt, fbf]
theorem law6 (a : Arm) (r0 r1 r2 : Int) (h0 : 0 ≤ r0 ∧ r0 ≤ 255) (h1 : 0 ≤ r1 ∧ r1 ≤ 255) (h2 : 0 ≤ r2 ∧ r2 ≤ 255) (l : List UInt8) :
    pc E 6 [av a, .agg [.int .u8 r0, .int .u8 r1, .int .u8 r2], .vs (l.map b1)] = some (.bool true) := by
  have e0 := c14
  have e1 := c15 a
  cases ho : okB a with
  | false =>
    rw [ho] at e1
    rw [pc_eq]; simp +contextual -implicitDefEqProofs (maxSteps := 2000000) only [go_sem, ↓reduceIte, Nat.reduceAdd, Nat.reduceMul, Nat.reduceSub, Nat.reduceEqDiff, Nat.reduceLeDiff, Nat.reduceDiv, Nat.reduceMod, Nat.reduceBEq, Nat.reduceBNe, reduceCtorEq, Int.reduceLE, Int.reduceLT, Int.reduceToNat, Int.reduceNeg, Nat.reduceLT, Int.reduceEq, Int.reduceSub, Int.reduceAdd, Int.reduceMul, Nat.reducePow, Int.reduceBEq, Int.reduceBNe, Int.reduceMod, E_6, A6, e0, e1]
  | true =>
    have h := okB_iff.1 ho
    rw [ho] at e1
    by_cases hl : (100 : Int) < l.length
    · rw [pc_eq]; simp +contextual -implicitDefEqProofs (maxSteps := 2000000) only [go_sem, ↓reduceIte, Nat.reduceAdd, Nat.reduceMul, Nat.reduceSub, Nat.reduceEqDiff, Nat.reduceLeDiff, Nat.reduceDiv, Nat.reduceMod, Nat.reduceBEq, Nat.reduceBNe, reduceCtorEq, Int.reduceLE, Int.reduceLT, Int.reduceToNat, Int.reduceNeg, Nat.reduceLT, Int.reduceEq, Int.reduceSub, Int.reduceAdd, Int.reduceMul, Nat.reducePow, Int.reduceBEq, Int.reduceBNe, Int.reduceMod, E_6, A6, e0, e1, List.length_map, hl]
    · have e5 := c19 a h r0 r1 r2 h0 h1 h2
      have lm := jt_lim h r0 r1 r2
      generalize jt a.lo0 a.hi0 r0 = p0 at *
      generalize jt a.lo1 a.hi1 r1 = p1 at *
      generalize jt a.lo2 a.hi2 r2 = p2 at *
      obtain ⟨⟨q0, q1, q2⟩, hq, lp⟩ := loop6 a h l (by omega) (p0, p1, p2) lm
      simp only at hq lp
      have e6 := c17 a q0 q1 q2
      rw [limT hq] at e6
      rw [pc_eq]; simp +contextual -implicitDefEqProofs (maxSteps := 2000000) only [go_sem, ↓reduceIte, Nat.reduceAdd, Nat.reduceMul, Nat.reduceSub, Nat.reduceEqDiff, Nat.reduceLeDiff, Nat.reduceDiv, Nat.reduceMod, Nat.reduceBEq, Nat.reduceBNe, reduceCtorEq, Int.reduceLE, Int.reduceLT, Int.reduceToNat, Int.reduceNeg, Nat.reduceLT, Int.reduceEq, Int.reduceSub, Int.reduceAdd, Int.reduceMul, Nat.reducePow, Int.reduceBEq, Int.reduceBNe, Int.reduceMod, E_6, A6, e0, e1, e5, e6, List.length_map, hl, lp]
end Go.Proofs.Ytnecdcaaknhgpaa

namespace Go.Proofs.Ytnecdcaaknhgpaa
set_option maxRecDepth 100000
set_option maxHeartbeats 4000000
set_option linter.unusedSimpArgs false
set_option linter.unusedVariables false
open Go Go.Zv
theorem dot_bd {ux uy vx vy U V : Int} (hU : 0 ≤ U) (hV : 0 ≤ V) (h1 : ux * ux + uy * uy = U * U) (h2 : vx * vx + vy * vy = V * V) : -(U * V) ≤ ux * vx + uy * vy ∧ ux * vx + uy * vy ≤ U * V := by
  refine abs_of_sq (Int.mul_nonneg hU hV) ?_
  have e : (ux * vx + uy * vy) * (ux * vx + uy * vy) + (ux * vy - uy * vx) * (ux * vy - uy * vx) = (ux * ux + uy * uy) * (vx * vx + vy * vy) := by grind
  have k := sq_nn (ux * vy - uy * vx)
  rw [h1, h2] at e
  have e2 : U * U * (V * V) = U * V * (U * V) := by grind
  omega
theorem tri_up {ux uy vx vy wx wy U V W : Int} (hU : 0 ≤ U) (hV : 0 ≤ V) (hW : 0 ≤ W) (h1 : ux * ux + uy * uy = U * U) (h2 : vx * vx + vy * vy = V * V) (h3 : wx * wx + wy * wy = W * W) :
    (ux + vx + wx) * (ux + vx + wx) + (uy + vy + wy) * (uy + vy + wy) ≤ (U + V + W) * (U + V + W) := by
  have a := (dot_bd hU hV h1 h2).2
  have b := (dot_bd hU hW h1 h3).2
  have c := (dot_bd hV hW h2 h3).2
  have e : (ux + vx + wx) * (ux + vx + wx) + (uy + vy + wy) * (uy + vy + wy) = (ux * ux + uy * uy) + (vx * vx + vy * vy) + (wx * wx + wy * wy) + 2 * (ux * vx + uy * vy) + 2 * (ux * wx + uy * wy) + 2 * (vx * wx + vy * wy) := by grind
  have e2 : (U + V + W) * (U + V + W) = U * U + V * V + W * W + 2 * (U * V) + 2 * (U * W) + 2 * (V * W) := by grind
  rw [e, e2, h1, h2, h3]; omega
theorem sq_mono {x y : Int} (h0 : 0 ≤ x) (h : x ≤ y) : x * x ≤ y * y := Int.mul_le_mul h h h0 (by omega)
theorem tri_lo {ux uy vx vy wx wy U V W : Int} (hU : 0 ≤ U) (hV : 0 ≤ V) (hW : 0 ≤ W) (h1 : ux * ux + uy * uy = U * U) (h2 : vx * vx + vy * vy = V * V) (h3 : wx * wx + wy * wy = W * W) (hT : V + W ≤ U) :
    (U - V - W) * (U - V - W) ≤ (ux + vx + wx) * (ux + vx + wx) + (uy + vy + wy) * (uy + vy + wy) := by
  have a := (dot_bd hU hV h1 h2).1
  have b := (dot_bd hU hW h1 h3).1
  have c := (dot_bd hV hW h2 h3).2
  -- s = v + w, P = u . s
  have es : (vx + wx) * (vx + wx) + (vy + wy) * (vy + wy) = V * V + W * W + 2 * (vx * wx + vy * wy) := by rw [← h2, ← h3]; grind
  have hS : (vx + wx) * (vx + wx) + (vy + wy) * (vy + wy) ≤ (V + W) * (V + W) := by
    have e2 : (V + W) * (V + W) = V * V + W * W + 2 * (V * W) := by grind
    omega
  have hS0 : 0 ≤ (vx + wx) * (vx + wx) + (vy + wy) * (vy + wy) := by have := sq_nn (vx + wx); have := sq_nn (vy + wy); omega
  have ed : (ux + vx + wx) * (ux + vx + wx) + (uy + vy + wy) * (uy + vy + wy) = U * U + 2 * (ux * (vx + wx) + uy * (vy + wy)) + ((vx + wx) * (vx + wx) + (vy + wy) * (vy + wy)) := by rw [← h1]; grind
  have cs : (ux * (vx + wx) + uy * (vy + wy)) * (ux * (vx + wx) + uy * (vy + wy)) ≤ U * U * ((vx + wx) * (vx + wx) + (vy + wy) * (vy + wy)) := by
    have e : (ux * (vx + wx) + uy * (vy + wy)) * (ux * (vx + wx) + uy * (vy + wy)) + (ux * (vy + wy) - uy * (vx + wx)) * (ux * (vy + wy) - uy * (vx + wx)) = (ux * ux + uy * uy) * ((vx + wx) * (vx + wx) + (vy + wy) * (vy + wy)) := by grind
    have k := sq_nn (ux * (vy + wy) - uy * (vx + wx))
    rw [h1] at e
    omega
  have hP : -(U * V) - U * W ≤ ux * (vx + wx) + uy * (vy + wy) := by
    have e : ux * (vx + wx) + uy * (vy + wy) = (ux * vx + uy * vy) + (ux * wx + uy * wy) := by grind
    omega
  rw [ed]
  generalize (vx + wx) * (vx + wx) + (vy + wy) * (vy + wy) = S at *
  generalize ux * (vx + wx) + uy * (vy + wy) = P at *
  have hT0 : 0 ≤ U - V - W := by omega
  rcases Int.lt_or_le P 0 with hp | hp
  · by_cases hU0 : U = 0
    · subst hU0
      have : V = 0 := by omega
      have : W = 0 := by omega
      subst V; subst W
      simp at hP; omega
    · have k1 : 0 ≤ U * U + P := by
        have e : U * (V + W) = U * V + U * W := by grind
        have := Int.mul_le_mul_of_nonneg_left hT hU
        omega
      have k2 : U * (U - V - W) ≤ U * U + P := by
        have e : U * (U - V - W) = U * U - U * V - U * W := by grind
        omega
      have k3 := sq_mono (Int.mul_nonneg hU hT0) k2
      have e1 : U * (U - V - W) * (U * (U - V - W)) = U * U * ((U - V - W) * (U - V - W)) := by grind
      have e2 : (U * U + P) * (U * U + P) = U * U * (U * U + 2 * P) + P * P := by grind
      have e3 : U * U * (U * U + 2 * P + S) = U * U * (U * U + 2 * P) + U * U * S := by grind
      have k4 : U * U * ((U - V - W) * (U - V - W)) ≤ U * U * (U * U + 2 * P + S) := by omega
      exact Int.le_of_mul_le_mul_left k4 (Int.mul_pos (by omega) (by omega))
  · have k := sq_mono hT0 (show U - V - W ≤ U by omega)
    omega
end Go.Proofs.Ytnecdcaaknhgpaa

namespace Go.Proofs.Ytnecdcaaknhgpaa
set_option maxRecDepth 100000
set_option maxHeartbeats 4000000
set_option linter.unusedSimpArgs false
set_option linter.unusedVariables false
open Go Go.Zv
theorem td_16 (x : Int) : (16 * x).tdiv 16 = x := by
  rw [Int.mul_comm]; exact Int.mul_tdiv_cancel _ (by omega)
/-- what the tool center point lies from the base, over 16 -/
def vX (a : Arm) (d : Pts) : Int := a.l0 * 4225 * d.x1 + a.l1 * 65 * d.x2 + a.l2 * d.x3
def vY (a : Arm) (d : Pts) : Int := a.l0 * 4225 * d.y1 + a.l1 * 65 * d.y2 + a.l2 * d.y3
theorem far3 (a : Arm) (d : Pts) : farI (pp a d).x3 (pp a d).y3 a.bx a.by_ = vX a d * vX a d + vY a d * vY a d := by
  have e1 : (pp a d).x3 - a.bx = 16 * vX a d := by simp only [pp, vX]; grind
  have e2 : (pp a d).y3 - a.by_ = 16 * vY a d := by simp only [pp, vY]; grind
  unfold farI
  rw [e1, e2, td_16, td_16]
theorem nrm {x y r u m t : Int} (hv : VD x y r) (e : u * r = t) : (m * u * x) * (m * u * x) + (m * u * y) * (m * u * y) = (m * t) * (m * t) := by
  have h := hv.eq
  have e2 : (m * u * x) * (m * u * x) + (m * u * y) * (m * u * y) = (m * u) * (m * u) * (x * x + y * y) := by grind
  rw [e2, h, ← e]; grind
theorem reach {a : Arm} (h : OKa a) {d : Pts} (v : DV d) : vX a d * vX a d + vY a d * vY a d ≤ ((a.l0 + a.l1 + a.l2) * 274625) * ((a.l0 + a.l1 + a.l2) * 274625) ∧
    ∀ m : Int, 0 ≤ m → (m = 2 * a.l0 - (a.l0 + a.l1 + a.l2) ∨ m = 2 * a.l1 - (a.l0 + a.l1 + a.l2) ∨ m = 2 * a.l2 - (a.l0 + a.l1 + a.l2)) → (m * 274625) * (m * 274625) ≤ vX a d * vX a d + vY a d * vY a d := by
  have n1 := nrm (m := a.l0) (u := 4225) (t := 274625) v.v1 (by simp [p65])
  have n2 := nrm (m := a.l1) (u := 65) (t := 274625) v.v2 (by simp [p65])
  have n3 := nrm (m := a.l2) (u := 1) (t := 274625) v.v3 (by simp [p65])
  simp only [Int.mul_one] at n3
  have k0 := h.l0
  have k1 := h.l1
  have k2 := h.l2
  constructor
  · have t := tri_up (by omega) (by omega) (by omega) n1 n2 n3
    have e : a.l0 * 274625 + a.l1 * 274625 + a.l2 * 274625 = (a.l0 + a.l1 + a.l2) * 274625 := by omega
    rw [e] at t
    exact t
  · intro m hm hc
    rcases hc with rfl | rfl | rfl
    · have t := tri_lo (by omega) (by omega) (by omega) n1 n2 n3 (by omega)
      have e : a.l0 * 274625 - a.l1 * 274625 - a.l2 * 274625 = (2 * a.l0 - (a.l0 + a.l1 + a.l2)) * 274625 := by omega
      rw [e] at t
      exact t
    · have t := tri_lo (by omega) (by omega) (by omega) n2 n1 n3 (by omega)
      have e : a.l1 * 274625 - a.l0 * 274625 - a.l2 * 274625 = (2 * a.l1 - (a.l0 + a.l1 + a.l2)) * 274625 := by omega
      rw [e, Int.add_comm (a.l1 * 65 * d.x2), Int.add_comm (a.l1 * 65 * d.y2)] at t
      exact t
    · have t := tri_lo (by omega) (by omega) (by omega) n3 n1 n2 (by omega)
      have e : a.l2 * 274625 - a.l0 * 274625 - a.l1 * 274625 = (2 * a.l2 - (a.l0 + a.l1 + a.l2)) * 274625 := by omega
      rw [e] at t
      have e1 : a.l2 * d.x3 + a.l0 * 4225 * d.x1 + a.l1 * 65 * d.x2 = vX a d := by unfold vX; omega
      have e2 : a.l2 * d.y3 + a.l0 * 4225 * d.y1 + a.l1 * 65 * d.y2 = vY a d := by unfold vY; omega
      rw [e1, e2] at t
      exact t
theorem mx_or (x y : Int) : mxI x y = x ∨ mxI x y = y := by unfold mxI; split <;> simp
theorem td_4394 (x : Int) : (x * 4394000).tdiv 16 = x * 274625 := by
  have e : x * 4394000 = 16 * (x * 274625) := by omega
  rw [e, td_16]
theorem law7 (a : Arm) (r0 r1 r2 : Int) (h0 : 0 ≤ r0 ∧ r0 ≤ 255) (h1 : 0 ≤ r1 ∧ r1 ≤ 255) (h2 : 0 ≤ r2 ∧ r2 ≤ 255) :
    pc E 7 [av a, .agg [.int .u8 r0, .int .u8 r1, .int .u8 r2]] = some (.bool true) := by
  have e0 := c14
  have e1 := c15 a
  cases ho : okB a with
  | false =>
    rw [ho] at e1
    rw [pc_eq]; simp +contextual -implicitDefEqProofs (maxSteps := 2000000) only [go_sem, ↓reduceIte, Nat.reduceAdd, Nat.reduceMul, Nat.reduceSub, Nat.reduceEqDiff, Nat.reduceLeDiff, Nat.reduceDiv, Nat.reduceMod, Nat.reduceBEq, Nat.reduceBNe, reduceCtorEq, Int.reduceLE, Int.reduceLT, Int.reduceToNat, Int.reduceNeg, Nat.reduceLT, Int.reduceEq, Int.reduceSub, Int.reduceAdd, Int.reduceMul, Nat.reducePow, Int.reduceBEq, Int.reduceBNe, Int.reduceMod, E_7, A7, e0, e1]
  | true =>
    have h := okB_iff.1 ho
    rw [ho] at e1
    have e5 := c19 a h r0 r1 r2 h0 h1 h2
    generalize jt a.lo0 a.hi0 r0 = p0 at *
    generalize jt a.lo1 a.hi1 r1 = p1 at *
    generalize jt a.lo2 a.hi2 r2 = p2 at *
    have e6 := c27 a h p0 p1 p2
    have v := ddV p0 p1 p2
    generalize dd p0 p1 p2 = d at *
    have b := bds h v
    obtain ⟨o0x, o0y, o1x, o1y, o2x, o2y, bx, by_⟩ := b
    have hp : (-1000000000 ≤ (pp a d).x3 ∧ (pp a d).x3 ≤ 1000000000) ∧ (-1000000000 ≤ (pp a d).y3 ∧ (pp a d).y3 ≤ 1000000000) := by simp only [pp]; omega
    have e7 := c29 (pp a d).x3 (pp a d).y3 a.bx a.by_ hp.1 hp.2 (by omega) (by omega)
    have f3 := far3 a d
    have rc := reach h v
    rw [← f3] at rc
    generalize farI (pp a d).x3 (pp a d).y3 a.bx a.by_ = f at *
    obtain ⟨r1, r2⟩ := rc
    have k0 := h.l0
    have k1 := h.l1
    have k2 := h.l2
    have hM : mxI (mxI a.l0 a.l1) a.l2 = a.l0 ∨ mxI (mxI a.l0 a.l1) a.l2 = a.l1 ∨ mxI (mxI a.l0 a.l1) a.l2 = a.l2 := by
      have := mx_or a.l0 a.l1
      have := mx_or (mxI a.l0 a.l1) a.l2
      omega
    generalize hMe : mxI (mxI a.l0 a.l1) a.l2 = M at *
    have hN := mx_or 0 (2 * M - (a.l0 + a.l1 + a.l2))
    have hN0 : 0 ≤ mxI 0 (2 * M - (a.l0 + a.l1 + a.l2)) := by unfold mxI; split <;> omega
    have hN1 : mxI 0 (2 * M - (a.l0 + a.l1 + a.l2)) ≤ 120 := by omega
    have w1 : IntKind.i64.wrap (a.l0 + a.l1) = a.l0 + a.l1 := wrap_small (by omega) (by omega)
    have w2 : IntKind.i64.wrap (a.l0 + a.l1 + a.l2) = a.l0 + a.l1 + a.l2 := wrap_small (by omega) (by omega)
    have w3 : IntKind.i64.wrap (2 * M) = 2 * M := wrap_small (by omega) (by omega)
    have w4 : IntKind.i64.wrap (2 * M - (a.l0 + a.l1 + a.l2)) = 2 * M - (a.l0 + a.l1 + a.l2) := wrap_small (by omega) (by omega)
    have k : ∀ m : Int, 0 ≤ m → m ≤ 120 → IntKind.i64.wrap (m * 4394000) = m * 4394000 ∧ (m * 4394000).tdiv 16 = m * 274625 ∧ IntKind.i64.wrap (m * 274625) = m * 274625 ∧ IntKind.i64.wrap ((m * 274625) * (m * 274625)) = (m * 274625) * (m * 274625) := fun m x y => by
      have m1 := mul_bd (A := 33000000) (C := 33000000) (x := m * 274625) (y := m * 274625) (by omega) (by omega) (by omega) (by omega)
      exact ⟨wrap_small (by omega) (by omega), td_4394 m, wrap_small (by omega) (by omega), wrap_small (by omega) (by omega)⟩
    obtain ⟨x1, x2, x3, x4⟩ := k (a.l0 + a.l1 + a.l2) (by omega) (by omega)
    obtain ⟨y1, y2, y3, y4⟩ := k _ hN0 hN1
    have fin : (mxI 0 (2 * M - (a.l0 + a.l1 + a.l2)) * 274625) * (mxI 0 (2 * M - (a.l0 + a.l1 + a.l2)) * 274625) ≤ f := by
      rcases hN with hz | hz
      · rw [hz]
        have := sq_nn (vX a d)
        have := sq_nn (vY a d)
        omega
      · refine r2 _ hN0 ?_
        omega
    generalize hS : a.l0 + a.l1 + a.l2 = S at *
    generalize hN' : mxI 0 (2 * M - S) = N at *
    rw [pc_eq]; simp +contextual -implicitDefEqProofs (maxSteps := 2000000) only [go_sem, ↓reduceIte, Nat.reduceAdd, Nat.reduceMul, Nat.reduceSub, Nat.reduceEqDiff, Nat.reduceLeDiff, Nat.reduceDiv, Nat.reduceMod, Nat.reduceBEq, Nat.reduceBNe, reduceCtorEq, Int.reduceLE, Int.reduceLT, Int.reduceToNat, Int.reduceNeg, Nat.reduceLT, Int.reduceEq, Int.reduceSub, Int.reduceAdd, Int.reduceMul, Nat.reducePow, Int.reduceBEq, Int.reduceBNe, Int.reduceMod, E_7, A7, e0, e1, e5, e6, e7, hMe, hS, hN', w1, w2, w3, w4, x1, x2, x3, x4, y1, y2, y3, y4, r1, fin, beq_self_eq_true]
end Go.Proofs.Ytnecdcaaknhgpaa

namespace Go.Proofs.Ytnecdcaaknhgpaa
set_option maxRecDepth 100000
set_option maxHeartbeats 4000000
set_option linter.unusedSimpArgs false
set_option linter.unusedVariables false
open Go Go.Zv
/-- X + iY and X' + iY' are the same number times x + iy and x' + iy' -/
def Rot (x y x' y' X Y X' Y' : Int) : Prop := ∃ A B, X = x * A - y * B ∧ Y = x * B + y * A ∧ X' = x' * A - y' * B ∧ Y' = x' * B + y' * A
theorem Rot.one (x y x' y' : Int) : Rot x y x' y' x y x' y' := ⟨1, 0, by omega, by omega, by omega, by omega⟩
theorem Rot.smul {x y x' y' X Y X' Y' : Int} (m : Int) (h : Rot x y x' y' X Y X' Y') : Rot x y x' y' (m * X) (m * Y) (m * X') (m * Y') := by
  obtain ⟨A, B, rfl, rfl, rfl, rfl⟩ := h
  exact ⟨m * A, m * B, by grind, by grind, by grind, by grind⟩
theorem Rot.add {x y x' y' X Y X' Y' U V U' V' : Int} (h : Rot x y x' y' X Y X' Y') (k : Rot x y x' y' U V U' V') : Rot x y x' y' (X + U) (Y + V) (X' + U') (Y' + V') := by
  obtain ⟨A, B, rfl, rfl, rfl, rfl⟩ := h
  obtain ⟨C, D, rfl, rfl, rfl, rfl⟩ := k
  exact ⟨A + C, B + D, by grind, by grind, by grind, by grind⟩
theorem Rot.cs {x y x' y' X Y X' Y' : Int} (q : Int) (h : Rot x y x' y' X Y X' Y') : Rot x y x' y' (cx X Y q) (cy X Y q) (cx X' Y' q) (cy X' Y' q) := by
  obtain ⟨A, B, rfl, rfl, rfl, rfl⟩ := h
  unfold cx cy
  generalize csI q = c
  exact ⟨A * c.1 - B * c.2, A * c.2 + B * c.1, by grind, by grind, by grind, by grind⟩
theorem Rot.right {x y x' y' X Y X' Y' : Int} (h : Rot x y x' y' X Y X' Y') : Rot x y x' y' Y (-X) Y' (-X') := by
  obtain ⟨A, B, rfl, rfl, rfl, rfl⟩ := h
  exact ⟨B, -A, by grind, by grind, by grind, by grind⟩
theorem Rot.norm {R x y x' y' X Y X' Y' : Int} (h : Rot x y x' y' X Y X' Y') (n : x * x + y * y = R) (n' : x' * x' + y' * y' = R) : X * X + Y * Y = X' * X' + Y' * Y' := by
  obtain ⟨A, B, rfl, rfl, rfl, rfl⟩ := h
  have e : (x * A - y * B) * (x * A - y * B) + (x * B + y * A) * (x * B + y * A) = (x * x + y * y) * (A * A + B * B) := by grind
  have e' : (x' * A - y' * B) * (x' * A - y' * B) + (x' * B + y' * A) * (x' * B + y' * A) = (x' * x' + y' * y') * (A * A + B * B) := by grind
  rw [e, e', n, n']
abbrev B9 (x : Int) : Prop := -1000000000 ≤ x ∧ x ≤ 1000000000
abbrev P2 (x y : Int) : LV := .agg [.int .i64 x, .int .i64 y]
theorem fq {R x y x' y' X Y X' Y' ax ay bx b_ ax' ay' bx' b_' : Int} (h : Rot x y x' y' X Y X' Y') (n : x * x + y * y = R) (n' : x' * x' + y' * y' = R)
    (o : B9 ax ∧ B9 ay ∧ B9 bx ∧ B9 b_ ∧ B9 ax' ∧ B9 ay' ∧ B9 bx' ∧ B9 b_')
    (e1 : ax - bx = 16 * X) (e2 : ay - b_ = 16 * Y) (e3 : ax' - bx' = 16 * X') (e4 : ay' - b_' = 16 * Y') :
    ∃ F : Int, pc E 29 [P2 ax ay, P2 bx b_] = some (.int .i64 F) ∧ pc E 29 [P2 ax' ay', P2 bx' b_'] = some (.int .i64 F) := by
  obtain ⟨o1, o2, o3, o4, o5, o6, o7, o8⟩ := o
  refine ⟨X * X + Y * Y, ?_, ?_⟩
  · rw [c29 ax ay bx b_ o1 o2 o3 o4]; unfold farI; rw [e1, e2, td_16, td_16]
  · rw [c29 ax' ay' bx' b_' o5 o6 o7 o8, h.norm n n']; unfold farI; rw [e3, e4, td_16, td_16]
structure PB (a : Arm) (p : Pts) (ox oy : Int) : Prop where
  bx : -439400000 ≤ a.bx ∧ a.bx ≤ 439400000
  by_ : -439400000 ≤ a.by_ ∧ a.by_ ≤ 439400000
  x1 : -970000000 ≤ p.x1 ∧ p.x1 ≤ 970000000
  y1 : -970000000 ≤ p.y1 ∧ p.y1 ≤ 970000000
  x2 : -970000000 ≤ p.x2 ∧ p.x2 ≤ 970000000
  y2 : -970000000 ≤ p.y2 ∧ p.y2 ≤ 970000000
  x3 : -970000000 ≤ p.x3 ∧ p.x3 ≤ 970000000
  y3 : -970000000 ≤ p.y3 ∧ p.y3 ≤ 970000000
  ox : -17576000 ≤ ox ∧ ox ≤ 17576000
  oy : -17576000 ≤ oy ∧ oy ≤ 17576000
theorem pb {a : Arm} (h : OKa a) {d : Pts} (v : DV d) : PB a (pp a d) (a.w * 16 * d.x3) (a.w * 16 * d.y3) := by
  obtain ⟨o0x, o0y, o1x, o1y, o2x, o2y, bx, by_⟩ := bds h v
  have b := v.v3.bd (n := 3)
  have w := h.w
  have m1 := mul_bd (A := 64) (C := 274625) (x := a.w * 16) (y := d.x3) (by omega) (by omega) (by omega) (by omega)
  have m2 := mul_bd (A := 64) (C := 274625) (x := a.w * 16) (y := d.y3) (by omega) (by omega) (by omega) (by omega)
  constructor <;> (try simp only [pp]) <;> omega
theorem far_0 {a : Arm} (h : OKa a) (d d2 : Pts) (v : DV d) (v2 : DV d2)  (r1 : Rot d.x1 d.y1 d2.x1 d2.y1 d.x1 d.y1 d2.x1 d2.y1) (r2 : Rot d.x1 d.y1 d2.x1 d2.y1 d.x2 d.y2 d2.x2 d2.y2) (r3 : Rot d.x1 d.y1 d2.x1 d2.y1 d.x3 d.y3 d2.x3 d2.y3) : (∃ F : Int, pc E 29 [P2 (pp a d).x1 (pp a d).y1, P2 a.bx a.by_] = some (.int .i64 F) ∧ pc E 29 [P2 (pp a d2).x1 (pp a d2).y1, P2 a.bx a.by_] = some (.int .i64 F)) ∧
  (∃ F : Int, pc E 29 [P2 (pp a d).x2 (pp a d).y2, P2 a.bx a.by_] = some (.int .i64 F) ∧ pc E 29 [P2 (pp a d2).x2 (pp a d2).y2, P2 a.bx a.by_] = some (.int .i64 F)) ∧
  (∃ F : Int, pc E 29 [P2 (pp a d).x2 (pp a d).y2, P2 (pp a d).x1 (pp a d).y1] = some (.int .i64 F) ∧ pc E 29 [P2 (pp a d2).x2 (pp a d2).y2, P2 (pp a d2).x1 (pp a d2).y1] = some (.int .i64 F)) ∧
  (∃ F : Int, pc E 29 [P2 (pp a d).x3 (pp a d).y3, P2 a.bx a.by_] = some (.int .i64 F) ∧ pc E 29 [P2 (pp a d2).x3 (pp a d2).y3, P2 a.bx a.by_] = some (.int .i64 F)) ∧
  (∃ F : Int, pc E 29 [P2 (pp a d).x3 (pp a d).y3, P2 (pp a d).x1 (pp a d).y1] = some (.int .i64 F) ∧ pc E 29 [P2 (pp a d2).x3 (pp a d2).y3, P2 (pp a d2).x1 (pp a d2).y1] = some (.int .i64 F)) ∧
  (∃ F : Int, pc E 29 [P2 (pp a d).x3 (pp a d).y3, P2 (pp a d).x2 (pp a d).y2] = some (.int .i64 F) ∧ pc E 29 [P2 (pp a d2).x3 (pp a d2).y3, P2 (pp a d2).x2 (pp a d2).y2] = some (.int .i64 F)) ∧
  (∃ F : Int, pc E 29 [P2 ((pp a d).x2 + a.w * 16 * d.y3) ((pp a d).y2 - a.w * 16 * d.x3), P2 a.bx a.by_] = some (.int .i64 F) ∧ pc E 29 [P2 ((pp a d2).x2 + a.w * 16 * d2.y3) ((pp a d2).y2 - a.w * 16 * d2.x3), P2 a.bx a.by_] = some (.int .i64 F)) ∧
  (∃ F : Int, pc E 29 [P2 ((pp a d).x3 + a.w * 16 * d.y3) ((pp a d).y3 - a.w * 16 * d.x3), P2 a.bx a.by_] = some (.int .i64 F) ∧ pc E 29 [P2 ((pp a d2).x3 + a.w * 16 * d2.y3) ((pp a d2).y3 - a.w * 16 * d2.x3), P2 a.bx a.by_] = some (.int .i64 F)) ∧
  (∃ F : Int, pc E 29 [P2 ((pp a d).x3 - a.w * 16 * d.y3) ((pp a d).y3 + a.w * 16 * d.x3), P2 a.bx a.by_] = some (.int .i64 F) ∧ pc E 29 [P2 ((pp a d2).x3 - a.w * 16 * d2.y3) ((pp a d2).y3 + a.w * 16 * d2.x3), P2 a.bx a.by_] = some (.int .i64 F)) ∧
  (∃ F : Int, pc E 29 [P2 ((pp a d).x2 - a.w * 16 * d.y3) ((pp a d).y2 + a.w * 16 * d.x3), P2 a.bx a.by_] = some (.int .i64 F) ∧ pc E 29 [P2 ((pp a d2).x2 - a.w * 16 * d2.y3) ((pp a d2).y2 + a.w * 16 * d2.x3), P2 a.bx a.by_] = some (.int .i64 F)) := by
  obtain ⟨bx, by_, b1, b2, b3, b4, b5, b6, ox, oy⟩ := pb h v
  obtain ⟨_, _, c1, c2, c3, c4, c5, c6, px, py⟩ := pb h v2
  have n := v.v1.eq
  have n2 := v2.v1.eq
  refine ⟨fq (r1.smul (a.l0 * 4225)) n n2 ?_ ?_ ?_ ?_ ?_, fq ((r1.smul (a.l0 * 4225)).add (r2.smul (a.l1 * 65))) n n2 ?_ ?_ ?_ ?_ ?_, fq (r2.smul (a.l1 * 65)) n n2 ?_ ?_ ?_ ?_ ?_, fq (((r1.smul (a.l0 * 4225)).add (r2.smul (a.l1 * 65))).add (r3.smul (a.l2 * 1))) n n2 ?_ ?_ ?_ ?_ ?_, fq ((r2.smul (a.l1 * 65)).add (r3.smul (a.l2 * 1))) n n2 ?_ ?_ ?_ ?_ ?_, fq (r3.smul (a.l2 * 1)) n n2 ?_ ?_ ?_ ?_ ?_, fq (((r3.right.smul (a.w)).add (r1.smul (a.l0 * 4225))).add (r2.smul (a.l1 * 65))) n n2 ?_ ?_ ?_ ?_ ?_, fq ((((r3.right.smul (a.w)).add (r1.smul (a.l0 * 4225))).add (r2.smul (a.l1 * 65))).add (r3.smul (a.l2 * 1))) n n2 ?_ ?_ ?_ ?_ ?_, fq ((((r3.right.smul (-a.w)).add (r1.smul (a.l0 * 4225))).add (r2.smul (a.l1 * 65))).add (r3.smul (a.l2 * 1))) n n2 ?_ ?_ ?_ ?_ ?_, fq (((r3.right.smul (-a.w)).add (r1.smul (a.l0 * 4225))).add (r2.smul (a.l1 * 65))) n n2 ?_ ?_ ?_ ?_ ?_⟩
  all_goals first | omega | (simp only [pp]; grind)
theorem far_1 {a : Arm} (h : OKa a) (d d2 : Pts) (v : DV d) (v2 : DV d2) (s1x : d2.x1 = d.x1) (s1y : d2.y1 = d.y1) (r2 : Rot d.x2 d.y2 d2.x2 d2.y2 d.x2 d.y2 d2.x2 d2.y2) (r3 : Rot d.x2 d.y2 d2.x2 d2.y2 d.x3 d.y3 d2.x3 d2.y3) : (∃ F : Int, pc E 29 [P2 (pp a d).x2 (pp a d).y2, P2 (pp a d).x1 (pp a d).y1] = some (.int .i64 F) ∧ pc E 29 [P2 (pp a d2).x2 (pp a d2).y2, P2 (pp a d2).x1 (pp a d2).y1] = some (.int .i64 F)) ∧
  (∃ F : Int, pc E 29 [P2 (pp a d).x3 (pp a d).y3, P2 (pp a d).x1 (pp a d).y1] = some (.int .i64 F) ∧ pc E 29 [P2 (pp a d2).x3 (pp a d2).y3, P2 (pp a d2).x1 (pp a d2).y1] = some (.int .i64 F)) ∧
  (∃ F : Int, pc E 29 [P2 (pp a d).x3 (pp a d).y3, P2 (pp a d).x2 (pp a d).y2] = some (.int .i64 F) ∧ pc E 29 [P2 (pp a d2).x3 (pp a d2).y3, P2 (pp a d2).x2 (pp a d2).y2] = some (.int .i64 F)) ∧
  (∃ F : Int, pc E 29 [P2 ((pp a d).x2 + a.w * 16 * d.y3) ((pp a d).y2 - a.w * 16 * d.x3), P2 (pp a d).x1 (pp a d).y1] = some (.int .i64 F) ∧ pc E 29 [P2 ((pp a d2).x2 + a.w * 16 * d2.y3) ((pp a d2).y2 - a.w * 16 * d2.x3), P2 (pp a d2).x1 (pp a d2).y1] = some (.int .i64 F)) ∧
  (∃ F : Int, pc E 29 [P2 ((pp a d).x3 + a.w * 16 * d.y3) ((pp a d).y3 - a.w * 16 * d.x3), P2 (pp a d).x1 (pp a d).y1] = some (.int .i64 F) ∧ pc E 29 [P2 ((pp a d2).x3 + a.w * 16 * d2.y3) ((pp a d2).y3 - a.w * 16 * d2.x3), P2 (pp a d2).x1 (pp a d2).y1] = some (.int .i64 F)) ∧
  (∃ F : Int, pc E 29 [P2 ((pp a d).x3 - a.w * 16 * d.y3) ((pp a d).y3 + a.w * 16 * d.x3), P2 (pp a d).x1 (pp a d).y1] = some (.int .i64 F) ∧ pc E 29 [P2 ((pp a d2).x3 - a.w * 16 * d2.y3) ((pp a d2).y3 + a.w * 16 * d2.x3), P2 (pp a d2).x1 (pp a d2).y1] = some (.int .i64 F)) ∧
  (∃ F : Int, pc E 29 [P2 ((pp a d).x2 - a.w * 16 * d.y3) ((pp a d).y2 + a.w * 16 * d.x3), P2 (pp a d).x1 (pp a d).y1] = some (.int .i64 F) ∧ pc E 29 [P2 ((pp a d2).x2 - a.w * 16 * d2.y3) ((pp a d2).y2 + a.w * 16 * d2.x3), P2 (pp a d2).x1 (pp a d2).y1] = some (.int .i64 F)) := by
  obtain ⟨bx, by_, b1, b2, b3, b4, b5, b6, ox, oy⟩ := pb h v
  obtain ⟨_, _, c1, c2, c3, c4, c5, c6, px, py⟩ := pb h v2
  have n := v.v2.eq
  have n2 := v2.v2.eq
  refine ⟨fq (r2.smul (a.l1 * 65)) n n2 ?_ ?_ ?_ ?_ ?_, fq ((r2.smul (a.l1 * 65)).add (r3.smul (a.l2 * 1))) n n2 ?_ ?_ ?_ ?_ ?_, fq (r3.smul (a.l2 * 1)) n n2 ?_ ?_ ?_ ?_ ?_, fq ((r3.right.smul (a.w)).add (r2.smul (a.l1 * 65))) n n2 ?_ ?_ ?_ ?_ ?_, fq (((r3.right.smul (a.w)).add (r2.smul (a.l1 * 65))).add (r3.smul (a.l2 * 1))) n n2 ?_ ?_ ?_ ?_ ?_, fq (((r3.right.smul (-a.w)).add (r2.smul (a.l1 * 65))).add (r3.smul (a.l2 * 1))) n n2 ?_ ?_ ?_ ?_ ?_, fq ((r3.right.smul (-a.w)).add (r2.smul (a.l1 * 65))) n n2 ?_ ?_ ?_ ?_ ?_⟩
  all_goals first | omega | (simp only [pp, s1x, s1y]; grind)
theorem far_2 {a : Arm} (h : OKa a) (d d2 : Pts) (v : DV d) (v2 : DV d2) (s1x : d2.x1 = d.x1) (s1y : d2.y1 = d.y1) (s2x : d2.x2 = d.x2) (s2y : d2.y2 = d.y2) (r3 : Rot d.x3 d.y3 d2.x3 d2.y3 d.x3 d.y3 d2.x3 d2.y3) : (∃ F : Int, pc E 29 [P2 (pp a d).x3 (pp a d).y3, P2 (pp a d).x2 (pp a d).y2] = some (.int .i64 F) ∧ pc E 29 [P2 (pp a d2).x3 (pp a d2).y3, P2 (pp a d2).x2 (pp a d2).y2] = some (.int .i64 F)) ∧
  (∃ F : Int, pc E 29 [P2 ((pp a d).x2 + a.w * 16 * d.y3) ((pp a d).y2 - a.w * 16 * d.x3), P2 (pp a d).x2 (pp a d).y2] = some (.int .i64 F) ∧ pc E 29 [P2 ((pp a d2).x2 + a.w * 16 * d2.y3) ((pp a d2).y2 - a.w * 16 * d2.x3), P2 (pp a d2).x2 (pp a d2).y2] = some (.int .i64 F)) ∧
  (∃ F : Int, pc E 29 [P2 ((pp a d).x3 + a.w * 16 * d.y3) ((pp a d).y3 - a.w * 16 * d.x3), P2 (pp a d).x2 (pp a d).y2] = some (.int .i64 F) ∧ pc E 29 [P2 ((pp a d2).x3 + a.w * 16 * d2.y3) ((pp a d2).y3 - a.w * 16 * d2.x3), P2 (pp a d2).x2 (pp a d2).y2] = some (.int .i64 F)) ∧
  (∃ F : Int, pc E 29 [P2 ((pp a d).x3 - a.w * 16 * d.y3) ((pp a d).y3 + a.w * 16 * d.x3), P2 (pp a d).x2 (pp a d).y2] = some (.int .i64 F) ∧ pc E 29 [P2 ((pp a d2).x3 - a.w * 16 * d2.y3) ((pp a d2).y3 + a.w * 16 * d2.x3), P2 (pp a d2).x2 (pp a d2).y2] = some (.int .i64 F)) ∧
  (∃ F : Int, pc E 29 [P2 ((pp a d).x2 - a.w * 16 * d.y3) ((pp a d).y2 + a.w * 16 * d.x3), P2 (pp a d).x2 (pp a d).y2] = some (.int .i64 F) ∧ pc E 29 [P2 ((pp a d2).x2 - a.w * 16 * d2.y3) ((pp a d2).y2 + a.w * 16 * d2.x3), P2 (pp a d2).x2 (pp a d2).y2] = some (.int .i64 F)) := by
  obtain ⟨bx, by_, b1, b2, b3, b4, b5, b6, ox, oy⟩ := pb h v
  obtain ⟨_, _, c1, c2, c3, c4, c5, c6, px, py⟩ := pb h v2
  have n := v.v3.eq
  have n2 := v2.v3.eq
  refine ⟨fq (r3.smul (a.l2 * 1)) n n2 ?_ ?_ ?_ ?_ ?_, fq (r3.right.smul (a.w)) n n2 ?_ ?_ ?_ ?_ ?_, fq ((r3.right.smul (a.w)).add (r3.smul (a.l2 * 1))) n n2 ?_ ?_ ?_ ?_ ?_, fq ((r3.right.smul (-a.w)).add (r3.smul (a.l2 * 1))) n n2 ?_ ?_ ?_ ?_ ?_, fq (r3.right.smul (-a.w)) n n2 ?_ ?_ ?_ ?_ ?_⟩
  all_goals first | omega | (simp only [pp, s1x, s1y, s2x, s2y]; grind)
end Go.Proofs.Ytnecdcaaknhgpaa

namespace Go.Proofs.Ytnecdcaaknhgpaa
set_option maxRecDepth 100000
set_option maxHeartbeats 4000000
set_option linter.unusedSimpArgs false
set_option linter.unusedVariables false
open Go Go.Zv
theorem cs9 : ∀ k : Nat, k < 36 → cs ((k + 9) % 36) = (-(cs k).2, (cs k).1) := by decide
theorem csI9 (q : Int) : csI (q + 9) = (-(csI q).2, (csI q).1) := by
  unfold csI
  have h1 : 0 ≤ q % 36 := by omega
  have h2 : q % 36 < 36 := by omega
  have h := cs9 (q % 36).toNat (by omega)
  rw [← h]
  congr 1
  omega
theorem cx9 (x y q : Int) : cx x y (q + 9) = -(cy x y q) := by unfold cx cy; rw [csI9]; simp only; grind
theorem cy9 (x y q : Int) : cy x y (q + 9) = cx x y q := by unfold cx cy; rw [csI9]; simp only; grind
theorem sh9 (x y q r : Int) : cx (cx x y (q + 9)) (cy x y (q + 9)) r = cx (cx x y q) (cy x y q) (r + 9) ∧ cy (cx x y (q + 9)) (cy x y (q + 9)) r = cy (cx x y q) (cy x y q) (r + 9) := by
  rw [cx9, cy9, cx9, cy9]
  generalize cx x y q = u
  generalize cy x y q = v
  unfold cx cy
  exact ⟨by grind, by grind⟩
theorem sh9n (x y q r : Int) (n : Nat) : cx (cx x y (q + 9 * n)) (cy x y (q + 9 * n)) (r - 9 * n) = cx (cx x y q) (cy x y q) r ∧ cy (cx x y (q + 9 * n)) (cy x y (q + 9 * n)) (r - 9 * n) = cy (cx x y q) (cy x y q) r := by
  induction n generalizing r with
  | zero => simp
  | succ n ih =>
    have e : q + 9 * ((n + 1 : Nat) : Int) = (q + 9 * n) + 9 := by omega
    have k := sh9 x y (q + 9 * n) (r - 9 * (n + 1 : Nat))
    rw [← e, show r - 9 * ((n + 1 : Nat) : Int) + 9 = r - 9 * n by omega] at k
    exact ⟨k.1.trans (ih r).1, k.2.trans (ih r).2⟩
theorem sh9i (x y q r t : Int) (h : 0 ≤ t) : cx (cx x y (q + 9 * t)) (cy x y (q + 9 * t)) (r - 9 * t) = cx (cx x y q) (cy x y q) r ∧ cy (cx x y (q + 9 * t)) (cy x y (q + 9 * t)) (r - 9 * t) = cy (cx x y q) (cy x y q) r := by
  obtain ⟨n, rfl⟩ : ∃ n : Nat, t = n := ⟨t.toNat, by omega⟩
  exact sh9n x y q r n
theorem swp (x y q r : Int) : cx (cx x y q) (cy x y q) r = cx (cx x y r) (cy x y r) q ∧ cy (cx x y q) (cy x y q) r = cy (cx x y r) (cy x y r) q := by
  unfold cx cy
  generalize csI q = a
  generalize csI r = b
  exact ⟨by grind, by grind⟩
/-- the directions that stay -/
structure Stay (k : Int) (d e : Pts) : Prop where
  a : k ≠ 0 → e.x1 = d.x1 ∧ e.y1 = d.y1
  b : k ≠ 1 → e.x2 = d.x2 ∧ e.y2 = d.y2
  c : k ≠ 2 → e.x3 = d.x3 ∧ e.y3 = d.y3
theorem stay0 (q0 q1 q2 t : Int) (h : 0 ≤ t) : Stay 0 (dd q0 q1 q2) (dd (q0 + 9 * t) (q1 - 9 * t) q2) := by
  have k := sh9i 1 0 q0 q1 t h
  constructor
  · intro h; exact absurd rfl h
  · intro _; exact k
  · intro _; simp only [dd]; rw [k.1, k.2]; exact ⟨rfl, rfl⟩
theorem stay1 (q0 q1 q2 t : Int) (h : 0 ≤ t) : Stay 1 (dd q0 q1 q2) (dd q0 (q1 + 9 * t) (q2 - 9 * t)) := by
  have k := sh9i (cx 1 0 q0) (cy 1 0 q0) q1 q2 t h
  constructor
  · intro _; exact ⟨rfl, rfl⟩
  · intro h; exact absurd rfl h
  · intro _; exact k
theorem stay0x (q0 q1 q2 : Int) : Stay 0 (dd q0 q1 q2) (dd q1 q0 q2) := by
  have k := swp 1 0 q1 q0
  constructor
  · intro h; exact absurd rfl h
  · intro _; exact k
  · intro _; simp only [dd]; rw [k.1, k.2]; exact ⟨rfl, rfl⟩
theorem stay1x (q0 q1 q2 : Int) : Stay 1 (dd q0 q1 q2) (dd q0 q2 q1) := by
  have k := swp (cx 1 0 q0) (cy 1 0 q0) q2 q1
  constructor
  · intro _; exact ⟨rfl, rfl⟩
  · intro h; exact absurd rfl h
  · intro _; exact k
end Go.Proofs.Ytnecdcaaknhgpaa

namespace Go.Proofs.Ytnecdcaaknhgpaa
set_option maxRecDepth 100000
set_option maxHeartbeats 4000000
set_option linter.unusedSimpArgs false
set_option linter.unusedVariables false
open Go Go.Zv
theorem wrap8 {n : Int} (h1 : 0 ≤ n) (h2 : n ≤ 255) : IntKind.u8.wrap n = n := by
  simp [IntKind.wrap, IntKind.signed, IntKind.bits]; omega
/-- the arm moved by a whole step -/
def sh (a : Arm) (x y : Int) : Arm := { a with bx := x, by_ := y }
theorem law5 (a : Arm) (r0 r1 r2 r3 r4 r5 r6 : Int) (h0 : 0 ≤ r0 ∧ r0 ≤ 255) (h1 : 0 ≤ r1 ∧ r1 ≤ 255) (h2 : 0 ≤ r2 ∧ r2 ≤ 255) (h3 : 0 ≤ r3 ∧ r3 ≤ 255) (h4 : 0 ≤ r4 ∧ r4 ≤ 255) (h5 : -128 ≤ r5 ∧ r5 ≤ 127) (h6 : -128 ≤ r6 ∧ r6 ≤ 127) :
    pc E 5 [av a, .agg [.int .u8 r0, .int .u8 r1, .int .u8 r2], .int .u8 r3, .int .u8 r4, .agg [.int .i8 r5, .int .i8 r6]] = some (.bool true) := by
  have e0 := c14
  have e1 := c15 a
  cases ho : okB a with
  | false =>
    rw [ho] at e1
    rw [pc_eq]; simp +contextual -implicitDefEqProofs (maxSteps := 2000000) only [go_sem, ↓reduceIte, Nat.reduceAdd, Nat.reduceMul, Nat.reduceSub, Nat.reduceEqDiff, Nat.reduceLeDiff, Nat.reduceDiv, Nat.reduceMod, Nat.reduceBEq, Nat.reduceBNe, reduceCtorEq, Int.reduceLE, Int.reduceLT, Int.reduceToNat, Int.reduceNeg, Nat.reduceLT, Int.reduceEq, Int.reduceSub, Int.reduceAdd, Int.reduceMul, Nat.reducePow, Int.reduceBEq, Int.reduceBNe, Int.reduceMod, E_5, A5, e0, e1]
  | true =>
    have h := okB_iff.1 ho
    rw [ho] at e1
    have e5 := c19 a h r0 r1 r2 h0 h1 h2
    have lm := jt_lim h r0 r1 r2
    have j0 := h.j0
    have j1 := h.j1
    have j2 := h.j2
    generalize jt a.lo0 a.hi0 r0 = q0 at *
    generalize jt a.lo1 a.hi1 r1 = q1 at *
    generalize jt a.lo2 a.hi2 r2 = q2 at *
    obtain ⟨m0, m1, m2⟩ := lm
    have u3 : IntKind.i64.wrap r3 = r3 := wrap_small (by omega) (by omega)
    have u5 : IntKind.i64.wrap r5 = r5 := wrap_small (by omega) (by omega)
    have u6 : IntKind.i64.wrap r6 = r6 := wrap_small (by omega) (by omega)
    have u7 : IntKind.i64.wrap (16 * r5) = 16 * r5 := wrap_small (by omega) (by omega)
    have u8 : IntKind.i64.wrap (16 * r6) = 16 * r6 := wrap_small (by omega) (by omega)
    have t3 : r3.tmod 2 = r3 % 2 := tmod_pos h3.1
    have t4 : r4.tmod 5 = r4 % 5 := tmod_pos h4.1
    have k3 : r3 % 2 = 0 ∨ r3 % 2 = 1 := by omega
    have k4 : r4 % 5 = 4 ∨ (0 ≤ r4 % 5 ∧ r4 % 5 ≤ 3) := by omega
    have v := ddV q0 q1 q2
    obtain ⟨_, _, _, _, _, _, bx, by_⟩ := bds h v
    have u9 : IntKind.i64.wrap (a.bx + 16 * r5) = a.bx + 16 * r5 := wrap_small (by omega) (by omega)
    have u10 : IntKind.i64.wrap (a.by_ + 16 * r6) = a.by_ + 16 * r6 := wrap_small (by omega) (by omega)
    have f1 := c27 a h q0 q1 q2
    have f2 := c25' a q0 q1 q2
    have e6 := c15 (sh a (a.bx + 16 * r5) (a.by_ + 16 * r6))
    have f3 := c27 (sh a (a.bx + 16 * r5) (a.by_ + 16 * r6))
    have w1 : IntKind.i64.wrap (a.bx + 16 * r5 - a.bx) = 16 * r5 := by rw [wrap_small (by omega) (by omega)]; omega
    have w2 : IntKind.i64.wrap (a.by_ + 16 * r6 - a.by_) = 16 * r6 := by rw [wrap_small (by omega) (by omega)]; omega
    have d1 : (pp (sh a (a.bx + 16 * r5) (a.by_ + 16 * r6)) (dd q0 q1 q2)).x1 - (pp a (dd q0 q1 q2)).x1 = 16 * r5 := by simp only [pp, sh]; omega
    have d2 : (pp (sh a (a.bx + 16 * r5) (a.by_ + 16 * r6)) (dd q0 q1 q2)).y1 - (pp a (dd q0 q1 q2)).y1 = 16 * r6 := by simp only [pp, sh]; omega
    have d3 : (pp (sh a (a.bx + 16 * r5) (a.by_ + 16 * r6)) (dd q0 q1 q2)).x2 - (pp a (dd q0 q1 q2)).x2 = 16 * r5 := by simp only [pp, sh]; omega
    have d4 : (pp (sh a (a.bx + 16 * r5) (a.by_ + 16 * r6)) (dd q0 q1 q2)).y2 - (pp a (dd q0 q1 q2)).y2 = 16 * r6 := by simp only [pp, sh]; omega
    have d5 : (pp (sh a (a.bx + 16 * r5) (a.by_ + 16 * r6)) (dd q0 q1 q2)).x3 - (pp a (dd q0 q1 q2)).x3 = 16 * r5 := by simp only [pp, sh]; omega
    have d6 : (pp (sh a (a.bx + 16 * r5) (a.by_ + 16 * r6)) (dd q0 q1 q2)).y3 - (pp a (dd q0 q1 q2)).y3 = 16 * r6 := by simp only [pp, sh]; omega
    have st0 := stay0 q0 q1 q2 (r4 % 5)
    have st1 := stay1 q0 q1 q2 (r4 % 5)
    have sx0 := stay0x q0 q1 q2
    have sx1 := stay1x q0 q1 q2
    have hf3 : okB (sh a (a.bx + 16 * r5) (a.by_ + 16 * r6)) = true → pc E 27 [av (sh a (a.bx + 16 * r5) (a.by_ + 16 * r6)), jv q0 q1 q2] = some (.agg (ppv (sh a (a.bx + 16 * r5) (a.by_ + 16 * r6)) (pp (sh a (a.bx + 16 * r5) (a.by_ + 16 * r6)) (dd q0 q1 q2)))) := fun k => f3 (okB_iff.1 k) q0 q1 q2
    clear f3
    generalize pp (sh a (a.bx + 16 * r5) (a.by_ + 16 * r6)) (dd q0 q1 q2) = p' at *
    generalize pp a (dd q0 q1 q2) = p at *
    generalize okB (sh a (a.bx + 16 * r5) (a.by_ + 16 * r6)) = os at *
    generalize hX : a.bx + 16 * r5 = X at *
    generalize hY : a.by_ + 16 * r6 = Y at *
    unfold ppv at f1 hf3
    simp only [sh] at e6 hf3
    unfold ddv at f2
    have fin00 : r3 % 2 = 0 → r4 % 5 = 4 → pc E 5 [av a, .agg [.int .u8 r0, .int .u8 r1, .int .u8 r2], .int .u8 r3, .int .u8 r4, .agg [.int .i8 r5, .int .i8 r6]] = some (.bool true) := fun k3 k4 => by
      have g1 := c17 a q1 q0 q2
      have g2 := c25' a q1 q0 q2
      have s := sx0
      unfold ddv at g2
      obtain ⟨s3, s4⟩ := s.b (by omega)
      obtain ⟨s5, s6⟩ := s.c (by omega)
      clear st0 st1 sx0 sx1 s
      generalize dd q1 q0 q2 = e at *
      generalize dd q0 q1 q2 = d at *
      rw [s3, s4, s5, s6] at g2
      have z : (r4 % 5 == 4) = true := by simpa using k4
      generalize limB a q1 q0 q2 = lb at *
      cases os
      · cases lb <;> (rw [pc_eq]; simp +contextual -implicitDefEqProofs (maxSteps := 2000000) only [go_sem, ↓reduceIte, Nat.reduceAdd, Nat.reduceMul, Nat.reduceSub, Nat.reduceEqDiff, Nat.reduceLeDiff, Nat.reduceDiv, Nat.reduceMod, Nat.reduceBEq, Nat.reduceBNe, reduceCtorEq, Int.reduceLE, Int.reduceLT, Int.reduceToNat, Int.reduceNeg, Nat.reduceLT, Int.reduceEq, Int.reduceSub, Int.reduceAdd, Int.reduceMul, Nat.reducePow, Int.reduceBEq, Int.reduceBNe, Int.reduceMod, E_5, A5, A5_L1_eq, A5_L1b, A5_L0_eq, A5_L0b, e0, e1, e5, e6, f1, f2, g1, g2, u3, t3, t4, k3, u5, u6, u7, u8, u9, u10, hX, hY, w1, w2, d1, d2, d3, d4, d5, d6, z, k4, bne_self_eq_false, beq_self_eq_true])
      · cases lb <;> (rw [pc_eq]; simp +contextual -implicitDefEqProofs (maxSteps := 2000000) only [go_sem, ↓reduceIte, Nat.reduceAdd, Nat.reduceMul, Nat.reduceSub, Nat.reduceEqDiff, Nat.reduceLeDiff, Nat.reduceDiv, Nat.reduceMod, Nat.reduceBEq, Nat.reduceBNe, reduceCtorEq, Int.reduceLE, Int.reduceLT, Int.reduceToNat, Int.reduceNeg, Nat.reduceLT, Int.reduceEq, Int.reduceSub, Int.reduceAdd, Int.reduceMul, Nat.reducePow, Int.reduceBEq, Int.reduceBNe, Int.reduceMod, E_5, A5, A5_L1_eq, A5_L1b, A5_L0_eq, A5_L0b, e0, e1, e5, e6, (hf3 rfl), f1, f2, g1, g2, u3, t3, t4, k3, u5, u6, u7, u8, u9, u10, hX, hY, w1, w2, d1, d2, d3, d4, d5, d6, z, k4, bne_self_eq_false, beq_self_eq_true])
    have fin01 : r3 % 2 = 0 → (0 ≤ r4 % 5 ∧ r4 % 5 ≤ 3) → pc E 5 [av a, .agg [.int .u8 r0, .int .u8 r1, .int .u8 r2], .int .u8 r3, .int .u8 r4, .agg [.int .i8 r5, .int .i8 r6]] = some (.bool true) := fun k3 k4 => by
      have g1 := c17 a (q0 + 9 * (r4 % 5)) (q1 - 9 * (r4 % 5)) q2
      have g2 := c25' a (q0 + 9 * (r4 % 5)) (q1 - 9 * (r4 % 5)) q2
      have s := (st0 k4.1)
      unfold ddv at g2
      obtain ⟨s3, s4⟩ := s.b (by omega)
      obtain ⟨s5, s6⟩ := s.c (by omega)
      clear st0 st1 sx0 sx1 s
      generalize dd (q0 + 9 * (r4 % 5)) (q1 - 9 * (r4 % 5)) q2 = e at *
      generalize dd q0 q1 q2 = d at *
      rw [s3, s4, s5, s6] at g2
      have z : (r4 % 5 == 4) = false := by simp; omega
      have z2 : ¬ (r4 % 5 = 4) := by omega
      have y1 : IntKind.u8.wrap (r4 % 5) = r4 % 5 := wrap8 (by omega) (by omega)
      have y2 : IntKind.i64.wrap (r4 % 5) = r4 % 5 := wrap_small (by omega) (by omega)
      have y3 : IntKind.i64.wrap (9 * (r4 % 5)) = 9 * (r4 % 5) := wrap_small (by omega) (by omega)
      have y4 : IntKind.i64.wrap (q0 + 9 * (r4 % 5)) = q0 + 9 * (r4 % 5) := wrap_small (by omega) (by omega)
      have y5 : IntKind.i64.wrap (q1 - 9 * (r4 % 5)) = q1 - 9 * (r4 % 5) := wrap_small (by omega) (by omega)
      generalize limB a (q0 + 9 * (r4 % 5)) (q1 - 9 * (r4 % 5)) q2 = lb at *
      cases os
      · cases lb <;> (rw [pc_eq]; simp +contextual -implicitDefEqProofs (maxSteps := 2000000) only [go_sem, ↓reduceIte, Nat.reduceAdd, Nat.reduceMul, Nat.reduceSub, Nat.reduceEqDiff, Nat.reduceLeDiff, Nat.reduceDiv, Nat.reduceMod, Nat.reduceBEq, Nat.reduceBNe, reduceCtorEq, Int.reduceLE, Int.reduceLT, Int.reduceToNat, Int.reduceNeg, Nat.reduceLT, Int.reduceEq, Int.reduceSub, Int.reduceAdd, Int.reduceMul, Nat.reducePow, Int.reduceBEq, Int.reduceBNe, Int.reduceMod, E_5, A5, A5_L1_eq, A5_L1b, A5_L0_eq, A5_L0b, e0, e1, e5, e6, f1, f2, g1, g2, u3, t3, t4, k3, u5, u6, u7, u8, u9, u10, hX, hY, w1, w2, d1, d2, d3, d4, d5, d6, z, z2, y1, y2, y3, y4, y5, bne_self_eq_false, beq_self_eq_true])
      · cases lb <;> (rw [pc_eq]; simp +contextual -implicitDefEqProofs (maxSteps := 2000000) only [go_sem, ↓reduceIte, Nat.reduceAdd, Nat.reduceMul, Nat.reduceSub, Nat.reduceEqDiff, Nat.reduceLeDiff, Nat.reduceDiv, Nat.reduceMod, Nat.reduceBEq, Nat.reduceBNe, reduceCtorEq, Int.reduceLE, Int.reduceLT, Int.reduceToNat, Int.reduceNeg, Nat.reduceLT, Int.reduceEq, Int.reduceSub, Int.reduceAdd, Int.reduceMul, Nat.reducePow, Int.reduceBEq, Int.reduceBNe, Int.reduceMod, E_5, A5, A5_L1_eq, A5_L1b, A5_L0_eq, A5_L0b, e0, e1, e5, e6, (hf3 rfl), f1, f2, g1, g2, u3, t3, t4, k3, u5, u6, u7, u8, u9, u10, hX, hY, w1, w2, d1, d2, d3, d4, d5, d6, z, z2, y1, y2, y3, y4, y5, bne_self_eq_false, beq_self_eq_true])
    have fin10 : r3 % 2 = 1 → r4 % 5 = 4 → pc E 5 [av a, .agg [.int .u8 r0, .int .u8 r1, .int .u8 r2], .int .u8 r3, .int .u8 r4, .agg [.int .i8 r5, .int .i8 r6]] = some (.bool true) := fun k3 k4 => by
      have g1 := c17 a q0 q2 q1
      have g2 := c25' a q0 q2 q1
      have s := sx1
      unfold ddv at g2
      obtain ⟨s1, s2⟩ := s.a (by omega)
      obtain ⟨s5, s6⟩ := s.c (by omega)
      clear st0 st1 sx0 sx1 s
      generalize dd q0 q2 q1 = e at *
      generalize dd q0 q1 q2 = d at *
      rw [s1, s2, s5, s6] at g2
      have z : (r4 % 5 == 4) = true := by simpa using k4
      generalize limB a q0 q2 q1 = lb at *
      cases os
      · cases lb <;> (rw [pc_eq]; simp +contextual -implicitDefEqProofs (maxSteps := 2000000) only [go_sem, ↓reduceIte, Nat.reduceAdd, Nat.reduceMul, Nat.reduceSub, Nat.reduceEqDiff, Nat.reduceLeDiff, Nat.reduceDiv, Nat.reduceMod, Nat.reduceBEq, Nat.reduceBNe, reduceCtorEq, Int.reduceLE, Int.reduceLT, Int.reduceToNat, Int.reduceNeg, Nat.reduceLT, Int.reduceEq, Int.reduceSub, Int.reduceAdd, Int.reduceMul, Nat.reducePow, Int.reduceBEq, Int.reduceBNe, Int.reduceMod, E_5, A5, A5_L1_eq, A5_L1b, A5_L0_eq, A5_L0b, e0, e1, e5, e6, f1, f2, g1, g2, u3, t3, t4, k3, u5, u6, u7, u8, u9, u10, hX, hY, w1, w2, d1, d2, d3, d4, d5, d6, z, k4, bne_self_eq_false, beq_self_eq_true])
      · cases lb <;> (rw [pc_eq]; simp +contextual -implicitDefEqProofs (maxSteps := 2000000) only [go_sem, ↓reduceIte, Nat.reduceAdd, Nat.reduceMul, Nat.reduceSub, Nat.reduceEqDiff, Nat.reduceLeDiff, Nat.reduceDiv, Nat.reduceMod, Nat.reduceBEq, Nat.reduceBNe, reduceCtorEq, Int.reduceLE, Int.reduceLT, Int.reduceToNat, Int.reduceNeg, Nat.reduceLT, Int.reduceEq, Int.reduceSub, Int.reduceAdd, Int.reduceMul, Nat.reducePow, Int.reduceBEq, Int.reduceBNe, Int.reduceMod, E_5, A5, A5_L1_eq, A5_L1b, A5_L0_eq, A5_L0b, e0, e1, e5, e6, (hf3 rfl), f1, f2, g1, g2, u3, t3, t4, k3, u5, u6, u7, u8, u9, u10, hX, hY, w1, w2, d1, d2, d3, d4, d5, d6, z, k4, bne_self_eq_false, beq_self_eq_true])
    have fin11 : r3 % 2 = 1 → (0 ≤ r4 % 5 ∧ r4 % 5 ≤ 3) → pc E 5 [av a, .agg [.int .u8 r0, .int .u8 r1, .int .u8 r2], .int .u8 r3, .int .u8 r4, .agg [.int .i8 r5, .int .i8 r6]] = some (.bool true) := fun k3 k4 => by
      have g1 := c17 a q0 (q1 + 9 * (r4 % 5)) (q2 - 9 * (r4 % 5))
      have g2 := c25' a q0 (q1 + 9 * (r4 % 5)) (q2 - 9 * (r4 % 5))
      have s := (st1 k4.1)
      unfold ddv at g2
      obtain ⟨s1, s2⟩ := s.a (by omega)
      obtain ⟨s5, s6⟩ := s.c (by omega)
      clear st0 st1 sx0 sx1 s
      generalize dd q0 (q1 + 9 * (r4 % 5)) (q2 - 9 * (r4 % 5)) = e at *
      generalize dd q0 q1 q2 = d at *
      rw [s1, s2, s5, s6] at g2
      have z : (r4 % 5 == 4) = false := by simp; omega
      have z2 : ¬ (r4 % 5 = 4) := by omega
      have y1 : IntKind.u8.wrap (r4 % 5) = r4 % 5 := wrap8 (by omega) (by omega)
      have y2 : IntKind.i64.wrap (r4 % 5) = r4 % 5 := wrap_small (by omega) (by omega)
      have y3 : IntKind.i64.wrap (9 * (r4 % 5)) = 9 * (r4 % 5) := wrap_small (by omega) (by omega)
      have y4 : IntKind.i64.wrap (q1 + 9 * (r4 % 5)) = q1 + 9 * (r4 % 5) := wrap_small (by omega) (by omega)
      have y5 : IntKind.i64.wrap (q2 - 9 * (r4 % 5)) = q2 - 9 * (r4 % 5) := wrap_small (by omega) (by omega)
      generalize limB a q0 (q1 + 9 * (r4 % 5)) (q2 - 9 * (r4 % 5)) = lb at *
      cases os
      · cases lb <;> (rw [pc_eq]; simp +contextual -implicitDefEqProofs (maxSteps := 2000000) only [go_sem, ↓reduceIte, Nat.reduceAdd, Nat.reduceMul, Nat.reduceSub, Nat.reduceEqDiff, Nat.reduceLeDiff, Nat.reduceDiv, Nat.reduceMod, Nat.reduceBEq, Nat.reduceBNe, reduceCtorEq, Int.reduceLE, Int.reduceLT, Int.reduceToNat, Int.reduceNeg, Nat.reduceLT, Int.reduceEq, Int.reduceSub, Int.reduceAdd, Int.reduceMul, Nat.reducePow, Int.reduceBEq, Int.reduceBNe, Int.reduceMod, E_5, A5, A5_L1_eq, A5_L1b, A5_L0_eq, A5_L0b, e0, e1, e5, e6, f1, f2, g1, g2, u3, t3, t4, k3, u5, u6, u7, u8, u9, u10, hX, hY, w1, w2, d1, d2, d3, d4, d5, d6, z, z2, y1, y2, y3, y4, y5, bne_self_eq_false, beq_self_eq_true])
      · cases lb <;> (rw [pc_eq]; simp +contextual -implicitDefEqProofs (maxSteps := 2000000) only [go_sem, ↓reduceIte, Nat.reduceAdd, Nat.reduceMul, Nat.reduceSub, Nat.reduceEqDiff, Nat.reduceLeDiff, Nat.reduceDiv, Nat.reduceMod, Nat.reduceBEq, Nat.reduceBNe, reduceCtorEq, Int.reduceLE, Int.reduceLT, Int.reduceToNat, Int.reduceNeg, Nat.reduceLT, Int.reduceEq, Int.reduceSub, Int.reduceAdd, Int.reduceMul, Nat.reducePow, Int.reduceBEq, Int.reduceBNe, Int.reduceMod, E_5, A5, A5_L1_eq, A5_L1b, A5_L0_eq, A5_L0b, e0, e1, e5, e6, (hf3 rfl), f1, f2, g1, g2, u3, t3, t4, k3, u5, u6, u7, u8, u9, u10, hX, hY, w1, w2, d1, d2, d3, d4, d5, d6, z, z2, y1, y2, y3, y4, y5, bne_self_eq_false, beq_self_eq_true])
    rcases k3 with k3 | k3 <;> rcases k4 with k4 | k4
    · exact fin00 k3 k4
    · exact fin01 k3 k4
    · exact fin10 k3 k4
    · exact fin11 k3 k4
end Go.Proofs.Ytnecdcaaknhgpaa
