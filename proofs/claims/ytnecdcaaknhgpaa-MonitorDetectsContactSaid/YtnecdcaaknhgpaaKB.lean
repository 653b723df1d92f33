/- Part of the proof: the evaluation of the program's code and its tie to the machine, or what functions of the program compute over it. -/
import Derived.Test.YtnecdcaaknhgpaaProg
import Derived.Test.YtnecdcaaknhgpaaPart1
import Derived.Test.YtnecdcaaknhgpaaEng5
import Derived.KernelRfl
set_option maxRecDepth 100000
set_option maxHeartbeats 4000000
set_option linter.unusedSimpArgs false
set_option linter.unusedVariables false
namespace Go.Proofs.Ytnecdcaaknhgpaa
open Go Go.Zv
theorem I13 : FnIs Try.prog 13 A13 := ⟨Try.f13, Try.func13, by kernel_rfl, by kernel_rfl⟩
theorem I16 : FnIs Try.prog 16 A16 := ⟨Try.f16, Try.func16, by kernel_rfl, by kernel_rfl⟩
theorem I17 : FnIs Try.prog 17 A17 := ⟨Try.f17, Try.func17, by kernel_rfl, by kernel_rfl⟩
theorem I18 : FnIs Try.prog 18 A18 := ⟨Try.f18, Try.func18, by kernel_rfl, by kernel_rfl⟩
theorem I20 : FnIs Try.prog 20 A20 := ⟨Try.f20, Try.func20, by kernel_rfl, by kernel_rfl⟩
theorem I25 : FnIs Try.prog 25 A25 := ⟨Try.f25, Try.func25, by kernel_rfl, by kernel_rfl⟩
theorem I27 : FnIs Try.prog 27 A27 := ⟨Try.f27, Try.func27, by kernel_rfl, by kernel_rfl⟩
theorem I30 : FnIs Try.prog 30 A30 := ⟨Try.f30, Try.func30, by kernel_rfl, by kernel_rfl⟩
theorem I33 : FnIs Try.prog 33 A33 := ⟨Try.f33, Try.func33, by kernel_rfl, by kernel_rfl⟩
theorem I37 : FnIs Try.prog 37 A37 := ⟨Try.f37, Try.func37, by kernel_rfl, by kernel_rfl⟩
theorem I38 : FnIs Try.prog 38 A38 := ⟨Try.f38, Try.func38, by kernel_rfl, by kernel_rfl⟩
theorem I39 : FnIs Try.prog 39 A39 := ⟨Try.f39, Try.func39, by kernel_rfl, by kernel_rfl⟩
theorem I40 : FnIs Try.prog 40 A40 := ⟨Try.f40, Try.func40, by kernel_rfl, by kernel_rfl⟩
theorem I41 : FnIs Try.prog 41 A41 := ⟨Try.f41, Try.func41, by kernel_rfl, by kernel_rfl⟩
theorem I43 : FnIs Try.prog 43 A43 := ⟨Try.f43, Try.func43, by kernel_rfl, by kernel_rfl⟩
theorem I44 : FnIs Try.prog 44 A44 := ⟨Try.f44, Try.func44, by kernel_rfl, by kernel_rfl⟩
theorem I46 : FnIs Try.prog 46 A46 := ⟨Try.f46, Try.func46, by kernel_rfl, by kernel_rfl⟩
theorem I47 : FnIs Try.prog 47 A47 := ⟨Try.f47, Try.func47, by kernel_rfl, by kernel_rfl⟩
theorem I48 : FnIs Try.prog 48 A48 := ⟨Try.f48, Try.func48, by kernel_rfl, by kernel_rfl⟩
theorem I51 : FnIs Try.prog 51 A51 := ⟨Try.f51, Try.func51, by kernel_rfl, by kernel_rfl⟩
theorem I53 : FnIs Try.prog 53 A53 := ⟨Try.f53, Try.func53, by kernel_rfl, by kernel_rfl⟩
theorem I54 : FnIs Try.prog 54 A54 := ⟨Try.f54, Try.func54, by kernel_rfl, by kernel_rfl⟩
theorem I55 : FnIs Try.prog 55 A55 := ⟨Try.f55, Try.func55, by kernel_rfl, by kernel_rfl⟩
theorem I60 : FnIs Try.prog 60 A60 := ⟨Try.f60, Try.func60, by kernel_rfl, by kernel_rfl⟩
theorem I61 : FnIs Try.prog 61 A61 := ⟨Try.f61, Try.func61, by kernel_rfl, by kernel_rfl⟩
theorem I62 : FnIs Try.prog 62 A62 := ⟨Try.f62, Try.func62, by kernel_rfl, by kernel_rfl⟩
theorem I64 : FnIs Try.prog 64 A64 := ⟨Try.f64, Try.func64, by kernel_rfl, by kernel_rfl⟩
theorem I67 : FnIs Try.prog 67 A67 := ⟨Try.f67, Try.func67, by kernel_rfl, by kernel_rfl⟩
theorem I69 : FnIs Try.prog 69 A69 := ⟨Try.f69, Try.func69, by kernel_rfl, by kernel_rfl⟩
theorem I70 : FnIs Try.prog 70 A70 := ⟨Try.f70, Try.func70, by kernel_rfl, by kernel_rfl⟩
theorem I71 : FnIs Try.prog 71 A71 := ⟨Try.f71, Try.func71, by kernel_rfl, by kernel_rfl⟩
theorem I72 : FnIs Try.prog 72 A72 := ⟨Try.f72, Try.func72, by kernel_rfl, by kernel_rfl⟩
theorem I73 : FnIs Try.prog 73 A73 := ⟨Try.f73, Try.func73, by kernel_rfl, by kernel_rfl⟩
theorem I74 : FnIs Try.prog 74 A74 := ⟨Try.f74, Try.func74, by kernel_rfl, by kernel_rfl⟩
theorem I75 : FnIs Try.prog 75 A75 := ⟨Try.f75, Try.func75, by kernel_rfl, by kernel_rfl⟩
theorem I76 : FnIs Try.prog 76 A76 := ⟨Try.f76, Try.func76, by kernel_rfl, by kernel_rfl⟩
theorem I77 : FnIs Try.prog 77 A77 := ⟨Try.f77, Try.func77, by kernel_rfl, by kernel_rfl⟩
theorem I78 : FnIs Try.prog 78 A78 := ⟨Try.f78, Try.func78, by kernel_rfl, by kernel_rfl⟩
theorem I79 : FnIs Try.prog 79 A79 := ⟨Try.f79, Try.func79, by kernel_rfl, by kernel_rfl⟩
theorem I80 : FnIs Try.prog 80 A80 := ⟨Try.f80, Try.func80, by kernel_rfl, by kernel_rfl⟩
theorem I81 : FnIs Try.prog 81 A81 := ⟨Try.f81, Try.func81, by kernel_rfl, by kernel_rfl⟩
theorem I82 : FnIs Try.prog 82 A82 := ⟨Try.f82, Try.func82, by kernel_rfl, by kernel_rfl⟩
theorem I83 : FnIs Try.prog 83 A83 := ⟨Try.f83, Try.func83, by kernel_rfl, by kernel_rfl⟩
theorem I84 : FnIs Try.prog 84 A84 := ⟨Try.f84, Try.func84, by kernel_rfl, by kernel_rfl⟩
theorem I86 : FnIs Try.prog 86 A86 := ⟨Try.f86, Try.func86, by kernel_rfl, by kernel_rfl⟩
theorem I88 : FnIs Try.prog 88 A88 := ⟨Try.f88, Try.func88, by kernel_rfl, by kernel_rfl⟩
theorem I89 : FnIs Try.prog 89 A89 := ⟨Try.f89, Try.func89, by kernel_rfl, by kernel_rfl⟩
theorem I90 : FnIs Try.prog 90 A90 := ⟨Try.f90, Try.func90, by kernel_rfl, by kernel_rfl⟩
theorem I91 : FnIs Try.prog 91 A91 := ⟨Try.f91, Try.func91, by kernel_rfl, by kernel_rfl⟩
theorem I96 : FnIs Try.prog 96 A96 := ⟨Try.f96, Try.func96, by kernel_rfl, by kernel_rfl⟩
theorem I97 : FnIs Try.prog 97 A97 := ⟨Try.f97, Try.func97, by kernel_rfl, by kernel_rfl⟩
theorem I98 : FnIs Try.prog 98 A98 := ⟨Try.f98, Try.func98, by kernel_rfl, by kernel_rfl⟩
theorem I99 : FnIs Try.prog 99 A99 := ⟨Try.f99, Try.func99, by kernel_rfl, by kernel_rfl⟩
theorem I100 : FnIs Try.prog 100 A100 := ⟨Try.f100, Try.func100, by kernel_rfl, by kernel_rfl⟩
theorem I101 : FnIs Try.prog 101 A101 := ⟨Try.f101, Try.func101, by kernel_rfl, by kernel_rfl⟩
theorem I102 : FnIs Try.prog 102 A102 := ⟨Try.f102, Try.func102, by kernel_rfl, by kernel_rfl⟩
theorem I103 : FnIs Try.prog 103 A103 := ⟨Try.f103, Try.func103, by kernel_rfl, by kernel_rfl⟩
theorem I104 : FnIs Try.prog 104 A104 := ⟨Try.f104, Try.func104, by kernel_rfl, by kernel_rfl⟩
theorem I105 : FnIs Try.prog 105 A105 := ⟨Try.f105, Try.func105, by kernel_rfl, by kernel_rfl⟩
theorem I106 : FnIs Try.prog 106 A106 := ⟨Try.f106, Try.func106, by kernel_rfl, by kernel_rfl⟩
theorem I107 : FnIs Try.prog 107 A107 := ⟨Try.f107, Try.func107, by kernel_rfl, by kernel_rfl⟩
theorem I108 : FnIs Try.prog 108 A108 := ⟨Try.f108, Try.func108, by kernel_rfl, by kernel_rfl⟩
theorem I109 : FnIs Try.prog 109 A109 := ⟨Try.f109, Try.func109, by kernel_rfl, by kernel_rfl⟩
theorem I111 : FnIs Try.prog 111 A111 := ⟨Try.f111, Try.func111, by kernel_rfl, by kernel_rfl⟩
theorem I112 : FnIs Try.prog 112 A112 := ⟨Try.f112, Try.func112, by kernel_rfl, by kernel_rfl⟩
theorem I113 : FnIs Try.prog 113 A113 := ⟨Try.f113, Try.func113, by kernel_rfl, by kernel_rfl⟩
theorem I114 : FnIs Try.prog 114 A114 := ⟨Try.f114, Try.func114, by kernel_rfl, by kernel_rfl⟩
theorem I115 : FnIs Try.prog 115 A115 := ⟨Try.f115, Try.func115, by kernel_rfl, by kernel_rfl⟩
theorem I116 : FnIs Try.prog 116 A116 := ⟨Try.f116, Try.func116, by kernel_rfl, by kernel_rfl⟩
theorem I117 : FnIs Try.prog 117 A117 := ⟨Try.f117, Try.func117, by kernel_rfl, by kernel_rfl⟩
theorem I118 : FnIs Try.prog 118 A118 := ⟨Try.f118, Try.func118, by kernel_rfl, by kernel_rfl⟩
theorem I119 : FnIs Try.prog 119 A119 := ⟨Try.f119, Try.func119, by kernel_rfl, by kernel_rfl⟩
theorem I120 : FnIs Try.prog 120 A120 := ⟨Try.f120, Try.func120, by kernel_rfl, by kernel_rfl⟩
theorem I121 : FnIs Try.prog 121 A121 := ⟨Try.f121, Try.func121, by kernel_rfl, by kernel_rfl⟩
theorem I122 : FnIs Try.prog 122 A122 := ⟨Try.f122, Try.func122, by kernel_rfl, by kernel_rfl⟩
theorem I123 : FnIs Try.prog 123 A123 := ⟨Try.f123, Try.func123, by kernel_rfl, by kernel_rfl⟩
theorem I124 : FnIs Try.prog 124 A124 := ⟨Try.f124, Try.func124, by kernel_rfl, by kernel_rfl⟩
theorem I125 : FnIs Try.prog 125 A125 := ⟨Try.f125, Try.func125, by kernel_rfl, by kernel_rfl⟩
theorem I126 : FnIs Try.prog 126 A126 := ⟨Try.f126, Try.func126, by kernel_rfl, by kernel_rfl⟩
theorem I127 : FnIs Try.prog 127 A127 := ⟨Try.f127, Try.func127, by kernel_rfl, by kernel_rfl⟩
theorem I128 : FnIs Try.prog 128 A128 := ⟨Try.f128, Try.func128, by kernel_rfl, by kernel_rfl⟩
theorem I129 : FnIs Try.prog 129 A129 := ⟨Try.f129, Try.func129, by kernel_rfl, by kernel_rfl⟩
theorem I130 : FnIs Try.prog 130 A130 := ⟨Try.f130, Try.func130, by kernel_rfl, by kernel_rfl⟩
theorem I131 : FnIs Try.prog 131 A131 := ⟨Try.f131, Try.func131, by kernel_rfl, by kernel_rfl⟩
theorem I132 : FnIs Try.prog 132 A132 := ⟨Try.f132, Try.func132, by kernel_rfl, by kernel_rfl⟩
theorem E_ok : EOK Try.prog E := by
 intro f fn h
 unfold E at h
 split at h
 ·cases h; exact I13
 ·cases h; exact I16
 ·cases h; exact I17
 ·cases h; exact I18
 ·cases h; exact I20
 ·cases h; exact I25
 ·cases h; exact I27
 ·cases h; exact I30
 ·cases h; exact I33
 ·cases h; exact I37
 ·cases h; exact I38
 ·cases h; exact I39
 ·cases h; exact I40
 ·cases h; exact I41
 ·cases h; exact I43
 ·cases h; exact I44
 ·cases h; exact I46
 ·cases h; exact I47
 ·cases h; exact I48
 ·cases h; exact I51
 ·cases h; exact I53
 ·cases h; exact I54
 ·cases h; exact I55
 ·cases h; exact I60
 ·cases h; exact I61
 ·cases h; exact I62
 ·cases h; exact I64
 ·cases h; exact I67
 ·cases h; exact I69
 ·cases h; exact I70
 ·cases h; exact I71
 ·cases h; exact I72
 ·cases h; exact I73
 ·cases h; exact I74
 ·cases h; exact I75
 ·cases h; exact I76
 ·cases h; exact I77
 ·cases h; exact I78
 ·cases h; exact I79
 ·cases h; exact I80
 ·cases h; exact I81
 ·cases h; exact I82
 ·cases h; exact I83
 ·cases h; exact I84
 ·cases h; exact I86
 ·cases h; exact I88
 ·cases h; exact I89
 ·cases h; exact I90
 ·cases h; exact I91
 ·cases h; exact I96
 ·cases h; exact I97
 ·cases h; exact I98
 ·cases h; exact I99
 ·cases h; exact I100
 ·cases h; exact I101
 ·cases h; exact I102
 ·cases h; exact I103
 ·cases h; exact I104
 ·cases h; exact I105
 ·cases h; exact I106
 ·cases h; exact I107
 ·cases h; exact I108
 ·cases h; exact I109
 ·cases h; exact I111
 ·cases h; exact I112
 ·cases h; exact I113
 ·cases h; exact I114
 ·cases h; exact I115
 ·cases h; exact I116
 ·cases h; exact I117
 ·cases h; exact I118
 ·cases h; exact I119
 ·cases h; exact I120
 ·cases h; exact I121
 ·cases h; exact I122
 ·cases h; exact I123
 ·cases h; exact I124
 ·cases h; exact I125
 ·cases h; exact I126
 ·cases h; exact I127
 ·cases h; exact I128
 ·cases h; exact I129
 ·cases h; exact I130
 ·cases h; exact I131
 ·cases h; exact I132
 ·cases h
theorem mixed : Try.prog.follows .mixedOrders = true := by kernel_rfl
theorem laid : laidOutB Try.prog = true := by kernel_rfl
end Go.Proofs.Ytnecdcaaknhgpaa
