/- Part of the proof: the evaluation of the program's code and its tie to the machine, or what functions of the program compute over it. -/
import Derived.Test.YtnecdcaaknhgpaaProg
import Derived.Test.YtnecdcaaknhgpaaPart1
import Derived.Test.YtnecdcaaknhgpaaEng5
import Derived.KernelRfl
namespace Go.Proofs.Ytnecdcaaknhgpaa
open Go Go.Zv
set_option maxRecDepth 100000
theorem A12_ok : toFn Try.prog Try.f12 = some A12.strip := by kernel_rfl
theorem A16_ok : toFn Try.prog Try.f16 = some A16.strip := by kernel_rfl
theorem A18_ok : toFn Try.prog Try.f18 = some A18.strip := by kernel_rfl
theorem A20_ok : toFn Try.prog Try.f20 = some A20.strip := by kernel_rfl
theorem A25_ok : toFn Try.prog Try.f25 = some A25.strip := by kernel_rfl
theorem A27_ok : toFn Try.prog Try.f27 = some A27.strip := by kernel_rfl
theorem A30_ok : toFn Try.prog Try.f30 = some A30.strip := by kernel_rfl
theorem A33_ok : toFn Try.prog Try.f33 = some A33.strip := by kernel_rfl
theorem A37_ok : toFn Try.prog Try.f37 = some A37.strip := by kernel_rfl
theorem A38_ok : toFn Try.prog Try.f38 = some A38.strip := by kernel_rfl
theorem A39_ok : toFn Try.prog Try.f39 = some A39.strip := by kernel_rfl
theorem A40_ok : toFn Try.prog Try.f40 = some A40.strip := by kernel_rfl
theorem A41_ok : toFn Try.prog Try.f41 = some A41.strip := by kernel_rfl
theorem A43_ok : toFn Try.prog Try.f43 = some A43.strip := by kernel_rfl
theorem A44_ok : toFn Try.prog Try.f44 = some A44.strip := by kernel_rfl
theorem A46_ok : toFn Try.prog Try.f46 = some A46.strip := by kernel_rfl
theorem A47_ok : toFn Try.prog Try.f47 = some A47.strip := by kernel_rfl
theorem A48_ok : toFn Try.prog Try.f48 = some A48.strip := by kernel_rfl
theorem A51_ok : toFn Try.prog Try.f51 = some A51.strip := by kernel_rfl
theorem A53_ok : toFn Try.prog Try.f53 = some A53.strip := by kernel_rfl
theorem A54_ok : toFn Try.prog Try.f54 = some A54.strip := by kernel_rfl
theorem A55_ok : toFn Try.prog Try.f55 = some A55.strip := by kernel_rfl
theorem A60_ok : toFn Try.prog Try.f60 = some A60.strip := by kernel_rfl
theorem A61_ok : toFn Try.prog Try.f61 = some A61.strip := by kernel_rfl
theorem A62_ok : toFn Try.prog Try.f62 = some A62.strip := by kernel_rfl
theorem A64_ok : toFn Try.prog Try.f64 = some A64.strip := by kernel_rfl
theorem A67_ok : toFn Try.prog Try.f67 = some A67.strip := by kernel_rfl
theorem A69_ok : toFn Try.prog Try.f69 = some A69.strip := by kernel_rfl
theorem A70_ok : toFn Try.prog Try.f70 = some A70.strip := by kernel_rfl
theorem A71_ok : toFn Try.prog Try.f71 = some A71.strip := by kernel_rfl
theorem A72_ok : toFn Try.prog Try.f72 = some A72.strip := by kernel_rfl
theorem A73_ok : toFn Try.prog Try.f73 = some A73.strip := by kernel_rfl
theorem A74_ok : toFn Try.prog Try.f74 = some A74.strip := by kernel_rfl
theorem A75_ok : toFn Try.prog Try.f75 = some A75.strip := by kernel_rfl
theorem A76_ok : toFn Try.prog Try.f76 = some A76.strip := by kernel_rfl
theorem A77_ok : toFn Try.prog Try.f77 = some A77.strip := by kernel_rfl
theorem A78_ok : toFn Try.prog Try.f78 = some A78.strip := by kernel_rfl
theorem A79_ok : toFn Try.prog Try.f79 = some A79.strip := by kernel_rfl
theorem A80_ok : toFn Try.prog Try.f80 = some A80.strip := by kernel_rfl
theorem A81_ok : toFn Try.prog Try.f81 = some A81.strip := by kernel_rfl
theorem A82_ok : toFn Try.prog Try.f82 = some A82.strip := by kernel_rfl
theorem A83_ok : toFn Try.prog Try.f83 = some A83.strip := by kernel_rfl
theorem A84_ok : toFn Try.prog Try.f84 = some A84.strip := by kernel_rfl
theorem A86_ok : toFn Try.prog Try.f86 = some A86.strip := by kernel_rfl
theorem A88_ok : toFn Try.prog Try.f88 = some A88.strip := by kernel_rfl
theorem A89_ok : toFn Try.prog Try.f89 = some A89.strip := by kernel_rfl
theorem A90_ok : toFn Try.prog Try.f90 = some A90.strip := by kernel_rfl
theorem A91_ok : toFn Try.prog Try.f91 = some A91.strip := by kernel_rfl
theorem A96_ok : toFn Try.prog Try.f96 = some A96.strip := by kernel_rfl
theorem A97_ok : toFn Try.prog Try.f97 = some A97.strip := by kernel_rfl
theorem A98_ok : toFn Try.prog Try.f98 = some A98.strip := by kernel_rfl
theorem A99_ok : toFn Try.prog Try.f99 = some A99.strip := by kernel_rfl
theorem A100_ok : toFn Try.prog Try.f100 = some A100.strip := by kernel_rfl
theorem A101_ok : toFn Try.prog Try.f101 = some A101.strip := by kernel_rfl
theorem A102_ok : toFn Try.prog Try.f102 = some A102.strip := by kernel_rfl
theorem A103_ok : toFn Try.prog Try.f103 = some A103.strip := by kernel_rfl
theorem A104_ok : toFn Try.prog Try.f104 = some A104.strip := by kernel_rfl
theorem A105_ok : toFn Try.prog Try.f105 = some A105.strip := by kernel_rfl
theorem A106_ok : toFn Try.prog Try.f106 = some A106.strip := by kernel_rfl
theorem A107_ok : toFn Try.prog Try.f107 = some A107.strip := by kernel_rfl
theorem A108_ok : toFn Try.prog Try.f108 = some A108.strip := by kernel_rfl
theorem A109_ok : toFn Try.prog Try.f109 = some A109.strip := by kernel_rfl
theorem A111_ok : toFn Try.prog Try.f111 = some A111.strip := by kernel_rfl
theorem A112_ok : toFn Try.prog Try.f112 = some A112.strip := by kernel_rfl
theorem A113_ok : toFn Try.prog Try.f113 = some A113.strip := by kernel_rfl
theorem A114_ok : toFn Try.prog Try.f114 = some A114.strip := by kernel_rfl
theorem A115_ok : toFn Try.prog Try.f115 = some A115.strip := by kernel_rfl
theorem A116_ok : toFn Try.prog Try.f116 = some A116.strip := by kernel_rfl
theorem A117_ok : toFn Try.prog Try.f117 = some A117.strip := by kernel_rfl
theorem A118_ok : toFn Try.prog Try.f118 = some A118.strip := by kernel_rfl
theorem A119_ok : toFn Try.prog Try.f119 = some A119.strip := by kernel_rfl
theorem A120_ok : toFn Try.prog Try.f120 = some A120.strip := by kernel_rfl
theorem A121_ok : toFn Try.prog Try.f121 = some A121.strip := by kernel_rfl
theorem A122_ok : toFn Try.prog Try.f122 = some A122.strip := by kernel_rfl
theorem A123_ok : toFn Try.prog Try.f123 = some A123.strip := by kernel_rfl
theorem A124_ok : toFn Try.prog Try.f124 = some A124.strip := by kernel_rfl
theorem A125_ok : toFn Try.prog Try.f125 = some A125.strip := by kernel_rfl
theorem A126_ok : toFn Try.prog Try.f126 = some A126.strip := by kernel_rfl
theorem A127_ok : toFn Try.prog Try.f127 = some A127.strip := by kernel_rfl
theorem A128_ok : toFn Try.prog Try.f128 = some A128.strip := by kernel_rfl
theorem A129_ok : toFn Try.prog Try.f129 = some A129.strip := by kernel_rfl
theorem A130_ok : toFn Try.prog Try.f130 = some A130.strip := by kernel_rfl
theorem A131_ok : toFn Try.prog Try.f131 = some A131.strip := by kernel_rfl
theorem A132_ok : toFn Try.prog Try.f132 = some A132.strip := by kernel_rfl
theorem I12 : FnIs Try.prog 12 A12 := ⟨Try.f12, Try.func12, A12_ok, by kernel_rfl⟩
theorem I16 : FnIs Try.prog 16 A16 := ⟨Try.f16, Try.func16, A16_ok, by kernel_rfl⟩
theorem I18 : FnIs Try.prog 18 A18 := ⟨Try.f18, Try.func18, A18_ok, by kernel_rfl⟩
theorem I20 : FnIs Try.prog 20 A20 := ⟨Try.f20, Try.func20, A20_ok, by kernel_rfl⟩
theorem I25 : FnIs Try.prog 25 A25 := ⟨Try.f25, Try.func25, A25_ok, by kernel_rfl⟩
theorem I27 : FnIs Try.prog 27 A27 := ⟨Try.f27, Try.func27, A27_ok, by kernel_rfl⟩
theorem I30 : FnIs Try.prog 30 A30 := ⟨Try.f30, Try.func30, A30_ok, by kernel_rfl⟩
theorem I33 : FnIs Try.prog 33 A33 := ⟨Try.f33, Try.func33, A33_ok, by kernel_rfl⟩
theorem I37 : FnIs Try.prog 37 A37 := ⟨Try.f37, Try.func37, A37_ok, by kernel_rfl⟩
theorem I38 : FnIs Try.prog 38 A38 := ⟨Try.f38, Try.func38, A38_ok, by kernel_rfl⟩
theorem I39 : FnIs Try.prog 39 A39 := ⟨Try.f39, Try.func39, A39_ok, by kernel_rfl⟩
theorem I40 : FnIs Try.prog 40 A40 := ⟨Try.f40, Try.func40, A40_ok, by kernel_rfl⟩
theorem I41 : FnIs Try.prog 41 A41 := ⟨Try.f41, Try.func41, A41_ok, by kernel_rfl⟩
theorem I43 : FnIs Try.prog 43 A43 := ⟨Try.f43, Try.func43, A43_ok, by kernel_rfl⟩
theorem I44 : FnIs Try.prog 44 A44 := ⟨Try.f44, Try.func44, A44_ok, by kernel_rfl⟩
theorem I46 : FnIs Try.prog 46 A46 := ⟨Try.f46, Try.func46, A46_ok, by kernel_rfl⟩
theorem I47 : FnIs Try.prog 47 A47 := ⟨Try.f47, Try.func47, A47_ok, by kernel_rfl⟩
theorem I48 : FnIs Try.prog 48 A48 := ⟨Try.f48, Try.func48, A48_ok, by kernel_rfl⟩
theorem I51 : FnIs Try.prog 51 A51 := ⟨Try.f51, Try.func51, A51_ok, by kernel_rfl⟩
theorem I53 : FnIs Try.prog 53 A53 := ⟨Try.f53, Try.func53, A53_ok, by kernel_rfl⟩
theorem I54 : FnIs Try.prog 54 A54 := ⟨Try.f54, Try.func54, A54_ok, by kernel_rfl⟩
theorem I55 : FnIs Try.prog 55 A55 := ⟨Try.f55, Try.func55, A55_ok, by kernel_rfl⟩
theorem I60 : FnIs Try.prog 60 A60 := ⟨Try.f60, Try.func60, A60_ok, by kernel_rfl⟩
theorem I61 : FnIs Try.prog 61 A61 := ⟨Try.f61, Try.func61, A61_ok, by kernel_rfl⟩
theorem I62 : FnIs Try.prog 62 A62 := ⟨Try.f62, Try.func62, A62_ok, by kernel_rfl⟩
theorem I64 : FnIs Try.prog 64 A64 := ⟨Try.f64, Try.func64, A64_ok, by kernel_rfl⟩
theorem I67 : FnIs Try.prog 67 A67 := ⟨Try.f67, Try.func67, A67_ok, by kernel_rfl⟩
theorem I69 : FnIs Try.prog 69 A69 := ⟨Try.f69, Try.func69, A69_ok, by kernel_rfl⟩
theorem I70 : FnIs Try.prog 70 A70 := ⟨Try.f70, Try.func70, A70_ok, by kernel_rfl⟩
theorem I71 : FnIs Try.prog 71 A71 := ⟨Try.f71, Try.func71, A71_ok, by kernel_rfl⟩
theorem I72 : FnIs Try.prog 72 A72 := ⟨Try.f72, Try.func72, A72_ok, by kernel_rfl⟩
theorem I73 : FnIs Try.prog 73 A73 := ⟨Try.f73, Try.func73, A73_ok, by kernel_rfl⟩
theorem I74 : FnIs Try.prog 74 A74 := ⟨Try.f74, Try.func74, A74_ok, by kernel_rfl⟩
theorem I75 : FnIs Try.prog 75 A75 := ⟨Try.f75, Try.func75, A75_ok, by kernel_rfl⟩
theorem I76 : FnIs Try.prog 76 A76 := ⟨Try.f76, Try.func76, A76_ok, by kernel_rfl⟩
theorem I77 : FnIs Try.prog 77 A77 := ⟨Try.f77, Try.func77, A77_ok, by kernel_rfl⟩
theorem I78 : FnIs Try.prog 78 A78 := ⟨Try.f78, Try.func78, A78_ok, by kernel_rfl⟩
theorem I79 : FnIs Try.prog 79 A79 := ⟨Try.f79, Try.func79, A79_ok, by kernel_rfl⟩
theorem I80 : FnIs Try.prog 80 A80 := ⟨Try.f80, Try.func80, A80_ok, by kernel_rfl⟩
theorem I81 : FnIs Try.prog 81 A81 := ⟨Try.f81, Try.func81, A81_ok, by kernel_rfl⟩
theorem I82 : FnIs Try.prog 82 A82 := ⟨Try.f82, Try.func82, A82_ok, by kernel_rfl⟩
theorem I83 : FnIs Try.prog 83 A83 := ⟨Try.f83, Try.func83, A83_ok, by kernel_rfl⟩
theorem I84 : FnIs Try.prog 84 A84 := ⟨Try.f84, Try.func84, A84_ok, by kernel_rfl⟩
theorem I86 : FnIs Try.prog 86 A86 := ⟨Try.f86, Try.func86, A86_ok, by kernel_rfl⟩
theorem I88 : FnIs Try.prog 88 A88 := ⟨Try.f88, Try.func88, A88_ok, by kernel_rfl⟩
theorem I89 : FnIs Try.prog 89 A89 := ⟨Try.f89, Try.func89, A89_ok, by kernel_rfl⟩
theorem I90 : FnIs Try.prog 90 A90 := ⟨Try.f90, Try.func90, A90_ok, by kernel_rfl⟩
theorem I91 : FnIs Try.prog 91 A91 := ⟨Try.f91, Try.func91, A91_ok, by kernel_rfl⟩
theorem I96 : FnIs Try.prog 96 A96 := ⟨Try.f96, Try.func96, A96_ok, by kernel_rfl⟩
theorem I97 : FnIs Try.prog 97 A97 := ⟨Try.f97, Try.func97, A97_ok, by kernel_rfl⟩
theorem I98 : FnIs Try.prog 98 A98 := ⟨Try.f98, Try.func98, A98_ok, by kernel_rfl⟩
theorem I99 : FnIs Try.prog 99 A99 := ⟨Try.f99, Try.func99, A99_ok, by kernel_rfl⟩
theorem I100 : FnIs Try.prog 100 A100 := ⟨Try.f100, Try.func100, A100_ok, by kernel_rfl⟩
theorem I101 : FnIs Try.prog 101 A101 := ⟨Try.f101, Try.func101, A101_ok, by kernel_rfl⟩
theorem I102 : FnIs Try.prog 102 A102 := ⟨Try.f102, Try.func102, A102_ok, by kernel_rfl⟩
theorem I103 : FnIs Try.prog 103 A103 := ⟨Try.f103, Try.func103, A103_ok, by kernel_rfl⟩
theorem I104 : FnIs Try.prog 104 A104 := ⟨Try.f104, Try.func104, A104_ok, by kernel_rfl⟩
theorem I105 : FnIs Try.prog 105 A105 := ⟨Try.f105, Try.func105, A105_ok, by kernel_rfl⟩
theorem I106 : FnIs Try.prog 106 A106 := ⟨Try.f106, Try.func106, A106_ok, by kernel_rfl⟩
theorem I107 : FnIs Try.prog 107 A107 := ⟨Try.f107, Try.func107, A107_ok, by kernel_rfl⟩
theorem I108 : FnIs Try.prog 108 A108 := ⟨Try.f108, Try.func108, A108_ok, by kernel_rfl⟩
theorem I109 : FnIs Try.prog 109 A109 := ⟨Try.f109, Try.func109, A109_ok, by kernel_rfl⟩
theorem I111 : FnIs Try.prog 111 A111 := ⟨Try.f111, Try.func111, A111_ok, by kernel_rfl⟩
theorem I112 : FnIs Try.prog 112 A112 := ⟨Try.f112, Try.func112, A112_ok, by kernel_rfl⟩
theorem I113 : FnIs Try.prog 113 A113 := ⟨Try.f113, Try.func113, A113_ok, by kernel_rfl⟩
theorem I114 : FnIs Try.prog 114 A114 := ⟨Try.f114, Try.func114, A114_ok, by kernel_rfl⟩
theorem I115 : FnIs Try.prog 115 A115 := ⟨Try.f115, Try.func115, A115_ok, by kernel_rfl⟩
theorem I116 : FnIs Try.prog 116 A116 := ⟨Try.f116, Try.func116, A116_ok, by kernel_rfl⟩
theorem I117 : FnIs Try.prog 117 A117 := ⟨Try.f117, Try.func117, A117_ok, by kernel_rfl⟩
theorem I118 : FnIs Try.prog 118 A118 := ⟨Try.f118, Try.func118, A118_ok, by kernel_rfl⟩
theorem I119 : FnIs Try.prog 119 A119 := ⟨Try.f119, Try.func119, A119_ok, by kernel_rfl⟩
theorem I120 : FnIs Try.prog 120 A120 := ⟨Try.f120, Try.func120, A120_ok, by kernel_rfl⟩
theorem I121 : FnIs Try.prog 121 A121 := ⟨Try.f121, Try.func121, A121_ok, by kernel_rfl⟩
theorem I122 : FnIs Try.prog 122 A122 := ⟨Try.f122, Try.func122, A122_ok, by kernel_rfl⟩
theorem I123 : FnIs Try.prog 123 A123 := ⟨Try.f123, Try.func123, A123_ok, by kernel_rfl⟩
theorem I124 : FnIs Try.prog 124 A124 := ⟨Try.f124, Try.func124, A124_ok, by kernel_rfl⟩
theorem I125 : FnIs Try.prog 125 A125 := ⟨Try.f125, Try.func125, A125_ok, by kernel_rfl⟩
theorem I126 : FnIs Try.prog 126 A126 := ⟨Try.f126, Try.func126, A126_ok, by kernel_rfl⟩
theorem I127 : FnIs Try.prog 127 A127 := ⟨Try.f127, Try.func127, A127_ok, by kernel_rfl⟩
theorem I128 : FnIs Try.prog 128 A128 := ⟨Try.f128, Try.func128, A128_ok, by kernel_rfl⟩
theorem I129 : FnIs Try.prog 129 A129 := ⟨Try.f129, Try.func129, A129_ok, by kernel_rfl⟩
theorem I130 : FnIs Try.prog 130 A130 := ⟨Try.f130, Try.func130, A130_ok, by kernel_rfl⟩
theorem I131 : FnIs Try.prog 131 A131 := ⟨Try.f131, Try.func131, A131_ok, by kernel_rfl⟩
theorem I132 : FnIs Try.prog 132 A132 := ⟨Try.f132, Try.func132, A132_ok, by kernel_rfl⟩
theorem E_ok : EOK Try.prog E := by
  intro f fn h
  unfold E at h
  split at h
  · cases h; exact I12
  · cases h; exact I16
  · cases h; exact I18
  · cases h; exact I20
  · cases h; exact I25
  · cases h; exact I27
  · cases h; exact I30
  · cases h; exact I33
  · cases h; exact I37
  · cases h; exact I38
  · cases h; exact I39
  · cases h; exact I40
  · cases h; exact I41
  · cases h; exact I43
  · cases h; exact I44
  · cases h; exact I46
  · cases h; exact I47
  · cases h; exact I48
  · cases h; exact I51
  · cases h; exact I53
  · cases h; exact I54
  · cases h; exact I55
  · cases h; exact I60
  · cases h; exact I61
  · cases h; exact I62
  · cases h; exact I64
  · cases h; exact I67
  · cases h; exact I69
  · cases h; exact I70
  · cases h; exact I71
  · cases h; exact I72
  · cases h; exact I73
  · cases h; exact I74
  · cases h; exact I75
  · cases h; exact I76
  · cases h; exact I77
  · cases h; exact I78
  · cases h; exact I79
  · cases h; exact I80
  · cases h; exact I81
  · cases h; exact I82
  · cases h; exact I83
  · cases h; exact I84
  · cases h; exact I86
  · cases h; exact I88
  · cases h; exact I89
  · cases h; exact I90
  · cases h; exact I91
  · cases h; exact I96
  · cases h; exact I97
  · cases h; exact I98
  · cases h; exact I99
  · cases h; exact I100
  · cases h; exact I101
  · cases h; exact I102
  · cases h; exact I103
  · cases h; exact I104
  · cases h; exact I105
  · cases h; exact I106
  · cases h; exact I107
  · cases h; exact I108
  · cases h; exact I109
  · cases h; exact I111
  · cases h; exact I112
  · cases h; exact I113
  · cases h; exact I114
  · cases h; exact I115
  · cases h; exact I116
  · cases h; exact I117
  · cases h; exact I118
  · cases h; exact I119
  · cases h; exact I120
  · cases h; exact I121
  · cases h; exact I122
  · cases h; exact I123
  · cases h; exact I124
  · cases h; exact I125
  · cases h; exact I126
  · cases h; exact I127
  · cases h; exact I128
  · cases h; exact I129
  · cases h; exact I130
  · cases h; exact I131
  · cases h; exact I132
  · cases h
theorem mixed : Try.prog.follows .mixedOrders = true := by kernel_rfl
theorem laid : laidOutB Try.prog = true := by kernel_rfl
end Go.Proofs.Ytnecdcaaknhgpaa
