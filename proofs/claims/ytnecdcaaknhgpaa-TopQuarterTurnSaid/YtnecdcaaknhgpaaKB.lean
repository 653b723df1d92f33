/- Part of the proof: the evaluation of the program's code and its tie to the machine, or what functions of the program compute over it. -/
import Derived.Test.YtnecdcaaknhgpaaProg
import Derived.Test.YtnecdcaaknhgpaaPart1
import Derived.Test.YtnecdcaaknhgpaaEng5
import Derived.KernelRfl
namespace Go.Proofs.Ytnecdcaaknhgpaa
open Go Go.Zv
set_option maxRecDepth 100000
theorem A9_ok : toFn Try.prog Try.f9 = some A9.strip := by kernel_rfl
theorem A15_ok : toFn Try.prog Try.f15 = some A15.strip := by kernel_rfl
theorem A16_ok : toFn Try.prog Try.f16 = some A16.strip := by kernel_rfl
theorem A17_ok : toFn Try.prog Try.f17 = some A17.strip := by kernel_rfl
theorem A18_ok : toFn Try.prog Try.f18 = some A18.strip := by kernel_rfl
theorem A19_ok : toFn Try.prog Try.f19 = some A19.strip := by kernel_rfl
theorem A20_ok : toFn Try.prog Try.f20 = some A20.strip := by kernel_rfl
theorem A25_ok : toFn Try.prog Try.f25 = some A25.strip := by kernel_rfl
theorem A27_ok : toFn Try.prog Try.f27 = some A27.strip := by kernel_rfl
theorem A31_ok : toFn Try.prog Try.f31 = some A31.strip := by kernel_rfl
theorem A32_ok : toFn Try.prog Try.f32 = some A32.strip := by kernel_rfl
theorem A33_ok : toFn Try.prog Try.f33 = some A33.strip := by kernel_rfl
theorem A34_ok : toFn Try.prog Try.f34 = some A34.strip := by kernel_rfl
theorem A35_ok : toFn Try.prog Try.f35 = some A35.strip := by kernel_rfl
theorem A36_ok : toFn Try.prog Try.f36 = some A36.strip := by kernel_rfl
theorem A37_ok : toFn Try.prog Try.f37 = some A37.strip := by kernel_rfl
theorem A46_ok : toFn Try.prog Try.f46 = some A46.strip := by kernel_rfl
theorem A47_ok : toFn Try.prog Try.f47 = some A47.strip := by kernel_rfl
theorem A48_ok : toFn Try.prog Try.f48 = some A48.strip := by kernel_rfl
theorem A51_ok : toFn Try.prog Try.f51 = some A51.strip := by kernel_rfl
theorem A53_ok : toFn Try.prog Try.f53 = some A53.strip := by kernel_rfl
theorem A54_ok : toFn Try.prog Try.f54 = some A54.strip := by kernel_rfl
theorem A55_ok : toFn Try.prog Try.f55 = some A55.strip := by kernel_rfl
theorem A56_ok : toFn Try.prog Try.f56 = some A56.strip := by kernel_rfl
theorem A57_ok : toFn Try.prog Try.f57 = some A57.strip := by kernel_rfl
theorem A58_ok : toFn Try.prog Try.f58 = some A58.strip := by kernel_rfl
theorem A59_ok : toFn Try.prog Try.f59 = some A59.strip := by kernel_rfl
theorem A60_ok : toFn Try.prog Try.f60 = some A60.strip := by kernel_rfl
theorem A61_ok : toFn Try.prog Try.f61 = some A61.strip := by kernel_rfl
theorem A62_ok : toFn Try.prog Try.f62 = some A62.strip := by kernel_rfl
theorem A63_ok : toFn Try.prog Try.f63 = some A63.strip := by kernel_rfl
theorem A64_ok : toFn Try.prog Try.f64 = some A64.strip := by kernel_rfl
theorem A65_ok : toFn Try.prog Try.f65 = some A65.strip := by kernel_rfl
theorem A66_ok : toFn Try.prog Try.f66 = some A66.strip := by kernel_rfl
theorem A67_ok : toFn Try.prog Try.f67 = some A67.strip := by kernel_rfl
theorem A68_ok : toFn Try.prog Try.f68 = some A68.strip := by kernel_rfl
theorem A69_ok : toFn Try.prog Try.f69 = some A69.strip := by kernel_rfl
theorem A82_ok : toFn Try.prog Try.f82 = some A82.strip := by kernel_rfl
theorem A83_ok : toFn Try.prog Try.f83 = some A83.strip := by kernel_rfl
theorem A86_ok : toFn Try.prog Try.f86 = some A86.strip := by kernel_rfl
theorem A87_ok : toFn Try.prog Try.f87 = some A87.strip := by kernel_rfl
theorem A88_ok : toFn Try.prog Try.f88 = some A88.strip := by kernel_rfl
theorem A89_ok : toFn Try.prog Try.f89 = some A89.strip := by kernel_rfl
theorem A90_ok : toFn Try.prog Try.f90 = some A90.strip := by kernel_rfl
theorem A91_ok : toFn Try.prog Try.f91 = some A91.strip := by kernel_rfl
theorem A92_ok : toFn Try.prog Try.f92 = some A92.strip := by kernel_rfl
theorem A93_ok : toFn Try.prog Try.f93 = some A93.strip := by kernel_rfl
theorem A94_ok : toFn Try.prog Try.f94 = some A94.strip := by kernel_rfl
theorem A95_ok : toFn Try.prog Try.f95 = some A95.strip := by kernel_rfl
theorem A96_ok : toFn Try.prog Try.f96 = some A96.strip := by kernel_rfl
theorem A97_ok : toFn Try.prog Try.f97 = some A97.strip := by kernel_rfl
theorem A107_ok : toFn Try.prog Try.f107 = some A107.strip := by kernel_rfl
theorem A108_ok : toFn Try.prog Try.f108 = some A108.strip := by kernel_rfl
theorem A109_ok : toFn Try.prog Try.f109 = some A109.strip := by kernel_rfl
theorem A111_ok : toFn Try.prog Try.f111 = some A111.strip := by kernel_rfl
theorem A112_ok : toFn Try.prog Try.f112 = some A112.strip := by kernel_rfl
theorem A117_ok : toFn Try.prog Try.f117 = some A117.strip := by kernel_rfl
theorem A118_ok : toFn Try.prog Try.f118 = some A118.strip := by kernel_rfl
theorem A119_ok : toFn Try.prog Try.f119 = some A119.strip := by kernel_rfl
theorem A120_ok : toFn Try.prog Try.f120 = some A120.strip := by kernel_rfl
theorem A121_ok : toFn Try.prog Try.f121 = some A121.strip := by kernel_rfl
theorem I9 : FnIs Try.prog 9 A9 := ⟨Try.f9, Try.func9, A9_ok, by kernel_rfl⟩
theorem I15 : FnIs Try.prog 15 A15 := ⟨Try.f15, Try.func15, A15_ok, by kernel_rfl⟩
theorem I16 : FnIs Try.prog 16 A16 := ⟨Try.f16, Try.func16, A16_ok, by kernel_rfl⟩
theorem I17 : FnIs Try.prog 17 A17 := ⟨Try.f17, Try.func17, A17_ok, by kernel_rfl⟩
theorem I18 : FnIs Try.prog 18 A18 := ⟨Try.f18, Try.func18, A18_ok, by kernel_rfl⟩
theorem I19 : FnIs Try.prog 19 A19 := ⟨Try.f19, Try.func19, A19_ok, by kernel_rfl⟩
theorem I20 : FnIs Try.prog 20 A20 := ⟨Try.f20, Try.func20, A20_ok, by kernel_rfl⟩
theorem I25 : FnIs Try.prog 25 A25 := ⟨Try.f25, Try.func25, A25_ok, by kernel_rfl⟩
theorem I27 : FnIs Try.prog 27 A27 := ⟨Try.f27, Try.func27, A27_ok, by kernel_rfl⟩
theorem I31 : FnIs Try.prog 31 A31 := ⟨Try.f31, Try.func31, A31_ok, by kernel_rfl⟩
theorem I32 : FnIs Try.prog 32 A32 := ⟨Try.f32, Try.func32, A32_ok, by kernel_rfl⟩
theorem I33 : FnIs Try.prog 33 A33 := ⟨Try.f33, Try.func33, A33_ok, by kernel_rfl⟩
theorem I34 : FnIs Try.prog 34 A34 := ⟨Try.f34, Try.func34, A34_ok, by kernel_rfl⟩
theorem I35 : FnIs Try.prog 35 A35 := ⟨Try.f35, Try.func35, A35_ok, by kernel_rfl⟩
theorem I36 : FnIs Try.prog 36 A36 := ⟨Try.f36, Try.func36, A36_ok, by kernel_rfl⟩
theorem I37 : FnIs Try.prog 37 A37 := ⟨Try.f37, Try.func37, A37_ok, by kernel_rfl⟩
theorem I46 : FnIs Try.prog 46 A46 := ⟨Try.f46, Try.func46, A46_ok, by kernel_rfl⟩
theorem I47 : FnIs Try.prog 47 A47 := ⟨Try.f47, Try.func47, A47_ok, by kernel_rfl⟩
theorem I48 : FnIs Try.prog 48 A48 := ⟨Try.f48, Try.func48, A48_ok, by kernel_rfl⟩
theorem I51 : FnIs Try.prog 51 A51 := ⟨Try.f51, Try.func51, A51_ok, by kernel_rfl⟩
theorem I53 : FnIs Try.prog 53 A53 := ⟨Try.f53, Try.func53, A53_ok, by kernel_rfl⟩
theorem I54 : FnIs Try.prog 54 A54 := ⟨Try.f54, Try.func54, A54_ok, by kernel_rfl⟩
theorem I55 : FnIs Try.prog 55 A55 := ⟨Try.f55, Try.func55, A55_ok, by kernel_rfl⟩
theorem I56 : FnIs Try.prog 56 A56 := ⟨Try.f56, Try.func56, A56_ok, by kernel_rfl⟩
theorem I57 : FnIs Try.prog 57 A57 := ⟨Try.f57, Try.func57, A57_ok, by kernel_rfl⟩
theorem I58 : FnIs Try.prog 58 A58 := ⟨Try.f58, Try.func58, A58_ok, by kernel_rfl⟩
theorem I59 : FnIs Try.prog 59 A59 := ⟨Try.f59, Try.func59, A59_ok, by kernel_rfl⟩
theorem I60 : FnIs Try.prog 60 A60 := ⟨Try.f60, Try.func60, A60_ok, by kernel_rfl⟩
theorem I61 : FnIs Try.prog 61 A61 := ⟨Try.f61, Try.func61, A61_ok, by kernel_rfl⟩
theorem I62 : FnIs Try.prog 62 A62 := ⟨Try.f62, Try.func62, A62_ok, by kernel_rfl⟩
theorem I63 : FnIs Try.prog 63 A63 := ⟨Try.f63, Try.func63, A63_ok, by kernel_rfl⟩
theorem I64 : FnIs Try.prog 64 A64 := ⟨Try.f64, Try.func64, A64_ok, by kernel_rfl⟩
theorem I65 : FnIs Try.prog 65 A65 := ⟨Try.f65, Try.func65, A65_ok, by kernel_rfl⟩
theorem I66 : FnIs Try.prog 66 A66 := ⟨Try.f66, Try.func66, A66_ok, by kernel_rfl⟩
theorem I67 : FnIs Try.prog 67 A67 := ⟨Try.f67, Try.func67, A67_ok, by kernel_rfl⟩
theorem I68 : FnIs Try.prog 68 A68 := ⟨Try.f68, Try.func68, A68_ok, by kernel_rfl⟩
theorem I69 : FnIs Try.prog 69 A69 := ⟨Try.f69, Try.func69, A69_ok, by kernel_rfl⟩
theorem I82 : FnIs Try.prog 82 A82 := ⟨Try.f82, Try.func82, A82_ok, by kernel_rfl⟩
theorem I83 : FnIs Try.prog 83 A83 := ⟨Try.f83, Try.func83, A83_ok, by kernel_rfl⟩
theorem I86 : FnIs Try.prog 86 A86 := ⟨Try.f86, Try.func86, A86_ok, by kernel_rfl⟩
theorem I87 : FnIs Try.prog 87 A87 := ⟨Try.f87, Try.func87, A87_ok, by kernel_rfl⟩
theorem I88 : FnIs Try.prog 88 A88 := ⟨Try.f88, Try.func88, A88_ok, by kernel_rfl⟩
theorem I89 : FnIs Try.prog 89 A89 := ⟨Try.f89, Try.func89, A89_ok, by kernel_rfl⟩
theorem I90 : FnIs Try.prog 90 A90 := ⟨Try.f90, Try.func90, A90_ok, by kernel_rfl⟩
theorem I91 : FnIs Try.prog 91 A91 := ⟨Try.f91, Try.func91, A91_ok, by kernel_rfl⟩
theorem I92 : FnIs Try.prog 92 A92 := ⟨Try.f92, Try.func92, A92_ok, by kernel_rfl⟩
theorem I93 : FnIs Try.prog 93 A93 := ⟨Try.f93, Try.func93, A93_ok, by kernel_rfl⟩
theorem I94 : FnIs Try.prog 94 A94 := ⟨Try.f94, Try.func94, A94_ok, by kernel_rfl⟩
theorem I95 : FnIs Try.prog 95 A95 := ⟨Try.f95, Try.func95, A95_ok, by kernel_rfl⟩
theorem I96 : FnIs Try.prog 96 A96 := ⟨Try.f96, Try.func96, A96_ok, by kernel_rfl⟩
theorem I97 : FnIs Try.prog 97 A97 := ⟨Try.f97, Try.func97, A97_ok, by kernel_rfl⟩
theorem I107 : FnIs Try.prog 107 A107 := ⟨Try.f107, Try.func107, A107_ok, by kernel_rfl⟩
theorem I108 : FnIs Try.prog 108 A108 := ⟨Try.f108, Try.func108, A108_ok, by kernel_rfl⟩
theorem I109 : FnIs Try.prog 109 A109 := ⟨Try.f109, Try.func109, A109_ok, by kernel_rfl⟩
theorem I111 : FnIs Try.prog 111 A111 := ⟨Try.f111, Try.func111, A111_ok, by kernel_rfl⟩
theorem I112 : FnIs Try.prog 112 A112 := ⟨Try.f112, Try.func112, A112_ok, by kernel_rfl⟩
theorem I117 : FnIs Try.prog 117 A117 := ⟨Try.f117, Try.func117, A117_ok, by kernel_rfl⟩
theorem I118 : FnIs Try.prog 118 A118 := ⟨Try.f118, Try.func118, A118_ok, by kernel_rfl⟩
theorem I119 : FnIs Try.prog 119 A119 := ⟨Try.f119, Try.func119, A119_ok, by kernel_rfl⟩
theorem I120 : FnIs Try.prog 120 A120 := ⟨Try.f120, Try.func120, A120_ok, by kernel_rfl⟩
theorem I121 : FnIs Try.prog 121 A121 := ⟨Try.f121, Try.func121, A121_ok, by kernel_rfl⟩
theorem E_ok : EOK Try.prog E := by
  intro f fn h
  unfold E at h
  split at h
  · cases h; exact I9
  · cases h; exact I15
  · cases h; exact I16
  · cases h; exact I17
  · cases h; exact I18
  · cases h; exact I19
  · cases h; exact I20
  · cases h; exact I25
  · cases h; exact I27
  · cases h; exact I31
  · cases h; exact I32
  · cases h; exact I33
  · cases h; exact I34
  · cases h; exact I35
  · cases h; exact I36
  · cases h; exact I37
  · cases h; exact I46
  · cases h; exact I47
  · cases h; exact I48
  · cases h; exact I51
  · cases h; exact I53
  · cases h; exact I54
  · cases h; exact I55
  · cases h; exact I56
  · cases h; exact I57
  · cases h; exact I58
  · cases h; exact I59
  · cases h; exact I60
  · cases h; exact I61
  · cases h; exact I62
  · cases h; exact I63
  · cases h; exact I64
  · cases h; exact I65
  · cases h; exact I66
  · cases h; exact I67
  · cases h; exact I68
  · cases h; exact I69
  · cases h; exact I82
  · cases h; exact I83
  · cases h; exact I86
  · cases h; exact I87
  · cases h; exact I88
  · cases h; exact I89
  · cases h; exact I90
  · cases h; exact I91
  · cases h; exact I92
  · cases h; exact I93
  · cases h; exact I94
  · cases h; exact I95
  · cases h; exact I96
  · cases h; exact I97
  · cases h; exact I107
  · cases h; exact I108
  · cases h; exact I109
  · cases h; exact I111
  · cases h; exact I112
  · cases h; exact I117
  · cases h; exact I118
  · cases h; exact I119
  · cases h; exact I120
  · cases h; exact I121
  · cases h
theorem mixed : Try.prog.follows .mixedOrders = true := by kernel_rfl
theorem laid : laidOutB Try.prog = true := by kernel_rfl
end Go.Proofs.Ytnecdcaaknhgpaa
