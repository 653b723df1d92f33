/- Part of the proof: the evaluation of the program's code and its tie to the machine, or what functions of the program compute over it. -/
import Derived.Test.YtjmnepfdhkabfaaProg
import Derived.Test.YtjmnepfdhkabfaaPart2
import Derived.Test.YtjmnepfdhkabfaaEng5
import Derived.KernelRfl
namespace Go.Proofs.Ytjmnepfdhkabfaa
open Go Go.Zv
set_option maxRecDepth 100000
theorem A3_ok : toFn Try.prog Try.f3 = some A3.strip := by kernel_rfl
theorem A4_ok : toFn Try.prog Try.f4 = some A4.strip := by kernel_rfl
theorem A5_ok : toFn Try.prog Try.f5 = some A5.strip := by kernel_rfl
theorem A6_ok : toFn Try.prog Try.f6 = some A6.strip := by kernel_rfl
theorem A7_ok : toFn Try.prog Try.f7 = some A7.strip := by kernel_rfl
theorem A8_ok : toFn Try.prog Try.f8 = some A8.strip := by kernel_rfl
theorem A9_ok : toFn Try.prog Try.f9 = some A9.strip := by kernel_rfl
theorem A10_ok : toFn Try.prog Try.f10 = some A10.strip := by kernel_rfl
theorem A11_ok : toFn Try.prog Try.f11 = some A11.strip := by kernel_rfl
theorem A12_ok : toFn Try.prog Try.f12 = some A12.strip := by kernel_rfl
theorem A13_ok : toFn Try.prog Try.f13 = some A13.strip := by kernel_rfl
theorem A15_ok : toFn Try.prog Try.f15 = some A15.strip := by kernel_rfl
theorem A16_ok : toFn Try.prog Try.f16 = some A16.strip := by kernel_rfl
theorem A17_ok : toFn Try.prog Try.f17 = some A17.strip := by kernel_rfl
theorem A18_ok : toFn Try.prog Try.f18 = some A18.strip := by kernel_rfl
theorem A19_ok : toFn Try.prog Try.f19 = some A19.strip := by kernel_rfl
theorem A20_ok : toFn Try.prog Try.f20 = some A20.strip := by kernel_rfl
theorem A21_ok : toFn Try.prog Try.f21 = some A21.strip := by kernel_rfl
theorem A22_ok : toFn Try.prog Try.f22 = some A22.strip := by kernel_rfl
theorem A23_ok : toFn Try.prog Try.f23 = some A23.strip := by kernel_rfl
theorem A24_ok : toFn Try.prog Try.f24 = some A24.strip := by kernel_rfl
theorem A25_ok : toFn Try.prog Try.f25 = some A25.strip := by kernel_rfl
theorem A26_ok : toFn Try.prog Try.f26 = some A26.strip := by kernel_rfl
theorem A27_ok : toFn Try.prog Try.f27 = some A27.strip := by kernel_rfl
theorem A28_ok : toFn Try.prog Try.f28 = some A28.strip := by kernel_rfl
theorem A29_ok : toFn Try.prog Try.f29 = some A29.strip := by kernel_rfl
theorem A30_ok : toFn Try.prog Try.f30 = some A30.strip := by kernel_rfl
theorem A31_ok : toFn Try.prog Try.f31 = some A31.strip := by kernel_rfl
theorem A32_ok : toFn Try.prog Try.f32 = some A32.strip := by kernel_rfl
theorem A33_ok : toFn Try.prog Try.f33 = some A33.strip := by kernel_rfl
theorem A34_ok : toFn Try.prog Try.f34 = some A34.strip := by kernel_rfl
theorem A35_ok : toFn Try.prog Try.f35 = some A35.strip := by kernel_rfl
theorem A36_ok : toFn Try.prog Try.f36 = some A36.strip := by kernel_rfl
theorem A37_ok : toFn Try.prog Try.f37 = some A37.strip := by kernel_rfl
theorem A38_ok : toFn Try.prog Try.f38 = some A38.strip := by kernel_rfl
theorem A39_ok : toFn Try.prog Try.f39 = some A39.strip := by kernel_rfl
theorem A40_ok : toFn Try.prog Try.f40 = some A40.strip := by kernel_rfl
theorem A41_ok : toFn Try.prog Try.f41 = some A41.strip := by kernel_rfl
theorem A42_ok : toFn Try.prog Try.f42 = some A42.strip := by kernel_rfl
theorem A48_ok : toFn Try.prog Try.f48 = some A48.strip := by kernel_rfl
theorem A49_ok : toFn Try.prog Try.f49 = some A49.strip := by kernel_rfl
theorem A50_ok : toFn Try.prog Try.f50 = some A50.strip := by kernel_rfl
theorem A51_ok : toFn Try.prog Try.f51 = some A51.strip := by kernel_rfl
theorem A52_ok : toFn Try.prog Try.f52 = some A52.strip := by kernel_rfl
theorem A53_ok : toFn Try.prog Try.f53 = some A53.strip := by kernel_rfl
theorem A54_ok : toFn Try.prog Try.f54 = some A54.strip := by kernel_rfl
theorem A55_ok : toFn Try.prog Try.f55 = some A55.strip := by kernel_rfl
theorem A56_ok : toFn Try.prog Try.f56 = some A56.strip := by kernel_rfl
theorem A57_ok : toFn Try.prog Try.f57 = some A57.strip := by kernel_rfl
theorem A58_ok : toFn Try.prog Try.f58 = some A58.strip := by kernel_rfl
theorem A59_ok : toFn Try.prog Try.f59 = some A59.strip := by kernel_rfl
theorem A60_ok : toFn Try.prog Try.f60 = some A60.strip := by kernel_rfl
theorem A61_ok : toFn Try.prog Try.f61 = some A61.strip := by kernel_rfl
theorem A62_ok : toFn Try.prog Try.f62 = some A62.strip := by kernel_rfl
theorem A63_ok : toFn Try.prog Try.f63 = some A63.strip := by kernel_rfl
theorem A64_ok : toFn Try.prog Try.f64 = some A64.strip := by kernel_rfl
theorem A65_ok : toFn Try.prog Try.f65 = some A65.strip := by kernel_rfl
theorem A66_ok : toFn Try.prog Try.f66 = some A66.strip := by kernel_rfl
theorem A67_ok : toFn Try.prog Try.f67 = some A67.strip := by kernel_rfl
theorem A68_ok : toFn Try.prog Try.f68 = some A68.strip := by kernel_rfl
theorem A79_ok : toFn Try.prog Try.f79 = some A79.strip := by kernel_rfl
theorem A80_ok : toFn Try.prog Try.f80 = some A80.strip := by kernel_rfl
theorem A81_ok : toFn Try.prog Try.f81 = some A81.strip := by kernel_rfl
theorem A82_ok : toFn Try.prog Try.f82 = some A82.strip := by kernel_rfl
theorem A83_ok : toFn Try.prog Try.f83 = some A83.strip := by kernel_rfl
theorem I3 : FnIs Try.prog 3 A3 := ⟨Try.f3, Try.func3, A3_ok, by kernel_rfl⟩
theorem I4 : FnIs Try.prog 4 A4 := ⟨Try.f4, Try.func4, A4_ok, by kernel_rfl⟩
theorem I5 : FnIs Try.prog 5 A5 := ⟨Try.f5, Try.func5, A5_ok, by kernel_rfl⟩
theorem I6 : FnIs Try.prog 6 A6 := ⟨Try.f6, Try.func6, A6_ok, by kernel_rfl⟩
theorem I7 : FnIs Try.prog 7 A7 := ⟨Try.f7, Try.func7, A7_ok, by kernel_rfl⟩
theorem I8 : FnIs Try.prog 8 A8 := ⟨Try.f8, Try.func8, A8_ok, by kernel_rfl⟩
theorem I9 : FnIs Try.prog 9 A9 := ⟨Try.f9, Try.func9, A9_ok, by kernel_rfl⟩
theorem I10 : FnIs Try.prog 10 A10 := ⟨Try.f10, Try.func10, A10_ok, by kernel_rfl⟩
theorem I11 : FnIs Try.prog 11 A11 := ⟨Try.f11, Try.func11, A11_ok, by kernel_rfl⟩
theorem I12 : FnIs Try.prog 12 A12 := ⟨Try.f12, Try.func12, A12_ok, by kernel_rfl⟩
theorem I13 : FnIs Try.prog 13 A13 := ⟨Try.f13, Try.func13, A13_ok, by kernel_rfl⟩
theorem I15 : FnIs Try.prog 15 A15 := ⟨Try.f15, Try.func15, A15_ok, by kernel_rfl⟩
theorem I16 : FnIs Try.prog 16 A16 := ⟨Try.f16, Try.func16, A16_ok, by kernel_rfl⟩
theorem I17 : FnIs Try.prog 17 A17 := ⟨Try.f17, Try.func17, A17_ok, by kernel_rfl⟩
theorem I18 : FnIs Try.prog 18 A18 := ⟨Try.f18, Try.func18, A18_ok, by kernel_rfl⟩
theorem I19 : FnIs Try.prog 19 A19 := ⟨Try.f19, Try.func19, A19_ok, by kernel_rfl⟩
theorem I20 : FnIs Try.prog 20 A20 := ⟨Try.f20, Try.func20, A20_ok, by kernel_rfl⟩
theorem I21 : FnIs Try.prog 21 A21 := ⟨Try.f21, Try.func21, A21_ok, by kernel_rfl⟩
theorem I22 : FnIs Try.prog 22 A22 := ⟨Try.f22, Try.func22, A22_ok, by kernel_rfl⟩
theorem I23 : FnIs Try.prog 23 A23 := ⟨Try.f23, Try.func23, A23_ok, by kernel_rfl⟩
theorem I24 : FnIs Try.prog 24 A24 := ⟨Try.f24, Try.func24, A24_ok, by kernel_rfl⟩
theorem I25 : FnIs Try.prog 25 A25 := ⟨Try.f25, Try.func25, A25_ok, by kernel_rfl⟩
theorem I26 : FnIs Try.prog 26 A26 := ⟨Try.f26, Try.func26, A26_ok, by kernel_rfl⟩
theorem I27 : FnIs Try.prog 27 A27 := ⟨Try.f27, Try.func27, A27_ok, by kernel_rfl⟩
theorem I28 : FnIs Try.prog 28 A28 := ⟨Try.f28, Try.func28, A28_ok, by kernel_rfl⟩
theorem I29 : FnIs Try.prog 29 A29 := ⟨Try.f29, Try.func29, A29_ok, by kernel_rfl⟩
theorem I30 : FnIs Try.prog 30 A30 := ⟨Try.f30, Try.func30, A30_ok, by kernel_rfl⟩
theorem I31 : FnIs Try.prog 31 A31 := ⟨Try.f31, Try.func31, A31_ok, by kernel_rfl⟩
theorem I32 : FnIs Try.prog 32 A32 := ⟨Try.f32, Try.func32, A32_ok, by kernel_rfl⟩
theorem I33 : FnIs Try.prog 33 A33 := ⟨Try.f33, Try.func33, A33_ok, by kernel_rfl⟩
theorem I34 : FnIs Try.prog 34 A34 := ⟨Try.f34, Try.func34, A34_ok, by kernel_rfl⟩
theorem I35 : FnIs Try.prog 35 A35 := ⟨Try.f35, Try.func35, A35_ok, by kernel_rfl⟩
theorem I36 : FnIs Try.prog 36 A36 := ⟨Try.f36, Try.func36, A36_ok, by kernel_rfl⟩
theorem I37 : FnIs Try.prog 37 A37 := ⟨Try.f37, Try.func37, A37_ok, by kernel_rfl⟩
theorem I38 : FnIs Try.prog 38 A38 := ⟨Try.f38, Try.func38, A38_ok, by kernel_rfl⟩
theorem I39 : FnIs Try.prog 39 A39 := ⟨Try.f39, Try.func39, A39_ok, by kernel_rfl⟩
theorem I40 : FnIs Try.prog 40 A40 := ⟨Try.f40, Try.func40, A40_ok, by kernel_rfl⟩
theorem I41 : FnIs Try.prog 41 A41 := ⟨Try.f41, Try.func41, A41_ok, by kernel_rfl⟩
theorem I42 : FnIs Try.prog 42 A42 := ⟨Try.f42, Try.func42, A42_ok, by kernel_rfl⟩
theorem I48 : FnIs Try.prog 48 A48 := ⟨Try.f48, Try.func48, A48_ok, by kernel_rfl⟩
theorem I49 : FnIs Try.prog 49 A49 := ⟨Try.f49, Try.func49, A49_ok, by kernel_rfl⟩
theorem I50 : FnIs Try.prog 50 A50 := ⟨Try.f50, Try.func50, A50_ok, by kernel_rfl⟩
theorem I51 : FnIs Try.prog 51 A51 := ⟨Try.f51, Try.func51, A51_ok, by kernel_rfl⟩
theorem I52 : FnIs Try.prog 52 A52 := ⟨Try.f52, Try.func52, A52_ok, by kernel_rfl⟩
theorem I53 : FnIs Try.prog 53 A53 := ⟨Try.f53, Try.func53, A53_ok, by kernel_rfl⟩
theorem I54 : FnIs Try.prog 54 A54 := ⟨Try.f54, Try.func54, A54_ok, by kernel_rfl⟩
theorem I55 : FnIs Try.prog 55 A55 := ⟨Try.f55, Try.func55, A55_ok, by kernel_rfl⟩
theorem I56 : FnIs Try.prog 56 A56 := ⟨Try.f56, Try.func56, A56_ok, by kernel_rfl⟩
theorem I57 : FnIs Try.prog 57 A57 := ⟨Try.f57, Try.func57, A57_ok, by kernel_rfl⟩
theorem I58 : FnIs Try.prog 58 A58 := ⟨Try.f58, Try.func58, A58_ok, by kernel_rfl⟩
theorem I59 : FnIs Try.prog 59 A59 := ⟨Try.f59, Try.func59, A59_ok, by kernel_rfl⟩
theorem I60 : FnIs Try.prog 60 A60 := ⟨Try.f60, Try.func60, A60_ok, by kernel_rfl⟩
theorem I61 : FnIs Try.prog 61 A61 := ⟨Try.f61, Try.func61, A61_ok, by kernel_rfl⟩
theorem I62 : FnIs Try.prog 62 A62 := ⟨Try.f62, Try.func62, A62_ok, by kernel_rfl⟩
theorem I63 : FnIs Try.prog 63 A63 := ⟨Try.f63, Try.func63, A63_ok, by kernel_rfl⟩
theorem I64 : FnIs Try.prog 64 A64 := ⟨Try.f64, Try.func64, A64_ok, by kernel_rfl⟩
theorem I65 : FnIs Try.prog 65 A65 := ⟨Try.f65, Try.func65, A65_ok, by kernel_rfl⟩
theorem I66 : FnIs Try.prog 66 A66 := ⟨Try.f66, Try.func66, A66_ok, by kernel_rfl⟩
theorem I67 : FnIs Try.prog 67 A67 := ⟨Try.f67, Try.func67, A67_ok, by kernel_rfl⟩
theorem I68 : FnIs Try.prog 68 A68 := ⟨Try.f68, Try.func68, A68_ok, by kernel_rfl⟩
theorem I79 : FnIs Try.prog 79 A79 := ⟨Try.f79, Try.func79, A79_ok, by kernel_rfl⟩
theorem I80 : FnIs Try.prog 80 A80 := ⟨Try.f80, Try.func80, A80_ok, by kernel_rfl⟩
theorem I81 : FnIs Try.prog 81 A81 := ⟨Try.f81, Try.func81, A81_ok, by kernel_rfl⟩
theorem I82 : FnIs Try.prog 82 A82 := ⟨Try.f82, Try.func82, A82_ok, by kernel_rfl⟩
theorem I83 : FnIs Try.prog 83 A83 := ⟨Try.f83, Try.func83, A83_ok, by kernel_rfl⟩
theorem E_ok : EOK Try.prog E := by
  intro f fn h
  unfold E at h
  split at h
  · cases h; exact I3
  · cases h; exact I4
  · cases h; exact I5
  · cases h; exact I6
  · cases h; exact I7
  · cases h; exact I8
  · cases h; exact I9
  · cases h; exact I10
  · cases h; exact I11
  · cases h; exact I12
  · cases h; exact I13
  · cases h; exact I15
  · cases h; exact I16
  · cases h; exact I17
  · cases h; exact I18
  · cases h; exact I19
  · cases h; exact I20
  · cases h; exact I21
  · cases h; exact I22
  · cases h; exact I23
  · cases h; exact I24
  · cases h; exact I25
  · cases h; exact I26
  · cases h; exact I27
  · cases h; exact I28
  · cases h; exact I29
  · cases h; exact I30
  · cases h; exact I31
  · cases h; exact I32
  · cases h; exact I33
  · cases h; exact I34
  · cases h; exact I35
  · cases h; exact I36
  · cases h; exact I37
  · cases h; exact I38
  · cases h; exact I39
  · cases h; exact I40
  · cases h; exact I41
  · cases h; exact I42
  · cases h; exact I48
  · cases h; exact I49
  · cases h; exact I50
  · cases h; exact I51
  · cases h; exact I52
  · cases h; exact I53
  · cases h; exact I54
  · cases h; exact I55
  · cases h; exact I56
  · cases h; exact I57
  · cases h; exact I58
  · cases h; exact I59
  · cases h; exact I60
  · cases h; exact I61
  · cases h; exact I62
  · cases h; exact I63
  · cases h; exact I64
  · cases h; exact I65
  · cases h; exact I66
  · cases h; exact I67
  · cases h; exact I68
  · cases h; exact I79
  · cases h; exact I80
  · cases h; exact I81
  · cases h; exact I82
  · cases h; exact I83
  · cases h
theorem mixed : Try.prog.follows .mixedOrders = true := by kernel_rfl
theorem laid : laidOutB Try.prog = true := by kernel_rfl
end Go.Proofs.Ytjmnepfdhkabfaa
