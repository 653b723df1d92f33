/- Part of the proof: the evaluation of the program's code and its tie to the machine, or what functions of the program compute over it. -/
import Derived.Test.YtcdpfcdlnbbegaaProg
import Derived.Test.YtcdpfcdlnbbegaaPart1
import Derived.Test.YtcdpfcdlnbbegaaEng5
import Derived.KernelRfl
namespace Go.Proofs.Ytcdpfcdlnbbegaa
open Go Go.Zv
set_option maxRecDepth 100000
theorem A2_ok : toFn Try.prog Try.f2 = some A2.strip := by kernel_rfl
theorem A3_ok : toFn Try.prog Try.f3 = some A3.strip := by kernel_rfl
theorem A4_ok : toFn Try.prog Try.f4 = some A4.strip := by kernel_rfl
theorem A5_ok : toFn Try.prog Try.f5 = some A5.strip := by kernel_rfl
theorem A6_ok : toFn Try.prog Try.f6 = some A6.strip := by kernel_rfl
theorem A7_ok : toFn Try.prog Try.f7 = some A7.strip := by kernel_rfl
theorem A8_ok : toFn Try.prog Try.f8 = some A8.strip := by kernel_rfl
theorem A9_ok : toFn Try.prog Try.f9 = some A9.strip := by kernel_rfl
theorem A10_ok : toFn Try.prog Try.f10 = some A10.strip := by kernel_rfl
theorem A11_ok : toFn Try.prog Try.f11 = some A11.strip := by kernel_rfl
theorem A12_ok : toFn Try.prog Try.f12 = some A12.strip := by kernel_rfl
theorem A13_ok : toFn Try.prog Try.f13 = some A13.strip := by kernel_rfl
theorem A14_ok : toFn Try.prog Try.f14 = some A14.strip := by kernel_rfl
theorem A15_ok : toFn Try.prog Try.f15 = some A15.strip := by kernel_rfl
theorem A16_ok : toFn Try.prog Try.f16 = some A16.strip := by kernel_rfl
theorem A17_ok : toFn Try.prog Try.f17 = some A17.strip := by kernel_rfl
theorem A18_ok : toFn Try.prog Try.f18 = some A18.strip := by kernel_rfl
theorem A19_ok : toFn Try.prog Try.f19 = some A19.strip := by kernel_rfl
theorem A20_ok : toFn Try.prog Try.f20 = some A20.strip := by kernel_rfl
theorem A21_ok : toFn Try.prog Try.f21 = some A21.strip := by kernel_rfl
theorem A22_ok : toFn Try.prog Try.f22 = some A22.strip := by kernel_rfl
theorem A23_ok : toFn Try.prog Try.f23 = some A23.strip := by kernel_rfl
theorem A24_ok : toFn Try.prog Try.f24 = some A24.strip := by kernel_rfl
theorem A25_ok : toFn Try.prog Try.f25 = some A25.strip := by kernel_rfl
theorem A26_ok : toFn Try.prog Try.f26 = some A26.strip := by kernel_rfl
theorem A27_ok : toFn Try.prog Try.f27 = some A27.strip := by kernel_rfl
theorem A28_ok : toFn Try.prog Try.f28 = some A28.strip := by kernel_rfl
theorem A29_ok : toFn Try.prog Try.f29 = some A29.strip := by kernel_rfl
theorem A30_ok : toFn Try.prog Try.f30 = some A30.strip := by kernel_rfl
theorem A31_ok : toFn Try.prog Try.f31 = some A31.strip := by kernel_rfl
theorem A32_ok : toFn Try.prog Try.f32 = some A32.strip := by kernel_rfl
theorem I2 : FnIs Try.prog 2 A2 := ⟨Try.f2, Try.func2, A2_ok, by kernel_rfl⟩
theorem I3 : FnIs Try.prog 3 A3 := ⟨Try.f3, Try.func3, A3_ok, by kernel_rfl⟩
theorem I4 : FnIs Try.prog 4 A4 := ⟨Try.f4, Try.func4, A4_ok, by kernel_rfl⟩
theorem I5 : FnIs Try.prog 5 A5 := ⟨Try.f5, Try.func5, A5_ok, by kernel_rfl⟩
theorem I6 : FnIs Try.prog 6 A6 := ⟨Try.f6, Try.func6, A6_ok, by kernel_rfl⟩
theorem I7 : FnIs Try.prog 7 A7 := ⟨Try.f7, Try.func7, A7_ok, by kernel_rfl⟩
theorem I8 : FnIs Try.prog 8 A8 := ⟨Try.f8, Try.func8, A8_ok, by kernel_rfl⟩
theorem I9 : FnIs Try.prog 9 A9 := ⟨Try.f9, Try.func9, A9_ok, by kernel_rfl⟩
theorem I10 : FnIs Try.prog 10 A10 := ⟨Try.f10, Try.func10, A10_ok, by kernel_rfl⟩
theorem I11 : FnIs Try.prog 11 A11 := ⟨Try.f11, Try.func11, A11_ok, by kernel_rfl⟩
theorem I12 : FnIs Try.prog 12 A12 := ⟨Try.f12, Try.func12, A12_ok, by kernel_rfl⟩
theorem I13 : FnIs Try.prog 13 A13 := ⟨Try.f13, Try.func13, A13_ok, by kernel_rfl⟩
theorem I14 : FnIs Try.prog 14 A14 := ⟨Try.f14, Try.func14, A14_ok, by kernel_rfl⟩
theorem I15 : FnIs Try.prog 15 A15 := ⟨Try.f15, Try.func15, A15_ok, by kernel_rfl⟩
theorem I16 : FnIs Try.prog 16 A16 := ⟨Try.f16, Try.func16, A16_ok, by kernel_rfl⟩
theorem I17 : FnIs Try.prog 17 A17 := ⟨Try.f17, Try.func17, A17_ok, by kernel_rfl⟩
theorem I18 : FnIs Try.prog 18 A18 := ⟨Try.f18, Try.func18, A18_ok, by kernel_rfl⟩
theorem I19 : FnIs Try.prog 19 A19 := ⟨Try.f19, Try.func19, A19_ok, by kernel_rfl⟩
theorem I20 : FnIs Try.prog 20 A20 := ⟨Try.f20, Try.func20, A20_ok, by kernel_rfl⟩
theorem I21 : FnIs Try.prog 21 A21 := ⟨Try.f21, Try.func21, A21_ok, by kernel_rfl⟩
theorem I22 : FnIs Try.prog 22 A22 := ⟨Try.f22, Try.func22, A22_ok, by kernel_rfl⟩
theorem I23 : FnIs Try.prog 23 A23 := ⟨Try.f23, Try.func23, A23_ok, by kernel_rfl⟩
theorem I24 : FnIs Try.prog 24 A24 := ⟨Try.f24, Try.func24, A24_ok, by kernel_rfl⟩
theorem I25 : FnIs Try.prog 25 A25 := ⟨Try.f25, Try.func25, A25_ok, by kernel_rfl⟩
theorem I26 : FnIs Try.prog 26 A26 := ⟨Try.f26, Try.func26, A26_ok, by kernel_rfl⟩
theorem I27 : FnIs Try.prog 27 A27 := ⟨Try.f27, Try.func27, A27_ok, by kernel_rfl⟩
theorem I28 : FnIs Try.prog 28 A28 := ⟨Try.f28, Try.func28, A28_ok, by kernel_rfl⟩
theorem I29 : FnIs Try.prog 29 A29 := ⟨Try.f29, Try.func29, A29_ok, by kernel_rfl⟩
theorem I30 : FnIs Try.prog 30 A30 := ⟨Try.f30, Try.func30, A30_ok, by kernel_rfl⟩
theorem I31 : FnIs Try.prog 31 A31 := ⟨Try.f31, Try.func31, A31_ok, by kernel_rfl⟩
theorem I32 : FnIs Try.prog 32 A32 := ⟨Try.f32, Try.func32, A32_ok, by kernel_rfl⟩
theorem E_ok : EOK Try.prog E := by
  intro f fn h
  unfold E at h
  split at h
  · cases h; exact I2
  · cases h; exact I3
  · cases h; exact I4
  · cases h; exact I5
  · cases h; exact I6
  · cases h; exact I7
  · cases h; exact I8
  · cases h; exact I9
  · cases h; exact I10
  · cases h; exact I11
  · cases h; exact I12
  · cases h; exact I13
  · cases h; exact I14
  · cases h; exact I15
  · cases h; exact I16
  · cases h; exact I17
  · cases h; exact I18
  · cases h; exact I19
  · cases h; exact I20
  · cases h; exact I21
  · cases h; exact I22
  · cases h; exact I23
  · cases h; exact I24
  · cases h; exact I25
  · cases h; exact I26
  · cases h; exact I27
  · cases h; exact I28
  · cases h; exact I29
  · cases h; exact I30
  · cases h; exact I31
  · cases h; exact I32
  · cases h
theorem mixed : Try.prog.follows .mixedOrders = true := by kernel_rfl
theorem laid : laidOutB Try.prog = true := by kernel_rfl
end Go.Proofs.Ytcdpfcdlnbbegaa
