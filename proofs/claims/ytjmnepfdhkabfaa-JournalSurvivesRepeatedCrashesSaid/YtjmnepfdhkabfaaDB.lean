/- Part of the proof: the evaluation of the program's code and its tie to the machine, or what functions of the program compute over it. -/
import Derived.Test.YtjmnepfdhkabfaaProg
import Derived.Test.YtjmnepfdhkabfaaPart1
import Derived.Test.YtjmnepfdhkabfaaEng5
import Derived.KernelRfl
namespace Go.Proofs.Ytjmnepfdhkabfaa
open Go Go.Zv
set_option maxRecDepth 100000
theorem A13_ok : toFn Try.prog Try.f13 = some A13.strip := by kernel_rfl
theorem A17_ok : toFn Try.prog Try.f17 = some A17.strip := by kernel_rfl
theorem A25_ok : toFn Try.prog Try.f25 = some A25.strip := by kernel_rfl
theorem A29_ok : toFn Try.prog Try.f29 = some A29.strip := by kernel_rfl
theorem A30_ok : toFn Try.prog Try.f30 = some A30.strip := by kernel_rfl
theorem A31_ok : toFn Try.prog Try.f31 = some A31.strip := by kernel_rfl
theorem A32_ok : toFn Try.prog Try.f32 = some A32.strip := by kernel_rfl
theorem A33_ok : toFn Try.prog Try.f33 = some A33.strip := by kernel_rfl
theorem A35_ok : toFn Try.prog Try.f35 = some A35.strip := by kernel_rfl
theorem A36_ok : toFn Try.prog Try.f36 = some A36.strip := by kernel_rfl
theorem A38_ok : toFn Try.prog Try.f38 = some A38.strip := by kernel_rfl
theorem A39_ok : toFn Try.prog Try.f39 = some A39.strip := by kernel_rfl
theorem A40_ok : toFn Try.prog Try.f40 = some A40.strip := by kernel_rfl
theorem A42_ok : toFn Try.prog Try.f42 = some A42.strip := by kernel_rfl
theorem A53_ok : toFn Try.prog Try.f53 = some A53.strip := by kernel_rfl
theorem A54_ok : toFn Try.prog Try.f54 = some A54.strip := by kernel_rfl
theorem A55_ok : toFn Try.prog Try.f55 = some A55.strip := by kernel_rfl
theorem A56_ok : toFn Try.prog Try.f56 = some A56.strip := by kernel_rfl
theorem A57_ok : toFn Try.prog Try.f57 = some A57.strip := by kernel_rfl
theorem A58_ok : toFn Try.prog Try.f58 = some A58.strip := by kernel_rfl
theorem A59_ok : toFn Try.prog Try.f59 = some A59.strip := by kernel_rfl
theorem A60_ok : toFn Try.prog Try.f60 = some A60.strip := by kernel_rfl
theorem A61_ok : toFn Try.prog Try.f61 = some A61.strip := by kernel_rfl
theorem A62_ok : toFn Try.prog Try.f62 = some A62.strip := by kernel_rfl
theorem A63_ok : toFn Try.prog Try.f63 = some A63.strip := by kernel_rfl
theorem A64_ok : toFn Try.prog Try.f64 = some A64.strip := by kernel_rfl
theorem A65_ok : toFn Try.prog Try.f65 = some A65.strip := by kernel_rfl
theorem A66_ok : toFn Try.prog Try.f66 = some A66.strip := by kernel_rfl
theorem A68_ok : toFn Try.prog Try.f68 = some A68.strip := by kernel_rfl
theorem A81_ok : toFn Try.prog Try.f81 = some A81.strip := by kernel_rfl
theorem A82_ok : toFn Try.prog Try.f82 = some A82.strip := by kernel_rfl
theorem A83_ok : toFn Try.prog Try.f83 = some A83.strip := by kernel_rfl
theorem I13 : FnIs Try.prog 13 A13 := ⟨Try.f13, Try.func13, A13_ok, by kernel_rfl⟩
theorem I17 : FnIs Try.prog 17 A17 := ⟨Try.f17, Try.func17, A17_ok, by kernel_rfl⟩
theorem I25 : FnIs Try.prog 25 A25 := ⟨Try.f25, Try.func25, A25_ok, by kernel_rfl⟩
theorem I29 : FnIs Try.prog 29 A29 := ⟨Try.f29, Try.func29, A29_ok, by kernel_rfl⟩
theorem I30 : FnIs Try.prog 30 A30 := ⟨Try.f30, Try.func30, A30_ok, by kernel_rfl⟩
theorem I31 : FnIs Try.prog 31 A31 := ⟨Try.f31, Try.func31, A31_ok, by kernel_rfl⟩
theorem I32 : FnIs Try.prog 32 A32 := ⟨Try.f32, Try.func32, A32_ok, by kernel_rfl⟩
theorem I33 : FnIs Try.prog 33 A33 := ⟨Try.f33, Try.func33, A33_ok, by kernel_rfl⟩
theorem I35 : FnIs Try.prog 35 A35 := ⟨Try.f35, Try.func35, A35_ok, by kernel_rfl⟩
theorem I36 : FnIs Try.prog 36 A36 := ⟨Try.f36, Try.func36, A36_ok, by kernel_rfl⟩
theorem I38 : FnIs Try.prog 38 A38 := ⟨Try.f38, Try.func38, A38_ok, by kernel_rfl⟩
theorem I39 : FnIs Try.prog 39 A39 := ⟨Try.f39, Try.func39, A39_ok, by kernel_rfl⟩
theorem I40 : FnIs Try.prog 40 A40 := ⟨Try.f40, Try.func40, A40_ok, by kernel_rfl⟩
theorem I42 : FnIs Try.prog 42 A42 := ⟨Try.f42, Try.func42, A42_ok, by kernel_rfl⟩
theorem I53 : FnIs Try.prog 53 A53 := ⟨Try.f53, Try.func53, A53_ok, by kernel_rfl⟩
theorem I54 : FnIs Try.prog 54 A54 := ⟨Try.f54, Try.func54, A54_ok, by kernel_rfl⟩
theorem I55 : FnIs Try.prog 55 A55 := ⟨Try.f55, Try.func55, A55_ok, by kernel_rfl⟩
theorem I56 : FnIs Try.prog 56 A56 := ⟨Try.f56, Try.func56, A56_ok, by kernel_rfl⟩
theorem I57 : FnIs Try.prog 57 A57 := ⟨Try.f57, Try.func57, A57_ok, by kernel_rfl⟩
theorem I58 : FnIs Try.prog 58 A58 := ⟨Try.f58, Try.func58, A58_ok, by kernel_rfl⟩
theorem I59 : FnIs Try.prog 59 A59 := ⟨Try.f59, Try.func59, A59_ok, by kernel_rfl⟩
theorem I60 : FnIs Try.prog 60 A60 := ⟨Try.f60, Try.func60, A60_ok, by kernel_rfl⟩
theorem I61 : FnIs Try.prog 61 A61 := ⟨Try.f61, Try.func61, A61_ok, by kernel_rfl⟩
theorem I62 : FnIs Try.prog 62 A62 := ⟨Try.f62, Try.func62, A62_ok, by kernel_rfl⟩
theorem I63 : FnIs Try.prog 63 A63 := ⟨Try.f63, Try.func63, A63_ok, by kernel_rfl⟩
theorem I64 : FnIs Try.prog 64 A64 := ⟨Try.f64, Try.func64, A64_ok, by kernel_rfl⟩
theorem I65 : FnIs Try.prog 65 A65 := ⟨Try.f65, Try.func65, A65_ok, by kernel_rfl⟩
theorem I66 : FnIs Try.prog 66 A66 := ⟨Try.f66, Try.func66, A66_ok, by kernel_rfl⟩
theorem I68 : FnIs Try.prog 68 A68 := ⟨Try.f68, Try.func68, A68_ok, by kernel_rfl⟩
theorem I81 : FnIs Try.prog 81 A81 := ⟨Try.f81, Try.func81, A81_ok, by kernel_rfl⟩
theorem I82 : FnIs Try.prog 82 A82 := ⟨Try.f82, Try.func82, A82_ok, by kernel_rfl⟩
theorem I83 : FnIs Try.prog 83 A83 := ⟨Try.f83, Try.func83, A83_ok, by kernel_rfl⟩
theorem E_ok : EOK Try.prog E := by
  intro f fn h
  unfold E at h
  split at h
  · cases h; exact I13
  · cases h; exact I17
  · cases h; exact I25
  · cases h; exact I29
  · cases h; exact I30
  · cases h; exact I31
  · cases h; exact I32
  · cases h; exact I33
  · cases h; exact I35
  · cases h; exact I36
  · cases h; exact I38
  · cases h; exact I39
  · cases h; exact I40
  · cases h; exact I42
  · cases h; exact I53
  · cases h; exact I54
  · cases h; exact I55
  · cases h; exact I56
  · cases h; exact I57
  · cases h; exact I58
  · cases h; exact I59
  · cases h; exact I60
  · cases h; exact I61
  · cases h; exact I62
  · cases h; exact I63
  · cases h; exact I64
  · cases h; exact I65
  · cases h; exact I66
  · cases h; exact I68
  · cases h; exact I81
  · cases h; exact I82
  · cases h; exact I83
  · cases h
theorem mixed : Try.prog.follows .mixedOrders = true := by kernel_rfl
theorem laid : laidOutB Try.prog = true := by kernel_rfl
end Go.Proofs.Ytjmnepfdhkabfaa
