/- Part of the proof: what functions of the program compute, over the evaluation that the engine's texts tie to the machine. -/
import Derived.Test.YtjmnepfdhkabfaaD13
import Derived.Test.YtjmnepfdhkabfaaZvL
namespace Go.Proofs.Ytjmnepfdhkabfaa
set_option maxRecDepth 100000
set_option maxHeartbeats 4000000
set_option linter.unusedSimpArgs false
set_option linter.unusedVariables false
open Go Go.Zv
theorem vd_ok {d : Dsk} (h : OKd d) : vd d.sec d.fuse d.torn = true := by
  have h2 : all64 d.sec = true := List.all_eq_true.2 fun s hs => by simpa using h.all s hs
  have := h.len1; have := h.len2; have := h.fuse; have := h.torn0; have := h.torn1
  unfold vd
  rw [h2, Bool.and_true, decide_eq_true_eq]
  exact ⟨by omega, by omega, h.fuse, h.torn0, h.torn1⟩
theorem sameB_self (d : Dsk) : sameB d d = true := by simp [sameB]
theorem wr_cases (d : Dsk) (i : Int) (x : List UInt8) :
    (d.down = true ∧ wr d i x = (d, 300)) ∨ (d.down = false ∧ ¬ (0 ≤ i ∧ i < d.sec.length ∧ x.length ≤ 64) ∧ wr d i x = (d, 1)) ∨
    (d.down = false ∧ (0 ≤ i ∧ i < d.sec.length ∧ x.length ≤ 64) ∧ d.fuse = 1 ∧ wr d i x = (⟨d.sec.set i.toNat (over (x.take d.torn.toNat) (d.sec[i.toNat]?.getD [])), -1, 0, true⟩, 300)) ∨
    (d.down = false ∧ (0 ≤ i ∧ i < d.sec.length ∧ x.length ≤ 64) ∧ d.fuse ≠ 1 ∧ wr d i x = (⟨d.sec.set i.toNat (over x (d.sec[i.toNat]?.getD [])), if d.fuse > 1 then d.fuse - 1 else d.fuse, d.torn, false⟩, 0)) := by
  unfold wr
  cases h : d.down with
  | true => simp
  | false =>
    simp only [Bool.false_eq_true, if_false, false_and, true_and, false_or]
    by_cases h1 : 0 ≤ i ∧ i < d.sec.length ∧ x.length ≤ 64
    · by_cases h2 : d.fuse = 1
      · right; left; rw [if_pos h1, if_pos h2]; exact ⟨h1, h2, rfl⟩
      · right; right; rw [if_pos h1, if_neg h2]; exact ⟨h1, h2, rfl⟩
    · left; rw [if_neg h1]; exact ⟨h1, rfl⟩
theorem wr_len (d : Dsk) (i : Int) (x : List UInt8) : (wr d i x).1.sec.length = d.sec.length := by
  rcases wr_cases d i x with ⟨_, h⟩ | ⟨_, _, h⟩ | ⟨_, _, _, h⟩ | ⟨_, _, _, h⟩ <;> rw [h] <;> simp
theorem ac_len (d : Dsk) (a : Act) : (ac d a).1.sec.length = d.sec.length := by
  unfold ac
  split
  · rfl
  · split
    · unfold fu; split <;> rfl
    · exact wr_len ..
theorem ac_cases (d : Dsk) (a : Act) : (ac d a).2 = 0 ∨ ((ac d a).2 = 1 ∧ (ac d a).1 = d) ∨ ((ac d a).2 = 300 ∧ d.down = true ∧ (ac d a).1 = d) ∨ ((ac d a).2 = 300 ∧ d.down = false ∧ (ac d a).1.down = true) := by
  unfold ac
  split
  · exact .inl rfl
  · split
    · exact .inl rfl
    · rcases wr_cases d a.at_ a.data with ⟨h1, h⟩ | ⟨_, _, h⟩ | ⟨h1, _, _, h⟩ | ⟨_, _, _, h⟩ <;> rw [h] <;> simp [*]
end Go.Proofs.Ytjmnepfdhkabfaa
