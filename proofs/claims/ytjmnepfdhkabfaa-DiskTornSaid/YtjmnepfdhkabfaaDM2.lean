/- Part of the proof: what functions of the program compute, over the evaluation that the engine's texts tie to the machine. -/
import Derived.Test.YtjmnepfdhkabfaaDM
namespace Go.Proofs.Ytjmnepfdhkabfaa
set_option maxRecDepth 100000
set_option maxHeartbeats 4000000
set_option linter.unusedSimpArgs false
set_option linter.unusedVariables false
open Go Go.Zv
def wrg (s : List (List UInt8)) (i : Nat) (x : List UInt8) : List (List UInt8) := s.set i (over x (s[i]?.getD []))
theorem wrg_len (s i x) : (wrg s i x).length = s.length := by simp [wrg]
theorem over_over (x y p : List UInt8) (h : x.length ≤ y.length) : over y (over x p) = over y p := by
  unfold over
  rw [List.drop_append, List.drop_of_length_le h, List.nil_append, List.drop_drop]
  congr 2; omega
theorem wrg_same (s : List (List UInt8)) (i : Nat) (x y) (hi : i < s.length) (h : x.length ≤ y.length) : wrg (wrg s i x) i y = wrg s i y := by
  unfold wrg
  rw [List.set_set, List.getElem?_set_self hi, List.getElem?_eq_getElem hi]
  simp only [Option.getD_some]
  rw [over_over _ _ _ h]
theorem wrg_comm (s : List (List UInt8)) (i j : Nat) (x y) (h : i ≠ j) : wrg (wrg s i x) j y = wrg (wrg s j y) i x := by
  unfold wrg
  rw [List.getElem?_set_ne h, List.getElem?_set_ne (Ne.symm h), List.set_comm _ _ h]
def okw (s : List (List UInt8)) (i : Int) (x : List UInt8) : Prop := 0 ≤ i ∧ i < s.length ∧ x.length ≤ 64
theorem wr_free (s : List (List UInt8)) (t : Int) (i : Int) (x : List UInt8) : (¬ okw s i x ∧ wr ⟨s, -1, t, false⟩ i x = (⟨s, -1, t, false⟩, 1)) ∨ (okw s i x ∧ wr ⟨s, -1, t, false⟩ i x = (⟨wrg s i.toNat x, -1, t, false⟩, 0)) := by
  rcases wr_cases ⟨s, -1, t, false⟩ i x with ⟨h1, h⟩ | ⟨_, h1, h⟩ | ⟨h1, _, h2, h⟩ | ⟨_, h1, h2, h⟩
  · cases h1
  · exact .inl ⟨h1, h⟩
  · simp at h2
  · exact .inr ⟨h1, by rw [h]; simp [wrg]⟩
theorem ok_free {d : Dsk} (h : OKd d) : OKd ⟨d.sec, -1, d.torn, false⟩ := ⟨h.len1, h.len2, h.all, .inl rfl, h.torn0, h.torn1⟩
end Go.Proofs.Ytjmnepfdhkabfaa
