/- Part of the proof: the evaluation of the program's code and its tie to the machine, or what functions of the program compute over it. -/
import Derived.Test.YtjmnepfdhkabfaaDR
import Derived.Test.YtjmnepfdhkabfaaPart1
namespace Go.Proofs.Ytjmnepfdhkabfaa
set_option maxRecDepth 100000
set_option maxHeartbeats 4000000
set_option linter.unusedSimpArgs false
set_option linter.unusedVariables false
open Go Go.Zv
abbrev iI : Ty := .int .i64
def tRec : Ty := .cat [iI, iI, .cat [.cat [.cat [iI, iI, iI], .cat [iI, iI, iI]], .cat [iI, iI], .slice iI], iI]
abbrev rvc (r : Rec) : List LV := [.int .i64 r.seq, .int .i64 r.step, .int .i64 r.q0, .int .i64 r.q1, .int .i64 r.q2, .int .i64 r.q3, .int .i64 r.q4, .int .i64 r.q5, .int .i64 r.h0, .int .i64 r.h1, .vs (r.wh.map c1), .int .i64 r.mode]
theorem has_ints {xs : List (List LV)} (h : ∀ x ∈ xs, Has iI x) : ∃ l : List Int, xs = l.map c1 := by
  induction xs with
  | nil => exact ⟨[], rfl⟩
  | cons x xs ih =>
    obtain ⟨l, rfl⟩ := ih fun y hy => h y (by simp [hy])
    obtain ⟨n, rfl, _, _⟩ := h x (by simp)
    exact ⟨n :: l, rfl⟩
theorem has_rec {x : List LV} (h : Has tRec x) : ∃ r : Rec, x = rvc r ∧ r.wh.length ≤ 9223372036854775807 := by
  obtain ⟨_, _, rfl, ⟨sq, rfl, _, _⟩, _, _, rfl, ⟨st, rfl, _, _⟩, _, _, rfl, ⟨_, _, rfl, ⟨_, _, rfl, ⟨_, _, rfl, ⟨q0, rfl, _, _⟩, _, _, rfl, ⟨q1, rfl, _, _⟩, _, _, rfl, ⟨q2, rfl, _, _⟩, rfl⟩, _, _, rfl, ⟨_, _, rfl, ⟨q3, rfl, _, _⟩, _, _, rfl, ⟨q4, rfl, _, _⟩, _, _, rfl, ⟨q5, rfl, _, _⟩, rfl⟩, rfl⟩, _, _, rfl, ⟨_, _, rfl, ⟨h0, rfl, _, _⟩, _, _, rfl, ⟨h1, rfl, _, _⟩, rfl⟩, _, _, rfl, ⟨wh, rfl, hl, hw⟩, rfl⟩, _, _, rfl, ⟨md, rfl, _, _⟩, rfl⟩ := h
  obtain ⟨l, rfl⟩ := has_ints hw
  rw [List.length_map] at hl
  exact ⟨⟨sq, st, q0, q1, q2, q3, q4, q5, h0, h1, l, md⟩, rfl, len_le hl⟩
theorem has_recs {xs : List (List LV)} (h : ∀ x ∈ xs, Has tRec x) : ∃ l : List Rec, xs = l.map rvc := by
  induction xs with
  | nil => exact ⟨[], rfl⟩
  | cons x xs ih =>
    obtain ⟨l, rfl⟩ := ih fun y hy => h y (by simp [hy])
    obtain ⟨r, rfl, _⟩ := has_rec (h x (by simp))
    exact ⟨r :: l, rfl⟩
theorem u8_byte {n : Int} (h1 : IntKind.u8.min ≤ n) (h2 : n ≤ IntKind.u8.max) : ∃ b : UInt8, n = b.toNat := by
  have e1 : IntKind.u8.min = 0 := rfl
  have e2 : IntKind.u8.max = 255 := rfl
  exact ⟨UInt8.ofNat n.toNat, by simp; omega⟩
theorem has_cuts {xs : List (List LV)} (h : ∀ x ∈ xs, Has (.cat [.int .u8, .int .u8]) x) : ∃ l : List (UInt8 × UInt8), xs = l.map fun p => [LV.int .u8 p.1.toNat, LV.int .u8 p.2.toNat] := by
  induction xs with
  | nil => exact ⟨[], rfl⟩
  | cons x xs ih =>
    obtain ⟨l, rfl⟩ := ih fun y hy => h y (by simp [hy])
    obtain ⟨_, _, rfl, ⟨a, rfl, a1, a2⟩, _, _, rfl, ⟨b, rfl, b1, b2⟩, rfl⟩ := h x (by simp)
    obtain ⟨a, rfl⟩ := u8_byte a1 a2
    obtain ⟨b, rfl⟩ := u8_byte b1 b2
    exact ⟨(a, b) :: l, rfl⟩
end Go.Proofs.Ytjmnepfdhkabfaa
