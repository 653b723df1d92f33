/- Part of the proof: the evaluation of the program's code and its tie to the machine, or what functions of the program compute over it. -/
import Derived.Test.YteellikeoiedbaaRows
import Derived.Test.YteellikeoiedbaaIB
import Derived.Test.YteellikeoiedbaaPart1
namespace Go.Proofs.Yteellikeoiedbaa
set_option maxRecDepth 100000
set_option maxHeartbeats 4000000
set_option linter.unusedSimpArgs false
set_option linter.unusedVariables false
open Go Go.Zv
open Go.Geo
theorem own : ownKnob Try.prog.godebug = none := by kernel_rfl
def tPt : Ty := .cat [.int .i64, .int .i64]
theorem has_pt {x : List LV} (h : Has tPt x) : ∃ a b : Int, x = [.int .i64 a, .int .i64 b] ∧ (IntKind.i64.min ≤ a ∧ a ≤ IntKind.i64.max) ∧ (IntKind.i64.min ≤ b ∧ b ≤ IntKind.i64.max) := by
  obtain ⟨_, _, rfl, ⟨a, rfl, ha⟩, _, _, rfl, ⟨b, rfl, hb⟩, rfl⟩ := h
  exact ⟨a, b, rfl, ha, hb⟩
def t3 : Ty := .cat [.int .i64, .int .i64, .int .i64]
theorem has_2 {x : List LV} (h : Has tPt x) : ∃ a b : Int, x = [.int .i64 a, .int .i64 b] := by
  obtain ⟨a, b, h, _⟩ := has_pt h
  exact ⟨a, b, h⟩
theorem has_3 {x : List LV} (h : Has t3 x) : ∃ a b c : Int, x = [.int .i64 a, .int .i64 b, .int .i64 c] := by
  obtain ⟨_, _, rfl, ⟨a, rfl, _⟩, _, _, rfl, ⟨b, rfl, _⟩, _, _, rfl, ⟨c, rfl, _⟩, rfl⟩ := h
  exact ⟨a, b, c, rfl⟩
theorem has_pts {xs : List (List LV)} (h : ∀ x ∈ xs, Has tPt x) : ∃ l : List Pt, xs = l.map c2 := by
  induction xs with
  | nil => exact ⟨[], rfl⟩
  | cons x xs ih =>
    obtain ⟨l, rfl⟩ := ih fun y hy => h y (by simp [hy])
    obtain ⟨n, m, rfl, _⟩ := has_pt (h x (by simp))
    exact ⟨(n, m) :: l, by simp [c2]⟩
theorem u8_nat {n : Int} (h1 : IntKind.u8.min ≤ n) (h2 : n ≤ IntKind.u8.max) : ∃ m : Nat, n = m ∧ m ≤ 255 := by
  have e1 : IntKind.u8.min = 0 := rfl
  have e2 : IntKind.u8.max = 255 := rfl
  exact ⟨n.toNat, by omega, by omega⟩
end Go.Proofs.Yteellikeoiedbaa
