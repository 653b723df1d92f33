/- Part of the proof: the evaluation of the program's code and its tie to the machine, or what functions of the program compute over it. -/
import Derived.Test.YtjmnepfdhkabfaaRows
import Derived.Test.YtjmnepfdhkabfaaDB
import Derived.Test.YtjmnepfdhkabfaaPart1
namespace Go.Proofs.Ytjmnepfdhkabfaa
set_option maxRecDepth 100000
set_option maxHeartbeats 4000000
set_option linter.unusedSimpArgs false
set_option linter.unusedVariables false
open Go Go.Zv
theorem own : ownKnob Try.prog.godebug = none := by kernel_rfl
def tBytes : Ty := .slice (.int .u8)
def tAct : Ty := .cat [.int .u8, .int .i64, .int .u8, .int .u8, tBytes]
def tDisk : Ty := .cat [.slice tBytes, .int .i64, .int .i64, .bool]
theorem has_bytes {xs : List (List LV)} (h : ∀ x ∈ xs, Has (.int .u8) x) : ∃ l : List UInt8, xs = l.map b1 := by
  induction xs with
  | nil => exact ⟨[], rfl⟩
  | cons x xs ih =>
    obtain ⟨l, rfl⟩ := ih fun y hy => h y (by simp [hy])
    obtain ⟨n, rfl, h1, h2⟩ := h x (by simp)
    have e1 : IntKind.u8.min = 0 := rfl
    have e2 : IntKind.u8.max = 255 := rfl
    refine ⟨UInt8.ofNat n.toNat :: l, ?_⟩
    simp only [List.map_cons, b1]
    have : ((UInt8.ofNat n.toNat).toNat : Int) = n := by simp; omega
    rw [this]
theorem has_sec {xs : List (List LV)} (h : ∀ x ∈ xs, Has tBytes x) : ∃ l : List (List UInt8), xs = l.map s1 := by
  induction xs with
  | nil => exact ⟨[], rfl⟩
  | cons x xs ih =>
    obtain ⟨l, rfl⟩ := ih fun y hy => h y (by simp [hy])
    obtain ⟨b, rfl, _, hb⟩ := h x (by simp)
    obtain ⟨b', rfl⟩ := has_bytes hb
    exact ⟨b' :: l, by simp [s1]⟩
structure RA (a : Act) : Prop where
  k0 : 0 ≤ a.k
  n0 : 0 ≤ a.n
  n1 : a.n ≤ 255
  t0 : 0 ≤ a.torn
  t1 : a.torn ≤ 255
theorem has_act {x : List LV} (h : Has tAct x) : ∃ a : Act, x = a5 a ∧ RA a := by
  obtain ⟨a1, r1, rfl, ⟨k, rfl, k1, k2⟩, a2, r2, rfl, ⟨i, rfl, i1, i2⟩, a3, r3, rfl, ⟨n, rfl, n1, n2⟩, a4, r4, rfl, ⟨t, rfl, t1, t2⟩, a5', r5, rfl, ⟨b, rfl, _, hb⟩, rfl⟩ := h
  obtain ⟨b', rfl⟩ := has_bytes hb
  have e1 : IntKind.u8.min = 0 := rfl
  have e2 : IntKind.u8.max = 255 := rfl
  rw [e1, e2] at *
  exact ⟨⟨k, i, n, t, b'⟩, rfl, ⟨k1, n1, n2, t1, t2⟩⟩
theorem has_acts {xs : List (List LV)} (h : ∀ x ∈ xs, Has tAct x) : ∃ l : List Act, xs = l.map a5 ∧ ∀ a ∈ l, RA a := by
  induction xs with
  | nil => exact ⟨[], rfl, by simp⟩
  | cons x xs ih =>
    obtain ⟨l, rfl, hl⟩ := ih fun y hy => h y (by simp [hy])
    obtain ⟨a, rfl, ha⟩ := has_act (h x (by simp))
    refine ⟨a :: l, by simp, fun p hp => ?_⟩
    simp only [List.mem_cons] at hp
    rcases hp with rfl | hp
    · exact ha
    · exact hl p hp
theorem ok_of {l : List Act} (h : ∀ a ∈ l, RA a) (hg : gr l = false) : l.length ≤ 1000000000 ∧ ∀ a ∈ l, OKa a := by
  simp only [gr, Bool.or_eq_false_iff, decide_eq_false_iff_not] at hg
  refine ⟨by omega, fun a ha => ?_⟩
  have h1 := List.any_eq_false.1 hg.2 a ha
  have h2 := h a ha
  exact ⟨h2.k0, h2.n0, h2.n1, h2.t0, h2.t1, by simp at h1; omega⟩
theorem u8_nat {n : Int} (h1 : IntKind.u8.min ≤ n) (h2 : n ≤ IntKind.u8.max) : ∃ m : Nat, n = m ∧ m ≤ 255 := by
  have e1 : IntKind.u8.min = 0 := rfl
  have e2 : IntKind.u8.max = 255 := rfl
  exact ⟨n.toNat, by omega, by omega⟩
theorem len_le {n : Nat} (h : n ≤ maxLen) : n ≤ 9223372036854775807 := by unfold maxLen at h; omega
end Go.Proofs.Ytjmnepfdhkabfaa
