/- Proved: GeomMatchesReference returns true for every input, without conditions. -/
import Derived.Test.YtojjdhdflhcdkaaRows
import Derived.Test.YtojjdhdflhcdkaaGB
import Derived.Test.YtojjdhdflhcdkaaG5
namespace Go.Proofs.Ytojjdhdflhcdkaa
set_option maxRecDepth 100000
set_option maxHeartbeats 4000000
set_option linter.unusedSimpArgs false
set_option linter.unusedVariables false
open Go Go.Zv
theorem own : ownKnob Try.prog.godebug = none := by kernel_rfl
def tPt : Ty := .cat [.int .i64, .int .i64]
theorem has_pts {xs : List (List LV)} (h : ∀ x ∈ xs, Has tPt x) : ∃ l : List (Int × Int), xs = l.map c2 ∧ ∀ p ∈ l, IntKind.i64.min ≤ p.1 ∧ p.1 ≤ IntKind.i64.max ∧ IntKind.i64.min ≤ p.2 ∧ p.2 ≤ IntKind.i64.max := by
  induction xs with
  | nil => exact ⟨[], rfl, by simp⟩
  | cons x xs ih =>
    obtain ⟨l, rfl, hl⟩ := ih fun y hy => h y (by simp [hy])
    obtain ⟨a, b, rfl, ⟨n, rfl, hn⟩, r1, r2, rfl, ⟨m, rfl, hm⟩, rfl⟩ := h x (by simp)
    refine ⟨(n, m) :: l, by simp [c2], fun p hp => ?_⟩
    simp only [List.mem_cons] at hp
    rcases hp with rfl | hp
    · exact ⟨hn.1, hn.2, hm.1, hm.2⟩
    · exact hl p hp
def tys3 : List (Bool × Ty) := [(true, .cat [tPt, tPt, tPt, tPt]), (false, .bool), (false, .slice tPt), (false, .slice tPt)]
theorem row3 (args : List LV) (h : HasAll tys3 args) : pc E 3 args = some (.bool true) := by
  obtain ⟨x1, r1, rfl, ⟨xs, rfl, hx⟩, x2, r2, rfl, ⟨s, hs⟩, x3, r3, rfl, ⟨l, hl, hll, hl2⟩, x4, r4, rfl, ⟨m, hm, hmm, hm2⟩, rfl⟩ := h
  cases hs; cases hl; cases hm
  obtain ⟨a1, b1, rfl, ⟨a2, b2, rfl, ⟨n1, rfl, _⟩, a3, b3, rfl, ⟨n2, rfl, _⟩, rfl⟩, c1, d1, rfl, ⟨e2, f2, rfl, ⟨n3, rfl, _⟩, e3, f3, rfl, ⟨n4, rfl, _⟩, rfl⟩, c3, d3, rfl, ⟨g2, h2, rfl, ⟨n5, rfl, _⟩, g3, h3, rfl, ⟨n6, rfl, _⟩, rfl⟩, c4, d4, rfl, ⟨i2, j2, rfl, ⟨n7, rfl, _⟩, i3, j3, rfl, ⟨n8, rfl, _⟩, rfl⟩, rfl⟩ := hx
  obtain ⟨l', rfl, _⟩ := has_pts hl2
  obtain ⟨m', rfl, _⟩ := has_pts hm2
  exact law3 n1 n2 n3 n4 n5 n6 n7 n8 s l' m' (by unfold maxLen at hll; simp at hll; omega) (by unfold maxLen at hmm; simp at hmm; omega)
theorem lifted3 (os : Os) (started : os.Started) (H : Type) (enc : TypeId × Value → H) :
    ReturnsInHanded {} Try.checked os 3 .any (Rows.geomMatchesReferenceSpec.pre6 enc Try.prog Try.f3 Rows.geomMatchesReferenceRow.domain false) (Rows.geomMatchesReferenceSpec.post enc Try.prog Try.f3 false true false false) := by
  refine returnsInHanded_of_change (C := Try.checked) own started (by kernel_rfl) Try.func3
    (ChangeSpec.witness6 (enc := enc) (C := Try.checked) false ⟨#[], #[.agg #[.int .i64 0, .int .i64 0, .int .i64 0, .int .i64 0, .int .i64 0, .int .i64 0, .int .i64 0, .int .i64 0], .bool false, .slice none 0 0, .slice none 0 0], []⟩ 8 (by kernel_rfl) (by kernel_rfl) (by kernel_rfl) (by kernel_rfl)) ?_
  intro W base args ds gs before hval hW _ _
  exact law_contract (C := Try.checked) (tys := tys3) (tb := 4) mixed E_ok laid (by kernel_rfl) (by kernel_rfl) Try.underlying4 (by kernel_rfl) row3 rfl (fun ds h => by
    have h : ds.length = 4 := h
    match ds, h with
    | [d1, d2, d3, d4], _ => rfl) W base args ds gs before hval hW
theorem geomMatchesReference : Rows.GeomMatchesReferenceSaid :=
  OpenClaim.holds_of_wide 3 Try.f3 rfl rfl rfl rfl rfl rfl rfl ⟨rfl, rfl, rfl, rfl, rfl⟩ rfl rfl rfl rfl rfl (by kernel_rfl) Try.func3 (by kernel_rfl)
    (of_decide_eq_true (by kernel_rfl)) (by unfold Func.isWrapper; first | (rw [if_pos (by decide +kernel)]; kernel_rfl) | (rw [if_neg (by decide +kernel)]; exact ⟨rfl, rfl⟩))
    (fun os started H enc _ => lifted3 os started H enc)
#print axioms geomMatchesReference
end Go.Proofs.Ytojjdhdflhcdkaa
