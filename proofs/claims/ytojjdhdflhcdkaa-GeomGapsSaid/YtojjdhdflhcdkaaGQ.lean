/- Part of the proof: what functions of the program compute, over the evaluation that the engine's texts tie to the machine. -/
import Derived.Test.YtojjdhdflhcdkaaGM
namespace Go.Proofs.Ytojjdhdflhcdkaa
set_option maxRecDepth 100000
set_option maxHeartbeats 4000000
set_option linter.unusedSimpArgs false
set_option linter.unusedVariables false
open Go Go.Zv
theorem mn_le (a b : Int) : mnI a b ≤ a ∧ mnI a b ≤ b ∧ (mnI a b = a ∨ mnI a b = b) := by unfold mnI; split <;> omega
theorem mx_le (a b : Int) : a ≤ mxI a b ∧ b ≤ mxI a b ∧ (mxI a b = a ∨ mxI a b = b) := by unfold mxI; split <;> omega
theorem fold_min : ∀ (l : List (Int × Int)) (q : Int × Int), ((l.foldl minP q).1 ≤ q.1 ∧ (l.foldl minP q).2 ≤ q.2) ∧ (∀ p ∈ l, (l.foldl minP q).1 ≤ p.1 ∧ (l.foldl minP q).2 ≤ p.2) ∧
    ((l.foldl minP q).1 = q.1 ∨ ∃ p ∈ l, (l.foldl minP q).1 = p.1) ∧ ((l.foldl minP q).2 = q.2 ∨ ∃ p ∈ l, (l.foldl minP q).2 = p.2)
  | [], q => by simp
  | p :: l, q => by
    obtain ⟨⟨h1, h2⟩, h3, h4, h5⟩ := fold_min l (minP q p)
    have m1 := mn_le q.1 p.1
    have m2 := mn_le q.2 p.2
    simp only [List.foldl_cons]
    simp only [minP] at h1 h2 h4 h5
    refine ⟨⟨by simp only [minP] at *; omega, by simp only [minP] at *; omega⟩, fun r hr => ?_, ?_, ?_⟩
    · simp only [List.mem_cons] at hr
      rcases hr with rfl | hr
      · simp only [minP] at *; omega
      · exact h3 r hr
    · rcases h4 with h4 | ⟨r, hr, h4⟩
      · rcases m1.2.2 with m | m
        · exact .inl (by simp only [minP] at *; omega)
        · exact .inr ⟨p, by simp, by simp only [minP] at *; omega⟩
      · exact .inr ⟨r, by simp [hr], h4⟩
    · rcases h5 with h4 | ⟨r, hr, h4⟩
      · rcases m2.2.2 with m | m
        · exact .inl (by simp only [minP] at *; omega)
        · exact .inr ⟨p, by simp, by simp only [minP] at *; omega⟩
      · exact .inr ⟨r, by simp [hr], h4⟩
theorem fold_max : ∀ (l : List (Int × Int)) (q : Int × Int), (q.1 ≤ (l.foldl maxP q).1 ∧ q.2 ≤ (l.foldl maxP q).2) ∧ (∀ p ∈ l, p.1 ≤ (l.foldl maxP q).1 ∧ p.2 ≤ (l.foldl maxP q).2) ∧
    ((l.foldl maxP q).1 = q.1 ∨ ∃ p ∈ l, (l.foldl maxP q).1 = p.1) ∧ ((l.foldl maxP q).2 = q.2 ∨ ∃ p ∈ l, (l.foldl maxP q).2 = p.2)
  | [], q => by simp
  | p :: l, q => by
    obtain ⟨⟨h1, h2⟩, h3, h4, h5⟩ := fold_max l (maxP q p)
    have m1 := mx_le q.1 p.1
    have m2 := mx_le q.2 p.2
    simp only [List.foldl_cons]
    simp only [maxP] at h1 h2 h4 h5
    refine ⟨⟨by simp only [maxP] at *; omega, by simp only [maxP] at *; omega⟩, fun r hr => ?_, ?_, ?_⟩
    · simp only [List.mem_cons] at hr
      rcases hr with rfl | hr
      · simp only [maxP] at *; omega
      · exact h3 r hr
    · rcases h4 with h4 | ⟨r, hr, h4⟩
      · rcases m1.2.2 with m | m
        · exact .inl (by simp only [maxP] at *; omega)
        · exact .inr ⟨p, by simp, by simp only [maxP] at *; omega⟩
      · exact .inr ⟨r, by simp [hr], h4⟩
    · rcases h5 with h4 | ⟨r, hr, h4⟩
      · rcases m2.2.2 with m | m
        · exact .inl (by simp only [maxP] at *; omega)
        · exact .inr ⟨p, by simp, by simp only [maxP] at *; omega⟩
      · exact .inr ⟨r, by simp [hr], h4⟩
/-- what a box is: it bounds, and each side is met -/
structure Box (l : List (Int × Int)) (lo hi : Int × Int) : Prop where
  b1 : ∀ p ∈ l, lo.1 ≤ p.1
  b2 : ∀ p ∈ l, lo.2 ≤ p.2
  b3 : ∀ p ∈ l, p.1 ≤ hi.1
  b4 : ∀ p ∈ l, p.2 ≤ hi.2
  m1 : ∃ p ∈ l, p.1 = lo.1
  m2 : ∃ p ∈ l, p.2 = lo.2
  m3 : ∃ p ∈ l, p.1 = hi.1
  m4 : ∃ p ∈ l, p.2 = hi.2
theorem box {l : List (Int × Int)} (h : l ≠ []) : Box l (bbL l) (bbH l) := by
  cases l with
  | nil => exact absurd rfl h
  | cons p l =>
    obtain ⟨⟨a1, a2⟩, a3, a4, a5⟩ := fold_min (p :: l) p
    obtain ⟨⟨c1, c2⟩, c3, c4, c5⟩ := fold_max (p :: l) p
    refine ⟨fun q hq => (a3 q hq).1, fun q hq => (a3 q hq).2, fun q hq => (c3 q hq).1, fun q hq => (c3 q hq).2, ?_, ?_, ?_, ?_⟩
    · rcases a4 with a | ⟨r, hr, a⟩
      · exact ⟨p, by simp, a.symm⟩
      · exact ⟨r, hr, a.symm⟩
    · rcases a5 with a | ⟨r, hr, a⟩
      · exact ⟨p, by simp, a.symm⟩
      · exact ⟨r, hr, a.symm⟩
    · rcases c4 with a | ⟨r, hr, a⟩
      · exact ⟨p, by simp, a.symm⟩
      · exact ⟨r, hr, a.symm⟩
    · rcases c5 with a | ⟨r, hr, a⟩
      · exact ⟨p, by simp, a.symm⟩
      · exact ⟨r, hr, a.symm⟩
theorem Box.uniq {l : List (Int × Int)} {lo hi lo' hi' : Int × Int} (h : Box l lo hi) (k : Box l lo' hi') : lo = lo' ∧ hi = hi' := by
  obtain ⟨p1, hp1, e1⟩ := h.m1
  obtain ⟨p2, hp2, e2⟩ := h.m2
  obtain ⟨p3, hp3, e3⟩ := h.m3
  obtain ⟨p4, hp4, e4⟩ := h.m4
  obtain ⟨q1, hq1, f1⟩ := k.m1
  obtain ⟨q2, hq2, f2⟩ := k.m2
  obtain ⟨q3, hq3, f3⟩ := k.m3
  obtain ⟨q4, hq4, f4⟩ := k.m4
  have := h.b1 q1 hq1; have := k.b1 p1 hp1
  have := h.b2 q2 hq2; have := k.b2 p2 hp2
  have := h.b3 q3 hq3; have := k.b3 p3 hp3
  have := h.b4 q4 hq4; have := k.b4 p4 hp4
  exact ⟨Prod.ext (by omega) (by omega), Prod.ext (by omega) (by omega)⟩
theorem fitI_bd (x : Int) : -439400000 ≤ fitI x ∧ fitI x ≤ 439400000 := by
  have h2 := tmod_bd x (n := 439400001) (by omega)
  unfold fitI; omega
theorem fits_bd {l : List (Int × Int)} : ∀ p ∈ fits l, (-439400000 ≤ p.1 ∧ p.1 ≤ 439400000) ∧ (-439400000 ≤ p.2 ∧ p.2 ≤ 439400000) := by
  intro p hp
  unfold fits at hp
  obtain ⟨q, _, rfl⟩ := List.mem_map.1 hp
  exact ⟨fitI_bd _, fitI_bd _⟩
/-- the gap of two boxes, without the machine's rounding -/
def gapZ (lo hi lo' hi' : Int × Int) : Int := mxI (mxI (mxI (mxI 0 (lo'.1 - hi.1)) (lo'.2 - hi.2)) (lo.1 - hi'.1)) (lo.2 - hi'.2)
theorem gap_eq {l m : List (Int × Int)} (hl : l ≠ []) (hm : m ≠ []) (bl : ∀ p ∈ l, B p.1 ∧ B p.2) (bm : ∀ p ∈ m, B p.1 ∧ B p.2) : gapI l m = gapZ (bbL l) (bbH l) (bbL m) (bbH m) := by
  have k : ∀ {l : List (Int × Int)}, l ≠ [] → (∀ p ∈ l, B p.1 ∧ B p.2) → B (bbL l).1 ∧ B (bbL l).2 ∧ B (bbH l).1 ∧ B (bbH l).2 := fun {l} hl bl => by
    have h := box hl
    obtain ⟨p1, hp1, e1⟩ := h.m1
    obtain ⟨p2, hp2, e2⟩ := h.m2
    obtain ⟨p3, hp3, e3⟩ := h.m3
    obtain ⟨p4, hp4, e4⟩ := h.m4
    exact ⟨e1 ▸ (bl p1 hp1).1, e2 ▸ (bl p2 hp2).2, e3 ▸ (bl p3 hp3).1, e4 ▸ (bl p4 hp4).2⟩
  obtain ⟨⟨a1, a2⟩, ⟨a3, a4⟩, ⟨a5, a6⟩, a7, a8⟩ := k hl bl
  obtain ⟨⟨c1, c2⟩, ⟨c3, c4⟩, ⟨c5, c6⟩, c7, c8⟩ := k hm bm
  unfold gapI gapZ w64
  rw [if_neg (by simp [hl, hm]), wrap_small (by omega) (by omega), wrap_small (by omega) (by omega), wrap_small (by omega) (by omega), wrap_small (by omega) (by omega)]
theorem mx_mx (a b x : Int) : x = mxI a b ↔ a ≤ x ∧ b ≤ x ∧ (x = a ∨ x = b) := by unfold mxI; split <;> omega
theorem gapZ_char (lo hi lo' hi' : Int × Int) (x : Int) : x = gapZ lo hi lo' hi' ↔ (0 ≤ x ∧ lo'.1 - hi.1 ≤ x ∧ lo'.2 - hi.2 ≤ x ∧ lo.1 - hi'.1 ≤ x ∧ lo.2 - hi'.2 ≤ x) ∧ (x = 0 ∨ x = lo'.1 - hi.1 ∨ x = lo'.2 - hi.2 ∨ x = lo.1 - hi'.1 ∨ x = lo.2 - hi'.2) := by
  unfold gapZ mxI; repeat' split
  all_goals omega
end Go.Proofs.Ytojjdhdflhcdkaa
