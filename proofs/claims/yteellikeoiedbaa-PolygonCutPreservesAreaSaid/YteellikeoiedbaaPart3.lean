/- Part of the proof: the evaluation of the program's code and its tie to the machine, or what functions of the program compute over it. -/
import Derived.Test.YteellikeoiedbaaPart2
import Derived.Test.YteellikeoiedbaaEng6
import Derived.KernelRfl
namespace Go.Geo
set_option maxRecDepth 100000
set_option maxHeartbeats 4000000
set_option linter.unusedSimpArgs false
set_option linter.unusedVariables false
open Go Go.Zv
def edg (a : Nat → Q2) (k : Nat) : Q2 × Q2 := (a k, a (k + 1))
def chn (a : Nat → Q2) (i m : Nat) : List (Q2 × Q2) := (List.range m).map fun k => edg a (i + k)
theorem chn_cons (a : Nat → Q2) (i m : Nat) : chn a i (m + 1) = edg a i :: chn a (i + 1) m := by
  unfold chn
  rw [List.range_succ_eq_map, List.map_cons, List.map_map]
  congr 1
  exact List.map_congr_left fun k _ => by simp only [Function.comp_apply]; congr 1; omega
theorem chn_snoc (a : Nat → Q2) (i m : Nat) : chn a i (m + 1) = chn a i m ++ [edg a (i + m)] := by
  unfold chn
  rw [List.range_succ, List.map_append]; rfl
theorem chn_path (a : Nat → Q2) (i m : Nat) : Path (a i) (a (i + m)) (chn a i m) := by
  intro f
  induction m with
  | zero => simp [chn]
  | succ m ih =>
    rw [chn_snoc, List.map_append, List.sum_append, ih]
    simp only [edg, List.map_cons, List.map_nil, List.sum_cons, List.sum_nil]
    rw [show i + (m + 1) = i + m + 1 by omega]; omega
theorem wn_cons (d x : Q2) (e : Q2 × Q2) (l : List (Q2 × Q2)) : wn d x (e :: l) = hit d (sq e.1 x) (sq e.2 x) + wn d x l := by simp [wn]
theorem wn_append (d x : Q2) (l m : List (Q2 × Q2)) : wn d x (l ++ m) = wn d x l + wn d x m := by simp [wn, List.sum_append]
theorem wn_one (d x : Q2) (e : Q2 × Q2) : wn d x [e] = hit d (sq e.1 x) (sq e.2 x) := by simp [wn]
theorem mem_chn {a : Nat → Q2} {i m : Nat} {e : Q2 × Q2} : e ∈ chn a i m ↔ ∃ k, k < m ∧ e = edg a (i + k) := by
  unfold chn
  simp only [List.mem_map, List.mem_range]
  constructor
  · rintro ⟨k, h, rfl⟩; exact ⟨k, h, rfl⟩
  · rintro ⟨k, h, rfl⟩; exact ⟨k, h, rfl⟩
theorem wn_congr {d d' x y : Q2} {a : Nat → Q2} {i m : Nat} (h : ∀ k, k < m → hit d (sq (a (i + k)) x) (sq (a (i + k + 1)) x) = hit d' (sq (a (i + k)) y) (sq (a (i + k + 1)) y)) : wn d x (chn a i m) = wn d' y (chn a i m) := by
  unfold wn chn
  rw [List.map_map, List.map_map]
  congr 1
  exact List.map_congr_left fun k hk => h k (List.mem_range.1 hk)
/-- a simple closed polygon -/
structure Simp (a : Nat → Q2) (n : Nat) : Prop where
  n3 : 3 ≤ n
  per : ∀ k, a (k + n) = a k
  nc : ∀ i, xq (sq (a (i + 1)) (a i)) (sq (a (i + 2)) (a (i + 1))) ≠ 0
  dj : ∀ i m, 2 ≤ m → m + 2 ≤ n → ∀ z, OnE z (edg a i) → ¬ OnE z (edg a (i + m))
section
variable {a : Nat → Q2} {n : Nat}
theorem edg_per (h : Simp a n) (k : Nat) : edg a (k + n) = edg a k := by
  unfold edg; rw [h.per, show k + n + 1 = k + 1 + n by omega, h.per]
theorem wn_turn (h : Simp a n) (d x : Q2) (i : Nat) : wn d x (chn a (i + 1) n) = wn d x (chn a i n) := by
  obtain ⟨m, rfl⟩ : ∃ m, n = m + 1 := ⟨n - 1, by have := h.n3; omega⟩
  have e : edg a (i + 1 + m) = edg a i := by rw [show i + 1 + m = i + (m + 1) by omega]; exact edg_per h i
  rw [chn_cons a i m, chn_snoc a (i + 1) m, wn_append, wn_one, wn_cons, e, Int.add_comm]
theorem wn_base (h : Simp a n) (d x : Q2) (i : Nat) : wn d x (chn a i n) = wn d x (chn a 0 n) := by
  induction i with
  | zero => rfl
  | succ i ih => rw [wn_turn h, ih]
theorem f_ne (h : Simp a n) (i : Nat) : sq (a (i + 1)) (a i) ≠ (0, 0) := fun e => h.nc i (by rw [e]; unfold xq; grind)
/-- edges with a common corner share nothing else -/
theorem adj (h : Simp a n) {i : Nat} {z : Q2} (h1 : OnE z (edg a i)) (h2 : OnE z (edg a (i + 1))) : z = a (i + 1) := by
  obtain ⟨s, s0, s1, e1⟩ := on_param h1
  obtain ⟨t, t0, t1, e2⟩ := on_param h2
  have hn := h.nc i
  rw [show i + 1 + 1 = i + 2 by omega] at e2
  rw [e1] at e2
  simp only [onp, Prod.mk.injEq] at e2
  obtain ⟨q1, q2⟩ := e2
  have hs : (1 - s) * xq (sq (a (i + 1)) (a i)) (sq (a (i + 2)) (a (i + 1))) = 0 := by unfold xq sq; grind
  have : s = 1 := by
    have hi := r_inv hn
    generalize (xq (sq (a (i + 1)) (a i)) (sq (a (i + 2)) (a (i + 1))))⁻¹ = M at *
    grind
  rw [e1, this]
  refine Prod.ext ?_ ?_ <;> simp only [onp] <;> grind
/-- a corner lies on its two edges alone -/
theorem corner_off (h : Simp a n) (i k : Nat) (hk : k < n - 2) : ¬ OnE (a (i + 1)) (edg a (i + 2 + k)) := by
  intro ho
  have n3 := h.n3
  by_cases h1 : k + 2 + 2 ≤ n
  · exact h.dj i (k + 2) (by omega) (by omega) (a (i + 1)) (on_right _ _) (by rw [show i + (k + 2) = i + 2 + k by omega]; exact ho)
  · by_cases h2 : n = 3
    · have hk0 : k = 0 := by omega
      subst hk0
      have := adj h (i := i + 1) (z := a (i + 1)) (on_left _ _) (by exact ho)
      have hn := h.nc (i + 1)
      rw [show i + 1 + 1 = i + 2 by omega] at this
      rw [show i + 1 + 1 = i + 2 by omega, ← this] at hn
      exact hn (by unfold xq sq; grind)
    · exact h.dj (i + 1) (k + 1) (by omega) (by omega) (a (i + 1)) (on_left _ _) (by rw [show i + 1 + (k + 1) = i + 2 + k by omega]; exact ho)
/-- a point inside an edge lies on no other -/
theorem inner_off (h : Simp a n) {i : Nat} {y : Q2} (hy : OnE y (edg a i)) (h0 : y ≠ a i) (h1 : y ≠ a (i + 1)) (k : Nat) (hk : k < n - 1) : ¬ OnE y (edg a (i + 1 + k)) := by
  intro ho
  have n3 := h.n3
  by_cases e0 : k = 0
  · subst e0; exact h1 (adj h hy ho)
  · by_cases e1 : k + 3 ≤ n
    · exact h.dj i (k + 1) (by omega) (by omega) y hy (by rw [show i + (k + 1) = i + 1 + k by omega]; exact ho)
    · have e2 : k + 2 = n := by omega
      have := adj h (i := i + 1 + k) (z := y) ho (by rw [show i + 1 + k + 1 = i + n by omega, edg_per h]; exact hy)
      rw [show i + 1 + k + 1 = i + n by omega, h.per] at this
      exact h0 this
/-- what the winding number is on the left of an edge -/
def Lc (a : Nat → Q2) (n i : Nat) : Int := wn (sq (a (i + 1)) (a i)) (a i) (chn a i n)
theorem hit_from0 (d v : Q2) : hit d (0, 0) v = 0 := by
  have h1 : xq d (0, 0) = 0 := by unfold xq; grind
  have h2 : xq (0, 0) v = 0 := by unfold xq; grind
  unfold hit; rw [h1, h2]; simp
theorem hit_to0 (d v : Q2) : hit d v (0, 0) = 0 := by rw [hit_neg, hit_from0]; rfl
theorem sq_self (x : Q2) : sq x x = (0, 0) := by unfold sq; refine Prod.ext ?_ ?_ <;> simp only <;> grind
def lft (a : Nat → Q2) (i : Nat) : Int := if 0 < xq (sq (a (i + 1)) (a i)) (sq (a (i + 2)) (a (i + 1))) then 1 else 0
theorem hit_next {a : Nat → Q2} {i : Nat} {y : Q2} {s : Rat} (s1 : s < 1) (hy : y = onp (a i) (a (i + 1)) s) : hit (sq (a (i + 1)) (a i)) (sq (a (i + 1)) y) (sq (a (i + 2)) y) = lft a i := by
  have e1 : xq (sq (a (i + 1)) (a i)) (sq (a (i + 1)) y) = 0 := by subst hy; unfold onp xq sq; grind
  have e2 : xq (sq (a (i + 1)) (a i)) (sq (a (i + 2)) y) = xq (sq (a (i + 1)) (a i)) (sq (a (i + 2)) (a (i + 1))) := by subst hy; unfold onp xq sq; grind
  have e3 : xq (sq (a (i + 1)) y) (sq (a (i + 2)) y) = (1 - s) * xq (sq (a (i + 1)) (a i)) (sq (a (i + 2)) (a (i + 1))) := by subst hy; unfold onp xq sq; grind
  unfold hit lft
  rw [e1, e2, e3]
  have h0 : ¬ (0 : Rat) < 0 := by grind
  rw [if_neg h0]
  by_cases hg : 0 < xq (sq (a (i + 1)) (a i)) (sq (a (i + 2)) (a (i + 1)))
  · have := Rat.mul_pos (a := 1 - s) (by grind) hg
    simp only [hg, this, if_true]
  · simp only [hg, if_false]
theorem hit_prev {z b c y : Q2} {s : Rat} (s0 : 0 ≤ s) (hy : y = onp b c s) : hit (sq c b) (sq z y) (sq b y) = 0 := by
  have e1 : xq (sq c b) (sq b y) = 0 := by subst hy; unfold onp xq sq; grind
  have e3 : xq (sq z y) (sq b y) = s * xq (sq c b) (sq z y) := by subst hy; unfold onp xq sq; grind
  unfold hit
  rw [e1, e3]
  have h0 : ¬ (0 : Rat) < 0 := by grind
  simp only [h0, if_false]
  by_cases hg : 0 < xq (sq c b) (sq z y)
  · have := Rat.mul_nonneg s0 (show 0 ≤ xq (sq c b) (sq z y) by grind)
    have h1 : ¬ s * xq (sq c b) (sq z y) < 0 := by grind
    simp only [hg, h1, if_true, if_false]
  · simp only [hg, if_false]
theorem hit_self {b c y : Q2} {s : Rat} (hy : y = onp b c s) : hit (sq c b) (sq b y) (sq c y) = 0 := by
  have e1 : xq (sq c b) (sq b y) = 0 := by subst hy; unfold onp xq sq; grind
  have e2 : xq (sq c b) (sq c y) = 0 := by subst hy; unfold onp xq sq; grind
  have h0 : ¬ (0 : Rat) < 0 := by grind
  unfold hit; rw [e1, e2]; simp only [h0, if_false]
theorem onp0 (a b : Q2) : onp a b 0 = a := by refine Prod.ext ?_ ?_ <;> simp only [onp] <;> grind
theorem onp1 (a b : Q2) : onp a b 1 = b := by refine Prod.ext ?_ ?_ <;> simp only [onp] <;> grind
/-- along an edge, in its direction: the other edges count alike -/
theorem edge_move (h : Simp a n) {i : Nat} {y : Q2} {s : Rat} (s0 : 0 ≤ s) (s1 : s ≤ 1) (hy : y = onp (a i) (a (i + 1)) s) :
    wn (sq (a (i + 1)) (a i)) y (chn a (i + 2) (n - 2)) = wn (sq (a (i + 1)) (a i)) (a i) (chn a (i + 2) (n - 2)) := by
  refine wn_congr fun k hk => ?_
  have n3 := h.n3
  by_cases e : k + 3 = n
  · have e1 : a (i + 2 + k + 1) = a i := by rw [show i + 2 + k + 1 = i + n by omega, h.per]
    rw [e1, hit_prev s0 hy, hit_prev (s := 0) (by grind) (onp0 (a i) (a (i + 1))).symm]
  · by_cases hz : y = a i
    · rw [hz]
    · have s2 : 0 < s := by
        refine Classical.byContradiction fun hs => hz ?_
        have : s = 0 := by grind
        rw [hy, this, onp0]
      have hm : ¬ Meets (a (i + 2 + k)) (a (i + 2 + k + 1)) (a i) y := by
        rintro ⟨z, z1, z2⟩
        refine h.dj i (k + 2) (by omega) (by omega) z ?_ (by rw [show i + (k + 2) = i + 2 + k by omega]; exact z1)
        obtain ⟨t, t0, t1, ht⟩ := on_param z2
        have : z = onp (a i) (a (i + 1)) (t * s) := by rw [ht, hy]; refine Prod.ext ?_ ?_ <;> simp only [onp] <;> grind
        rw [this]
        refine on_of_param (Rat.mul_nonneg t0 s0) ?_
        have := Rat.mul_nonneg (a := 1 - t) (b := s) (by grind) s0
        grind
      have := hit_seg hm
      have hd : sq y (a i) = (s * (sq (a (i + 1)) (a i)).1, s * (sq (a (i + 1)) (a i)).2) := by rw [hy]; refine Prod.ext ?_ ?_ <;> simp only [onp, sq] <;> grind
      rw [hd, hit_scale s2, hit_scale s2] at this
      exact this.symm
theorem split2 (h : Simp a n) (i : Nat) : chn a i n = edg a i :: edg a (i + 1) :: chn a (i + 2) (n - 2) := by
  obtain ⟨m, rfl⟩ : ∃ m, n = m + 2 := ⟨n - 2, by have := h.n3; omega⟩
  rw [chn_cons, chn_cons]; rfl
theorem Lc_eq (h : Simp a n) {i : Nat} {y : Q2} {s : Rat} (s0 : 0 ≤ s) (s1 : s < 1) (hy : y = onp (a i) (a (i + 1)) s) : wn (sq (a (i + 1)) (a i)) y (chn a i n) = Lc a n i := by
  unfold Lc
  rw [split2 h i]
  simp only [wn_cons, edg]
  rw [edge_move h s0 (by grind) hy, hit_self hy, hit_next s1 hy, hit_self (s := 0) (onp0 (a i) (a (i + 1))).symm, hit_next (s := 0) (by grind) (onp0 (a i) (a (i + 1))).symm]
theorem Lc_V (h : Simp a n) (i : Nat) : Lc a n i = lft a i + wn (sq (a (i + 1)) (a i)) (a (i + 1)) (chn a (i + 2) (n - 2)) := by
  unfold Lc
  rw [split2 h i]
  simp only [wn_cons, edg]
  rw [hit_self (s := 0) (onp0 (a i) (a (i + 1))).symm, hit_next (s := 0) (by grind) (onp0 (a i) (a (i + 1))).symm, edge_move h (s := 1) (by grind) (by grind) (onp1 (a i) (a (i + 1))).symm]
  omega
theorem Lc_V2 (h : Simp a n) (i : Nat) : Lc a n (i + 1) = wn (sq (a (i + 2)) (a (i + 1))) (a (i + 1)) (chn a (i + 2) (n - 2)) := by
  unfold Lc
  rw [wn_turn h, split2 h i]
  simp only [wn_cons, edg]
  rw [sq_self, hit_to0, hit_from0, show i + 1 + 1 = i + 2 by omega]
  omega
theorem V_path (h : Simp a n) (i : Nat) : Path (a (i + 2)) (a i) (chn a (i + 2) (n - 2)) := by
  have := chn_path a (i + 2) (n - 2)
  rw [show i + 2 + (n - 2) = i + n by have := h.n3; omega, h.per] at this
  exact this
theorem V_off (h : Simp a n) (i : Nat) : ∀ g ∈ chn a (i + 2) (n - 2), ¬ OnE (a (i + 1)) g := by
  intro g hg
  obtain ⟨k, hk, rfl⟩ := mem_chn.1 hg
  exact corner_off h i k hk
theorem Lc_succ (h : Simp a n) (i : Nat) : Lc a n (i + 1) = Lc a n i := by
  rw [Lc_V2 h, Lc_V h i]
  have hn := h.nc i
  have k1 : xq (sq (a (i + 1)) (a i)) (sq (a i) (a (i + 1))) = 0 := by unfold xq sq; grind
  have k2 : xq (sq (a (i + 2)) (a (i + 1))) (sq (a i) (a (i + 1))) = xq (sq (a (i + 1)) (a i)) (sq (a (i + 2)) (a (i + 1))) := by unfold xq sq; grind
  have k3 : xq (sq (a (i + 2)) (a (i + 1))) (sq (a (i + 2)) (a (i + 1))) = 0 := by unfold xq sq; grind
  have z0 : ¬ (0 : Rat) < 0 := by grind
  by_cases hl : 0 < xq (sq (a (i + 1)) (a i)) (sq (a (i + 2)) (a (i + 1)))
  · have := wn_wedge (V_path h i) hl (V_off h i)
    unfold Wd at this
    simp only [k1, k3, hl, z0, if_true, if_false] at this
    unfold lft
    rw [if_pos hl]; omega
  · have hr : 0 < xq (sq (a (i + 2)) (a (i + 1))) (sq (a (i + 1)) (a i)) := by rw [xq_swap]; grind
    have := wn_wedge (V_path h i) hr (V_off h i)
    unfold Wd at this
    simp only [k2, k3, hl, z0, if_false] at this
    unfold lft
    rw [if_neg hl]; omega
theorem Lc_const (h : Simp a n) (i : Nat) : Lc a n i = Lc a n 0 := by
  induction i with
  | zero => rfl
  | succ i ih => rw [Lc_succ h, ih]
/-- the top corner tells -/
theorem Lc_top (h : Simp a n) (t : Nat) (ht : ∀ j, (a j).2 < (a (t + 1)).2 ∨ ((a j).2 = (a (t + 1)).2 ∧ (a (t + 1)).1 ≤ (a j).1)) : Lc a n (t + 1) = 0 ∨ Lc a n (t + 1) = 1 := by
  rw [Lc_V2 h]
  have hj : ∀ j, ¬ 0 < xq (1, 0) (sq (a j) (a (t + 1))) := fun j => by
    have := ht j
    unfold xq sq; simp only; grind
  have h0 : wn (1, 0) (a (t + 1)) (chn a (t + 2) (n - 2)) = 0 := wn_none_left fun e he => by
    obtain ⟨k, hk, rfl⟩ := mem_chn.1 he
    exact ⟨hj _, hj _⟩
  have k3 : xq (sq (a (t + 2)) (a (t + 1))) (sq (a (t + 2)) (a (t + 1))) = 0 := by unfold xq sq; grind
  have z0 : ¬ (0 : Rat) < 0 := by grind
  have h2 := ht (t + 2)
  by_cases hg : 0 < xq (sq (a (t + 2)) (a (t + 1))) (1, 0)
  · have := wn_wedge (V_path h t) hg (V_off h t)
    unfold Wd at this
    simp only [k3, z0, if_false, h0] at this
    rw [Int.sub_zero, Int.sub_zero] at this
    rw [this]
    have := hj t
    simp only [this, if_false]
    split <;> simp
  · have hne := f_ne h (t + 1)
    have e2 : (sq (a (t + 2)) (a (t + 1))).2 = 0 := by unfold xq sq at hg; simp only at hg; unfold sq; simp only; grind
    have e1 : 0 < (sq (a (t + 2)) (a (t + 1))).1 := by
      refine Classical.byContradiction fun hx => hne ?_
      rw [show t + 1 + 1 = t + 2 by omega]
      refine Prod.ext ?_ e2
      unfold sq at hx e2 ⊢; simp only at hx e2 ⊢; grind
    left
    refine wn_none_left fun e he => ?_
    obtain ⟨k, hk, rfl⟩ := mem_chn.1 he
    have hs : ∀ j, ¬ 0 < xq (sq (a (t + 2)) (a (t + 1))) (sq (a j) (a (t + 1))) := fun j hx => by
      have : xq (sq (a (t + 2)) (a (t + 1))) (sq (a j) (a (t + 1))) = (sq (a (t + 2)) (a (t + 1))).1 * xq (1, 0) (sq (a j) (a (t + 1))) := by unfold xq at *; simp only at *; rw [e2]; grind
      rw [this] at hx
      exact hj j ((Rat.mul_pos_iff_of_pos_left e1).1 hx)
    exact ⟨hs _, hs _⟩
end
end Go.Geo

namespace Go.Geo
set_option maxRecDepth 100000
set_option maxHeartbeats 4000000
set_option linter.unusedSimpArgs false
set_option linter.unusedVariables false
open Go Go.Zv
theorem exists_dir (us : List Q2) (h : ∀ u ∈ us, u ≠ (0, 0)) : ∃ M0 : Rat, ∀ M, M0 < M → ∀ u ∈ us, xq (M, 1) u ≠ 0 := by
  induction us with
  | nil => exact ⟨0, fun _ _ u hu => by cases hu⟩
  | cons u us ih =>
    obtain ⟨M0, hM⟩ := ih fun u hu => h u (by simp [hu])
    by_cases e : u.2 = 0
    · refine ⟨M0, fun M hm v hv => ?_⟩
      rcases List.mem_cons.1 hv with rfl | hv
      · have := h v (by simp)
        intro hx
        refine this (Prod.ext ?_ e)
        unfold xq at hx; simp only at hx ⊢; grind
      · exact hM M hm v hv
    · have hi := r_inv e
      have step : ∀ M, u.1 * u.2⁻¹ < M → xq (M, 1) u ≠ 0 := fun M hm hx => by
        unfold xq at hx; simp only at hx
        generalize u.2⁻¹ = k at *
        have : M = u.1 * k := by grind
        grind
      rcases Rat.le_total (a := M0) (b := u.1 * u.2⁻¹) with hl | hl
      · refine ⟨u.1 * u.2⁻¹, fun M hm v hv => ?_⟩
        rcases List.mem_cons.1 hv with rfl | hv
        · exact step M hm
        · exact hM M (by grind) v hv
      · refine ⟨M0, fun M hm v hv => ?_⟩
        rcases List.mem_cons.1 hv with rfl | hv
        · exact step M (by grind)
        · exact hM M hm v hv
theorem argmin (n : Nat) (P : Nat → Prop) (t : Nat → Rat) (h : ∃ i, i < n ∧ P i) : ∃ i, i < n ∧ P i ∧ ∀ j, j < n → P j → t i ≤ t j := by
  induction n with
  | zero => obtain ⟨i, hi, _⟩ := h; omega
  | succ n ih =>
    by_cases hn : ∃ i, i < n ∧ P i
    · obtain ⟨i, i1, i2, i3⟩ := ih hn
      by_cases hp : P n ∧ t n ≤ t i
      · refine ⟨n, by omega, hp.1, fun j hj hpj => ?_⟩
        by_cases e : j = n
        · subst e; exact Rat.le_refl
        · have := i3 j (by omega) hpj; have := hp.2; grind
      · refine ⟨i, by omega, i2, fun j hj hpj => ?_⟩
        by_cases e : j = n
        · subst e
          have : ¬ t j ≤ t i := fun h => hp ⟨hpj, h⟩
          grind
        · exact i3 j (by omega) hpj
    · obtain ⟨i, i1, i2⟩ := h
      have e : i = n := Classical.byContradiction fun hx => hn ⟨i, by omega, i2⟩
      subst e
      refine ⟨i, by omega, i2, fun j hj hpj => ?_⟩
      by_cases e : j = i
      · subst e; exact Rat.le_refl
      · exact absurd ⟨j, by omega, hpj⟩ hn
theorem lt_of_not {x : Rat} (h : x ≠ 0) (h1 : ¬ 0 < x) : x < 0 := by grind
theorem r_cancel {D : Rat} (x : Rat) (h : D ≠ 0) : x * D * D⁻¹ = x := by rw [Rat.mul_assoc, r_inv h, Rat.mul_one]
theorem hit_ne {d u v : Q2} (hp : xq d u ≠ 0) (hq : xq d v ≠ 0) (h : hit d u v ≠ 0) : (xq d u < 0 ∧ 0 < xq d v ∧ 0 < xq u v ∧ hit d u v = 1) ∨ (0 < xq d u ∧ xq d v < 0 ∧ xq u v < 0 ∧ hit d u v = -1) := by
  unfold hit at *
  by_cases h1 : 0 < xq d u <;> by_cases h2 : 0 < xq d v <;> simp only [h1, h2, if_true, if_false] at h ⊢
  · exact absurd rfl h
  · by_cases h3 : xq u v < 0
    · right; simp only [h3, if_true]; exact ⟨trivial, lt_of_not hq h2, trivial, trivial⟩
    · simp [h3] at h
  · by_cases h3 : 0 < xq u v
    · left; simp only [h3, if_true]; exact ⟨lt_of_not hp h1, trivial, trivial, trivial⟩
    · simp [h3] at h
  · exact absurd rfl h
theorem hit_of1 {d u v : Q2} (h1 : xq d u < 0) (h2 : 0 < xq d v) (h3 : 0 < xq u v) : hit d u v = 1 := by
  have : ¬ 0 < xq d u := by grind
  unfold hit; simp only [this, h2, h3, if_true, if_false]
theorem hit_of2 {d u v : Q2} (h1 : 0 < xq d u) (h2 : xq d v < 0) (h3 : xq u v < 0) : hit d u v = -1 := by
  have : ¬ 0 < xq d v := by grind
  unfold hit; simp only [this, h1, h3, if_true, if_false]
theorem cross_at {x p q z d : Q2} {r s : Rat} (h1 : z = onp p q s) (h2 : sq z x = (r * d.1, r * d.2)) :
    xq d (sq p x) + s * (xq d (sq q x) - xq d (sq p x)) = 0 ∧ xq (sq p x) (sq q x) = r * (xq d (sq q x) - xq d (sq p x)) := by
  subst h1
  unfold onp sq at h2
  simp only [Prod.mk.injEq] at h2
  obtain ⟨e1, e2⟩ := h2
  unfold xq sq
  constructor <;> grind
section
variable {a : Nat → Q2} {n : Nat}
theorem per_mod (h : Simp a n) (j : Nat) : a (j % n) = a j := by
  have : ∀ q r, a (r + n * q) = a r := by
    intro q r
    induction q with
    | zero => simp
    | succ q ih => rw [Nat.mul_succ, ← Nat.add_assoc, h.per, ih]
  have e := this (j / n) (j % n)
  rw [Nat.mod_add_div] at e
  exact e.symm
theorem per_mod1 (h : Simp a n) (j : Nat) : a (j % n + 1) = a (j + 1) := by
  rw [← per_mod h (j % n + 1), ← per_mod h (j + 1), Nat.mod_add_mod]
theorem edg_mod (h : Simp a n) (j : Nat) : edg a (j % n) = edg a j := by
  unfold edg; rw [per_mod h, per_mod1 h]
theorem edg_mem (h : Simp a n) (j : Nat) : edg a j ∈ chn a 0 n := by
  rw [← edg_mod h]
  exact mem_chn.2 ⟨j % n, Nat.mod_lt _ (by have := h.n3; omega), by rw [Nat.zero_add]⟩
theorem split1 (h : Simp a n) (i : Nat) : chn a i n = edg a i :: chn a (i + 1) (n - 1) := by
  obtain ⟨m, rfl⟩ : ∃ m, n = m + 1 := ⟨n - 1, by have := h.n3; omega⟩
  rw [chn_cons]; rfl
theorem N_path (h : Simp a n) (i : Nat) : Path (a (i + 1)) (a i) (chn a (i + 1) (n - 1)) := by
  have := chn_path a (i + 1) (n - 1)
  rw [show i + 1 + (n - 1) = i + n by have := h.n3; omega, h.per] at this
  exact this
theorem all_path (h : Simp a n) : Path (a 0) (a 0) (chn a 0 n) := by
  have := chn_path a 0 n
  rw [h.per] at this
  exact this
/-- inside an edge: the other edges, counted along a ray to the right of the edge or to its left -/
theorem N_right (h : Simp a n) {i : Nat} {y d : Q2} {s : Rat} (s0 : 0 < s) (s1 : s < 1) (hy : y = onp (a i) (a (i + 1)) s) (hd : 0 < xq d (sq (a (i + 1)) (a i))) :
    wn d y (chn a (i + 1) (n - 1)) = Lc a n 0 - 1 := by
  have hon : OnE y (edg a i) := by rw [hy]; exact on_of_param (by grind) (by grind)
  have hne := f_ne h i
  have h0 : y ≠ a i := fun e => by
    rw [e] at hy
    refine hne ?_
    rw [Prod.ext_iff] at hy; simp only [onp] at hy
    refine Prod.ext ?_ ?_ <;> unfold sq <;> simp only
    · have : s * ((a (i + 1)).1 - (a i).1) = 0 := by grind
      have hi := r_inv (x := s) (by grind)
      generalize s⁻¹ = M at *; grind
    · have : s * ((a (i + 1)).2 - (a i).2) = 0 := by grind
      have hi := r_inv (x := s) (by grind)
      generalize s⁻¹ = M at *; grind
  have h1 : y ≠ a (i + 1) := fun e => by
    rw [e] at hy
    refine hne ?_
    rw [Prod.ext_iff] at hy; simp only [onp] at hy
    refine Prod.ext ?_ ?_ <;> unfold sq <;> simp only
    · have : (1 - s) * ((a (i + 1)).1 - (a i).1) = 0 := by grind
      have hi := r_inv (x := 1 - s) (by grind)
      generalize (1 - s)⁻¹ = M at *; grind
    · have : (1 - s) * ((a (i + 1)).2 - (a i).2) = 0 := by grind
      have hi := r_inv (x := 1 - s) (by grind)
      generalize (1 - s)⁻¹ = M at *; grind
  have hoff : ∀ g ∈ chn a (i + 1) (n - 1), ¬ OnE y g := fun g hg => by
    obtain ⟨k, hk, rfl⟩ := mem_chn.1 hg
    exact inner_off h hon h0 h1 k hk
  have hL := Lc_eq h (i := i) (y := y) (s := s) (by grind) s1 hy
  rw [Lc_const h i, split1 h i, wn_cons] at hL
  simp only [edg] at hL
  rw [hit_self hy] at hL
  have hw := wn_wedge (N_path h i) hd hoff
  have k1 : xq d (sq (a i) y) = -s * xq d (sq (a (i + 1)) (a i)) := by rw [hy]; unfold xq sq onp; grind
  have k2 : xq d (sq (a (i + 1)) y) = (1 - s) * xq d (sq (a (i + 1)) (a i)) := by rw [hy]; unfold xq sq onp; grind
  have k3 : xq (sq (a (i + 1)) (a i)) (sq (a (i + 1)) y) = 0 := by rw [hy]; unfold xq sq onp; grind
  have z0 : ¬ (0 : Rat) < 0 := by grind
  have p1 := Rat.mul_pos s0 hd
  have p2 := Rat.mul_pos (show 0 < 1 - s by grind) hd
  have q1 : ¬ 0 < -s * xq d (sq (a (i + 1)) (a i)) := by grind
  unfold Wd at hw
  rw [k1, k2, k3] at hw
  simp only [q1, p2, z0, if_true, if_false] at hw
  omega
theorem N_left (h : Simp a n) {i : Nat} {y d : Q2} {s : Rat} (s0 : 0 < s) (s1 : s < 1) (hy : y = onp (a i) (a (i + 1)) s) (hd : 0 < xq (sq (a (i + 1)) (a i)) d) :
    wn d y (chn a (i + 1) (n - 1)) = Lc a n 0 := by
  have hm : 0 < xq (-d.1, -d.2) (sq (a (i + 1)) (a i)) := by
    have : xq (-d.1, -d.2) (sq (a (i + 1)) (a i)) = xq (sq (a (i + 1)) (a i)) d := by unfold xq; grind
    rw [this]; exact hd
  have hL := Lc_eq h (i := i) (y := y) (s := s) (by grind) s1 hy
  rw [Lc_const h i, split1 h i, wn_cons] at hL
  simp only [edg] at hL
  rw [hit_self hy] at hL
  have hon : OnE y (edg a i) := by rw [hy]; exact on_of_param (by grind) (by grind)
  have k1 : xq (sq (a (i + 1)) (a i)) (sq (a i) y) = 0 := by rw [hy]; unfold xq sq onp; grind
  have k2 : xq (sq (a (i + 1)) (a i)) (sq (a (i + 1)) y) = 0 := by rw [hy]; unfold xq sq onp; grind
  have z0 : ¬ (0 : Rat) < 0 := by grind
  have hne := f_ne h i
  have hoff : ∀ g ∈ chn a (i + 1) (n - 1), ¬ OnE y g := fun g hg => by
    obtain ⟨k, hk, rfl⟩ := mem_chn.1 hg
    have e1 : xq d (sq (a i) y) = -s * xq d (sq (a (i + 1)) (a i)) := by rw [hy]; unfold xq sq onp; grind
    have e2 : xq d (sq (a (i + 1)) y) = (1 - s) * xq d (sq (a (i + 1)) (a i)) := by rw [hy]; unfold xq sq onp; grind
    have hd' : 0 < -xq d (sq (a (i + 1)) (a i)) := by rw [xq_swap] at hd; grind
    have p1 := Rat.mul_pos s0 hd'
    have p2 := Rat.mul_pos (show 0 < 1 - s by grind) hd'
    refine inner_off h hon (fun e => ?_) (fun e => ?_) k hk
    · rw [e, sq_self] at e1
      have : xq d (0, 0) = 0 := by unfold xq; grind
      rw [← e] at e1; grind
    · rw [e, sq_self] at e2
      have : xq d (0, 0) = 0 := by unfold xq; grind
      rw [← e] at e2; grind
  have hw := wn_wedge (N_path h i) hd hoff
  unfold Wd at hw
  rw [k1, k2] at hw
  simp only [z0, if_false] at hw
  omega
/-- off the edges: outside, or as on one of an edge's two sides -/
theorem wind (h : Simp a n) {x d : Q2} (hx : ∀ e ∈ chn a 0 n, ¬ OnE x e) (hd : d ≠ (0, 0)) : wn d x (chn a 0 n) = 0 ∨ wn d x (chn a 0 n) = Lc a n 0 ∨ wn d x (chn a 0 n) = Lc a n 0 - 1 := by
  have n3 := h.n3
  obtain ⟨M0, hM⟩ := exists_dir ((List.range n).map fun k => sq (a k) x) (fun u hu => by
    obtain ⟨k, hk, rfl⟩ := List.mem_map.1 hu
    intro e
    have : a k = x := by
      simp only [sq, Prod.mk.injEq] at e
      refine Prod.ext ?_ ?_ <;> grind
    refine hx _ (edg_mem h k) ?_
    rw [← this]; exact on_left _ _)
  have hg := hM (M0 + 1) (by grind)
  generalize hG : ((M0 + 1, 1) : Q2) = g at hg
  have gne : g ≠ (0, 0) := by
    rw [← hG]; intro e; simp only [Prod.mk.injEq] at e; exact absurd e.2 (by decide)
  have hp : ∀ j, xq g (sq (a j) x) ≠ 0 := fun j => by
    rw [← per_mod h j]
    exact hg _ (List.mem_map.2 ⟨j % n, List.mem_range.2 (Nat.mod_lt _ (by omega)), rfl⟩)
  rw [wn_dir (all_path h) hd gne hx]
  by_cases hz : ∃ i, i < n ∧ hit g (sq (a i) x) (sq (a (i + 1)) x) ≠ 0
  · obtain ⟨i, hi, hh, hmin⟩ := argmin n _ (fun j => xq (sq (a j) x) (sq (a (j + 1)) x) * (xq g (sq (a (j + 1)) x) - xq g (sq (a j) x))⁻¹) hz
    have hD : xq g (sq (a (i + 1)) x) - xq g (sq (a i) x) ≠ 0 := by
      rcases hit_ne (hp i) (hp (i + 1)) hh with ⟨h1, h2, _⟩ | ⟨h1, h2, _⟩ <;> grind
    have hinv := r_inv hD
    have hts : 0 < xq (sq (a i) x) (sq (a (i + 1)) x) * (xq g (sq (a (i + 1)) x) - xq g (sq (a i) x))⁻¹ ∧ 0 < -xq g (sq (a i) x) * (xq g (sq (a (i + 1)) x) - xq g (sq (a i) x))⁻¹ ∧ 0 < xq g (sq (a (i + 1)) x) * (xq g (sq (a (i + 1)) x) - xq g (sq (a i) x))⁻¹ := by
      rcases hit_ne (hp i) (hp (i + 1)) hh with ⟨h1, h2, h3, _⟩ | ⟨h1, h2, h3, _⟩
      · have hI : 0 < (xq g (sq (a (i + 1)) x) - xq g (sq (a i) x))⁻¹ := Rat.inv_pos.2 (by grind)
        exact ⟨Rat.mul_pos h3 hI, Rat.mul_pos (by grind) hI, Rat.mul_pos h2 hI⟩
      · have hI : 0 < (xq g (sq (a i) x) - xq g (sq (a (i + 1)) x))⁻¹ := Rat.inv_pos.2 (by grind)
        have e : (xq g (sq (a i) x) - xq g (sq (a (i + 1)) x))⁻¹ = -(xq g (sq (a (i + 1)) x) - xq g (sq (a i) x))⁻¹ := by
          have i2 := r_inv (x := xq g (sq (a i) x) - xq g (sq (a (i + 1)) x)) (by grind)
          generalize (xq g (sq (a i) x) - xq g (sq (a (i + 1)) x))⁻¹ = A at *
          generalize (xq g (sq (a (i + 1)) x) - xq g (sq (a i) x))⁻¹ = C at *
          grind
        rw [e] at hI
        have m1 := Rat.mul_pos (show 0 < -xq (sq (a i) x) (sq (a (i + 1)) x) by grind) hI
        have m2 := Rat.mul_pos h1 hI
        have m3 := Rat.mul_pos (show 0 < -xq g (sq (a (i + 1)) x) by grind) hI
        exact ⟨by grind, by grind, by grind⟩
    obtain ⟨t0, s0, s1'⟩ := hts
    generalize hti : xq (sq (a i) x) (sq (a (i + 1)) x) * (xq g (sq (a (i + 1)) x) - xq g (sq (a i) x))⁻¹ = t at *
    generalize hsi : -xq g (sq (a i) x) * (xq g (sq (a (i + 1)) x) - xq g (sq (a i) x))⁻¹ = s at *
    have s1 : s < 1 := by
      generalize (xq g (sq (a (i + 1)) x) - xq g (sq (a i) x))⁻¹ = M at *
      grind
    generalize hy : onp (a i) (a (i + 1)) s = y
    have hyx : sq y x = (t * g.1, t * g.2) := by
      have i1 : xq g (sq (a (i + 1)) x) * ((a i).1 - x.1) - xq g (sq (a i) x) * ((a (i + 1)).1 - x.1) = xq (sq (a i) x) (sq (a (i + 1)) x) * g.1 := by unfold xq sq; grind
      have i2 : xq g (sq (a (i + 1)) x) * ((a i).2 - x.2) - xq g (sq (a i) x) * ((a (i + 1)).2 - x.2) = xq (sq (a i) x) (sq (a (i + 1)) x) * g.2 := by unfold xq sq; grind
      rw [← hy, ← hti, ← hsi]
      generalize (xq g (sq (a (i + 1)) x) - xq g (sq (a i) x))⁻¹ = M at *
      generalize xq g (sq (a (i + 1)) x) = q at *
      generalize xq g (sq (a i) x) = p at *
      generalize xq (sq (a i) x) (sq (a (i + 1)) x) = c at *
      refine Prod.ext ?_ ?_ <;> simp only [onp, sq] <;> grind
    have hgy : xq g (sq y x) = 0 := by rw [hyx]; unfold xq; grind
    have hon : OnE y (edg a i) := by rw [← hy]; exact on_of_param (by grind) (by grind)
    have y0 : y ≠ a i := fun e => hp i (by rw [← e]; exact hgy)
    have y1 : y ≠ a (i + 1) := fun e => hp (i + 1) (by rw [← e]; exact hgy)
    have hrest : wn g x (chn a (i + 1) (n - 1)) = wn g y (chn a (i + 1) (n - 1)) := by
      refine wn_congr fun k hk => ?_
      have hm : ¬ Meets (a (i + 1 + k)) (a (i + 1 + k + 1)) x y := by
        rintro ⟨z, z1, z2⟩
        obtain ⟨s', u0, u1, ez⟩ := on_param z1
        obtain ⟨r, r0, r1, er⟩ := on_param z2
        have ezx : sq z x = (r * t * g.1, r * t * g.2) := by
          rw [er]
          simp only [sq, Prod.mk.injEq] at hyx
          refine Prod.ext ?_ ?_ <;> simp only [onp, sq] <;> grind
        obtain ⟨c1, c2⟩ := cross_at ez ezx
        have rne : r ≠ 0 := fun e => by
          refine hx _ (edg_mem h (i + 1 + k)) ?_
          have : z = x := by rw [er, e, onp0]
          rw [← this]; exact z1
        have rt : 0 < r * t := Rat.mul_pos (by grind) t0
        have pj := hp (i + 1 + k)
        have pj1 := hp (i + 1 + k + 1)
        have hDj : xq g (sq (a (i + 1 + k + 1)) x) - xq g (sq (a (i + 1 + k)) x) ≠ 0 := fun e => by rw [e] at c1; grind
        have hj : hit g (sq (a (i + 1 + k)) x) (sq (a (i + 1 + k + 1)) x) ≠ 0 := by
          generalize hPe : xq g (sq (a (i + 1 + k)) x) = P at *
          generalize hQe : xq g (sq (a (i + 1 + k + 1)) x) = R at *
          by_cases hP : P < 0
          · have hD2 : 0 < R - P := by
              refine Classical.byContradiction fun hn => ?_
              have := Rat.mul_nonneg u0 (show 0 ≤ P - R by grind)
              grind
            have hR : 0 < R := by
              have := Rat.mul_nonneg (show 0 ≤ 1 - s' by grind) (show 0 ≤ R - P by grind)
              grind
            rw [hit_of1 (by rw [hPe]; exact hP) (by rw [hQe]; exact hR) (by rw [c2]; exact Rat.mul_pos rt hD2)]; decide
          · have hP2 : 0 < P := by grind
            have hD2 : 0 < P - R := by
              refine Classical.byContradiction fun hn => ?_
              have := Rat.mul_nonneg u0 (show 0 ≤ R - P by grind)
              grind
            have hR : R < 0 := by
              have := Rat.mul_nonneg (show 0 ≤ 1 - s' by grind) (show 0 ≤ P - R by grind)
              grind
            have := Rat.mul_pos rt hD2
            rw [hit_of2 (by rw [hPe]; exact hP2) (by rw [hQe]; exact hR) (by rw [c2]; grind)]; decide
        have hmj := hmin ((i + 1 + k) % n) (Nat.mod_lt _ (by omega)) (by rw [per_mod h, per_mod1 h]; exact hj)
        rw [per_mod h, per_mod1 h, c2, r_cancel _ hDj] at hmj
        have hr : r = 1 := by
          refine Classical.byContradiction fun hr => ?_
          have := Rat.mul_pos (show 0 < 1 - r by grind) t0
          grind
        have : z = y := by rw [er, hr, onp1]
        rw [this] at z1
        exact inner_off h hon y0 y1 k hk z1
      have := hit_seg hm
      rw [hyx, hit_scale t0, hit_scale t0] at this
      exact this
    rw [← wn_base h g x i, split1 h i, wn_cons, hrest]
    simp only [edg]
    have e1 : xq g (sq (a (i + 1)) (a i)) = xq g (sq (a (i + 1)) x) - xq g (sq (a i) x) := by unfold xq sq; grind
    rcases hit_ne (hp i) (hp (i + 1)) hh with ⟨h1, h2, h3, h4⟩ | ⟨h1, h2, h3, h4⟩
    · right; left
      rw [h4, N_right h s0 s1 hy.symm (by grind)]; omega
    · right; right
      rw [h4, N_left h s0 s1 hy.symm (by rw [xq_swap]; grind)]; omega
  · left
    have hall : ∀ j, j < n → hit g (sq (a (0 + j)) x) (sq (a (0 + j + 1)) x) = 0 := fun j hj => by
      rw [Nat.zero_add]
      exact Classical.byContradiction fun hne => hz ⟨j, hj, hne⟩
    have e : (chn a 0 n).map (fun e => hit g (sq e.1 x) (sq e.2 x)) = (List.range n).map fun _ => (0 : Int) := by
      unfold chn
      rw [List.map_map]
      exact List.map_congr_left fun k hk => hall k (List.mem_range.1 hk)
    unfold wn
    rw [e]
    clear e hall hz hp hg hM hG
    generalize List.range n = l
    induction l with
    | nil => rfl
    | cons b l ih => simp only [List.map_cons, List.sum_cons, ih, Int.zero_add]
end
end Go.Geo

namespace Go.Geo
set_option maxRecDepth 100000
set_option maxHeartbeats 4000000
set_option linter.unusedSimpArgs false
set_option linter.unusedVariables false
open Go Go.Zv
def cnt (L : List (Rat × Int)) (t : Rat) : Int := (L.map fun p => if t < p.1 then p.2 else 0).sum
def mom (L : List (Rat × Int)) (m : Rat) : Rat := (L.map fun p => if m < p.1 then (p.2 : Rat) * (p.1 - m) else 0).sum
theorem mom_step (L : List (Rat × Int)) (m m' : Rat) (hm : m < m') (h : ∀ p ∈ L, m < p.1 → m' ≤ p.1) : mom L m = mom L m' + (cnt L m : Rat) * (m' - m) := by
  unfold mom cnt
  induction L with
  | nil => simp only [List.map_nil, List.sum_nil]; have : ((0 : Int) : Rat) = 0 := rfl; grind
  | cons p L ih =>
    have ih := ih fun q hq => h q (by simp [hq])
    have hp := h p (by simp)
    simp only [List.map_cons, List.sum_cons, ih, Rat.intCast_add]
    by_cases h1 : m < p.1
    · have h2 := hp h1
      by_cases h3 : m' < p.1
      · simp only [h1, h3, if_true]; grind
      · have : p.1 = m' := by grind
        simp only [h1, h3, if_true, if_false]; grind
    · have h3 : ¬ m' < p.1 := by grind
      simp only [h1, h3, if_false]
      have : ((0 : Int) : Rat) = 0 := rfl
      grind
theorem mom_zero (L : List (Rat × Int)) (m : Rat) (h : ∀ p ∈ L, ¬ m < p.1) : mom L m = 0 := by
  unfold mom
  induction L with
  | nil => rfl
  | cons p L ih =>
    simp only [List.map_cons, List.sum_cons, ih fun q hq => h q (by simp [hq]), h p (by simp), if_false]
    grind
theorem next_x (L : List (Rat × Int)) (m : Rat) (h : ∃ p ∈ L, m < p.1) : ∃ m', m < m' ∧ (∃ p ∈ L, p.1 = m') ∧ ∀ p ∈ L, m < p.1 → m' ≤ p.1 := by
  induction L with
  | nil => obtain ⟨p, hp, _⟩ := h; cases hp
  | cons q L ih =>
    by_cases hL : ∃ p ∈ L, m < p.1
    · obtain ⟨m', h1, ⟨p, hp, e⟩, h3⟩ := ih hL
      by_cases hq : m < q.1 ∧ q.1 < m'
      · refine ⟨q.1, hq.1, ⟨q, by simp, rfl⟩, fun r hr hmr => ?_⟩
        rcases List.mem_cons.1 hr with rfl | hr
        · exact Rat.le_refl
        · have := h3 r hr hmr; have := hq.2; grind
      · refine ⟨m', h1, ⟨p, by simp [hp], e⟩, fun r hr hmr => ?_⟩
        rcases List.mem_cons.1 hr with rfl | hr
        · refine Classical.byContradiction fun hn => hq ⟨hmr, by grind⟩
        · exact h3 r hr hmr
    · obtain ⟨p, hp, hmp⟩ := h
      rcases List.mem_cons.1 hp with rfl | hp
      · refine ⟨p.1, hmp, ⟨p, by simp, rfl⟩, fun r hr hmr => ?_⟩
        rcases List.mem_cons.1 hr with rfl | hr
        · exact Rat.le_refl
        · exact absurd ⟨r, hr, hmr⟩ hL
      · exact absurd ⟨p, hp, hmp⟩ hL
def above (L : List (Rat × Int)) (m : Rat) : Nat := (L.filter fun p => decide (m < p.1)).length
theorem above_lt (L : List (Rat × Int)) (m m' : Rat) (hm : m < m') (h : ∃ p ∈ L, p.1 = m') : above L m' < above L m := by
  have le : ∀ L : List (Rat × Int), above L m' ≤ above L m := by
    intro L
    unfold above
    induction L with
    | nil => simp
    | cons q L ih =>
      simp only [List.filter_cons]
      by_cases h1 : m' < q.1
      · have h2 : m < q.1 := by grind
        simp only [h1, h2, decide_true, if_true, List.length_cons]; omega
      · by_cases h2 : m < q.1
        · simp only [h1, h2, decide_true, decide_false, if_true, List.length_cons, Bool.false_eq_true, if_false]; omega
        · simp only [h1, h2, decide_false, Bool.false_eq_true, if_false]; omega
  induction L with
  | nil => obtain ⟨p, hp, _⟩ := h; cases hp
  | cons q L ih =>
    have := le L
    obtain ⟨p, hp, e⟩ := h
    unfold above at *
    simp only [List.filter_cons]
    rcases List.mem_cons.1 hp with rfl | hp
    · have h1 : ¬ m' < p.1 := by grind
      have h2 : m < p.1 := by grind
      simp only [h1, h2, decide_true, decide_false, if_true, List.length_cons, Bool.false_eq_true, if_false]; omega
    · have ih := ih ⟨p, hp, e⟩
      by_cases h1 : m' < q.1
      · have h2 : m < q.1 := by grind
        simp only [h1, h2, decide_true, if_true, List.length_cons]; omega
      · by_cases h2 : m < q.1
        · simp only [h1, h2, decide_true, decide_false, if_true, List.length_cons, Bool.false_eq_true, if_false]; omega
        · simp only [h1, h2, decide_false, Bool.false_eq_true, if_false]; omega
theorem abel (L : List (Rat × Int)) : ∀ (c : Nat) (m : Rat), above L m ≤ c → (∀ t, m < t → (∀ p ∈ L, p.1 ≠ t) → cnt L t ≤ 0) → mom L m ≤ 0
  | c, m, hc, h => by
    by_cases he : ∃ p ∈ L, m < p.1
    · obtain ⟨m', h1, h2, h3⟩ := next_x L m he
      have hlt := above_lt L m m' h1 h2
      cases c with
      | zero => omega
      | succ c =>
        have ih := abel L c m' (by omega) fun t ht hp => h t (by grind) hp
        rw [mom_step L m m' h1 h3]
        have ht : cnt L ((m + m') / 2) ≤ 0 := h _ (by grind) (fun p hp e => by
          by_cases hm : m < p.1
          · have := h3 p hp hm; grind
          · grind)
        have e : cnt L ((m + m') / 2) = cnt L m := by
          unfold cnt
          congr 1
          refine List.map_congr_left fun p hp => ?_
          by_cases hm : m < p.1
          · have := h3 p hp hm
            have h5 : (m + m') / 2 < p.1 := by grind
            rw [if_pos hm, if_pos h5]
          · have h5 : ¬ (m + m') / 2 < p.1 := by grind
            rw [if_neg hm, if_neg h5]
        rw [e] at ht
        have hr : (cnt L m : Rat) ≤ 0 := Rat.intCast_nonpos.2 ht
        have := Rat.mul_nonneg (show 0 ≤ -(cnt L m : Rat) by grind) (show 0 ≤ m' - m by grind)
        grind
    · rw [mom_zero L m fun p hp hm => he ⟨p, hp, hm⟩]; exact Rat.le_refl
theorem low_x (L : List (Rat × Int)) : ∃ m, ∀ p ∈ L, m < p.1 := by
  induction L with
  | nil => exact ⟨0, fun p hp => by cases hp⟩
  | cons q L ih =>
    obtain ⟨m, h⟩ := ih
    by_cases hq : m < q.1
    · refine ⟨m, fun p hp => ?_⟩
      rcases List.mem_cons.1 hp with rfl | hp
      · exact hq
      · exact h p hp
    · refine ⟨q.1 - 1, fun p hp => ?_⟩
      rcases List.mem_cons.1 hp with rfl | hp
      · grind
      · have := h p hp; grind
theorem abel_all (L : List (Rat × Int)) (h0 : (L.map Prod.snd).sum = 0) (h : ∀ t, (∀ p ∈ L, p.1 ≠ t) → cnt L t ≤ 0) : (L.map fun p => (p.2 : Rat) * p.1).sum ≤ 0 := by
  obtain ⟨m, hm⟩ := low_x L
  have h1 := abel L (above L m) m (Nat.le_refl _) fun t _ => h t
  have e : ∀ L : List (Rat × Int), (∀ p ∈ L, m < p.1) → mom L m = (L.map fun p => (p.2 : Rat) * p.1).sum - ((L.map Prod.snd).sum : Int) * m := by
    intro L hL
    unfold mom
    induction L with
    | nil => simp only [List.map_nil, List.sum_nil]; have : ((0 : Int) : Rat) = 0 := rfl; grind
    | cons q L ih =>
      simp only [List.map_cons, List.sum_cons, ih fun p hp => hL p (by simp [hp]), hL q (by simp), if_true, Rat.intCast_add]
      grind
  rw [e L hm, h0] at h1
  have : ((0 : Int) : Rat) = 0 := rfl
  grind
/-! rows -/
def qp (p : Pt) : Q2 := ((p.1 : Rat), (p.2 : Rat))
def qe (e : Pt × Pt) : Q2 × Q2 := (qp e.1, qp e.2)
def spn (e : Pt × Pt) (k : Int) : Int := (if k < e.2.2 then 1 else 0) - (if k < e.1.2 then 1 else 0)
def gX (e : Pt × Pt) (y : Rat) : Rat := e.1.1 * (y - e.1.2) + (e.2.1 - e.1.1) * ((e.2.2 : Rat) - e.1.2)⁻¹ * ((y - e.1.2) * (y - e.1.2)) / 2
def xr (e : Pt × Pt) (k : Int) : Rat := gX e (k + 1) - gX e k
def rowL (es : List (Pt × Pt)) (k : Int) : List (Rat × Int) := es.map fun e => (xr e k, spn e k)
theorem half_lt {k n : Int} : 0 < (n : Rat) - ((k : Rat) + 1 / 2) ↔ k < n := by
  constructor
  · intro h
    refine Classical.byContradiction fun hn => ?_
    have : (n : Rat) ≤ (k : Rat) := Rat.intCast_le_intCast.2 (by omega)
    grind
  · intro h
    have : ((k + 1 : Int) : Rat) ≤ (n : Rat) := Rat.intCast_le_intCast.2 (by omega)
    rw [Rat.intCast_add] at this
    have e : ((1 : Int) : Rat) = 1 := rfl
    grind
theorem half_ne {k n : Int} : (n : Rat) - ((k : Rat) + 1 / 2) ≠ 0 := by
  intro h
  have h1 : ¬ k < n := fun hk => by have := half_lt.2 hk; grind
  have : (n : Rat) ≤ (k : Rat) := Rat.intCast_le_intCast.2 (by omega)
  grind
theorem row_hit (e : Pt × Pt) (k : Int) (t : Rat) : hit (1, 0) (sq (qp e.1) (t, (k : Rat) + 1 / 2)) (sq (qp e.2) (t, (k : Rat) + 1 / 2)) = if t < xr e k then spn e k else 0 := by
  have x1 : xq (1, 0) (sq (qp e.1) (t, (k : Rat) + 1 / 2)) = (e.1.2 : Rat) - ((k : Rat) + 1 / 2) := by unfold xq sq qp; grind
  have x2 : xq (1, 0) (sq (qp e.2) (t, (k : Rat) + 1 / 2)) = (e.2.2 : Rat) - ((k : Rat) + 1 / 2) := by unfold xq sq qp; grind
  have x3 : xq (sq (qp e.1) (t, (k : Rat) + 1 / 2)) (sq (qp e.2) (t, (k : Rat) + 1 / 2)) = (e.1.1 - t) * (e.2.2 - (k + 1 / 2)) - (e.1.2 - (k + 1 / 2)) * (e.2.1 - t) := by unfold xq sq qp; grind
  unfold hit spn
  rw [x1, x2, x3]
  simp only [half_lt]
  by_cases h1 : k < e.1.2 <;> by_cases h2 : k < e.2.2 <;> simp only [h1, h2, if_true, if_false]
  · simp
  · have g1 := half_lt.2 h1
    have g2 : ¬ 0 < (e.2.2 : Rat) - ((k : Rat) + 1 / 2) := fun h => h2 (half_lt.1 h)
    have hD : 0 < (e.1.2 : Rat) - e.2.2 := by grind
    have hne : (e.2.2 : Rat) - e.1.2 ≠ 0 := by grind
    have hinv := r_inv hne
    have hx : (xr e k - t) * ((e.2.2 : Rat) - e.1.2) = (e.1.1 - t) * (e.2.2 - (k + 1 / 2)) - (e.1.2 - (k + 1 / 2)) * (e.2.1 - t) := by
      unfold xr gX
      generalize ((e.2.2 : Rat) - e.1.2)⁻¹ = M at *
      grind
    rw [← hx]
    by_cases ht : t < xr e k
    · have := Rat.mul_pos (show 0 < xr e k - t by grind) hD
      have h3 : (xr e k - t) * ((e.2.2 : Rat) - e.1.2) < 0 := by grind
      simp only [ht, h3, if_true]; rfl
    · have := Rat.mul_nonneg (show 0 ≤ t - xr e k by grind) (show 0 ≤ (e.1.2 : Rat) - e.2.2 by grind)
      have h3 : ¬ (xr e k - t) * ((e.2.2 : Rat) - e.1.2) < 0 := by grind
      simp only [ht, h3, if_false]
  · have g1 := half_lt.2 h2
    have g2 : ¬ 0 < (e.1.2 : Rat) - ((k : Rat) + 1 / 2) := fun h => h1 (half_lt.1 h)
    have hD : 0 < (e.2.2 : Rat) - e.1.2 := by grind
    have hinv := r_inv (x := (e.2.2 : Rat) - e.1.2) (by grind)
    have hx : (xr e k - t) * ((e.2.2 : Rat) - e.1.2) = (e.1.1 - t) * (e.2.2 - (k + 1 / 2)) - (e.1.2 - (k + 1 / 2)) * (e.2.1 - t) := by
      unfold xr gX
      generalize ((e.2.2 : Rat) - e.1.2)⁻¹ = M at *
      grind
    rw [← hx]
    by_cases ht : t < xr e k
    · have h3 := Rat.mul_pos (show 0 < xr e k - t by grind) hD
      simp only [ht, h3, if_true]; rfl
    · have := Rat.mul_nonneg (show 0 ≤ t - xr e k by grind) (show 0 ≤ (e.2.2 : Rat) - e.1.2 by grind)
      have h3 : ¬ 0 < (xr e k - t) * ((e.2.2 : Rat) - e.1.2) := by grind
      simp only [ht, h3, if_false]
  · simp
theorem row_wn (es : List (Pt × Pt)) (k : Int) (t : Rat) : wn (1, 0) (t, (k : Rat) + 1 / 2) (es.map qe) = cnt (rowL es k) t := by
  unfold wn cnt rowL
  rw [List.map_map, List.map_map]
  congr 1
  exact List.map_congr_left fun e _ => row_hit e k t
theorem row_off {e : Pt × Pt} {k : Int} {t : Rat} (h : xr e k ≠ t) : ¬ OnE (t, (k : Rat) + 1 / 2) (qe e) := by
  intro ho
  obtain ⟨s, s0, s1, es⟩ := on_param ho
  simp only [onp, qp, Prod.mk.injEq] at es
  obtain ⟨e1, e2⟩ := es
  have n1 := half_ne (k := k) (n := e.1.2)
  have hne : (e.2.2 : Rat) - e.1.2 ≠ 0 := by
    intro hz
    rw [hz] at e2
    exact n1 (by grind)
  have hinv := r_inv hne
  apply h
  unfold xr gX
  generalize ((e.2.2 : Rat) - e.1.2)⁻¹ = M at *
  rw [e1]
  have hs : s = ((k : Rat) + 1 / 2 - e.1.2) * M := by grind
  rw [hs]; grind
theorem row_le {p : Q2} {es : List (Pt × Pt)} (hp : Path p p (es.map qe)) (h : ∀ x : Q2, (∀ e ∈ es, ¬ OnE x (qe e)) → wn (1, 0) x (es.map qe) ≤ 0) (k : Int) : (es.map fun e => (spn e k : Rat) * xr e k).sum ≤ 0 := by
  have e1 : (es.map fun e => (spn e k : Rat) * xr e k) = (rowL es k).map fun p => (p.2 : Rat) * p.1 := by unfold rowL; rw [List.map_map]; rfl
  rw [e1]
  refine abel_all _ ?_ fun t ht => ?_
  · have := hp fun u => if (k : Rat) < u.2 then 1 else 0
    rw [Int.sub_self, List.map_map] at this
    rw [← this]
    unfold rowL
    rw [List.map_map]
    congr 1
    refine List.map_congr_left fun e _ => ?_
    simp only [Function.comp_apply, spn, qe, qp, Rat.intCast_lt_intCast]
  · rw [← row_wn]
    refine h _ fun e he => row_off fun hx => ?_
    exact ht (xr e k, spn e k) (by unfold rowL; exact List.mem_map.2 ⟨e, he, rfl⟩) hx
/-! all rows -/
theorem sum_swap {α β : Type} (l : List α) (m : List β) (f : α → β → Rat) : (l.map fun x => (m.map fun y => f x y).sum).sum = (m.map fun y => (l.map fun x => f x y).sum).sum := by
  induction l with
  | nil =>
    simp only [List.map_nil, List.sum_nil]
    induction m with
    | nil => rfl
    | cons b m ih => simp only [List.map_cons, List.sum_cons, ← ih]; grind
  | cons a l ih =>
    simp only [List.map_cons, List.sum_cons, ih]
    clear ih
    induction m with
    | nil => simp only [List.map_nil, List.sum_nil]; grind
    | cons b m ih => simp only [List.map_cons, List.sum_cons, ← ih]; grind
theorem tel (G : Nat → Rat) (N : Nat) : ∀ J : Nat, ((List.range J).map fun j => if j < N then G (j + 1) - G j else 0).sum = G (min J N) - G 0
  | 0 => by simp; grind
  | J + 1 => by
    rw [List.range_succ, List.map_append, List.sum_append, tel G N J]
    simp only [List.map_cons, List.map_nil, List.sum_cons, List.sum_nil]
    by_cases h : J < N
    · rw [if_pos h, Nat.min_eq_left (by omega), Nat.min_eq_left (by omega)]; grind
    · rw [if_neg h, Nat.min_eq_right (by omega), Nat.min_eq_right (by omega)]; grind
theorem sum_sub_r {α : Type} (l : List α) (f g : α → Rat) : (l.map fun e => f e - g e).sum = (l.map f).sum - (l.map g).sum := by
  induction l with
  | nil => simp only [List.map_nil, List.sum_nil]; grind
  | cons a l ih => simp only [List.map_cons, List.sum_cons, ih]; grind
theorem rows_edge (e : Pt × Pt) (M : Nat) (h1 : -(M : Int) ≤ e.1.2) (h2 : e.1.2 ≤ M) (h3 : -(M : Int) ≤ e.2.2) (h4 : e.2.2 ≤ M) :
    ((List.range (2 * M)).map fun j : Nat => (spn e (-(M : Int) + (j : Int)) : Rat) * xr e (-(M : Int) + (j : Int))).sum = gX e e.2.2 - gX e e.1.2 := by
  have key : ∀ B : Int, -(M : Int) ≤ B → B ≤ M → ((List.range (2 * M)).map fun j => if j < (B + M).toNat then gX e ((-(M : Int) + (j + 1 : Nat) : Int) : Rat) - gX e ((-(M : Int) + (j : Nat) : Int) : Rat) else 0).sum = gX e B - gX e ((-(M : Int) + (0 : Nat) : Int) : Rat) := fun B b1 b2 => by
    rw [tel (fun j => gX e ((-(M : Int) + (j : Nat) : Int) : Rat)) (B + M).toNat (2 * M)]
    rw [Nat.min_eq_right (by omega), show -(M : Int) + ((B + M).toNat : Nat) = B by omega]
  have k1 := key e.2.2 h3 h4
  have k2 := key e.1.2 h1 h2
  have : gX e e.2.2 - gX e e.1.2 = (gX e e.2.2 - gX e ((-(M : Int) + (0 : Nat) : Int) : Rat)) - (gX e e.1.2 - gX e ((-(M : Int) + (0 : Nat) : Int) : Rat)) := by grind
  rw [this, ← k1, ← k2, ← sum_sub_r]
  congr 1
  refine List.map_congr_left fun j hj => ?_
  have hj := List.mem_range.1 hj
  have ex : xr e (-(M : Int) + j) = gX e ((-(M : Int) + (j + 1 : Nat) : Int) : Rat) - gX e ((-(M : Int) + (j : Nat) : Int) : Rat) := by
    have e5 : ((-(M : Int) + ((j + 1 : Nat) : Int) : Int) : Rat) = ((-(M : Int) + (j : Int) : Int) : Rat) + 1 := by
      rw [show (-(M : Int) + ((j + 1 : Nat) : Int)) = (-(M : Int) + (j : Int)) + 1 by omega]; exact Rat.intCast_add _ 1
    unfold xr
    rw [e5]
  rw [← ex]
  unfold spn
  have c1 : (-(M : Int) + (j : Int) < e.2.2) ↔ j < (e.2.2 + M).toNat := by omega
  have c2 : (-(M : Int) + (j : Int) < e.1.2) ↔ j < (e.1.2 + M).toNat := by omega
  simp only [c1, c2]
  have e1 : ((1 : Int) : Rat) = 1 := rfl
  have e0 : ((0 : Int) : Rat) = 0 := rfl
  by_cases a : j < (e.2.2 + M).toNat <;> by_cases b : j < (e.1.2 + M).toNat <;> simp only [a, b, if_true, if_false, Rat.intCast_sub, e1, e0] <;> grind
theorem gX_diff (e : Pt × Pt) : gX e e.2.2 - gX e e.1.2 = ((e.1.1 + e.2.1) * (e.2.2 - e.1.2) : Rat) / 2 := by
  unfold gX
  by_cases h : (e.2.2 : Rat) - e.1.2 = 0
  · rw [h]; grind
  · have := r_inv h
    generalize ((e.2.2 : Rat) - e.1.2)⁻¹ = M at *
    grind
theorem sum_cast (l : List Int) : ((l.sum : Int) : Rat) = (l.map fun x : Int => (x : Rat)).sum := by
  induction l with
  | nil => rfl
  | cons a l ih => simp only [List.sum_cons, List.map_cons, Rat.intCast_add, ih]
theorem sum_le0 {α : Type} (l : List α) (f : α → Rat) (h : ∀ x ∈ l, f x ≤ 0) : (l.map f).sum ≤ 0 := by
  induction l with
  | nil => exact Rat.le_refl
  | cons a l ih =>
    simp only [List.map_cons, List.sum_cons]
    have := ih fun x hx => h x (by simp [hx])
    have := h a (by simp)
    grind
theorem sum_le0' {α : Type} (l : List α) (f : α → Int) (h : ∀ x ∈ l, f x ≤ 0) : (l.map f).sum ≤ 0 := by
  induction l with
  | nil => simp
  | cons a l ih =>
    simp only [List.map_cons, List.sum_cons]
    have := ih fun x hx => h x (by simp [hx])
    have := h a (by simp)
    omega
theorem bound_y (es : List (Pt × Pt)) : ∃ M : Nat, ∀ e ∈ es, -(M : Int) ≤ e.1.2 ∧ e.1.2 ≤ M ∧ -(M : Int) ≤ e.2.2 ∧ e.2.2 ≤ M := by
  induction es with
  | nil => exact ⟨0, fun e he => by cases he⟩
  | cons q L ih =>
    obtain ⟨M, h⟩ := ih
    refine ⟨M + q.1.2.natAbs + q.2.2.natAbs, fun e he => ?_⟩
    rcases List.mem_cons.1 he with rfl | he
    · omega
    · have := h e he; omega
/-- where no winding number is positive, neither is the area -/
theorem area_le {p : Q2} {es : List (Pt × Pt)} (hp : Path p p (es.map qe)) (h : ∀ x : Q2, (∀ e ∈ es, ¬ OnE x (qe e)) → wn (1, 0) x (es.map qe) ≤ 0) : (es.map dE).sum ≤ 0 := by
  obtain ⟨M, hM⟩ := bound_y es
  have h1 : (es.map fun e => ((List.range (2 * M)).map fun j : Nat => (spn e (-(M : Int) + (j : Int)) : Rat) * xr e (-(M : Int) + (j : Int))).sum).sum ≤ 0 := by
    rw [sum_swap]
    exact sum_le0 _ _ fun j _ => row_le hp h _
  rw [List.map_congr_left (g := fun e => ((e.1.1 + e.2.1) * (e.2.2 - e.1.2) : Rat) / 2) fun e he => by
    obtain ⟨b1, b2, b3, b4⟩ := hM e he
    rw [rows_edge e M b1 b2 b3 b4, gX_diff]] at h1
  have h2 := hp fun u => u.1.floor * u.2.floor
  rw [Int.sub_self, List.map_map] at h2
  have h3 : (es.map fun e => e.2.1 * e.2.2 - e.1.1 * e.1.2).sum = 0 := by
    rw [← h2]; congr 1
  have h4 : ((es.map dE).sum : Rat) = 2 * (es.map fun e => ((e.1.1 + e.2.1) * (e.2.2 - e.1.2) : Rat) / 2).sum - ((es.map fun e => e.2.1 * e.2.2 - e.1.1 * e.1.2).sum : Int) := by
    clear h1 h2 h3 hM h hp
    induction es with
    | nil => simp only [List.map_nil, List.sum_nil]; have : ((0 : Int) : Rat) = 0 := rfl; grind
    | cons e l ih =>
      simp only [List.map_cons, List.sum_cons, Rat.intCast_add, ih, Rat.intCast_sub, Rat.intCast_mul, dE]
      grind
  rw [h3] at h4
  have e0 : ((0 : Int) : Rat) = 0 := rfl
  refine Rat.intCast_nonpos.1 ?_
  rw [h4, e0]; grind
end Go.Geo

namespace Go.Geo
set_option maxRecDepth 100000
set_option maxHeartbeats 4000000
set_option linter.unusedSimpArgs false
set_option linter.unusedVariables false
open Go Go.Zv
theorem mul_neg_iff {x y : Rat} : x * y < 0 ↔ (x < 0 ∧ 0 < y) ∨ (0 < x ∧ y < 0) := by
  constructor
  · intro h
    rcases Rat.le_total (a := 0) (b := x) with hx | hx
    · right
      have hy : y < 0 := by
        refine Classical.byContradiction fun hn => ?_
        have := Rat.mul_nonneg hx (show 0 ≤ y by grind)
        grind
      refine ⟨?_, hy⟩
      refine Classical.byContradiction fun hn => ?_
      have : x = 0 := by grind
      rw [this] at h; grind
    · left
      have hy : 0 < y := by
        refine Classical.byContradiction fun hn => ?_
        have := Rat.mul_nonneg (show 0 ≤ -x by grind) (show 0 ≤ -y by grind)
        grind
      refine ⟨?_, hy⟩
      refine Classical.byContradiction fun hn => ?_
      have : x = 0 := by grind
      rw [this] at h; grind
  · rintro (⟨h1, h2⟩ | ⟨h1, h2⟩)
    · have := Rat.mul_pos (show 0 < -x by grind) h2; grind
    · have := Rat.mul_pos h1 (show 0 < -y by grind); grind
theorem meets_half {a b c d : Q2} (h : Meets a b c d) (hn : ¬ xq (sq b a) (sq c a) * xq (sq b a) (sq d a) < 0) : OnE c (a, b) ∨ OnE d (a, b) ∨ OnE a (c, d) ∨ OnE b (c, d) := by
  obtain ⟨z, z1, z2⟩ := h
  obtain ⟨t, t0, t1, ht⟩ := on_param z2
  by_cases e0 : t = 0
  · left; rw [ht, e0, onp0] at z1; exact z1
  by_cases e1 : t = 1
  · right; left; rw [ht, e1, onp1] at z1; exact z1
  obtain ⟨s, s0, s1, hs⟩ := on_param z1
  have hz : xq (sq b a) (sq z a) = 0 := by rw [hs]; unfold xq sq onp; grind
  have hz2 : (1 - t) * xq (sq b a) (sq c a) + t * xq (sq b a) (sq d a) = 0 := by rw [← hz, ht]; unfold xq sq onp; grind
  rw [mul_neg_iff] at hn
  have hc : xq (sq b a) (sq c a) = 0 ∧ xq (sq b a) (sq d a) = 0 := by
    generalize xq (sq b a) (sq c a) = o1 at *
    generalize xq (sq b a) (sq d a) = o2 at *
    have p0 : 0 < t := by grind
    have p1 : 0 < 1 - t := by grind
    by_cases h1 : 0 < o1
    · have := Rat.mul_pos p1 h1
      have h2 : 0 ≤ o2 := by grind
      have := Rat.mul_nonneg t0 h2
      grind
    · by_cases h2 : o1 < 0
      · have := Rat.mul_pos p1 (show 0 < -o1 by grind)
        have h2 : 0 ≤ -o2 := by grind
        have := Rat.mul_nonneg t0 h2
        grind
      · have e : o1 = 0 := by grind
        refine ⟨e, ?_⟩
        rw [e] at hz2
        have hi := r_inv (x := t) e0
        generalize t⁻¹ = M at *; grind
  refine Classical.byContradiction fun hno => ?_
  have hab : a ≠ b := fun e => by
    refine hno (.inr (.inr (.inl ?_)))
    have : z = a := by rw [hs, e]; refine Prod.ext ?_ ?_ <;> simp only [onp] <;> grind
    rw [← this]; exact z2
  have hN := dq_pos (sq_ne hab)
  have hi := r_inv (x := dq (sq b a) (sq b a)) (by grind)
  obtain ⟨c1, c2⟩ := hc
  -- the others' places on the line
  have par : ∀ p : Q2, xq (sq b a) (sq p a) = 0 → ∃ k, p = onp a b k := fun p hp => by
    refine ⟨dq (sq p a) (sq b a) * (dq (sq b a) (sq b a))⁻¹, ?_⟩
    have i1 : dq (sq b a) (sq b a) * (p.1 - a.1) = dq (sq p a) (sq b a) * (b.1 - a.1) := by unfold dq sq; unfold xq sq at hp; grind
    have i2 : dq (sq b a) (sq b a) * (p.2 - a.2) = dq (sq p a) (sq b a) * (b.2 - a.2) := by unfold dq sq; unfold xq sq at hp; grind
    generalize dq (sq b a) (sq b a) = N at *
    generalize dq (sq p a) (sq b a) = m at *
    generalize N⁻¹ = M at *
    refine Prod.ext ?_ ?_ <;> simp only [onp] <;> grind
  obtain ⟨k1, e1'⟩ := par c c1
  obtain ⟨k2, e2'⟩ := par d c2
  have n1 : ¬ (0 ≤ k1 ∧ k1 ≤ 1) := fun ⟨x, y⟩ => hno (.inl (by rw [e1']; exact on_of_param x y))
  have n2 : ¬ (0 ≤ k2 ∧ k2 ≤ 1) := fun ⟨x, y⟩ => hno (.inr (.inl (by rw [e2']; exact on_of_param x y)))
  have hs2 : s = (1 - t) * k1 + t * k2 := by
    rw [ht, e1', e2'] at hs
    unfold onp at hs; simp only [Prod.mk.injEq] at hs
    obtain ⟨q1, q2⟩ := hs
    have w1 : (s - ((1 - t) * k1 + t * k2)) * (b.1 - a.1) = 0 := by grind
    have w2 : (s - ((1 - t) * k1 + t * k2)) * (b.2 - a.2) = 0 := by grind
    have w3 : (s - ((1 - t) * k1 + t * k2)) * dq (sq b a) (sq b a) = 0 := by unfold dq sq; grind
    generalize dq (sq b a) (sq b a) = N at *
    generalize N⁻¹ = M at *
    grind
  have n3 : ¬ k1 * k2 ≤ 0 := fun hk => by
    refine hno (.inr (.inr (.inl ?_)))
    rw [e1', e2']
    have := Rat.mul_nonneg (show 0 ≤ -(k1 * k2) by grind) (dq_nn (sq b a))
    unfold OnE OnV xq dq sq onp; unfold dq sq at this; simp only at this ⊢
    constructor <;> grind
  have p0 : 0 < t := by grind
  have p1 : 0 < 1 - t := by grind
  by_cases q1 : 0 ≤ k1
  · have q2 : 0 ≤ k2 := by
      refine Classical.byContradiction fun hk => n3 ?_
      have := Rat.mul_nonneg q1 (show 0 ≤ -k2 by grind)
      grind
    have := Rat.mul_pos p1 (show 0 < k1 - 1 by grind)
    have := Rat.mul_pos p0 (show 0 < k2 - 1 by grind)
    grind
  · have q2 : k2 < 0 := by
      refine Classical.byContradiction fun hk => n3 ?_
      have := Rat.mul_nonneg (show 0 ≤ -k1 by grind) (show 0 ≤ k2 by grind)
      grind
    have := Rat.mul_pos p1 (show 0 < -k1 by grind)
    have := Rat.mul_pos p0 (show 0 < -k2 by grind)
    grind
theorem meets_comm {a b c d : Q2} : Meets a b c d ↔ Meets c d a b := ⟨fun ⟨z, h1, h2⟩ => ⟨z, h2, h1⟩, fun ⟨z, h1, h2⟩ => ⟨z, h2, h1⟩⟩
theorem meets_cases {a b c d : Q2} (h : Meets a b c d) : (xq (sq b a) (sq c a) * xq (sq b a) (sq d a) < 0 ∧ xq (sq d c) (sq a c) * xq (sq d c) (sq b c) < 0) ∨ OnE c (a, b) ∨ OnE d (a, b) ∨ OnE a (c, d) ∨ OnE b (c, d) := by
  by_cases h1 : xq (sq b a) (sq c a) * xq (sq b a) (sq d a) < 0
  · by_cases h2 : xq (sq d c) (sq a c) * xq (sq d c) (sq b c) < 0
    · exact .inl ⟨h1, h2⟩
    · rcases meets_half (meets_comm.1 h) h2 with h | h | h | h
      · exact .inr (.inr (.inr (.inl h)))
      · exact .inr (.inr (.inr (.inr h)))
      · exact .inr (.inl h)
      · exact .inr (.inr (.inl h))
  · exact .inr (meets_half h h1)
theorem meets_proper {a b c d : Q2} (h1 : xq (sq b a) (sq c a) * xq (sq b a) (sq d a) < 0) (h2 : xq (sq d c) (sq a c) * xq (sq d c) (sq b c) < 0) : Meets a b c d := by
  have i1 : xq (sq d c) (sq a c) - xq (sq d c) (sq b c) = xq (sq b a) (sq d a) - xq (sq b a) (sq c a) := by unfold xq sq; grind
  have j1 : (xq (sq b a) (sq d a) - xq (sq b a) (sq c a)) * (a.1 - c.1) + xq (sq d c) (sq a c) * (b.1 - a.1) = -xq (sq b a) (sq c a) * (d.1 - c.1) := by unfold xq sq; grind
  have j2 : (xq (sq b a) (sq d a) - xq (sq b a) (sq c a)) * (a.2 - c.2) + xq (sq d c) (sq a c) * (b.2 - a.2) = -xq (sq b a) (sq c a) * (d.2 - c.2) := by unfold xq sq; grind
  rw [mul_neg_iff] at h1 h2
  generalize xq (sq b a) (sq c a) = o1 at *
  generalize xq (sq b a) (sq d a) = o2 at *
  generalize xq (sq d c) (sq a c) = o3 at *
  generalize xq (sq d c) (sq b c) = o4 at *
  have hne : o2 - o1 ≠ 0 := by grind
  have hi := r_inv hne
  have key : 0 ≤ o3 * (o2 - o1)⁻¹ ∧ 0 ≤ -o4 * (o2 - o1)⁻¹ ∧ 0 ≤ -o1 * (o2 - o1)⁻¹ ∧ 0 ≤ o2 * (o2 - o1)⁻¹ := by
    rcases h2 with ⟨u, v⟩ | ⟨u, v⟩
    · have hM : 0 < (o1 - o2)⁻¹ := Rat.inv_pos.2 (by grind)
      have e : (o2 - o1)⁻¹ = -(o1 - o2)⁻¹ := by
        have i2 := r_inv (x := o1 - o2) (by grind)
        generalize (o1 - o2)⁻¹ = A at *
        generalize (o2 - o1)⁻¹ = C at *
        grind
      have m1 := Rat.mul_nonneg (show 0 ≤ -o3 by grind) (show 0 ≤ (o1 - o2)⁻¹ by grind)
      have m2 := Rat.mul_nonneg (show 0 ≤ o4 by grind) (show 0 ≤ (o1 - o2)⁻¹ by grind)
      have m3 := Rat.mul_nonneg (show 0 ≤ o1 by grind) (show 0 ≤ (o1 - o2)⁻¹ by grind)
      have m4 := Rat.mul_nonneg (show 0 ≤ -o2 by grind) (show 0 ≤ (o1 - o2)⁻¹ by grind)
      rw [e]
      generalize (o1 - o2)⁻¹ = A at *
      exact ⟨by grind, by grind, by grind, by grind⟩
    · have hM : 0 < (o2 - o1)⁻¹ := Rat.inv_pos.2 (by grind)
      exact ⟨Rat.mul_nonneg (by grind) (by grind), Rat.mul_nonneg (by grind) (by grind), Rat.mul_nonneg (by grind) (by grind), Rat.mul_nonneg (by grind) (by grind)⟩
  obtain ⟨m1, m2, m3, m4⟩ := key
  generalize (o2 - o1)⁻¹ = M at *
  have ez : onp a b (o3 * M) = onp c d (-o1 * M) := by refine Prod.ext ?_ ?_ <;> simp only [onp] <;> grind
  have k1 : o3 * M + -o4 * M = 1 := by rw [← hi, ← i1]; grind
  have k2 : -o1 * M + o2 * M = 1 := by rw [← hi]; grind
  have l1 : o3 * M ≤ 1 := by rw [← k1]; grind
  have l2 : -o1 * M ≤ 1 := by rw [← k2]; grind
  refine ⟨onp a b (o3 * M), on_of_param m1 l1, ?_⟩
  rw [ez]; exact on_of_param m3 l2
/-! whole points -/
theorem xq_int (a b p : Pt) : xq (sq (qp b) (qp a)) (sq (qp p) (qp a)) = ((cr a.1 a.2 b.1 b.2 p.1 p.2 : Int) : Rat) := by
  unfold xq sq qp cr
  simp only [Rat.intCast_sub, Rat.intCast_mul]
theorem xq_int' (a b p : Pt) : xq (sq (qp a) (qp p)) (sq (qp b) (qp p)) = ((cr a.1 a.2 b.1 b.2 p.1 p.2 : Int) : Rat) := by
  rw [← xq_int]; unfold xq sq; grind
theorem onE_int (p a b : Pt) : OnE (qp p) (qp a, qp b) ↔ (withinB a.1 a.2 b.1 b.2 p.1 p.2 = true ∧ cr a.1 a.2 b.1 b.2 p.1 p.2 = 0) := by
  rw [on_iff]
  unfold OnE OnV
  simp only
  rw [xq_int']
  have hd : dq (sq (qp a) (qp p)) (sq (qp b) (qp p)) = ((-((p.1 - a.1) * (b.1 - p.1) + (p.2 - a.2) * (b.2 - p.2)) : Int) : Rat) := by
    unfold dq sq qp
    simp only [Rat.intCast_sub, Rat.intCast_mul, Rat.intCast_add, Rat.intCast_neg]; grind
  rw [hd, Rat.intCast_nonpos, Rat.intCast_eq_zero_iff]
  constructor
  · rintro ⟨h1, h2⟩
    refine ⟨h1, by omega, ?_⟩
    rintro ⟨e1, e2⟩
    rw [← e1, ← e2] at h2
    have s1 := sq_nn (p.1 - a.1)
    have s2 := sq_nn (p.2 - a.2)
    have : (p.1 - a.1) * (a.1 - p.1) = -((p.1 - a.1) * (p.1 - a.1)) := by grind
    have : (p.2 - a.2) * (a.2 - p.2) = -((p.2 - a.2) * (p.2 - a.2)) := by grind
    constructor
    · refine Classical.byContradiction fun hn => ?_
      have := sq_pos (x := p.1 - a.1) (by omega)
      omega
    · refine Classical.byContradiction fun hn => ?_
      have := sq_pos (x := p.2 - a.2) (by omega)
      omega
  · rintro ⟨h1, h2, _⟩
    exact ⟨h1, by omega⟩
abbrev B2 (p : Pt) : Prop := B p.1 ∧ B p.2
theorem B8_of {a b c d : Pt} (ha : B2 a) (hb : B2 b) (hc : B2 c) (hd : B2 d) : B8 a.1 a.2 b.1 b.2 c.1 c.2 d.1 d.2 := ⟨ha.1, ha.2, hb.1, hb.2, hc.1, hc.2, hd.1, hd.2⟩
theorem i_neg (x y : Int) : (x : Rat) * y < 0 ↔ x * y < 0 := by rw [← Rat.intCast_mul, Rat.intCast_neg_iff]
theorem cut_meets {a b c d : Pt} (ha : B2 a) (hb : B2 b) (hc : B2 c) (hd : B2 d) : cutE (a, b) (c, d) = true ↔ Meets (qp a) (qp b) (qp c) (qp d) := by
  unfold cutE
  rw [cutB_iff (B8_of ha hb hc hd)]
  constructor
  · rintro (⟨h1, h2⟩ | (⟨h1, h2⟩ | ⟨h1, h2⟩) | (⟨h1, h2⟩ | ⟨h1, h2⟩))
    · refine meets_proper ?_ ?_
      · rw [xq_int, xq_int, i_neg]; exact h1
      · rw [xq_int, xq_int, i_neg]; exact h2
    · exact ⟨qp c, (onE_int c a b).2 ⟨h2, h1⟩, on_left _ _⟩
    · exact ⟨qp d, (onE_int d a b).2 ⟨h2, h1⟩, on_right _ _⟩
    · exact ⟨qp a, on_left _ _, (onE_int a c d).2 ⟨h2, h1⟩⟩
    · exact ⟨qp b, on_right _ _, (onE_int b c d).2 ⟨h2, h1⟩⟩
  · intro h
    rcases meets_cases h with ⟨h1, h2⟩ | h | h | h | h
    · rw [xq_int, xq_int, i_neg] at h1 h2
      exact .inl ⟨h1, h2⟩
    · have := (onE_int c a b).1 h; exact .inr (.inl (.inl ⟨this.2, this.1⟩))
    · have := (onE_int d a b).1 h; exact .inr (.inl (.inr ⟨this.2, this.1⟩))
    · have := (onE_int a c d).1 h; exact .inr (.inr (.inl ⟨this.2, this.1⟩))
    · have := (onE_int b c d).1 h; exact .inr (.inr (.inr ⟨this.2, this.1⟩))
theorem onE_meets {p : Pt} {e : Pt × Pt} (hp : B2 p) (h1 : B2 e.1) (h2 : B2 e.2) : onE p e = true ↔ OnE (qp p) (qe e) := by
  have := onE_int p e.1 e.2
  rw [show qe e = (qp e.1, qp e.2) from rfl, this]
  unfold onE onB
  rw [crW_B h1.1 h1.2 h2.1 h2.2 hp.1 hp.2]
  simp [sgn_eq0]
end Go.Geo

namespace Go.Geo
set_option maxRecDepth 100000
set_option maxHeartbeats 4000000
set_option linter.unusedSimpArgs false
set_option linter.unusedVariables false
open Go Go.Zv
theorem mod_of_per {α : Type} (g : Nat → α) (n : Nat) (h : ∀ k, g (k + n) = g k) (k : Nat) : g (k % n) = g k := by
  have : ∀ q r, g (r + n * q) = g r := by
    intro q r
    induction q with
    | zero => simp
    | succ q ih => rw [Nat.mul_succ, ← Nat.add_assoc, h, ih]
  have e := this (k / n) (k % n)
  rw [Nat.mod_add_div] at e
  exact e.symm
/-- the corners, round and round -/
def pqf (l : List Pt) (k : Nat) : Q2 := qp (ptn l k)
theorem eds_chn (l : List Pt) : (eds l).map qe = chn (pqf l) 0 l.length := by
  rw [eds_range, List.map_map]
  unfold chn
  exact List.map_congr_left fun k _ => by simp only [Function.comp_apply, Nat.zero_add]; rfl
theorem mayB_B {p : Pt} (h : mayB p = true) : (-439400000 ≤ p.1 ∧ p.1 ≤ 439400000) ∧ (-439400000 ≤ p.2 ∧ p.2 ≤ 439400000) := by
  unfold mayB mxI mnI at h
  simp only [Bool.and_eq_true, decide_eq_true_eq] at h
  split at h <;> split at h <;> omega
theorem mayB_B2 {p : Pt} (h : mayB p = true) : B2 p := by
  have := mayB_B h
  unfold B2 B; omega
theorem ptn_mem {l : List Pt} (k : Nat) (h : 0 < l.length) : ptn l k ∈ l := List.mem_of_getElem? (ptn_mod (l := l) (k := k) h)
theorem ptn_B {l : List Pt} (hm : l.all mayB = true) (h : 0 < l.length) (k : Nat) : B2 (ptn l k) := mayB_B2 (List.all_eq_true.1 hm _ (ptn_mem k h))
structure Val (l : List Pt) : Prop where
  n3 : 3 ≤ l.length
  n12 : l.length ≤ 12
  may : l.all mayB = true
  sim : simB l = true
  area : 0 < areaW l
theorem val_iff {l : List Pt} : valB l = true ↔ Val l := by
  unfold valB
  simp only [Bool.and_eq_true, decide_eq_true_eq]
  exact ⟨fun ⟨a, b, c, d, e⟩ => ⟨a, b, c, d, e⟩, fun h => ⟨h.n3, h.n12, h.may, h.sim, h.area⟩⟩
theorem sim_bad {l : List Pt} (h : simB l = true) (h0 : 0 < l.length) (i : Nat) : badN l i = false := by
  rw [simB_N] at h
  simp only [Bool.not_eq_true', List.any_eq_false, List.mem_map, List.mem_range] at h
  rw [← mod_of_per (badN l) l.length (badN_per l) i]
  have := h (badN l (i % l.length)) ⟨i % l.length, Nat.mod_lt _ h0, rfl⟩
  simpa using this
theorem sim_nc {l : List Pt} (h : simB l = true) (h0 : 0 < l.length) (i : Nat) : oriE (ptn l i) (ptn l (i + 1)) (ptn l (i + 2)) ≠ 0 := by
  have := sim_bad h h0 i
  unfold badN at this
  simp only [Bool.or_eq_false_iff, decide_eq_false_iff_not] at this
  exact this.1
theorem sim_dj {l : List Pt} (h : simB l = true) (h0 : 0 < l.length) (i m : Nat) (h2 : 2 ≤ m) (h3 : m + 2 ≤ l.length) : cutE (edn l i) (edn l (i + m)) = false := by
  have := sim_bad h h0 i
  unfold badN at this
  simp only [Bool.or_eq_false_iff, List.any_eq_false, List.mem_map, List.mem_range] at this
  have h4 := this.2 (badM l i ((i + m) % l.length)) ⟨(i + m) % l.length, Nat.mod_lt _ h0, rfl⟩
  rw [mod_of_per (badM l i) l.length (badM_per l i) (i + m)] at h4
  unfold badM at h4
  have ha : adjM l.length i (i + m) = false := by
    unfold adjM
    have e1 := mod_cancel m 0 i l.length
    have e2 := mod_cancel (m - 1) 0 (i + 1) l.length
    have e3 := mod_cancel 0 (m + 1) i l.length
    rw [show m + i = i + m by omega, Nat.zero_add] at e1
    rw [show m - 1 + (i + 1) = i + m by omega, Nat.zero_add] at e2
    rw [show m + 1 + i = i + m + 1 by omega, Nat.zero_add] at e3
    rw [Nat.mod_eq_of_lt (a := m) (by omega), Nat.mod_eq_of_lt (a := 0) (by omega)] at e1
    rw [Nat.mod_eq_of_lt (a := m - 1) (by omega), Nat.mod_eq_of_lt (a := 0) (by omega)] at e2
    rw [Nat.mod_eq_of_lt (a := m + 1) (by omega), Nat.mod_eq_of_lt (a := 0) (by omega)] at e3
    have f1 : ¬ (i + m) % l.length = i % l.length := fun e => by have := e1.1 e; omega
    have f2 : ¬ (i + m) % l.length = (i + 1) % l.length := fun e => by have := e2.1 e; omega
    have f3 : ¬ i % l.length = (i + m + 1) % l.length := fun e => by have := e3.1 e; omega
    simp only [f1, f2, f3, decide_false, Bool.or_false]
  rw [ha] at h4
  simpa using h4
theorem simp_of {l : List Pt} (h3 : 3 ≤ l.length) (hm : l.all mayB = true) (hs : simB l = true) : Simp (pqf l) l.length where
  n3 := h3
  per := fun k => by unfold pqf; rw [ptn_per]
  nc := fun i => by
    have h0 : 0 < l.length := by omega
    have h1 := sim_nc hs h0 i
    have b0 := ptn_B hm h0 i
    have b1 := ptn_B hm h0 (i + 1)
    have b2 := ptn_B hm h0 (i + 2)
    unfold oriE at h1
    rw [crW_B b0.1 b0.2 b1.1 b1.2 b2.1 b2.2] at h1
    have e : xq (sq (pqf l (i + 1)) (pqf l i)) (sq (pqf l (i + 2)) (pqf l (i + 1))) = ((cr (ptn l i).1 (ptn l i).2 (ptn l (i + 1)).1 (ptn l (i + 1)).2 (ptn l (i + 2)).1 (ptn l (i + 2)).2 : Int) : Rat) := by
      rw [← xq_int]; unfold pqf xq sq; grind
    rw [e]
    intro hx
    rw [Rat.intCast_eq_zero_iff] at hx
    rw [hx] at h1
    exact h1 rfl
  dj := fun i m h2 h4 z z1 z2 => by
    have h0 : 0 < l.length := by omega
    have := sim_dj hs h0 i m h2 h4
    have hc := (cut_meets (ptn_B hm h0 i) (ptn_B hm h0 (i + 1)) (ptn_B hm h0 (i + m)) (ptn_B hm h0 (i + m + 1))).2 ⟨z, z1, z2⟩
    unfold edn at this
    rw [hc] at this
    cases this
theorem dE_bd {a b : Pt} (ha : mayB a = true) (hb : mayB b = true) : -386144720000000000 ≤ dE (a, b) ∧ dE (a, b) ≤ 386144720000000000 := by
  obtain ⟨⟨a1, a2⟩, a3, a4⟩ := mayB_B ha
  obtain ⟨⟨b1, b2⟩, b3, b4⟩ := mayB_B hb
  have p := mul_bd a1 a2 b3 b4
  have q := mul_bd a3 a4 b1 b2
  unfold dE; simp only; omega
theorem sum_bd (l : List Int) (K : Int) (h : ∀ x ∈ l, -K ≤ x ∧ x ≤ K) : -(K * l.length) ≤ l.sum ∧ l.sum ≤ K * l.length := by
  induction l with
  | nil => simp
  | cons a l ih =>
    have := ih fun x hx => h x (by simp [hx])
    have := h a (by simp)
    simp only [List.sum_cons, List.length_cons]
    have e : K * ((l.length + 1 : Nat) : Int) = K * l.length + K := by rw [Int.natCast_add, Int.mul_add]; simp
    rw [e]; omega
theorem areaW_val {l : List Pt} (h12 : l.length ≤ 12) (hm : l.all mayB = true) : areaW l = ((eds l).map dE).sum := by
  rw [areaW_sum]
  have := sum_bd ((eds l).map dE) 386144720000000000 (fun x hx => by
    obtain ⟨e, he, rfl⟩ := List.mem_map.1 hx
    obtain ⟨i, hi⟩ := List.getElem?_of_mem he
    obtain ⟨h1, h2, h3⟩ := eds_get hi
    exact dE_bd (List.all_eq_true.1 hm _ (List.mem_of_getElem? h2)) (List.all_eq_true.1 hm _ (List.mem_of_getElem? h3)))
  rw [List.length_map, eds_len] at this
  exact wrap_small (by omega) (by omega)
theorem top_arg (a : Nat → Q2) (n : Nat) (h : 0 < n) : ∃ i, i < n ∧ ∀ j, j < n → (a j).2 < (a i).2 ∨ ((a j).2 = (a i).2 ∧ (a i).1 ≤ (a j).1) := by
  induction n with
  | zero => omega
  | succ n ih =>
    by_cases e : n = 0
    · subst e
      exact ⟨0, by omega, fun j hj => by have : j = 0 := by omega
                                         subst this; exact .inr ⟨rfl, Rat.le_refl⟩⟩
    · obtain ⟨i, hi, hmax⟩ := ih (by omega)
      by_cases hn : (a n).2 < (a i).2 ∨ ((a n).2 = (a i).2 ∧ (a i).1 ≤ (a n).1)
      · refine ⟨i, by omega, fun j hj => ?_⟩
        by_cases e : j = n
        · subst e; exact hn
        · exact hmax j (by omega)
      · refine ⟨n, by omega, fun j hj => ?_⟩
        by_cases e : j = n
        · subst e; exact .inr ⟨rfl, Rat.le_refl⟩
        · have := hmax j (by omega)
          have h1 : (a i).2 ≤ (a n).2 := by
            refine Classical.byContradiction fun hx => hn (.inl (by grind))
          have h2 : (a n).2 = (a i).2 → (a n).1 < (a i).1 := fun e => by
            refine Classical.byContradiction fun hx => hn (.inr ⟨e, by grind⟩)
          by_cases e2 : (a n).2 = (a i).2
          · have := h2 e2
            rcases this2 : hmax j (by omega) with h | ⟨h, h'⟩
            · left; rw [e2]; exact h
            · right; exact ⟨by rw [h, e2], by grind⟩
          · left
            have : (a i).2 < (a n).2 := by grind
            rcases hmax j (by omega) with h | ⟨h, h'⟩ <;> grind
theorem Lc_01 {a : Nat → Q2} {n : Nat} (h : Simp a n) : Lc a n 0 = 0 ∨ Lc a n 0 = 1 := by
  have n3 := h.n3
  obtain ⟨i, hi, hmax⟩ := top_arg a n (by omega)
  have e : a (i + n - 1 + 1) = a i := by rw [show i + n - 1 + 1 = i + n by omega, h.per]
  have := Lc_top h (i + n - 1) (fun j => by
    rw [e, ← per_mod h j]
    exact hmax (j % n) (Nat.mod_lt _ (by omega)))
  rw [Lc_const h] at this
  exact this
theorem Lc_val {l : List Pt} (h : Val l) : Lc (pqf l) l.length 0 = 1 := by
  have hs := simp_of h.n3 h.may h.sim
  rcases Lc_01 hs with h0 | h1
  · exfalso
    have ha := h.area
    rw [areaW_val h.n12 h.may] at ha
    have := area_le (p := pqf l 0) (es := eds l) (by rw [eds_chn]; exact all_path hs) (fun x hx => by
      rw [eds_chn]
      have hx' : ∀ e ∈ chn (pqf l) 0 l.length, ¬ OnE x e := by
        rw [← eds_chn]
        intro e he
        obtain ⟨f, hf, rfl⟩ := List.mem_map.1 he
        exact hx f hf
      have hd : ((1, 0) : Q2) ≠ (0, 0) := by intro e; simp only [Prod.mk.injEq] at e; exact absurd e.1 (by decide)
      rcases wind hs hx' hd with e | e | e <;> rw [e] <;> (try rw [h0]) <;> decide)
    omega
  · exact h1
theorem d10 : ((1, 0) : Q2) ≠ (0, 0) := by intro e; simp only [Prod.mk.injEq] at e; exact absurd e.1 (by decide)
/-- a valid polygon goes round a point once or not at all -/
theorem wind_val {l : List Pt} (h : Val l) {x d : Q2} (hx : ∀ e ∈ eds l, ¬ OnE x (qe e)) (hd : d ≠ (0, 0)) : wn d x ((eds l).map qe) = 0 ∨ wn d x ((eds l).map qe) = 1 := by
  have hs := simp_of h.n3 h.may h.sim
  have hL := Lc_val h
  have hx' : ∀ e ∈ chn (pqf l) 0 l.length, ¬ OnE x e := by
    rw [← eds_chn]
    intro e he
    obtain ⟨f, hf, rfl⟩ := List.mem_map.1 he
    exact hx f hf
  rw [eds_chn]
  rcases wind hs hx' hd with e | e | e
  · exact .inl e
  · rw [hL] at e; exact .inr e
  · rw [hL] at e; exact .inl e
/-! where a point lies -/
theorem fl_hit {p : Pt} {e : Pt × Pt} (hp : B2 p) (h1 : B2 e.1) (h2 : B2 e.2) (hn : ¬ OnE (qp p) (qe e)) : flE p e = decide (hit (1, 0) (sq (qp e.1) (qp p)) (sq (qp e.2) (qp p)) % 2 = 1) := by
  have y1 : 0 < xq (1, 0) (sq (qp e.1) (qp p)) ↔ p.2 < e.1.2 := by
    have : xq (1, 0) (sq (qp e.1) (qp p)) = ((e.1.2 - p.2 : Int) : Rat) := by unfold xq sq qp; rw [Rat.intCast_sub]; grind
    rw [this, Rat.intCast_pos]; omega
  have y2 : 0 < xq (1, 0) (sq (qp e.2) (qp p)) ↔ p.2 < e.2.2 := by
    have : xq (1, 0) (sq (qp e.2) (qp p)) = ((e.2.2 - p.2 : Int) : Rat) := by unfold xq sq qp; rw [Rat.intCast_sub]; grind
    rw [this, Rat.intCast_pos]; omega
  have hon : ¬ (withinB e.1.1 e.1.2 e.2.1 e.2.2 p.1 p.2 = true ∧ cr e.1.1 e.1.2 e.2.1 e.2.2 p.1 p.2 = 0) := fun h => hn ((onE_int p e.1 e.2).2 h)
  unfold flE hit
  rw [crW_B h1.1 h1.2 h2.1 h2.2 hp.1 hp.2, xq_int']
  simp only [y1, y2, Rat.intCast_pos, Rat.intCast_neg_iff]
  have s1 : 0 < sgn (cr e.1.1 e.1.2 e.2.1 e.2.2 p.1 p.2) ↔ 0 < cr e.1.1 e.1.2 e.2.1 e.2.2 p.1 p.2 := by unfold sgn; repeat' split
                                                                                                        all_goals omega
  simp only [s1]
  by_cases a : p.2 < e.1.2 <;> by_cases b : p.2 < e.2.2
  · simp [a, b]
  · have c : ¬ e.1.2 < e.2.2 := by omega
    have hne : cr e.1.1 e.1.2 e.2.1 e.2.2 p.1 p.2 ≠ 0 := fun hc => hon ⟨w_y hc (by omega) (by rw [mul_nn]; omega), hc⟩
    by_cases d : cr e.1.1 e.1.2 e.2.1 e.2.2 p.1 p.2 < 0
    · have d' : ¬ 0 < cr e.1.1 e.1.2 e.2.1 e.2.2 p.1 p.2 := by omega
      simp [a, b, c, d, d']
    · have d' : 0 < cr e.1.1 e.1.2 e.2.1 e.2.2 p.1 p.2 := by omega
      simp [a, b, c, d, d']
  · have c : e.1.2 < e.2.2 := by omega
    by_cases d : 0 < cr e.1.1 e.1.2 e.2.1 e.2.2 p.1 p.2
    · simp [a, b, c, d]
    · simp [a, b, c, d]
  · simp [a, b]
theorem par_fold (p : Pt) (es : List (Pt × Pt)) (f : Pt × Pt → Int) (h : ∀ e ∈ es, flE p e = decide (f e % 2 = 1)) : ∀ b : Bool, es.foldl (parF p) b = (b != decide ((es.map f).sum % 2 = 1)) := by
  induction es with
  | nil => intro b; simp
  | cons e l ih =>
    intro b
    rw [List.foldl_cons, ih (fun x hx => h x (by simp [hx]))]
    unfold parF
    rw [h e (by simp), List.map_cons, List.sum_cons]
    have e1 : (f e + (l.map f).sum) % 2 = 1 ↔ ((f e % 2 = 1) ↔ ¬ (l.map f).sum % 2 = 1) := by omega
    simp only [e1]
    by_cases a : f e % 2 = 1 <;> by_cases c : (l.map f).sum % 2 = 1 <;> cases b <;> simp [a, c]
/-- where a point lies, by its winding number -/
theorem locI_wn {l : List Pt} {p : Pt} (hm : l.all mayB = true) (hp : B2 p) : locI l p = if (eds l).any (onE p) = true then 0 else if wn (1, 0) (qp p) ((eds l).map qe) % 2 = 1 then 1 else -1 := by
  unfold locI
  by_cases h : (eds l).any (onE p) = true
  · rw [if_pos h, if_pos h]
  · rw [if_neg h, if_neg h]
    have hB : ∀ e ∈ eds l, B2 e.1 ∧ B2 e.2 := fun e he => by
      obtain ⟨i, hi⟩ := List.getElem?_of_mem he
      obtain ⟨h1, h2, h3⟩ := eds_get hi
      exact ⟨mayB_B2 (List.all_eq_true.1 hm _ (List.mem_of_getElem? h2)), mayB_B2 (List.all_eq_true.1 hm _ (List.mem_of_getElem? h3))⟩
    have hoff : ∀ e ∈ eds l, ¬ OnE (qp p) (qe e) := fun e he ho => by
      apply h
      rw [List.any_eq_true]
      exact ⟨e, he, (onE_meets hp (hB e he).1 (hB e he).2).2 ho⟩
    rw [par_fold p (eds l) (fun e => hit (1, 0) (sq (qp e.1) (qp p)) (sq (qp e.2) (qp p))) (fun e he => fl_hit hp (hB e he).1 (hB e he).2 (hoff e he))]
    unfold wn
    rw [List.map_map]
    simp only [Bool.false_bne, decide_eq_true_eq]
    rfl
end Go.Geo

namespace Go.Proofs.Yteellikeoiedbaa
set_option maxRecDepth 100000
set_option maxHeartbeats 4000000
set_option linter.unusedSimpArgs false
set_option linter.unusedVariables false
open Go Go.Zv
open Go.Geo
theorem mod_r {k r n : Nat} (hk : k < n) (hr : r ≤ 255) (hn : n ≤ 1000000000) : (((k + r : Nat) : Int)).tmod (n : Int) = (((k + r) % n : Nat) : Int) ∧ ¬ ((n : Int) = 0) ∧ ((n : Int) == 0) = false ∧ (0 : Int) ≤ (((k + r) % n : Nat) : Int) ∧ (((k + r) % n : Nat) : Int) < n ∧ IntKind.i64.wrap ((k : Int) + (r : Int)) = ((k + r : Nat) : Int) ∧ IntKind.i64.wrap (r : Int) = r := by
  have h := Nat.mod_lt (k + r) (show n > 0 by omega)
  refine ⟨?_, by omega, by simp; omega, by omega, by omega, ?_, ?_⟩
  · rw [Int.tmod_eq_emod_of_nonneg (by omega)]; rfl
  · rw [wrap_small (by omega) (by omega)]; omega
  · rw [wrap_small (by omega) (by omega)]
theorem c34 (l : List Pt) (hl : l.length ≤ 1000000000) (r : Nat) (hr : r ≤ 255) : pc E 34 [.vs (l.map c2), .int .u8 r] = some (.os 2 ((rotL r l).map c2)) := by
  have lp := loop_idx (σ := Unit) (fun S => (K E A34_L0 S).bind (blockR 0 (some [5]) [6, 25]))
    (fun k _ => ⟨[(0, .vs (l.map c2)), (1, .int .u8 r), (5, .bs 1792 0 ((List.range k).map fun i => c2 (ptn l (i + r))).length), (6, .int .i64 k)], [], [(1792, .row 2 ((List.range k).map fun i => c2 (ptn l (i + r)))), (1024, .row 2 [])], 0⟩)
    l.length (fun _ _ => True)
    (fun _ _ => some (.ex .nrm ⟨[(5, .bs 1792 0 ((List.range l.length).map fun i => c2 (ptn l (i + r))).length)], [], [(1792, .row 2 ((List.range l.length).map fun i => c2 (ptn l (i + r)))), (1024, .row 2 [])], 0⟩))
    (fun _ _ => by
      show (K E A34_L0 _).bind _ = _
      rw [A34_L0_eq]; simp +contextual -implicitDefEqProofs (maxSteps := 2000000) only [go_sem, ↓reduceIte, Nat.reduceAdd, Nat.reduceMul, Nat.reduceSub, Nat.reduceEqDiff, Nat.reduceLeDiff, Nat.reduceDiv, Nat.reduceMod, Nat.reduceBEq, Nat.reduceBNe, reduceCtorEq, Int.reduceLE, Int.reduceLT, Int.reduceToNat, Int.reduceNeg, Nat.reduceLT, Int.reduceEq, Int.reduceSub, Int.reduceAdd, Int.reduceMul, Nat.reducePow, Int.reduceBEq, Int.reduceBNe, Int.reduceMod, A34_L0b, Int.lt_irrefl, List.length_map])
    (fun k x hk _ => .inr ⟨(), trivial, by
      rw [List.range_succ, List.map_append]
      have hrr : ((List.range k).map fun i => c2 (ptn l (i + r))).length ≤ 999999999 := by rw [List.length_map, List.length_range]; omega
      generalize ((List.range k).map fun i => c2 (ptn l (i + r))) = rows at *
      have g1 := get_c2 (ptn_mod (l := l) (k := k + r) (by omega))
      obtain ⟨m1, m2, m3, m4, m5, m6, m7⟩ := mod_r hk hr hl
      have h1 : (k : Int) < l.length := by omega
      have h0 : (0 : Int) ≤ k := by omega
      have hw := wr_k (k := k) (by omega)
      simp only [List.map_cons, List.map_nil]
      generalize ptn l (k + r) = p at *
      obtain ⟨px, py⟩ := p
      show (K E A34_L0 _).bind _ = (K E A34_L0 _).bind _
      conv => lhs; rw [A34_L0_eq]
      simp +contextual -implicitDefEqProofs (maxSteps := 2000000) only [go_sem, ↓reduceIte, Nat.reduceAdd, Nat.reduceMul, Nat.reduceSub, Nat.reduceEqDiff, Nat.reduceLeDiff, Nat.reduceDiv, Nat.reduceMod, Nat.reduceBEq, Nat.reduceBNe, reduceCtorEq, Int.reduceLE, Int.reduceLT, Int.reduceToNat, Int.reduceNeg, Nat.reduceLT, Int.reduceEq, Int.reduceSub, Int.reduceAdd, Int.reduceMul, Nat.reducePow, Int.reduceBEq, Int.reduceBNe, Int.reduceMod, A34_L0b, List.length_map, h0, h1, g1, m1, m2, m3, m4, m5, m6, m7, hw, hrr, c2, List.length_append], rfl⟩) 0 () (by omega) trivial
  simp only [Int.natCast_zero, Int.ofNat_zero, List.range_zero, List.map_nil, List.length_nil] at lp
  have e : (rotL r l).map c2 = (List.range l.length).map fun i => c2 (ptn l (i + r)) := by unfold rotL; rw [List.map_map]; rfl
  rw [e]
  have ht : List.take l.length ((List.range l.length).map fun i => c2 (ptn l (i + r))) = (List.range l.length).map fun i => c2 (ptn l (i + r)) := List.take_of_length_le (by simp)
  rw [pc_eq]; simp +contextual -implicitDefEqProofs (maxSteps := 2000000) only [go_sem, ↓reduceIte, Nat.reduceAdd, Nat.reduceMul, Nat.reduceSub, Nat.reduceEqDiff, Nat.reduceLeDiff, Nat.reduceDiv, Nat.reduceMod, Nat.reduceBEq, Nat.reduceBNe, reduceCtorEq, Int.reduceLE, Int.reduceLT, Int.reduceToNat, Int.reduceNeg, Nat.reduceLT, Int.reduceEq, Int.reduceSub, Int.reduceAdd, Int.reduceMul, Nat.reducePow, Int.reduceBEq, Int.reduceBNe, Int.reduceMod, ht, E_34, A34, List.length_map, List.length_range, lp]
end Go.Proofs.Yteellikeoiedbaa

namespace Go.Proofs.Yteellikeoiedbaa
set_option maxRecDepth 100000
set_option maxHeartbeats 4000000
set_option linter.unusedSimpArgs false
set_option linter.unusedVariables false
open Go Go.Zv
open Go.Geo
theorem c35 (l : List Pt) (hl : l.length ≤ 1000000000) : pc E 35 [.vs (l.map c2)] = some (.os 2 (l.reverse.map c2)) := by
  have lp := loop_idx (σ := Unit) (fun S => (K E A35_L0 S).bind (blockR 0 (some [3]) [4, 18]))
    (fun k _ => ⟨[(0, .vs (l.map c2)), (3, .bs 1280 0 ((l.reverse.take k).map c2).length), (4, .int .i64 ((l.length : Int) - 1 - k))], [], [(1280, .row 2 ((l.reverse.take k).map c2)), (512, .row 2 [])], 0⟩)
    l.length (fun _ _ => True)
    (fun _ _ => some (.ex .nrm ⟨[(3, .bs 1280 0 (l.reverse.map c2).length)], [], [(1280, .row 2 (l.reverse.map c2)), (512, .row 2 [])], 0⟩))
    (fun _ _ => by
      have e : (l.length : Int) - 1 - l.length = -1 := by omega
      have e2 : l.reverse.take l.length = l.reverse := List.take_of_length_le (by simp)
      show (K E A35_L0 _).bind _ = _
      rw [e, e2, A35_L0_eq]; simp +contextual -implicitDefEqProofs (maxSteps := 2000000) only [go_sem, ↓reduceIte, Nat.reduceAdd, Nat.reduceMul, Nat.reduceSub, Nat.reduceEqDiff, Nat.reduceLeDiff, Nat.reduceDiv, Nat.reduceMod, Nat.reduceBEq, Nat.reduceBNe, reduceCtorEq, Int.reduceLE, Int.reduceLT, Int.reduceToNat, Int.reduceNeg, Nat.reduceLT, Int.reduceEq, Int.reduceSub, Int.reduceAdd, Int.reduceMul, Nat.reducePow, Int.reduceBEq, Int.reduceBNe, Int.reduceMod, A35_L0b])
    (fun k x hk _ => .inr ⟨(), trivial, by
      have hk' : k < l.reverse.length := by simpa using hk
      have hget : l.reverse[k]? = some (l.reverse[k]'hk') := List.getElem?_eq_getElem _
      have ht : l.reverse.take (k + 1) = l.reverse.take k ++ [l.reverse[k]'hk'] := by rw [List.take_add_one, hget]; rfl
      have hg : l[l.length - 1 - k]? = some (l.reverse[k]'hk') := by rw [← List.getElem?_reverse hk]; exact hget
      rw [ht, List.map_append]
      generalize l.reverse[k]'hk' = p at *
      have hrr : ((l.reverse.take k).map c2).length ≤ 999999999 := by rw [List.length_map, List.length_take]; omega
      generalize (l.reverse.take k).map c2 = rows at *
      have g1 := get_c2 hg
      have e : (l.length : Int) - 1 - k = ((l.length - 1 - k : Nat) : Int) := by omega
      have e2 : (l.length : Int) - 1 - (k + 1 : Nat) = ((l.length - 1 - k : Nat) : Int) - 1 := by omega
      rw [e, e2]
      have hw : IntKind.i64.wrap (((l.length - 1 - k : Nat) : Int) - 1) = ((l.length - 1 - k : Nat) : Int) - 1 := wrap_small (by omega) (by omega)
      have h1 : ((l.length - 1 - k : Nat) : Int) < l.length := by omega
      have h0 : (0 : Int) ≤ ((l.length - 1 - k : Nat) : Int) := by omega
      generalize l.length - 1 - k = j at *
      obtain ⟨px, py⟩ := p
      show (K E A35_L0 _).bind _ = (K E A35_L0 _).bind _
      conv => lhs; rw [A35_L0_eq]
      simp +contextual -implicitDefEqProofs (maxSteps := 2000000) only [go_sem, ↓reduceIte, Nat.reduceAdd, Nat.reduceMul, Nat.reduceSub, Nat.reduceEqDiff, Nat.reduceLeDiff, Nat.reduceDiv, Nat.reduceMod, Nat.reduceBEq, Nat.reduceBNe, reduceCtorEq, Int.reduceLE, Int.reduceLT, Int.reduceToNat, Int.reduceNeg, Nat.reduceLT, Int.reduceEq, Int.reduceSub, Int.reduceAdd, Int.reduceMul, Nat.reducePow, Int.reduceBEq, Int.reduceBNe, Int.reduceMod, A35_L0b, List.length_map, h0, h1, g1, hw, hrr, c2, List.map_cons, List.map_nil, List.length_append], rfl⟩) 0 () (by omega) trivial
  simp only [Int.natCast_zero, Int.ofNat_zero, List.take_zero, List.map_nil, List.length_nil, Int.sub_zero] at lp
  have hw : IntKind.i64.wrap ((l.length : Int) - 1) = (l.length : Int) - 1 := wrap_small (by omega) (by omega)
  have ht : List.take l.length (List.map c2 l.reverse) = List.map c2 l.reverse := List.take_of_length_le (by simp)
  rw [pc_eq]; simp +contextual -implicitDefEqProofs (maxSteps := 2000000) only [go_sem, ↓reduceIte, Nat.reduceAdd, Nat.reduceMul, Nat.reduceSub, Nat.reduceEqDiff, Nat.reduceLeDiff, Nat.reduceDiv, Nat.reduceMod, Nat.reduceBEq, Nat.reduceBNe, reduceCtorEq, Int.reduceLE, Int.reduceLT, Int.reduceToNat, Int.reduceNeg, Nat.reduceLT, Int.reduceEq, Int.reduceSub, Int.reduceAdd, Int.reduceMul, Nat.reducePow, Int.reduceBEq, Int.reduceBNe, Int.reduceMod, ht, hw, E_35, A35, List.length_map, List.length_reverse, lp]
end Go.Proofs.Yteellikeoiedbaa

/- The engine, part 32: a call without free variables, evaluated with fuel. -/
namespace Go.Zv
set_option autoImplicit false
theorem pc_of_run {E : FuncId → Option AFn} (n : Nat) {f : FuncId} {args : List LV} {v : LV} (h : pureCall (run E n) f args = some v) : pc E f args = some v :=
  (nice_pure f args).mono (fun _ _ h => Run_iff.2 ⟨n, h⟩) h
end Go.Zv

namespace Go.Proofs.Yteellikeoiedbaa
set_option maxRecDepth 100000
set_option maxHeartbeats 4000000
set_option linter.unusedSimpArgs false
set_option linter.unusedVariables false
open Go Go.Zv
theorem c31 : pc E 31 [] = some (.bool true) := by
  refine pc_of_run 1000 ?_
  kernel_rfl
end Go.Proofs.Yteellikeoiedbaa

namespace Go.Proofs.Yteellikeoiedbaa
set_option maxRecDepth 100000
set_option maxHeartbeats 4000000
set_option linter.unusedSimpArgs false
set_option linter.unusedVariables false
open Go Go.Zv
open Go.Geo
theorem w64_rng (x : Int) : -9223372036854775808 ≤ w64 x ∧ w64 x ≤ 9223372036854775807 := by
  simp only [w64, IntKind.wrap, IntKind.signed, IntKind.bits]; simp; omega
theorem tk (l : List Pt) : List.take l.length (l.map c2) = l.map c2 := List.take_of_length_le (by simp)
theorem val_rev {p : List Pt} (h : valB p = true) : valB p.reverse = false := by
  have hv := val_iff.1 h
  have ha := hv.area
  have hr : areaW p ≤ 9223372036854775807 := by rw [areaW_sum]; exact (w64_rng _).2
  have e : areaW p.reverse = -areaW p := by rw [areaW_rev, w64]; exact wrap_small (by omega) (by omega)
  unfold valB
  have : ¬ 0 < areaW p.reverse := by omega
  simp [this]
theorem law9 (p : List Pt) (r : Nat) (hr : r ≤ 255) (x y : Int) : pc E 9 [.vs (p.map c2), .int .u8 r, .agg [.int .i64 x, .int .i64 y]] = some (.bool true) := by
  have f := c32 p
  cases hf : fitB p with
  | false => rw [hf] at f; rw [pc_eq]; simp +contextual -implicitDefEqProofs (maxSteps := 2000000) only [go_sem, ↓reduceIte, Nat.reduceAdd, Nat.reduceMul, Nat.reduceSub, Nat.reduceEqDiff, Nat.reduceLeDiff, Nat.reduceDiv, Nat.reduceMod, Nat.reduceBEq, Nat.reduceBNe, reduceCtorEq, Int.reduceLE, Int.reduceLT, Int.reduceToNat, Int.reduceNeg, Nat.reduceLT, Int.reduceEq, Int.reduceSub, Int.reduceAdd, Int.reduceMul, Nat.reducePow, Int.reduceBEq, Int.reduceBNe, Int.reduceMod, E_9, A9, c31, f]
  | true =>
    rw [hf] at f
    by_cases h0 : p = []
    · subst h0
      simp only [List.map_nil] at f ⊢
      rw [pc_eq]; simp +contextual -implicitDefEqProofs (maxSteps := 2000000) only [go_sem, ↓reduceIte, Nat.reduceAdd, Nat.reduceMul, Nat.reduceSub, Nat.reduceEqDiff, Nat.reduceLeDiff, Nat.reduceDiv, Nat.reduceMod, Nat.reduceBEq, Nat.reduceBNe, reduceCtorEq, Int.reduceLE, Int.reduceLT, Int.reduceToNat, Int.reduceNeg, Nat.reduceLT, Int.reduceEq, Int.reduceSub, Int.reduceAdd, Int.reduceMul, Nat.reducePow, Int.reduceBEq, Int.reduceBNe, Int.reduceMod, E_9, A9, c31, f, List.length_nil, Int.ofNat_zero, Int.natCast_zero]
    · have hl : p.length ≤ 12 := by simp only [fitB, Bool.and_eq_true, decide_eq_true_eq] at hf; exact hf.1
      have hn : ¬ (p.length : Int) = 0 := by
        have := List.length_pos_iff.2 h0; omega
      have hn' : ((p.length : Int) == 0) = false := by simpa using hn
      have m := c33 x y
      cases hm : mayB (x, y) with
      | false => rw [hm] at m; rw [pc_eq]; simp +contextual -implicitDefEqProofs (maxSteps := 2000000) only [go_sem, ↓reduceIte, Nat.reduceAdd, Nat.reduceMul, Nat.reduceSub, Nat.reduceEqDiff, Nat.reduceLeDiff, Nat.reduceDiv, Nat.reduceMod, Nat.reduceBEq, Nat.reduceBNe, reduceCtorEq, Int.reduceLE, Int.reduceLT, Int.reduceToNat, Int.reduceNeg, Nat.reduceLT, Int.reduceEq, Int.reduceSub, Int.reduceAdd, Int.reduceMul, Nat.reducePow, Int.reduceBEq, Int.reduceBNe, Int.reduceMod, E_9, A9, c31, f, m, hn, hn', List.length_map]
      | true =>
        rw [hm] at m
        have a1 := c34 p (by omega) r hr
        have a2 := c35 p (by omega)
        have b1 := c36 (rotL r p) (by rw [rotL_len]; omega)
        have b2 := c36 p (by omega)
        have b3 := c36 p.reverse (by rw [List.length_reverse]; omega)
        have d1 := c37 (rotL r p) (by rw [rotL_len]; omega)
        have d2 := c37 p (by omega)
        have d3 := c37 p.reverse (by rw [List.length_reverse]; omega)
        have l1 := c28 (rotL r p) (by rw [rotL_len]; omega) x y
        have l2 := c28 p (by omega) x y
        rw [valB_rot] at b1
        rw [areaW_rot] at d1
        rw [areaW_rev] at d3
        rw [locI_rot] at l1
        cases hv : valB p with
        | true =>
          rw [val_rev hv] at b3
          rw [hv] at b1 b2
          rw [pc_eq]; simp +contextual -implicitDefEqProofs (maxSteps := 2000000) only [go_sem, ↓reduceIte, Nat.reduceAdd, Nat.reduceMul, Nat.reduceSub, Nat.reduceEqDiff, Nat.reduceLeDiff, Nat.reduceDiv, Nat.reduceMod, Nat.reduceBEq, Nat.reduceBNe, reduceCtorEq, Int.reduceLE, Int.reduceLT, Int.reduceToNat, Int.reduceNeg, Nat.reduceLT, Int.reduceEq, Int.reduceSub, Int.reduceAdd, Int.reduceMul, Nat.reducePow, Int.reduceBEq, Int.reduceBNe, Int.reduceMod, E_9, A9, c31, f, m, hn, hn', List.length_map, a1, a2, b1, b2, b3, d1, d2, d3, l1, l2, w64, bne_self_eq_false, beq_self_eq_true, tk, Int.zero_sub]
        | false =>
          rw [hv] at b1 b2
          rw [pc_eq]; simp +contextual -implicitDefEqProofs (maxSteps := 2000000) only [go_sem, ↓reduceIte, Nat.reduceAdd, Nat.reduceMul, Nat.reduceSub, Nat.reduceEqDiff, Nat.reduceLeDiff, Nat.reduceDiv, Nat.reduceMod, Nat.reduceBEq, Nat.reduceBNe, reduceCtorEq, Int.reduceLE, Int.reduceLT, Int.reduceToNat, Int.reduceNeg, Nat.reduceLT, Int.reduceEq, Int.reduceSub, Int.reduceAdd, Int.reduceMul, Nat.reducePow, Int.reduceBEq, Int.reduceBNe, Int.reduceMod, E_9, A9, c31, f, m, hn, hn', List.length_map, a1, a2, b1, b2, b3, d1, d2, d3, l1, l2, w64, bne_self_eq_false, beq_self_eq_true, tk, Int.zero_sub]
end Go.Proofs.Yteellikeoiedbaa

namespace Go.Geo
set_option maxRecDepth 100000
set_option maxHeartbeats 4000000
set_option linter.unusedSimpArgs false
set_option linter.unusedVariables false
open Go Go.Zv
/-! rigid motions of the plane -/
structure Mot where
  c : Rat
  s : Rat
  x : Rat
  y : Rat
  h : c * c + s * s = 1
def Mot.lin (M : Mot) (v : Q2) : Q2 := (M.c * v.1 - M.s * v.2, M.s * v.1 + M.c * v.2)
def Mot.app (M : Mot) (v : Q2) : Q2 := (M.c * v.1 - M.s * v.2 + M.x, M.s * v.1 + M.c * v.2 + M.y)
def Mot.back (M : Mot) (v : Q2) : Q2 := (M.c * (v.1 - M.x) + M.s * (v.2 - M.y), M.c * (v.2 - M.y) - M.s * (v.1 - M.x))
section
variable (M : Mot)
theorem Mot.app_back (z : Q2) : M.app (M.back z) = z := by
  have := M.h
  refine Prod.ext ?_ ?_ <;> simp only [Mot.app, Mot.back] <;> grind
theorem Mot.sq_app (a b : Q2) : sq (M.app a) (M.app b) = M.lin (sq a b) := by
  refine Prod.ext ?_ ?_ <;> simp only [Mot.app, Mot.lin, sq] <;> grind
theorem Mot.xq_lin (u v : Q2) : xq (M.lin u) (M.lin v) = xq u v := by
  have := M.h
  unfold xq Mot.lin; simp only
  have e : (M.c * u.1 - M.s * u.2) * (M.s * v.1 + M.c * v.2) - (M.s * u.1 + M.c * u.2) * (M.c * v.1 - M.s * v.2) = (M.c * M.c + M.s * M.s) * (u.1 * v.2 - u.2 * v.1) := by grind
  rw [e, this]; grind
theorem Mot.dq_lin (u v : Q2) : dq (M.lin u) (M.lin v) = dq u v := by
  have := M.h
  unfold dq Mot.lin; simp only
  have e : (M.c * u.1 - M.s * u.2) * (M.c * v.1 - M.s * v.2) + (M.s * u.1 + M.c * u.2) * (M.s * v.1 + M.c * v.2) = (M.c * M.c + M.s * M.s) * (u.1 * v.1 + u.2 * v.2) := by grind
  rw [e, this]; grind
theorem Mot.hit_lin (d u v : Q2) : hit (M.lin d) (M.lin u) (M.lin v) = hit d u v := by
  unfold hit; simp only [Mot.xq_lin]
theorem Mot.on_app (z a b : Q2) : OnE (M.app z) (M.app a, M.app b) ↔ OnE z (a, b) := by
  unfold OnE OnV; simp only [Mot.sq_app, Mot.xq_lin, Mot.dq_lin]
theorem Mot.meets_app (a b c d : Q2) : Meets (M.app a) (M.app b) (M.app c) (M.app d) ↔ Meets a b c d := by
  constructor
  · rintro ⟨z, h1, h2⟩
    rw [← M.app_back z, M.on_app] at h1 h2
    exact ⟨_, h1, h2⟩
  · rintro ⟨z, h1, h2⟩
    exact ⟨M.app z, (M.on_app ..).2 h1, (M.on_app ..).2 h2⟩
theorem Mot.lin_ne {d : Q2} (h : d ≠ (0, 0)) : M.lin d ≠ (0, 0) := by
  intro e
  have h1 := dq_pos h
  rw [← M.dq_lin, e] at h1
  unfold dq at h1; grind
end
theorem ptn_map {l : List Pt} (f : Pt → Pt) (h : 0 < l.length) (k : Nat) : ptn (l.map f) k = f (ptn l k) := by
  have h1 := ptn_mod (l := l.map f) (k := k) (by simpa using h)
  rw [List.length_map, List.getElem?_map, ptn_mod h] at h1
  simpa using h1.symm
theorem eds_map (f : Pt → Pt) (l : List Pt) : eds (l.map f) = (eds l).map fun e => (f e.1, f e.2) := by
  by_cases h : 0 < l.length
  · rw [eds_range, eds_range, List.length_map, List.map_map]
    refine List.map_congr_left fun k _ => ?_
    simp only [Function.comp_apply, edn, ptn_map f h]
  · have : l = [] := List.length_eq_zero_iff.1 (by omega)
    subst this; rfl
theorem tel_r (g : Nat → Rat) (n : Nat) : ((List.range n).map fun k => g (k + 1) - g k).sum = g n - g 0 := by
  induction n with
  | zero => simp only [List.range_zero, List.map_nil, List.sum_nil]; grind
  | succ n ih =>
    rw [List.range_succ, List.map_append, List.sum_append, ih]
    simp only [List.map_cons, List.map_nil, List.sum_cons, List.sum_nil]; grind
theorem eds_tel_r (l : List Pt) (g : Pt → Rat) : ((eds l).map fun e => g e.2 - g e.1).sum = 0 := by
  rw [eds_range, List.map_map]
  have := tel_r (fun k => g (ptn l k)) l.length
  have e : ptn l l.length = ptn l 0 := by have := ptn_per l 0; rwa [Nat.zero_add] at this
  rw [e] at this
  have e2 : g (ptn l 0) - g (ptn l 0) = 0 := by grind
  rw [e2] at this
  exact this
theorem eds_mem {l : List Pt} {e : Pt × Pt} (h : e ∈ eds l) : e.1 ∈ l ∧ e.2 ∈ l := by
  obtain ⟨i, hi⟩ := List.getElem?_of_mem h
  obtain ⟨h1, h2, h3⟩ := eds_get hi
  exact ⟨List.mem_of_getElem? h2, List.mem_of_getElem? h3⟩
theorem dE_xq (e : Pt × Pt) : ((dE e : Int) : Rat) = xq (qp e.1) (qp e.2) := by
  unfold dE xq qp; rw [Rat.intCast_sub, Rat.intCast_mul, Rat.intCast_mul]
theorem any_congr2 {α : Type} {l : List α} {f g : α → Bool} (h : ∀ x ∈ l, f x = g x) : l.any f = l.any g := by
  rw [Bool.eq_iff_iff, List.any_eq_true, List.any_eq_true]
  exact ⟨fun ⟨x, hx, hp⟩ => ⟨x, hx, by rw [← h x hx]; exact hp⟩, fun ⟨x, hx, hp⟩ => ⟨x, hx, by rw [h x hx]; exact hp⟩⟩
/-- moved: the corners and one more point -/
structure Moved (M : Mot) (f : Pt → Pt) (l : List Pt) : Prop where
  may : l.all mayB = true
  may' : (l.map f).all mayB = true
  mv : ∀ p ∈ l, qp (f p) = M.app (qp p)
section
variable {M : Mot} {f : Pt → Pt} {l : List Pt}
theorem Moved.area (h : Moved M f l) : ((eds (l.map f)).map dE).sum = ((eds l).map dE).sum := by
  rw [← Rat.intCast_inj, sum_cast, sum_cast, eds_map, List.map_map, List.map_map, List.map_map]
  have h0 := eds_tel_r l (fun p => xq (M.x, M.y) (M.lin (qp p)))
  have : ((eds l).map (((fun x : Int => (x : Rat)) ∘ dE) ∘ fun e => (f e.1, f e.2))) = (eds l).map fun e => ((dE e : Int) : Rat) + (xq (M.x, M.y) (M.lin (qp e.2)) - xq (M.x, M.y) (M.lin (qp e.1))) := by
    refine List.map_congr_left fun e he => ?_
    obtain ⟨h1, h2⟩ := eds_mem he
    simp only [Function.comp_apply]
    rw [dE_xq, dE_xq]
    simp only
    rw [h.mv _ h1, h.mv _ h2, ← M.xq_lin (qp e.1)]
    unfold xq Mot.app Mot.lin; simp only; grind
  rw [this]
  have add : ∀ (m : List (Pt × Pt)) (u v : Pt × Pt → Rat), (m.map fun e => u e + v e).sum = (m.map u).sum + (m.map v).sum := by
    intro m u v
    induction m with
    | nil => simp only [List.map_nil, List.sum_nil]; grind
    | cons e m ih => simp only [List.map_cons, List.sum_cons, ih]; grind
  rw [add, h0]
  have : ((eds l).map ((fun x : Int => (x : Rat)) ∘ dE)) = (eds l).map fun e => ((dE e : Int) : Rat) := rfl
  rw [this]; grind
theorem Moved.pt (h : Moved M f l) (h0 : 0 < l.length) (k : Nat) : qp (ptn (l.map f) k) = M.app (qp (ptn l k)) := by
  rw [ptn_map f h0, h.mv _ (ptn_mem k h0)]
theorem Moved.len (_h : Moved M f l) : (l.map f).length = l.length := List.length_map ..
theorem Moved.sim (h : Moved M f l) : simB (l.map f) = simB l := by
  by_cases h0 : 0 < l.length
  · have hb := ptn_B h.may h0
    have hb' := ptn_B h.may' (by rw [h.len]; exact h0)
    have hori : ∀ i, decide (oriE (ptn (l.map f) i) (ptn (l.map f) (i + 1)) (ptn (l.map f) (i + 2)) = 0) = decide (oriE (ptn l i) (ptn l (i + 1)) (ptn l (i + 2)) = 0) := fun i => by
      unfold oriE
      rw [crW_B (hb i).1 (hb i).2 (hb (i + 1)).1 (hb (i + 1)).2 (hb (i + 2)).1 (hb (i + 2)).2, crW_B (hb' i).1 (hb' i).2 (hb' (i + 1)).1 (hb' (i + 1)).2 (hb' (i + 2)).1 (hb' (i + 2)).2]
      have e : cr (ptn (l.map f) i).1 (ptn (l.map f) i).2 (ptn (l.map f) (i + 1)).1 (ptn (l.map f) (i + 1)).2 (ptn (l.map f) (i + 2)).1 (ptn (l.map f) (i + 2)).2 = cr (ptn l i).1 (ptn l i).2 (ptn l (i + 1)).1 (ptn l (i + 1)).2 (ptn l (i + 2)).1 (ptn l (i + 2)).2 := by
        rw [← Rat.intCast_inj, ← xq_int, ← xq_int, h.pt h0, h.pt h0, h.pt h0, M.sq_app, M.sq_app, M.xq_lin]
      rw [e]
    have hcut : ∀ i k, cutE (edn (l.map f) i) (edn (l.map f) k) = cutE (edn l i) (edn l k) := fun i k => by
      unfold edn
      rw [Bool.eq_iff_iff, cut_meets (hb' _) (hb' _) (hb' _) (hb' _), cut_meets (hb _) (hb _) (hb _) (hb _), h.pt h0, h.pt h0, h.pt h0, h.pt h0, M.meets_app]
    have h2 : ∀ i, bad2 (l.map f) i = bad2 l i := fun i => funext fun k => by unfold bad2; rw [h.len, hcut]
    have h1 : bad1 (l.map f) = bad1 l := funext fun i => by unfold bad1; rw [hori, h2, h.len]
    unfold simB
    rw [h1, h.len]
  · have : l = [] := List.length_eq_zero_iff.1 (by omega)
    subst this; rfl
theorem Moved.areaW (h : Moved M f l) (h12 : l.length ≤ 12) : areaW (l.map f) = areaW l := by
  rw [areaW_val (by rw [h.len]; exact h12) h.may', areaW_val h12 h.may, h.area]
theorem Moved.val (h : Moved M f l) : valB (l.map f) = valB l := by
  unfold valB
  rw [h.len, h.may, h.may', h.sim]
  by_cases h12 : l.length ≤ 12
  · rw [h.areaW h12]
  · simp [h12]
theorem Moved.loc (h : Moved M f l) {p : Pt} (hp : B2 p) (hp' : B2 (f p)) (hm : qp (f p) = M.app (qp p)) : locI (l.map f) (f p) = locI l p := by
  have hbe : ∀ e ∈ eds l, (B2 e.1 ∧ B2 e.2) ∧ B2 (f e.1) ∧ B2 (f e.2) := fun e he => by
    obtain ⟨h1, h2⟩ := eds_mem he
    refine ⟨⟨mayB_B2 (List.all_eq_true.1 h.may _ h1), mayB_B2 (List.all_eq_true.1 h.may _ h2)⟩, mayB_B2 (List.all_eq_true.1 h.may' _ ?_), mayB_B2 (List.all_eq_true.1 h.may' _ ?_)⟩
    · exact List.mem_map.2 ⟨_, h1, rfl⟩
    · exact List.mem_map.2 ⟨_, h2, rfl⟩
  have hqe : ∀ e ∈ eds l, qe (f e.1, f e.2) = (M.app (qp e.1), M.app (qp e.2)) := fun e he => by
    obtain ⟨h1, h2⟩ := eds_mem he
    unfold qe; simp only; rw [h.mv _ h1, h.mv _ h2]
  have hon : ∀ e ∈ eds l, onE (f p) (f e.1, f e.2) = onE p e := fun e he => by
    obtain ⟨⟨b1, b2⟩, b3, b4⟩ := hbe e he
    rw [Bool.eq_iff_iff, onE_meets hp' b3 b4, onE_meets hp b1 b2, hqe e he, hm, M.on_app]
    rfl
  rw [locI_wn h.may' hp', locI_wn h.may hp]
  have e1 : (eds (l.map f)).any (onE (f p)) = (eds l).any (onE p) := by
    rw [eds_map, List.any_map]
    exact any_congr2 fun e he => hon e he
  rw [e1]
  by_cases ho : (eds l).any (onE p) = true
  · rw [if_pos ho, if_pos ho]
  · rw [if_neg ho, if_neg ho]
    have hoff : ∀ e ∈ eds l, ¬ OnE (qp p) (qe e) := fun e he hx => ho (by
      rw [List.any_eq_true]
      exact ⟨e, he, (onE_meets hp (hbe e he).1.1 (hbe e he).1.2).2 hx⟩)
    have e2 : wn (1, 0) (qp (f p)) ((eds (l.map f)).map qe) = wn (1, 0) (qp p) ((eds l).map qe) := by
      have hd : ∃ d : Q2, M.lin d = (1, 0) := ⟨(M.c, -M.s), by
        have := M.h
        refine Prod.ext ?_ ?_ <;> simp only [Mot.lin] <;> grind⟩
      obtain ⟨d, hd⟩ := hd
      have hdn : d ≠ (0, 0) := fun e => by
        rw [e] at hd
        refine d10 ?_
        rw [← hd]
        refine Prod.ext ?_ ?_ <;> simp only [Mot.lin] <;> grind
      have hp0 : Path (pqf l 0) (pqf l 0) ((eds l).map qe) := by
        have := chn_path (pqf l) 0 l.length
        rw [← eds_chn, Nat.zero_add] at this
        have e : pqf l l.length = pqf l 0 := by unfold pqf; rw [show l.length = 0 + l.length by omega, ptn_per]
        rw [e] at this
        exact this
      rw [wn_dir hp0 d10 hdn (fun g hg => by
        obtain ⟨e, he, rfl⟩ := List.mem_map.1 hg
        exact hoff e he)]
      rw [← hd, hm, eds_map]
      unfold wn
      rw [List.map_map, List.map_map, List.map_map]
      congr 1
      refine List.map_congr_left fun e he => ?_
      simp only [Function.comp_apply]
      rw [hqe e he]
      simp only
      rw [M.sq_app, M.sq_app, M.hit_lin]; rfl
    rw [e2]
end
end Go.Geo

namespace Go.Geo
set_option maxRecDepth 100000
set_option maxHeartbeats 4000000
set_option linter.unusedSimpArgs false
set_option linter.unusedVariables false
open Go Go.Zv
theorem eds_path (l : List Pt) : Path (pqf l 0) (pqf l 0) ((eds l).map qe) := by
  have := chn_path (pqf l) 0 l.length
  rw [← eds_chn, Nat.zero_add] at this
  have e : pqf l l.length = pqf l 0 := by unfold pqf; rw [show l.length = 0 + l.length by omega, ptn_per]
  rw [e] at this
  exact this
theorem eds_B {l : List Pt} (hm : l.all mayB = true) {e : Pt × Pt} (he : e ∈ eds l) : B2 e.1 ∧ B2 e.2 := by
  obtain ⟨h1, h2⟩ := eds_mem he
  exact ⟨mayB_B2 (List.all_eq_true.1 hm _ h1), mayB_B2 (List.all_eq_true.1 hm _ h2)⟩
/-- off the boundary -/
theorem off_iff {l : List Pt} {p : Pt} (hm : l.all mayB = true) (hp : B2 p) : (eds l).any (onE p) = false ↔ ∀ e ∈ eds l, ¬ OnE (qp p) (qe e) := by
  rw [List.any_eq_false]
  constructor
  · intro h e he ho
    exact h e he ((onE_meets hp (eds_B hm he).1 (eds_B hm he).2).2 ho)
  · intro h e he ho
    exact h e he ((onE_meets hp (eds_B hm he).1 (eds_B hm he).2).1 ho)
theorem loc_corner {l : List Pt} (hm : l.all mayB = true) {k : Nat} (hk : k < l.length) : locI l (ptn l k) = 0 := by
  have hp := ptn_B hm (show 0 < l.length by omega) k
  rw [locI_wn hm hp]
  rw [if_pos]
  rw [List.any_eq_true]
  refine ⟨edn l k, List.mem_of_getElem? (edn_get hk), ?_⟩
  rw [onE_meets hp (ptn_B hm (by omega) k) (ptn_B hm (by omega) (k + 1))]
  exact on_left _ _
/-- all corners to one side of a line through the point: outside -/
theorem loc_side {l : List Pt} (hm : l.all mayB = true) {p : Pt} (hp : B2 p) {d : Q2} (hd : d ≠ (0, 0)) (h : ∀ q ∈ l, xq d (sq (qp q) (qp p)) < 0) : locI l p = -1 := by
  have hoff : ∀ e ∈ eds l, ¬ OnE (qp p) (qe e) := fun e he ho => by
    obtain ⟨h1, h2⟩ := eds_mem he
    obtain ⟨s, s0, s1, hs⟩ := on_param ho
    have k1 := h _ h1
    have k2 := h _ h2
    have e0 : (1 - s) * xq d (sq (qp e.1) (qp p)) + s * xq d (sq (qp e.2) (qp p)) = 0 := by
      have hz : xq d (sq (qp p) (qp p)) = 0 := by unfold xq sq; grind
      conv at hz => lhs; arg 2; arg 1; rw [hs]
      rw [← hz]; unfold xq sq onp; grind
    by_cases hs0 : s = 0
    · rw [hs0] at e0; grind
    · have m1 := Rat.mul_nonneg (show 0 ≤ 1 - s by grind) (show 0 ≤ -xq d (sq (qp e.1) (qp p)) by grind)
      have m2 := Rat.mul_pos (show 0 < s by grind) (show 0 < -xq d (sq (qp e.2) (qp p)) by grind)
      grind
  have ho := (off_iff hm hp).2 hoff
  rw [locI_wn hm hp, ho, wn_dir (eds_path l) d10 hd (fun g hg => by
    obtain ⟨e, he, rfl⟩ := List.mem_map.1 hg
    exact hoff e he), wn_none_left fun g hg => by
    obtain ⟨e, he, rfl⟩ := List.mem_map.1 hg
    obtain ⟨h1, h2⟩ := eds_mem he
    have k1 := h _ h1
    have k2 := h _ h2
    unfold qe; simp only
    constructor <;> grind]
  simp
theorem loc_side' {l : List Pt} (hm : l.all mayB = true) {p : Pt} (hp : B2 p) {d : Q2} (hd : d ≠ (0, 0)) (h : ∀ q ∈ l, 0 < xq d (sq (qp q) (qp p))) : locI l p = -1 := by
  refine loc_side hm hp (d := (-d.1, -d.2)) (fun e => hd ?_) fun q hq => ?_
  · simp only [Prod.mk.injEq] at e
    refine Prod.ext ?_ ?_ <;> simp only <;> grind
  · have := h q hq
    have e : xq (-d.1, -d.2) (sq (qp q) (qp p)) = -xq d (sq (qp q) (qp p)) := by unfold xq; grind
    rw [e]; grind
/-- a segment that meets no edge: both ends alike -/
theorem loc_walk {l : List Pt} (hm : l.all mayB = true) {p q : Pt} (hp : B2 p) (hq : B2 q) (h : ∀ e ∈ eds l, cutE e (p, q) = false) : locI l p = locI l q ∧ locI l p ≠ 0 := by
  have hM : ∀ e ∈ eds l, ¬ Meets (qp e.1) (qp e.2) (qp p) (qp q) := fun e he hx => by
    have := (cut_meets (eds_B hm he).1 (eds_B hm he).2 hp hq).2 hx
    have h2 := h e he
    rw [show e = (e.1, e.2) from rfl, this] at h2
    cases h2
  have h1 : ∀ e ∈ eds l, ¬ OnE (qp p) (qe e) := fun e he ho => hM e he ⟨qp p, ho, on_left _ _⟩
  have h2 : ∀ e ∈ eds l, ¬ OnE (qp q) (qe e) := fun e he ho => hM e he ⟨qp q, ho, on_right _ _⟩
  have hw : wn (1, 0) (qp p) ((eds l).map qe) = wn (1, 0) (qp q) ((eds l).map qe) := wn_walk (eds_path l) d10 fun g hg => by
    obtain ⟨e, he, rfl⟩ := List.mem_map.1 hg
    exact hM e he
  rw [locI_wn hm hp, locI_wn hm hq, (off_iff hm hp).2 h1, (off_iff hm hq).2 h2, hw]
  refine ⟨rfl, ?_⟩
  simp only [Bool.false_eq_true, if_false]
  split <;> decide
end Go.Geo

namespace Go.Geo
set_option maxRecDepth 100000
set_option maxHeartbeats 4000000
set_option linter.unusedSimpArgs false
set_option linter.unusedVariables false
open Go Go.Zv
/-! a polygon cut in two -/
section
variable {a : List Pt} {k : Nat}
def cut1 (a : List Pt) (k : Nat) : List Pt := a.take (k + 1)
def cut2 (a : List Pt) (k : Nat) : List Pt := ptn a 0 :: a.drop k
theorem cut1_len (hk : k + 1 ≤ a.length) : (cut1 a k).length = k + 1 := by unfold cut1; rw [List.length_take]; omega
theorem cut2_len (hk : k ≤ a.length) : (cut2 a k).length = a.length - k + 1 := by unfold cut2; rw [List.length_cons, List.length_drop]
theorem ptn_eq_of {l m : List Pt} {i j : Nat} (hi : i < l.length) (hj : j < m.length) (h : l[i]? = m[j]?) : ptn l i = ptn m j := by
  rw [ptn_get hi, ptn_get hj] at h; simpa using h
theorem cut1_ptn (hk : k + 1 ≤ a.length) {j : Nat} (hj : j ≤ k) : ptn (cut1 a k) j = ptn a j :=
  ptn_eq_of (by rw [cut1_len hk]; omega) (by omega) (by unfold cut1; rw [List.getElem?_take, if_pos (by omega)])
theorem cut1_ptn' (hk : k + 1 ≤ a.length) : ptn (cut1 a k) (k + 1) = ptn a 0 := by
  have := ptn_per (cut1 a k) 0
  rw [cut1_len hk, Nat.zero_add] at this
  rw [this, cut1_ptn hk (by omega)]
theorem cut2_ptn0 (hk : k < a.length) : ptn (cut2 a k) 0 = ptn a 0 := by
  have h1 := ptn_get (l := cut2 a k) (k := 0) (by rw [cut2_len (by omega)]; omega)
  unfold cut2 at h1 ⊢
  simpa using h1.symm
theorem cut2_ptn (hk : k < a.length) {j : Nat} (hj : k + j < a.length) : ptn (cut2 a k) (j + 1) = ptn a (k + j) :=
  ptn_eq_of (by rw [cut2_len (by omega)]; omega) hj (by unfold cut2; rw [List.getElem?_cons_succ, List.getElem?_drop])
theorem cut2_ptn' (hk : k < a.length) : ptn (cut2 a k) (a.length - k + 1) = ptn a 0 := by
  have := ptn_per (cut2 a k) 0
  rw [cut2_len (by omega), Nat.zero_add] at this
  rw [this, cut2_ptn0 hk]
theorem ptn_n (a : List Pt) : ptn a a.length = ptn a 0 := by have := ptn_per a 0; rwa [Nat.zero_add] at this
theorem eds_cut1 (hk : k + 1 ≤ a.length) : eds (cut1 a k) = (List.range k).map (edn a) ++ [(ptn a k, ptn a 0)] := by
  rw [eds_range, cut1_len hk, List.range_succ, List.map_append]
  congr 1
  · refine List.map_congr_left fun j hj => ?_
    have := List.mem_range.1 hj
    unfold edn; rw [cut1_ptn hk (by omega), cut1_ptn hk (by omega)]
  · simp only [List.map_cons, List.map_nil, edn]; rw [cut1_ptn hk (by omega), cut1_ptn' hk]
theorem eds_cut2 (hk : k < a.length) : eds (cut2 a k) = (ptn a 0, ptn a k) :: (List.range (a.length - k)).map (fun j => edn a (k + j)) := by
  rw [eds_range, cut2_len (by omega), List.range_succ_eq_map, List.map_cons, List.map_map]
  congr 1
  · unfold edn; rw [cut2_ptn0 hk]
    have := cut2_ptn hk (j := 0) (by omega)
    rw [this]; rfl
  · refine List.map_congr_left fun j hj => ?_
    have hj := List.mem_range.1 hj
    simp only [Function.comp_apply, edn]
    rw [show j.succ = j + 1 from rfl, cut2_ptn hk (by omega)]
    by_cases e : k + (j + 1) < a.length
    · rw [cut2_ptn hk (j := j + 1) e]; rfl
    · rw [show j + 1 + 1 = a.length - k + 1 by omega, cut2_ptn' hk, show k + j + 1 = a.length by omega, ptn_n]
theorem eds_cut (hk : k ≤ a.length) : eds a = (List.range k).map (edn a) ++ (List.range (a.length - k)).map (fun j => edn a (k + j)) := by
  rw [eds_range]
  conv => lhs; rw [show a.length = k + (a.length - k) by omega]
  rw [List.range_add, List.map_append, List.map_map]; rfl
/-- what counts an edge and its opposite to nothing -/
theorem cut_sum (hk : k + 1 ≤ a.length) (F : Pt × Pt → Int) (hF : ∀ p q, F (q, p) = -F (p, q)) : ((eds (cut1 a k)).map F).sum + ((eds (cut2 a k)).map F).sum = ((eds a).map F).sum := by
  rw [eds_cut1 hk, eds_cut2 (by omega), eds_cut (k := k) (by omega)]
  simp only [List.map_append, List.sum_append, List.map_cons, List.sum_cons, List.map_nil, List.sum_nil]
  rw [hF (ptn a 0) (ptn a k)]
  omega
theorem cut_area (hk : k + 1 ≤ a.length) : w64 (areaW (cut1 a k) + areaW (cut2 a k)) = areaW a := by
  rw [areaW_sum, areaW_sum, areaW_sum, w64_add, w64_add', cut_sum hk dE (fun p q => by unfold dE; simp only; grind)]
theorem cut_wn (hk : k + 1 ≤ a.length) (d x : Q2) : wn d x ((eds (cut1 a k)).map qe) + wn d x ((eds (cut2 a k)).map qe) = wn d x ((eds a).map qe) := by
  unfold wn
  rw [List.map_map, List.map_map, List.map_map]
  exact cut_sum hk _ (fun p q => by simp only [Function.comp_apply, qe]; exact hit_neg ..)
theorem wn_rev {d x : Q2} {l : List Pt} (h : Val l) {i : Nat} {s : Rat} (s0 : 0 < s) (s1 : s < 1) (hx : x = onp (pqf l i) (pqf l (i + 1)) s) (hd : d = sq (pqf l i) (pqf l (i + 1))) : wn d x ((eds l).map qe) = 0 := by
  have hs := simp_of h.n3 h.may h.sim
  have hL := Lc_val h
  rw [eds_chn, ← wn_base hs d x i, split1 hs i, wn_cons]
  have hg := f_ne hs i
  have hdg : d = (-(sq (pqf l (i + 1)) (pqf l i)).1, -(sq (pqf l (i + 1)) (pqf l i)).2) := by
    rw [hd]; refine Prod.ext ?_ ?_ <;> simp only [sq] <;> grind
  have e1 : hit d (sq (edg (pqf l) i).1 x) (sq (edg (pqf l) i).2 x) = 0 := by
    simp only [edg]
    have k1 : xq d (sq (pqf l i) x) = 0 := by rw [hx, hd]; unfold xq sq onp; grind
    have k2 : xq d (sq (pqf l (i + 1)) x) = 0 := by rw [hx, hd]; unfold xq sq onp; grind
    have z0 : ¬ (0 : Rat) < 0 := by grind
    unfold hit; rw [k1, k2]; simp only [z0, if_false]
  rw [e1]
  -- a direction to the right of the edge
  have hr : 0 < xq ((sq (pqf l (i + 1)) (pqf l i)).2, -(sq (pqf l (i + 1)) (pqf l i)).1) (sq (pqf l (i + 1)) (pqf l i)) := by
    have := dq_pos hg
    unfold dq at this; unfold xq; grind
  have hN := N_right hs s0 s1 hx hr
  have hdr : 0 < xq d ((sq (pqf l (i + 1)) (pqf l i)).2, -(sq (pqf l (i + 1)) (pqf l i)).1) := by
    have := dq_pos hg
    rw [hdg]
    unfold dq at this; unfold xq; grind
  have hon : OnE x (edg (pqf l) i) := by rw [hx]; exact on_of_param (by grind) (by grind)
  have k1 : xq (sq (pqf l (i + 1)) (pqf l i)) (sq x (pqf l i)) = 0 := by rw [hx]; unfold xq sq onp; grind
  have dd := dq_pos hg
  have j1 : dq (sq (pqf l (i + 1)) (pqf l i)) (sq x (pqf l i)) = s * dq (sq (pqf l (i + 1)) (pqf l i)) (sq (pqf l (i + 1)) (pqf l i)) := by rw [hx]; unfold dq sq onp; grind
  have j2 : dq (sq (pqf l (i + 1)) (pqf l i)) (sq (pqf l (i + 1)) x) = (1 - s) * dq (sq (pqf l (i + 1)) (pqf l i)) (sq (pqf l (i + 1)) (pqf l i)) := by rw [hx]; unfold dq sq onp; grind
  have x0 : x ≠ pqf l i := fun e => by
    rw [e, sq_self] at j1
    have := Rat.mul_pos s0 dd
    rw [← e] at j1
    have z : dq (sq (pqf l (i + 1)) x) (0, 0) = 0 := by unfold dq; grind
    rw [← e] at this
    grind
  have x1 : x ≠ pqf l (i + 1) := fun e => by
    rw [e, sq_self] at j2
    have := Rat.mul_pos (show 0 < 1 - s by grind) dd
    have z : dq (sq (pqf l (i + 1)) (pqf l i)) (0, 0) = 0 := by unfold dq; grind
    grind
  have hoff : ∀ g ∈ chn (pqf l) (i + 1) (l.length - 1), ¬ OnE x g := fun g hg => by
    obtain ⟨m, hm, rfl⟩ := mem_chn.1 hg
    exact inner_off hs hon x0 x1 m hm
  have hw := wn_wedge (N_path hs i) hdr hoff
  have z1 : xq d (sq (pqf l i) x) = 0 := by rw [hx, hd]; unfold xq sq onp; grind
  have z2 : xq d (sq (pqf l (i + 1)) x) = 0 := by rw [hx, hd]; unfold xq sq onp; grind
  have z0 : ¬ (0 : Rat) < 0 := by grind
  unfold Wd at hw
  rw [z1, z2] at hw
  simp only [z0, if_false] at hw
  rw [hN, hL] at hw
  omega
/-- on a half-open edge, in its direction -/
theorem wn_edge {x : Q2} {l : List Pt} (h : Val l) {i : Nat} {s : Rat} (s0 : 0 ≤ s) (s1 : s < 1) (hx : x = onp (pqf l i) (pqf l (i + 1)) s) : wn (sq (pqf l (i + 1)) (pqf l i)) x ((eds l).map qe) = 1 := by
  have hs := simp_of h.n3 h.may h.sim
  rw [eds_chn, ← wn_base hs _ x i, Lc_eq hs s0 s1 hx, Lc_const hs, Lc_val h]
end
end Go.Geo

namespace Go.Geo
set_option maxRecDepth 100000
set_option maxHeartbeats 4000000
set_option linter.unusedSimpArgs false
set_option linter.unusedVariables false
open Go Go.Zv
theorem loc3 {l : List Pt} (V : Val l) {x : Pt} (hx : B2 x) : ((∃ e ∈ eds l, OnE (qp x) (qe e)) ∧ locI l x = 0) ∨ ((∀ e ∈ eds l, ¬ OnE (qp x) (qe e)) ∧ (∀ d : Q2, d ≠ (0, 0) → wn d (qp x) ((eds l).map qe) = 1) ∧ locI l x = 1) ∨ ((∀ e ∈ eds l, ¬ OnE (qp x) (qe e)) ∧ (∀ d : Q2, d ≠ (0, 0) → wn d (qp x) ((eds l).map qe) = 0) ∧ locI l x = -1) := by
  have hl := locI_wn V.may hx
  cases ho : (eds l).any (onE x) with
  | true =>
    left
    rw [ho] at hl
    rw [List.any_eq_true] at ho
    obtain ⟨e, he, h⟩ := ho
    exact ⟨⟨e, he, (onE_meets hx (eds_B V.may he).1 (eds_B V.may he).2).1 h⟩, by simpa using hl⟩
  | false =>
    right
    have hoff := (off_iff V.may hx).1 ho
    rw [ho] at hl
    simp only [Bool.false_eq_true, if_false] at hl
    have hall : ∀ d : Q2, d ≠ (0, 0) → wn d (qp x) ((eds l).map qe) = wn (1, 0) (qp x) ((eds l).map qe) := fun d hd => wn_dir (eds_path l) hd d10 fun g hg => by
      obtain ⟨e, he, rfl⟩ := List.mem_map.1 hg
      exact hoff e he
    rcases wind_val V hoff d10 with h | h
    · right; refine ⟨hoff, fun d hd => by rw [hall d hd, h], ?_⟩
      rw [hl, h]; decide
    · left; refine ⟨hoff, fun d hd => by rw [hall d hd, h], ?_⟩
      rw [hl, h]; decide
theorem half_edge {l : List Pt} {x : Q2} (h : ∃ e ∈ eds l, OnE x (qe e)) : ∃ i s, i < l.length ∧ 0 ≤ s ∧ s < 1 ∧ x = onp (pqf l i) (pqf l (i + 1)) s := by
  obtain ⟨e, he, ho⟩ := h
  rw [eds_range, List.mem_map] at he
  obtain ⟨i, hi, rfl⟩ := he
  have hi := List.mem_range.1 hi
  obtain ⟨s, s0, s1, hs⟩ := on_param ho
  by_cases e : s = 1
  · refine ⟨(i + 1) % l.length, 0, Nat.mod_lt _ (by omega), by grind, by grind, ?_⟩
    rw [onp0, hs, e, onp1]
    unfold pqf
    rw [mod_of_per (ptn l) l.length (ptn_per l) (i + 1)]; rfl
  · exact ⟨i, s, hi, s0, by grind, hs⟩
theorem on_swap {x p q : Q2} (h : OnE x (p, q)) : OnE x (q, p) := by
  unfold OnE OnV at *
  simp only at *
  obtain ⟨h1, h2⟩ := h
  have e1 : xq (sq q x) (sq p x) = -xq (sq p x) (sq q x) := xq_swap _ _
  have e2 : dq (sq q x) (sq p x) = dq (sq p x) (sq q x) := by unfold dq; grind
  rw [e1, e2]; exact ⟨by grind, h2⟩
theorem edn_mem {l : List Pt} {i : Nat} (h : i < l.length) : edn l i ∈ eds l := List.mem_of_getElem? (edn_get h)
theorem on_at {l : List Pt} {i : Nat} {s : Rat} {x : Q2} (h : i < l.length) (s0 : 0 ≤ s) (s1 : s < 1) (hx : x = onp (pqf l i) (pqf l (i + 1)) s) : ∃ e ∈ eds l, OnE x (qe e) :=
  ⟨edn l i, edn_mem h, by rw [hx]; exact on_of_param s0 (by grind)⟩
theorem cut_loc {a : List Pt} {k : Nat} (V : Val a) (hk : 2 ≤ k) (hk2 : k + 2 ≤ a.length) (V1 : Val (cut1 a k)) (V2 : Val (cut2 a k)) {x : Pt} (hx : B2 x) :
    (locI (cut1 a k) x = 1 → locI (cut2 a k) x = -1) ∧ (locI (cut2 a k) x = 1 → locI (cut1 a k) x = -1) ∧ (0 ≤ locI a x ↔ 0 ≤ locI (cut1 a k) x ∨ 0 ≤ locI (cut2 a k) x) := by
  have L := loc3 V hx
  have L1 := loc3 V1 hx
  have L2 := loc3 V2 hx
  have hsum := fun d => cut_wn (a := a) (k := k) (by omega) d (qp x)
  have p1 : ∀ j, j ≤ k → pqf (cut1 a k) j = pqf a j := fun j hj => by unfold pqf; rw [cut1_ptn (by omega) hj]
  have p1' : pqf (cut1 a k) (k + 1) = pqf a 0 := by unfold pqf; rw [cut1_ptn' (by omega)]
  have p20 : pqf (cut2 a k) 0 = pqf a 0 := by unfold pqf; rw [cut2_ptn0 (by omega)]
  have p2 : ∀ j, k + j < a.length → pqf (cut2 a k) (j + 1) = pqf a (k + j) := fun j hj => by unfold pqf; rw [cut2_ptn (by omega) hj]
  have p2' : pqf (cut2 a k) (a.length - k + 1) = pqf a a.length := by unfold pqf; rw [cut2_ptn' (by omega), ptn_n]
  have ne := fun i => f_ne (simp_of V.n3 V.may V.sim) i
  by_cases hon : ∃ e ∈ eds a, OnE (qp x) (qe e)
  · obtain ⟨i, s, hi, s0, s1, hxe⟩ := half_edge hon
    have hA := wn_edge V s0 s1 hxe
    have hl0 : locI a x = 0 := by
      rcases L with ⟨_, h⟩ | ⟨h, _⟩ | ⟨h, _⟩
      · exact h
      · obtain ⟨e, he, ho⟩ := hon; exact absurd ho (h e he)
      · obtain ⟨e, he, ho⟩ := hon; exact absurd ho (h e he)
    by_cases hik : i < k
    · have hx1 : qp x = onp (pqf (cut1 a k) i) (pqf (cut1 a k) (i + 1)) s := by rw [p1 i (by omega), p1 (i + 1) (by omega)]; exact hxe
      have on1 := on_at (l := cut1 a k) (i := i) (by rw [cut1_len (by omega)]; omega) s0 s1 hx1
      have hB := wn_edge V1 s0 s1 hx1
      rw [p1 i (by omega), p1 (i + 1) (by omega)] at hB
      have l1 : locI (cut1 a k) x = 0 := by
        obtain ⟨e, he, ho⟩ := on1
        rcases L1 with ⟨_, h⟩ | ⟨h, _⟩ | ⟨h, _⟩
        · exact h
        · exact absurd ho (h e he)
        · exact absurd ho (h e he)
      have l2 : locI (cut2 a k) x ≠ 1 := by
        rcases L2 with ⟨_, h⟩ | ⟨_, h, _⟩ | ⟨_, _, h⟩
        · omega
        · have := h _ (ne i)
          have := hsum (sq (pqf a (i + 1)) (pqf a i))
          omega
        · omega
      rw [hl0, l1]
      exact ⟨by omega, fun h => absurd h l2, by omega⟩
    · have q1 : pqf (cut2 a k) (i - k + 1) = pqf a i := by rw [p2 (i - k) (by omega)]; congr 1; omega
      have q2 : pqf (cut2 a k) (i - k + 1 + 1) = pqf a (i + 1) := by
        by_cases e : i + 1 < a.length
        · rw [p2 (i - k + 1) (by omega)]; congr 1; omega
        · rw [show i - k + 1 + 1 = a.length - k + 1 by omega, p2']; congr 1; omega
      have hx1 : qp x = onp (pqf (cut2 a k) (i - k + 1)) (pqf (cut2 a k) (i - k + 1 + 1)) s := by rw [q1, q2]; exact hxe
      have on1 := on_at (l := cut2 a k) (i := i - k + 1) (by rw [cut2_len (by omega)]; omega) s0 s1 hx1
      have hB := wn_edge V2 s0 s1 hx1
      rw [q1, q2] at hB
      have l2 : locI (cut2 a k) x = 0 := by
        obtain ⟨e, he, ho⟩ := on1
        rcases L2 with ⟨_, h⟩ | ⟨h, _⟩ | ⟨h, _⟩
        · exact h
        · exact absurd ho (h e he)
        · exact absurd ho (h e he)
      have l1 : locI (cut1 a k) x ≠ 1 := by
        rcases L1 with ⟨_, h⟩ | ⟨_, h, _⟩ | ⟨_, _, h⟩
        · omega
        · have := h _ (ne i)
          have := hsum (sq (pqf a (i + 1)) (pqf a i))
          omega
        · omega
      rw [hl0, l2]
      exact ⟨fun h => absurd h l1, by omega, by omega⟩
  · have hoff : ∀ e ∈ eds a, ¬ OnE (qp x) (qe e) := fun e he ho => hon ⟨e, he, ho⟩
    have c0 : qp x ≠ pqf a 0 := fun e => hoff _ (edn_mem (i := 0) (by omega)) (by rw [e]; exact on_left _ _)
    have ck : qp x ≠ pqf a k := fun e => hoff _ (edn_mem (i := k) (by omega)) (by rw [e]; exact on_left _ _)
    by_cases hc : OnE (qp x) (pqf a k, pqf a 0)
    · obtain ⟨s, s0, s1, hs⟩ := on_param hc
      have t0 : 0 < s := by
        refine Classical.byContradiction fun h => ck ?_
        have : s = 0 := by grind
        rw [hs, this, onp0]
      have t1 : s < 1 := by
        refine Classical.byContradiction fun h => c0 ?_
        have : s = 1 := by grind
        rw [hs, this, onp1]
      have hx1 : qp x = onp (pqf (cut1 a k) k) (pqf (cut1 a k) (k + 1)) s := by rw [p1 k (by omega), p1']; exact hs
      have q1 : pqf (cut2 a k) 1 = pqf a k := by have := p2 0 (by omega); simpa using this
      have hx2 : qp x = onp (pqf (cut2 a k) 0) (pqf (cut2 a k) (0 + 1)) (1 - s) := by
        rw [p20, Nat.zero_add, q1, hs]; refine Prod.ext ?_ ?_ <;> simp only [onp] <;> grind
      have on1 := on_at (l := cut1 a k) (i := k) (by rw [cut1_len (by omega)]; omega) s0 t1 hx1
      have on2 := on_at (l := cut2 a k) (i := 0) (by rw [cut2_len (by omega)]; omega) (by grind) (by grind) hx2
      have hA := wn_edge V1 s0 t1 hx1
      have hB := wn_rev V2 (i := 0) (s := 1 - s) (by grind) (by grind) hx2 rfl
      rw [p1 k (by omega), p1'] at hA
      rw [p20, Nat.zero_add, q1] at hB
      have hs2 := hsum (sq (pqf a 0) (pqf a k))
      rw [hA, hB] at hs2
      have l1 : locI (cut1 a k) x = 0 := by
        obtain ⟨e, he, ho⟩ := on1
        rcases L1 with ⟨_, h⟩ | ⟨h, _⟩ | ⟨h, _⟩
        · exact h
        · exact absurd ho (h e he)
        · exact absurd ho (h e he)
      have l2 : locI (cut2 a k) x = 0 := by
        obtain ⟨e, he, ho⟩ := on2
        rcases L2 with ⟨_, h⟩ | ⟨h, _⟩ | ⟨h, _⟩
        · exact h
        · exact absurd ho (h e he)
        · exact absurd ho (h e he)
      have hne : sq (pqf a 0) (pqf a k) ≠ (0, 0) := by
        refine sq_ne fun e => ck ?_
        rw [hs, e]; refine Prod.ext ?_ ?_ <;> simp only [onp] <;> grind
      have lA : locI a x = 1 := by
        rcases L with ⟨h, _⟩ | ⟨_, _, h⟩ | ⟨_, h, _⟩
        · exact absurd h hon
        · exact h
        · have := h _ hne; omega
      rw [lA, l1, l2]
      exact ⟨by omega, by omega, by omega⟩
    · have off1 : ∀ e ∈ eds (cut1 a k), ¬ OnE (qp x) (qe e) := fun e he ho => by
        rw [eds_cut1 (by omega), List.mem_append] at he
        rcases he with he | he
        · obtain ⟨j, hj, rfl⟩ := List.mem_map.1 he
          have := List.mem_range.1 hj
          exact hoff _ (edn_mem (by omega)) ho
        · simp only [List.mem_singleton] at he
          subst he
          exact hc ho
      have off2 : ∀ e ∈ eds (cut2 a k), ¬ OnE (qp x) (qe e) := fun e he ho => by
        rw [eds_cut2 (by omega), List.mem_cons] at he
        rcases he with rfl | he
        · exact hc (on_swap ho)
        · obtain ⟨j, hj, rfl⟩ := List.mem_map.1 he
          have := List.mem_range.1 hj
          exact hoff _ (edn_mem (by omega)) ho
      have hs := hsum (1, 0)
      rcases L with ⟨h, _⟩ | ⟨_, w, l⟩ | ⟨_, w, l⟩
      · exact absurd h hon
      all_goals
        rcases L1 with ⟨⟨e, he, ho⟩, _⟩ | ⟨_, w1, l1⟩ | ⟨_, w1, l1⟩
        · exact absurd ho (off1 e he)
        all_goals
          rcases L2 with ⟨⟨e, he, ho⟩, _⟩ | ⟨_, w2, l2⟩ | ⟨_, w2, l2⟩
          · exact absurd ho (off2 e he)
          all_goals
            have u := w _ d10
            have u1 := w1 _ d10
            have u2 := w2 _ d10
            rw [l, l1, l2]
            omega
end Go.Geo

namespace Go.Proofs.Yteellikeoiedbaa
set_option maxRecDepth 100000
set_option maxHeartbeats 4000000
set_option linter.unusedSimpArgs false
set_option linter.unusedVariables false
open Go Go.Zv
open Go.Geo
theorem all_c2 (l : List Pt) : ((l.map c2).all fun x => x.length == 2) = true := by rw [List.all_map]; simp [c2]
theorem law11 (p : List Pt) (r : Nat) (hr : r ≤ 255) (t : Nat) (ht : t ≤ 255) (x y : Int) : pc E 11 [.vs (p.map c2), .int .u8 r, .int .u8 t, .agg [.int .i64 x, .int .i64 y]] = some (.bool true) := by
  by_cases hbig : p.length ≤ 1000000000
  case neg =>
    have v : pc E 36 [.vs (p.map c2)] = some (.bool false) := by
      have k1 : ¬ (p.length : Int) < 3 := by omega
      have k2 : (12 : Int) < p.length := by omega
      rw [pc_eq]; simp +contextual -implicitDefEqProofs (maxSteps := 2000000) only [go_sem, ↓reduceIte, Nat.reduceAdd, Nat.reduceMul, Nat.reduceSub, Nat.reduceEqDiff, Nat.reduceLeDiff, Nat.reduceDiv, Nat.reduceMod, Nat.reduceBEq, Nat.reduceBNe, reduceCtorEq, Int.reduceLE, Int.reduceLT, Int.reduceToNat, Int.reduceNeg, Nat.reduceLT, Int.reduceEq, Int.reduceSub, Int.reduceAdd, Int.reduceMul, Nat.reducePow, Int.reduceBEq, Int.reduceBNe, Int.reduceMod, E_36, A36, List.length_map, k1, k2]
    rw [pc_eq]; simp +contextual -implicitDefEqProofs (maxSteps := 2000000) only [go_sem, ↓reduceIte, Nat.reduceAdd, Nat.reduceMul, Nat.reduceSub, Nat.reduceEqDiff, Nat.reduceLeDiff, Nat.reduceDiv, Nat.reduceMod, Nat.reduceBEq, Nat.reduceBNe, reduceCtorEq, Int.reduceLE, Int.reduceLT, Int.reduceToNat, Int.reduceNeg, Nat.reduceLT, Int.reduceEq, Int.reduceSub, Int.reduceAdd, Int.reduceMul, Nat.reducePow, Int.reduceBEq, Int.reduceBNe, Int.reduceMod, E_11, A11, c31, v]
  have v := c36 p hbig
  cases hv : valB p with
  | false => rw [hv] at v; rw [pc_eq]; simp +contextual -implicitDefEqProofs (maxSteps := 2000000) only [go_sem, ↓reduceIte, Nat.reduceAdd, Nat.reduceMul, Nat.reduceSub, Nat.reduceEqDiff, Nat.reduceLeDiff, Nat.reduceDiv, Nat.reduceMod, Nat.reduceBEq, Nat.reduceBNe, reduceCtorEq, Int.reduceLE, Int.reduceLT, Int.reduceToNat, Int.reduceNeg, Nat.reduceLT, Int.reduceEq, Int.reduceSub, Int.reduceAdd, Int.reduceMul, Nat.reducePow, Int.reduceBEq, Int.reduceBNe, Int.reduceMod, E_11, A11, c31, v]
  | true =>
    rw [hv] at v
    have V := val_iff.1 hv
    have n12 := V.n12
    by_cases h4 : (p.length : Int) < 4
    · rw [pc_eq]; simp +contextual -implicitDefEqProofs (maxSteps := 2000000) only [go_sem, ↓reduceIte, Nat.reduceAdd, Nat.reduceMul, Nat.reduceSub, Nat.reduceEqDiff, Nat.reduceLeDiff, Nat.reduceDiv, Nat.reduceMod, Nat.reduceBEq, Nat.reduceBNe, reduceCtorEq, Int.reduceLE, Int.reduceLT, Int.reduceToNat, Int.reduceNeg, Nat.reduceLT, Int.reduceEq, Int.reduceSub, Int.reduceAdd, Int.reduceMul, Nat.reducePow, Int.reduceBEq, Int.reduceBNe, Int.reduceMod, E_11, A11, c31, v, List.length_map, h4]
    · have mx := c33 x y
      cases hmx : mayB (x, y) with
      | false => rw [hmx] at mx; rw [pc_eq]; simp +contextual -implicitDefEqProofs (maxSteps := 2000000) only [go_sem, ↓reduceIte, Nat.reduceAdd, Nat.reduceMul, Nat.reduceSub, Nat.reduceEqDiff, Nat.reduceLeDiff, Nat.reduceDiv, Nat.reduceMod, Nat.reduceBEq, Nat.reduceBNe, reduceCtorEq, Int.reduceLE, Int.reduceLT, Int.reduceToNat, Int.reduceNeg, Nat.reduceLT, Int.reduceEq, Int.reduceSub, Int.reduceAdd, Int.reduceMul, Nat.reducePow, Int.reduceBEq, Int.reduceBNe, Int.reduceMod, E_11, A11, c31, v, List.length_map, h4, mx]
      | true =>
        rw [hmx] at mx
        have o1 := c34 p hbig r hr
        have ll := rotL_len r p
        have Va : Val (rotL r p) := val_iff.1 (by rw [valB_rot]; exact hv)
        have w1 : IntKind.i64.wrap (t : Int) = t := wrap_small (by omega) (by omega)
        have w2 : IntKind.i64.wrap ((p.length : Int) - 3) = ((p.length - 3 : Nat) : Int) := by rw [wrap_small (by omega) (by omega)]; omega
        have w3 : ¬ ((p.length - 3 : Nat) : Int) = 0 := by omega
        have w3' : (((p.length - 3 : Nat) : Int) == 0) = false := beq_eq_false_iff_ne.2 w3
        have w4 : (t : Int).tmod ((p.length - 3 : Nat) : Int) = ((t % (p.length - 3) : Nat) : Int) := by rw [Int.tmod_eq_emod_of_nonneg (Int.natCast_nonneg t)]; rfl
        have hk := Nat.mod_lt t (show 0 < p.length - 3 by omega)
        have w5 : IntKind.i64.wrap (2 + ((t % (p.length - 3) : Nat) : Int)) = ((2 + t % (p.length - 3) : Nat) : Int) := by rw [wrap_small (by omega) (by omega)]; omega
        generalize hkk : 2 + t % (p.length - 3) = k at *
        have k2 : 2 ≤ k := by omega
        have k3 : k + 2 ≤ p.length := by omega
        have w6 : IntKind.i64.wrap ((k : Int) + 1) = ((k + 1 : Nat) : Int) := wr_k (by omega)
        have s1 : (0 : Int) ≤ ((k + 1 : Nat) : Int) := by omega
        have s2 : ((k + 1 : Nat) : Int) ≤ p.length := by omega
        have s3 : k + 1 ≤ p.length := by omega
        have s4 : (0 : Int) ≤ (k : Int) := by omega
        have s5 : (k : Int) ≤ p.length := by omega
        have s6 : k ≤ p.length := by omega
        have s7 : (0 : Int) < p.length := by omega
        have e1 : List.take (k + 1) ((rotL r p).map c2) = (cut1 (rotL r p) k).map c2 := by unfold cut1; rw [List.map_take]
        have e2 : List.drop k ((rotL r p).map c2) = ((rotL r p).drop k).map c2 := by rw [List.map_drop]
        have e3 := get_c2 (ptn_get (l := rotL r p) (k := 0) (by rw [ll]; omega))
        have l1 := cut1_len (a := rotL r p) (k := k) (by rw [ll]; omega)
        have l2 : (cut2 (rotL r p) k).length = 1 + (p.length - k) := by rw [cut2_len (by rw [ll]; omega), ll]; omega
        have e4 : [.int .i64 (ptn (rotL r p) 0).1, .int .i64 (ptn (rotL r p) 0).2] :: ((rotL r p).drop k).map c2 = (cut2 (rotL r p) k).map c2 := rfl
        have s8 : k ≤ 999999999 := by omega
        have s9 : k + (p.length - k) ≤ p.length := by omega
        have s10 : 1 + (p.length - k) ≤ 1000000000 := by omega
        have e5 : List.take (p.length - k) (((rotL r p).drop k).map c2) = ((rotL r p).drop k).map c2 := List.take_of_length_le (by simp [ll])
        have e6 : ((rotL r p).drop k).length = p.length - k := by rw [List.length_drop, ll]
        have e7 : List.take (k + 1) ((cut1 (rotL r p) k).map c2) = (cut1 (rotL r p) k).map c2 := List.take_of_length_le (by rw [List.length_map, l1]; omega)
        have e8 : List.take (1 + (p.length - k)) ((cut2 (rotL r p) k).map c2) = (cut2 (rotL r p) k).map c2 := List.take_of_length_le (by rw [List.length_map, l2]; omega)
        have d1 := c37 (cut1 (rotL r p) k) (by rw [l1]; omega)
        have d2 := c37 (cut2 (rotL r p) k) (by rw [l2]; omega)
        have d3 := c37 p hbig
        have v1 := c36 (cut1 (rotL r p) k) (by rw [l1]; omega)
        have v2 := c36 (cut2 (rotL r p) k) (by rw [l2]; omega)
        have q1 := c28 (cut1 (rotL r p) k) (by rw [l1]; omega) x y
        have q2 := c28 (cut2 (rotL r p) k) (by rw [l2]; omega) x y
        have q3 := c28 p hbig x y
        have ha := cut_area (a := rotL r p) (k := k) (by rw [ll]; omega)
        rw [areaW_rot] at ha
        have ha : IntKind.i64.wrap (areaW (cut1 (rotL r p) k) + areaW (cut2 (rotL r p) k)) = areaW p := ha
        cases hv1 : valB (cut1 (rotL r p) k) with
        | false =>
          rw [hv1] at v1
          rw [pc_eq]; simp +contextual -implicitDefEqProofs (maxSteps := 2000000) only [go_sem, ↓reduceIte, Nat.reduceAdd, Nat.reduceMul, Nat.reduceSub, Nat.reduceEqDiff, Nat.reduceLeDiff, Nat.reduceDiv, Nat.reduceMod, Nat.reduceBEq, Nat.reduceBNe, reduceCtorEq, Int.reduceLE, Int.reduceLT, Int.reduceToNat, Int.reduceNeg, Nat.reduceLT, Int.reduceEq, Int.reduceSub, Int.reduceAdd, Int.reduceMul, Nat.reducePow, Int.reduceBEq, Int.reduceBNe, Int.reduceMod, E_11, A11, c31, v, List.length_map, h4, mx, o1, w1, w2, w3, w3', w4, w5, w6, ll, tk, s1, s2, s3, s4, s5, s6, s7, s8, s9, s10, e1, e2, e3, e4, e5, e6, e7, e8, l1, l2, all_c2, d1, d2, d3, ha, v1, bne_self_eq_false]
        | true =>
          cases hv2 : valB (cut2 (rotL r p) k) with
          | false =>
            rw [hv1] at v1; rw [hv2] at v2
            rw [pc_eq]; simp +contextual -implicitDefEqProofs (maxSteps := 2000000) only [go_sem, ↓reduceIte, Nat.reduceAdd, Nat.reduceMul, Nat.reduceSub, Nat.reduceEqDiff, Nat.reduceLeDiff, Nat.reduceDiv, Nat.reduceMod, Nat.reduceBEq, Nat.reduceBNe, reduceCtorEq, Int.reduceLE, Int.reduceLT, Int.reduceToNat, Int.reduceNeg, Nat.reduceLT, Int.reduceEq, Int.reduceSub, Int.reduceAdd, Int.reduceMul, Nat.reducePow, Int.reduceBEq, Int.reduceBNe, Int.reduceMod, E_11, A11, c31, v, List.length_map, h4, mx, o1, w1, w2, w3, w3', w4, w5, w6, ll, tk, s1, s2, s3, s4, s5, s6, s7, s8, s9, s10, e1, e2, e3, e4, e5, e6, e7, e8, l1, l2, all_c2, d1, d2, d3, ha, v1, v2, bne_self_eq_false]
          | true =>
            rw [hv1] at v1; rw [hv2] at v2
            have C := cut_loc Va k2 (by rw [ll]; exact k3) (val_iff.1 hv1) (val_iff.1 hv2) (mayB_B2 hmx)
            rw [locI_rot] at C
            have R1 := loc3 (val_iff.1 hv1) (mayB_B2 hmx)
            have R2 := loc3 (val_iff.1 hv2) (mayB_B2 hmx)
            have R3 := loc3 V (mayB_B2 hmx)
            have r1 : locI (cut1 (rotL r p) k) (x, y) = 0 ∨ locI (cut1 (rotL r p) k) (x, y) = 1 ∨ locI (cut1 (rotL r p) k) (x, y) = -1 := by
              rcases R1 with ⟨_, h⟩ | ⟨_, _, h⟩ | ⟨_, _, h⟩ <;> omega
            have r2 : locI (cut2 (rotL r p) k) (x, y) = 0 ∨ locI (cut2 (rotL r p) k) (x, y) = 1 ∨ locI (cut2 (rotL r p) k) (x, y) = -1 := by
              rcases R2 with ⟨_, h⟩ | ⟨_, _, h⟩ | ⟨_, _, h⟩ <;> omega
            have r3 : locI p (x, y) = 0 ∨ locI p (x, y) = 1 ∨ locI p (x, y) = -1 := by
              rcases R3 with ⟨_, h⟩ | ⟨_, _, h⟩ | ⟨_, _, h⟩ <;> omega
            clear R1 R2 R3
            generalize locI (cut1 (rotL r p) k) (x, y) = i at *
            generalize locI (cut2 (rotL r p) k) (x, y) = j at *
            generalize locI p (x, y) = h at *
            rcases r1 with rfl | rfl | rfl <;> rcases r2 with rfl | rfl | rfl <;> rcases r3 with rfl | rfl | rfl <;> first | (exfalso; omega) | (rw [pc_eq]; simp +contextual -implicitDefEqProofs (maxSteps := 2000000) only [go_sem, ↓reduceIte, Nat.reduceAdd, Nat.reduceMul, Nat.reduceSub, Nat.reduceEqDiff, Nat.reduceLeDiff, Nat.reduceDiv, Nat.reduceMod, Nat.reduceBEq, Nat.reduceBNe, reduceCtorEq, Int.reduceLE, Int.reduceLT, Int.reduceToNat, Int.reduceNeg, Nat.reduceLT, Int.reduceEq, Int.reduceSub, Int.reduceAdd, Int.reduceMul, Nat.reducePow, Int.reduceBEq, Int.reduceBNe, Int.reduceMod, E_11, A11, c31, v, List.length_map, h4, mx, o1, w1, w2, w3, w3', w4, w5, w6, ll, tk, s1, s2, s3, s4, s5, s6, s7, s8, s9, s10, e1, e2, e3, e4, e5, e6, e7, e8, l1, l2, all_c2, d1, d2, d3, ha, v1, v2, q1, q2, q3, bne_self_eq_false, beq_self_eq_true])
end Go.Proofs.Yteellikeoiedbaa
