/- Part of the proof: the evaluation of the program's code and its tie to the machine, or what functions of the program compute over it. -/
import Derived.Test.YtnecdcaaknhgpaaPart2
import Derived.Test.YtnecdcaaknhgpaaEng6
import Derived.KernelRfl
import Derived.Test.YtnecdcaaknhgpaaPart1
namespace Go.Geo
set_option maxRecDepth 100000
set_option maxHeartbeats 4000000
set_option linter.unusedSimpArgs false
set_option linter.unusedVariables false
open Go Go.Zv
/-! a polygon cut in two -/
section
variable {a : List Pt} {k : Nat}
def cut1 (a : List Pt) (k : Nat) : List Pt := a.take (k + 1)
def cut2 (a : List Pt) (k : Nat) : List Pt := ptn a 0 :: a.drop k
theorem cut1_len (hk : k + 1 ≤ a.length) : (cut1 a k).length = k + 1 := by unfold cut1; rw [List.length_take]; omega
theorem cut2_len (hk : k ≤ a.length) : (cut2 a k).length = a.length - k + 1 := by unfold cut2; rw [List.length_cons, List.length_drop]
theorem ptn_eq_of {l m : List Pt} {i j : Nat} (hi : i < l.length) (hj : j < m.length) (h : l[i]? = m[j]?) : ptn l i = ptn m j := by
  rw [ptn_get hi, ptn_get hj] at h; simpa using h
theorem cut1_ptn (hk : k + 1 ≤ a.length) {j : Nat} (hj : j ≤ k) : ptn (cut1 a k) j = ptn a j :=
  ptn_eq_of (by rw [cut1_len hk]; omega) (by omega) (by unfold cut1; rw [List.getElem?_take, if_pos (by omega)])
theorem cut1_ptn' (hk : k + 1 ≤ a.length) : ptn (cut1 a k) (k + 1) = ptn a 0 := by
  have := ptn_per (cut1 a k) 0
  rw [cut1_len hk, Nat.zero_add] at this
  rw [this, cut1_ptn hk (by omega)]
theorem cut2_ptn0 (hk : k < a.length) : ptn (cut2 a k) 0 = ptn a 0 := by
  have h1 := ptn_get (l := cut2 a k) (k := 0) (by rw [cut2_len (by omega)]; omega)
  unfold cut2 at h1 ⊢
  simpa using h1.symm
theorem cut2_ptn (hk : k < a.length) {j : Nat} (hj : k + j < a.length) : ptn (cut2 a k) (j + 1) = ptn a (k + j) :=
  ptn_eq_of (by rw [cut2_len (by omega)]; omega) hj (by unfold cut2; rw [List.getElem?_cons_succ, List.getElem?_drop])
theorem cut2_ptn' (hk : k < a.length) : ptn (cut2 a k) (a.length - k + 1) = ptn a 0 := by
  have := ptn_per (cut2 a k) 0
  rw [cut2_len (by omega), Nat.zero_add] at this
  rw [this, cut2_ptn0 hk]
theorem ptn_n (a : List Pt) : ptn a a.length = ptn a 0 := by have := ptn_per a 0; rwa [Nat.zero_add] at this
theorem eds_cut1 (hk : k + 1 ≤ a.length) : eds (cut1 a k) = (List.range k).map (edn a) ++ [(ptn a k, ptn a 0)] := by
  rw [eds_range, cut1_len hk, List.range_succ, List.map_append]
  congr 1
  · refine List.map_congr_left fun j hj => ?_
    have := List.mem_range.1 hj
    unfold edn; rw [cut1_ptn hk (by omega), cut1_ptn hk (by omega)]
  · simp only [List.map_cons, List.map_nil, edn]; rw [cut1_ptn hk (by omega), cut1_ptn' hk]
theorem eds_cut2 (hk : k < a.length) : eds (cut2 a k) = (ptn a 0, ptn a k) :: (List.range (a.length - k)).map (fun j => edn a (k + j)) := by
  rw [eds_range, cut2_len (by omega), List.range_succ_eq_map, List.map_cons, List.map_map]
  congr 1
  · unfold edn; rw [cut2_ptn0 hk]
    have := cut2_ptn hk (j := 0) (by omega)
    rw [this]; rfl
  · refine List.map_congr_left fun j hj => ?_
    have hj := List.mem_range.1 hj
    simp only [Function.comp_apply, edn]
    rw [show j.succ = j + 1 from rfl, cut2_ptn hk (by omega)]
    by_cases e : k + (j + 1) < a.length
    · rw [cut2_ptn hk (j := j + 1) e]; rfl
    · rw [show j + 1 + 1 = a.length - k + 1 by omega, cut2_ptn' hk, show k + j + 1 = a.length by omega, ptn_n]
theorem eds_cut (hk : k ≤ a.length) : eds a = (List.range k).map (edn a) ++ (List.range (a.length - k)).map (fun j => edn a (k + j)) := by
  rw [eds_range]
  conv => lhs; rw [show a.length = k + (a.length - k) by omega]
  rw [List.range_add, List.map_append, List.map_map]; rfl
/-- what counts an edge and its opposite to nothing -/
theorem cut_sum (hk : k + 1 ≤ a.length) (F : Pt × Pt → Int) (hF : ∀ p q, F (q, p) = -F (p, q)) : ((eds (cut1 a k)).map F).sum + ((eds (cut2 a k)).map F).sum = ((eds a).map F).sum := by
  rw [eds_cut1 hk, eds_cut2 (by omega), eds_cut (k := k) (by omega)]
  simp only [List.map_append, List.sum_append, List.map_cons, List.sum_cons, List.map_nil, List.sum_nil]
  rw [hF (ptn a 0) (ptn a k)]
  omega
theorem cut_area (hk : k + 1 ≤ a.length) : w64 (areaW (cut1 a k) + areaW (cut2 a k)) = areaW a := by
  rw [areaW_sum, areaW_sum, areaW_sum, w64_add, w64_add', cut_sum hk dE (fun p q => by unfold dE; simp only; grind)]
theorem cut_wn (hk : k + 1 ≤ a.length) (d x : Q2) : wn d x ((eds (cut1 a k)).map qe) + wn d x ((eds (cut2 a k)).map qe) = wn d x ((eds a).map qe) := by
  unfold wn
  rw [List.map_map, List.map_map, List.map_map]
  exact cut_sum hk _ (fun p q => by simp only [Function.comp_apply, qe]; exact hit_neg ..)
theorem wn_rev {d x : Q2} {l : List Pt} (h : Val l) {i : Nat} {s : Rat} (s0 : 0 < s) (s1 : s < 1) (hx : x = onp (pqf l i) (pqf l (i + 1)) s) (hd : d = sq (pqf l i) (pqf l (i + 1))) : wn d x ((eds l).map qe) = 0 := by
  have hs := simp_of h.n3 h.may h.sim
  have hL := Lc_val h
  rw [eds_chn, ← wn_base hs d x i, split1 hs i, wn_cons]
  have hg := f_ne hs i
  have hdg : d = (-(sq (pqf l (i + 1)) (pqf l i)).1, -(sq (pqf l (i + 1)) (pqf l i)).2) := by
    rw [hd]; refine Prod.ext ?_ ?_ <;> simp only [sq] <;> grind
  have e1 : hit d (sq (edg (pqf l) i).1 x) (sq (edg (pqf l) i).2 x) = 0 := by
    simp only [edg]
    have k1 : xq d (sq (pqf l i) x) = 0 := by rw [hx, hd]; unfold xq sq onp; grind
    have k2 : xq d (sq (pqf l (i + 1)) x) = 0 := by rw [hx, hd]; unfold xq sq onp; grind
    have z0 : ¬ (0 : Rat) < 0 := by grind
    unfold hit; rw [k1, k2]; simp only [z0, if_false]
  rw [e1]
  -- a direction to the right of the edge
  have hr : 0 < xq ((sq (pqf l (i + 1)) (pqf l i)).2, -(sq (pqf l (i + 1)) (pqf l i)).1) (sq (pqf l (i + 1)) (pqf l i)) := by
    have := dq_pos hg
    unfold dq at this; unfold xq; grind
  have hN := N_right hs s0 s1 hx hr
  have hdr : 0 < xq d ((sq (pqf l (i + 1)) (pqf l i)).2, -(sq (pqf l (i + 1)) (pqf l i)).1) := by
    have := dq_pos hg
    rw [hdg]
    unfold dq at this; unfold xq; grind
  have hon : OnE x (edg (pqf l) i) := by rw [hx]; exact on_of_param (by grind) (by grind)
  have k1 : xq (sq (pqf l (i + 1)) (pqf l i)) (sq x (pqf l i)) = 0 := by rw [hx]; unfold xq sq onp; grind
  have dd := dq_pos hg
  have j1 : dq (sq (pqf l (i + 1)) (pqf l i)) (sq x (pqf l i)) = s * dq (sq (pqf l (i + 1)) (pqf l i)) (sq (pqf l (i + 1)) (pqf l i)) := by rw [hx]; unfold dq sq onp; grind
  have j2 : dq (sq (pqf l (i + 1)) (pqf l i)) (sq (pqf l (i + 1)) x) = (1 - s) * dq (sq (pqf l (i + 1)) (pqf l i)) (sq (pqf l (i + 1)) (pqf l i)) := by rw [hx]; unfold dq sq onp; grind
  have x0 : x ≠ pqf l i := fun e => by
    rw [e, sq_self] at j1
    have := Rat.mul_pos s0 dd
    rw [← e] at j1
    have z : dq (sq (pqf l (i + 1)) x) (0, 0) = 0 := by unfold dq; grind
    rw [← e] at this
    grind
  have x1 : x ≠ pqf l (i + 1) := fun e => by
    rw [e, sq_self] at j2
    have := Rat.mul_pos (show 0 < 1 - s by grind) dd
    have z : dq (sq (pqf l (i + 1)) (pqf l i)) (0, 0) = 0 := by unfold dq; grind
    grind
  have hoff : ∀ g ∈ chn (pqf l) (i + 1) (l.length - 1), ¬ OnE x g := fun g hg => by
    obtain ⟨m, hm, rfl⟩ := mem_chn.1 hg
    exact inner_off hs hon x0 x1 m hm
  have hw := wn_wedge (N_path hs i) hdr hoff
  have z1 : xq d (sq (pqf l i) x) = 0 := by rw [hx, hd]; unfold xq sq onp; grind
  have z2 : xq d (sq (pqf l (i + 1)) x) = 0 := by rw [hx, hd]; unfold xq sq onp; grind
  have z0 : ¬ (0 : Rat) < 0 := by grind
  unfold Wd at hw
  rw [z1, z2] at hw
  simp only [z0, if_false] at hw
  rw [hN, hL] at hw
  omega
/-- on a half-open edge, in its direction -/
theorem wn_edge {x : Q2} {l : List Pt} (h : Val l) {i : Nat} {s : Rat} (s0 : 0 ≤ s) (s1 : s < 1) (hx : x = onp (pqf l i) (pqf l (i + 1)) s) : wn (sq (pqf l (i + 1)) (pqf l i)) x ((eds l).map qe) = 1 := by
  have hs := simp_of h.n3 h.may h.sim
  rw [eds_chn, ← wn_base hs _ x i, Lc_eq hs s0 s1 hx, Lc_const hs, Lc_val h]
end
end Go.Geo

namespace Go.Geo
set_option maxRecDepth 100000
set_option maxHeartbeats 4000000
set_option linter.unusedSimpArgs false
set_option linter.unusedVariables false
open Go Go.Zv
theorem loc3 {l : List Pt} (V : Val l) {x : Pt} (hx : B2 x) : ((∃ e ∈ eds l, OnE (qp x) (qe e)) ∧ locI l x = 0) ∨ ((∀ e ∈ eds l, ¬ OnE (qp x) (qe e)) ∧ (∀ d : Q2, d ≠ (0, 0) → wn d (qp x) ((eds l).map qe) = 1) ∧ locI l x = 1) ∨ ((∀ e ∈ eds l, ¬ OnE (qp x) (qe e)) ∧ (∀ d : Q2, d ≠ (0, 0) → wn d (qp x) ((eds l).map qe) = 0) ∧ locI l x = -1) := by
  have hl := locI_wn V.may hx
  cases ho : (eds l).any (onE x) with
  | true =>
    left
    rw [ho] at hl
    rw [List.any_eq_true] at ho
    obtain ⟨e, he, h⟩ := ho
    exact ⟨⟨e, he, (onE_meets hx (eds_B V.may he).1 (eds_B V.may he).2).1 h⟩, by simpa using hl⟩
  | false =>
    right
    have hoff := (off_iff V.may hx).1 ho
    rw [ho] at hl
    simp only [Bool.false_eq_true, if_false] at hl
    have hall : ∀ d : Q2, d ≠ (0, 0) → wn d (qp x) ((eds l).map qe) = wn (1, 0) (qp x) ((eds l).map qe) := fun d hd => wn_dir (eds_path l) hd d10 fun g hg => by
      obtain ⟨e, he, rfl⟩ := List.mem_map.1 hg
      exact hoff e he
    rcases wind_val V hoff d10 with h | h
    · right; refine ⟨hoff, fun d hd => by rw [hall d hd, h], ?_⟩
      rw [hl, h]; decide
    · left; refine ⟨hoff, fun d hd => by rw [hall d hd, h], ?_⟩
      rw [hl, h]; decide
theorem half_edge {l : List Pt} {x : Q2} (h : ∃ e ∈ eds l, OnE x (qe e)) : ∃ i s, i < l.length ∧ 0 ≤ s ∧ s < 1 ∧ x = onp (pqf l i) (pqf l (i + 1)) s := by
  obtain ⟨e, he, ho⟩ := h
  rw [eds_range, List.mem_map] at he
  obtain ⟨i, hi, rfl⟩ := he
  have hi := List.mem_range.1 hi
  obtain ⟨s, s0, s1, hs⟩ := on_param ho
  by_cases e : s = 1
  · refine ⟨(i + 1) % l.length, 0, Nat.mod_lt _ (by omega), by grind, by grind, ?_⟩
    rw [onp0, hs, e, onp1]
    unfold pqf
    rw [mod_of_per (ptn l) l.length (ptn_per l) (i + 1)]; rfl
  · exact ⟨i, s, hi, s0, by grind, hs⟩
theorem on_swap {x p q : Q2} (h : OnE x (p, q)) : OnE x (q, p) := by
  unfold OnE OnV at *
  simp only at *
  obtain ⟨h1, h2⟩ := h
  have e1 : xq (sq q x) (sq p x) = -xq (sq p x) (sq q x) := xq_swap _ _
  have e2 : dq (sq q x) (sq p x) = dq (sq p x) (sq q x) := by unfold dq; grind
  rw [e1, e2]; exact ⟨by grind, h2⟩
theorem edn_mem {l : List Pt} {i : Nat} (h : i < l.length) : edn l i ∈ eds l := List.mem_of_getElem? (edn_get h)
theorem on_at {l : List Pt} {i : Nat} {s : Rat} {x : Q2} (h : i < l.length) (s0 : 0 ≤ s) (s1 : s < 1) (hx : x = onp (pqf l i) (pqf l (i + 1)) s) : ∃ e ∈ eds l, OnE x (qe e) :=
  ⟨edn l i, edn_mem h, by rw [hx]; exact on_of_param s0 (by grind)⟩
theorem cut_loc {a : List Pt} {k : Nat} (V : Val a) (hk : 2 ≤ k) (hk2 : k + 2 ≤ a.length) (V1 : Val (cut1 a k)) (V2 : Val (cut2 a k)) {x : Pt} (hx : B2 x) :
    (locI (cut1 a k) x = 1 → locI (cut2 a k) x = -1) ∧ (locI (cut2 a k) x = 1 → locI (cut1 a k) x = -1) ∧ (0 ≤ locI a x ↔ 0 ≤ locI (cut1 a k) x ∨ 0 ≤ locI (cut2 a k) x) := by
  have L := loc3 V hx
  have L1 := loc3 V1 hx
  have L2 := loc3 V2 hx
  have hsum := fun d => cut_wn (a := a) (k := k) (by omega) d (qp x)
  have p1 : ∀ j, j ≤ k → pqf (cut1 a k) j = pqf a j := fun j hj => by unfold pqf; rw [cut1_ptn (by omega) hj]
  have p1' : pqf (cut1 a k) (k + 1) = pqf a 0 := by unfold pqf; rw [cut1_ptn' (by omega)]
  have p20 : pqf (cut2 a k) 0 = pqf a 0 := by unfold pqf; rw [cut2_ptn0 (by omega)]
  have p2 : ∀ j, k + j < a.length → pqf (cut2 a k) (j + 1) = pqf a (k + j) := fun j hj => by unfold pqf; rw [cut2_ptn (by omega) hj]
  have p2' : pqf (cut2 a k) (a.length - k + 1) = pqf a a.length := by unfold pqf; rw [cut2_ptn' (by omega), ptn_n]
  have ne := fun i => f_ne (simp_of V.n3 V.may V.sim) i
  by_cases hon : ∃ e ∈ eds a, OnE (qp x) (qe e)
  · obtain ⟨i, s, hi, s0, s1, hxe⟩ := half_edge hon
    have hA := wn_edge V s0 s1 hxe
    have hl0 : locI a x = 0 := by
      rcases L with ⟨_, h⟩ | ⟨h, _⟩ | ⟨h, _⟩
      · exact h
      · obtain ⟨e, he, ho⟩ := hon; exact absurd ho (h e he)
      · obtain ⟨e, he, ho⟩ := hon; exact absurd ho (h e he)
    by_cases hik : i < k
    · have hx1 : qp x = onp (pqf (cut1 a k) i) (pqf (cut1 a k) (i + 1)) s := by rw [p1 i (by omega), p1 (i + 1) (by omega)]; exact hxe
      have on1 := on_at (l := cut1 a k) (i := i) (by rw [cut1_len (by omega)]; omega) s0 s1 hx1
      have hB := wn_edge V1 s0 s1 hx1
      rw [p1 i (by omega), p1 (i + 1) (by omega)] at hB
      have l1 : locI (cut1 a k) x = 0 := by
        obtain ⟨e, he, ho⟩ := on1
        rcases L1 with ⟨_, h⟩ | ⟨h, _⟩ | ⟨h, _⟩
        · exact h
        · exact absurd ho (h e he)
        · exact absurd ho (h e he)
      have l2 : locI (cut2 a k) x ≠ 1 := by
        rcases L2 with ⟨_, h⟩ | ⟨_, h, _⟩ | ⟨_, _, h⟩
        · omega
        · have := h _ (ne i)
          have := hsum (sq (pqf a (i + 1)) (pqf a i))
          omega
        · omega
      rw [hl0, l1]
      exact ⟨by omega, fun h => absurd h l2, by omega⟩
    · have q1 : pqf (cut2 a k) (i - k + 1) = pqf a i := by rw [p2 (i - k) (by omega)]; congr 1; omega
      have q2 : pqf (cut2 a k) (i - k + 1 + 1) = pqf a (i + 1) := by
        by_cases e : i + 1 < a.length
        · rw [p2 (i - k + 1) (by omega)]; congr 1; omega
        · rw [show i - k + 1 + 1 = a.length - k + 1 by omega, p2']; congr 1; omega
      have hx1 : qp x = onp (pqf (cut2 a k) (i - k + 1)) (pqf (cut2 a k) (i - k + 1 + 1)) s := by rw [q1, q2]; exact hxe
      have on1 := on_at (l := cut2 a k) (i := i - k + 1) (by rw [cut2_len (by omega)]; omega) s0 s1 hx1
      have hB := wn_edge V2 s0 s1 hx1
      rw [q1, q2] at hB
      have l2 : locI (cut2 a k) x = 0 := by
        obtain ⟨e, he, ho⟩ := on1
        rcases L2 with ⟨_, h⟩ | ⟨h, _⟩ | ⟨h, _⟩
        · exact h
        · exact absurd ho (h e he)
        · exact absurd ho (h e he)
      have l1 : locI (cut1 a k) x ≠ 1 := by
        rcases L1 with ⟨_, h⟩ | ⟨_, h, _⟩ | ⟨_, _, h⟩
        · omega
        · have := h _ (ne i)
          have := hsum (sq (pqf a (i + 1)) (pqf a i))
          omega
        · omega
      rw [hl0, l2]
      exact ⟨fun h => absurd h l1, by omega, by omega⟩
  · have hoff : ∀ e ∈ eds a, ¬ OnE (qp x) (qe e) := fun e he ho => hon ⟨e, he, ho⟩
    have c0 : qp x ≠ pqf a 0 := fun e => hoff _ (edn_mem (i := 0) (by omega)) (by rw [e]; exact on_left _ _)
    have ck : qp x ≠ pqf a k := fun e => hoff _ (edn_mem (i := k) (by omega)) (by rw [e]; exact on_left _ _)
    by_cases hc : OnE (qp x) (pqf a k, pqf a 0)
    · obtain ⟨s, s0, s1, hs⟩ := on_param hc
      have t0 : 0 < s := by
        refine Classical.byContradiction fun h => ck ?_
        have : s = 0 := by grind
        rw [hs, this, onp0]
      have t1 : s < 1 := by
        refine Classical.byContradiction fun h => c0 ?_
        have : s = 1 := by grind
        rw [hs, this, onp1]
      have hx1 : qp x = onp (pqf (cut1 a k) k) (pqf (cut1 a k) (k + 1)) s := by rw [p1 k (by omega), p1']; exact hs
      have q1 : pqf (cut2 a k) 1 = pqf a k := by have := p2 0 (by omega); simpa using this
      have hx2 : qp x = onp (pqf (cut2 a k) 0) (pqf (cut2 a k) (0 + 1)) (1 - s) := by
        rw [p20, Nat.zero_add, q1, hs]; refine Prod.ext ?_ ?_ <;> simp only [onp] <;> grind
      have on1 := on_at (l := cut1 a k) (i := k) (by rw [cut1_len (by omega)]; omega) s0 t1 hx1
      have on2 := on_at (l := cut2 a k) (i := 0) (by rw [cut2_len (by omega)]; omega) (by grind) (by grind) hx2
      have hA := wn_edge V1 s0 t1 hx1
      have hB := wn_rev V2 (i := 0) (s := 1 - s) (by grind) (by grind) hx2 rfl
      rw [p1 k (by omega), p1'] at hA
      rw [p20, Nat.zero_add, q1] at hB
      have hs2 := hsum (sq (pqf a 0) (pqf a k))
      rw [hA, hB] at hs2
      have l1 : locI (cut1 a k) x = 0 := by
        obtain ⟨e, he, ho⟩ := on1
        rcases L1 with ⟨_, h⟩ | ⟨h, _⟩ | ⟨h, _⟩
        · exact h
        · exact absurd ho (h e he)
        · exact absurd ho (h e he)
      have l2 : locI (cut2 a k) x = 0 := by
        obtain ⟨e, he, ho⟩ := on2
        rcases L2 with ⟨_, h⟩ | ⟨h, _⟩ | ⟨h, _⟩
        · exact h
        · exact absurd ho (h e he)
        · exact absurd ho (h e he)
      have hne : sq (pqf a 0) (pqf a k) ≠ (0, 0) := by
        refine sq_ne fun e => ck ?_
        rw [hs, e]; refine Prod.ext ?_ ?_ <;> simp only [onp] <;> grind
      have lA : locI a x = 1 := by
        rcases L with ⟨h, _⟩ | ⟨_, _, h⟩ | ⟨_, h, _⟩
        · exact absurd h hon
        · exact h
        · have := h _ hne; omega
      rw [lA, l1, l2]
      exact ⟨by omega, by omega, by omega⟩
    · have off1 : ∀ e ∈ eds (cut1 a k), ¬ OnE (qp x) (qe e) := fun e he ho => by
        rw [eds_cut1 (by omega), List.mem_append] at he
        rcases he with he | he
        · obtain ⟨j, hj, rfl⟩ := List.mem_map.1 he
          have := List.mem_range.1 hj
          exact hoff _ (edn_mem (by omega)) ho
        · simp only [List.mem_singleton] at he
          subst he
          exact hc ho
      have off2 : ∀ e ∈ eds (cut2 a k), ¬ OnE (qp x) (qe e) := fun e he ho => by
        rw [eds_cut2 (by omega), List.mem_cons] at he
        rcases he with rfl | he
        · exact hc (on_swap ho)
        · obtain ⟨j, hj, rfl⟩ := List.mem_map.1 he
          have := List.mem_range.1 hj
          exact hoff _ (edn_mem (by omega)) ho
      have hs := hsum (1, 0)
      rcases L with ⟨h, _⟩ | ⟨_, w, l⟩ | ⟨_, w, l⟩
      · exact absurd h hon
      all_goals
        rcases L1 with ⟨⟨e, he, ho⟩, _⟩ | ⟨_, w1, l1⟩ | ⟨_, w1, l1⟩
        · exact absurd ho (off1 e he)
        all_goals
          rcases L2 with ⟨⟨e, he, ho⟩, _⟩ | ⟨_, w2, l2⟩ | ⟨_, w2, l2⟩
          · exact absurd ho (off2 e he)
          all_goals
            have u := w _ d10
            have u1 := w1 _ d10
            have u2 := w2 _ d10
            rw [l, l1, l2]
            omega
end Go.Geo

namespace Go.Geo
set_option maxRecDepth 100000
set_option maxHeartbeats 4000000
set_option linter.unusedSimpArgs false
set_option linter.unusedVariables false
open Go Go.Zv
theorem find_some {n : Nat} {P : Nat → Bool} : ((List.range n).find? P).isSome = (List.range n).any P := by
  rw [Bool.eq_iff_iff, List.find?_isSome, List.any_eq_true]
theorem FC_isSome (a b : List Pt) : (FC a b).isSome = ((List.range a.length).any (fun i => (List.range b.length).any fun j => cutE (edn a i) (edn b j)) || ((List.range a.length).any (fun i => insB a i b) || (List.range b.length).any (fun j => insB b j a))) := by
  have e1 : (fcE a b).isSome = (List.range a.length).any (fun i => (List.range b.length).any fun j => cutE (edn a i) (edn b j)) := by
    unfold fcE; rw [find_some]
    exact any_congr2 fun i _ => by unfold fcJ; rw [find_some]
  have e2 : (fcA a b).isSome = (List.range a.length).any (fun i => insB a i b) := by unfold fcA; rw [find_some]
  have e3 : (fcA b a).isSome = (List.range b.length).any (fun i => insB b i a) := by unfold fcA; rw [find_some]
  rw [← e1, ← e2, ← e3]
  unfold FC
  cases h1 : fcE a b with
  | some i =>
    have : (fcJ a b i).isSome = true := by
      unfold fcE at h1
      rw [List.find?_range_eq_some] at h1
      exact h1.1
    simp [this]
  | none =>
    cases h2 : fcA a b with
    | some i => simp
    | none => simp
theorem cutE_comm' {a b : List Pt} (ha : a.all mayB = true) (hb : b.all mayB = true) (a0 : 0 < a.length) (b0 : 0 < b.length) (i j : Nat) : cutE (edn b j) (edn a i) = cutE (edn a i) (edn b j) := by
  have h1 := ptn_B ha a0 i
  have h2 := ptn_B ha a0 (i + 1)
  have h3 := ptn_B hb b0 j
  have h4 := ptn_B hb b0 (j + 1)
  unfold edn cutE; exact cut_s2 (B8_of h1 h2 h3 h4)
theorem cutE_sw {a b c d : Pt} (ha : B2 a) (hb : B2 b) (hc : B2 c) (hd : B2 d) : cutE (c, d) (a, b) = cutE (a, b) (c, d) := by
  unfold cutE; exact cut_s2 (B8_of ha hb hc hd)
theorem any_swap {n m : Nat} (f : Nat → Nat → Bool) : ((List.range n).any fun i => (List.range m).any (f i)) = (List.range m).any fun j => (List.range n).any fun i => f i j := by
  rw [Bool.eq_iff_iff]
  simp only [List.any_eq_true]
  exact ⟨fun ⟨i, hi, j, hj, h⟩ => ⟨j, hj, i, hi, h⟩, fun ⟨j, hj, i, hi, h⟩ => ⟨i, hi, j, hj, h⟩⟩
theorem FC_comm {a b : List Pt} (A : Val a) (B : Val b) : (FC a b).isSome = (FC b a).isSome := by
  have a3 := A.n3
  have b3 := B.n3
  rw [FC_isSome, FC_isSome, any_swap]
  have : ((List.range b.length).any fun j => (List.range a.length).any fun i => cutE (edn a i) (edn b j)) = (List.range b.length).any fun j => (List.range a.length).any fun i => cutE (edn b j) (edn a i) :=
    any_congr2 fun j _ => any_congr2 fun i _ => (cutE_comm' A.may B.may (by omega) (by omega) i j).symm
  rw [this]
  cases ((List.range b.length).any fun j => (List.range a.length).any fun i => cutE (edn b j) (edn a i)) <;> cases ((List.range a.length).any fun i => insB a i b) <;> cases ((List.range b.length).any fun j => insB b j a) <;> rfl
theorem icn_comm {a b : List Pt} (A : Val a) (B : Val b) (k i j : Int) : icnB a b k i j = icnB b a (if k = 2 then 3 else if k = 3 then 2 else k) j i := by
  have a3 := A.n3
  have b3 := B.n3
  unfold icnB
  by_cases h1 : k = 1
  · subst h1
    rw [if_pos rfl]
    simp only [show ¬ (1 : Int) = 2 from by decide, show ¬ (1 : Int) = 3 from by decide, if_false, if_true]
    rw [cutE_comm' A.may B.may (by omega) (by omega)]
    cases decide (0 ≤ i ∧ i < a.length) <;> cases decide (0 ≤ j ∧ j < b.length) <;> rfl
  · by_cases h2 : k = 2
    · subst h2; simp
    · by_cases h3 : k = 3
      · subst h3; simp
      · simp [h1, h2, h3]
theorem isep_comm (a b : List Pt) (o d : Int) (h : 0 ≤ o ∧ o ≤ 1) : isepB a b o d = isepB b a (1 - o) d := by
  rcases (show o = 0 ∨ o = 1 by omega) with rfl | rfl
  · simp [isepB]
  · simp [isepB]
/-! separation -/
theorem cr_lin (P Q x : Pt) (y : Pt) : xq (sq (qp Q) (qp P)) (sq (qp y) (qp x)) = ((cr P.1 P.2 Q.1 Q.2 y.1 y.2 - cr P.1 P.2 Q.1 Q.2 x.1 x.2 : Int) : Rat) := by
  rw [Rat.intCast_sub, ← xq_int, ← xq_int]; unfold xq sq; grind
theorem sep_no {a b : List Pt} (A : Val a) (B : Val b) {P Q : Pt} (hP : B2 P) (hQ : B2 Q) (h1 : ∀ p ∈ a, 0 ≤ cr P.1 P.2 Q.1 Q.2 p.1 p.2) (h2 : ∀ q ∈ b, cr P.1 P.2 Q.1 Q.2 q.1 q.2 < 0) :
    (∀ e ∈ eds a, ∀ f ∈ eds b, cutE e f = false) ∧ (∀ p ∈ a, locI b p = -1) ∧ ∀ q ∈ b, locI a q = -1 := by
  have b3 := B.n3
  have hd : sq (qp Q) (qp P) ≠ (0, 0) := by
    intro e
    have hq := h2 _ (ptn_mem (l := b) 0 (by omega))
    have := xq_int P Q (ptn b 0)
    rw [e] at this
    have z : xq (0, 0) (sq (qp (ptn b 0)) (qp P)) = 0 := by unfold xq; grind
    rw [z] at this
    have := Rat.intCast_neg_iff.2 hq
    grind
  refine ⟨fun e he f hf => ?_, fun p hp => ?_, fun q hq => ?_⟩
  · cases hc : cutE e f with
    | false => rfl
    | true =>
      exfalso
      obtain ⟨e1, e2⟩ := eds_B A.may he
      obtain ⟨f1, f2⟩ := eds_B B.may hf
      obtain ⟨z, z1, z2⟩ := (cut_meets e1 e2 f1 f2).1 hc
      obtain ⟨m1, m2⟩ := eds_mem he
      obtain ⟨m3, m4⟩ := eds_mem hf
      obtain ⟨s, s0, s1, hs⟩ := on_param z1
      obtain ⟨t, t0, t1, ht⟩ := on_param z2
      have k1 := Rat.intCast_nonneg.2 (h1 _ m1)
      have k2 := Rat.intCast_nonneg.2 (h1 _ m2)
      have k3 := Rat.intCast_neg_iff.2 (h2 _ m3)
      have k4 := Rat.intCast_neg_iff.2 (h2 _ m4)
      rw [← xq_int] at k1 k2 k3 k4
      have w1 : xq (sq (qp Q) (qp P)) (sq z (qp P)) = (1 - s) * xq (sq (qp Q) (qp P)) (sq (qp e.1) (qp P)) + s * xq (sq (qp Q) (qp P)) (sq (qp e.2) (qp P)) := by rw [hs]; unfold xq sq onp; grind
      have w2 : xq (sq (qp Q) (qp P)) (sq z (qp P)) = (1 - t) * xq (sq (qp Q) (qp P)) (sq (qp f.1) (qp P)) + t * xq (sq (qp Q) (qp P)) (sq (qp f.2) (qp P)) := by rw [ht]; unfold xq sq onp; grind
      have n1 := Rat.mul_nonneg (show 0 ≤ 1 - s by grind) k1
      have n2 := Rat.mul_nonneg s0 k2
      have n3 : xq (sq (qp Q) (qp P)) (sq z (qp P)) < 0 := by
        rw [w2]
        by_cases ht0 : t = 0
        · rw [ht0]; grind
        · have n3 := Rat.mul_nonneg (show 0 ≤ 1 - t by grind) (show 0 ≤ -xq (sq (qp Q) (qp P)) (sq (qp f.1) (qp P)) by grind)
          have n4 := Rat.mul_pos (show 0 < t by grind) (show 0 < -xq (sq (qp Q) (qp P)) (sq (qp f.2) (qp P)) by grind)
          grind
      rw [w1] at n3
      grind
  · refine loc_side B.may (mayB_B2 (List.all_eq_true.1 A.may _ hp)) hd fun q hq => ?_
    rw [cr_lin, Rat.intCast_neg_iff]
    have := h1 p hp; have := h2 q hq; omega
  · refine loc_side' A.may (mayB_B2 (List.all_eq_true.1 B.may _ hq)) hd fun p hp => ?_
    rw [cr_lin, Rat.intCast_pos]
    have := h1 p hp; have := h2 q hq; omega
theorem ori_sgn {P Q x : Pt} (hP : B2 P) (hQ : B2 Q) (hx : B2 x) : oriE P Q x < 0 ↔ cr P.1 P.2 Q.1 Q.2 x.1 x.2 < 0 := by
  unfold oriE
  rw [crW_B hP.1 hP.2 hQ.1 hQ.2 hx.1 hx.2]
  unfold sgn; repeat' split
  all_goals omega
theorem sepAt_no {a b : List Pt} (A : Val a) (B : Val b) (hc : cvxB a = true) {d : Int} (h : sepAt a b d = true) : (∀ e ∈ eds a, ∀ f ∈ eds b, cutE e f = false) ∧ (∀ p ∈ a, locI b p = -1) ∧ ∀ q ∈ b, locI a q = -1 := by
  have a3 := A.n3
  unfold sepAt at h
  rw [Bool.and_eq_true, decide_eq_true_eq] at h
  obtain ⟨hd, hb⟩ := h
  have b1 := ptn_B A.may (by omega) d.toNat
  have b2 := ptn_B A.may (by omega) (d.toNat + 1)
  refine sep_no A B b1 b2 (fun p hp => ?_) fun q hq => ?_
  · unfold cvxB at hc
    rw [Bool.not_eq_true', List.any_eq_false] at hc
    have h1 := hc d.toNat (List.mem_range.2 (by omega))
    rw [Bool.not_eq_true, List.any_eq_false] at h1
    obtain ⟨k, hk, rfl⟩ := List.getElem_of_mem hp
    have h2 := h1 k (List.mem_range.2 hk)
    have e : a[k] = ptn a k := by
      have := ptn_get hk
      rw [List.getElem?_eq_getElem hk] at this
      simpa using this
    unfold rgtE at h2
    rw [decide_eq_true_eq, ori_sgn b1 b2 (ptn_B A.may (by omega) k)] at h2
    rw [e]; omega
  · unfold beyB at hb
    have := List.all_eq_true.1 hb q hq
    rw [decide_eq_true_eq] at this
    exact (ori_sgn b1 b2 (mayB_B2 (List.all_eq_true.1 B.may _ hq))).1 this
theorem ins_false {a b : List Pt} {i : Int} (h : ∀ p ∈ a, locI b p = -1) : insB a i b = false := by
  unfold insB
  by_cases h1 : 0 ≤ i
  · by_cases h2 : i < a.length
    · have := h _ (List.mem_of_getElem? (ptn_get (l := a) (k := i.toNat) (by omega)))
      simp [this]
    · simp [h2]
  · simp [h1]
theorem no_contact {a b : List Pt} (h1 : ∀ e ∈ eds a, ∀ f ∈ eds b, cutE e f = false) (h2 : ∀ p ∈ a, locI b p = -1) (h3 : ∀ q ∈ b, locI a q = -1) : (FC a b).isSome = false ∧ ∀ k i j, icnB a b k i j = false := by
  constructor
  · rw [FC_isSome]
    simp only [Bool.or_eq_false_iff, List.any_eq_false]
    refine ⟨fun i hi h => ?_, fun i _ => by rw [ins_false h2]; simp, fun i _ => by rw [ins_false h3]; simp⟩
    rw [List.any_eq_true] at h
    obtain ⟨j, hj, h⟩ := h
    rw [h1 _ (edn_mem (List.mem_range.1 hi)) _ (edn_mem (List.mem_range.1 hj))] at h
    cases h
  · intro k i j
    unfold icnB
    by_cases k1 : k = 1
    · rw [if_pos k1]
      by_cases hi : 0 ≤ i ∧ i < a.length
      · by_cases hj : 0 ≤ j ∧ j < b.length
        · rw [h1 _ (edn_mem (l := a) (i := i.toNat) (by omega)) _ (edn_mem (l := b) (i := j.toNat) (by omega))]; simp
        · simp [hj]
      · simp [hi]
    · rw [if_neg k1, ins_false h2, ins_false h3]; simp
theorem isep_no {a b : List Pt} (A : Val a) (B : Val b) {o d : Int} (ca : o = 0 → cvxB a = true) (cb : o = 1 → cvxB b = true) (h : isepB a b o d = true) : (FC a b).isSome = false ∧ ∀ k i j, icnB a b k i j = false := by
  unfold isepB at h
  by_cases ho : o = 1
  · rw [if_pos ho] at h
    obtain ⟨h1, h2, h3⟩ := sepAt_no B A (cb ho) h
    refine no_contact (fun e he f hf => ?_) h3 h2
    obtain ⟨e1, e2⟩ := eds_B A.may he
    obtain ⟨f1, f2⟩ := eds_B B.may hf
    have := cutE_sw f1 f2 e1 e2
    rw [show (e.1, e.2) = e from rfl, show (f.1, f.2) = f from rfl] at this
    rw [this]; exact h1 f hf e he
  · rw [if_neg ho, Bool.and_eq_true, decide_eq_true_eq] at h
    obtain ⟨h1, h2, h3⟩ := sepAt_no A B (ca h.1) h.2
    exact no_contact h1 h2 h3
/-! the criterion -/
theorem loc_same {a b : List Pt} (A : Val a) (B : Val b) (h : ∀ i j, i < a.length → j < b.length → cutE (edn a i) (edn b j) = false) : ∀ i, i < a.length → locI b (ptn a i) = locI b (ptn a 0) := by
  have a3 := A.n3
  have b3 := B.n3
  intro i
  induction i with
  | zero => intro _; rfl
  | succ i ih =>
    intro hi
    rw [← ih (by omega)]
    refine ((loc_walk B.may (ptn_B A.may (by omega) i) (ptn_B A.may (by omega) (i + 1)) fun e he => ?_).1).symm
    rw [eds_range, List.mem_map] at he
    obtain ⟨j, hj, rfl⟩ := he
    have hj := List.mem_range.1 hj
    have := cutE_comm' A.may B.may (by omega) (by omega) i j
    show cutE (edn b j) (edn a i) = false
    rw [this]; exact h i j (by omega) hj
theorem loc_vals (l : List Pt) (p : Pt) : locI l p = 0 ∨ locI l p = 1 ∨ locI l p = -1 := by
  unfold locI; split
  · exact .inl rfl
  · split
    · exact .inr (.inl rfl)
    · exact .inr (.inr rfl)
theorem criterion {a b : List Pt} (A : Val a) (B : Val b) : (FC a b).isSome = ((List.range a.length).any (fun i => (List.range b.length).any fun j => cutE (edn a i) (edn b j)) || (decide (0 ≤ locI b (ptn a 0)) || decide (0 ≤ locI a (ptn b 0)))) := by
  have a3 := A.n3
  have b3 := B.n3
  rw [FC_isSome]
  cases hc : (List.range a.length).any (fun i => (List.range b.length).any fun j => cutE (edn a i) (edn b j)) with
  | true => rfl
  | false =>
    have hn : ∀ i j, i < a.length → j < b.length → cutE (edn a i) (edn b j) = false := fun i j hi hj => by
      have h1 := List.any_eq_false.1 hc i (List.mem_range.2 hi)
      rw [Bool.not_eq_true] at h1
      have h2 := List.any_eq_false.1 h1 j (List.mem_range.2 hj)
      simpa using h2
    have key : ∀ {a b : List Pt}, Val a → Val b → (∀ i j, i < a.length → j < b.length → cutE (edn a i) (edn b j) = false) → (List.range a.length).any (fun i => insB a i b) = decide (0 ≤ locI b (ptn a 0)) := by
      intro a b A B hn
      have a3 := A.n3
      have hs := loc_same A B hn
      have lv := loc_vals b (ptn a 0)
      rw [Bool.eq_iff_iff, List.any_eq_true, decide_eq_true_eq]
      constructor
      · rintro ⟨i, hi, h⟩
        have hi := List.mem_range.1 hi
        unfold insB at h
        simp only [Bool.and_eq_true, decide_eq_true_eq] at h
        have := h.2.2
        rw [Int.toNat_natCast, hs i hi] at this
        omega
      · intro h
        refine ⟨0, List.mem_range.2 (by omega), ?_⟩
        unfold insB
        simp only [Bool.and_eq_true, decide_eq_true_eq]
        refine ⟨by omega, by omega, ?_⟩
        show locI b (ptn a 0) ≠ -1
        omega
    rw [key A B hn, key B A fun i j hi hj => by rw [cutE_comm' A.may B.may (by omega) (by omega)]; exact hn j i hj hi]
end Go.Geo

namespace Go.Geo
set_option maxRecDepth 100000
set_option maxHeartbeats 4000000
set_option linter.unusedSimpArgs false
set_option linter.unusedVariables false
open Go Go.Zv
theorem find_congr {n : Nat} {f g : Nat → Bool} (h : ∀ i, i < n → f i = g i) : (List.range n).find? f = (List.range n).find? g := by
  have : ∀ l : List Nat, (∀ i ∈ l, f i = g i) → l.find? f = l.find? g := by
    intro l
    induction l with
    | nil => intro _; rfl
    | cons a l ih =>
      intro h
      rw [List.find?_cons, List.find?_cons, h a (by simp), ih fun i hi => h i (by simp [hi])]
  exact this _ fun i hi => h i (List.mem_range.1 hi)
theorem FC_moved {a b : List Pt} {M : Mot} {f : Pt → Pt} (ha : Moved M f a) (hb : Moved M f b) (a0 : 0 < a.length) (b0 : 0 < b.length) : FC (a.map f) (b.map f) = FC a b := by
  have ba := ptn_B ha.may a0
  have bb := ptn_B hb.may b0
  have ba' := ptn_B ha.may' (by rw [ha.len]; exact a0)
  have bb' := ptn_B hb.may' (by rw [hb.len]; exact b0)
  have hcut : ∀ i j, cutE (edn (a.map f) i) (edn (b.map f) j) = cutE (edn a i) (edn b j) := fun i j => by
    unfold edn
    rw [Bool.eq_iff_iff, cut_meets (ba' _) (ba' _) (bb' _) (bb' _), cut_meets (ba _) (ba _) (bb _) (bb _), ha.pt a0, ha.pt a0, hb.pt b0, hb.pt b0, M.meets_app]
  have ins : ∀ {a b : List Pt}, Moved M f a → Moved M f b → 0 < a.length → ∀ i : Nat, i < a.length → insB (a.map f) i (b.map f) = insB a i b := by
    intro a b ha hb a0 i hi
    unfold insB
    rw [ha.len, Int.toNat_natCast, ptn_map f a0]
    have hm := ptn_mem (l := a) i a0
    have := hb.loc (p := ptn a i) (ptn_B ha.may a0 i) (by
      have := ptn_B ha.may' (by rw [ha.len]; exact a0) i
      rw [ptn_map f a0] at this
      exact this) (ha.mv _ hm)
    rw [this]
  have e1 : ∀ i, fcJ (a.map f) (b.map f) i = fcJ a b i := fun i => by
    unfold fcJ; rw [hb.len]; exact find_congr fun j _ => hcut i j
  have e2 : fcE (a.map f) (b.map f) = fcE a b := by
    unfold fcE; rw [ha.len]; exact find_congr fun i _ => by rw [e1]
  have e3 : fcA (a.map f) (b.map f) = fcA a b := by
    unfold fcA; rw [ha.len]; exact find_congr fun i hi => ins ha hb a0 i hi
  have e4 : fcA (b.map f) (a.map f) = fcA b a := by
    unfold fcA; rw [hb.len]; exact find_congr fun i hi => ins hb ha b0 i hi
  unfold FC
  rw [e2, e3, e4]
  cases fcE a b with
  | some i => simp only [e1]
  | none => rfl
theorem FC_self {a : List Pt} (A : Val a) : FC a a = some (1, 0, 0) := by
  have a3 := A.n3
  have hc : cutE (edn a 0) (edn a 0) = true := by
    have b0 := ptn_B A.may (by omega) 0
    have b1 := ptn_B A.may (by omega) 1
    unfold edn cutE
    exact cut_end (B8_of b0 b1 b0 b1)
  have e1 : fcJ a a 0 = some 0 := by
    unfold fcJ; rw [List.find?_range_eq_some]
    exact ⟨hc, List.mem_range.2 (by omega), fun j hj => by omega⟩
  have e2 : fcE a a = some 0 := by
    unfold fcE; rw [List.find?_range_eq_some]
    exact ⟨by rw [e1]; rfl, List.mem_range.2 (by omega), fun j hj => by omega⟩
  unfold FC
  rw [e2]; simp only [e1]; rfl
end Go.Geo

/- The engine, part 32: a call without free variables, evaluated with fuel. -/
namespace Go.Zv
set_option autoImplicit false
theorem pc_of_run {E : FuncId → Option AFn} (n : Nat) {f : FuncId} {args : List LV} {v : LV} (h : pureCall (run E n) f args = some v) : pc E f args = some v :=
  (nice_pure f args).mono (fun _ _ h => Run_iff.2 ⟨n, h⟩) h
end Go.Zv

namespace Go.Proofs.Ytnecdcaaknhgpaa
set_option maxRecDepth 100000
set_option maxHeartbeats 4000000
set_option linter.unusedSimpArgs false
set_option linter.unusedVariables false
open Go Go.Zv
theorem wr_nat {n : Nat} (h : n < 9223372036854775808) : IntKind.i64.wrap (n : Int) = n := by
  simp [IntKind.wrap, IntKind.signed, IntKind.bits]; omega
theorem wr_succ {n : Nat} (h : n + 1 < 9223372036854775808) : IntKind.i64.wrap ((n : Int) + 1) = ((n + 1 : Nat) : Int) := by
  have := wr_nat h; simpa using this
theorem tmod_pos {x n : Int} (h : 0 ≤ x) : x.tmod n = x % n := Int.tmod_eq_emod_of_nonneg h
theorem tmod36 (q : Int) : (if q.tmod 36 < 0 then q.tmod 36 + 36 else q.tmod 36) = q % 36 := by
  by_cases h : 0 ≤ q
  · rw [tmod_pos h]; split <;> omega
  · obtain ⟨p, rfl⟩ : ∃ p : Int, q = -p := ⟨-q, by omega⟩
    rw [Int.neg_tmod, tmod_pos (by omega)]
    split <;> omega
theorem tb36 (q : Int) : -36 < q.tmod 36 ∧ q.tmod 36 < 36 := ⟨Int.lt_tmod_of_pos q (by omega), Int.tmod_lt_of_pos q (by omega)⟩
theorem c120 (q : Int) : pc E 120 [.int .i64 q] = some (.int .i64 (q % 36)) := by
  have h := tmod36 q
  have hb := tb36 q
  have w : IntKind.i64.wrap (q.tmod 36 + 36) = q.tmod 36 + 36 := wrap_small (by omega) (by omega)
  by_cases hc : q.tmod 36 < 0
  · rw [if_pos hc] at h
    have w2 : IntKind.i64.wrap (q % 36) = q % 36 := wrap_small (by omega) (by omega)
    rw [pc_eq]; simp +contextual -implicitDefEqProofs (maxSteps := 2000000) only [go_sem, ↓reduceIte, Nat.reduceAdd, Nat.reduceMul, Nat.reduceSub, Nat.reduceEqDiff, Nat.reduceLeDiff, Nat.reduceDiv, Nat.reduceMod, Nat.reduceBEq, Nat.reduceBNe, reduceCtorEq, Int.reduceLE, Int.reduceLT, Int.reduceToNat, Int.reduceNeg, Nat.reduceLT, Int.reduceEq, Int.reduceSub, Int.reduceAdd, Int.reduceMul, Nat.reducePow, Int.reduceBEq, Int.reduceBNe, Int.reduceMod, E_120, A120, hc, w, h, w2]
  · rw [if_neg hc] at h
    rw [h] at hc
    rw [pc_eq]; simp +contextual -implicitDefEqProofs (maxSteps := 2000000) only [go_sem, ↓reduceIte, Nat.reduceAdd, Nat.reduceMul, Nat.reduceSub, Nat.reduceEqDiff, Nat.reduceLeDiff, Nat.reduceDiv, Nat.reduceMod, Nat.reduceBEq, Nat.reduceBNe, reduceCtorEq, Int.reduceLE, Int.reduceLT, Int.reduceToNat, Int.reduceNeg, Nat.reduceLT, Int.reduceEq, Int.reduceSub, Int.reduceAdd, Int.reduceMul, Nat.reducePow, Int.reduceBEq, Int.reduceBNe, Int.reduceMod, E_120, A120, h, hc]
theorem c121 : pc E 121 [] = some (.agg [.int .i64 65, .int .i64 0, .int .i64 63, .int .i64 16, .int .i64 60, .int .i64 25, .int .i64 56, .int .i64 33, .int .i64 52, .int .i64 39, .int .i64 39, .int .i64 52, .int .i64 33, .int .i64 56, .int .i64 25, .int .i64 60, .int .i64 16, .int .i64 63]) := by
  rw [pc_eq]; simp +contextual -implicitDefEqProofs (maxSteps := 2000000) only [go_sem, ↓reduceIte, Nat.reduceAdd, Nat.reduceMul, Nat.reduceSub, Nat.reduceEqDiff, Nat.reduceLeDiff, Nat.reduceDiv, Nat.reduceMod, Nat.reduceBEq, Nat.reduceBNe, reduceCtorEq, Int.reduceLE, Int.reduceLT, Int.reduceToNat, Int.reduceNeg, Nat.reduceLT, Int.reduceEq, Int.reduceSub, Int.reduceAdd, Int.reduceMul, Nat.reducePow, Int.reduceBEq, Int.reduceBNe, Int.reduceMod, E_121, A121]
theorem c91 (x y : Int) (h1 : -1000000000000 ≤ y) (h2 : y ≤ 1000000000000) : pc E 91 [.agg [.int .i64 x, .int .i64 y]] = some (.agg [.int .i64 (-y), .int .i64 x]) := by
  have w : IntKind.i64.wrap (0 - y) = -y := by rw [wrap_small (by omega) (by omega)]; omega
  rw [pc_eq]; simp +contextual -implicitDefEqProofs (maxSteps := 2000000) only [go_sem, ↓reduceIte, Nat.reduceAdd, Nat.reduceMul, Nat.reduceSub, Nat.reduceEqDiff, Nat.reduceLeDiff, Nat.reduceDiv, Nat.reduceMod, Nat.reduceBEq, Nat.reduceBNe, reduceCtorEq, Int.reduceLE, Int.reduceLT, Int.reduceToNat, Int.reduceNeg, Nat.reduceLT, Int.reduceEq, Int.reduceSub, Int.reduceAdd, Int.reduceMul, Nat.reducePow, Int.reduceBEq, Int.reduceBNe, Int.reduceMod, E_91, A91, w]
/-- cosine and sine, times 65 -/
def cs : Nat → Int × Int
  | 0 => (65, 0) | 1 => (63, 16) | 2 => (60, 25) | 3 => (56, 33) | 4 => (52, 39) | 5 => (39, 52) | 6 => (33, 56) | 7 => (25, 60) | 8 => (16, 63)
  | 9 => (0, 65) | 10 => (-16, 63) | 11 => (-25, 60) | 12 => (-33, 56) | 13 => (-39, 52) | 14 => (-52, 39) | 15 => (-56, 33) | 16 => (-60, 25) | 17 => (-63, 16)
  | 18 => (-65, 0) | 19 => (-63, -16) | 20 => (-60, -25) | 21 => (-56, -33) | 22 => (-52, -39) | 23 => (-39, -52) | 24 => (-33, -56) | 25 => (-25, -60) | 26 => (-16, -63)
  | 27 => (0, -65) | 28 => (16, -63) | 29 => (25, -60) | 30 => (33, -56) | 31 => (39, -52) | 32 => (52, -39) | 33 => (56, -33) | 34 => (60, -25) | 35 => (63, -16)
  | _ => (65, 0)
def csI (q : Int) : Int × Int := cs (q % 36).toNat
theorem cases36 {k : Int} (h1 : 0 ≤ k) (h2 : k < 36) : k = 0 ∨ k = 1 ∨ k = 2 ∨ k = 3 ∨ k = 4 ∨ k = 5 ∨ k = 6 ∨ k = 7 ∨ k = 8 ∨ k = 9 ∨ k = 10 ∨ k = 11 ∨ k = 12 ∨ k = 13 ∨ k = 14 ∨ k = 15 ∨ k = 16 ∨ k = 17 ∨ k = 18 ∨ k = 19 ∨ k = 20 ∨ k = 21 ∨ k = 22 ∨ k = 23 ∨ k = 24 ∨ k = 25 ∨ k = 26 ∨ k = 27 ∨ k = 28 ∨ k = 29 ∨ k = 30 ∨ k = 31 ∨ k = 32 ∨ k = 33 ∨ k = 34 ∨ k = 35 := by omega
theorem left_ok (x y : Int) (h1 : -65 ≤ y) (h2 : y ≤ 65) : pc E 91 [.agg [.int .i64 x, .int .i64 y]] = some (.agg [.int .i64 (-y), .int .i64 x]) := c91 x y (by omega) (by omega)
end Go.Proofs.Ytnecdcaaknhgpaa

namespace Go.Proofs.Ytnecdcaaknhgpaa
set_option maxRecDepth 100000
set_option maxHeartbeats 4000000
set_option linter.unusedSimpArgs false
set_option linter.unusedVariables false
open Go Go.Zv
theorem c109 (q : Int) : pc E 109 [.int .i64 q] = some (.tup [.int .i64 (csI q).1, .int .i64 (csI q).2]) := by
  have h := c120 q
  have h1 : 0 ≤ q % 36 := by omega
  have h2 : q % 36 < 36 := by omega
  unfold csI
  generalize q % 36 = k at *
  rcases cases36 h1 h2 with rfl | rfl | rfl | rfl | rfl | rfl | rfl | rfl | rfl | rfl | rfl | rfl | rfl | rfl | rfl | rfl | rfl | rfl | rfl | rfl | rfl | rfl | rfl | rfl | rfl | rfl | rfl | rfl | rfl | rfl | rfl | rfl | rfl | rfl | rfl | rfl <;>
    (rw [pc_eq]; simp +contextual -implicitDefEqProofs (maxSteps := 2000000) only [go_sem, ↓reduceIte, Nat.reduceAdd, Nat.reduceMul, Nat.reduceSub, Nat.reduceEqDiff, Nat.reduceLeDiff, Nat.reduceDiv, Nat.reduceMod, Nat.reduceBEq, Nat.reduceBNe, reduceCtorEq, Int.reduceLE, Int.reduceLT, Int.reduceToNat, Int.reduceNeg, Nat.reduceLT, Int.reduceEq, Int.reduceSub, Int.reduceAdd, Int.reduceMul, Nat.reducePow, Int.reduceBEq, Int.reduceBNe, Int.reduceMod, E_109, A109, h, c121, A109_L0_eq, A109_L0b, Int.reduceTDiv, Int.reduceTMod, left_ok, Int.neg_neg]) <;> rfl
end Go.Proofs.Ytnecdcaaknhgpaa

namespace Go.Proofs.Ytnecdcaaknhgpaa
set_option maxRecDepth 100000
set_option maxHeartbeats 4000000
set_option linter.unusedSimpArgs false
set_option linter.unusedVariables false
open Go Go.Zv
theorem sq_nn (x : Int) : 0 ≤ x * x := by
  rcases Int.lt_or_le x 0 with h | h
  · have := Int.mul_nonneg (show 0 ≤ -x by omega) (show 0 ≤ -x by omega); rwa [Int.neg_mul_neg] at this
  · exact Int.mul_nonneg h h
theorem sq_lt {r x : Int} (hr : 0 ≤ r) (h : r < x) : r * r < x * x := by
  have h1 : r * r ≤ r * x := Int.mul_le_mul_of_nonneg_left (by omega) hr
  have h2 : r * x < x * x := Int.mul_lt_mul_of_pos_right h (by omega)
  omega
theorem abs_of_sq {x r : Int} (hr : 0 ≤ r) (h : x * x ≤ r * r) : -r ≤ x ∧ x ≤ r := by
  constructor
  · refine Int.not_lt.1 fun hx => ?_
    have h1 : r * r < (-x) * (-x) := sq_lt hr (by omega)
    rw [Int.neg_mul_neg] at h1; omega
  · refine Int.not_lt.1 fun hx => ?_
    have h1 : r * r < x * x := sq_lt hr hx
    omega
/-- a valid direction -/
structure VD (x y r : Int) : Prop where
  r0 : 0 ≤ r
  eq : x * x + y * y = r * r
theorem VD.x {x y r : Int} (h : VD x y r) : -r ≤ x ∧ x ≤ r := abs_of_sq h.r0 (by have := sq_nn y; have := h.eq; omega)
theorem VD.y {x y r : Int} (h : VD x y r) : -r ≤ y ∧ y ≤ r := abs_of_sq h.r0 (by have := sq_nn x; have := h.eq; omega)
theorem cs_norm (k : Nat) : (cs k).1 * (cs k).1 + (cs k).2 * (cs k).2 = 65 * 65 := by
  unfold cs; split <;> rfl
theorem csI_norm (q : Int) : (csI q).1 * (csI q).1 + (csI q).2 * (csI q).2 = 65 * 65 := cs_norm _
theorem csV (q : Int) : VD (csI q).1 (csI q).2 65 := ⟨by omega, csI_norm q⟩
theorem VD.mul {x y r c s t : Int} (h : VD x y r) (k : VD c s t) : VD (x * c - y * s) (x * s + y * c) (r * t) := by
  refine ⟨Int.mul_nonneg h.r0 k.r0, ?_⟩
  have e : (x * c - y * s) * (x * c - y * s) + (x * s + y * c) * (x * s + y * c) = (x * x + y * y) * (c * c + s * s) := by grind
  rw [e, h.eq, k.eq]; grind
theorem c86_0 : pc E 86 [.int .i64 0] = some (.int .i64 1) := by rw [pc_eq]; simp +contextual -implicitDefEqProofs (maxSteps := 2000000) only [go_sem, ↓reduceIte, Nat.reduceAdd, Nat.reduceMul, Nat.reduceSub, Nat.reduceEqDiff, Nat.reduceLeDiff, Nat.reduceDiv, Nat.reduceMod, Nat.reduceBEq, Nat.reduceBNe, reduceCtorEq, Int.reduceLE, Int.reduceLT, Int.reduceToNat, Int.reduceNeg, Nat.reduceLT, Int.reduceEq, Int.reduceSub, Int.reduceAdd, Int.reduceMul, Nat.reducePow, Int.reduceBEq, Int.reduceBNe, Int.reduceMod, E_86, A86, A86_L0_eq, A86_L0b]
theorem c86_1 : pc E 86 [.int .i64 1] = some (.int .i64 65) := by rw [pc_eq]; simp +contextual -implicitDefEqProofs (maxSteps := 2000000) only [go_sem, ↓reduceIte, Nat.reduceAdd, Nat.reduceMul, Nat.reduceSub, Nat.reduceEqDiff, Nat.reduceLeDiff, Nat.reduceDiv, Nat.reduceMod, Nat.reduceBEq, Nat.reduceBNe, reduceCtorEq, Int.reduceLE, Int.reduceLT, Int.reduceToNat, Int.reduceNeg, Nat.reduceLT, Int.reduceEq, Int.reduceSub, Int.reduceAdd, Int.reduceMul, Nat.reducePow, Int.reduceBEq, Int.reduceBNe, Int.reduceMod, E_86, A86, A86_L0_eq, A86_L0b]
theorem c86_2 : pc E 86 [.int .i64 2] = some (.int .i64 4225) := by rw [pc_eq]; simp +contextual -implicitDefEqProofs (maxSteps := 2000000) only [go_sem, ↓reduceIte, Nat.reduceAdd, Nat.reduceMul, Nat.reduceSub, Nat.reduceEqDiff, Nat.reduceLeDiff, Nat.reduceDiv, Nat.reduceMod, Nat.reduceBEq, Nat.reduceBNe, reduceCtorEq, Int.reduceLE, Int.reduceLT, Int.reduceToNat, Int.reduceNeg, Nat.reduceLT, Int.reduceEq, Int.reduceSub, Int.reduceAdd, Int.reduceMul, Nat.reducePow, Int.reduceBEq, Int.reduceBNe, Int.reduceMod, E_86, A86, A86_L0_eq, A86_L0b]
theorem c86_3 : pc E 86 [.int .i64 3] = some (.int .i64 274625) := by rw [pc_eq]; simp +contextual -implicitDefEqProofs (maxSteps := 2000000) only [go_sem, ↓reduceIte, Nat.reduceAdd, Nat.reduceMul, Nat.reduceSub, Nat.reduceEqDiff, Nat.reduceLeDiff, Nat.reduceDiv, Nat.reduceMod, Nat.reduceBEq, Nat.reduceBNe, reduceCtorEq, Int.reduceLE, Int.reduceLT, Int.reduceToNat, Int.reduceNeg, Nat.reduceLT, Int.reduceEq, Int.reduceSub, Int.reduceAdd, Int.reduceMul, Nat.reducePow, Int.reduceBEq, Int.reduceBNe, Int.reduceMod, E_86, A86, A86_L0_eq, A86_L0b]
/-- 65 to the power n -/
def p65 : Nat → Int
  | 0 => 1 | 1 => 65 | 2 => 4225 | _ => 274625
theorem c86 (n : Nat) (h : n ≤ 3) : pc E 86 [.int .i64 n] = some (.int .i64 (p65 n)) := by
  rcases (show n = 0 ∨ n = 1 ∨ n = 2 ∨ n = 3 by omega) with rfl | rfl | rfl | rfl
  · exact c86_0
  · exact c86_1
  · exact c86_2
  · exact c86_3
theorem p65_bd (n : Nat) : 1 ≤ p65 n ∧ p65 n ≤ 274625 := by unfold p65; split <;> omega
theorem p65_succ {n : Nat} (h : n ≤ 2) : p65 n * 65 = p65 (n + 1) := by
  rcases (show n = 0 ∨ n = 1 ∨ n = 2 by omega) with rfl | rfl | rfl <;> rfl
theorem mul_bd {x y A C : Int} (h1 : -A ≤ x) (h2 : x ≤ A) (h3 : -C ≤ y) (h4 : y ≤ C) : -(A * C) ≤ x * y ∧ x * y ≤ A * C := by
  have a1 : 0 ≤ A := by omega
  have b1 : 0 ≤ C := by omega
  have e1 := Int.mul_nonneg (show 0 ≤ A - x by omega) (show 0 ≤ C + y by omega)
  have e2 := Int.mul_nonneg (show 0 ≤ A + x by omega) (show 0 ≤ C - y by omega)
  have e3 := Int.mul_nonneg (show 0 ≤ A - x by omega) (show 0 ≤ C - y by omega)
  have e4 := Int.mul_nonneg (show 0 ≤ A + x by omega) (show 0 ≤ C + y by omega)
  constructor <;> grind
theorem c83 (x y q : Int) (hx : -274625 ≤ x ∧ x ≤ 274625) (hy : -274625 ≤ y ∧ y ≤ 274625) : pc E 83 [.agg [.int .i64 x, .int .i64 y], .int .i64 q] = some (.agg [.int .i64 (x * (csI q).1 - y * (csI q).2), .int .i64 (x * (csI q).2 + y * (csI q).1)]) := by
  have h := c109 q
  have v := csV q
  have b1 := v.x
  have b2 := v.y
  generalize (csI q).1 = c at *
  generalize (csI q).2 = s at *
  have m1 := mul_bd hx.1 hx.2 b1.1 b1.2
  have m2 := mul_bd hx.1 hx.2 b2.1 b2.2
  have m3 := mul_bd hy.1 hy.2 b1.1 b1.2
  have m4 := mul_bd hy.1 hy.2 b2.1 b2.2
  have w1 : IntKind.i64.wrap (x * c) = x * c := wrap_small (by omega) (by omega)
  have w2 : IntKind.i64.wrap (x * s) = x * s := wrap_small (by omega) (by omega)
  have w3 : IntKind.i64.wrap (y * c) = y * c := wrap_small (by omega) (by omega)
  have w4 : IntKind.i64.wrap (y * s) = y * s := wrap_small (by omega) (by omega)
  have w5 : IntKind.i64.wrap (x * c - y * s) = x * c - y * s := wrap_small (by omega) (by omega)
  have w6 : IntKind.i64.wrap (x * s + y * c) = x * s + y * c := wrap_small (by omega) (by omega)
  rw [pc_eq]; simp +contextual -implicitDefEqProofs (maxSteps := 2000000) only [go_sem, ↓reduceIte, Nat.reduceAdd, Nat.reduceMul, Nat.reduceSub, Nat.reduceEqDiff, Nat.reduceLeDiff, Nat.reduceDiv, Nat.reduceMod, Nat.reduceBEq, Nat.reduceBNe, reduceCtorEq, Int.reduceLE, Int.reduceLT, Int.reduceToNat, Int.reduceNeg, Nat.reduceLT, Int.reduceEq, Int.reduceSub, Int.reduceAdd, Int.reduceMul, Nat.reducePow, Int.reduceBEq, Int.reduceBNe, Int.reduceMod, E_83, A83, h, w1, w2, w3, w4, w5, w6]
end Go.Proofs.Ytnecdcaaknhgpaa

namespace Go.Proofs.Ytnecdcaaknhgpaa
set_option maxRecDepth 100000
set_option maxHeartbeats 4000000
set_option linter.unusedSimpArgs false
set_option linter.unusedVariables false
open Go Go.Zv
theorem c82 (x y : Int) (n : Nat) (h3 : n ≤ 3) (hv : VD x y (p65 n)) : pc E 82 [.agg [.int .i64 x, .int .i64 y, .int .i64 n]] = some (.bool true) := by
  have h := c86 n h3
  have hx := hv.x
  have hy := hv.y
  have he := hv.eq
  have pb := p65_bd n
  have h0 : ¬ ((n : Int) < 0) := by omega
  have h2 : ¬ ((3 : Int) < n) := by omega
  generalize p65 n = r at *
  have m1 := mul_bd (A := 274625) (C := 274625) (x := x) (y := x) (by omega) (by omega) (by omega) (by omega)
  have m2 := mul_bd (A := 274625) (C := 274625) (x := y) (y := y) (by omega) (by omega) (by omega) (by omega)
  have m3 := mul_bd (A := 274625) (C := 274625) (x := r) (y := r) (by omega) (by omega) (by omega) (by omega)
  have w1 : IntKind.i64.wrap (x * x) = x * x := wrap_small (by omega) (by omega)
  have w2 : IntKind.i64.wrap (y * y) = y * y := wrap_small (by omega) (by omega)
  have w3 : IntKind.i64.wrap (r * r) = r * r := wrap_small (by omega) (by omega)
  have w4 : IntKind.i64.wrap (x * x + y * y) = r * r := by rw [he]; exact w3
  have w5 : IntKind.i64.wrap (0 - r) = -r := by rw [wrap_small (by omega) (by omega)]; omega
  rw [pc_eq]; simp +contextual -implicitDefEqProofs (maxSteps := 2000000) only [go_sem, ↓reduceIte, Nat.reduceAdd, Nat.reduceMul, Nat.reduceSub, Nat.reduceEqDiff, Nat.reduceLeDiff, Nat.reduceDiv, Nat.reduceMod, Nat.reduceBEq, Nat.reduceBNe, reduceCtorEq, Int.reduceLE, Int.reduceLT, Int.reduceToNat, Int.reduceNeg, Nat.reduceLT, Int.reduceEq, Int.reduceSub, Int.reduceAdd, Int.reduceMul, Nat.reducePow, Int.reduceBEq, Int.reduceBNe, Int.reduceMod, E_82, A82, E_108, A108, h, h0, h2, hx.1, hx.2, hy.1, hy.2, w1, w2, w3, w4, w5]
def cx (x y q : Int) : Int := x * (csI q).1 - y * (csI q).2
def cy (x y q : Int) : Int := x * (csI q).2 + y * (csI q).1
theorem cV {x y : Int} {n : Nat} (hn : n ≤ 2) (h : VD x y (p65 n)) (q : Int) : VD (cx x y q) (cy x y q) (p65 (n + 1)) := by
  have := h.mul (csV q)
  rwa [p65_succ hn] at this
theorem VD.bd {x y : Int} {n : Nat} (h : VD x y (p65 n)) : (-274625 ≤ x ∧ x ≤ 274625) ∧ (-274625 ≤ y ∧ y ≤ 274625) := by
  have := h.x; have := h.y; have := p65_bd n; omega
theorem c51 (x y q : Int) (n : Nat) (hn : n ≤ 2) (hv : VD x y (p65 n)) : pc E 51 [.agg [.int .i64 x, .int .i64 y, .int .i64 n], .int .i64 q] = some (.agg [.int .i64 (cx x y q), .int .i64 (cy x y q), .int .i64 (n + 1 : Nat)]) := by
  have h := c82 x y n (by omega) hv
  have h2 := c83 x y q hv.bd.1 hv.bd.2
  have h3 : ((n : Int) == 3) = false := by simp; omega
  have w := wr_succ (n := n) (by omega)
  rw [← cx, ← cy] at h2
  rw [pc_eq]; simp +contextual -implicitDefEqProofs (maxSteps := 2000000) only [go_sem, ↓reduceIte, Nat.reduceAdd, Nat.reduceMul, Nat.reduceSub, Nat.reduceEqDiff, Nat.reduceLeDiff, Nat.reduceDiv, Nat.reduceMod, Nat.reduceBEq, Nat.reduceBNe, reduceCtorEq, Int.reduceLE, Int.reduceLT, Int.reduceToNat, Int.reduceNeg, Nat.reduceLT, Int.reduceEq, Int.reduceSub, Int.reduceAdd, Int.reduceMul, Nat.reducePow, Int.reduceBEq, Int.reduceBNe, Int.reduceMod, E_51, A51, h, h2, h3, w]
def u65 : Nat → Int
  | 0 => 4394000 | 1 => 67600 | 2 => 1040 | _ => 16
theorem tdiv_u : ∀ n : Nat, (4394000 : Int).tdiv (p65 n) = u65 n
  | 0 => rfl | 1 => rfl | 2 => rfl | _ + 3 => rfl
theorem u65_p : ∀ n : Nat, u65 n * p65 n = 4394000
  | 0 => rfl | 1 => rfl | 2 => rfl | _ + 3 => rfl
theorem u65_bd (n : Nat) : 16 ≤ u65 n ∧ u65 n ≤ 4394000 := by unfold u65; split <;> omega
theorem ux_bd {x y : Int} {n : Nat} (hv : VD x y (p65 n)) (m : Int) (hm : 0 ≤ m ∧ m ≤ 40) : (-175760000 ≤ m * u65 n * x ∧ m * u65 n * x ≤ 175760000) ∧ (-175760000 ≤ m * u65 n * y ∧ m * u65 n * y ≤ 175760000) := by
  have hx := hv.x
  have hy := hv.y
  have e := u65_p n
  have pb := p65_bd n
  have ub := u65_bd n
  generalize p65 n = r at *
  generalize u65 n = u at *
  have mu : 0 ≤ m * u := Int.mul_nonneg hm.1 (by omega)
  have k1 : m * u * r ≤ 175760000 := by
    have : m * u * r = m * 4394000 := by rw [Int.mul_assoc, e]
    omega
  have a1 := Int.mul_le_mul_of_nonneg_left hx.1 mu
  have a2 := Int.mul_le_mul_of_nonneg_left hx.2 mu
  have a3 := Int.mul_le_mul_of_nonneg_left hy.1 mu
  have a4 := Int.mul_le_mul_of_nonneg_left hy.2 mu
  rw [Int.mul_neg] at a1 a3
  omega
theorem mu_bd (n : Nat) (m : Int) (hm : 0 ≤ m ∧ m ≤ 40) : 0 ≤ m * u65 n ∧ m * u65 n ≤ 175760000 := by
  have ub := u65_bd n
  have := mul_bd (A := 40) (C := 4394000) (x := m) (y := u65 n) (by omega) (by omega) (by omega) (by omega)
  exact ⟨Int.mul_nonneg hm.1 (by omega), by omega⟩
theorem c55 (x y : Int) (n : Nat) (hn : n ≤ 3) (hv : VD x y (p65 n)) (m : Int) (hm : 0 ≤ m ∧ m ≤ 40) : pc E 55 [.agg [.int .i64 x, .int .i64 y, .int .i64 n], .int .i64 m] = some (.agg [.int .i64 (m * u65 n * x), .int .i64 (m * u65 n * y)]) := by
  have h := c86 n hn
  have t := tdiv_u n
  have b := ux_bd hv m hm
  have mb := mu_bd n m hm
  have ub := u65_bd n
  have pb := p65_bd n
  have nz : ¬ (p65 n = 0) := by omega
  generalize p65 n = r at *
  generalize u65 n = u at *
  have w0 : IntKind.i64.wrap u = u := wrap_small (by omega) (by omega)
  have w1 : IntKind.i64.wrap (m * u) = m * u := wrap_small (by omega) (by omega)
  have w2 : IntKind.i64.wrap (m * u * x) = m * u * x := wrap_small (by omega) (by omega)
  have w3 : IntKind.i64.wrap (m * u * y) = m * u * y := wrap_small (by omega) (by omega)
  rw [pc_eq]; simp +contextual -implicitDefEqProofs (maxSteps := 2000000) only [go_sem, ↓reduceIte, Nat.reduceAdd, Nat.reduceMul, Nat.reduceSub, Nat.reduceEqDiff, Nat.reduceLeDiff, Nat.reduceDiv, Nat.reduceMod, Nat.reduceBEq, Nat.reduceBNe, reduceCtorEq, Int.reduceLE, Int.reduceLT, Int.reduceToNat, Int.reduceNeg, Nat.reduceLT, Int.reduceEq, Int.reduceSub, Int.reduceAdd, Int.reduceMul, Nat.reducePow, Int.reduceBEq, Int.reduceBNe, Int.reduceMod, E_55, A55, h, t, w0, w1, w2, w3, nz]
end Go.Proofs.Ytnecdcaaknhgpaa

namespace Go.Proofs.Ytnecdcaaknhgpaa
set_option maxRecDepth 100000
set_option maxHeartbeats 4000000
set_option linter.unusedSimpArgs false
set_option linter.unusedVariables false
open Go Go.Zv
structure Arm where
  bx : Int
  by_ : Int
  l0 : Int
  l1 : Int
  l2 : Int
  w : Int
  lo0 : Int
  lo1 : Int
  lo2 : Int
  hi0 : Int
  hi1 : Int
  hi2 : Int
abbrev avc (a : Arm) : List LV := [.int .i64 a.bx, .int .i64 a.by_, .int .i64 a.l0, .int .i64 a.l1, .int .i64 a.l2, .int .i64 a.w, .int .i64 a.lo0, .int .i64 a.lo1, .int .i64 a.lo2, .int .i64 a.hi0, .int .i64 a.hi1, .int .i64 a.hi2]
abbrev av (a : Arm) : LV := .agg (avc a)
abbrev jv (q0 q1 q2 : Int) : LV := .agg [.int .i64 q0, .int .i64 q1, .int .i64 q2]
/-- a valid arm -/
structure OKa (a : Arm) : Prop where
  l0 : 1 ≤ a.l0 ∧ a.l0 ≤ 40
  l1 : 1 ≤ a.l1 ∧ a.l1 ≤ 40
  l2 : 1 ≤ a.l2 ∧ a.l2 ≤ 40
  w : 1 ≤ a.w ∧ a.w ≤ 4
  j0 : -17 ≤ a.lo0 ∧ a.lo0 ≤ a.hi0 ∧ a.hi0 ≤ 18
  j1 : -17 ≤ a.lo1 ∧ a.lo1 ≤ a.hi1 ∧ a.hi1 ≤ 18
  j2 : -17 ≤ a.lo2 ∧ a.lo2 ≤ a.hi2 ∧ a.hi2 ≤ 18
  bx : -((100 - (a.w + a.l0 + a.l1 + a.l2)) * 4394000) ≤ a.bx ∧ a.bx ≤ (100 - (a.w + a.l0 + a.l1 + a.l2)) * 4394000
  by_ : -((100 - (a.w + a.l0 + a.l1 + a.l2)) * 4394000) ≤ a.by_ ∧ a.by_ ≤ (100 - (a.w + a.l0 + a.l1 + a.l2)) * 4394000
  mx : a.bx.tmod 16 = 0
  my : a.by_.tmod 16 = 0
theorem VD0 : VD 1 0 (p65 0) := ⟨by simp [p65], by simp [p65]⟩
abbrev dirs (q0 q1 q2 : Int) : List LV := [.int .i64 (cx 1 0 q0), .int .i64 (cy 1 0 q0), .int .i64 1, .int .i64 (cx (cx 1 0 q0) (cy 1 0 q0) q1), .int .i64 (cy (cx 1 0 q0) (cy 1 0 q0) q1), .int .i64 2,
  .int .i64 (cx (cx (cx 1 0 q0) (cy 1 0 q0) q1) (cy (cx 1 0 q0) (cy 1 0 q0) q1) q2), .int .i64 (cy (cx (cx 1 0 q0) (cy 1 0 q0) q1) (cy (cx 1 0 q0) (cy 1 0 q0) q1) q2), .int .i64 3]
theorem c25 (a : Arm) (q0 q1 q2 : Int) : pc E 25 [av a, jv q0 q1 q2] = some (.agg (dirs q0 q1 q2)) := by
  have v1 := cV (n := 0) (by omega) VD0 q0
  have v2 := cV (n := 1) (by omega) v1 q1
  have h1 := c51 1 0 q0 0 (by omega) VD0
  have h2 := c51 _ _ q1 1 (by omega) v1
  have h3 := c51 _ _ q2 2 (by omega) v2
  simp only [Int.natCast_zero, Int.ofNat_zero, Int.natCast_one, Nat.zero_add, Nat.reduceAdd, Int.cast_ofNat_Int] at h1 h2 h3
  unfold dirs
  generalize cx 1 0 q0 = x1 at *
  generalize cy 1 0 q0 = y1 at *
  generalize cx x1 y1 q1 = x2 at *
  generalize cy x1 y1 q1 = y2 at *
  rw [pc_eq]; simp +contextual -implicitDefEqProofs (maxSteps := 2000000) only [go_sem, ↓reduceIte, Nat.reduceAdd, Nat.reduceMul, Nat.reduceSub, Nat.reduceEqDiff, Nat.reduceLeDiff, Nat.reduceDiv, Nat.reduceMod, Nat.reduceBEq, Nat.reduceBNe, reduceCtorEq, Int.reduceLE, Int.reduceLT, Int.reduceToNat, Int.reduceNeg, Nat.reduceLT, Int.reduceEq, Int.reduceSub, Int.reduceAdd, Int.reduceMul, Nat.reducePow, Int.reduceBEq, Int.reduceBNe, Int.reduceMod, E_25, A25, A25_L0_eq, A25_L0b, h1, h2, h3]
end Go.Proofs.Ytnecdcaaknhgpaa

namespace Go.Proofs.Ytnecdcaaknhgpaa
set_option maxRecDepth 100000
set_option maxHeartbeats 4000000
set_option linter.unusedSimpArgs false
set_option linter.unusedVariables false
open Go Go.Zv
theorem c54 (ax ay bx by_ : Int) : pc E 54 [.agg [.int .i64 ax, .int .i64 ay], .agg [.int .i64 bx, .int .i64 by_]] = some (.agg [.int .i64 (IntKind.i64.wrap (ax + bx)), .int .i64 (IntKind.i64.wrap (ay + by_))]) := by
  rw [pc_eq]; simp +contextual -implicitDefEqProofs (maxSteps := 2000000) only [go_sem, ↓reduceIte, Nat.reduceAdd, Nat.reduceMul, Nat.reduceSub, Nat.reduceEqDiff, Nat.reduceLeDiff, Nat.reduceDiv, Nat.reduceMod, Nat.reduceBEq, Nat.reduceBNe, reduceCtorEq, Int.reduceLE, Int.reduceLT, Int.reduceToNat, Int.reduceNeg, Nat.reduceLT, Int.reduceEq, Int.reduceSub, Int.reduceAdd, Int.reduceMul, Nat.reducePow, Int.reduceBEq, Int.reduceBNe, Int.reduceMod, E_54, A54]
theorem c67 (ax ay bx by_ : Int) : pc E 67 [.agg [.int .i64 ax, .int .i64 ay], .agg [.int .i64 bx, .int .i64 by_]] = some (.agg [.int .i64 (IntKind.i64.wrap (ax - bx)), .int .i64 (IntKind.i64.wrap (ay - by_))]) := by
  rw [pc_eq]; simp +contextual -implicitDefEqProofs (maxSteps := 2000000) only [go_sem, ↓reduceIte, Nat.reduceAdd, Nat.reduceMul, Nat.reduceSub, Nat.reduceEqDiff, Nat.reduceLeDiff, Nat.reduceDiv, Nat.reduceMod, Nat.reduceBEq, Nat.reduceBNe, reduceCtorEq, Int.reduceLE, Int.reduceLT, Int.reduceToNat, Int.reduceNeg, Nat.reduceLT, Int.reduceEq, Int.reduceSub, Int.reduceAdd, Int.reduceMul, Nat.reducePow, Int.reduceBEq, Int.reduceBNe, Int.reduceMod, E_67, A67]
structure Pts where
  x1 : Int
  y1 : Int
  x2 : Int
  y2 : Int
  x3 : Int
  y3 : Int
/-- the directions of the links -/
def dd (q0 q1 q2 : Int) : Pts := ⟨cx 1 0 q0, cy 1 0 q0, cx (cx 1 0 q0) (cy 1 0 q0) q1, cy (cx 1 0 q0) (cy 1 0 q0) q1, cx (cx (cx 1 0 q0) (cy 1 0 q0) q1) (cy (cx 1 0 q0) (cy 1 0 q0) q1) q2, cy (cx (cx 1 0 q0) (cy 1 0 q0) q1) (cy (cx 1 0 q0) (cy 1 0 q0) q1) q2⟩
structure DV (d : Pts) : Prop where
  v1 : VD d.x1 d.y1 (p65 1)
  v2 : VD d.x2 d.y2 (p65 2)
  v3 : VD d.x3 d.y3 (p65 3)
theorem ddV (q0 q1 q2 : Int) : DV (dd q0 q1 q2) := ⟨cV (n := 0) (by omega) VD0 q0, cV (n := 1) (by omega) (cV (n := 0) (by omega) VD0 q0) q1, cV (n := 2) (by omega) (cV (n := 1) (by omega) (cV (n := 0) (by omega) VD0 q0) q1) q2⟩
abbrev ddv (d : Pts) : List LV := [.int .i64 d.x1, .int .i64 d.y1, .int .i64 1, .int .i64 d.x2, .int .i64 d.y2, .int .i64 2, .int .i64 d.x3, .int .i64 d.y3, .int .i64 3]
theorem c25' (a : Arm) (q0 q1 q2 : Int) : pc E 25 [av a, jv q0 q1 q2] = some (.agg (ddv (dd q0 q1 q2))) := c25 a q0 q1 q2
def pp (a : Arm) (d : Pts) : Pts := ⟨a.bx + a.l0 * 67600 * d.x1, a.by_ + a.l0 * 67600 * d.y1, a.bx + a.l0 * 67600 * d.x1 + a.l1 * 1040 * d.x2, a.by_ + a.l0 * 67600 * d.y1 + a.l1 * 1040 * d.y2,
  a.bx + a.l0 * 67600 * d.x1 + a.l1 * 1040 * d.x2 + a.l2 * 16 * d.x3, a.by_ + a.l0 * 67600 * d.y1 + a.l1 * 1040 * d.y2 + a.l2 * 16 * d.y3⟩
abbrev ppv (a : Arm) (p : Pts) : List LV := [.int .i64 a.bx, .int .i64 a.by_, .int .i64 p.x1, .int .i64 p.y1, .int .i64 p.x2, .int .i64 p.y2, .int .i64 p.x3, .int .i64 p.y3]
structure Bds (a : Arm) (d : Pts) : Prop where
  o0x : -175760000 ≤ a.l0 * 67600 * d.x1 ∧ a.l0 * 67600 * d.x1 ≤ 175760000
  o0y : -175760000 ≤ a.l0 * 67600 * d.y1 ∧ a.l0 * 67600 * d.y1 ≤ 175760000
  o1x : -175760000 ≤ a.l1 * 1040 * d.x2 ∧ a.l1 * 1040 * d.x2 ≤ 175760000
  o1y : -175760000 ≤ a.l1 * 1040 * d.y2 ∧ a.l1 * 1040 * d.y2 ≤ 175760000
  o2x : -175760000 ≤ a.l2 * 16 * d.x3 ∧ a.l2 * 16 * d.x3 ≤ 175760000
  o2y : -175760000 ≤ a.l2 * 16 * d.y3 ∧ a.l2 * 16 * d.y3 ≤ 175760000
  bx : -439400000 ≤ a.bx ∧ a.bx ≤ 439400000
  by_ : -439400000 ≤ a.by_ ∧ a.by_ ≤ 439400000
theorem bds {a : Arm} (h : OKa a) {d : Pts} (v : DV d) : Bds a d := by
  have a1 := ux_bd v.v1 a.l0 (by have := h.l0; omega)
  have a2 := ux_bd v.v2 a.l1 (by have := h.l1; omega)
  have a3 := ux_bd v.v3 a.l2 (by have := h.l2; omega)
  exact ⟨a1.1, a1.2, a2.1, a2.2, a3.1, a3.2, by have := h.bx; have := h.w; have := h.l0; have := h.l1; have := h.l2; omega, by have := h.by_; have := h.w; have := h.l0; have := h.l1; have := h.l2; omega⟩
theorem c27 (a : Arm) (h : OKa a) (q0 q1 q2 : Int) : pc E 27 [av a, jv q0 q1 q2] = some (.agg (ppv a (pp a (dd q0 q1 q2)))) := by
  have hd := c25' a q0 q1 q2
  have v := ddV q0 q1 q2
  have b := bds h v
  have k1 := c55 _ _ 1 (by omega) v.v1 a.l0 (by have := h.l0; omega)
  have k2 := c55 _ _ 2 (by omega) v.v2 a.l1 (by have := h.l1; omega)
  have k3 := c55 _ _ 3 (by omega) v.v3 a.l2 (by have := h.l2; omega)
  simp only [u65, Int.natCast_one, Int.cast_ofNat_Int] at k1 k2 k3
  generalize dd q0 q1 q2 = d at *
  obtain ⟨o0x, o0y, o1x, o1y, o2x, o2y, bx, by_⟩ := b
  unfold pp
  have g1 := c54 a.bx a.by_ (a.l0 * 67600 * d.x1) (a.l0 * 67600 * d.y1)
  rw [wrap_small (by omega) (by omega), wrap_small (by omega) (by omega)] at g1
  have g2 := c54 (a.bx + a.l0 * 67600 * d.x1) (a.by_ + a.l0 * 67600 * d.y1) (a.l1 * 1040 * d.x2) (a.l1 * 1040 * d.y2)
  rw [wrap_small (by omega) (by omega), wrap_small (by omega) (by omega)] at g2
  have g3 := c54 (a.bx + a.l0 * 67600 * d.x1 + a.l1 * 1040 * d.x2) (a.by_ + a.l0 * 67600 * d.y1 + a.l1 * 1040 * d.y2) (a.l2 * 16 * d.x3) (a.l2 * 16 * d.y3)
  rw [wrap_small (by omega) (by omega), wrap_small (by omega) (by omega)] at g3
  generalize a.l0 * 67600 * d.x1 = e1 at *
  generalize a.l0 * 67600 * d.y1 = e2 at *
  generalize a.l1 * 1040 * d.x2 = e3 at *
  generalize a.l1 * 1040 * d.y2 = e4 at *
  generalize a.l2 * 16 * d.x3 = e5 at *
  generalize a.l2 * 16 * d.y3 = e6 at *
  rw [pc_eq]; simp +contextual -implicitDefEqProofs (maxSteps := 2000000) only [go_sem, ↓reduceIte, Nat.reduceAdd, Nat.reduceMul, Nat.reduceSub, Nat.reduceEqDiff, Nat.reduceLeDiff, Nat.reduceDiv, Nat.reduceMod, Nat.reduceBEq, Nat.reduceBNe, reduceCtorEq, Int.reduceLE, Int.reduceLT, Int.reduceToNat, Int.reduceNeg, Nat.reduceLT, Int.reduceEq, Int.reduceSub, Int.reduceAdd, Int.reduceMul, Nat.reducePow, Int.reduceBEq, Int.reduceBNe, Int.reduceMod, E_27, A27, A27_L0_eq, A27_L0b, hd, k1, k2, k3, E_53, A53, g1, g2, g3]
end Go.Proofs.Ytnecdcaaknhgpaa

namespace Go.Proofs.Ytnecdcaaknhgpaa
set_option maxRecDepth 100000
set_option maxHeartbeats 4000000
set_option linter.unusedSimpArgs false
set_option linter.unusedVariables false
open Go Go.Zv
theorem c64 (x y : Int) (h : -1000000000 ≤ y ∧ y ≤ 1000000000) : pc E 64 [.agg [.int .i64 x, .int .i64 y]] = some (.agg [.int .i64 (-y), .int .i64 x]) := by
  have h1 := c91 x y (by omega) (by omega)
  rw [pc_eq]; simp +contextual -implicitDefEqProofs (maxSteps := 2000000) only [go_sem, ↓reduceIte, Nat.reduceAdd, Nat.reduceMul, Nat.reduceSub, Nat.reduceEqDiff, Nat.reduceLeDiff, Nat.reduceDiv, Nat.reduceMod, Nat.reduceBEq, Nat.reduceBNe, reduceCtorEq, Int.reduceLE, Int.reduceLT, Int.reduceToNat, Int.reduceNeg, Nat.reduceLT, Int.reduceEq, Int.reduceSub, Int.reduceAdd, Int.reduceMul, Nat.reducePow, Int.reduceBEq, Int.reduceBNe, Int.reduceMod, E_64, A64, h1]
def lkc (fx fy tx ty ox oy : Int) : List (Int × Int) := [(fx + oy, fy - ox), (tx + oy, ty - ox), (tx - oy, ty + ox), (fx - oy, fy + ox)]
abbrev pt (p : Int × Int) : LV := .agg [.int .i64 p.1, .int .i64 p.2]
def c2 (p : Int × Int) : List LV := [.int .i64 p.1, .int .i64 p.2]
theorem c48 (a : Arm) (hw : 0 ≤ a.w ∧ a.w ≤ 40) (q0 q1 q2 x y : Int) (n : Nat) (hn : n ≤ 3) (hv : VD x y (p65 n)) (fx fy tx ty : Int) (h1 : -1000000000 ≤ fx ∧ fx ≤ 1000000000) (h2 : -1000000000 ≤ fy ∧ fy ≤ 1000000000) (h3 : -1000000000 ≤ tx ∧ tx ≤ 1000000000) (h4 : -1000000000 ≤ ty ∧ ty ≤ 1000000000) :
    pc E 48 [.agg [.int .i64 a.bx, .int .i64 a.by_, .int .i64 a.l0, .int .i64 a.l1, .int .i64 a.l2, .int .i64 a.w, .int .i64 a.lo0, .int .i64 a.lo1, .int .i64 a.lo2, .int .i64 a.hi0, .int .i64 a.hi1, .int .i64 a.hi2, .int .i64 q0, .int .i64 q1, .int .i64 q2], .agg [.int .i64 x, .int .i64 y, .int .i64 n], .agg [.int .i64 fx, .int .i64 fy], .agg [.int .i64 tx, .int .i64 ty]] =
    some (.os 2 ((lkc fx fy tx ty (a.w * u65 n * x) (a.w * u65 n * y)).map c2)) := by
  have k := c55 x y n hn hv a.w hw
  have b := ux_bd hv a.w hw
  generalize a.w * u65 n * x = ox at *
  generalize a.w * u65 n * y = oy at *
  have r := c64 ox oy (by omega)
  have s1 := c67 fx fy (-oy) ox
  rw [wrap_small (by omega) (by omega), wrap_small (by omega) (by omega), show fx - -oy = fx + oy by omega] at s1
  have s2 := c67 tx ty (-oy) ox
  rw [wrap_small (by omega) (by omega), wrap_small (by omega) (by omega), show tx - -oy = tx + oy by omega] at s2
  have s3 := c54 tx ty (-oy) ox
  rw [wrap_small (by omega) (by omega), wrap_small (by omega) (by omega), show tx + -oy = tx - oy by omega] at s3
  have s4 := c54 fx fy (-oy) ox
  rw [wrap_small (by omega) (by omega), wrap_small (by omega) (by omega), show fx + -oy = fx - oy by omega] at s4
  rw [pc_eq]; simp +contextual -implicitDefEqProofs (maxSteps := 2000000) only [go_sem, ↓reduceIte, Nat.reduceAdd, Nat.reduceMul, Nat.reduceSub, Nat.reduceEqDiff, Nat.reduceLeDiff, Nat.reduceDiv, Nat.reduceMod, Nat.reduceBEq, Nat.reduceBNe, reduceCtorEq, Int.reduceLE, Int.reduceLT, Int.reduceToNat, Int.reduceNeg, Nat.reduceLT, Int.reduceEq, Int.reduceSub, Int.reduceAdd, Int.reduceMul, Nat.reducePow, Int.reduceBEq, Int.reduceBNe, Int.reduceMod, E_48, A48, k, r, s1, s2, s3, s4, lkc, c2, List.map_cons, List.map_nil]
end Go.Proofs.Ytnecdcaaknhgpaa

namespace Go.Proofs.Ytnecdcaaknhgpaa
set_option maxRecDepth 100000
set_option maxHeartbeats 4000000
set_option linter.unusedSimpArgs false
set_option linter.unusedVariables false
open Go Go.Zv
/-- the bodies of the links -/
def lks (a : Arm) (d : Pts) : List (List (Int × Int)) :=
  [lkc a.bx a.by_ (pp a d).x1 (pp a d).y1 (a.w * 67600 * d.x1) (a.w * 67600 * d.y1),
   lkc (pp a d).x1 (pp a d).y1 (pp a d).x2 (pp a d).y2 (a.w * 1040 * d.x2) (a.w * 1040 * d.y2),
   lkc (pp a d).x2 (pp a d).y2 (pp a d).x3 (pp a d).y3 (a.w * 16 * d.x3) (a.w * 16 * d.y3)]
abbrev lkv (l : List (Int × Int)) : LV := .vs (l.map c2)
theorem lkc_len (a b c d e f : Int) : (lkc a b c d e f).length = 4 := rfl
theorem c20 (a : Arm) (h : OKa a) (q0 q1 q2 : Int) : pc E 20 [av a, jv q0 q1 q2] = some (.agg ((lks a (dd q0 q1 q2)).map lkv)) := by
  have h1 := c25' a q0 q1 q2
  have h2 := c27 a h q0 q1 q2
  have v := ddV q0 q1 q2
  have b := bds h v
  obtain ⟨o0x, o0y, o1x, o1y, o2x, o2y, bx, by_⟩ := b
  have hw : 0 ≤ a.w ∧ a.w ≤ 40 := by have := h.w; omega
  generalize dd q0 q1 q2 = d at *
  have k1 := c48 a hw q0 q1 q2 _ _ 1 (by omega) v.v1 a.bx a.by_ (pp a d).x1 (pp a d).y1 (by omega) (by omega) (by simp only [pp]; omega) (by simp only [pp]; omega)
  have k2 := c48 a hw q0 q1 q2 _ _ 2 (by omega) v.v2 (pp a d).x1 (pp a d).y1 (pp a d).x2 (pp a d).y2 (by simp only [pp]; omega) (by simp only [pp]; omega) (by simp only [pp]; omega) (by simp only [pp]; omega)
  have k3 := c48 a hw q0 q1 q2 _ _ 3 (by omega) v.v3 (pp a d).x2 (pp a d).y2 (pp a d).x3 (pp a d).y3 (by simp only [pp]; omega) (by simp only [pp]; omega) (by simp only [pp]; omega) (by simp only [pp]; omega)
  simp only [u65, Int.natCast_one, Int.cast_ofNat_Int] at k1 k2 k3
  unfold lks
  have t : ∀ l : List (Int × Int), l.length = 4 → (l.map c2).take 4 = l.map c2 := fun l hl => List.take_of_length_le (by simp [hl])
  have t1 := t _ (lkc_len a.bx a.by_ (pp a d).x1 (pp a d).y1 (a.w * 67600 * d.x1) (a.w * 67600 * d.y1))
  have t2 := t _ (lkc_len (pp a d).x1 (pp a d).y1 (pp a d).x2 (pp a d).y2 (a.w * 1040 * d.x2) (a.w * 1040 * d.y2))
  have t3 := t _ (lkc_len (pp a d).x2 (pp a d).y2 (pp a d).x3 (pp a d).y3 (a.w * 16 * d.x3) (a.w * 16 * d.y3))
  have n1 := lkc_len a.bx a.by_ (pp a d).x1 (pp a d).y1 (a.w * 67600 * d.x1) (a.w * 67600 * d.y1)
  have n2 := lkc_len (pp a d).x1 (pp a d).y1 (pp a d).x2 (pp a d).y2 (a.w * 1040 * d.x2) (a.w * 1040 * d.y2)
  have n3 := lkc_len (pp a d).x2 (pp a d).y2 (pp a d).x3 (pp a d).y3 (a.w * 16 * d.x3) (a.w * 16 * d.y3)
  generalize lkc a.bx a.by_ (pp a d).x1 (pp a d).y1 (a.w * 67600 * d.x1) (a.w * 67600 * d.y1) = L1 at *
  generalize lkc (pp a d).x1 (pp a d).y1 (pp a d).x2 (pp a d).y2 (a.w * 1040 * d.x2) (a.w * 1040 * d.y2) = L2 at *
  generalize lkc (pp a d).x2 (pp a d).y2 (pp a d).x3 (pp a d).y3 (a.w * 16 * d.x3) (a.w * 16 * d.y3) = L3 at *
  rw [pc_eq]; simp +contextual -implicitDefEqProofs (maxSteps := 2000000) only [go_sem, ↓reduceIte, Nat.reduceAdd, Nat.reduceMul, Nat.reduceSub, Nat.reduceEqDiff, Nat.reduceLeDiff, Nat.reduceDiv, Nat.reduceMod, Nat.reduceBEq, Nat.reduceBNe, reduceCtorEq, Int.reduceLE, Int.reduceLT, Int.reduceToNat, Int.reduceNeg, Nat.reduceLT, Int.reduceEq, Int.reduceSub, Int.reduceAdd, Int.reduceMul, Nat.reducePow, Int.reduceBEq, Int.reduceBNe, Int.reduceMod, E_20, A20, A20_L0_eq, A20_L0b, h1, h2, k1, k2, k3, List.length_map, t1, t2, t3, n1, n2, n3, List.map_cons, List.map_nil]
end Go.Proofs.Ytnecdcaaknhgpaa

namespace Go.Proofs.Ytnecdcaaknhgpaa
set_option maxRecDepth 100000
set_option maxHeartbeats 4000000
set_option linter.unusedSimpArgs false
set_option linter.unusedVariables false
open Go Go.Zv
def fr (a : Arm) : Int := (100 - (a.w + a.l0 + a.l1 + a.l2)) * 4394000
open Classical in
noncomputable def okB (a : Arm) : Bool := decide (OKa a)
open Classical in
theorem okF {a : Arm} (h : OKa a → False) : okB a = false := by unfold okB; exact decide_eq_false h
open Classical in
theorem okT {a : Arm} (h : OKa a) : okB a = true := by unfold okB; exact decide_eq_true h
open Classical in
theorem okB_iff {a : Arm} : okB a = true ↔ OKa a := by unfold okB; exact decide_eq_true_iff
structure Pre (a : Arm) : Prop where
  l0 : 1 ≤ a.l0 ∧ a.l0 ≤ 40
  l1 : 1 ≤ a.l1 ∧ a.l1 ≤ 40
  l2 : 1 ≤ a.l2 ∧ a.l2 ≤ 40
  w : 1 ≤ a.w ∧ a.w ≤ 4
  j0 : -17 ≤ a.lo0 ∧ a.lo0 ≤ a.hi0 ∧ a.hi0 ≤ 18
  j1 : -17 ≤ a.lo1 ∧ a.lo1 ≤ a.hi1 ∧ a.hi1 ≤ 18
  j2 : -17 ≤ a.lo2 ∧ a.lo2 ≤ a.hi2 ∧ a.hi2 ≤ 18
theorem mn_iff (a b x : Int) : x ≤ mnI a b ↔ x ≤ a ∧ x ≤ b := by unfold mnI; split <;> omega
theorem mx_iff (a b x : Int) : mxI a b ≤ x ↔ a ≤ x ∧ b ≤ x := by unfold mxI; split <;> omega
theorem ok_of {a : Arm} (h : Pre a) (mx : a.bx.tmod 16 = 0) (my : a.by_.tmod 16 = 0) (h1 : -(fr a) ≤ mnI a.bx a.by_) (h2 : mxI a.bx a.by_ ≤ fr a) : OKa a := by
  rw [mn_iff] at h1; rw [mx_iff] at h2
  unfold fr at h1 h2
  exact ⟨h.l0, h.l1, h.l2, h.w, h.j0, h.j1, h.j2, ⟨h1.1, h2.1⟩, ⟨h1.2, h2.2⟩, mx, my⟩
theorem ok_inv {a : Arm} (h : OKa a) : (a.bx.tmod 16 = 0 ∧ a.by_.tmod 16 = 0) ∧ -(fr a) ≤ mnI a.bx a.by_ ∧ mxI a.bx a.by_ ≤ fr a := by
  rw [mn_iff, mx_iff]
  exact ⟨⟨h.mx, h.my⟩, ⟨h.bx.1, h.by_.1⟩, ⟨h.bx.2, h.by_.2⟩⟩
theorem c15p (a : Arm) (h : Pre a) : pc E 15 [av a] = some (.bool (okB a)) := by
  obtain ⟨l0, l1, l2, w, j0, j1, j2⟩ := h
  have p : Pre a := ⟨l0, l1, l2, w, j0, j1, j2⟩
  have g0 : ¬ a.l0 < 1 := by omega
  have g1 : ¬ 40 < a.l0 := by omega
  have g2 : ¬ a.lo0 < -17 := by omega
  have g3 : ¬ 18 < a.hi0 := by omega
  have g4 : ¬ a.hi0 < a.lo0 := by omega
  have g5 : ¬ a.l1 < 1 := by omega
  have g6 : ¬ 40 < a.l1 := by omega
  have g7 : ¬ a.lo1 < -17 := by omega
  have g8 : ¬ 18 < a.hi1 := by omega
  have g9 : ¬ a.hi1 < a.lo1 := by omega
  have g10 : ¬ a.l2 < 1 := by omega
  have g11 : ¬ 40 < a.l2 := by omega
  have g12 : ¬ a.lo2 < -17 := by omega
  have g13 : ¬ 18 < a.hi2 := by omega
  have g14 : ¬ a.hi2 < a.lo2 := by omega
  have g15 : ¬ a.w < 1 := by omega
  have g16 : ¬ 4 < a.w := by omega
  have w1 : IntKind.i64.wrap (a.w + a.l0) = a.w + a.l0 := wrap_small (by omega) (by omega)
  have w2 : IntKind.i64.wrap (a.w + a.l0 + a.l1) = a.w + a.l0 + a.l1 := wrap_small (by omega) (by omega)
  have w3 : IntKind.i64.wrap (a.w + a.l0 + a.l1 + a.l2) = a.w + a.l0 + a.l1 + a.l2 := wrap_small (by omega) (by omega)
  have w4 : IntKind.i64.wrap (100 - (a.w + a.l0 + a.l1 + a.l2)) = 100 - (a.w + a.l0 + a.l1 + a.l2) := wrap_small (by omega) (by omega)
  have w5 : IntKind.i64.wrap ((100 - (a.w + a.l0 + a.l1 + a.l2)) * 4394000) = fr a := by rw [wrap_small (by omega) (by omega)]; rfl
  have w6 : IntKind.i64.wrap (0 - fr a) = -(fr a) := by unfold fr; rw [wrap_small (by omega) (by omega)]; omega
  by_cases mx : a.bx.tmod 16 = 0
  · by_cases my : a.by_.tmod 16 = 0
    · by_cases h1 : -(fr a) ≤ mnI a.bx a.by_
      · by_cases h2 : mxI a.bx a.by_ ≤ fr a
        · have hv := okT (ok_of p mx my h1 h2)
          rw [pc_eq]; simp +contextual -implicitDefEqProofs (maxSteps := 2000000) only [go_sem, ↓reduceIte, Nat.reduceAdd, Nat.reduceMul, Nat.reduceSub, Nat.reduceEqDiff, Nat.reduceLeDiff, Nat.reduceDiv, Nat.reduceMod, Nat.reduceBEq, Nat.reduceBNe, reduceCtorEq, Int.reduceLE, Int.reduceLT, Int.reduceToNat, Int.reduceNeg, Nat.reduceLT, Int.reduceEq, Int.reduceSub, Int.reduceAdd, Int.reduceMul, Nat.reducePow, Int.reduceBEq, Int.reduceBNe, Int.reduceMod, E_15, A15, A15_L0_eq, A15_L0b, hv, g0, g1, g2, g3, g4, g5, g6, g7, g8, g9, g10, g11, g12, g13, g14, g15, g16, w1, w2, w3, w4, w5, w6, mx, my, h1, h2, bne_self_eq_false]
        · have hv := okF (fun h => h2 (ok_inv h).2.2)
          rw [pc_eq]; simp +contextual -implicitDefEqProofs (maxSteps := 2000000) only [go_sem, ↓reduceIte, Nat.reduceAdd, Nat.reduceMul, Nat.reduceSub, Nat.reduceEqDiff, Nat.reduceLeDiff, Nat.reduceDiv, Nat.reduceMod, Nat.reduceBEq, Nat.reduceBNe, reduceCtorEq, Int.reduceLE, Int.reduceLT, Int.reduceToNat, Int.reduceNeg, Nat.reduceLT, Int.reduceEq, Int.reduceSub, Int.reduceAdd, Int.reduceMul, Nat.reducePow, Int.reduceBEq, Int.reduceBNe, Int.reduceMod, E_15, A15, A15_L0_eq, A15_L0b, hv, g0, g1, g2, g3, g4, g5, g6, g7, g8, g9, g10, g11, g12, g13, g14, g15, g16, w1, w2, w3, w4, w5, w6, mx, my, h1, h2, bne_self_eq_false]
      · have hv := okF (fun h => h1 (ok_inv h).2.1)
        rw [pc_eq]; simp +contextual -implicitDefEqProofs (maxSteps := 2000000) only [go_sem, ↓reduceIte, Nat.reduceAdd, Nat.reduceMul, Nat.reduceSub, Nat.reduceEqDiff, Nat.reduceLeDiff, Nat.reduceDiv, Nat.reduceMod, Nat.reduceBEq, Nat.reduceBNe, reduceCtorEq, Int.reduceLE, Int.reduceLT, Int.reduceToNat, Int.reduceNeg, Nat.reduceLT, Int.reduceEq, Int.reduceSub, Int.reduceAdd, Int.reduceMul, Nat.reducePow, Int.reduceBEq, Int.reduceBNe, Int.reduceMod, E_15, A15, A15_L0_eq, A15_L0b, hv, g0, g1, g2, g3, g4, g5, g6, g7, g8, g9, g10, g11, g12, g13, g14, g15, g16, w1, w2, w3, w4, w5, w6, mx, my, h1, bne_self_eq_false]
    · have hv := okF (fun h => my (ok_inv h).1.2)
      have my' : (a.by_.tmod 16 != 0) = true := by simpa using my
      rw [pc_eq]; simp +contextual -implicitDefEqProofs (maxSteps := 2000000) only [go_sem, ↓reduceIte, Nat.reduceAdd, Nat.reduceMul, Nat.reduceSub, Nat.reduceEqDiff, Nat.reduceLeDiff, Nat.reduceDiv, Nat.reduceMod, Nat.reduceBEq, Nat.reduceBNe, reduceCtorEq, Int.reduceLE, Int.reduceLT, Int.reduceToNat, Int.reduceNeg, Nat.reduceLT, Int.reduceEq, Int.reduceSub, Int.reduceAdd, Int.reduceMul, Nat.reducePow, Int.reduceBEq, Int.reduceBNe, Int.reduceMod, E_15, A15, A15_L0_eq, A15_L0b, hv, g0, g1, g2, g3, g4, g5, g6, g7, g8, g9, g10, g11, g12, g13, g14, g15, g16, w1, w2, w3, w4, w5, w6, mx, my, my', bne_self_eq_false]
  · have hv := okF (fun h => mx (ok_inv h).1.1)
    have mx' : (a.bx.tmod 16 != 0) = true := by simpa using mx
    rw [pc_eq]; simp +contextual -implicitDefEqProofs (maxSteps := 2000000) only [go_sem, ↓reduceIte, Nat.reduceAdd, Nat.reduceMul, Nat.reduceSub, Nat.reduceEqDiff, Nat.reduceLeDiff, Nat.reduceDiv, Nat.reduceMod, Nat.reduceBEq, Nat.reduceBNe, reduceCtorEq, Int.reduceLE, Int.reduceLT, Int.reduceToNat, Int.reduceNeg, Nat.reduceLT, Int.reduceEq, Int.reduceSub, Int.reduceAdd, Int.reduceMul, Nat.reducePow, Int.reduceBEq, Int.reduceBNe, Int.reduceMod, E_15, A15, A15_L0_eq, A15_L0b, hv, g0, g1, g2, g3, g4, g5, g6, g7, g8, g9, g10, g11, g12, g13, g14, g15, g16, w1, w2, w3, w4, w5, w6, mx, mx', bne_self_eq_false]
theorem c15 (a : Arm) : pc E 15 [av a] = some (.bool (okB a)) := by
  by_cases hp : Pre a
  · exact c15p a hp
  have hp2 : ∀ (P : Prop), (Pre a → P) → True := fun _ _ => trivial
  have hv : okB a = false := okF (fun h => hp ⟨h.l0, h.l1, h.l2, h.w, h.j0, h.j1, h.j2⟩)
  by_cases g0 : a.l0 < 1
  · rw [pc_eq]; simp +contextual -implicitDefEqProofs (maxSteps := 2000000) only [go_sem, ↓reduceIte, Nat.reduceAdd, Nat.reduceMul, Nat.reduceSub, Nat.reduceEqDiff, Nat.reduceLeDiff, Nat.reduceDiv, Nat.reduceMod, Nat.reduceBEq, Nat.reduceBNe, reduceCtorEq, Int.reduceLE, Int.reduceLT, Int.reduceToNat, Int.reduceNeg, Nat.reduceLT, Int.reduceEq, Int.reduceSub, Int.reduceAdd, Int.reduceMul, Nat.reducePow, Int.reduceBEq, Int.reduceBNe, Int.reduceMod, E_15, A15, A15_L0_eq, A15_L0b, hv, g0]
  · by_cases g1 : 40 < a.l0
    · rw [pc_eq]; simp +contextual -implicitDefEqProofs (maxSteps := 2000000) only [go_sem, ↓reduceIte, Nat.reduceAdd, Nat.reduceMul, Nat.reduceSub, Nat.reduceEqDiff, Nat.reduceLeDiff, Nat.reduceDiv, Nat.reduceMod, Nat.reduceBEq, Nat.reduceBNe, reduceCtorEq, Int.reduceLE, Int.reduceLT, Int.reduceToNat, Int.reduceNeg, Nat.reduceLT, Int.reduceEq, Int.reduceSub, Int.reduceAdd, Int.reduceMul, Nat.reducePow, Int.reduceBEq, Int.reduceBNe, Int.reduceMod, E_15, A15, A15_L0_eq, A15_L0b, hv, g0, g1]
    · by_cases g2 : a.lo0 < -17
      · rw [pc_eq]; simp +contextual -implicitDefEqProofs (maxSteps := 2000000) only [go_sem, ↓reduceIte, Nat.reduceAdd, Nat.reduceMul, Nat.reduceSub, Nat.reduceEqDiff, Nat.reduceLeDiff, Nat.reduceDiv, Nat.reduceMod, Nat.reduceBEq, Nat.reduceBNe, reduceCtorEq, Int.reduceLE, Int.reduceLT, Int.reduceToNat, Int.reduceNeg, Nat.reduceLT, Int.reduceEq, Int.reduceSub, Int.reduceAdd, Int.reduceMul, Nat.reducePow, Int.reduceBEq, Int.reduceBNe, Int.reduceMod, E_15, A15, A15_L0_eq, A15_L0b, hv, g0, g1, g2]
      · by_cases g3 : 18 < a.hi0
        · rw [pc_eq]; simp +contextual -implicitDefEqProofs (maxSteps := 2000000) only [go_sem, ↓reduceIte, Nat.reduceAdd, Nat.reduceMul, Nat.reduceSub, Nat.reduceEqDiff, Nat.reduceLeDiff, Nat.reduceDiv, Nat.reduceMod, Nat.reduceBEq, Nat.reduceBNe, reduceCtorEq, Int.reduceLE, Int.reduceLT, Int.reduceToNat, Int.reduceNeg, Nat.reduceLT, Int.reduceEq, Int.reduceSub, Int.reduceAdd, Int.reduceMul, Nat.reducePow, Int.reduceBEq, Int.reduceBNe, Int.reduceMod, E_15, A15, A15_L0_eq, A15_L0b, hv, g0, g1, g2, g3]
        · by_cases g4 : a.hi0 < a.lo0
          · rw [pc_eq]; simp +contextual -implicitDefEqProofs (maxSteps := 2000000) only [go_sem, ↓reduceIte, Nat.reduceAdd, Nat.reduceMul, Nat.reduceSub, Nat.reduceEqDiff, Nat.reduceLeDiff, Nat.reduceDiv, Nat.reduceMod, Nat.reduceBEq, Nat.reduceBNe, reduceCtorEq, Int.reduceLE, Int.reduceLT, Int.reduceToNat, Int.reduceNeg, Nat.reduceLT, Int.reduceEq, Int.reduceSub, Int.reduceAdd, Int.reduceMul, Nat.reducePow, Int.reduceBEq, Int.reduceBNe, Int.reduceMod, E_15, A15, A15_L0_eq, A15_L0b, hv, g0, g1, g2, g3, g4]
          · by_cases g5 : a.l1 < 1
            · rw [pc_eq]; simp +contextual -implicitDefEqProofs (maxSteps := 2000000) only [go_sem, ↓reduceIte, Nat.reduceAdd, Nat.reduceMul, Nat.reduceSub, Nat.reduceEqDiff, Nat.reduceLeDiff, Nat.reduceDiv, Nat.reduceMod, Nat.reduceBEq, Nat.reduceBNe, reduceCtorEq, Int.reduceLE, Int.reduceLT, Int.reduceToNat, Int.reduceNeg, Nat.reduceLT, Int.reduceEq, Int.reduceSub, Int.reduceAdd, Int.reduceMul, Nat.reducePow, Int.reduceBEq, Int.reduceBNe, Int.reduceMod, E_15, A15, A15_L0_eq, A15_L0b, hv, g0, g1, g2, g3, g4, g5]
            · by_cases g6 : 40 < a.l1
              · rw [pc_eq]; simp +contextual -implicitDefEqProofs (maxSteps := 2000000) only [go_sem, ↓reduceIte, Nat.reduceAdd, Nat.reduceMul, Nat.reduceSub, Nat.reduceEqDiff, Nat.reduceLeDiff, Nat.reduceDiv, Nat.reduceMod, Nat.reduceBEq, Nat.reduceBNe, reduceCtorEq, Int.reduceLE, Int.reduceLT, Int.reduceToNat, Int.reduceNeg, Nat.reduceLT, Int.reduceEq, Int.reduceSub, Int.reduceAdd, Int.reduceMul, Nat.reducePow, Int.reduceBEq, Int.reduceBNe, Int.reduceMod, E_15, A15, A15_L0_eq, A15_L0b, hv, g0, g1, g2, g3, g4, g5, g6]
              · by_cases g7 : a.lo1 < -17
                · rw [pc_eq]; simp +contextual -implicitDefEqProofs (maxSteps := 2000000) only [go_sem, ↓reduceIte, Nat.reduceAdd, Nat.reduceMul, Nat.reduceSub, Nat.reduceEqDiff, Nat.reduceLeDiff, Nat.reduceDiv, Nat.reduceMod, Nat.reduceBEq, Nat.reduceBNe, reduceCtorEq, Int.reduceLE, Int.reduceLT, Int.reduceToNat, Int.reduceNeg, Nat.reduceLT, Int.reduceEq, Int.reduceSub, Int.reduceAdd, Int.reduceMul, Nat.reducePow, Int.reduceBEq, Int.reduceBNe, Int.reduceMod, E_15, A15, A15_L0_eq, A15_L0b, hv, g0, g1, g2, g3, g4, g5, g6, g7]
                · by_cases g8 : 18 < a.hi1
                  · rw [pc_eq]; simp +contextual -implicitDefEqProofs (maxSteps := 2000000) only [go_sem, ↓reduceIte, Nat.reduceAdd, Nat.reduceMul, Nat.reduceSub, Nat.reduceEqDiff, Nat.reduceLeDiff, Nat.reduceDiv, Nat.reduceMod, Nat.reduceBEq, Nat.reduceBNe, reduceCtorEq, Int.reduceLE, Int.reduceLT, Int.reduceToNat, Int.reduceNeg, Nat.reduceLT, Int.reduceEq, Int.reduceSub, Int.reduceAdd, Int.reduceMul, Nat.reducePow, Int.reduceBEq, Int.reduceBNe, Int.reduceMod, E_15, A15, A15_L0_eq, A15_L0b, hv, g0, g1, g2, g3, g4, g5, g6, g7, g8]
                  · by_cases g9 : a.hi1 < a.lo1
                    · rw [pc_eq]; simp +contextual -implicitDefEqProofs (maxSteps := 2000000) only [go_sem, ↓reduceIte, Nat.reduceAdd, Nat.reduceMul, Nat.reduceSub, Nat.reduceEqDiff, Nat.reduceLeDiff, Nat.reduceDiv, Nat.reduceMod, Nat.reduceBEq, Nat.reduceBNe, reduceCtorEq, Int.reduceLE, Int.reduceLT, Int.reduceToNat, Int.reduceNeg, Nat.reduceLT, Int.reduceEq, Int.reduceSub, Int.reduceAdd, Int.reduceMul, Nat.reducePow, Int.reduceBEq, Int.reduceBNe, Int.reduceMod, E_15, A15, A15_L0_eq, A15_L0b, hv, g0, g1, g2, g3, g4, g5, g6, g7, g8, g9]
                    · by_cases g10 : a.l2 < 1
                      · rw [pc_eq]; simp +contextual -implicitDefEqProofs (maxSteps := 2000000) only [go_sem, ↓reduceIte, Nat.reduceAdd, Nat.reduceMul, Nat.reduceSub, Nat.reduceEqDiff, Nat.reduceLeDiff, Nat.reduceDiv, Nat.reduceMod, Nat.reduceBEq, Nat.reduceBNe, reduceCtorEq, Int.reduceLE, Int.reduceLT, Int.reduceToNat, Int.reduceNeg, Nat.reduceLT, Int.reduceEq, Int.reduceSub, Int.reduceAdd, Int.reduceMul, Nat.reducePow, Int.reduceBEq, Int.reduceBNe, Int.reduceMod, E_15, A15, A15_L0_eq, A15_L0b, hv, g0, g1, g2, g3, g4, g5, g6, g7, g8, g9, g10]
                      · by_cases g11 : 40 < a.l2
                        · rw [pc_eq]; simp +contextual -implicitDefEqProofs (maxSteps := 2000000) only [go_sem, ↓reduceIte, Nat.reduceAdd, Nat.reduceMul, Nat.reduceSub, Nat.reduceEqDiff, Nat.reduceLeDiff, Nat.reduceDiv, Nat.reduceMod, Nat.reduceBEq, Nat.reduceBNe, reduceCtorEq, Int.reduceLE, Int.reduceLT, Int.reduceToNat, Int.reduceNeg, Nat.reduceLT, Int.reduceEq, Int.reduceSub, Int.reduceAdd, Int.reduceMul, Nat.reducePow, Int.reduceBEq, Int.reduceBNe, Int.reduceMod, E_15, A15, A15_L0_eq, A15_L0b, hv, g0, g1, g2, g3, g4, g5, g6, g7, g8, g9, g10, g11]
                        · by_cases g12 : a.lo2 < -17
                          · rw [pc_eq]; simp +contextual -implicitDefEqProofs (maxSteps := 2000000) only [go_sem, ↓reduceIte, Nat.reduceAdd, Nat.reduceMul, Nat.reduceSub, Nat.reduceEqDiff, Nat.reduceLeDiff, Nat.reduceDiv, Nat.reduceMod, Nat.reduceBEq, Nat.reduceBNe, reduceCtorEq, Int.reduceLE, Int.reduceLT, Int.reduceToNat, Int.reduceNeg, Nat.reduceLT, Int.reduceEq, Int.reduceSub, Int.reduceAdd, Int.reduceMul, Nat.reducePow, Int.reduceBEq, Int.reduceBNe, Int.reduceMod, E_15, A15, A15_L0_eq, A15_L0b, hv, g0, g1, g2, g3, g4, g5, g6, g7, g8, g9, g10, g11, g12]
                          · by_cases g13 : 18 < a.hi2
                            · rw [pc_eq]; simp +contextual -implicitDefEqProofs (maxSteps := 2000000) only [go_sem, ↓reduceIte, Nat.reduceAdd, Nat.reduceMul, Nat.reduceSub, Nat.reduceEqDiff, Nat.reduceLeDiff, Nat.reduceDiv, Nat.reduceMod, Nat.reduceBEq, Nat.reduceBNe, reduceCtorEq, Int.reduceLE, Int.reduceLT, Int.reduceToNat, Int.reduceNeg, Nat.reduceLT, Int.reduceEq, Int.reduceSub, Int.reduceAdd, Int.reduceMul, Nat.reducePow, Int.reduceBEq, Int.reduceBNe, Int.reduceMod, E_15, A15, A15_L0_eq, A15_L0b, hv, g0, g1, g2, g3, g4, g5, g6, g7, g8, g9, g10, g11, g12, g13]
                            · by_cases g14 : a.hi2 < a.lo2
                              · rw [pc_eq]; simp +contextual -implicitDefEqProofs (maxSteps := 2000000) only [go_sem, ↓reduceIte, Nat.reduceAdd, Nat.reduceMul, Nat.reduceSub, Nat.reduceEqDiff, Nat.reduceLeDiff, Nat.reduceDiv, Nat.reduceMod, Nat.reduceBEq, Nat.reduceBNe, reduceCtorEq, Int.reduceLE, Int.reduceLT, Int.reduceToNat, Int.reduceNeg, Nat.reduceLT, Int.reduceEq, Int.reduceSub, Int.reduceAdd, Int.reduceMul, Nat.reducePow, Int.reduceBEq, Int.reduceBNe, Int.reduceMod, E_15, A15, A15_L0_eq, A15_L0b, hv, g0, g1, g2, g3, g4, g5, g6, g7, g8, g9, g10, g11, g12, g13, g14]
                              · by_cases g15 : a.w < 1
                                · rw [pc_eq]; simp +contextual -implicitDefEqProofs (maxSteps := 2000000) only [go_sem, ↓reduceIte, Nat.reduceAdd, Nat.reduceMul, Nat.reduceSub, Nat.reduceEqDiff, Nat.reduceLeDiff, Nat.reduceDiv, Nat.reduceMod, Nat.reduceBEq, Nat.reduceBNe, reduceCtorEq, Int.reduceLE, Int.reduceLT, Int.reduceToNat, Int.reduceNeg, Nat.reduceLT, Int.reduceEq, Int.reduceSub, Int.reduceAdd, Int.reduceMul, Nat.reducePow, Int.reduceBEq, Int.reduceBNe, Int.reduceMod, E_15, A15, A15_L0_eq, A15_L0b, hv, g0, g1, g2, g3, g4, g5, g6, g7, g8, g9, g10, g11, g12, g13, g14, g15]
                                · by_cases g16 : 4 < a.w
                                  · rw [pc_eq]; simp +contextual -implicitDefEqProofs (maxSteps := 2000000) only [go_sem, ↓reduceIte, Nat.reduceAdd, Nat.reduceMul, Nat.reduceSub, Nat.reduceEqDiff, Nat.reduceLeDiff, Nat.reduceDiv, Nat.reduceMod, Nat.reduceBEq, Nat.reduceBNe, reduceCtorEq, Int.reduceLE, Int.reduceLT, Int.reduceToNat, Int.reduceNeg, Nat.reduceLT, Int.reduceEq, Int.reduceSub, Int.reduceAdd, Int.reduceMul, Nat.reducePow, Int.reduceBEq, Int.reduceBNe, Int.reduceMod, E_15, A15, A15_L0_eq, A15_L0b, hv, g0, g1, g2, g3, g4, g5, g6, g7, g8, g9, g10, g11, g12, g13, g14, g15, g16]
                                  · exfalso; exact hp ⟨by omega, by omega, by omega, by omega, by omega, by omega, by omega⟩
end Go.Proofs.Ytnecdcaaknhgpaa

namespace Go.Proofs.Ytnecdcaaknhgpaa
set_option maxRecDepth 100000
set_option maxHeartbeats 4000000
set_option linter.unusedSimpArgs false
set_option linter.unusedVariables false
open Go Go.Zv
def farB (a : Arm) : Bool := decide (1000000000 < a.bx) || (decide (a.bx < -1000000000) || (decide (1000000000 < a.by_) || decide (a.by_ < -1000000000)))
theorem c46 (a : Arm) : pc E 46 [av a] = some (.bool (farB a)) := by
  unfold farB
  by_cases g0 : 1000000000 < a.bx
  · rw [pc_eq]; simp +contextual -implicitDefEqProofs (maxSteps := 2000000) only [go_sem, ↓reduceIte, Nat.reduceAdd, Nat.reduceMul, Nat.reduceSub, Nat.reduceEqDiff, Nat.reduceLeDiff, Nat.reduceDiv, Nat.reduceMod, Nat.reduceBEq, Nat.reduceBNe, reduceCtorEq, Int.reduceLE, Int.reduceLT, Int.reduceToNat, Int.reduceNeg, Nat.reduceLT, Int.reduceEq, Int.reduceSub, Int.reduceAdd, Int.reduceMul, Nat.reducePow, Int.reduceBEq, Int.reduceBNe, Int.reduceMod, E_46, A46, g0]
  · by_cases g1 : a.bx < -1000000000
    · rw [pc_eq]; simp +contextual -implicitDefEqProofs (maxSteps := 2000000) only [go_sem, ↓reduceIte, Nat.reduceAdd, Nat.reduceMul, Nat.reduceSub, Nat.reduceEqDiff, Nat.reduceLeDiff, Nat.reduceDiv, Nat.reduceMod, Nat.reduceBEq, Nat.reduceBNe, reduceCtorEq, Int.reduceLE, Int.reduceLT, Int.reduceToNat, Int.reduceNeg, Nat.reduceLT, Int.reduceEq, Int.reduceSub, Int.reduceAdd, Int.reduceMul, Nat.reducePow, Int.reduceBEq, Int.reduceBNe, Int.reduceMod, E_46, A46, g0, g1]
    · by_cases g2 : 1000000000 < a.by_
      · rw [pc_eq]; simp +contextual -implicitDefEqProofs (maxSteps := 2000000) only [go_sem, ↓reduceIte, Nat.reduceAdd, Nat.reduceMul, Nat.reduceSub, Nat.reduceEqDiff, Nat.reduceLeDiff, Nat.reduceDiv, Nat.reduceMod, Nat.reduceBEq, Nat.reduceBNe, reduceCtorEq, Int.reduceLE, Int.reduceLT, Int.reduceToNat, Int.reduceNeg, Nat.reduceLT, Int.reduceEq, Int.reduceSub, Int.reduceAdd, Int.reduceMul, Nat.reducePow, Int.reduceBEq, Int.reduceBNe, Int.reduceMod, E_46, A46, g0, g1, g2]
      · rw [pc_eq]; simp +contextual -implicitDefEqProofs (maxSteps := 2000000) only [go_sem, ↓reduceIte, Nat.reduceAdd, Nat.reduceMul, Nat.reduceSub, Nat.reduceEqDiff, Nat.reduceLeDiff, Nat.reduceDiv, Nat.reduceMod, Nat.reduceBEq, Nat.reduceBNe, reduceCtorEq, Int.reduceLE, Int.reduceLT, Int.reduceToNat, Int.reduceNeg, Nat.reduceLT, Int.reduceEq, Int.reduceSub, Int.reduceAdd, Int.reduceMul, Nat.reducePow, Int.reduceBEq, Int.reduceBNe, Int.reduceMod, E_46, A46, g0, g1, g2]
def ab (n : Int) : Int := if n < 0 then -n else n
theorem c47 (n : Int) (h : -2000000000 ≤ n ∧ n ≤ 2000000000) : pc E 47 [.int .i64 n] = some (.int .i64 (ab n)) := by
  have w : IntKind.i64.wrap (0 - n) = -n := by rw [wrap_small (by omega) (by omega)]; omega
  unfold ab
  by_cases h : n < 0
  · rw [pc_eq]; simp +contextual -implicitDefEqProofs (maxSteps := 2000000) only [go_sem, ↓reduceIte, Nat.reduceAdd, Nat.reduceMul, Nat.reduceSub, Nat.reduceEqDiff, Nat.reduceLeDiff, Nat.reduceDiv, Nat.reduceMod, Nat.reduceBEq, Nat.reduceBNe, reduceCtorEq, Int.reduceLE, Int.reduceLT, Int.reduceToNat, Int.reduceNeg, Nat.reduceLT, Int.reduceEq, Int.reduceSub, Int.reduceAdd, Int.reduceMul, Nat.reducePow, Int.reduceBEq, Int.reduceBNe, Int.reduceMod, E_47, A47, h, w]
  · rw [pc_eq]; simp +contextual -implicitDefEqProofs (maxSteps := 2000000) only [go_sem, ↓reduceIte, Nat.reduceAdd, Nat.reduceMul, Nat.reduceSub, Nat.reduceEqDiff, Nat.reduceLeDiff, Nat.reduceDiv, Nat.reduceMod, Nat.reduceBEq, Nat.reduceBNe, reduceCtorEq, Int.reduceLE, Int.reduceLT, Int.reduceToNat, Int.reduceNeg, Nat.reduceLT, Int.reduceEq, Int.reduceSub, Int.reduceAdd, Int.reduceMul, Nat.reducePow, Int.reduceBEq, Int.reduceBNe, Int.reduceMod, E_47, A47, h]
theorem ok_inv2 {a : Arm} (h : OKa a) : farB a = false ∧ ab a.bx + (a.w + a.l0 + a.l1 + a.l2) * 4394000 ≤ 439400000 ∧ ab a.by_ + (a.w + a.l0 + a.l1 + a.l2) * 4394000 ≤ 439400000 := by
  obtain ⟨k1, k2, k3, k4, k5, k6, k7, k8, k9, _, _⟩ := h
  refine ⟨?_, ?_, ?_⟩
  · unfold farB; simp only [Bool.or_eq_false_iff, decide_eq_false_iff_not]; omega
  · unfold ab; split <;> omega
  · unfold ab; split <;> omega
theorem ok_of2 {a : Arm} (h : Pre a) (mx : a.bx.tmod 16 = 0) (my : a.by_.tmod 16 = 0) (h1 : ab a.bx + (a.w + a.l0 + a.l1 + a.l2) * 4394000 ≤ 439400000) (h2 : ab a.by_ + (a.w + a.l0 + a.l1 + a.l2) * 4394000 ≤ 439400000) : OKa a := by
  unfold ab at h1 h2
  exact ⟨h.l0, h.l1, h.l2, h.w, h.j0, h.j1, h.j2, by split at h1 <;> omega, by split at h2 <;> omega, mx, my⟩
theorem c16p (a : Arm) (h : Pre a) (hf : farB a = false) (mx : a.bx.tmod 16 = 0) (my : a.by_.tmod 16 = 0) : pc E 16 [av a] = some (.bool (okB a)) := by
  have hf2 := hf
  unfold farB at hf2
  simp only [Bool.or_eq_false_iff, decide_eq_false_iff_not] at hf2
  have h46 := c46 a
  rw [hf] at h46
  have hx := c47 a.bx (by omega)
  have hy := c47 a.by_ (by omega)
  have bx : 0 ≤ ab a.bx ∧ ab a.bx ≤ 1000000000 := by unfold ab; split <;> omega
  have by_ : 0 ≤ ab a.by_ ∧ ab a.by_ ≤ 1000000000 := by unfold ab; split <;> omega
  obtain ⟨l0, l1, l2, w, j0, j1, j2⟩ := h
  have p : Pre a := ⟨l0, l1, l2, w, j0, j1, j2⟩
  have g0 : ¬ a.l0 < 1 := by omega
  have g1 : ¬ 40 < a.l0 := by omega
  have g2 : ¬ a.lo0 < -17 := by omega
  have g2' : ¬ 18 < a.lo0 := by omega
  have g3 : ¬ 18 < a.hi0 := by omega
  have g3' : ¬ a.hi0 < -17 := by omega
  have g4 : ¬ a.hi0 < a.lo0 := by omega
  have g5 : ¬ a.l1 < 1 := by omega
  have g6 : ¬ 40 < a.l1 := by omega
  have g7 : ¬ a.lo1 < -17 := by omega
  have g7' : ¬ 18 < a.lo1 := by omega
  have g8 : ¬ 18 < a.hi1 := by omega
  have g8' : ¬ a.hi1 < -17 := by omega
  have g9 : ¬ a.hi1 < a.lo1 := by omega
  have g10 : ¬ a.l2 < 1 := by omega
  have g11 : ¬ 40 < a.l2 := by omega
  have g12 : ¬ a.lo2 < -17 := by omega
  have g12' : ¬ 18 < a.lo2 := by omega
  have g13 : ¬ 18 < a.hi2 := by omega
  have g13' : ¬ a.hi2 < -17 := by omega
  have g14 : ¬ a.hi2 < a.lo2 := by omega
  have g15 : ¬ a.w < 1 := by omega
  have g16 : ¬ 4 < a.w := by omega
  have w1 : IntKind.i64.wrap (a.w + a.l0) = a.w + a.l0 := wrap_small (by omega) (by omega)
  have w2 : IntKind.i64.wrap (a.w + a.l0 + a.l1) = a.w + a.l0 + a.l1 := wrap_small (by omega) (by omega)
  have w3 : IntKind.i64.wrap (a.w + a.l0 + a.l1 + a.l2) = a.w + a.l0 + a.l1 + a.l2 := wrap_small (by omega) (by omega)
  have w4 : IntKind.i64.wrap ((a.w + a.l0 + a.l1 + a.l2) * 4394000) = (a.w + a.l0 + a.l1 + a.l2) * 4394000 := wrap_small (by omega) (by omega)
  have w5 : IntKind.i64.wrap (ab a.bx + (a.w + a.l0 + a.l1 + a.l2) * 4394000) = ab a.bx + (a.w + a.l0 + a.l1 + a.l2) * 4394000 := wrap_small (by omega) (by omega)
  have w6 : IntKind.i64.wrap (ab a.by_ + (a.w + a.l0 + a.l1 + a.l2) * 4394000) = ab a.by_ + (a.w + a.l0 + a.l1 + a.l2) * 4394000 := wrap_small (by omega) (by omega)
  by_cases h1 : ab a.bx + (a.w + a.l0 + a.l1 + a.l2) * 4394000 ≤ 439400000
  · by_cases h2 : ab a.by_ + (a.w + a.l0 + a.l1 + a.l2) * 4394000 ≤ 439400000
    · have hv := okT (ok_of2 p mx my h1 h2)
      rw [pc_eq]; simp +contextual -implicitDefEqProofs (maxSteps := 2000000) only [go_sem, ↓reduceIte, Nat.reduceAdd, Nat.reduceMul, Nat.reduceSub, Nat.reduceEqDiff, Nat.reduceLeDiff, Nat.reduceDiv, Nat.reduceMod, Nat.reduceBEq, Nat.reduceBNe, reduceCtorEq, Int.reduceLE, Int.reduceLT, Int.reduceToNat, Int.reduceNeg, Nat.reduceLT, Int.reduceEq, Int.reduceSub, Int.reduceAdd, Int.reduceMul, Nat.reducePow, Int.reduceBEq, Int.reduceBNe, Int.reduceMod, E_16, A16, A16_L0_eq, A16_L0b, hv, h46, hx, hy, g0, g1, g2, g2', g3, g3', g4, g5, g6, g7, g7', g8, g8', g9, g10, g11, g12, g12', g13, g13', g14, g15, g16, w1, w2, w3, w4, w5, w6, mx, my, h1, h2, bne_self_eq_false]
    · have hv := okF (fun h => h2 (ok_inv2 h).2.2)
      rw [pc_eq]; simp +contextual -implicitDefEqProofs (maxSteps := 2000000) only [go_sem, ↓reduceIte, Nat.reduceAdd, Nat.reduceMul, Nat.reduceSub, Nat.reduceEqDiff, Nat.reduceLeDiff, Nat.reduceDiv, Nat.reduceMod, Nat.reduceBEq, Nat.reduceBNe, reduceCtorEq, Int.reduceLE, Int.reduceLT, Int.reduceToNat, Int.reduceNeg, Nat.reduceLT, Int.reduceEq, Int.reduceSub, Int.reduceAdd, Int.reduceMul, Nat.reducePow, Int.reduceBEq, Int.reduceBNe, Int.reduceMod, E_16, A16, A16_L0_eq, A16_L0b, hv, h46, hx, hy, g0, g1, g2, g2', g3, g3', g4, g5, g6, g7, g7', g8, g8', g9, g10, g11, g12, g12', g13, g13', g14, g15, g16, w1, w2, w3, w4, w5, w6, mx, my, h1, h2, bne_self_eq_false]
  · have hv := okF (fun h => h1 (ok_inv2 h).2.1)
    rw [pc_eq]; simp +contextual -implicitDefEqProofs (maxSteps := 2000000) only [go_sem, ↓reduceIte, Nat.reduceAdd, Nat.reduceMul, Nat.reduceSub, Nat.reduceEqDiff, Nat.reduceLeDiff, Nat.reduceDiv, Nat.reduceMod, Nat.reduceBEq, Nat.reduceBNe, reduceCtorEq, Int.reduceLE, Int.reduceLT, Int.reduceToNat, Int.reduceNeg, Nat.reduceLT, Int.reduceEq, Int.reduceSub, Int.reduceAdd, Int.reduceMul, Nat.reducePow, Int.reduceBEq, Int.reduceBNe, Int.reduceMod, E_16, A16, A16_L0_eq, A16_L0b, hv, h46, hx, hy, g0, g1, g2, g2', g3, g3', g4, g5, g6, g7, g7', g8, g8', g9, g10, g11, g12, g12', g13, g13', g14, g15, g16, w1, w2, w3, w4, w5, w6, mx, my, h1, bne_self_eq_false]
theorem c16 (a : Arm) : pc E 16 [av a] = some (.bool (okB a)) := by
  have h46 := c46 a
  cases hf : farB a with
  | true =>
    have hv := okF (fun h => by have := (ok_inv2 h).1; rw [hf] at this; cases this)
    rw [hf] at h46
    rw [pc_eq]; simp +contextual -implicitDefEqProofs (maxSteps := 2000000) only [go_sem, ↓reduceIte, Nat.reduceAdd, Nat.reduceMul, Nat.reduceSub, Nat.reduceEqDiff, Nat.reduceLeDiff, Nat.reduceDiv, Nat.reduceMod, Nat.reduceBEq, Nat.reduceBNe, reduceCtorEq, Int.reduceLE, Int.reduceLT, Int.reduceToNat, Int.reduceNeg, Nat.reduceLT, Int.reduceEq, Int.reduceSub, Int.reduceAdd, Int.reduceMul, Nat.reducePow, Int.reduceBEq, Int.reduceBNe, Int.reduceMod, E_16, A16, hv, h46]
  | false =>
    rw [hf] at h46
    by_cases mx : a.bx.tmod 16 = 0
    · by_cases my : a.by_.tmod 16 = 0
      · by_cases hp : Pre a
        · exact c16p a hp hf mx my
        · have hv : okB a = false := okF (fun h => hp ⟨h.l0, h.l1, h.l2, h.w, h.j0, h.j1, h.j2⟩)
          by_cases g15 : a.w < 1
          · rw [pc_eq]; simp +contextual -implicitDefEqProofs (maxSteps := 2000000) only [go_sem, ↓reduceIte, Nat.reduceAdd, Nat.reduceMul, Nat.reduceSub, Nat.reduceEqDiff, Nat.reduceLeDiff, Nat.reduceDiv, Nat.reduceMod, Nat.reduceBEq, Nat.reduceBNe, reduceCtorEq, Int.reduceLE, Int.reduceLT, Int.reduceToNat, Int.reduceNeg, Nat.reduceLT, Int.reduceEq, Int.reduceSub, Int.reduceAdd, Int.reduceMul, Nat.reducePow, Int.reduceBEq, Int.reduceBNe, Int.reduceMod, E_16, A16, A16_L0_eq, A16_L0b, hv, h46, mx, my, bne_self_eq_false, g15]
          · by_cases g16 : 4 < a.w
            · rw [pc_eq]; simp +contextual -implicitDefEqProofs (maxSteps := 2000000) only [go_sem, ↓reduceIte, Nat.reduceAdd, Nat.reduceMul, Nat.reduceSub, Nat.reduceEqDiff, Nat.reduceLeDiff, Nat.reduceDiv, Nat.reduceMod, Nat.reduceBEq, Nat.reduceBNe, reduceCtorEq, Int.reduceLE, Int.reduceLT, Int.reduceToNat, Int.reduceNeg, Nat.reduceLT, Int.reduceEq, Int.reduceSub, Int.reduceAdd, Int.reduceMul, Nat.reducePow, Int.reduceBEq, Int.reduceBNe, Int.reduceMod, E_16, A16, A16_L0_eq, A16_L0b, hv, h46, mx, my, bne_self_eq_false, g15, g16]
            · by_cases g0 : a.l0 < 1
              · rw [pc_eq]; simp +contextual -implicitDefEqProofs (maxSteps := 2000000) only [go_sem, ↓reduceIte, Nat.reduceAdd, Nat.reduceMul, Nat.reduceSub, Nat.reduceEqDiff, Nat.reduceLeDiff, Nat.reduceDiv, Nat.reduceMod, Nat.reduceBEq, Nat.reduceBNe, reduceCtorEq, Int.reduceLE, Int.reduceLT, Int.reduceToNat, Int.reduceNeg, Nat.reduceLT, Int.reduceEq, Int.reduceSub, Int.reduceAdd, Int.reduceMul, Nat.reducePow, Int.reduceBEq, Int.reduceBNe, Int.reduceMod, E_16, A16, A16_L0_eq, A16_L0b, hv, h46, mx, my, bne_self_eq_false, g15, g16, g0]
              · by_cases g1 : 40 < a.l0
                · rw [pc_eq]; simp +contextual -implicitDefEqProofs (maxSteps := 2000000) only [go_sem, ↓reduceIte, Nat.reduceAdd, Nat.reduceMul, Nat.reduceSub, Nat.reduceEqDiff, Nat.reduceLeDiff, Nat.reduceDiv, Nat.reduceMod, Nat.reduceBEq, Nat.reduceBNe, reduceCtorEq, Int.reduceLE, Int.reduceLT, Int.reduceToNat, Int.reduceNeg, Nat.reduceLT, Int.reduceEq, Int.reduceSub, Int.reduceAdd, Int.reduceMul, Nat.reducePow, Int.reduceBEq, Int.reduceBNe, Int.reduceMod, E_16, A16, A16_L0_eq, A16_L0b, hv, h46, mx, my, bne_self_eq_false, g15, g16, g0, g1]
                · by_cases g2 : a.lo0 < -17
                  · rw [pc_eq]; simp +contextual -implicitDefEqProofs (maxSteps := 2000000) only [go_sem, ↓reduceIte, Nat.reduceAdd, Nat.reduceMul, Nat.reduceSub, Nat.reduceEqDiff, Nat.reduceLeDiff, Nat.reduceDiv, Nat.reduceMod, Nat.reduceBEq, Nat.reduceBNe, reduceCtorEq, Int.reduceLE, Int.reduceLT, Int.reduceToNat, Int.reduceNeg, Nat.reduceLT, Int.reduceEq, Int.reduceSub, Int.reduceAdd, Int.reduceMul, Nat.reducePow, Int.reduceBEq, Int.reduceBNe, Int.reduceMod, E_16, A16, A16_L0_eq, A16_L0b, hv, h46, mx, my, bne_self_eq_false, g15, g16, g0, g1, g2]
                  · by_cases g2' : 18 < a.lo0
                    · rw [pc_eq]; simp +contextual -implicitDefEqProofs (maxSteps := 2000000) only [go_sem, ↓reduceIte, Nat.reduceAdd, Nat.reduceMul, Nat.reduceSub, Nat.reduceEqDiff, Nat.reduceLeDiff, Nat.reduceDiv, Nat.reduceMod, Nat.reduceBEq, Nat.reduceBNe, reduceCtorEq, Int.reduceLE, Int.reduceLT, Int.reduceToNat, Int.reduceNeg, Nat.reduceLT, Int.reduceEq, Int.reduceSub, Int.reduceAdd, Int.reduceMul, Nat.reducePow, Int.reduceBEq, Int.reduceBNe, Int.reduceMod, E_16, A16, A16_L0_eq, A16_L0b, hv, h46, mx, my, bne_self_eq_false, g15, g16, g0, g1, g2, g2']
                    · by_cases g3' : a.hi0 < -17
                      · rw [pc_eq]; simp +contextual -implicitDefEqProofs (maxSteps := 2000000) only [go_sem, ↓reduceIte, Nat.reduceAdd, Nat.reduceMul, Nat.reduceSub, Nat.reduceEqDiff, Nat.reduceLeDiff, Nat.reduceDiv, Nat.reduceMod, Nat.reduceBEq, Nat.reduceBNe, reduceCtorEq, Int.reduceLE, Int.reduceLT, Int.reduceToNat, Int.reduceNeg, Nat.reduceLT, Int.reduceEq, Int.reduceSub, Int.reduceAdd, Int.reduceMul, Nat.reducePow, Int.reduceBEq, Int.reduceBNe, Int.reduceMod, E_16, A16, A16_L0_eq, A16_L0b, hv, h46, mx, my, bne_self_eq_false, g15, g16, g0, g1, g2, g2', g3']
                      · by_cases g3 : 18 < a.hi0
                        · rw [pc_eq]; simp +contextual -implicitDefEqProofs (maxSteps := 2000000) only [go_sem, ↓reduceIte, Nat.reduceAdd, Nat.reduceMul, Nat.reduceSub, Nat.reduceEqDiff, Nat.reduceLeDiff, Nat.reduceDiv, Nat.reduceMod, Nat.reduceBEq, Nat.reduceBNe, reduceCtorEq, Int.reduceLE, Int.reduceLT, Int.reduceToNat, Int.reduceNeg, Nat.reduceLT, Int.reduceEq, Int.reduceSub, Int.reduceAdd, Int.reduceMul, Nat.reducePow, Int.reduceBEq, Int.reduceBNe, Int.reduceMod, E_16, A16, A16_L0_eq, A16_L0b, hv, h46, mx, my, bne_self_eq_false, g15, g16, g0, g1, g2, g2', g3', g3]
                        · by_cases g4 : a.hi0 < a.lo0
                          · rw [pc_eq]; simp +contextual -implicitDefEqProofs (maxSteps := 2000000) only [go_sem, ↓reduceIte, Nat.reduceAdd, Nat.reduceMul, Nat.reduceSub, Nat.reduceEqDiff, Nat.reduceLeDiff, Nat.reduceDiv, Nat.reduceMod, Nat.reduceBEq, Nat.reduceBNe, reduceCtorEq, Int.reduceLE, Int.reduceLT, Int.reduceToNat, Int.reduceNeg, Nat.reduceLT, Int.reduceEq, Int.reduceSub, Int.reduceAdd, Int.reduceMul, Nat.reducePow, Int.reduceBEq, Int.reduceBNe, Int.reduceMod, E_16, A16, A16_L0_eq, A16_L0b, hv, h46, mx, my, bne_self_eq_false, g15, g16, g0, g1, g2, g2', g3', g3, g4]
                          · by_cases g5 : a.l1 < 1
                            · rw [pc_eq]; simp +contextual -implicitDefEqProofs (maxSteps := 2000000) only [go_sem, ↓reduceIte, Nat.reduceAdd, Nat.reduceMul, Nat.reduceSub, Nat.reduceEqDiff, Nat.reduceLeDiff, Nat.reduceDiv, Nat.reduceMod, Nat.reduceBEq, Nat.reduceBNe, reduceCtorEq, Int.reduceLE, Int.reduceLT, Int.reduceToNat, Int.reduceNeg, Nat.reduceLT, Int.reduceEq, Int.reduceSub, Int.reduceAdd, Int.reduceMul, Nat.reducePow, Int.reduceBEq, Int.reduceBNe, Int.reduceMod, E_16, A16, A16_L0_eq, A16_L0b, hv, h46, mx, my, bne_self_eq_false, g15, g16, g0, g1, g2, g2', g3', g3, g4, g5]
                            · by_cases g6 : 40 < a.l1
                              · rw [pc_eq]; simp +contextual -implicitDefEqProofs (maxSteps := 2000000) only [go_sem, ↓reduceIte, Nat.reduceAdd, Nat.reduceMul, Nat.reduceSub, Nat.reduceEqDiff, Nat.reduceLeDiff, Nat.reduceDiv, Nat.reduceMod, Nat.reduceBEq, Nat.reduceBNe, reduceCtorEq, Int.reduceLE, Int.reduceLT, Int.reduceToNat, Int.reduceNeg, Nat.reduceLT, Int.reduceEq, Int.reduceSub, Int.reduceAdd, Int.reduceMul, Nat.reducePow, Int.reduceBEq, Int.reduceBNe, Int.reduceMod, E_16, A16, A16_L0_eq, A16_L0b, hv, h46, mx, my, bne_self_eq_false, g15, g16, g0, g1, g2, g2', g3', g3, g4, g5, g6]
                              · by_cases g7 : a.lo1 < -17
                                · rw [pc_eq]; simp +contextual -implicitDefEqProofs (maxSteps := 2000000) only [go_sem, ↓reduceIte, Nat.reduceAdd, Nat.reduceMul, Nat.reduceSub, Nat.reduceEqDiff, Nat.reduceLeDiff, Nat.reduceDiv, Nat.reduceMod, Nat.reduceBEq, Nat.reduceBNe, reduceCtorEq, Int.reduceLE, Int.reduceLT, Int.reduceToNat, Int.reduceNeg, Nat.reduceLT, Int.reduceEq, Int.reduceSub, Int.reduceAdd, Int.reduceMul, Nat.reducePow, Int.reduceBEq, Int.reduceBNe, Int.reduceMod, E_16, A16, A16_L0_eq, A16_L0b, hv, h46, mx, my, bne_self_eq_false, g15, g16, g0, g1, g2, g2', g3', g3, g4, g5, g6, g7]
                                · by_cases g7' : 18 < a.lo1
                                  · rw [pc_eq]; simp +contextual -implicitDefEqProofs (maxSteps := 2000000) only [go_sem, ↓reduceIte, Nat.reduceAdd, Nat.reduceMul, Nat.reduceSub, Nat.reduceEqDiff, Nat.reduceLeDiff, Nat.reduceDiv, Nat.reduceMod, Nat.reduceBEq, Nat.reduceBNe, reduceCtorEq, Int.reduceLE, Int.reduceLT, Int.reduceToNat, Int.reduceNeg, Nat.reduceLT, Int.reduceEq, Int.reduceSub, Int.reduceAdd, Int.reduceMul, Nat.reducePow, Int.reduceBEq, Int.reduceBNe, Int.reduceMod, E_16, A16, A16_L0_eq, A16_L0b, hv, h46, mx, my, bne_self_eq_false, g15, g16, g0, g1, g2, g2', g3', g3, g4, g5, g6, g7, g7']
                                  · by_cases g8' : a.hi1 < -17
                                    · rw [pc_eq]; simp +contextual -implicitDefEqProofs (maxSteps := 2000000) only [go_sem, ↓reduceIte, Nat.reduceAdd, Nat.reduceMul, Nat.reduceSub, Nat.reduceEqDiff, Nat.reduceLeDiff, Nat.reduceDiv, Nat.reduceMod, Nat.reduceBEq, Nat.reduceBNe, reduceCtorEq, Int.reduceLE, Int.reduceLT, Int.reduceToNat, Int.reduceNeg, Nat.reduceLT, Int.reduceEq, Int.reduceSub, Int.reduceAdd, Int.reduceMul, Nat.reducePow, Int.reduceBEq, Int.reduceBNe, Int.reduceMod, E_16, A16, A16_L0_eq, A16_L0b, hv, h46, mx, my, bne_self_eq_false, g15, g16, g0, g1, g2, g2', g3', g3, g4, g5, g6, g7, g7', g8']
                                    · by_cases g8 : 18 < a.hi1
                                      · rw [pc_eq]; simp +contextual -implicitDefEqProofs (maxSteps := 2000000) only [go_sem, ↓reduceIte, Nat.reduceAdd, Nat.reduceMul, Nat.reduceSub, Nat.reduceEqDiff, Nat.reduceLeDiff, Nat.reduceDiv, Nat.reduceMod, Nat.reduceBEq, Nat.reduceBNe, reduceCtorEq, Int.reduceLE, Int.reduceLT, Int.reduceToNat, Int.reduceNeg, Nat.reduceLT, Int.reduceEq, Int.reduceSub, Int.reduceAdd, Int.reduceMul, Nat.reducePow, Int.reduceBEq, Int.reduceBNe, Int.reduceMod, E_16, A16, A16_L0_eq, A16_L0b, hv, h46, mx, my, bne_self_eq_false, g15, g16, g0, g1, g2, g2', g3', g3, g4, g5, g6, g7, g7', g8', g8]
                                      · by_cases g9 : a.hi1 < a.lo1
                                        · rw [pc_eq]; simp +contextual -implicitDefEqProofs (maxSteps := 2000000) only [go_sem, ↓reduceIte, Nat.reduceAdd, Nat.reduceMul, Nat.reduceSub, Nat.reduceEqDiff, Nat.reduceLeDiff, Nat.reduceDiv, Nat.reduceMod, Nat.reduceBEq, Nat.reduceBNe, reduceCtorEq, Int.reduceLE, Int.reduceLT, Int.reduceToNat, Int.reduceNeg, Nat.reduceLT, Int.reduceEq, Int.reduceSub, Int.reduceAdd, Int.reduceMul, Nat.reducePow, Int.reduceBEq, Int.reduceBNe, Int.reduceMod, E_16, A16, A16_L0_eq, A16_L0b, hv, h46, mx, my, bne_self_eq_false, g15, g16, g0, g1, g2, g2', g3', g3, g4, g5, g6, g7, g7', g8', g8, g9]
                                        · by_cases g10 : a.l2 < 1
                                          · rw [pc_eq]; simp +contextual -implicitDefEqProofs (maxSteps := 2000000) only [go_sem, ↓reduceIte, Nat.reduceAdd, Nat.reduceMul, Nat.reduceSub, Nat.reduceEqDiff, Nat.reduceLeDiff, Nat.reduceDiv, Nat.reduceMod, Nat.reduceBEq, Nat.reduceBNe, reduceCtorEq, Int.reduceLE, Int.reduceLT, Int.reduceToNat, Int.reduceNeg, Nat.reduceLT, Int.reduceEq, Int.reduceSub, Int.reduceAdd, Int.reduceMul, Nat.reducePow, Int.reduceBEq, Int.reduceBNe, Int.reduceMod, E_16, A16, A16_L0_eq, A16_L0b, hv, h46, mx, my, bne_self_eq_false, g15, g16, g0, g1, g2, g2', g3', g3, g4, g5, g6, g7, g7', g8', g8, g9, g10]
                                          · by_cases g11 : 40 < a.l2
                                            · rw [pc_eq]; simp +contextual -implicitDefEqProofs (maxSteps := 2000000) only [go_sem, ↓reduceIte, Nat.reduceAdd, Nat.reduceMul, Nat.reduceSub, Nat.reduceEqDiff, Nat.reduceLeDiff, Nat.reduceDiv, Nat.reduceMod, Nat.reduceBEq, Nat.reduceBNe, reduceCtorEq, Int.reduceLE, Int.reduceLT, Int.reduceToNat, Int.reduceNeg, Nat.reduceLT, Int.reduceEq, Int.reduceSub, Int.reduceAdd, Int.reduceMul, Nat.reducePow, Int.reduceBEq, Int.reduceBNe, Int.reduceMod, E_16, A16, A16_L0_eq, A16_L0b, hv, h46, mx, my, bne_self_eq_false, g15, g16, g0, g1, g2, g2', g3', g3, g4, g5, g6, g7, g7', g8', g8, g9, g10, g11]
                                            · by_cases g12 : a.lo2 < -17
                                              · rw [pc_eq]; simp +contextual -implicitDefEqProofs (maxSteps := 2000000) only [go_sem, ↓reduceIte, Nat.reduceAdd, Nat.reduceMul, Nat.reduceSub, Nat.reduceEqDiff, Nat.reduceLeDiff, Nat.reduceDiv, Nat.reduceMod, Nat.reduceBEq, Nat.reduceBNe, reduceCtorEq, Int.reduceLE, Int.reduceLT, Int.reduceToNat, Int.reduceNeg, Nat.reduceLT, Int.reduceEq, Int.reduceSub, Int.reduceAdd, Int.reduceMul, Nat.reducePow, Int.reduceBEq, Int.reduceBNe, Int.reduceMod, E_16, A16, A16_L0_eq, A16_L0b, hv, h46, mx, my, bne_self_eq_false, g15, g16, g0, g1, g2, g2', g3', g3, g4, g5, g6, g7, g7', g8', g8, g9, g10, g11, g12]
                                              · by_cases g12' : 18 < a.lo2
                                                · rw [pc_eq]; simp +contextual -implicitDefEqProofs (maxSteps := 2000000) only [go_sem, ↓reduceIte, Nat.reduceAdd, Nat.reduceMul, Nat.reduceSub, Nat.reduceEqDiff, Nat.reduceLeDiff, Nat.reduceDiv, Nat.reduceMod, Nat.reduceBEq, Nat.reduceBNe, reduceCtorEq, Int.reduceLE, Int.reduceLT, Int.reduceToNat, Int.reduceNeg, Nat.reduceLT, Int.reduceEq, Int.reduceSub, Int.reduceAdd, Int.reduceMul, Nat.reducePow, Int.reduceBEq, Int.reduceBNe, Int.reduceMod, E_16, A16, A16_L0_eq, A16_L0b, hv, h46, mx, my, bne_self_eq_false, g15, g16, g0, g1, g2, g2', g3', g3, g4, g5, g6, g7, g7', g8', g8, g9, g10, g11, g12, g12']
                                                · by_cases g13' : a.hi2 < -17
                                                  · rw [pc_eq]; simp +contextual -implicitDefEqProofs (maxSteps := 2000000) only [go_sem, ↓reduceIte, Nat.reduceAdd, Nat.reduceMul, Nat.reduceSub, Nat.reduceEqDiff, Nat.reduceLeDiff, Nat.reduceDiv, Nat.reduceMod, Nat.reduceBEq, Nat.reduceBNe, reduceCtorEq, Int.reduceLE, Int.reduceLT, Int.reduceToNat, Int.reduceNeg, Nat.reduceLT, Int.reduceEq, Int.reduceSub, Int.reduceAdd, Int.reduceMul, Nat.reducePow, Int.reduceBEq, Int.reduceBNe, Int.reduceMod, E_16, A16, A16_L0_eq, A16_L0b, hv, h46, mx, my, bne_self_eq_false, g15, g16, g0, g1, g2, g2', g3', g3, g4, g5, g6, g7, g7', g8', g8, g9, g10, g11, g12, g12', g13']
                                                  · by_cases g13 : 18 < a.hi2
                                                    · rw [pc_eq]; simp +contextual -implicitDefEqProofs (maxSteps := 2000000) only [go_sem, ↓reduceIte, Nat.reduceAdd, Nat.reduceMul, Nat.reduceSub, Nat.reduceEqDiff, Nat.reduceLeDiff, Nat.reduceDiv, Nat.reduceMod, Nat.reduceBEq, Nat.reduceBNe, reduceCtorEq, Int.reduceLE, Int.reduceLT, Int.reduceToNat, Int.reduceNeg, Nat.reduceLT, Int.reduceEq, Int.reduceSub, Int.reduceAdd, Int.reduceMul, Nat.reducePow, Int.reduceBEq, Int.reduceBNe, Int.reduceMod, E_16, A16, A16_L0_eq, A16_L0b, hv, h46, mx, my, bne_self_eq_false, g15, g16, g0, g1, g2, g2', g3', g3, g4, g5, g6, g7, g7', g8', g8, g9, g10, g11, g12, g12', g13', g13]
                                                    · by_cases g14 : a.hi2 < a.lo2
                                                      · rw [pc_eq]; simp +contextual -implicitDefEqProofs (maxSteps := 2000000) only [go_sem, ↓reduceIte, Nat.reduceAdd, Nat.reduceMul, Nat.reduceSub, Nat.reduceEqDiff, Nat.reduceLeDiff, Nat.reduceDiv, Nat.reduceMod, Nat.reduceBEq, Nat.reduceBNe, reduceCtorEq, Int.reduceLE, Int.reduceLT, Int.reduceToNat, Int.reduceNeg, Nat.reduceLT, Int.reduceEq, Int.reduceSub, Int.reduceAdd, Int.reduceMul, Nat.reducePow, Int.reduceBEq, Int.reduceBNe, Int.reduceMod, E_16, A16, A16_L0_eq, A16_L0b, hv, h46, mx, my, bne_self_eq_false, g15, g16, g0, g1, g2, g2', g3', g3, g4, g5, g6, g7, g7', g8', g8, g9, g10, g11, g12, g12', g13', g13, g14]
                                                      · exfalso; exact hp ⟨by omega, by omega, by omega, by omega, by omega, by omega, by omega⟩
      · have hv := okF (fun h => my (ok_inv h).1.2)
        have my' : (a.by_.tmod 16 != 0) = true := by simpa using my
        by_cases g15 : a.w < 1
        · rw [pc_eq]; simp +contextual -implicitDefEqProofs (maxSteps := 2000000) only [go_sem, ↓reduceIte, Nat.reduceAdd, Nat.reduceMul, Nat.reduceSub, Nat.reduceEqDiff, Nat.reduceLeDiff, Nat.reduceDiv, Nat.reduceMod, Nat.reduceBEq, Nat.reduceBNe, reduceCtorEq, Int.reduceLE, Int.reduceLT, Int.reduceToNat, Int.reduceNeg, Nat.reduceLT, Int.reduceEq, Int.reduceSub, Int.reduceAdd, Int.reduceMul, Nat.reducePow, Int.reduceBEq, Int.reduceBNe, Int.reduceMod, E_16, A16, hv, h46, mx, my, my', bne_self_eq_false, g15]
        · by_cases g16 : 4 < a.w
          · rw [pc_eq]; simp +contextual -implicitDefEqProofs (maxSteps := 2000000) only [go_sem, ↓reduceIte, Nat.reduceAdd, Nat.reduceMul, Nat.reduceSub, Nat.reduceEqDiff, Nat.reduceLeDiff, Nat.reduceDiv, Nat.reduceMod, Nat.reduceBEq, Nat.reduceBNe, reduceCtorEq, Int.reduceLE, Int.reduceLT, Int.reduceToNat, Int.reduceNeg, Nat.reduceLT, Int.reduceEq, Int.reduceSub, Int.reduceAdd, Int.reduceMul, Nat.reducePow, Int.reduceBEq, Int.reduceBNe, Int.reduceMod, E_16, A16, hv, h46, mx, my, my', bne_self_eq_false, g15, g16]
          · rw [pc_eq]; simp +contextual -implicitDefEqProofs (maxSteps := 2000000) only [go_sem, ↓reduceIte, Nat.reduceAdd, Nat.reduceMul, Nat.reduceSub, Nat.reduceEqDiff, Nat.reduceLeDiff, Nat.reduceDiv, Nat.reduceMod, Nat.reduceBEq, Nat.reduceBNe, reduceCtorEq, Int.reduceLE, Int.reduceLT, Int.reduceToNat, Int.reduceNeg, Nat.reduceLT, Int.reduceEq, Int.reduceSub, Int.reduceAdd, Int.reduceMul, Nat.reducePow, Int.reduceBEq, Int.reduceBNe, Int.reduceMod, E_16, A16, hv, h46, mx, my, my', bne_self_eq_false, g15, g16]
    · have hv := okF (fun h => mx (ok_inv h).1.1)
      have mx' : (a.bx.tmod 16 != 0) = true := by simpa using mx
      by_cases g15 : a.w < 1
      · rw [pc_eq]; simp +contextual -implicitDefEqProofs (maxSteps := 2000000) only [go_sem, ↓reduceIte, Nat.reduceAdd, Nat.reduceMul, Nat.reduceSub, Nat.reduceEqDiff, Nat.reduceLeDiff, Nat.reduceDiv, Nat.reduceMod, Nat.reduceBEq, Nat.reduceBNe, reduceCtorEq, Int.reduceLE, Int.reduceLT, Int.reduceToNat, Int.reduceNeg, Nat.reduceLT, Int.reduceEq, Int.reduceSub, Int.reduceAdd, Int.reduceMul, Nat.reducePow, Int.reduceBEq, Int.reduceBNe, Int.reduceMod, E_16, A16, hv, h46, mx, mx', g15]
      · by_cases g16 : 4 < a.w
        · rw [pc_eq]; simp +contextual -implicitDefEqProofs (maxSteps := 2000000) only [go_sem, ↓reduceIte, Nat.reduceAdd, Nat.reduceMul, Nat.reduceSub, Nat.reduceEqDiff, Nat.reduceLeDiff, Nat.reduceDiv, Nat.reduceMod, Nat.reduceBEq, Nat.reduceBNe, reduceCtorEq, Int.reduceLE, Int.reduceLT, Int.reduceToNat, Int.reduceNeg, Nat.reduceLT, Int.reduceEq, Int.reduceSub, Int.reduceAdd, Int.reduceMul, Nat.reducePow, Int.reduceBEq, Int.reduceBNe, Int.reduceMod, E_16, A16, hv, h46, mx, mx', g15, g16]
        · rw [pc_eq]; simp +contextual -implicitDefEqProofs (maxSteps := 2000000) only [go_sem, ↓reduceIte, Nat.reduceAdd, Nat.reduceMul, Nat.reduceSub, Nat.reduceEqDiff, Nat.reduceLeDiff, Nat.reduceDiv, Nat.reduceMod, Nat.reduceBEq, Nat.reduceBNe, reduceCtorEq, Int.reduceLE, Int.reduceLT, Int.reduceToNat, Int.reduceNeg, Nat.reduceLT, Int.reduceEq, Int.reduceSub, Int.reduceAdd, Int.reduceMul, Nat.reducePow, Int.reduceBEq, Int.reduceBNe, Int.reduceMod, E_16, A16, hv, h46, mx, mx', g15, g16]
end Go.Proofs.Ytnecdcaaknhgpaa

namespace Go.Proofs.Ytnecdcaaknhgpaa
set_option maxRecDepth 100000
set_option maxHeartbeats 4000000
set_option linter.unusedSimpArgs false
set_option linter.unusedVariables false
open Go Go.Zv
/-- joints within an arm's limits -/
structure Lim (a : Arm) (q0 q1 q2 : Int) : Prop where
  a0 : a.lo0 ≤ q0 ∧ q0 ≤ a.hi0
  a1 : a.lo1 ≤ q1 ∧ q1 ≤ a.hi1
  a2 : a.lo2 ≤ q2 ∧ q2 ≤ a.hi2
def limB (a : Arm) (q0 q1 q2 : Int) : Bool := decide (a.lo0 ≤ q0 ∧ q0 ≤ a.hi0 ∧ a.lo1 ≤ q1 ∧ q1 ≤ a.hi1 ∧ a.lo2 ≤ q2 ∧ q2 ≤ a.hi2)
theorem limT {a : Arm} {q0 q1 q2 : Int} (h : Lim a q0 q1 q2) : limB a q0 q1 q2 = true := decide_eq_true ⟨h.a0.1, h.a0.2, h.a1.1, h.a1.2, h.a2.1, h.a2.2⟩
theorem limF {a : Arm} {q0 q1 q2 : Int} (h : ¬ Lim a q0 q1 q2) : limB a q0 q1 q2 = false := decide_eq_false fun k => h ⟨⟨k.1, k.2.1⟩, ⟨k.2.2.1, k.2.2.2.1⟩, ⟨k.2.2.2.2.1, k.2.2.2.2.2⟩⟩
theorem limB_iff {a : Arm} {q0 q1 q2 : Int} : limB a q0 q1 q2 = true ↔ Lim a q0 q1 q2 := by
  refine ⟨fun h => ?_, limT⟩
  have k := of_decide_eq_true h
  exact ⟨⟨k.1, k.2.1⟩, ⟨k.2.2.1, k.2.2.2.1⟩, ⟨k.2.2.2.2.1, k.2.2.2.2.2⟩⟩
theorem c17 (a : Arm) (q0 q1 q2 : Int) : pc E 17 [av a, jv q0 q1 q2] = some (.bool (limB a q0 q1 q2)) := by
  by_cases g0 : q0 < a.lo0
  · have hv := limF (a := a) (q0 := q0) (q1 := q1) (q2 := q2) (fun h => by obtain ⟨h1, h2, h3⟩ := h; omega)
    rw [pc_eq]; simp +contextual -implicitDefEqProofs (maxSteps := 2000000) only [go_sem, ↓reduceIte, Nat.reduceAdd, Nat.reduceMul, Nat.reduceSub, Nat.reduceEqDiff, Nat.reduceLeDiff, Nat.reduceDiv, Nat.reduceMod, Nat.reduceBEq, Nat.reduceBNe, reduceCtorEq, Int.reduceLE, Int.reduceLT, Int.reduceToNat, Int.reduceNeg, Nat.reduceLT, Int.reduceEq, Int.reduceSub, Int.reduceAdd, Int.reduceMul, Nat.reducePow, Int.reduceBEq, Int.reduceBNe, Int.reduceMod, E_17, A17, A17_L0_eq, A17_L0b, hv, g0]
  · by_cases g1 : a.hi0 < q0
    · have hv := limF (a := a) (q0 := q0) (q1 := q1) (q2 := q2) (fun h => by obtain ⟨h1, h2, h3⟩ := h; omega)
      rw [pc_eq]; simp +contextual -implicitDefEqProofs (maxSteps := 2000000) only [go_sem, ↓reduceIte, Nat.reduceAdd, Nat.reduceMul, Nat.reduceSub, Nat.reduceEqDiff, Nat.reduceLeDiff, Nat.reduceDiv, Nat.reduceMod, Nat.reduceBEq, Nat.reduceBNe, reduceCtorEq, Int.reduceLE, Int.reduceLT, Int.reduceToNat, Int.reduceNeg, Nat.reduceLT, Int.reduceEq, Int.reduceSub, Int.reduceAdd, Int.reduceMul, Nat.reducePow, Int.reduceBEq, Int.reduceBNe, Int.reduceMod, E_17, A17, A17_L0_eq, A17_L0b, hv, g0, g1]
    · by_cases g2 : q1 < a.lo1
      · have hv := limF (a := a) (q0 := q0) (q1 := q1) (q2 := q2) (fun h => by obtain ⟨h1, h2, h3⟩ := h; omega)
        rw [pc_eq]; simp +contextual -implicitDefEqProofs (maxSteps := 2000000) only [go_sem, ↓reduceIte, Nat.reduceAdd, Nat.reduceMul, Nat.reduceSub, Nat.reduceEqDiff, Nat.reduceLeDiff, Nat.reduceDiv, Nat.reduceMod, Nat.reduceBEq, Nat.reduceBNe, reduceCtorEq, Int.reduceLE, Int.reduceLT, Int.reduceToNat, Int.reduceNeg, Nat.reduceLT, Int.reduceEq, Int.reduceSub, Int.reduceAdd, Int.reduceMul, Nat.reducePow, Int.reduceBEq, Int.reduceBNe, Int.reduceMod, E_17, A17, A17_L0_eq, A17_L0b, hv, g0, g1, g2]
      · by_cases g3 : a.hi1 < q1
        · have hv := limF (a := a) (q0 := q0) (q1 := q1) (q2 := q2) (fun h => by obtain ⟨h1, h2, h3⟩ := h; omega)
          rw [pc_eq]; simp +contextual -implicitDefEqProofs (maxSteps := 2000000) only [go_sem, ↓reduceIte, Nat.reduceAdd, Nat.reduceMul, Nat.reduceSub, Nat.reduceEqDiff, Nat.reduceLeDiff, Nat.reduceDiv, Nat.reduceMod, Nat.reduceBEq, Nat.reduceBNe, reduceCtorEq, Int.reduceLE, Int.reduceLT, Int.reduceToNat, Int.reduceNeg, Nat.reduceLT, Int.reduceEq, Int.reduceSub, Int.reduceAdd, Int.reduceMul, Nat.reducePow, Int.reduceBEq, Int.reduceBNe, Int.reduceMod, E_17, A17, A17_L0_eq, A17_L0b, hv, g0, g1, g2, g3]
        · by_cases g4 : q2 < a.lo2
          · have hv := limF (a := a) (q0 := q0) (q1 := q1) (q2 := q2) (fun h => by obtain ⟨h1, h2, h3⟩ := h; omega)
            rw [pc_eq]; simp +contextual -implicitDefEqProofs (maxSteps := 2000000) only [go_sem, ↓reduceIte, Nat.reduceAdd, Nat.reduceMul, Nat.reduceSub, Nat.reduceEqDiff, Nat.reduceLeDiff, Nat.reduceDiv, Nat.reduceMod, Nat.reduceBEq, Nat.reduceBNe, reduceCtorEq, Int.reduceLE, Int.reduceLT, Int.reduceToNat, Int.reduceNeg, Nat.reduceLT, Int.reduceEq, Int.reduceSub, Int.reduceAdd, Int.reduceMul, Nat.reducePow, Int.reduceBEq, Int.reduceBNe, Int.reduceMod, E_17, A17, A17_L0_eq, A17_L0b, hv, g0, g1, g2, g3, g4]
          · by_cases g5 : a.hi2 < q2
            · have hv := limF (a := a) (q0 := q0) (q1 := q1) (q2 := q2) (fun h => by obtain ⟨h1, h2, h3⟩ := h; omega)
              rw [pc_eq]; simp +contextual -implicitDefEqProofs (maxSteps := 2000000) only [go_sem, ↓reduceIte, Nat.reduceAdd, Nat.reduceMul, Nat.reduceSub, Nat.reduceEqDiff, Nat.reduceLeDiff, Nat.reduceDiv, Nat.reduceMod, Nat.reduceBEq, Nat.reduceBNe, reduceCtorEq, Int.reduceLE, Int.reduceLT, Int.reduceToNat, Int.reduceNeg, Nat.reduceLT, Int.reduceEq, Int.reduceSub, Int.reduceAdd, Int.reduceMul, Nat.reducePow, Int.reduceBEq, Int.reduceBNe, Int.reduceMod, E_17, A17, A17_L0_eq, A17_L0b, hv, g0, g1, g2, g3, g4, g5]
            · have hv := limT (a := a) (q0 := q0) (q1 := q1) (q2 := q2) ⟨by omega, by omega, by omega⟩
              rw [pc_eq]; simp +contextual -implicitDefEqProofs (maxSteps := 2000000) only [go_sem, ↓reduceIte, Nat.reduceAdd, Nat.reduceMul, Nat.reduceSub, Nat.reduceEqDiff, Nat.reduceLeDiff, Nat.reduceDiv, Nat.reduceMod, Nat.reduceBEq, Nat.reduceBNe, reduceCtorEq, Int.reduceLE, Int.reduceLT, Int.reduceToNat, Int.reduceNeg, Nat.reduceLT, Int.reduceEq, Int.reduceSub, Int.reduceAdd, Int.reduceMul, Nat.reducePow, Int.reduceBEq, Int.reduceBNe, Int.reduceMod, E_17, A17, A17_L0_eq, A17_L0b, hv, g0, g1, g2, g3, g4, g5]
theorem c18 (a : Arm) (q0 q1 q2 : Int) : pc E 18 [av a, jv q0 q1 q2] = some (.bool (limB a q0 q1 q2)) := by
  by_cases g0 : q0 < a.lo0
  · have hv := limF (a := a) (q0 := q0) (q1 := q1) (q2 := q2) (fun h => by obtain ⟨h1, h2, h3⟩ := h; omega)
    rw [pc_eq]; simp +contextual -implicitDefEqProofs (maxSteps := 2000000) only [go_sem, ↓reduceIte, Nat.reduceAdd, Nat.reduceMul, Nat.reduceSub, Nat.reduceEqDiff, Nat.reduceLeDiff, Nat.reduceDiv, Nat.reduceMod, Nat.reduceBEq, Nat.reduceBNe, reduceCtorEq, Int.reduceLE, Int.reduceLT, Int.reduceToNat, Int.reduceNeg, Nat.reduceLT, Int.reduceEq, Int.reduceSub, Int.reduceAdd, Int.reduceMul, Nat.reducePow, Int.reduceBEq, Int.reduceBNe, Int.reduceMod, E_18, A18, A18_L0_eq, A18_L0b, hv, g0]
  · by_cases g1 : a.hi0 < q0
    · have hv := limF (a := a) (q0 := q0) (q1 := q1) (q2 := q2) (fun h => by obtain ⟨h1, h2, h3⟩ := h; omega)
      rw [pc_eq]; simp +contextual -implicitDefEqProofs (maxSteps := 2000000) only [go_sem, ↓reduceIte, Nat.reduceAdd, Nat.reduceMul, Nat.reduceSub, Nat.reduceEqDiff, Nat.reduceLeDiff, Nat.reduceDiv, Nat.reduceMod, Nat.reduceBEq, Nat.reduceBNe, reduceCtorEq, Int.reduceLE, Int.reduceLT, Int.reduceToNat, Int.reduceNeg, Nat.reduceLT, Int.reduceEq, Int.reduceSub, Int.reduceAdd, Int.reduceMul, Nat.reducePow, Int.reduceBEq, Int.reduceBNe, Int.reduceMod, E_18, A18, A18_L0_eq, A18_L0b, hv, g0, g1]
    · by_cases g2 : q1 < a.lo1
      · have hv := limF (a := a) (q0 := q0) (q1 := q1) (q2 := q2) (fun h => by obtain ⟨h1, h2, h3⟩ := h; omega)
        rw [pc_eq]; simp +contextual -implicitDefEqProofs (maxSteps := 2000000) only [go_sem, ↓reduceIte, Nat.reduceAdd, Nat.reduceMul, Nat.reduceSub, Nat.reduceEqDiff, Nat.reduceLeDiff, Nat.reduceDiv, Nat.reduceMod, Nat.reduceBEq, Nat.reduceBNe, reduceCtorEq, Int.reduceLE, Int.reduceLT, Int.reduceToNat, Int.reduceNeg, Nat.reduceLT, Int.reduceEq, Int.reduceSub, Int.reduceAdd, Int.reduceMul, Nat.reducePow, Int.reduceBEq, Int.reduceBNe, Int.reduceMod, E_18, A18, A18_L0_eq, A18_L0b, hv, g0, g1, g2]
      · by_cases g3 : a.hi1 < q1
        · have hv := limF (a := a) (q0 := q0) (q1 := q1) (q2 := q2) (fun h => by obtain ⟨h1, h2, h3⟩ := h; omega)
          rw [pc_eq]; simp +contextual -implicitDefEqProofs (maxSteps := 2000000) only [go_sem, ↓reduceIte, Nat.reduceAdd, Nat.reduceMul, Nat.reduceSub, Nat.reduceEqDiff, Nat.reduceLeDiff, Nat.reduceDiv, Nat.reduceMod, Nat.reduceBEq, Nat.reduceBNe, reduceCtorEq, Int.reduceLE, Int.reduceLT, Int.reduceToNat, Int.reduceNeg, Nat.reduceLT, Int.reduceEq, Int.reduceSub, Int.reduceAdd, Int.reduceMul, Nat.reducePow, Int.reduceBEq, Int.reduceBNe, Int.reduceMod, E_18, A18, A18_L0_eq, A18_L0b, hv, g0, g1, g2, g3]
        · by_cases g4 : q2 < a.lo2
          · have hv := limF (a := a) (q0 := q0) (q1 := q1) (q2 := q2) (fun h => by obtain ⟨h1, h2, h3⟩ := h; omega)
            rw [pc_eq]; simp +contextual -implicitDefEqProofs (maxSteps := 2000000) only [go_sem, ↓reduceIte, Nat.reduceAdd, Nat.reduceMul, Nat.reduceSub, Nat.reduceEqDiff, Nat.reduceLeDiff, Nat.reduceDiv, Nat.reduceMod, Nat.reduceBEq, Nat.reduceBNe, reduceCtorEq, Int.reduceLE, Int.reduceLT, Int.reduceToNat, Int.reduceNeg, Nat.reduceLT, Int.reduceEq, Int.reduceSub, Int.reduceAdd, Int.reduceMul, Nat.reducePow, Int.reduceBEq, Int.reduceBNe, Int.reduceMod, E_18, A18, A18_L0_eq, A18_L0b, hv, g0, g1, g2, g3, g4]
          · by_cases g5 : a.hi2 < q2
            · have hv := limF (a := a) (q0 := q0) (q1 := q1) (q2 := q2) (fun h => by obtain ⟨h1, h2, h3⟩ := h; omega)
              rw [pc_eq]; simp +contextual -implicitDefEqProofs (maxSteps := 2000000) only [go_sem, ↓reduceIte, Nat.reduceAdd, Nat.reduceMul, Nat.reduceSub, Nat.reduceEqDiff, Nat.reduceLeDiff, Nat.reduceDiv, Nat.reduceMod, Nat.reduceBEq, Nat.reduceBNe, reduceCtorEq, Int.reduceLE, Int.reduceLT, Int.reduceToNat, Int.reduceNeg, Nat.reduceLT, Int.reduceEq, Int.reduceSub, Int.reduceAdd, Int.reduceMul, Nat.reducePow, Int.reduceBEq, Int.reduceBNe, Int.reduceMod, E_18, A18, A18_L0_eq, A18_L0b, hv, g0, g1, g2, g3, g4, g5]
            · have hv := limT (a := a) (q0 := q0) (q1 := q1) (q2 := q2) ⟨by omega, by omega, by omega⟩
              rw [pc_eq]; simp +contextual -implicitDefEqProofs (maxSteps := 2000000) only [go_sem, ↓reduceIte, Nat.reduceAdd, Nat.reduceMul, Nat.reduceSub, Nat.reduceEqDiff, Nat.reduceLeDiff, Nat.reduceDiv, Nat.reduceMod, Nat.reduceBEq, Nat.reduceBNe, reduceCtorEq, Int.reduceLE, Int.reduceLT, Int.reduceToNat, Int.reduceNeg, Nat.reduceLT, Int.reduceEq, Int.reduceSub, Int.reduceAdd, Int.reduceMul, Nat.reducePow, Int.reduceBEq, Int.reduceBNe, Int.reduceMod, E_18, A18, A18_L0_eq, A18_L0b, hv, g0, g1, g2, g3, g4, g5]
def jt (lo hi r : Int) : Int := lo + r % (hi - lo + 1)
theorem jt_in {lo hi r : Int} (h : lo ≤ hi) : lo ≤ jt lo hi r ∧ jt lo hi r ≤ hi := by
  unfold jt
  have h1 := Int.emod_nonneg r (show hi - lo + 1 ≠ 0 by omega)
  have h2 := Int.emod_lt_of_pos r (show 0 < hi - lo + 1 by omega)
  omega
theorem jt_lim {a : Arm} (h : OKa a) (r0 r1 r2 : Int) : Lim a (jt a.lo0 a.hi0 r0) (jt a.lo1 a.hi1 r1) (jt a.lo2 a.hi2 r2) := ⟨jt_in h.j0.2.1, jt_in h.j1.2.1, jt_in h.j2.2.1⟩
theorem c19 (a : Arm) (h : OKa a) (r0 r1 r2 : Int) (h0 : 0 ≤ r0 ∧ r0 ≤ 255) (h1 : 0 ≤ r1 ∧ r1 ≤ 255) (h2 : 0 ≤ r2 ∧ r2 ≤ 255) :
    pc E 19 [av a, .agg [.int .u8 r0, .int .u8 r1, .int .u8 r2]] = some (jv (jt a.lo0 a.hi0 r0) (jt a.lo1 a.hi1 r1) (jt a.lo2 a.hi2 r2)) := by
  have j0 := h.j0
  have j1 := h.j1
  have j2 := h.j2
  have l := jt_lim h r0 r1 r2
  have l0 := l.a0
  have l1 := l.a1
  have l2 := l.a2
  have a0 : IntKind.i64.wrap r0 = r0 := wrap_small (by omega) (by omega)
  have a1 : IntKind.i64.wrap r1 = r1 := wrap_small (by omega) (by omega)
  have a2 : IntKind.i64.wrap r2 = r2 := wrap_small (by omega) (by omega)
  have b0 : IntKind.i64.wrap (a.hi0 - a.lo0) = a.hi0 - a.lo0 := wrap_small (by omega) (by omega)
  have b1 : IntKind.i64.wrap (a.hi1 - a.lo1) = a.hi1 - a.lo1 := wrap_small (by omega) (by omega)
  have b2 : IntKind.i64.wrap (a.hi2 - a.lo2) = a.hi2 - a.lo2 := wrap_small (by omega) (by omega)
  have d0 : IntKind.i64.wrap (a.hi0 - a.lo0 + 1) = a.hi0 - a.lo0 + 1 := wrap_small (by omega) (by omega)
  have d1 : IntKind.i64.wrap (a.hi1 - a.lo1 + 1) = a.hi1 - a.lo1 + 1 := wrap_small (by omega) (by omega)
  have d2 : IntKind.i64.wrap (a.hi2 - a.lo2 + 1) = a.hi2 - a.lo2 + 1 := wrap_small (by omega) (by omega)
  have z0 : ¬ (a.hi0 - a.lo0 + 1 = 0) := by omega
  have z1 : ¬ (a.hi1 - a.lo1 + 1 = 0) := by omega
  have z2 : ¬ (a.hi2 - a.lo2 + 1 = 0) := by omega
  have m0 : r0.tmod (a.hi0 - a.lo0 + 1) = r0 % (a.hi0 - a.lo0 + 1) := tmod_pos h0.1
  have m1 : r1.tmod (a.hi1 - a.lo1 + 1) = r1 % (a.hi1 - a.lo1 + 1) := tmod_pos h1.1
  have m2 : r2.tmod (a.hi2 - a.lo2 + 1) = r2 % (a.hi2 - a.lo2 + 1) := tmod_pos h2.1
  have e0 : IntKind.i64.wrap (a.lo0 + r0 % (a.hi0 - a.lo0 + 1)) = jt a.lo0 a.hi0 r0 := wrap_small (n := jt a.lo0 a.hi0 r0) (by omega) (by omega)
  have e1 : IntKind.i64.wrap (a.lo1 + r1 % (a.hi1 - a.lo1 + 1)) = jt a.lo1 a.hi1 r1 := wrap_small (n := jt a.lo1 a.hi1 r1) (by omega) (by omega)
  have e2 : IntKind.i64.wrap (a.lo2 + r2 % (a.hi2 - a.lo2 + 1)) = jt a.lo2 a.hi2 r2 := wrap_small (n := jt a.lo2 a.hi2 r2) (by omega) (by omega)
  rw [pc_eq]; simp +contextual -implicitDefEqProofs (maxSteps := 2000000) only [go_sem, ↓reduceIte, Nat.reduceAdd, Nat.reduceMul, Nat.reduceSub, Nat.reduceEqDiff, Nat.reduceLeDiff, Nat.reduceDiv, Nat.reduceMod, Nat.reduceBEq, Nat.reduceBNe, reduceCtorEq, Int.reduceLE, Int.reduceLT, Int.reduceToNat, Int.reduceNeg, Nat.reduceLT, Int.reduceEq, Int.reduceSub, Int.reduceAdd, Int.reduceMul, Nat.reducePow, Int.reduceBEq, Int.reduceBNe, Int.reduceMod, E_19, A19, A19_L0_eq, A19_L0b, a0, a1, a2, b0, b1, b2, d0, d1, d2, z0, z1, z2, m0, m1, m2, e0, e1, e2]
/-- a step of one joint -/
def st1 (q0 q1 q2 : Int) (k : Int) (b : Int) : Int × Int × Int := if k = 0 then (q0 + b, q1, q2) else if k = 1 then (q0, q1 + b, q2) else (q0, q1, q2 + b)
def stp (a : Arm) (q0 q1 q2 k b : Int) : LV :=
  if (0 ≤ k ∧ k ≤ 2) ∧ (b = 1 ∨ b = -1) ∧ limB a (st1 q0 q1 q2 k b).1 (st1 q0 q1 q2 k b).2.1 (st1 q0 q1 q2 k b).2.2 = true then .tup [jv (st1 q0 q1 q2 k b).1 (st1 q0 q1 q2 k b).2.1 (st1 q0 q1 q2 k b).2.2, .bool true]
  else .tup [jv 0 0 0, .bool false]
end Go.Proofs.Ytnecdcaaknhgpaa

namespace Go.Proofs.Ytnecdcaaknhgpaa
set_option maxRecDepth 100000
set_option maxHeartbeats 4000000
set_option linter.unusedSimpArgs false
set_option linter.unusedVariables false
open Go Go.Zv
open Go.Geo (rc RCok mayB locI valB areaW rc_val rc_loc rc_area rc_may mayB_iff)
def lrs (a : Arm) (d : Pts) : List (List (Int × Int)) :=
  [rc a.bx a.by_ a.l0 a.w (67600 * d.x1) (67600 * d.y1), rc (pp a d).x1 (pp a d).y1 a.l1 a.w (1040 * d.x2) (1040 * d.y2), rc (pp a d).x2 (pp a d).y2 a.l2 a.w (16 * d.x3) (16 * d.y3)]
theorem lks_rc (a : Arm) (d : Pts) : lks a d = lrs a d := by
  simp only [lks, lrs, lkc, rc, pp, Int.mul_assoc]
theorem le_mul {l X M : Int} (hl : 0 ≤ l) (hx : -M ≤ X ∧ X ≤ M) : -(l * M) ≤ l * X ∧ l * X ≤ l * M := by
  constructor
  · have := Int.mul_le_mul_of_nonneg_left hx.1 hl
    rw [Int.mul_neg] at this; exact this
  · exact Int.mul_le_mul_of_nonneg_left hx.2 hl
structure R3 (a : Arm) (d : Pts) : Prop where
  r0 : RCok a.bx a.by_ a.l0 a.w (67600 * d.x1) (67600 * d.y1) 19307236000000
  r1 : RCok (pp a d).x1 (pp a d).y1 a.l1 a.w (1040 * d.x2) (1040 * d.y2) 19307236000000
  r2 : RCok (pp a d).x2 (pp a d).y2 a.l2 a.w (16 * d.x3) (16 * d.y3) 19307236000000
theorem r3 {a : Arm} (h : OKa a) {d : Pts} (v : DV d) : R3 a d := by
  have l0 := h.l0
  have l1 := h.l1
  have l2 := h.l2
  have w := h.w
  have bx := h.bx
  have by_ := h.by_
  have x1 := v.v1.x
  have y1 := v.v1.y
  have x2 := v.v2.x
  have y2 := v.v2.y
  have x3 := v.v3.x
  have y3 := v.v3.y
  have n1 := v.v1.eq
  have n2 := v.v2.eq
  have n3 := v.v3.eq
  simp only [p65] at x1 y1 x2 y2 x3 y3 n1 n2 n3
  have g : ∀ l X : Int, 1 ≤ l → -4394000 ≤ X ∧ X ≤ 4394000 → -(l * 4394000) ≤ l * X ∧ l * X ≤ l * 4394000 := fun l X h1 h2 => le_mul (by omega) h2
  have a1 := g a.l0 (67600 * d.x1) (by omega) (by omega)
  have a2 := g a.l0 (67600 * d.y1) (by omega) (by omega)
  have a3 := g a.l1 (1040 * d.x2) (by omega) (by omega)
  have a4 := g a.l1 (1040 * d.y2) (by omega) (by omega)
  have a5 := g a.l2 (16 * d.x3) (by omega) (by omega)
  have a6 := g a.l2 (16 * d.y3) (by omega) (by omega)
  have b1 := g a.w (67600 * d.x1) (by omega) (by omega)
  have b2 := g a.w (67600 * d.y1) (by omega) (by omega)
  have b3 := g a.w (1040 * d.x2) (by omega) (by omega)
  have b4 := g a.w (1040 * d.y2) (by omega) (by omega)
  have b5 := g a.w (16 * d.x3) (by omega) (by omega)
  have b6 := g a.w (16 * d.y3) (by omega) (by omega)
  have m1 : (67600 * d.x1) * (67600 * d.x1) + (67600 * d.y1) * (67600 * d.y1) = 19307236000000 := by
    have e : (67600 * d.x1) * (67600 * d.x1) + (67600 * d.y1) * (67600 * d.y1) = 67600 * 67600 * (d.x1 * d.x1 + d.y1 * d.y1) := by grind
    rw [e, n1]; rfl
  have m2 : (1040 * d.x2) * (1040 * d.x2) + (1040 * d.y2) * (1040 * d.y2) = 19307236000000 := by
    have e : (1040 * d.x2) * (1040 * d.x2) + (1040 * d.y2) * (1040 * d.y2) = 1040 * 1040 * (d.x2 * d.x2 + d.y2 * d.y2) := by grind
    rw [e, n2]; rfl
  have m3 : (16 * d.x3) * (16 * d.x3) + (16 * d.y3) * (16 * d.y3) = 19307236000000 := by
    have e : (16 * d.x3) * (16 * d.x3) + (16 * d.y3) * (16 * d.y3) = 16 * 16 * (d.x3 * d.x3 + d.y3 * d.y3) := by grind
    rw [e, n3]; rfl
  refine ⟨⟨by omega, by omega, by omega, m1, ?_⟩, ⟨by omega, by omega, by omega, m2, ?_⟩, ⟨by omega, by omega, by omega, m3, ?_⟩⟩
  all_goals
    simp only [rc, List.mem_cons, List.not_mem_nil, or_false]
    rintro p (rfl | rfl | rfl | rfl) <;> simp only [pp, Int.mul_assoc] <;> omega
end Go.Proofs.Ytnecdcaaknhgpaa

namespace Go.Geo
set_option maxRecDepth 100000
set_option maxHeartbeats 4000000
set_option linter.unusedSimpArgs false
set_option linter.unusedVariables false
open Go Go.Zv
/-- a quarter turn about a point -/
def qtP (b p : Pt) : Pt := (b.1 - (p.2 - b.2), b.2 + (p.1 - b.1))
def qtM (b : Pt) : Mot := ⟨0, 1, (b.1 : Rat) + b.2, (b.2 : Rat) - b.1, by grind⟩
theorem qtP_mot (b p : Pt) : qp (qtP b p) = (qtM b).app (qp p) := by
  refine Prod.ext ?_ ?_ <;> simp only [qp, qtP, qtM, Mot.app, Rat.intCast_add, Rat.intCast_sub] <;> grind
theorem qtP_rc (b f : Pt) (l w X Y : Int) : (rc f.1 f.2 l w X Y).map (qtP b) = rc (qtP b f).1 (qtP b f).2 l w (-Y) X := by
  simp only [rc, qtP, List.map_cons, List.map_nil]
  refine List.ext_getElem rfl fun i h1 h2 => ?_
  simp only [List.length_cons, List.length_nil] at h1
  match i, h1 with
  | 0, _ => simp only [List.getElem_cons_zero, Prod.mk.injEq]; constructor <;> grind
  | 1, _ => simp only [List.getElem_cons_succ, List.getElem_cons_zero, Prod.mk.injEq]; constructor <;> grind
  | 2, _ => simp only [List.getElem_cons_succ, List.getElem_cons_zero, Prod.mk.injEq]; constructor <;> grind
  | 3, _ => simp only [List.getElem_cons_succ, List.getElem_cons_zero, Prod.mk.injEq]; constructor <;> grind
end Go.Geo
namespace Go.Proofs.Ytnecdcaaknhgpaa
set_option maxRecDepth 100000
set_option maxHeartbeats 4000000
set_option linter.unusedSimpArgs false
set_option linter.unusedVariables false
open Go Go.Zv
open Go.Geo (rc RCok mayB locI valB areaW rc_val rc_loc rc_area rc_may mayB_iff qtP qtM qtP_mot qtP_rc Moved FC FC_moved)
theorem cs9 (q : Int) : csI (q + 9) = (-(csI q).2, (csI q).1) := by
  have h1 : 0 ≤ q % 36 := by omega
  have h2 : q % 36 < 36 := by omega
  have h3 : (q + 9) % 36 = (q % 36 + 9) % 36 := by omega
  unfold csI
  rw [h3]
  generalize q % 36 = k at *
  rcases cases36 h1 h2 with rfl | rfl | rfl | rfl | rfl | rfl | rfl | rfl | rfl | rfl | rfl | rfl | rfl | rfl | rfl | rfl | rfl | rfl | rfl | rfl | rfl | rfl | rfl | rfl | rfl | rfl | rfl | rfl | rfl | rfl | rfl | rfl | rfl | rfl | rfl | rfl <;> rfl
theorem dd9 (q0 q1 q2 : Int) : dd (q0 + 9) q1 q2 = ⟨-(dd q0 q1 q2).y1, (dd q0 q1 q2).x1, -(dd q0 q1 q2).y2, (dd q0 q1 q2).x2, -(dd q0 q1 q2).y3, (dd q0 q1 q2).x3⟩ := by
  simp only [dd, cx, cy, cs9, Pts.mk.injEq]
  refine ⟨?_, ?_, ?_, ?_, ?_, ?_⟩ <;> grind
theorem lrs9 (a : Arm) (q0 q1 q2 : Int) : lrs a (dd (q0 + 9) q1 q2) = (lrs a (dd q0 q1 q2)).map fun l => l.map (qtP (a.bx, a.by_)) := by
  rw [dd9]
  generalize dd q0 q1 q2 = d
  simp only [lrs, List.map_cons, List.map_nil]
  have e0 := qtP_rc (a.bx, a.by_) (a.bx, a.by_) a.l0 a.w (67600 * d.x1) (67600 * d.y1)
  have e1 := qtP_rc (a.bx, a.by_) ((pp a d).x1, (pp a d).y1) a.l1 a.w (1040 * d.x2) (1040 * d.y2)
  have e2 := qtP_rc (a.bx, a.by_) ((pp a d).x2, (pp a d).y2) a.l2 a.w (16 * d.x3) (16 * d.y3)
  simp only at e0 e1 e2
  rw [e0, e1, e2]
  simp only [qtP, pp, List.cons.injEq, and_true]
  refine ⟨?_, ?_, ?_⟩ <;> congr 1 <;> grind
theorem rq9 (p : Int × Int) : Go.Geo.exB 9 p = true ∧ Go.Geo.rqP 9 p = (-p.2, p.1) := by
  have e1 : Go.Geo.rx 9 p = 65 * (-p.2) := by unfold Go.Geo.rx; show p.1 * 0 - p.2 * 65 = _; omega
  have e2 : Go.Geo.ry 9 p = 65 * p.1 := by unfold Go.Geo.ry; show p.1 * 65 + p.2 * 0 = _; omega
  constructor
  · unfold Go.Geo.exB; rw [e1, e2]; simp
  · unfold Go.Geo.rqP; rw [e1, e2]; simp
def BdN (l : List (Int × Int)) : Prop := ∀ p ∈ l, (-439400000 ≤ p.1 ∧ p.1 ≤ 439400000) ∧ (-439400000 ≤ p.2 ∧ p.2 ≤ 439400000)
theorem c35 (l : List (Int × Int)) (hl : l.length ≤ 12) (hb : BdN l) (x y : Int) (hx : -439400000 ≤ x ∧ x ≤ 439400000) (hy : -439400000 ≤ y ∧ y ≤ 439400000) :
    pc E 35 [.vs (l.map c2), .agg [.int .i64 x, .int .i64 y]] = some (.tup [.vs ((l.map (qtP (x, y))).map c2), .bool true]) := by
  have s1 := c67 0 0 x y
  have w1 : IntKind.i64.wrap (0 - x) = -x := by rw [wrap_small (by omega) (by omega)]; omega
  have w2 : IntKind.i64.wrap (0 - y) = -y := by rw [wrap_small (by omega) (by omega)]; omega
  rw [w1, w2] at s1
  have t1 := G.c66 l (by omega) (-x) (-y)
  have e1 : l.map (G.trP (-x, -y)) = l.map fun p => (p.1 - x, p.2 - y) := List.map_congr_left fun p hp => by
    have := hb p hp
    have a1 : IntKind.i64.wrap (p.1 + -x) = p.1 - x := by rw [wrap_small (by omega) (by omega)]; omega
    have a2 : IntKind.i64.wrap (p.2 + -y) = p.2 - y := by rw [wrap_small (by omega) (by omega)]; omega
    unfold G.trP; simp only [w64]; rw [a1, a2]
  rw [e1] at t1
  have r1 := G.c65 (l.map fun p => (p.1 - x, p.2 - y)) (by rw [List.length_map]; omega) (fun p hp => by
    obtain ⟨q, hq, rfl⟩ := List.mem_map.1 hp
    have := hb q hq
    simp only; omega) 9
  have ha : (l.map fun p => (p.1 - x, p.2 - y)).all (Go.Geo.exB 9) = true := by rw [List.all_eq_true]; intro p _; exact (rq9 p).1
  rw [ha] at r1
  simp only [if_true] at r1
  have e2 : (l.map fun p => (p.1 - x, p.2 - y)).map (Go.Geo.rqP 9) = l.map fun p => (-(p.2 - y), p.1 - x) := by
    rw [List.map_map]; exact List.map_congr_left fun p _ => (rq9 _).2
  rw [e2] at r1
  have t2 := G.c66 (l.map fun p => (-(p.2 - y), p.1 - x)) (by rw [List.length_map]; omega) x y
  have e3 : (l.map fun p => (-(p.2 - y), p.1 - x)).map (G.trP (x, y)) = l.map (qtP (x, y)) := by
    rw [List.map_map]
    refine List.map_congr_left fun p hp => ?_
    have := hb p hp
    have a1 : IntKind.i64.wrap (-(p.2 - y) + x) = x - (p.2 - y) := by rw [wrap_small (by omega) (by omega)]; omega
    have a2 : IntKind.i64.wrap (p.1 - x + y) = y + (p.1 - x) := by rw [wrap_small (by omega) (by omega)]; omega
    simp only [Function.comp_apply, G.trP, w64, qtP]; rw [a1, a2]
  rw [e3] at t2
  have hc : (Go.Geo.c2 : Int × Int → List LV) = c2 := rfl
  rw [hc] at t1 r1 t2
  generalize (l.map fun p => (p.1 - x, p.2 - y)).map c2 = A at *
  generalize (l.map fun p => (-(p.2 - y), p.1 - x)).map c2 = B' at *
  rw [pc_eq]; simp +contextual -implicitDefEqProofs (maxSteps := 2000000) only [go_sem, ↓reduceIte, Nat.reduceAdd, Nat.reduceMul, Nat.reduceSub, Nat.reduceEqDiff, Nat.reduceLeDiff, Nat.reduceDiv, Nat.reduceMod, Nat.reduceBEq, Nat.reduceBNe, reduceCtorEq, Int.reduceLE, Int.reduceLT, Int.reduceToNat, Int.reduceNeg, Nat.reduceLT, Int.reduceEq, Int.reduceSub, Int.reduceAdd, Int.reduceMul, Nat.reducePow, Int.reduceBEq, Int.reduceBNe, Int.reduceMod, E_35, A35, s1, t1, r1, t2]
end Go.Proofs.Ytnecdcaaknhgpaa

namespace Go.Proofs.Ytnecdcaaknhgpaa
set_option maxRecDepth 100000
set_option maxHeartbeats 4000000
set_option linter.unusedSimpArgs false
set_option linter.unusedVariables false
open Go Go.Zv
theorem c34 : pc E 34 [] = some (.bool true) := by
  refine pc_of_run 600 ?_
  kernel_rfl
end Go.Proofs.Ytnecdcaaknhgpaa

namespace Go.Proofs.Ytnecdcaaknhgpaa
set_option maxRecDepth 100000
set_option maxHeartbeats 4000000
set_option linter.unusedSimpArgs false
set_option linter.unusedVariables false
open Go Go.Zv
open Go.Geo (rc RCok mayB locI valB areaW rc_val rc_loc rc_area rc_may mayB_iff qtP qtM qtP_mot qtP_rc Moved FC FC_moved)
theorem L3 (a : Arm) (d : Pts) (L0 L1 L2 : List (Int × Int)) (h : lrs a d = [L0, L1, L2]) : (lks a d).map lkv = [.vs (L0.map c2), .vs (L1.map c2), .vs (L2.map c2)] := by
  rw [lks_rc, h]; rfl
theorem law9 (a : Arm) (r0 r1 r2 : Int) (h0 : 0 ≤ r0 ∧ r0 ≤ 255) (h1 : 0 ≤ r1 ∧ r1 ≤ 255) (h2 : 0 ≤ r2 ∧ r2 ≤ 255) : pc E 9 [av a, .agg [.int .u8 r0, .int .u8 r1, .int .u8 r2]] = some (.bool true) := by
  have e0 := c34
  have e1 := c16 a
  cases hok : okB a with
  | false => rw [hok] at e1; rw [pc_eq]; simp +contextual -implicitDefEqProofs (maxSteps := 2000000) only [go_sem, ↓reduceIte, Nat.reduceAdd, Nat.reduceMul, Nat.reduceSub, Nat.reduceEqDiff, Nat.reduceLeDiff, Nat.reduceDiv, Nat.reduceMod, Nat.reduceBEq, Nat.reduceBNe, reduceCtorEq, Int.reduceLE, Int.reduceLT, Int.reduceToNat, Int.reduceNeg, Nat.reduceLT, Int.reduceEq, Int.reduceSub, Int.reduceAdd, Int.reduceMul, Nat.reducePow, Int.reduceBEq, Int.reduceBNe, Int.reduceMod, E_9, A9, e0, e1]
  | true =>
    rw [hok] at e1
    have OK : OKa a := by simpa [okB] using hok
    have j0 := OK.j0
    have e2 := c19 a OK r0 r1 r2 h0 h1 h2
    have lm := jt_lim OK r0 r1 r2
    have hq := lm.a0
    generalize jt a.lo0 a.hi0 r0 = q0 at *
    generalize jt a.lo1 a.hi1 r1 = q1 at *
    generalize jt a.lo2 a.hi2 r2 = q2 at *
    have w : IntKind.i64.wrap (q0 + 9) = q0 + 9 := wrap_small (by omega) (by omega)
    have e3 := c18 a q0 q1 q2
    have e4 := c18 a (q0 + 9) q1 q2
    cases hl1 : limB a q0 q1 q2 with
    | false => rw [hl1] at e3; rw [pc_eq]; simp +contextual -implicitDefEqProofs (maxSteps := 2000000) only [go_sem, ↓reduceIte, Nat.reduceAdd, Nat.reduceMul, Nat.reduceSub, Nat.reduceEqDiff, Nat.reduceLeDiff, Nat.reduceDiv, Nat.reduceMod, Nat.reduceBEq, Nat.reduceBNe, reduceCtorEq, Int.reduceLE, Int.reduceLT, Int.reduceToNat, Int.reduceNeg, Nat.reduceLT, Int.reduceEq, Int.reduceSub, Int.reduceAdd, Int.reduceMul, Nat.reducePow, Int.reduceBEq, Int.reduceBNe, Int.reduceMod, E_9, A9, e0, e1, e2, w, e3]
    | true =>
      rw [hl1] at e3
      cases hl2 : limB a (q0 + 9) q1 q2 with
      | false => rw [hl2] at e4; rw [pc_eq]; simp +contextual -implicitDefEqProofs (maxSteps := 2000000) only [go_sem, ↓reduceIte, Nat.reduceAdd, Nat.reduceMul, Nat.reduceSub, Nat.reduceEqDiff, Nat.reduceLeDiff, Nat.reduceDiv, Nat.reduceMod, Nat.reduceBEq, Nat.reduceBNe, reduceCtorEq, Int.reduceLE, Int.reduceLT, Int.reduceToNat, Int.reduceNeg, Nat.reduceLT, Int.reduceEq, Int.reduceSub, Int.reduceAdd, Int.reduceMul, Nat.reducePow, Int.reduceBEq, Int.reduceBNe, Int.reduceMod, E_9, A9, e0, e1, e2, w, e3, e4]
      | true =>
        rw [hl2] at e4
        have f1 := c20 a OK q0 q1 q2
        have f2 := c20 a OK (q0 + 9) q1 q2
        have R := r3 OK (ddV q0 q1 q2)
        have R' := r3 OK (ddV (q0 + 9) q1 q2)
        have hE := lrs9 a q0 q1 q2
        have bx := OK.bx
        have by_ := OK.by_
        have zl0 := OK.l0
        have zl1 := OK.l1
        have zl2 := OK.l2
        have zw := OK.w
        obtain ⟨L0, hL0⟩ : ∃ L, L = rc a.bx a.by_ a.l0 a.w (67600 * (dd q0 q1 q2).x1) (67600 * (dd q0 q1 q2).y1) := ⟨_, rfl⟩
        obtain ⟨L1, hL1⟩ : ∃ L, L = rc (pp a (dd q0 q1 q2)).x1 (pp a (dd q0 q1 q2)).y1 a.l1 a.w (1040 * (dd q0 q1 q2).x2) (1040 * (dd q0 q1 q2).y2) := ⟨_, rfl⟩
        obtain ⟨L2, hL2⟩ : ∃ L, L = rc (pp a (dd q0 q1 q2)).x2 (pp a (dd q0 q1 q2)).y2 a.l2 a.w (16 * (dd q0 q1 q2).x3) (16 * (dd q0 q1 q2).y3) := ⟨_, rfl⟩
        have hl : lrs a (dd q0 q1 q2) = [L0, L1, L2] := by rw [hL0, hL1, hL2]; rfl
        have hm : lrs a (dd (q0 + 9) q1 q2) = [L0.map (qtP (a.bx, a.by_)), L1.map (qtP (a.bx, a.by_)), L2.map (qtP (a.bx, a.by_))] := by rw [hE, hl]; rfl
        have hm' : lrs a (dd (q0 + 9) q1 q2) = [rc a.bx a.by_ a.l0 a.w (67600 * (dd (q0 + 9) q1 q2).x1) (67600 * (dd (q0 + 9) q1 q2).y1), rc (pp a (dd (q0 + 9) q1 q2)).x1 (pp a (dd (q0 + 9) q1 q2)).y1 a.l1 a.w (1040 * (dd (q0 + 9) q1 q2).x2) (1040 * (dd (q0 + 9) q1 q2).y2), rc (pp a (dd (q0 + 9) q1 q2)).x2 (pp a (dd (q0 + 9) q1 q2)).y2 a.l2 a.w (16 * (dd (q0 + 9) q1 q2).x3) (16 * (dd (q0 + 9) q1 q2).y3)] := rfl
        rw [hm] at hm'
        simp only [List.cons.injEq, and_true] at hm'
        obtain ⟨m0, m1, m2⟩ := hm'
        rw [L3 a _ _ _ _ hl] at f1
        rw [L3 a _ _ _ _ hm] at f2
        have v0 : valB (L0.map (qtP (a.bx, a.by_))) = true := by rw [m0]; exact rc_val R'.r0
        have v1 : valB (L1.map (qtP (a.bx, a.by_))) = true := by rw [m1]; exact rc_val R'.r1
        have v2 : valB (L2.map (qtP (a.bx, a.by_))) = true := by rw [m2]; exact rc_val R'.r2
        have b0 : L0.all mayB = true := by rw [hL0]; exact rc_may R.r0
        have b1 : L1.all mayB = true := by rw [hL1]; exact rc_may R.r1
        have b2 : L2.all mayB = true := by rw [hL2]; exact rc_may R.r2
        have n0 : L0.length = 4 := by rw [hL0]; rfl
        have n1 : L1.length = 4 := by rw [hL1]; rfl
        have n2 : L2.length = 4 := by rw [hL2]; rfl
        clear hL0 hL1 hL2 m0 m1 m2 hl hm hE R R'
        have M : ∀ L : List (Int × Int), L.all mayB = true → valB (L.map (qtP (a.bx, a.by_))) = true → Moved (qtM (a.bx, a.by_)) (qtP (a.bx, a.by_)) L := fun L h1 h2 => ⟨h1, (Go.Geo.val_iff.1 h2).may, fun p _ => qtP_mot _ p⟩
        have M0 := M L0 b0 v0
        have M1 := M L1 b1 v1
        have M2 := M L2 b2 v2
        have hb : ∀ L : List (Int × Int), L.all mayB = true → BdN L := fun L h p hp => mayB_iff.1 (List.all_eq_true.1 h p hp)
        have g0 := c35 L0 (by omega) (hb L0 b0) a.bx a.by_ (by omega) (by omega)
        have g1 := c35 L1 (by omega) (hb L1 b1) a.bx a.by_ (by omega) (by omega)
        have g2 := c35 L2 (by omega) (hb L2 b2) a.bx a.by_ (by omega) (by omega)
        have p1 := G.c37 L0 L1 (by omega) (by omega)
        have p2 := G.c37 L0 L2 (by omega) (by omega)
        have p3 := G.c37 L1 L2 (by omega) (by omega)
        have s1 := G.c37 (L0.map (qtP (a.bx, a.by_))) (L1.map (qtP (a.bx, a.by_))) (by rw [List.length_map]; omega) (by rw [List.length_map]; omega)
        have s2 := G.c37 (L0.map (qtP (a.bx, a.by_))) (L2.map (qtP (a.bx, a.by_))) (by rw [List.length_map]; omega) (by rw [List.length_map]; omega)
        have s3 := G.c37 (L1.map (qtP (a.bx, a.by_))) (L2.map (qtP (a.bx, a.by_))) (by rw [List.length_map]; omega) (by rw [List.length_map]; omega)
        rw [FC_moved M0 M1 (by omega) (by omega)] at s1
        rw [FC_moved M0 M2 (by omega) (by omega)] at s2
        rw [FC_moved M1 M2 (by omega) (by omega)] at s3
        have u0 := G.c31 (L0.map (qtP (a.bx, a.by_))) (by rw [List.length_map]; omega)
        have u1 := G.c31 (L1.map (qtP (a.bx, a.by_))) (by rw [List.length_map]; omega)
        have u2 := G.c31 (L2.map (qtP (a.bx, a.by_))) (by rw [List.length_map]; omega)
        rw [v0] at u0; rw [v1] at u1; rw [v2] at u2
        have k0 := G.c36 (L0.map (qtP (a.bx, a.by_))) (L0.map (qtP (a.bx, a.by_))) (by rw [List.length_map]; omega)
        have k1 := G.c36 (L1.map (qtP (a.bx, a.by_))) (L1.map (qtP (a.bx, a.by_))) (by rw [List.length_map]; omega)
        have k2 := G.c36 (L2.map (qtP (a.bx, a.by_))) (L2.map (qtP (a.bx, a.by_))) (by rw [List.length_map]; omega)
        rw [decide_eq_true rfl] at k0 k1 k2
        have hc : (Go.Geo.c2 : Int × Int → List LV) = c2 := rfl
        rw [hc] at p1 p2 p3 s1 s2 s3 u0 u1 u2 k0 k1 k2
        generalize (FC L0 L1).isSome = z1 at *
        generalize (FC L0 L2).isSome = z2 at *
        generalize (FC L1 L2).isSome = z3 at *
        generalize (L0.map (qtP (a.bx, a.by_))).map c2 = Y0 at *
        generalize (L1.map (qtP (a.bx, a.by_))).map c2 = Y1 at *
        generalize (L2.map (qtP (a.bx, a.by_))).map c2 = Y2 at *
        generalize L0.map c2 = X0 at *
        generalize L1.map c2 = X1 at *
        generalize L2.map c2 = X2 at *
        rw [pc_eq]; simp +contextual -implicitDefEqProofs (maxSteps := 2000000) only [go_sem, ↓reduceIte, Nat.reduceAdd, Nat.reduceMul, Nat.reduceSub, Nat.reduceEqDiff, Nat.reduceLeDiff, Nat.reduceDiv, Nat.reduceMod, Nat.reduceBEq, Nat.reduceBNe, reduceCtorEq, Int.reduceLE, Int.reduceLT, Int.reduceToNat, Int.reduceNeg, Nat.reduceLT, Int.reduceEq, Int.reduceSub, Int.reduceAdd, Int.reduceMul, Nat.reducePow, Int.reduceBEq, Int.reduceBNe, Int.reduceMod, E_9, A9, A9_L1_eq, A9_L1b, A9_L0_eq, A9_L0b, e0, e1, e2, w, e3, e4, f1, f2, g0, g1, g2, p1, p2, p3, s1, s2, s3, u0, u1, u2, k0, k1, k2, bne_self_eq_false, beq_self_eq_true]
end Go.Proofs.Ytnecdcaaknhgpaa
