/- Part of the proof: what functions of the program compute, over the evaluation that the engine's texts tie to the machine. -/
import Derived.Test.YtojjdhdflhcdkaaGN
namespace Go.Proofs.Ytojjdhdflhcdkaa
set_option maxRecDepth 100000
set_option maxHeartbeats 4000000
set_option linter.unusedSimpArgs false
set_option linter.unusedVariables false
open Go Go.Zv
theorem within_swap (ax ay bx by_ px py : Int) : withinB bx by_ ax ay px py = withinB ax ay bx by_ px py := by
  rw [Bool.eq_iff_iff, withinB_iff, withinB_iff, mul_nn, mul_nn, mul_nn, mul_nn]; omega
theorem B8.s1 {ax ay bx by_ cx cy dx dy : Int} (h : B8 ax ay bx by_ cx cy dx dy) : B8 bx by_ ax ay cx cy dx dy := ⟨h.b0, h.b1, h.a0, h.a1, h.c0, h.c1, h.d0, h.d1⟩
theorem B8.s2 {ax ay bx by_ cx cy dx dy : Int} (h : B8 ax ay bx by_ cx cy dx dy) : B8 cx cy dx dy ax ay bx by_ := ⟨h.c0, h.c1, h.d0, h.d1, h.a0, h.a1, h.b0, h.b1⟩
theorem cut_s1 {ax ay bx by_ cx cy dx dy : Int} (h : B8 ax ay bx by_ cx cy dx dy) : cutB bx by_ ax ay cx cy dx dy = cutB ax ay bx by_ cx cy dx dy := by
  rw [Bool.eq_iff_iff, cutB_iff h, cutB_iff h.s1, within_swap ax ay bx by_ cx cy, within_swap ax ay bx by_ dx dy, cr_swap ax ay bx by_ cx cy, cr_swap ax ay bx by_ dx dy, Int.neg_mul_neg, Int.mul_comm (cr cx cy dx dy bx by_)]
  simp only [Int.neg_eq_zero]
  constructor
  · rintro (h | h | h | h)
    · exact .inl h
    · exact .inr (.inl h)
    · exact .inr (.inr (.inr h))
    · exact .inr (.inr (.inl h))
  · rintro (h | h | h | h)
    · exact .inl h
    · exact .inr (.inl h)
    · exact .inr (.inr (.inr h))
    · exact .inr (.inr (.inl h))
theorem cut_s2 {ax ay bx by_ cx cy dx dy : Int} (h : B8 ax ay bx by_ cx cy dx dy) : cutB cx cy dx dy ax ay bx by_ = cutB ax ay bx by_ cx cy dx dy := by
  rw [Bool.eq_iff_iff, cutB_iff h, cutB_iff h.s2]
  constructor
  · rintro (h | h | h)
    · exact .inl ⟨h.2, h.1⟩
    · exact .inr (.inr h)
    · exact .inr (.inl h)
  · rintro (h | h | h)
    · exact .inl ⟨h.2, h.1⟩
    · exact .inr (.inr h)
    · exact .inr (.inl h)
theorem cut_s3 {ax ay bx by_ cx cy dx dy : Int} (h : B8 ax ay bx by_ cx cy dx dy) : cutB ax ay bx by_ dx dy cx cy = cutB ax ay bx by_ cx cy dx dy := by
  rw [← cut_s2 h.s2.s1.s2, cut_s1 h.s2, cut_s2 h]
theorem within_end (ax ay bx by_ : Int) : withinB ax ay bx by_ ax ay = true := by rw [withinB_iff]; simp
theorem cr_a (ax ay bx by_ : Int) : cr ax ay bx by_ ax ay = 0 := by unfold cr; grind
theorem cut_end {ax ay bx by_ dx dy : Int} (h : B8 ax ay bx by_ ax ay dx dy) : cutB ax ay bx by_ ax ay dx dy = true := by
  rw [cutB_iff h]; exact .inr (.inl (.inl ⟨cr_a .., within_end ..⟩))
theorem conv {W S a b M : Int} (h1 : 0 ≤ S) (h2 : 0 ≤ W - S) (ha : a ≤ M) (hb : b ≤ M) : W * a + S * (b - a) ≤ W * M := by
  have e : W * M - (W * a + S * (b - a)) = (W - S) * (M - a) + S * (M - b) := by grind
  have := Int.mul_nonneg h2 (show 0 ≤ M - a by omega)
  have := Int.mul_nonneg h1 (show 0 ≤ M - b by omega)
  omega
theorem conv' {W S a b M : Int} (h1 : 0 ≤ S) (h2 : 0 ≤ W - S) (ha : M ≤ a) (hb : M ≤ b) : W * M ≤ W * a + S * (b - a) := by
  have e : (W * a + S * (b - a)) - W * M = (W - S) * (a - M) + S * (b - M) := by grind
  have := Int.mul_nonneg h2 (show 0 ≤ a - M by omega)
  have := Int.mul_nonneg h1 (show 0 ≤ b - M by omega)
  omega
theorem lap1 {W S T a b c d : Int} (hW : 0 < W) (s1 : 0 ≤ S) (s2 : 0 ≤ W - S) (t1 : 0 ≤ T) (t2 : 0 ≤ W - T) (he : W * a + S * (b - a) = W * c + T * (d - c)) : mnI a b ≤ mxI c d := by
  refine Classical.byContradiction fun h => ?_
  have h1 := conv' (M := mnI a b) (a := a) (b := b) s1 s2 (by unfold mnI; split <;> omega) (by unfold mnI; split <;> omega)
  have h2 := conv (M := mxI c d) (a := c) (b := d) t1 t2 (by unfold mxI; split <;> omega) (by unfold mxI; split <;> omega)
  have h3 := Int.mul_pos hW (show 0 < mnI a b - mxI c d by omega)
  rw [Int.mul_sub] at h3
  omega
theorem lap2 {W S T a b c d : Int} (hW : W ≠ 0) (hS : 0 ≤ S * (W - S)) (hT : 0 ≤ T * (W - T)) (he : W * a + S * (b - a) = W * c + T * (d - c)) : mnI a b ≤ mxI c d ∧ mnI c d ≤ mxI a b := by
  rw [mul_nn] at hS hT
  rcases Int.lt_or_lt_of_ne hW with h | h
  · have he' : (-W) * a + (-S) * (b - a) = (-W) * c + (-T) * (d - c) := by grind
    exact ⟨lap1 (by omega) (by omega) (by omega) (by omega) (by omega) he', lap1 (by omega) (by omega) (by omega) (by omega) (by omega) he'.symm⟩
  · exact ⟨lap1 (by omega) (by omega) (by omega) (by omega) (by omega) he, lap1 (by omega) (by omega) (by omega) (by omega) (by omega) he.symm⟩
theorem lap_pt {a b c d p : Int} (h1 : 0 ≤ (p - a) * (b - p)) (h2 : 0 ≤ (p - c) * (d - p)) : mnI a b ≤ mxI c d ∧ mnI c d ≤ mxI a b := by
  rw [← bt] at h1 h2; omega
theorem cut_lap {ax ay bx by_ cx cy dx dy : Int} (h : B8 ax ay bx by_ cx cy dx dy) (hc : cutB ax ay bx by_ cx cy dx dy = true) :
    (mnI ax bx ≤ mxI cx dx ∧ mnI cx dx ≤ mxI ax bx) ∧ (mnI ay by_ ≤ mxI cy dy ∧ mnI cy dy ≤ mxI ay by_) := by
  have z : ∀ x y : Int, 0 ≤ (x - x) * (y - x) ∧ 0 ≤ (y - x) * (y - y) := fun x y => by simp
  by_cases hW : wW ax ay bx by_ cx cy dx dy = 0
  · rw [cut_par h hW] at hc
    simp only [Bool.or_eq_true, onB, Bool.and_eq_true, withinB_iff] at hc
    rcases hc with ⟨⟨h1, h2⟩, _⟩ | ⟨⟨h1, h2⟩, _⟩ | ⟨⟨h1, h2⟩, _⟩ | ⟨⟨h1, h2⟩, _⟩
    · exact ⟨lap_pt h1 (z _ _).1, lap_pt h2 (z _ _).1⟩
    · exact ⟨lap_pt h1 (z _ _).2, lap_pt h2 (z _ _).2⟩
    · exact ⟨lap_pt (z _ _).1 h1, lap_pt (z _ _).1 h2⟩
    · exact ⟨lap_pt (z _ _).2 h1, lap_pt (z _ _).2 h2⟩
  · rw [cut_cross h hW, shared_iff hW] at hc
    exact ⟨lap2 hW hc.1 hc.2 (by unfold wW sS tT; grind), lap2 hW hc.1 hc.2 (by unfold wW sS tT; grind)⟩
theorem gap0 {ax ay bx by_ cx cy dx dy : Int} (h : B8 ax ay bx by_ cx cy dx dy) (hc : cutB ax ay bx by_ cx cy dx dy = true) : gapI [(ax, ay), (bx, by_)] [(cx, cy), (dx, dy)] = 0 := by
  obtain ⟨⟨h1, h2⟩, h3, h4⟩ := cut_lap h hc
  obtain ⟨⟨a1, a2⟩, ⟨a3, a4⟩, ⟨b1, b2⟩, ⟨b3, b4⟩, ⟨c1, c2⟩, ⟨c3, c4⟩, ⟨d1, d2⟩, ⟨d3, d4⟩⟩ := h
  have mnb : ∀ {a b L U : Int}, L ≤ a → a ≤ U → L ≤ b → b ≤ U → L ≤ mnI a b ∧ mnI a b ≤ U := by intros; unfold mnI; split <;> omega
  have mxb : ∀ {a b L U : Int}, L ≤ a → a ≤ U → L ≤ b → b ≤ U → L ≤ mxI a b ∧ mxI a b ≤ U := by intros; unfold mxI; split <;> omega
  have m0 : ∀ {x : Int}, x ≤ 0 → mxI 0 x = 0 := by intros; unfold mxI; split <;> omega
  have e1 := mnb a1 a2 b1 b2
  have e2 := mxb a1 a2 b1 b2
  have e3 := mnb c1 c2 d1 d2
  have e4 := mxb c1 c2 d1 d2
  have f1 := mnb a3 a4 b3 b4
  have f2 := mxb a3 a4 b3 b4
  have f3 := mnb c3 c4 d3 d4
  have f4 := mxb c3 c4 d3 d4
  unfold gapI bbL bbH w64
  simp only [List.foldl_cons, List.foldl_nil, minP, maxP, mn_self, mx_self, reduceCtorEq, or_self, if_false]
  rw [wrap_small (by omega) (by omega), wrap_small (by omega) (by omega), wrap_small (by omega) (by omega), wrap_small (by omega) (by omega)]
  rw [m0 (by omega), m0 (by omega), m0 (by omega), m0 (by omega)]
theorem w_x {ax ay bx by_ px py : Int} (hc : cr ax ay bx by_ px py = 0) (hn : bx - ax ≠ 0) (h : 0 ≤ (px - ax) * (bx - px)) : withinB ax ay bx by_ px py = true := by
  rw [withinB_iff]
  refine ⟨h, nn_of_mul (sq_pos hn) ?_⟩
  have e : (bx - ax) * (py - ay) = (by_ - ay) * (px - ax) := by unfold cr at hc; omega
  have : (bx - ax) * (bx - ax) * ((py - ay) * (by_ - py)) = ((by_ - ay) * (by_ - ay)) * ((px - ax) * (bx - px)) := by
    have : (bx - ax) * (bx - ax) * ((py - ay) * (by_ - py)) = ((bx - ax) * (py - ay)) * ((bx - ax) * (by_ - ay) - (bx - ax) * (py - ay)) := by grind
    rw [this, e]; grind
  rw [this]; exact Int.mul_nonneg (sq_nn _) h
theorem w_y {ax ay bx by_ px py : Int} (hc : cr ax ay bx by_ px py = 0) (hn : by_ - ay ≠ 0) (h : 0 ≤ (py - ay) * (by_ - py)) : withinB ax ay bx by_ px py = true := by
  have := w_x (ax := ay) (ay := ax) (bx := by_) (by_ := bx) (px := py) (py := px) (by unfold cr at *; omega) hn h
  rw [withinB_iff] at *; exact ⟨this.2, this.1⟩
theorem line1 {a b c d r : Int} (h1 : 0 ≤ (r - a) * (b - r)) (h2 : 0 ≤ (r - c) * (d - r)) : (0 ≤ (c - a) * (b - c) ∨ 0 ≤ (d - a) * (b - d)) ∨ (0 ≤ (a - c) * (d - a) ∨ 0 ≤ (b - c) * (d - b)) := by
  simp only [mul_nn] at *; omega
theorem common {ax ay bx by_ cx cy dx dy rx ry : Int} (h : B8 ax ay bx by_ cx cy dx dy) (u1 : withinB ax ay bx by_ rx ry = true) (u2 : cr ax ay bx by_ rx ry = 0) (v1 : withinB cx cy dx dy rx ry = true) (v2 : cr cx cy dx dy rx ry = 0) :
    cutB ax ay bx by_ cx cy dx dy = true := by
  by_cases hW : wW ax ay bx by_ cx cy dx dy = 0
  · have same : ∀ {px py qx qy : Int}, qx - px = 0 → qy - py = 0 → withinB px py qx qy rx ry = true → px = rx ∧ py = ry ∧ qx = rx ∧ qy = ry := fun e1 e2 hw => by
      rw [withinB_iff, mul_nn, mul_nn] at hw; omega
    rw [cutB_iff h]
    by_cases hab : bx - ax = 0 ∧ by_ - ay = 0
    · obtain ⟨rfl, rfl, rfl, rfl⟩ := same hab.1 hab.2 u1
      exact .inr (.inr (.inl ⟨v2, v1⟩))
    by_cases hcd : dx - cx = 0 ∧ dy - cy = 0
    · obtain ⟨rfl, rfl, rfl, rfl⟩ := same hcd.1 hcd.2 v1
      exact .inr (.inl (.inl ⟨u2, u1⟩))
    have par : (bx - ax) * (dy - cy) = (by_ - ay) * (dx - cx) := by unfold wW at hW; omega
    rw [withinB_iff] at u1 v1
    have k1 : cr ax ay bx by_ cx cy = 0 ∧ cr ax ay bx by_ dx dy = 0 ∧ cr cx cy dx dy ax ay = 0 ∧ cr cx cy dx dy bx by_ = 0 := by
      have p : ∀ {U V u v x y : Int}, (U ≠ 0 ∨ V ≠ 0) → U * v = V * u → U * y - V * x = 0 → u * y - v * x = 0 := fun {U V u v x y} hn e1 e2 => by
        have g1 : U * (u * y - v * x) = u * (U * y - V * x) + x * (V * u - U * v) := by grind
        have g2 : V * (u * y - v * x) = v * (U * y - V * x) + y * (V * u - U * v) := by grind
        rw [e2, e1] at g1 g2
        simp only [Int.sub_self, Int.mul_zero, Int.add_zero] at g1 g2
        rcases hn with hn | hn
        · exact (Int.mul_eq_zero.1 g1).resolve_left hn
        · exact (Int.mul_eq_zero.1 g2).resolve_left hn
      have n1 : bx - ax ≠ 0 ∨ by_ - ay ≠ 0 := by omega
      have n2 : dx - cx ≠ 0 ∨ dy - cy ≠ 0 := by omega
      unfold cr at u2 v2
      have q1 := p n1 par u2
      have q2 := p n2 (u := bx - ax) (v := by_ - ay) (by grind) v2
      have r1 : (bx - ax) * (cy - ay) - (by_ - ay) * (cx - ax) = 0 := by grind
      have r3 : (dx - cx) * (ay - cy) - (dy - cy) * (ax - cx) = 0 := by grind
      unfold cr
      refine ⟨r1, ?_, r3, ?_⟩ <;> grind
    obtain ⟨k1, k2, k3, k4⟩ := k1
    by_cases hx : bx - ax = 0
    · have hy : by_ - ay ≠ 0 := by omega
      have hy2 : dy - cy ≠ 0 := fun e => by
        rw [e, Int.mul_zero] at par
        have := (Int.mul_eq_zero.1 par.symm).resolve_left hy
        omega
      rcases line1 u1.2 v1.2 with (l | l) | (l | l)
      · exact .inr (.inl (.inl ⟨k1, w_y k1 hy l⟩))
      · exact .inr (.inl (.inr ⟨k2, w_y k2 hy l⟩))
      · exact .inr (.inr (.inl ⟨k3, w_y k3 hy2 l⟩))
      · exact .inr (.inr (.inr ⟨k4, w_y k4 hy2 l⟩))
    · have hx2 : dx - cx ≠ 0 := fun e => by
        rw [e, Int.mul_zero] at par
        have := (Int.mul_eq_zero.1 par).resolve_left hx
        omega
      rcases line1 u1.1 v1.1 with (l | l) | (l | l)
      · exact .inr (.inl (.inl ⟨k1, w_x k1 hx l⟩))
      · exact .inr (.inl (.inr ⟨k2, w_x k2 hx l⟩))
      · exact .inr (.inr (.inl ⟨k3, w_x k3 hx2 l⟩))
      · exact .inr (.inr (.inr ⟨k4, w_x k4 hx2 l⟩))
  · rw [cut_cross h hW, shared_iff hW]
    have e1 : wW ax ay bx by_ rx ry (rx + (dx - cx)) (ry + (dy - cy)) = wW ax ay bx by_ cx cy dx dy := by unfold wW; grind
    have e2 : sS ax ay bx by_ rx ry (rx + (dx - cx)) (ry + (dy - cy)) = sS ax ay bx by_ cx cy dx dy := by unfold cr at v2; unfold sS; grind
    have e3 : tT ax ay bx by_ rx ry (rx + (dx - cx)) (ry + (dy - cy)) = 0 := by unfold cr at u2; unfold tT; grind
    have f1 : wW cx cy dx dy rx ry (rx + (bx - ax)) (ry + (by_ - ay)) = - wW ax ay bx by_ cx cy dx dy := by unfold wW; grind
    have f2 : sS cx cy dx dy rx ry (rx + (bx - ax)) (ry + (by_ - ay)) = - tT ax ay bx by_ cx cy dx dy := by unfold cr at u2; unfold sS tT; grind
    have f3 : tT cx cy dx dy rx ry (rx + (bx - ax)) (ry + (by_ - ay)) = 0 := by unfold cr at v2; unfold tT; grind
    have g1 := (within_A e3 (by rw [e1]; exact hW)).1 u1
    have g2 := (within_A f3 (by rw [f1]; omega)).1 v1
    rw [e1, e2] at g1
    rw [f1, f2] at g2
    refine ⟨g1, ?_⟩
    have : -tT ax ay bx by_ cx cy dx dy * (-wW ax ay bx by_ cx cy dx dy - -tT ax ay bx by_ cx cy dx dy) = tT ax ay bx by_ cx cy dx dy * (wW ax ay bx by_ cx cy dx dy - tT ax ay bx by_ cx cy dx dy) := by grind
    omega
end Go.Proofs.Ytojjdhdflhcdkaa
