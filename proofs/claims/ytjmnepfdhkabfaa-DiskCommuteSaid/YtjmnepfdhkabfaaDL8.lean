/- Part of the proof: what functions of the program compute, over the evaluation that the engine's texts tie to the machine. -/
import Derived.Test.YtjmnepfdhkabfaaDM2
namespace Go.Proofs.Ytjmnepfdhkabfaa
set_option maxRecDepth 100000
set_option maxHeartbeats 4000000
set_option linter.unusedSimpArgs false
set_option linter.unusedVariables false
open Go Go.Zv
theorem law8 (n : Nat) (hn : n ≤ 255) (l : List Act) (hl : l.length ≤ 1000000000) (ha : ∀ a ∈ l, OKa a) (x : Act) (hx : OKa x) (y : Act) (hy : OKa y) :
    pc E 8 [.int .u8 n, .vs (l.map a5), av x, av y] = some (.bool true) := by
  have h1 := c16 l (by omega)
  have h2 : pc E 16 [.vs [[.int .u8 x.k, .int .i64 x.at_, .int .u8 x.n, .int .u8 x.torn, bv x.data], [.int .u8 y.k, .int .i64 y.at_, .int .u8 y.n, .int .u8 y.torn, bv y.data]]] = some (.bool (gr [x, y])) := c16 [x, y] (by simp)
  have h3 := c28 n hn l hl ha
  have hd := ok_free (ok_made n l ha)
  generalize made n l = d at *
  obtain ⟨s, df, t, dw⟩ := d
  simp only at hd
  have hxl := hx.len
  have hyl := hy.len
  obtain ⟨xk, xi, xn, xt, xd⟩ := x
  obtain ⟨yk, yi, yn, yt, yd⟩ := y
  simp only at *
  cases g1 : gr l with
  | true => rw [g1] at h1; rw [pc_eq]; simp +contextual -implicitDefEqProofs (maxSteps := 2000000) only [go_sem, ↓reduceIte, Nat.reduceAdd, Nat.reduceMul, Nat.reduceSub, Nat.reduceEqDiff, Nat.reduceLeDiff, Nat.reduceDiv, Nat.reduceMod, Nat.reduceBEq, Nat.reduceBNe, reduceCtorEq, Int.reduceLE, Int.reduceLT, Int.reduceToNat, Int.reduceNeg, Nat.reduceLT, Int.reduceEq, Int.reduceSub, Int.reduceAdd, Int.reduceMul, Nat.reducePow, Int.reduceBEq, Int.reduceBNe, Int.reduceMod, E_8, A8, c15, h1]
  | false =>
    rw [g1] at h1
    cases g2 : gr [⟨xk, xi, xn, xt, xd⟩, ⟨yk, yi, yn, yt, yd⟩] with
    | true => rw [g2] at h2; rw [pc_eq]; simp +contextual -implicitDefEqProofs (maxSteps := 2000000) only [go_sem, ↓reduceIte, Nat.reduceAdd, Nat.reduceMul, Nat.reduceSub, Nat.reduceEqDiff, Nat.reduceLeDiff, Nat.reduceDiv, Nat.reduceMod, Nat.reduceBEq, Nat.reduceBNe, reduceCtorEq, Int.reduceLE, Int.reduceLT, Int.reduceToNat, Int.reduceNeg, Nat.reduceLT, Int.reduceEq, Int.reduceSub, Int.reduceAdd, Int.reduceMul, Nat.reducePow, Int.reduceBEq, Int.reduceBNe, Int.reduceMod, E_8, A8, c15, h1, h2]
    | false =>
      rw [g2] at h2
      have w1 := c29 _ hd xi xd hxl
      have w2 := c29 _ hd yi yd hyl
      have o1 := ok_wr hd xi xd
      have o2 := ok_wr hd yi yd
      have sl : s.length ≤ 1000000000 := by have := hd.len2; simp only at this; omega
      have s0 := c19 _ ⟨s, -1, t, false⟩ (show (Dsk.mk s (-1) t false).sec.length ≤ 1000000000 from sl)
      rw [sameB_self] at s0
      rcases wr_free s t xi xd with ⟨k1, e1⟩ | ⟨k1, e1⟩ <;> rcases wr_free s t yi yd with ⟨k2, e2⟩ | ⟨k2, e2⟩ <;> rw [e1] at w1 o1 <;> rw [e2] at w2 o2 <;> simp only at w1 w2 o1 o2
      · rw [pc_eq]; simp +contextual -implicitDefEqProofs (maxSteps := 2000000) only [go_sem, ↓reduceIte, Nat.reduceAdd, Nat.reduceMul, Nat.reduceSub, Nat.reduceEqDiff, Nat.reduceLeDiff, Nat.reduceDiv, Nat.reduceMod, Nat.reduceBEq, Nat.reduceBNe, reduceCtorEq, Int.reduceLE, Int.reduceLT, Int.reduceToNat, Int.reduceNeg, Nat.reduceLT, Int.reduceEq, Int.reduceSub, Int.reduceAdd, Int.reduceMul, Nat.reducePow, Int.reduceBEq, Int.reduceBNe, Int.reduceMod, E_8, A8, c15, h1, h2, h3, w1, w2, s0]
      · rw [pc_eq]; simp +contextual -implicitDefEqProofs (maxSteps := 2000000) only [go_sem, ↓reduceIte, Nat.reduceAdd, Nat.reduceMul, Nat.reduceSub, Nat.reduceEqDiff, Nat.reduceLeDiff, Nat.reduceDiv, Nat.reduceMod, Nat.reduceBEq, Nat.reduceBNe, reduceCtorEq, Int.reduceLE, Int.reduceLT, Int.reduceToNat, Int.reduceNeg, Nat.reduceLT, Int.reduceEq, Int.reduceSub, Int.reduceAdd, Int.reduceMul, Nat.reducePow, Int.reduceBEq, Int.reduceBNe, Int.reduceMod, E_8, A8, c15, h1, h2, h3, w1, w2, s0]
      · rw [pc_eq]; simp +contextual -implicitDefEqProofs (maxSteps := 2000000) only [go_sem, ↓reduceIte, Nat.reduceAdd, Nat.reduceMul, Nat.reduceSub, Nat.reduceEqDiff, Nat.reduceLeDiff, Nat.reduceDiv, Nat.reduceMod, Nat.reduceBEq, Nat.reduceBNe, reduceCtorEq, Int.reduceLE, Int.reduceLT, Int.reduceToNat, Int.reduceNeg, Nat.reduceLT, Int.reduceEq, Int.reduceSub, Int.reduceAdd, Int.reduceMul, Nat.reducePow, Int.reduceBEq, Int.reduceBNe, Int.reduceMod, E_8, A8, c15, h1, h2, h3, w1, w2, s0]
      · have w3 := c29 _ o1 yi yd hyl
        have w4 := c29 _ o2 xi xd hxl
        have w5 := c29 _ o1 xi xd hxl
        have q3 : okw (wrg s xi.toNat xd) yi yd := by unfold okw; rw [wrg_len]; exact k2
        have q4 : okw (wrg s yi.toNat yd) xi xd := by unfold okw; rw [wrg_len]; exact k1
        have q5 : okw (wrg s xi.toNat xd) xi xd := by unfold okw; rw [wrg_len]; exact k1
        have e3 := ((wr_free (wrg s xi.toNat xd) t yi yd).resolve_left fun h => h.1 q3).2
        have e4 := ((wr_free (wrg s yi.toNat yd) t xi xd).resolve_left fun h => h.1 q4).2
        have e5 := ((wr_free (wrg s xi.toNat xd) t xi xd).resolve_left fun h => h.1 q5).2
        rw [e3] at w3; rw [e4] at w4; rw [e5] at w5
        rw [wrg_same _ _ _ _ (by obtain ⟨a1, a2, _⟩ := k1; omega) (Nat.le_refl _)] at w5
        have s1 := c19 ⟨wrg s xi.toNat xd, -1, t, false⟩ ⟨wrg s xi.toNat xd, -1, t, false⟩ (by simp only [wrg_len]; exact sl)
        rw [sameB_self] at s1
        by_cases hi : xi = yi
        · subst hi
          by_cases hlen : (yd.length : Int) < xd.length
          · rw [pc_eq]; simp +contextual -implicitDefEqProofs (maxSteps := 2000000) only [go_sem, ↓reduceIte, Nat.reduceAdd, Nat.reduceMul, Nat.reduceSub, Nat.reduceEqDiff, Nat.reduceLeDiff, Nat.reduceDiv, Nat.reduceMod, Nat.reduceBEq, Nat.reduceBNe, reduceCtorEq, Int.reduceLE, Int.reduceLT, Int.reduceToNat, Int.reduceNeg, Nat.reduceLT, Int.reduceEq, Int.reduceSub, Int.reduceAdd, Int.reduceMul, Nat.reducePow, Int.reduceBEq, Int.reduceBNe, Int.reduceMod, E_8, A8, c15, h1, h2, h3, w1, w2, w3, w4, w5, s1, bne_self_eq_false, List.length_map, hlen]
          · rw [wrg_same _ _ _ _ (by obtain ⟨a1, a2, _⟩ := k1; omega) (by omega)] at w3
            have s2 := c19 ⟨wrg s xi.toNat yd, -1, t, false⟩ ⟨wrg s xi.toNat yd, -1, t, false⟩ (by simp only [wrg_len]; exact sl)
            rw [sameB_self] at s2
            rw [pc_eq]; simp +contextual -implicitDefEqProofs (maxSteps := 2000000) only [go_sem, ↓reduceIte, Nat.reduceAdd, Nat.reduceMul, Nat.reduceSub, Nat.reduceEqDiff, Nat.reduceLeDiff, Nat.reduceDiv, Nat.reduceMod, Nat.reduceBEq, Nat.reduceBNe, reduceCtorEq, Int.reduceLE, Int.reduceLT, Int.reduceToNat, Int.reduceNeg, Nat.reduceLT, Int.reduceEq, Int.reduceSub, Int.reduceAdd, Int.reduceMul, Nat.reducePow, Int.reduceBEq, Int.reduceBNe, Int.reduceMod, E_8, A8, c15, h1, h2, h3, w1, w2, w3, w4, w5, s1, s2, bne_self_eq_false, List.length_map, hlen]
        · have hne : (xi != yi) = true := by simp [hi]
          rw [wrg_comm _ _ _ _ _ (by obtain ⟨a1, a2, _⟩ := k1; obtain ⟨b1, b2, _⟩ := k2; omega)] at w3
          have s2 := c19 ⟨wrg (wrg s yi.toNat yd) xi.toNat xd, -1, t, false⟩ ⟨wrg (wrg s yi.toNat yd) xi.toNat xd, -1, t, false⟩ (by simp only [wrg_len]; exact sl)
          rw [sameB_self] at s2
          rw [pc_eq]; simp +contextual -implicitDefEqProofs (maxSteps := 2000000) only [go_sem, ↓reduceIte, Nat.reduceAdd, Nat.reduceMul, Nat.reduceSub, Nat.reduceEqDiff, Nat.reduceLeDiff, Nat.reduceDiv, Nat.reduceMod, Nat.reduceBEq, Nat.reduceBNe, reduceCtorEq, Int.reduceLE, Int.reduceLT, Int.reduceToNat, Int.reduceNeg, Nat.reduceLT, Int.reduceEq, Int.reduceSub, Int.reduceAdd, Int.reduceMul, Nat.reducePow, Int.reduceBEq, Int.reduceBNe, Int.reduceMod, E_8, A8, c15, h1, h2, h3, w1, w2, w3, w4, w5, s1, s2, hi, hne]
end Go.Proofs.Ytjmnepfdhkabfaa
