/- Part of the proof: what functions of the program compute, over the evaluation that the engine's texts tie to the machine. -/
import Derived.Test.YtjmnepfdhkabfaaDL5
namespace Go.Proofs.Ytjmnepfdhkabfaa
set_option maxRecDepth 100000
set_option maxHeartbeats 4000000
set_option linter.unusedSimpArgs false
set_option linter.unusedVariables false
open Go Go.Zv
theorem loop6 (s : List (List UInt8)) (hs : s.length ≤ 64) (t : Int) (ht : 0 ≤ t) (xi : Nat) (hi : xi < s.length) (x : List UInt8) (hx : x.length ≤ 64) (ha : ∀ p ∈ s, p.length = 64) (u : List (List UInt8)) (hu : u = wrg s xi (x.take t.toNat)) (xk xn xt : Int) :
    (K E A6_L0 ⟨[(5, .ptr 1280 0), (7, .bool true), (8, .ptr 2048 0), (11, .ptr 2816 0), (12, .int .i64 0)], [], [(2816, .box [sv u, .int .i64 (-1), .int .i64 0, .bool false]), (2817, .row 1 []), (2048, .box [sv s, .int .i64 1, .int .i64 t, .bool false]), (2049, .row 1 []), (5888, .row 5 [[.int .u8 xk, .int .i64 xi, .int .u8 xn, .int .u8 xt, bv x]]), (1280, .box [.int .u8 xk, .int .i64 xi, .int .u8 xn, .int .u8 xt, bv x])], 0⟩).bind (blockR 0 (some [7]) [6, 12, 13, 14, 15, 16, 17, 91, 97, 133, 142]) =
    some (.ex .nrm ⟨[(7, .bool true)], [], [(2816, .box [sv u, .int .i64 (-1), .int .i64 0, .bool false]), (2817, .row 1 []), (2048, .box [sv s, .int .i64 1, .int .i64 t, .bool false]), (2049, .row 1 []), (5888, .row 5 [[.int .u8 xk, .int .i64 xi, .int .u8 xn, .int .u8 xt, bv x]]), (1280, .box [.int .u8 xk, .int .i64 xi, .int .u8 xn, .int .u8 xt, bv x])], 0⟩) := by
  have h := loop_to (fun S => (K E A6_L0 S).bind (blockR 0 (some [7]) [6, 12, 13, 14, 15, 16, 17, 91, 97, 133, 142]))
    (fun k => ⟨[(5, .ptr 1280 0), (7, .bool true), (8, .ptr 2048 0), (11, .ptr 2816 0), (12, .int .i64 k)], [], [(2816, .box [sv u, .int .i64 (-1), .int .i64 0, .bool false]), (2817, .row 1 []), (2048, .box [sv s, .int .i64 1, .int .i64 t, .bool false]), (2049, .row 1 []), (5888, .row 5 [[.int .u8 xk, .int .i64 xi, .int .u8 xn, .int .u8 xt, bv x]]), (1280, .box [.int .u8 xk, .int .i64 xi, .int .u8 xn, .int .u8 xt, bv x])], 0⟩) s.length ?_
  · refine h.trans ?_
    show (K E A6_L0 _).bind _ = _
    rw [A6_L0_eq]
    simp +contextual -implicitDefEqProofs (maxSteps := 2000000) only [go_sem, ↓reduceIte, Nat.reduceAdd, Nat.reduceMul, Nat.reduceSub, Nat.reduceEqDiff, Nat.reduceLeDiff, Nat.reduceDiv, Nat.reduceMod, Nat.reduceBEq, Nat.reduceBNe, reduceCtorEq, Int.reduceLE, Int.reduceLT, Int.reduceToNat, Int.reduceNeg, Nat.reduceLT, Int.reduceEq, Int.reduceSub, Int.reduceAdd, Int.reduceMul, Nat.reducePow, Int.reduceBEq, Int.reduceBNe, Int.reduceMod, A6_L0b, List.length_map, Int.lt_irrefl]
  · intro k hk
    show (K E A6_L0 _).bind _ = (K E A6_L0 _).bind _
    have hget : s[k]? = some (s[k]'hk) := List.getElem?_eq_getElem _
    have hpl := ha _ (List.getElem_mem hk)
    generalize s[k]'hk = p at *
    have r1 := rd_ok 1 t hget
    have h1 : (k : Int) < s.length := by omega
    have h0 : (0 : Int) ≤ k := by omega
    have hw := wr_succ (n := k) (by omega)
    by_cases hki : k = xi
    · subst hki
      have hq : mnI t x.length = ((x.take t.toNat).length : Int) := by rw [List.length_take]; unfold mnI; split <;> omega
      have hql : (x.take t.toNat).length ≤ x.length := by rw [List.length_take]; omega
      have q3 : (x.map b1).take (x.take t.toNat).length = (x.take t.toNat).map b1 := by rw [List.length_take, List.map_take, List.take_eq_take_iff]; simp
      generalize x.take t.toNat = z at *
      have hg2 : u[k]? = some (over z p) := by
        rw [hu, wrg, List.getElem?_set_self hk, hget]; rfl
      have r2 := rd_ok (-1) 0 hg2
      have ol : (over z p).length = 64 := by rw [over_len (by omega), hpl]
      have c1 := c27 z z
      rw [beq_self_eq_true] at c1
      have c2 := c27 (p.drop z.length) (p.drop z.length)
      rw [beq_self_eq_true, bv, List.map_drop] at c2
      have b0 : (0 : Int) ≤ z.length := by omega
      have b1' : (z.length : Int) ≤ 64 := by omega
      have b2' : (z.length : Int) ≤ x.length := by omega
      have t1 := take_over z p
      have t2 := drop_over z p
      have t3 := take_len _ ol
      have t4 := take_len _ hpl
      conv => lhs; rw [A6_L0_eq]
      simp +contextual -implicitDefEqProofs (maxSteps := 2000000) only [go_sem, ↓reduceIte, Nat.reduceAdd, Nat.reduceMul, Nat.reduceSub, Nat.reduceEqDiff, Nat.reduceLeDiff, Nat.reduceDiv, Nat.reduceMod, Nat.reduceBEq, Nat.reduceBNe, reduceCtorEq, Int.reduceLE, Int.reduceLT, Int.reduceToNat, Int.reduceNeg, Nat.reduceLT, Int.reduceEq, Int.reduceSub, Int.reduceAdd, Int.reduceMul, Nat.reducePow, Int.reduceBEq, Int.reduceBNe, Int.reduceMod, A6_L0b, List.length_map, h1, h0, hw, r1, r2, ol, hpl, bne_self_eq_false, c1, c2, b0, b1', b2', t1, t2, t3, t4, q3, all_b1, hk, Int.lt_irrefl, hq]
    · have hg2 : u[k]? = some p := by rw [hu, wrg, List.getElem?_set_ne (by omega), hget]
      have r2 := rd_ok (-1) 0 hg2
      have c1 := c27 p p
      rw [beq_self_eq_true] at c1
      have c0 := c27 [] []
      rw [beq_self_eq_true, bv, List.map_nil] at c0
      have n1 : ¬ ((k : Int) = xi) := by omega
      have n2 : ((k : Int) == xi) = false := by simp; omega
      have n3 : ((k : Int) != xi) = true := by simp; omega
      have t4 := take_len _ hpl
      have b0 : (0 : Int) ≤ x.length := by omega
      conv => lhs; rw [A6_L0_eq]
      simp +contextual -implicitDefEqProofs (maxSteps := 2000000) only [go_sem, ↓reduceIte, Nat.reduceAdd, Nat.reduceMul, Nat.reduceSub, Nat.reduceEqDiff, Nat.reduceLeDiff, Nat.reduceDiv, Nat.reduceMod, Nat.reduceBEq, Nat.reduceBNe, reduceCtorEq, Int.reduceLE, Int.reduceLT, Int.reduceToNat, Int.reduceNeg, Nat.reduceLT, Int.reduceEq, Int.reduceSub, Int.reduceAdd, Int.reduceMul, Nat.reducePow, Int.reduceBEq, Int.reduceBNe, Int.reduceMod, A6_L0b, List.length_map, h1, h0, hw, r1, r2, hpl, bne_self_eq_false, c1, c0, n1, n2, n3, all_b1, t4, b0]
theorem law6 (n : Nat) (hn : n ≤ 255) (l : List Act) (hl : l.length ≤ 1000000000) (ha : ∀ a ∈ l, OKa a) (x : Act) (hx : OKa x) :
    pc E 6 [.int .u8 n, .vs (l.map a5), av x] = some (.bool true) := by
  have h1 := c16 l (by omega)
  have h2 : pc E 16 [.vs [[.int .u8 x.k, .int .i64 x.at_, .int .u8 x.n, .int .u8 x.torn, bv x.data]]] = some (.bool (gr [x])) := c16 [x] (by simp)
  have h3 := c28 n hn l hl ha
  have hm := ok_made n l ha
  generalize made n l = d at *
  cases g1 : gr l with
  | true => rw [g1] at h1; rw [pc_eq]; simp +contextual -implicitDefEqProofs (maxSteps := 2000000) only [go_sem, ↓reduceIte, Nat.reduceAdd, Nat.reduceMul, Nat.reduceSub, Nat.reduceEqDiff, Nat.reduceLeDiff, Nat.reduceDiv, Nat.reduceMod, Nat.reduceBEq, Nat.reduceBNe, reduceCtorEq, Int.reduceLE, Int.reduceLT, Int.reduceToNat, Int.reduceNeg, Nat.reduceLT, Int.reduceEq, Int.reduceSub, Int.reduceAdd, Int.reduceMul, Nat.reducePow, Int.reduceBEq, Int.reduceBNe, Int.reduceMod, E_6, A6, c15, h1]
  | false =>
    rw [g1] at h1
    cases g2 : gr [x] with
    | true => rw [g2] at h2; rw [pc_eq]; simp +contextual -implicitDefEqProofs (maxSteps := 2000000) only [go_sem, ↓reduceIte, Nat.reduceAdd, Nat.reduceMul, Nat.reduceSub, Nat.reduceEqDiff, Nat.reduceLeDiff, Nat.reduceDiv, Nat.reduceMod, Nat.reduceBEq, Nat.reduceBNe, reduceCtorEq, Int.reduceLE, Int.reduceLT, Int.reduceToNat, Int.reduceNeg, Nat.reduceLT, Int.reduceEq, Int.reduceSub, Int.reduceAdd, Int.reduceMul, Nat.reducePow, Int.reduceBEq, Int.reduceBNe, Int.reduceMod, E_6, A6, c15, h1, h2]
    | false =>
      rw [g2] at h2
      obtain ⟨xk, xi, xn, xt, xd⟩ := x
      obtain ⟨s, f0, t0, w0⟩ := d
      have hx1 := hx.t0
      have hx2 := hx.t1
      have hxl := hx.len
      simp only at *
      have e3 := Int.tmod_lt_of_pos xt (show (0 : Int) < 65 by omega)
      have e4 := Int.tmod_nonneg 65 hx1
      have hd : OKd ⟨s, 1, xt.tmod 65, false⟩ := ⟨hm.len1, hm.len2, hm.all, .inr ⟨by simp, by simp⟩, e4, by simp only; omega⟩
      have w1 : IntKind.i64.wrap xt = xt := wrap_small (by omega) (by omega)
      generalize ht : xt.tmod 65 = t at *
      have h4 := c29 _ hd xi xd hxl
      have h5 := c19 ⟨s, 1, t, false⟩ ⟨s, 1, t, false⟩ (by have := hm.len2; simp only at this ⊢; omega)
      rw [sameB_self] at h5
      rcases wr_cases ⟨s, 1, t, false⟩ xi xd with ⟨k1, e1⟩ | ⟨k1, k2, e1⟩ | ⟨k1, k2, k3, e1⟩ | ⟨k1, k2, k3, e1⟩ <;> rw [e1] at h4 <;> simp only at *
      · cases k1
      · rw [pc_eq]; simp +contextual -implicitDefEqProofs (maxSteps := 2000000) only [go_sem, ↓reduceIte, Nat.reduceAdd, Nat.reduceMul, Nat.reduceSub, Nat.reduceEqDiff, Nat.reduceLeDiff, Nat.reduceDiv, Nat.reduceMod, Nat.reduceBEq, Nat.reduceBNe, reduceCtorEq, Int.reduceLE, Int.reduceLT, Int.reduceToNat, Int.reduceNeg, Nat.reduceLT, Int.reduceEq, Int.reduceSub, Int.reduceAdd, Int.reduceMul, Nat.reducePow, Int.reduceBEq, Int.reduceBNe, Int.reduceMod, E_6, A6, c15, h1, h2, h3, h4, w1, ht, h5]
      · obtain ⟨i, rfl⟩ : ∃ i : Nat, xi = i := ⟨xi.toNat, by omega⟩
        simp only [Int.toNat_natCast] at h4
        have hl2 := hd.len2
        simp only at hl2
        rw [show s.set i (over (xd.take t.toNat) (s[i]?.getD [])) = wrg s i (xd.take t.toNat) from rfl] at h4
        have h6 := c30 (wrg s i (xd.take t.toNat)) (-1) 0 true
        have ln : (wrg s i (xd.take t.toNat)).length = s.length := wrg_len ..
        have lp := loop6 s hl2 t e4 i (by omega) xd (by omega) hd.all _ rfl xk xn xt
        rw [pc_eq]; simp +contextual -implicitDefEqProofs (maxSteps := 2000000) only [go_sem, ↓reduceIte, Nat.reduceAdd, Nat.reduceMul, Nat.reduceSub, Nat.reduceEqDiff, Nat.reduceLeDiff, Nat.reduceDiv, Nat.reduceMod, Nat.reduceBEq, Nat.reduceBNe, reduceCtorEq, Int.reduceLE, Int.reduceLT, Int.reduceToNat, Int.reduceNeg, Nat.reduceLT, Int.reduceEq, Int.reduceSub, Int.reduceAdd, Int.reduceMul, Nat.reducePow, Int.reduceBEq, Int.reduceBNe, Int.reduceMod, lp, E_6, A6, c15, h1, h2, h3, h4, w1, ht, h6, List.length_map, ln, bne_self_eq_false]
      · simp at k3
end Go.Proofs.Ytjmnepfdhkabfaa
