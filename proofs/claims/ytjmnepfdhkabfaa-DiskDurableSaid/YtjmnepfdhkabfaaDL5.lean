/- Part of the proof: what functions of the program compute, over the evaluation that the engine's texts tie to the machine. -/
import Derived.Test.YtjmnepfdhkabfaaDM2
namespace Go.Proofs.Ytjmnepfdhkabfaa
set_option maxRecDepth 100000
set_option maxHeartbeats 4000000
set_option linter.unusedSimpArgs false
set_option linter.unusedVariables false
open Go Go.Zv
theorem rd_ok {s : List (List UInt8)} {k : Nat} {p : List UInt8} (f t : Int) (h : s[k]? = some p) : pc E 25 [.agg [sv s, .int .i64 f, .int .i64 t, .bool false], .int .i64 k] = some (.tup [bv p, .int .i64 0]) := by
  have hk := (List.getElem?_eq_some_iff.1 h).1
  rw [c25, rdv, if_neg (by simp), if_pos (by omega), Int.toNat_natCast, h]; rfl
theorem take_over (x p : List UInt8) : ((over x p).map b1).take x.length = x.map b1 := by
  rw [← List.map_take]; simp [over]
theorem drop_over (x p : List UInt8) : ((over x p).map b1).drop x.length = (p.map b1).drop x.length := by
  rw [← List.map_drop, ← List.map_drop]; simp [over]
theorem take_len (q : List UInt8) (h : q.length = 64) : (q.map b1).take 64 = q.map b1 := List.take_of_length_le (by simp; omega)
theorem take_len' (q : List UInt8) : (q.map b1).take q.length = q.map b1 := List.take_of_length_le (by simp)
theorem loop5 (s : List (List UInt8)) (hs : s.length ≤ 64) (f t f' t' : Int) (xi : Nat) (hi : xi < s.length) (x : List UInt8) (hx : x.length ≤ 64) (ha : ∀ p ∈ s, p.length = 64) (u : List (List UInt8)) (hu : u = wrg s xi x) (xk xn xt : Int) :
    (K E A5_L0 ⟨[(5, .ptr 1280 0), (7, .bool true), (8, .ptr 2048 0), (9, .ptr 2304 0), (11, .int .i64 0)], [], [(2304, .box [sv u, .int .i64 f', .int .i64 t', .bool false]), (2305, .row 1 []), (2048, .box [sv s, .int .i64 f, .int .i64 t, .bool false]), (2049, .row 1 []), (5888, .row 5 [[.int .u8 xk, .int .i64 xi, .int .u8 xn, .int .u8 xt, bv x]]), (1280, .box [.int .u8 xk, .int .i64 xi, .int .u8 xn, .int .u8 xt, bv x])], 0⟩).bind (blockR 0 (some [5, 7, 8, 9]) [6, 11, 12, 13, 14, 15, 60, 66, 97, 110, 122]) =
    some (.ex .nrm ⟨[(5, .ptr 1280 0), (7, .bool true), (8, .ptr 2048 0), (9, .ptr 2304 0)], [], [(2304, .box [sv u, .int .i64 f', .int .i64 t', .bool false]), (2305, .row 1 []), (2048, .box [sv s, .int .i64 f, .int .i64 t, .bool false]), (2049, .row 1 []), (5888, .row 5 [[.int .u8 xk, .int .i64 xi, .int .u8 xn, .int .u8 xt, bv x]]), (1280, .box [.int .u8 xk, .int .i64 xi, .int .u8 xn, .int .u8 xt, bv x])], 0⟩) := by
  have h := loop_to (fun S => (K E A5_L0 S).bind (blockR 0 (some [5, 7, 8, 9]) [6, 11, 12, 13, 14, 15, 60, 66, 97, 110, 122]))
    (fun k => ⟨[(5, .ptr 1280 0), (7, .bool true), (8, .ptr 2048 0), (9, .ptr 2304 0), (11, .int .i64 k)], [], [(2304, .box [sv u, .int .i64 f', .int .i64 t', .bool false]), (2305, .row 1 []), (2048, .box [sv s, .int .i64 f, .int .i64 t, .bool false]), (2049, .row 1 []), (5888, .row 5 [[.int .u8 xk, .int .i64 xi, .int .u8 xn, .int .u8 xt, bv x]]), (1280, .box [.int .u8 xk, .int .i64 xi, .int .u8 xn, .int .u8 xt, bv x])], 0⟩) s.length ?_
  · refine h.trans ?_
    show (K E A5_L0 _).bind _ = _
    rw [A5_L0_eq]
    simp +contextual -implicitDefEqProofs (maxSteps := 2000000) only [go_sem, ↓reduceIte, Nat.reduceAdd, Nat.reduceMul, Nat.reduceSub, Nat.reduceEqDiff, Nat.reduceLeDiff, Nat.reduceDiv, Nat.reduceMod, Nat.reduceBEq, Nat.reduceBNe, reduceCtorEq, Int.reduceLE, Int.reduceLT, Int.reduceToNat, Int.reduceNeg, Nat.reduceLT, Int.reduceEq, Int.reduceSub, Int.reduceAdd, Int.reduceMul, Nat.reducePow, Int.reduceBEq, Int.reduceBNe, Int.reduceMod, A5_L0b, List.length_map, Int.lt_irrefl]
  · intro k hk
    show (K E A5_L0 _).bind _ = (K E A5_L0 _).bind _
    have hget : s[k]? = some (s[k]'hk) := List.getElem?_eq_getElem _
    have hpl := ha _ (List.getElem_mem hk)
    generalize s[k]'hk = p at *
    have r1 := rd_ok f t hget
    have h1 : (k : Int) < s.length := by omega
    have h0 : (0 : Int) ≤ k := by omega
    have hw := wr_succ (n := k) (by omega)
    by_cases hki : k = xi
    · subst hki
      have hg2 : u[k]? = some (over x p) := by
        rw [hu, wrg, List.getElem?_set_self hk, hget]; rfl
      have r2 := rd_ok f' t' hg2
      have ol : (over x p).length = 64 := by rw [over_len (by omega), hpl]
      have c1 := c27 x x
      rw [beq_self_eq_true] at c1
      have c2 := c27 (p.drop x.length) (p.drop x.length)
      rw [beq_self_eq_true, bv, List.map_drop] at c2
      have b0 : (0 : Int) ≤ x.length := by omega
      have b1' : (x.length : Int) ≤ 64 := by omega
      have t1 := take_over x p
      have t2 := drop_over x p
      have t3 := take_len _ ol
      have t4 := take_len _ hpl
      conv => lhs; rw [A5_L0_eq]
      simp +contextual -implicitDefEqProofs (maxSteps := 2000000) only [go_sem, ↓reduceIte, Nat.reduceAdd, Nat.reduceMul, Nat.reduceSub, Nat.reduceEqDiff, Nat.reduceLeDiff, Nat.reduceDiv, Nat.reduceMod, Nat.reduceBEq, Nat.reduceBNe, reduceCtorEq, Int.reduceLE, Int.reduceLT, Int.reduceToNat, Int.reduceNeg, Nat.reduceLT, Int.reduceEq, Int.reduceSub, Int.reduceAdd, Int.reduceMul, Nat.reducePow, Int.reduceBEq, Int.reduceBNe, Int.reduceMod, A5_L0b, List.length_map, h1, h0, hw, r1, r2, ol, hpl, bne_self_eq_false, c1, c2, b0, b1', t1, t2, t3, t4, all_b1, hk, Int.lt_irrefl]
    · have hg2 : u[k]? = some p := by rw [hu, wrg, List.getElem?_set_ne (by omega), hget]
      have r2 := rd_ok f' t' hg2
      have c1 := c27 p p
      rw [beq_self_eq_true] at c1
      have n1 : ¬ ((k : Int) = xi) := by omega
      have n2 : ((k : Int) == xi) = false := by simp; omega
      have n3 : ((k : Int) != xi) = true := by simp; omega
      conv => lhs; rw [A5_L0_eq]
      simp +contextual -implicitDefEqProofs (maxSteps := 2000000) only [go_sem, ↓reduceIte, Nat.reduceAdd, Nat.reduceMul, Nat.reduceSub, Nat.reduceEqDiff, Nat.reduceLeDiff, Nat.reduceDiv, Nat.reduceMod, Nat.reduceBEq, Nat.reduceBNe, reduceCtorEq, Int.reduceLE, Int.reduceLT, Int.reduceToNat, Int.reduceNeg, Nat.reduceLT, Int.reduceEq, Int.reduceSub, Int.reduceAdd, Int.reduceMul, Nat.reducePow, Int.reduceBEq, Int.reduceBNe, Int.reduceMod, A5_L0b, List.length_map, h1, h0, hw, r1, r2, hpl, bne_self_eq_false, c1, n1, n2, n3, all_b1]
theorem law5 (n : Nat) (hn : n ≤ 255) (l : List Act) (hl : l.length ≤ 1000000000) (ha : ∀ a ∈ l, OKa a) (x : Act) (hx : OKa x) :
    pc E 5 [.int .u8 n, .vs (l.map a5), av x] = some (.bool true) := by
  have h1 := c16 l (by omega)
  have h2 : pc E 16 [.vs [[.int .u8 x.k, .int .i64 x.at_, .int .u8 x.n, .int .u8 x.torn, bv x.data]]] = some (.bool (gr [x])) := c16 [x] (by simp)
  have h3 := c28 n hn l hl ha
  have hd := ok_made n l ha
  generalize made n l = d at *
  have h4 := c29 d hd x.at_ x.data hx.len
  cases g1 : gr l with
  | true => rw [g1] at h1; rw [pc_eq]; simp +contextual -implicitDefEqProofs (maxSteps := 2000000) only [go_sem, ↓reduceIte, Nat.reduceAdd, Nat.reduceMul, Nat.reduceSub, Nat.reduceEqDiff, Nat.reduceLeDiff, Nat.reduceDiv, Nat.reduceMod, Nat.reduceBEq, Nat.reduceBNe, reduceCtorEq, Int.reduceLE, Int.reduceLT, Int.reduceToNat, Int.reduceNeg, Nat.reduceLT, Int.reduceEq, Int.reduceSub, Int.reduceAdd, Int.reduceMul, Nat.reducePow, Int.reduceBEq, Int.reduceBNe, Int.reduceMod, E_5, A5, c15, h1]
  | false =>
    rw [g1] at h1
    cases g2 : gr [x] with
    | true => rw [g2] at h2; rw [pc_eq]; simp +contextual -implicitDefEqProofs (maxSteps := 2000000) only [go_sem, ↓reduceIte, Nat.reduceAdd, Nat.reduceMul, Nat.reduceSub, Nat.reduceEqDiff, Nat.reduceLeDiff, Nat.reduceDiv, Nat.reduceMod, Nat.reduceBEq, Nat.reduceBNe, reduceCtorEq, Int.reduceLE, Int.reduceLT, Int.reduceToNat, Int.reduceNeg, Nat.reduceLT, Int.reduceEq, Int.reduceSub, Int.reduceAdd, Int.reduceMul, Nat.reducePow, Int.reduceBEq, Int.reduceBNe, Int.reduceMod, E_5, A5, c15, h1, h2]
    | false =>
      rw [g2] at h2
      obtain ⟨xk, xi, xn, xt, xd⟩ := x
      obtain ⟨s, f, t, w⟩ := d
      simp only at *
      rcases wr_cases ⟨s, f, t, w⟩ xi xd with ⟨k1, e1⟩ | ⟨k1, k2, e1⟩ | ⟨k1, k2, k3, e1⟩ | ⟨k1, k2, k3, e1⟩ <;> rw [e1] at h4 <;> simp only at *
      · rw [pc_eq]; simp +contextual -implicitDefEqProofs (maxSteps := 2000000) only [go_sem, ↓reduceIte, Nat.reduceAdd, Nat.reduceMul, Nat.reduceSub, Nat.reduceEqDiff, Nat.reduceLeDiff, Nat.reduceDiv, Nat.reduceMod, Nat.reduceBEq, Nat.reduceBNe, reduceCtorEq, Int.reduceLE, Int.reduceLT, Int.reduceToNat, Int.reduceNeg, Nat.reduceLT, Int.reduceEq, Int.reduceSub, Int.reduceAdd, Int.reduceMul, Nat.reducePow, Int.reduceBEq, Int.reduceBNe, Int.reduceMod, E_5, A5, c15, h1, h2, h3, h4, ite_self]
      · rw [pc_eq]; simp +contextual -implicitDefEqProofs (maxSteps := 2000000) only [go_sem, ↓reduceIte, Nat.reduceAdd, Nat.reduceMul, Nat.reduceSub, Nat.reduceEqDiff, Nat.reduceLeDiff, Nat.reduceDiv, Nat.reduceMod, Nat.reduceBEq, Nat.reduceBNe, reduceCtorEq, Int.reduceLE, Int.reduceLT, Int.reduceToNat, Int.reduceNeg, Nat.reduceLT, Int.reduceEq, Int.reduceSub, Int.reduceAdd, Int.reduceMul, Nat.reducePow, Int.reduceBEq, Int.reduceBNe, Int.reduceMod, E_5, A5, c15, h1, h2, h3, h4, ite_self]
      · rw [pc_eq]; simp +contextual -implicitDefEqProofs (maxSteps := 2000000) only [go_sem, ↓reduceIte, Nat.reduceAdd, Nat.reduceMul, Nat.reduceSub, Nat.reduceEqDiff, Nat.reduceLeDiff, Nat.reduceDiv, Nat.reduceMod, Nat.reduceBEq, Nat.reduceBNe, reduceCtorEq, Int.reduceLE, Int.reduceLT, Int.reduceToNat, Int.reduceNeg, Nat.reduceLT, Int.reduceEq, Int.reduceSub, Int.reduceAdd, Int.reduceMul, Nat.reducePow, Int.reduceBEq, Int.reduceBNe, Int.reduceMod, E_5, A5, c15, h1, h2, h3, h4, ite_self]
      · subst k1
        obtain ⟨i, rfl⟩ : ∃ i : Nat, xi = i := ⟨xi.toNat, by omega⟩
        simp only [Int.toNat_natCast] at h4
        have hl2 := hd.len2
        simp only at hl2
        have lp := loop5 s hl2 f t (if f > 1 then f - 1 else f) t i (by omega) xd k2.2.2 hd.all _ rfl xk xn xt
        rw [show s.set i (over xd (s[i]?.getD [])) = wrg s i xd from rfl] at h4
        have r1 : pc E 25 [.agg [sv (wrg s i xd), .int .i64 (if f > 1 then f - 1 else f), .int .i64 t, .bool false], .int .i64 s.length] = some (.tup [.os 1 [], .int .i64 1]) := by
          rw [c25, rdv, if_neg (by simp), if_neg (by rw [wrg_len]; omega)]
        generalize (if f > 1 then f - 1 else f) = f' at *
        have q1 : (i : Int) < s.length := k2.2.1
        rw [pc_eq]; simp +contextual -implicitDefEqProofs (maxSteps := 2000000) only [go_sem, ↓reduceIte, Nat.reduceAdd, Nat.reduceMul, Nat.reduceSub, Nat.reduceEqDiff, Nat.reduceLeDiff, Nat.reduceDiv, Nat.reduceMod, Nat.reduceBEq, Nat.reduceBNe, reduceCtorEq, Int.reduceLE, Int.reduceLT, Int.reduceToNat, Int.reduceNeg, Nat.reduceLT, Int.reduceEq, Int.reduceSub, Int.reduceAdd, Int.reduceMul, Nat.reducePow, Int.reduceBEq, Int.reduceBNe, Int.reduceMod, E_5, A5, c15, h1, h2, h3, h4, lp, r1, List.length_map, k2.1, q1]
end Go.Proofs.Ytjmnepfdhkabfaa
