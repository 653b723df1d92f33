/- Part of the proof: the evaluation of the program's code and its tie to the machine, or what functions of the program compute over it. -/
import Derived.Test.YtnecdcaaknhgpaaPart2
namespace Go.Proofs.Ytnecdcaaknhgpaa.G
set_option maxRecDepth 100000
set_option maxHeartbeats 4000000
set_option linter.unusedSimpArgs false
set_option linter.unusedVariables false
open Go Go.Zv
open Go.Geo
theorem c60 (x : List (List LV)) (h : LV.closeds [.vs x] = true) : pc E 60 [.vs x] = some (.fn (.func 89) [] [.fp [.vs x]]) := by
  rw [pc_eq]; simp +contextual -implicitDefEqProofs (maxSteps := 2000000) only [go_sem, ↓reduceIte, Nat.reduceAdd, Nat.reduceMul, Nat.reduceSub, Nat.reduceEqDiff, Nat.reduceLeDiff, Nat.reduceDiv, Nat.reduceMod, Nat.reduceBEq, Nat.reduceBNe, reduceCtorEq, Int.reduceLE, Int.reduceLT, Int.reduceToNat, Int.reduceNeg, Nat.reduceLT, Int.reduceEq, Int.reduceSub, Int.reduceAdd, Int.reduceMul, Nat.reducePow, Int.reduceBEq, Int.reduceBNe, Int.reduceMod, E_60, A60, h]
theorem cl_c2 (l : List Pt) : LV.closeds [.vs (l.map c2)] = true := rfl
theorem c60' (l : List Pt) : pc E 60 [.vs (l.map c2)] = some (.fn (.func 89) [] [.fp [.vs (l.map c2)]]) := c60 _ (cl_c2 l)
theorem c32 (l : List Pt) (hl : l.length ≤ 1000000000) : pc E 32 [.vs (l.map c2)] = some (.int .i64 (areaW l)) := by
  have h57 := c60' l
  have lp := loop_foldl (fun S => (K E A89_L0 S).bind (blockR 0 (some []) [3, 4, 24]))
    (fun k (x : Int) => ⟨[(0, .yl 1024000), (1, .fp [.vs (l.map c2)]), (5, .vs (l.map c2)), (6, .int .i64 l.length), (7, .int .i64 k)], [[(2, .int .i64 0), (3, .ptr 768 0), (7, .fn (Fn.func 89) [] [.fp [.vs (l.map c2)]])], [(0, .yl 1024000)]], [(1024000, .loop [(2, .int .i64 0), (3, .ptr 768 0), (7, .fn (Fn.func 89) [] [.fp [.vs (l.map c2)]])] [8, 9] A32_R0a A32_R0b LSt.ready AEx.nrm), (768, .box [.int .i64 x])], 1⟩)
    (eds l) arF (fun _ => True) (fun k e x hk he _ => ⟨trivial, by
      obtain ⟨hk', g1, g2⟩ := eds_get he
      have g1 := get_c2 g1
      have g2 := get_c2 g2
      obtain ⟨m1, m2, m3, m4, m5⟩ := mod_nat hk' hl
      have hw := wr_k (k := k) (by omega)
      have h1 : (k : Int) < l.length := by omega
      have h0 : (0 : Int) ≤ k := by omega
      obtain ⟨⟨px, py⟩, ⟨qx, qy⟩⟩ := e
      show (K E A89_L0 _).bind _ = (K E A89_L0 _).bind _
      conv => lhs; rw [A89_L0_eq]
      simp +contextual -implicitDefEqProofs (maxSteps := 2000000) only [go_sem, ↓reduceIte, Nat.reduceAdd, Nat.reduceMul, Nat.reduceSub, Nat.reduceEqDiff, Nat.reduceLeDiff, Nat.reduceDiv, Nat.reduceMod, Nat.reduceBEq, Nat.reduceBNe, reduceCtorEq, Int.reduceLE, Int.reduceLT, Int.reduceToNat, Int.reduceNeg, Nat.reduceLT, Int.reduceEq, Int.reduceSub, Int.reduceAdd, Int.reduceMul, Nat.reducePow, Int.reduceBEq, Int.reduceBNe, Int.reduceMod, A89_L0b, A32_R0a, A32_R0b, List.length_map, h0, h1, g1, g2, m1, m2, m3, m4, m5, hw, arF]⟩) 0 trivial
  have stop : ∀ x : Int, (K E A89_L0 ⟨[(0, .yl 1024000), (1, .fp [.vs (l.map c2)]), (5, .vs (l.map c2)), (6, .int .i64 l.length), (7, .int .i64 l.length)], [[(2, .int .i64 0), (3, .ptr 768 0), (7, .fn (Fn.func 89) [] [.fp [.vs (l.map c2)]])], [(0, .yl 1024000)]], [(1024000, .loop [(2, .int .i64 0), (3, .ptr 768 0), (7, .fn (Fn.func 89) [] [.fp [.vs (l.map c2)]])] [8, 9] A32_R0a A32_R0b LSt.ready AEx.nrm), (768, .box [.int .i64 x])], 1⟩).bind (blockR 0 (some []) [3, 4, 24]) = some (.ex .nrm ⟨[], [[(2, .int .i64 0), (3, .ptr 768 0), (7, .fn (Fn.func 89) [] [.fp [.vs (l.map c2)]])], [(0, .yl 1024000)]], [(1024000, .loop [(2, .int .i64 0), (3, .ptr 768 0), (7, .fn (Fn.func 89) [] [.fp [.vs (l.map c2)]])] [8, 9] A32_R0a A32_R0b LSt.ready AEx.nrm), (768, .box [.int .i64 x])], 1⟩) := fun x => by
    rw [A89_L0_eq]; simp +contextual -implicitDefEqProofs (maxSteps := 2000000) only [go_sem, ↓reduceIte, Nat.reduceAdd, Nat.reduceMul, Nat.reduceSub, Nat.reduceEqDiff, Nat.reduceLeDiff, Nat.reduceDiv, Nat.reduceMod, Nat.reduceBEq, Nat.reduceBNe, reduceCtorEq, Int.reduceLE, Int.reduceLT, Int.reduceToNat, Int.reduceNeg, Nat.reduceLT, Int.reduceEq, Int.reduceSub, Int.reduceAdd, Int.reduceMul, Nat.reducePow, Int.reduceBEq, Int.reduceBNe, Int.reduceMod, A89_L0b, Int.lt_irrefl]
  rw [eds_len] at lp
  simp only [stop, Int.natCast_zero, Int.ofNat_zero] at lp
  rw [pc_eq]; simp +contextual -implicitDefEqProofs (maxSteps := 2000000) only [go_sem, ↓reduceIte, Nat.reduceAdd, Nat.reduceMul, Nat.reduceSub, Nat.reduceEqDiff, Nat.reduceLeDiff, Nat.reduceDiv, Nat.reduceMod, Nat.reduceBEq, Nat.reduceBNe, reduceCtorEq, Int.reduceLE, Int.reduceLT, Int.reduceToNat, Int.reduceNeg, Nat.reduceLT, Int.reduceEq, Int.reduceSub, Int.reduceAdd, Int.reduceMul, Nat.reducePow, Int.reduceBEq, Int.reduceBNe, Int.reduceMod, E_32, A32, h57, E_89, A89, A32_R0, List.length_map, lp, areaW]
abbrev FR28 (l : List Pt) : Env := [(3, .ptr 768 0), (4, .ptr 1024 0), (5, .ptr 1280 0), (11, .fn (Fn.func 89) [] [.fp [.vs (l.map c2)]])]
theorem c33 (l : List Pt) (hl : l.length ≤ 1000000000) (px py : Int) : pc E 33 [.vs (l.map c2), .agg [.int .i64 px, .int .i64 py]] = some (.int .i64 (locI l (px, py))) := by
  have h57 := c60' l
  have lp := loop_leave (fun S => (K E A89_L0 S).bind (blockR 0 (some []) [3, 4, 24]))
    (fun k (x : Bool) => ⟨[(0, .yl 1024000), (1, .fp [.vs (l.map c2)]), (5, .vs (l.map c2)), (6, .int .i64 l.length), (7, .int .i64 k)], [FR28 l, [(0, .yl 1024000)]], [(1024000, .loop (FR28 l) [12, 13] A33_R0a A33_R0b LSt.ready AEx.nrm), (1280, .box [.bool x]), (1024, .box [.int .i64 0]), (768, .box [.int .i64 px, .int .i64 py])], 1⟩)
    (eds l) (parF (px, py)) (onE (px, py)) (fun o => ∃ (k : Int) (x : Bool), o = some (.ex .ret ⟨[(0, .yl 1024000), (1, .fp [.vs (l.map c2)]), (5, .vs (l.map c2)), (6, .int .i64 l.length), (7, .int .i64 k), (25, .bool true)], [FR28 l, [(0, .yl 1024000)]], [(1024000, .loop (FR28 l) [12, 13] A33_R0a A33_R0b LSt.done AEx.ret), (1280, .box [.bool x]), (1024, .box [.int .i64 0]), (768, .box [.int .i64 px, .int .i64 py])], 1⟩))
    (fun x => some (.ex .nrm ⟨[], [FR28 l, [(0, .yl 1024000)]], [(1024000, .loop (FR28 l) [12, 13] A33_R0a A33_R0b LSt.ready AEx.nrm), (1280, .box [.bool x]), (1024, .box [.int .i64 0]), (768, .box [.int .i64 px, .int .i64 py])], 1⟩))
    (fun x => by
      rw [eds_len]
      show (K E A89_L0 _).bind _ = _
      rw [A89_L0_eq]; simp +contextual -implicitDefEqProofs (maxSteps := 2000000) only [go_sem, ↓reduceIte, Nat.reduceAdd, Nat.reduceMul, Nat.reduceSub, Nat.reduceEqDiff, Nat.reduceLeDiff, Nat.reduceDiv, Nat.reduceMod, Nat.reduceBEq, Nat.reduceBNe, reduceCtorEq, Int.reduceLE, Int.reduceLT, Int.reduceToNat, Int.reduceNeg, Nat.reduceLT, Int.reduceEq, Int.reduceSub, Int.reduceAdd, Int.reduceMul, Nat.reducePow, Int.reduceBEq, Int.reduceBNe, Int.reduceMod, A89_L0b, Int.lt_irrefl])
    (fun k e x hk he => by
      obtain ⟨hk', g1, g2⟩ := eds_get he
      have g1 := get_c2 g1
      have g2 := get_c2 g2
      obtain ⟨m1, m2, m3, m4, m5⟩ := mod_nat hk' hl
      have hw := wr_k (k := k) (by omega)
      have h1 : (k : Int) < l.length := by omega
      have h0 : (0 : Int) ≤ k := by omega
      obtain ⟨⟨ax, ay⟩, ⟨bx, by_⟩⟩ := e
      have o1 := c61 ax ay bx by_ px py
      have o2 := c62 ax ay bx by_ px py
      refine ⟨fun hp => ⟨k, x, ?_⟩, fun hp => ?_⟩
      · simp only [onE] at hp
        rw [hp] at o1
        show (K E A89_L0 _).bind _ = _
        rw [A89_L0_eq]
        simp +contextual -implicitDefEqProofs (maxSteps := 2000000) only [go_sem, ↓reduceIte, Nat.reduceAdd, Nat.reduceMul, Nat.reduceSub, Nat.reduceEqDiff, Nat.reduceLeDiff, Nat.reduceDiv, Nat.reduceMod, Nat.reduceBEq, Nat.reduceBNe, reduceCtorEq, Int.reduceLE, Int.reduceLT, Int.reduceToNat, Int.reduceNeg, Nat.reduceLT, Int.reduceEq, Int.reduceSub, Int.reduceAdd, Int.reduceMul, Nat.reducePow, Int.reduceBEq, Int.reduceBNe, Int.reduceMod, A89_L0b, A33_R0a, A33_R0b, List.length_map, h0, h1, g1, g2, m1, m2, m3, m4, m5, hw, o1]
      · simp only [onE] at hp
        rw [hp] at o1
        show (K E A89_L0 _).bind _ = (K E A89_L0 _).bind _
        conv => lhs; rw [A89_L0_eq]
        simp only [parF, flE]
        generalize sgn (crW ax ay bx by_ px py) = s at *
        by_cases d1 : py < ay <;> by_cases d2 : py < by_ <;> by_cases d3 : 0 < s <;> by_cases d4 : ay < by_ <;> cases x <;>
          simp +contextual -implicitDefEqProofs (maxSteps := 2000000) only [go_sem, ↓reduceIte, Nat.reduceAdd, Nat.reduceMul, Nat.reduceSub, Nat.reduceEqDiff, Nat.reduceLeDiff, Nat.reduceDiv, Nat.reduceMod, Nat.reduceBEq, Nat.reduceBNe, reduceCtorEq, Int.reduceLE, Int.reduceLT, Int.reduceToNat, Int.reduceNeg, Nat.reduceLT, Int.reduceEq, Int.reduceSub, Int.reduceAdd, Int.reduceMul, Nat.reducePow, Int.reduceBEq, Int.reduceBNe, Int.reduceMod, A89_L0b, A33_R0a, A33_R0b, List.length_map, h0, h1, g1, g2, m1, m2, m3, m4, m5, hw, o1, o2, d1, d2, d3, d4, decide_true, decide_false, bne_self_eq_false, beq_self_eq_true, Bool.and_true, Bool.and_false])
    false
  simp only [Int.natCast_zero, Int.ofNat_zero] at lp
  unfold locI
  cases ha : (eds l).any (onE (px, py)) with
  | true =>
    obtain ⟨k, x, lq⟩ := lp.1 ha
    rw [pc_eq]; simp +contextual -implicitDefEqProofs (maxSteps := 2000000) only [go_sem, ↓reduceIte, Nat.reduceAdd, Nat.reduceMul, Nat.reduceSub, Nat.reduceEqDiff, Nat.reduceLeDiff, Nat.reduceDiv, Nat.reduceMod, Nat.reduceBEq, Nat.reduceBNe, reduceCtorEq, Int.reduceLE, Int.reduceLT, Int.reduceToNat, Int.reduceNeg, Nat.reduceLT, Int.reduceEq, Int.reduceSub, Int.reduceAdd, Int.reduceMul, Nat.reducePow, Int.reduceBEq, Int.reduceBNe, Int.reduceMod, E_33, A33, h57, E_89, A89, A33_R0, List.length_map, lq]
  | false =>
    have lq := lp.2 ha
    cases hb : (eds l).foldl (parF (px, py)) false <;> rw [hb] at lq <;> rw [pc_eq] <;> simp +contextual -implicitDefEqProofs (maxSteps := 2000000) only [go_sem, ↓reduceIte, Nat.reduceAdd, Nat.reduceMul, Nat.reduceSub, Nat.reduceEqDiff, Nat.reduceLeDiff, Nat.reduceDiv, Nat.reduceMod, Nat.reduceBEq, Nat.reduceBNe, reduceCtorEq, Int.reduceLE, Int.reduceLT, Int.reduceToNat, Int.reduceNeg, Nat.reduceLT, Int.reduceEq, Int.reduceSub, Int.reduceAdd, Int.reduceMul, Nat.reducePow, Int.reduceBEq, Int.reduceBNe, Int.reduceMod, E_33, A33, h57, E_89, A89, A33_R0, List.length_map, lq]
abbrev FR67 (l : List Pt) : Env := [(1, .ptr 256 0), (2, .ptr 512 0), (3, .ptr 768 0), (11, .fn (Fn.func 89) [] [.fp [.vs (l.map c2)]])]
abbrev FI67 (l : List Pt) : Env := [(2, .ptr 512 0), (3, .ptr 768 0), (4, .ptr 2098176 0), (5, .ptr 2098432 0), (28, .fn (Fn.func 89) [] [.fp [.vs (l.map c2)]])]
abbrev FF67 (l : List Pt) (k ax ay bx by_ k1 : Int) (k1m : Nat) : List Env := [FI67 l, [(0, .yl 3121153)], [(0, .yl 1024000)], [(23, .agg [.int .i64 ax, .int .i64 ay, .int .i64 bx, .int .i64 by_]), (22, .agg [.int .i64 bx, .int .i64 by_]), (21, .fp [.int .i64 bx, .int .i64 by_]), (20, .int .i64 k1m), (19, .int .i64 l.length), (18, .vs (l.map c2)), (17, .int .i64 k1), (16, .int .i64 k), (15, .vs (l.map c2)), (14, .agg [.int .i64 ax, .int .i64 ay]), (13, .int .i64 k), (12, .yl 1024000), (0, .yl 1024000), (1, .fp [.vs (l.map c2)]), (3, .int .i64 k), (4, .ptr 1049600 0), (5, .vs (l.map c2)), (6, .int .i64 l.length), (7, .int .i64 k)], FR67 l, [(0, .yl 1024000)]]
abbrev OO67 (l : List Pt) (k ax ay bx by_ : Int) (st : LSt) (pe : AEx) : Heap := [(3121153, .loop (FI67 l) [29, 30] A59_R0a A59_R0b st pe), (2098432, .box [.int .i64 ax, .int .i64 ay, .int .i64 bx, .int .i64 by_]), (2098176, .box [.int .i64 k]), (1049600, .box [.int .i64 ax, .int .i64 ay]), (1024000, .loop (FR67 l) [12, 13] A59_R1a A59_R1b LSt.busy AEx.nrm), (768, .box [.int .i64 l.length]), (512, .box [.bool false]), (256, .box [.vs (l.map c2)])]
theorem in67 (l : List Pt) (hl : l.length ≤ 1000000000) (k : Nat) (hk : k < l.length) (ax ay bx by_ : Int) :
    ((List.range l.length).any (fun j => !adjB l.length k j && cutB ax ay bx by_ (edn l j).1.1 (edn l j).1.2 (edn l j).2.1 (edn l j).2.2) = true → ∃ j : Int, (K E A89_L0 ⟨[(0, .yl 3121153), (1, .fp [.vs (l.map c2)]), (5, .vs (l.map c2)), (6, .int .i64 l.length), (7, .int .i64 0)], FF67 l k ax ay bx by_ (k + 1 : Nat) ((k + 1) % l.length), OO67 l k ax ay bx by_ .ready .nrm, 3⟩).bind (blockR 0 (some []) [3, 4, 24]) =
      some (.ex .ret ⟨[(0, .yl 3121153), (1, .fp [.vs (l.map c2)]), (5, .vs (l.map c2)), (6, .int .i64 l.length), (7, .int .i64 j), (25, .bool true)], FF67 l k ax ay bx by_ (k + 1 : Nat) ((k + 1) % l.length), OO67 l k ax ay bx by_ .done .ret, 3⟩)) ∧
    ((List.range l.length).any (fun j => !adjB l.length k j && cutB ax ay bx by_ (edn l j).1.1 (edn l j).1.2 (edn l j).2.1 (edn l j).2.2) = false → (K E A89_L0 ⟨[(0, .yl 3121153), (1, .fp [.vs (l.map c2)]), (5, .vs (l.map c2)), (6, .int .i64 l.length), (7, .int .i64 0)], FF67 l k ax ay bx by_ (k + 1 : Nat) ((k + 1) % l.length), OO67 l k ax ay bx by_ .ready .nrm, 3⟩).bind (blockR 0 (some []) [3, 4, 24]) =
      some (.ex .nrm ⟨[], FF67 l k ax ay bx by_ (k + 1 : Nat) ((k + 1) % l.length), OO67 l k ax ay bx by_ .ready .nrm, 3⟩)) := by
  have lp := loop_leave (σ := Unit) (fun S => (K E A89_L0 S).bind (blockR 0 (some []) [3, 4, 24]))
    (fun j _ => ⟨[(0, .yl 3121153), (1, .fp [.vs (l.map c2)]), (5, .vs (l.map c2)), (6, .int .i64 l.length), (7, .int .i64 j)], FF67 l k ax ay bx by_ (k + 1 : Nat) ((k + 1) % l.length), OO67 l k ax ay bx by_ .ready .nrm, 3⟩)
    (List.range l.length) (fun _ _ => ()) (fun j => !adjB l.length k j && cutB ax ay bx by_ (edn l j).1.1 (edn l j).1.2 (edn l j).2.1 (edn l j).2.2)
    (fun o => ∃ j : Int, o = some (.ex .ret ⟨[(0, .yl 3121153), (1, .fp [.vs (l.map c2)]), (5, .vs (l.map c2)), (6, .int .i64 l.length), (7, .int .i64 j), (25, .bool true)], FF67 l k ax ay bx by_ (k + 1 : Nat) ((k + 1) % l.length), OO67 l k ax ay bx by_ .done .ret, 3⟩))
    (fun _ => some (.ex .nrm ⟨[], FF67 l k ax ay bx by_ (k + 1 : Nat) ((k + 1) % l.length), OO67 l k ax ay bx by_ .ready .nrm, 3⟩))
    (fun x => by
      rw [List.length_range]
      show (K E A89_L0 _).bind _ = _
      rw [A89_L0_eq]; simp +contextual -implicitDefEqProofs (maxSteps := 2000000) only [go_sem, ↓reduceIte, Nat.reduceAdd, Nat.reduceMul, Nat.reduceSub, Nat.reduceEqDiff, Nat.reduceLeDiff, Nat.reduceDiv, Nat.reduceMod, Nat.reduceBEq, Nat.reduceBNe, reduceCtorEq, Int.reduceLE, Int.reduceLT, Int.reduceToNat, Int.reduceNeg, Nat.reduceLT, Int.reduceEq, Int.reduceSub, Int.reduceAdd, Int.reduceMul, Nat.reducePow, Int.reduceBEq, Int.reduceBNe, Int.reduceMod, A89_L0b, Int.lt_irrefl])
    (fun j j' x hj he => by
      rw [List.length_range] at hj
      rw [range_get hj] at he
      cases he
      obtain ⟨_, g1, g2⟩ := eds_get (edn_get hj)
      have g1 := get_c2 g1
      have g2 := get_c2 g2
      obtain ⟨m1, m2, m3, m4, m5⟩ := mod_nat hj hl
      obtain ⟨n1, _, _, n4, n5⟩ := mod_nat hk hl
      have hw := wr_k (k := j) (by omega)
      have hw2 := wr_k (k := k) (by omega)
      have h1 : (j : Int) < l.length := by omega
      have h0 : (0 : Int) ≤ j := by omega
      have a1 : ((j : Int) == (k : Int)) = decide (j = k) := by rw [Bool.eq_iff_iff]; simp only [beq_iff_eq, decide_eq_true_eq]; omega
      have a2 : ((j : Int) == (((k + 1) % l.length : Nat) : Int)) = decide (j = (k + 1) % l.length) := by rw [Bool.eq_iff_iff]; simp only [beq_iff_eq, decide_eq_true_eq]; omega
      have a3 : ((k : Int) == (((j + 1) % l.length : Nat) : Int)) = decide (k = (j + 1) % l.length) := by rw [Bool.eq_iff_iff]; simp only [beq_iff_eq, decide_eq_true_eq]; omega
      generalize edn l j = e at *
      obtain ⟨⟨cx, cy⟩, ⟨dx, dy⟩⟩ := e
      have o1 := c88 ax ay bx by_ cx cy dx dy
      simp only [adjB] at *
      generalize ((k + 1) % l.length) = k1 at *
      generalize ((j + 1) % l.length) = j1 at *
      refine ⟨fun hp => ⟨j, ?_⟩, fun hp => ?_⟩
      · simp only [Bool.and_eq_true, Bool.not_eq_true', Bool.or_eq_false_iff, decide_eq_false_iff_not] at hp
        obtain ⟨⟨d1, d2, d3⟩, hc⟩ := hp
        rw [hc] at o1
        show (K E A89_L0 _).bind _ = _
        rw [A89_L0_eq]
        simp +contextual -implicitDefEqProofs (maxSteps := 2000000) only [go_sem, ↓reduceIte, Nat.reduceAdd, Nat.reduceMul, Nat.reduceSub, Nat.reduceEqDiff, Nat.reduceLeDiff, Nat.reduceDiv, Nat.reduceMod, Nat.reduceBEq, Nat.reduceBNe, reduceCtorEq, Int.reduceLE, Int.reduceLT, Int.reduceToNat, Int.reduceNeg, Nat.reduceLT, Int.reduceEq, Int.reduceSub, Int.reduceAdd, Int.reduceMul, Nat.reducePow, Int.reduceBEq, Int.reduceBNe, Int.reduceMod, OO67, FF67, FI67, FR67, A89_L0b, A59_R0a, A59_R0b, List.length_map, h0, h1, g1, g2, m1, m2, m3, m4, m5, n1, n4, n5, hw, hw2, a1, a2, a3, d1, d2, d3, decide_false, o1]
      · show (K E A89_L0 _).bind _ = (K E A89_L0 _).bind _
        conv => lhs; rw [A89_L0_eq]
        by_cases d1 : j = k
        · have e1 := decide_eq_true d1
          simp +contextual -implicitDefEqProofs (maxSteps := 2000000) only [go_sem, ↓reduceIte, Nat.reduceAdd, Nat.reduceMul, Nat.reduceSub, Nat.reduceEqDiff, Nat.reduceLeDiff, Nat.reduceDiv, Nat.reduceMod, Nat.reduceBEq, Nat.reduceBNe, reduceCtorEq, Int.reduceLE, Int.reduceLT, Int.reduceToNat, Int.reduceNeg, Nat.reduceLT, Int.reduceEq, Int.reduceSub, Int.reduceAdd, Int.reduceMul, Nat.reducePow, Int.reduceBEq, Int.reduceBNe, Int.reduceMod, OO67, FF67, FI67, FR67, A89_L0b, A59_R0a, A59_R0b, List.length_map, h0, h1, g1, g2, m1, m2, m3, m4, m5, n1, n4, n5, hw, hw2, a1, a2, a3, e1]
        · by_cases d2 : j = k1
          · have e1 := decide_eq_false d1
            have e2 := decide_eq_true d2
            simp +contextual -implicitDefEqProofs (maxSteps := 2000000) only [go_sem, ↓reduceIte, Nat.reduceAdd, Nat.reduceMul, Nat.reduceSub, Nat.reduceEqDiff, Nat.reduceLeDiff, Nat.reduceDiv, Nat.reduceMod, Nat.reduceBEq, Nat.reduceBNe, reduceCtorEq, Int.reduceLE, Int.reduceLT, Int.reduceToNat, Int.reduceNeg, Nat.reduceLT, Int.reduceEq, Int.reduceSub, Int.reduceAdd, Int.reduceMul, Nat.reducePow, Int.reduceBEq, Int.reduceBNe, Int.reduceMod, OO67, FF67, FI67, FR67, A89_L0b, A59_R0a, A59_R0b, List.length_map, h0, h1, g1, g2, m1, m2, m3, m4, m5, n1, n4, n5, hw, hw2, a1, a2, a3, e1, e2]
          · by_cases d3 : k = j1
            · have e1 := decide_eq_false d1
              have e2 := decide_eq_false d2
              have e3 := decide_eq_true d3
              simp +contextual -implicitDefEqProofs (maxSteps := 2000000) only [go_sem, ↓reduceIte, Nat.reduceAdd, Nat.reduceMul, Nat.reduceSub, Nat.reduceEqDiff, Nat.reduceLeDiff, Nat.reduceDiv, Nat.reduceMod, Nat.reduceBEq, Nat.reduceBNe, reduceCtorEq, Int.reduceLE, Int.reduceLT, Int.reduceToNat, Int.reduceNeg, Nat.reduceLT, Int.reduceEq, Int.reduceSub, Int.reduceAdd, Int.reduceMul, Nat.reducePow, Int.reduceBEq, Int.reduceBNe, Int.reduceMod, OO67, FF67, FI67, FR67, A89_L0b, A59_R0a, A59_R0b, List.length_map, h0, h1, g1, g2, m1, m2, m3, m4, m5, n1, n4, n5, hw, hw2, a1, a2, a3, e1, e2, e3]
            · simp only [d1, d2, d3, decide_false, Bool.or_false, Bool.not_false, Bool.true_and] at hp
              rw [hp] at o1
              simp +contextual -implicitDefEqProofs (maxSteps := 2000000) only [go_sem, ↓reduceIte, Nat.reduceAdd, Nat.reduceMul, Nat.reduceSub, Nat.reduceEqDiff, Nat.reduceLeDiff, Nat.reduceDiv, Nat.reduceMod, Nat.reduceBEq, Nat.reduceBNe, reduceCtorEq, Int.reduceLE, Int.reduceLT, Int.reduceToNat, Int.reduceNeg, Nat.reduceLT, Int.reduceEq, Int.reduceSub, Int.reduceAdd, Int.reduceMul, Nat.reducePow, Int.reduceBEq, Int.reduceBNe, Int.reduceMod, OO67, FF67, FI67, FR67, A89_L0b, A59_R0a, A59_R0b, List.length_map, h0, h1, g1, g2, m1, m2, m3, m4, m5, n1, n4, n5, hw, hw2, a1, a2, a3, d1, d2, d3, decide_false, o1])
    ()
  simp only [Int.natCast_zero, Int.ofNat_zero] at lp
  exact lp
theorem wr_2 {k : Nat} (h : k ≤ 1000000000) : IntKind.i64.wrap (((k : Nat) : Int) + 2) = ((k + 2 : Nat) : Int) := by rw [wrap_small (by omega) (by omega)]; omega
theorem mod2_nat {k n : Nat} (hk : k < n) (hn : n ≤ 1000000000) : (((k + 2 : Nat) : Int)).tmod (n : Int) = (((k + 2) % n : Nat) : Int) ∧ (0 : Int) ≤ (((k + 2) % n : Nat) : Int) ∧ (((k + 2) % n : Nat) : Int) < n := by
  have h := Nat.mod_lt (k + 2) (show n > 0 by omega)
  refine ⟨?_, by omega, by omega⟩
  rw [Int.tmod_eq_emod_of_nonneg (by omega)]; rfl
theorem c59 (l : List Pt) (hl : l.length ≤ 1000000000) : pc E 59 [.vs (l.map c2)] = some (.bool (simB l)) := by
  have h57 := c60' l
  have lp := loop_leave (σ := Unit) (fun S => (K E A89_L0 S).bind (blockR 0 (some []) [3, 4, 24]))
    (fun k _ => ⟨[(0, .yl 1024000), (1, .fp [.vs (l.map c2)]), (5, .vs (l.map c2)), (6, .int .i64 l.length), (7, .int .i64 k)], [FR67 l, [(0, .yl 1024000)]], [(1024000, .loop (FR67 l) [12, 13] A59_R1a A59_R1b LSt.ready AEx.nrm), (768, .box [.int .i64 l.length]), (512, .box [.bool false]), (256, .box [.vs (l.map c2)])], 1⟩)
    (List.range l.length) (fun _ _ => ()) (bad1 l)
    (fun o => ∃ k : Int, o = some (.ex .ret ⟨[(0, .yl 1024000), (1, .fp [.vs (l.map c2)]), (5, .vs (l.map c2)), (6, .int .i64 l.length), (7, .int .i64 k), (25, .bool true)], [FR67 l, [(0, .yl 1024000)]], [(1024000, .loop (FR67 l) [12, 13] A59_R1a A59_R1b LSt.done AEx.ret), (768, .box [.int .i64 l.length]), (512, .box [.bool false]), (256, .box [.vs (l.map c2)])], 1⟩))
    (fun _ => some (.ex .nrm ⟨[], [FR67 l, [(0, .yl 1024000)]], [(1024000, .loop (FR67 l) [12, 13] A59_R1a A59_R1b LSt.ready AEx.nrm), (768, .box [.int .i64 l.length]), (512, .box [.bool false]), (256, .box [.vs (l.map c2)])], 1⟩))
    (fun x => by
      rw [List.length_range]
      show (K E A89_L0 _).bind _ = _
      rw [A89_L0_eq]; simp +contextual -implicitDefEqProofs (maxSteps := 2000000) only [go_sem, ↓reduceIte, Nat.reduceAdd, Nat.reduceMul, Nat.reduceSub, Nat.reduceEqDiff, Nat.reduceLeDiff, Nat.reduceDiv, Nat.reduceMod, Nat.reduceBEq, Nat.reduceBNe, reduceCtorEq, Int.reduceLE, Int.reduceLT, Int.reduceToNat, Int.reduceNeg, Nat.reduceLT, Int.reduceEq, Int.reduceSub, Int.reduceAdd, Int.reduceMul, Nat.reducePow, Int.reduceBEq, Int.reduceBNe, Int.reduceMod, A89_L0b, Int.lt_irrefl])
    (fun k j' x hk he => by
      rw [List.length_range] at hk
      rw [range_get hk] at he
      cases he
      obtain ⟨_, g1, g2⟩ := eds_get (edn_get hk)
      have g3 := ptn_mod (l := l) (k := k + 2) (by omega)
      have g1 := get_c2 g1
      have g2 := get_c2 g2
      have g3 := get_c2 g3
      obtain ⟨m1, m2, m3, m4, m5⟩ := mod_nat hk hl
      obtain ⟨n1, n4, n5⟩ := mod2_nat hk hl
      have hw := wr_k (k := k) (by omega)
      have hw2 := wr_2 (k := k) (by omega)
      have h1 : (k : Int) < l.length := by omega
      have h0 : (0 : Int) ≤ k := by omega
      have o1 := c62 (edn l k).1.1 (edn l k).1.2 (edn l k).2.1 (edn l k).2.2 (ptn l (k + 2)).1 (ptn l (k + 2)).2
      have q := in67 l hl k hk (edn l k).1.1 (edn l k).1.2 (edn l k).2.1 (edn l k).2.2
      have hb : bad1 l k = (decide (sgn (crW (edn l k).1.1 (edn l k).1.2 (edn l k).2.1 (edn l k).2.2 (ptn l (k + 2)).1 (ptn l (k + 2)).2) = 0) || (List.range l.length).any (fun j => !adjB l.length k j && cutB (edn l k).1.1 (edn l k).1.2 (edn l k).2.1 (edn l k).2.2 (edn l j).1.1 (edn l j).1.2 (edn l j).2.1 (edn l j).2.2)) := rfl
      rw [hb]
      generalize (List.range l.length).any (fun j => !adjB l.length k j && cutB (edn l k).1.1 (edn l k).1.2 (edn l k).2.1 (edn l k).2.2 (edn l j).1.1 (edn l j).1.2 (edn l j).2.1 (edn l j).2.2) = b2 at *
      generalize sgn (crW (edn l k).1.1 (edn l k).1.2 (edn l k).2.1 (edn l k).2.2 (ptn l (k + 2)).1 (ptn l (k + 2)).2) = s at *
      generalize edn l k = e at *
      generalize ptn l (k + 2) = c at *
      obtain ⟨⟨ax, ay⟩, ⟨bx, by_⟩⟩ := e
      obtain ⟨cx, cy⟩ := c
      simp only at g1 g2 g3 o1 q
      by_cases hs : s = 0
      · subst hs
        refine ⟨fun _ => ⟨k, ?_⟩, fun h => by simp at h⟩
        show (K E A89_L0 _).bind _ = _
        rw [A89_L0_eq]
        simp +contextual -implicitDefEqProofs (maxSteps := 2000000) only [go_sem, ↓reduceIte, Nat.reduceAdd, Nat.reduceMul, Nat.reduceSub, Nat.reduceEqDiff, Nat.reduceLeDiff, Nat.reduceDiv, Nat.reduceMod, Nat.reduceBEq, Nat.reduceBNe, reduceCtorEq, Int.reduceLE, Int.reduceLT, Int.reduceToNat, Int.reduceNeg, Nat.reduceLT, Int.reduceEq, Int.reduceSub, Int.reduceAdd, Int.reduceMul, Nat.reducePow, Int.reduceBEq, Int.reduceBNe, Int.reduceMod, FR67, A89_L0b, A59_R1a, A59_R1b, List.length_map, h0, h1, g1, g2, g3, m1, m2, m3, m4, m5, n1, n4, n5, hw, hw2, o1, beq_self_eq_true]
      · have hs' : (s == 0) = false := by simpa using hs
        cases b2 with
        | true =>
          refine ⟨fun _ => ⟨k, ?_⟩, fun h => by simp at h⟩
          obtain ⟨j, q⟩ := q.1 rfl
          simp only [OO67, FF67, FI67, FR67, A59_R0, A59_R0a, A59_R0b, A59_R1a, A59_R1b] at q
          show (K E A89_L0 _).bind _ = _
          rw [A89_L0_eq]
          simp +contextual -implicitDefEqProofs (maxSteps := 2000000) only [go_sem, ↓reduceIte, Nat.reduceAdd, Nat.reduceMul, Nat.reduceSub, Nat.reduceEqDiff, Nat.reduceLeDiff, Nat.reduceDiv, Nat.reduceMod, Nat.reduceBEq, Nat.reduceBNe, reduceCtorEq, Int.reduceLE, Int.reduceLT, Int.reduceToNat, Int.reduceNeg, Nat.reduceLT, Int.reduceEq, Int.reduceSub, Int.reduceAdd, Int.reduceMul, Nat.reducePow, Int.reduceBEq, Int.reduceBNe, Int.reduceMod, FR67, A89_L0b, A59_R0a, A59_R0b, A59_R1a, A59_R1b, List.length_map, h0, h1, g1, g2, g3, m1, m2, m3, m4, m5, n1, n4, n5, hw, hw2, o1, hs, hs', h57, E_89, A89, A59_R0, q]
        | false =>
          refine ⟨fun h => by simp [hs] at h, fun _ => ?_⟩
          have q := q.2 rfl
          simp only [OO67, FF67, FI67, FR67, A59_R0, A59_R0a, A59_R0b, A59_R1a, A59_R1b] at q
          show (K E A89_L0 _).bind _ = (K E A89_L0 _).bind _
          conv => lhs; rw [A89_L0_eq]
          simp +contextual -implicitDefEqProofs (maxSteps := 2000000) only [go_sem, ↓reduceIte, Nat.reduceAdd, Nat.reduceMul, Nat.reduceSub, Nat.reduceEqDiff, Nat.reduceLeDiff, Nat.reduceDiv, Nat.reduceMod, Nat.reduceBEq, Nat.reduceBNe, reduceCtorEq, Int.reduceLE, Int.reduceLT, Int.reduceToNat, Int.reduceNeg, Nat.reduceLT, Int.reduceEq, Int.reduceSub, Int.reduceAdd, Int.reduceMul, Nat.reducePow, Int.reduceBEq, Int.reduceBNe, Int.reduceMod, FR67, A89_L0b, A59_R0a, A59_R0b, A59_R1a, A59_R1b, List.length_map, h0, h1, g1, g2, g3, m1, m2, m3, m4, m5, n1, n4, n5, hw, hw2, o1, hs, hs', h57, E_89, A89, A59_R0, q])
    ()
  simp only [Int.natCast_zero, Int.ofNat_zero] at lp
  unfold simB
  cases ha : (List.range l.length).any (bad1 l) with
  | true =>
    obtain ⟨k, lq⟩ := lp.1 ha
    rw [pc_eq]; simp +contextual -implicitDefEqProofs (maxSteps := 2000000) only [go_sem, ↓reduceIte, Nat.reduceAdd, Nat.reduceMul, Nat.reduceSub, Nat.reduceEqDiff, Nat.reduceLeDiff, Nat.reduceDiv, Nat.reduceMod, Nat.reduceBEq, Nat.reduceBNe, reduceCtorEq, Int.reduceLE, Int.reduceLT, Int.reduceToNat, Int.reduceNeg, Nat.reduceLT, Int.reduceEq, Int.reduceSub, Int.reduceAdd, Int.reduceMul, Nat.reducePow, Int.reduceBEq, Int.reduceBNe, Int.reduceMod, E_59, A59, h57, E_89, A89, A59_R1, List.length_map, lq]
  | false =>
    have lq := lp.2 ha
    rw [pc_eq]; simp +contextual -implicitDefEqProofs (maxSteps := 2000000) only [go_sem, ↓reduceIte, Nat.reduceAdd, Nat.reduceMul, Nat.reduceSub, Nat.reduceEqDiff, Nat.reduceLeDiff, Nat.reduceDiv, Nat.reduceMod, Nat.reduceBEq, Nat.reduceBNe, reduceCtorEq, Int.reduceLE, Int.reduceLT, Int.reduceToNat, Int.reduceNeg, Nat.reduceLT, Int.reduceEq, Int.reduceSub, Int.reduceAdd, Int.reduceMul, Nat.reducePow, Int.reduceBEq, Int.reduceBNe, Int.reduceMod, E_59, A59, h57, E_89, A89, A59_R1, List.length_map, lq]
theorem c58 (x y : Int) : pc E 58 [.agg [.int .i64 x, .int .i64 y]] = some (.bool (mayB (x, y))) := by
  have hv : mayB (x, y) = (decide (mxI x y ≤ 439400000) && decide (-439400000 ≤ mnI x y)) := rfl
  rw [hv]
  by_cases h1 : mxI x y ≤ 439400000
  · by_cases h2 : -439400000 ≤ mnI x y <;> rw [pc_eq] <;> simp +contextual -implicitDefEqProofs (maxSteps := 2000000) only [go_sem, ↓reduceIte, Nat.reduceAdd, Nat.reduceMul, Nat.reduceSub, Nat.reduceEqDiff, Nat.reduceLeDiff, Nat.reduceDiv, Nat.reduceMod, Nat.reduceBEq, Nat.reduceBNe, reduceCtorEq, Int.reduceLE, Int.reduceLT, Int.reduceToNat, Int.reduceNeg, Nat.reduceLT, Int.reduceEq, Int.reduceSub, Int.reduceAdd, Int.reduceMul, Nat.reducePow, Int.reduceBEq, Int.reduceBNe, Int.reduceMod, E_58, A58, h1, h2, decide_true, decide_false]
  · rw [pc_eq]; simp +contextual -implicitDefEqProofs (maxSteps := 2000000) only [go_sem, ↓reduceIte, Nat.reduceAdd, Nat.reduceMul, Nat.reduceSub, Nat.reduceEqDiff, Nat.reduceLeDiff, Nat.reduceDiv, Nat.reduceMod, Nat.reduceBEq, Nat.reduceBNe, reduceCtorEq, Int.reduceLE, Int.reduceLT, Int.reduceToNat, Int.reduceNeg, Nat.reduceLT, Int.reduceEq, Int.reduceSub, Int.reduceAdd, Int.reduceMul, Nat.reducePow, Int.reduceBEq, Int.reduceBNe, Int.reduceMod, E_58, A58, h1, decide_true, decide_false]
theorem c57 (x y : Int) : pc E 57 [.agg [.int .i64 x, .int .i64 y]] = some (.bool (!mayB (x, y))) := by
  have h := c58 x y
  rw [pc_eq]; simp +contextual -implicitDefEqProofs (maxSteps := 2000000) only [go_sem, ↓reduceIte, Nat.reduceAdd, Nat.reduceMul, Nat.reduceSub, Nat.reduceEqDiff, Nat.reduceLeDiff, Nat.reduceDiv, Nat.reduceMod, Nat.reduceBEq, Nat.reduceBNe, reduceCtorEq, Int.reduceLE, Int.reduceLT, Int.reduceToNat, Int.reduceNeg, Nat.reduceLT, Int.reduceEq, Int.reduceSub, Int.reduceAdd, Int.reduceMul, Nat.reducePow, Int.reduceBEq, Int.reduceBNe, Int.reduceMod, E_57, A57, h]
theorem c87 (l : List Pt) (hl : l.length ≤ 1000000000) (f : FuncId) (P : Pt → Bool) (hf : ∀ p : Pt, pc E f [.agg [.int .i64 p.1, .int .i64 p.2]] = some (.bool (P p))) :
    ∃ i : Int, pc E 87 [.vs (l.map c2), .fn (.func f) [] []] = some (.int .i64 i) ∧ decide (0 ≤ i) = l.any P := by
  have lp := loop_leave (σ := Unit) (fun S => (K E A87_L0 S).bind (blockR 0 (some []) [4, 5, 16]))
    (fun k _ => ⟨[(0, .vs (l.map c2)), (1, .fn (.func f) [] []), (7, .int .i64 l.length), (8, .int .i64 k)], [], [], 0⟩)
    l (fun _ _ => ()) P (fun o => ∃ k : Nat, o = some (.ex .ret ⟨[(4, .int .i64 k)], [], [], 0⟩))
    (fun _ => some (.ex .nrm ⟨[], [], [], 0⟩))
    (fun x => by
      show (K E A87_L0 _).bind _ = _
      rw [A87_L0_eq]; simp +contextual -implicitDefEqProofs (maxSteps := 2000000) only [go_sem, ↓reduceIte, Nat.reduceAdd, Nat.reduceMul, Nat.reduceSub, Nat.reduceEqDiff, Nat.reduceLeDiff, Nat.reduceDiv, Nat.reduceMod, Nat.reduceBEq, Nat.reduceBNe, reduceCtorEq, Int.reduceLE, Int.reduceLT, Int.reduceToNat, Int.reduceNeg, Nat.reduceLT, Int.reduceEq, Int.reduceSub, Int.reduceAdd, Int.reduceMul, Nat.reducePow, Int.reduceBEq, Int.reduceBNe, Int.reduceMod, A87_L0b, Int.lt_irrefl])
    (fun k p x hk hp => by
      have g1 := get_c2 hp
      have h1 : (k : Int) < l.length := by omega
      have h0 : (0 : Int) ≤ k := by omega
      have hw := wr_k (k := k) (by omega)
      have hq := hf p
      obtain ⟨px, py⟩ := p
      simp only at hq
      refine ⟨fun h => ⟨k, ?_⟩, fun h => ?_⟩
      · rw [h] at hq
        show (K E A87_L0 _).bind _ = _
        rw [A87_L0_eq]
        simp +contextual -implicitDefEqProofs (maxSteps := 2000000) only [go_sem, ↓reduceIte, Nat.reduceAdd, Nat.reduceMul, Nat.reduceSub, Nat.reduceEqDiff, Nat.reduceLeDiff, Nat.reduceDiv, Nat.reduceMod, Nat.reduceBEq, Nat.reduceBNe, reduceCtorEq, Int.reduceLE, Int.reduceLT, Int.reduceToNat, Int.reduceNeg, Nat.reduceLT, Int.reduceEq, Int.reduceSub, Int.reduceAdd, Int.reduceMul, Nat.reducePow, Int.reduceBEq, Int.reduceBNe, Int.reduceMod, A87_L0b, List.length_map, h0, h1, g1, hw, hq]
      · rw [h] at hq
        show (K E A87_L0 _).bind _ = (K E A87_L0 _).bind _
        conv => lhs; rw [A87_L0_eq]
        simp +contextual -implicitDefEqProofs (maxSteps := 2000000) only [go_sem, ↓reduceIte, Nat.reduceAdd, Nat.reduceMul, Nat.reduceSub, Nat.reduceEqDiff, Nat.reduceLeDiff, Nat.reduceDiv, Nat.reduceMod, Nat.reduceBEq, Nat.reduceBNe, reduceCtorEq, Int.reduceLE, Int.reduceLT, Int.reduceToNat, Int.reduceNeg, Nat.reduceLT, Int.reduceEq, Int.reduceSub, Int.reduceAdd, Int.reduceMul, Nat.reducePow, Int.reduceBEq, Int.reduceBNe, Int.reduceMod, A87_L0b, List.length_map, h0, h1, g1, hw, hq])
    ()
  simp only [Int.natCast_zero, Int.ofNat_zero] at lp
  cases ha : l.any P with
  | true =>
    obtain ⟨k, lq⟩ := lp.1 ha
    refine ⟨k, ?_, by simp⟩
    rw [pc_eq]; simp +contextual -implicitDefEqProofs (maxSteps := 2000000) only [go_sem, ↓reduceIte, Nat.reduceAdd, Nat.reduceMul, Nat.reduceSub, Nat.reduceEqDiff, Nat.reduceLeDiff, Nat.reduceDiv, Nat.reduceMod, Nat.reduceBEq, Nat.reduceBNe, reduceCtorEq, Int.reduceLE, Int.reduceLT, Int.reduceToNat, Int.reduceNeg, Nat.reduceLT, Int.reduceEq, Int.reduceSub, Int.reduceAdd, Int.reduceMul, Nat.reducePow, Int.reduceBEq, Int.reduceBNe, Int.reduceMod, E_87, A87, List.length_map, lq]
  | false =>
    have lq := lp.2 ha
    refine ⟨-1, ?_, by simp⟩
    rw [pc_eq]; simp +contextual -implicitDefEqProofs (maxSteps := 2000000) only [go_sem, ↓reduceIte, Nat.reduceAdd, Nat.reduceMul, Nat.reduceSub, Nat.reduceEqDiff, Nat.reduceLeDiff, Nat.reduceDiv, Nat.reduceMod, Nat.reduceBEq, Nat.reduceBNe, reduceCtorEq, Int.reduceLE, Int.reduceLT, Int.reduceToNat, Int.reduceNeg, Nat.reduceLT, Int.reduceEq, Int.reduceSub, Int.reduceAdd, Int.reduceMul, Nat.reducePow, Int.reduceBEq, Int.reduceBNe, Int.reduceMod, E_87, A87, List.length_map, lq]
theorem c56 (l : List Pt) (hl : l.length ≤ 1000000000) (f : FuncId) (P : Pt → Bool) (hf : ∀ p : Pt, pc E f [.agg [.int .i64 p.1, .int .i64 p.2]] = some (.bool (P p))) :
    pc E 56 [.vs (l.map c2), .fn (.func f) [] []] = some (.bool (l.any P)) := by
  obtain ⟨i, h, hi⟩ := c87 l hl f P hf
  rw [← hi]
  rw [pc_eq]; simp +contextual -implicitDefEqProofs (maxSteps := 2000000) only [go_sem, ↓reduceIte, Nat.reduceAdd, Nat.reduceMul, Nat.reduceSub, Nat.reduceEqDiff, Nat.reduceLeDiff, Nat.reduceDiv, Nat.reduceMod, Nat.reduceBEq, Nat.reduceBNe, reduceCtorEq, Int.reduceLE, Int.reduceLT, Int.reduceToNat, Int.reduceNeg, Nat.reduceLT, Int.reduceEq, Int.reduceSub, Int.reduceAdd, Int.reduceMul, Nat.reducePow, Int.reduceBEq, Int.reduceBNe, Int.reduceMod, E_56, A56, h]
theorem c31 (l : List Pt) (hl : l.length ≤ 1000000000) : pc E 31 [.vs (l.map c2)] = some (.bool (valB l)) := by
  have h1 := c56 l hl 57 (fun p => !mayB p) (fun p => c57 p.1 p.2)
  have h2 := c59 l hl
  have h3 := c32 l hl
  have e : (l.any fun p => !mayB p) = !l.all mayB := by rw [List.all_eq_not_any_not]; simp
  rw [e] at h1
  have hv : valB l = (decide (3 ≤ l.length) && (decide (l.length ≤ 12) && (l.all mayB && (simB l && decide (0 < areaW l))))) := rfl
  rw [hv]
  by_cases k1 : (l.length : Int) < 3
  · have k1' : ¬ 3 ≤ l.length := by omega
    rw [pc_eq]; simp +contextual -implicitDefEqProofs (maxSteps := 2000000) only [go_sem, ↓reduceIte, Nat.reduceAdd, Nat.reduceMul, Nat.reduceSub, Nat.reduceEqDiff, Nat.reduceLeDiff, Nat.reduceDiv, Nat.reduceMod, Nat.reduceBEq, Nat.reduceBNe, reduceCtorEq, Int.reduceLE, Int.reduceLT, Int.reduceToNat, Int.reduceNeg, Nat.reduceLT, Int.reduceEq, Int.reduceSub, Int.reduceAdd, Int.reduceMul, Nat.reducePow, Int.reduceBEq, Int.reduceBNe, Int.reduceMod, E_31, A31, List.length_map, k1, k1', decide_true, decide_false]
  · have k1' : 3 ≤ l.length := by omega
    by_cases k2 : (12 : Int) < l.length
    · have k2' : ¬ l.length ≤ 12 := by omega
      rw [pc_eq]; simp +contextual -implicitDefEqProofs (maxSteps := 2000000) only [go_sem, ↓reduceIte, Nat.reduceAdd, Nat.reduceMul, Nat.reduceSub, Nat.reduceEqDiff, Nat.reduceLeDiff, Nat.reduceDiv, Nat.reduceMod, Nat.reduceBEq, Nat.reduceBNe, reduceCtorEq, Int.reduceLE, Int.reduceLT, Int.reduceToNat, Int.reduceNeg, Nat.reduceLT, Int.reduceEq, Int.reduceSub, Int.reduceAdd, Int.reduceMul, Nat.reducePow, Int.reduceBEq, Int.reduceBNe, Int.reduceMod, E_31, A31, List.length_map, k1, k1', k2, k2', decide_true, decide_false]
    · have k2' : l.length ≤ 12 := by omega
      cases ha : l.all mayB <;> rw [ha] at h1 <;> simp only [Bool.not_true, Bool.not_false] at h1
      · rw [pc_eq]; simp +contextual -implicitDefEqProofs (maxSteps := 2000000) only [go_sem, ↓reduceIte, Nat.reduceAdd, Nat.reduceMul, Nat.reduceSub, Nat.reduceEqDiff, Nat.reduceLeDiff, Nat.reduceDiv, Nat.reduceMod, Nat.reduceBEq, Nat.reduceBNe, reduceCtorEq, Int.reduceLE, Int.reduceLT, Int.reduceToNat, Int.reduceNeg, Nat.reduceLT, Int.reduceEq, Int.reduceSub, Int.reduceAdd, Int.reduceMul, Nat.reducePow, Int.reduceBEq, Int.reduceBNe, Int.reduceMod, E_31, A31, List.length_map, k1, k1', k2, k2', h1, decide_true, decide_false]
      · cases hs : simB l <;> rw [hs] at h2
        · rw [pc_eq]; simp +contextual -implicitDefEqProofs (maxSteps := 2000000) only [go_sem, ↓reduceIte, Nat.reduceAdd, Nat.reduceMul, Nat.reduceSub, Nat.reduceEqDiff, Nat.reduceLeDiff, Nat.reduceDiv, Nat.reduceMod, Nat.reduceBEq, Nat.reduceBNe, reduceCtorEq, Int.reduceLE, Int.reduceLT, Int.reduceToNat, Int.reduceNeg, Nat.reduceLT, Int.reduceEq, Int.reduceSub, Int.reduceAdd, Int.reduceMul, Nat.reducePow, Int.reduceBEq, Int.reduceBNe, Int.reduceMod, E_31, A31, List.length_map, k1, k1', k2, k2', h1, h2, decide_true, decide_false]
        · by_cases k3 : 0 < areaW l
          · rw [pc_eq]; simp +contextual -implicitDefEqProofs (maxSteps := 2000000) only [go_sem, ↓reduceIte, Nat.reduceAdd, Nat.reduceMul, Nat.reduceSub, Nat.reduceEqDiff, Nat.reduceLeDiff, Nat.reduceDiv, Nat.reduceMod, Nat.reduceBEq, Nat.reduceBNe, reduceCtorEq, Int.reduceLE, Int.reduceLT, Int.reduceToNat, Int.reduceNeg, Nat.reduceLT, Int.reduceEq, Int.reduceSub, Int.reduceAdd, Int.reduceMul, Nat.reducePow, Int.reduceBEq, Int.reduceBNe, Int.reduceMod, E_31, A31, List.length_map, k1, k1', k2, k2', h1, h2, h3, k3, decide_true, decide_false]
          · rw [pc_eq]; simp +contextual -implicitDefEqProofs (maxSteps := 2000000) only [go_sem, ↓reduceIte, Nat.reduceAdd, Nat.reduceMul, Nat.reduceSub, Nat.reduceEqDiff, Nat.reduceLeDiff, Nat.reduceDiv, Nat.reduceMod, Nat.reduceBEq, Nat.reduceBNe, reduceCtorEq, Int.reduceLE, Int.reduceLT, Int.reduceToNat, Int.reduceNeg, Nat.reduceLT, Int.reduceEq, Int.reduceSub, Int.reduceAdd, Int.reduceMul, Nat.reducePow, Int.reduceBEq, Int.reduceBNe, Int.reduceMod, E_31, A31, List.length_map, k1, k1', k2, k2', h1, h2, h3, k3, decide_true, decide_false]
end Go.Proofs.Ytnecdcaaknhgpaa.G

namespace Go.Geo
set_option maxRecDepth 100000
set_option maxHeartbeats 4000000
set_option linter.unusedSimpArgs false
set_option linter.unusedVariables false
open Go Go.Zv
/-- the rectangle about the segment from F, l times (X, Y) long, w times as wide to each side -/
def rc (fx fy l w X Y : Int) : List Pt := [(fx + w * Y, fy - w * X), (fx + l * X + w * Y, fy + l * Y - w * X), (fx + l * X - w * Y, fy + l * Y + w * X), (fx - w * Y, fy + w * X)]
theorem cut_no {ax ay bx by_ cx cy dx dy : Int} (h1 : 0 < crW ax ay bx by_ cx cy) (h2 : 0 < crW ax ay bx by_ dx dy) (h3 : 0 < crW cx cy dx dy ax ay) (h4 : 0 < crW cx cy dx dy bx by_) : cutB ax ay bx by_ cx cy dx dy = false := by
  have s : ∀ {n : Int}, 0 < n → sgn n = 1 := fun h => by unfold sgn; rw [if_pos h]
  unfold cutB endsB sdI
  rw [s h1, s h2, s h3, s h4]
  have d : decide (w64 (1 * 1) < 0) = false := by decide
  have d2 : decide ((1 : Int) = 0) = false := by decide
  simp only [d, d2, Bool.false_and, Bool.or_false]
structure RCok (fx fy l w X Y R : Int) : Prop where
  l0 : 0 < l
  w0 : 0 < w
  R0 : 0 < R
  n : X * X + Y * Y = R
  b : ∀ p ∈ rc fx fy l w X Y, (-439400000 ≤ p.1 ∧ p.1 ≤ 439400000) ∧ (-439400000 ≤ p.2 ∧ p.2 ≤ 439400000)
theorem crW_M {ax ay bx by_ px py : Int} (h1 : -439400000 ≤ ax ∧ ax ≤ 439400000) (h2 : -439400000 ≤ ay ∧ ay ≤ 439400000) (h3 : -439400000 ≤ bx ∧ bx ≤ 439400000) (h4 : -439400000 ≤ by_ ∧ by_ ≤ 439400000) (h5 : -439400000 ≤ px ∧ px ≤ 439400000) (h6 : -439400000 ≤ py ∧ py ≤ 439400000) : crW ax ay bx by_ px py = cr ax ay bx by_ px py := by
  refine crW_B ?_ ?_ ?_ ?_ ?_ ?_ <;> unfold B <;> omega
theorem mayB_iff {p : Pt} : mayB p = true ↔ (-439400000 ≤ p.1 ∧ p.1 ≤ 439400000) ∧ (-439400000 ≤ p.2 ∧ p.2 ≤ 439400000) := by
  unfold mayB mxI mnI
  simp only [Bool.and_eq_true, decide_eq_true_eq]
  split <;> split <;> omega
theorem rc_may {fx fy l w X Y R : Int} (h : RCok fx fy l w X Y R) : (rc fx fy l w X Y).all mayB = true := by
  rw [List.all_eq_true]; intro p hp; exact mayB_iff.2 (h.b p hp)
theorem rc_sim {fx fy l w X Y R : Int} (h : RCok fx fy l w X Y R) : simB (rc fx fy l w X Y) = true := by
  have b0 := h.b (fx + w * Y, fy - w * X) (by simp [rc])
  have b1 := h.b (fx + l * X + w * Y, fy + l * Y - w * X) (by simp [rc])
  have b2 := h.b (fx + l * X - w * Y, fy + l * Y + w * X) (by simp [rc])
  have b3 := h.b (fx - w * Y, fy + w * X) (by simp [rc])
  have hp : 0 < 2 * l * w * R := Int.mul_pos (Int.mul_pos (by have := h.l0; omega) h.w0) h.R0
  have n := h.n
  have e012 : cr (fx + w * Y) (fy - w * X) (fx + l * X + w * Y) (fy + l * Y - w * X) (fx + l * X - w * Y) (fy + l * Y + w * X) = 2 * l * w * R := by rw [← n]; unfold cr; grind
  have e013 : cr (fx + w * Y) (fy - w * X) (fx + l * X + w * Y) (fy + l * Y - w * X) (fx - w * Y) (fy + w * X) = 2 * l * w * R := by rw [← n]; unfold cr; grind
  have e123 : cr (fx + l * X + w * Y) (fy + l * Y - w * X) (fx + l * X - w * Y) (fy + l * Y + w * X) (fx - w * Y) (fy + w * X) = 2 * l * w * R := by rw [← n]; unfold cr; grind
  have e120 : cr (fx + l * X + w * Y) (fy + l * Y - w * X) (fx + l * X - w * Y) (fy + l * Y + w * X) (fx + w * Y) (fy - w * X) = 2 * l * w * R := by rw [← n]; unfold cr; grind
  have e230 : cr (fx + l * X - w * Y) (fy + l * Y + w * X) (fx - w * Y) (fy + w * X) (fx + w * Y) (fy - w * X) = 2 * l * w * R := by rw [← n]; unfold cr; grind
  have e231 : cr (fx + l * X - w * Y) (fy + l * Y + w * X) (fx - w * Y) (fy + w * X) (fx + l * X + w * Y) (fy + l * Y - w * X) = 2 * l * w * R := by rw [← n]; unfold cr; grind
  have e301 : cr (fx - w * Y) (fy + w * X) (fx + w * Y) (fy - w * X) (fx + l * X + w * Y) (fy + l * Y - w * X) = 2 * l * w * R := by rw [← n]; unfold cr; grind
  have e302 : cr (fx - w * Y) (fy + w * X) (fx + w * Y) (fy - w * X) (fx + l * X - w * Y) (fy + l * Y + w * X) = 2 * l * w * R := by rw [← n]; unfold cr; grind
  unfold rc
  generalize fx + w * Y = x0 at *
  generalize fy - w * X = y0 at *
  generalize fx + l * X + w * Y = x1 at *
  generalize fy + l * Y - w * X = y1 at *
  generalize fx + l * X - w * Y = x2 at *
  generalize fy + l * Y + w * X = y2 at *
  generalize fx - w * Y = x3 at *
  generalize fy + w * X = y3 at *
  simp only at b0 b1 b2 b3
  rw [← crW_M b0.1 b0.2 b1.1 b1.2 b2.1 b2.2] at e012
  rw [← crW_M b0.1 b0.2 b1.1 b1.2 b3.1 b3.2] at e013
  rw [← crW_M b1.1 b1.2 b2.1 b2.2 b3.1 b3.2] at e123
  rw [← crW_M b1.1 b1.2 b2.1 b2.2 b0.1 b0.2] at e120
  rw [← crW_M b2.1 b2.2 b3.1 b3.2 b0.1 b0.2] at e230
  rw [← crW_M b2.1 b2.2 b3.1 b3.2 b1.1 b1.2] at e231
  rw [← crW_M b3.1 b3.2 b0.1 b0.2 b1.1 b1.2] at e301
  rw [← crW_M b3.1 b3.2 b0.1 b0.2 b2.1 b2.2] at e302
  have q02 := cut_no (by rw [e012]; exact hp) (by rw [e013]; exact hp) (by rw [e230]; exact hp) (by rw [e231]; exact hp)
  have q20 := cut_no (by rw [e230]; exact hp) (by rw [e231]; exact hp) (by rw [e012]; exact hp) (by rw [e013]; exact hp)
  have q13 := cut_no (by rw [e123]; exact hp) (by rw [e120]; exact hp) (by rw [e301]; exact hp) (by rw [e302]; exact hp)
  have q31 := cut_no (by rw [e301]; exact hp) (by rw [e302]; exact hp) (by rw [e123]; exact hp) (by rw [e120]; exact hp)
  have s : ∀ {n : Int}, n = 2 * l * w * R → ¬ (sgn n = 0) := fun h => by rw [h]; unfold sgn; rw [if_pos hp]; decide
  have hr : List.range 4 = [0, 1, 2, 3] := rfl
  have s0 := s e012
  have s1 := s e123
  have s2 := s e230
  have s3 := s e301
  simp [simB, bad1, bad2, adjB, edn, cutE, ptn, oriE, hr, s0, s1, s2, s3, q02, q13, q20, q31]
theorem seg_on {ax ay bx by_ px py : Int} (h1 : -439400000 ≤ ax ∧ ax ≤ 439400000) (h2 : -439400000 ≤ ay ∧ ay ≤ 439400000) (h3 : -439400000 ≤ bx ∧ bx ≤ 439400000) (h4 : -439400000 ≤ by_ ∧ by_ ≤ 439400000) (h5 : ax + bx = 2 * px) (h6 : ay + by_ = 2 * py) : onB ax ay bx by_ px py = true := by
  unfold onB
  rw [crW_M h1 h2 h3 h4 (by omega) (by omega)]
  have e : cr ax ay bx by_ px py = 0 := by
    have e1 : bx = 2 * px - ax := by omega
    have e2 : by_ = 2 * py - ay := by omega
    rw [e1, e2]; unfold cr; grind
  rw [e, sgn_zero]
  simp only [decide_true, Bool.and_true]
  unfold withinB mnI mxI
  simp only [Bool.and_eq_true, decide_eq_true_eq]
  split <;> split <;> omega
theorem rc_loc {fx fy l w X Y R : Int} (h : RCok fx fy l w X Y R) : locI (rc fx fy l w X Y) (fx, fy) = 0 ∧ locI (rc fx fy l w X Y) (fx + l * X, fy + l * Y) = 0 := by
  have b0 := h.b (fx + w * Y, fy - w * X) (by simp [rc])
  have b1 := h.b (fx + l * X + w * Y, fy + l * Y - w * X) (by simp [rc])
  have b2 := h.b (fx + l * X - w * Y, fy + l * Y + w * X) (by simp [rc])
  have b3 := h.b (fx - w * Y, fy + w * X) (by simp [rc])
  simp only at b0 b1 b2 b3
  have k1 := seg_on (px := fx) (py := fy) b3.1 b3.2 b0.1 b0.2 (by omega) (by omega)
  have k2 := seg_on (px := fx + l * X) (py := fy + l * Y) b1.1 b1.2 b2.1 b2.2 (by omega) (by omega)
  unfold locI
  constructor
  · rw [if_pos]; simp [rc, eds, onE, k1]
  · rw [if_pos]; simp [rc, eds, onE, k2]
theorem arF_M {x : Int} {e : Pt × Pt} (hx : -2000000000000000000 ≤ x ∧ x ≤ 2000000000000000000) (h1 : -439400000 ≤ e.1.1 ∧ e.1.1 ≤ 439400000) (h2 : -439400000 ≤ e.1.2 ∧ e.1.2 ≤ 439400000) (h3 : -439400000 ≤ e.2.1 ∧ e.2.1 ≤ 439400000) (h4 : -439400000 ≤ e.2.2 ∧ e.2.2 ≤ 439400000) :
    arF x e = x + (e.1.1 * e.2.2 - e.1.2 * e.2.1) ∧ -400000000000000000 ≤ e.1.1 * e.2.2 - e.1.2 * e.2.1 ∧ e.1.1 * e.2.2 - e.1.2 * e.2.1 ≤ 400000000000000000 := by
  have m1 := mul_bd h1.1 h1.2 h4.1 h4.2
  have m2 := mul_bd h2.1 h2.2 h3.1 h3.2
  unfold arF w64
  refine ⟨?_, by omega, by omega⟩
  rw [wrap_small (n := e.1.1 * e.2.2) (by omega) (by omega), wrap_small (n := e.1.2 * e.2.1) (by omega) (by omega), wrap_small (n := e.1.1 * e.2.2 - e.1.2 * e.2.1) (by omega) (by omega), wrap_small (by omega) (by omega)]
theorem rc_area {fx fy l w X Y R : Int} (h : RCok fx fy l w X Y R) : areaW (rc fx fy l w X Y) = 4 * l * w * R := by
  have b0 := h.b (fx + w * Y, fy - w * X) (by simp [rc])
  have b1 := h.b (fx + l * X + w * Y, fy + l * Y - w * X) (by simp [rc])
  have b2 := h.b (fx + l * X - w * Y, fy + l * Y + w * X) (by simp [rc])
  have b3 := h.b (fx - w * Y, fy + w * X) (by simp [rc])
  have n := h.n
  have fin : (0 + ((fx + w * Y) * (fy + l * Y - w * X) - (fy - w * X) * (fx + l * X + w * Y)) + ((fx + l * X + w * Y) * (fy + l * Y + w * X) - (fy + l * Y - w * X) * (fx + l * X - w * Y)) + ((fx + l * X - w * Y) * (fy + w * X) - (fy + l * Y + w * X) * (fx - w * Y)) + ((fx - w * Y) * (fy - w * X) - (fy + w * X) * (fx + w * Y))) = 4 * l * w * R := by rw [← n]; grind
  rw [← fin]
  unfold rc areaW
  simp only at b0 b1 b2 b3
  generalize fx + w * Y = x0 at *
  generalize fy - w * X = y0 at *
  generalize fx + l * X + w * Y = x1 at *
  generalize fy + l * Y - w * X = y1 at *
  generalize fx + l * X - w * Y = x2 at *
  generalize fy + l * Y + w * X = y2 at *
  generalize fx - w * Y = x3 at *
  generalize fy + w * X = y3 at *
  have a0 := arF_M (x := 0) (e := ((x0, y0), (x1, y1))) (by omega) b0.1 b0.2 b1.1 b1.2
  simp only at a0
  have a1 := arF_M (x := 0 + (x0 * y1 - y0 * x1)) (e := ((x1, y1), (x2, y2))) (by omega) b1.1 b1.2 b2.1 b2.2
  simp only at a1
  have a2 := arF_M (x := 0 + (x0 * y1 - y0 * x1) + (x1 * y2 - y1 * x2)) (e := ((x2, y2), (x3, y3))) (by omega) b2.1 b2.2 b3.1 b3.2
  simp only at a2
  have a3 := arF_M (x := 0 + (x0 * y1 - y0 * x1) + (x1 * y2 - y1 * x2) + (x2 * y3 - y2 * x3)) (e := ((x3, y3), (x0, y0))) (by omega) b3.1 b3.2 b0.1 b0.2
  simp only at a3
  show arF (arF (arF (arF 0 ((x0, y0), (x1, y1))) ((x1, y1), (x2, y2))) ((x2, y2), (x3, y3))) ((x3, y3), (x0, y0)) = _
  rw [a0.1, a1.1, a2.1, a3.1]
theorem rc_val {fx fy l w X Y R : Int} (h : RCok fx fy l w X Y R) : valB (rc fx fy l w X Y) = true := by
  unfold valB
  rw [rc_may h, rc_sim h, rc_area h]
  have hp : 0 < 4 * l * w * R := Int.mul_pos (Int.mul_pos (by have := h.l0; omega) h.w0) h.R0
  simp [rc, hp]
end Go.Geo

namespace Go.Proofs.Ytnecdcaaknhgpaa
set_option maxRecDepth 100000
set_option maxHeartbeats 4000000
set_option linter.unusedSimpArgs false
set_option linter.unusedVariables false
open Go Go.Zv
open Go.Geo (rc RCok mayB locI valB areaW rc_val rc_loc rc_area rc_may mayB_iff)
theorem c30 (x y : Int) (h : mayB (x, y) = true) : pc E 30 [.agg [.int .i64 x, .int .i64 y]] = some (.bool true) := by
  rw [mayB_iff] at h
  obtain ⟨⟨h1, h2⟩, h3, h4⟩ := h
  simp only at h1 h2 h3 h4
  rw [pc_eq]; simp +contextual -implicitDefEqProofs (maxSteps := 2000000) only [go_sem, ↓reduceIte, Nat.reduceAdd, Nat.reduceMul, Nat.reduceSub, Nat.reduceEqDiff, Nat.reduceLeDiff, Nat.reduceDiv, Nat.reduceMod, Nat.reduceBEq, Nat.reduceBNe, reduceCtorEq, Int.reduceLE, Int.reduceLT, Int.reduceToNat, Int.reduceNeg, Nat.reduceLT, Int.reduceEq, Int.reduceSub, Int.reduceAdd, Int.reduceMul, Nat.reducePow, Int.reduceBEq, Int.reduceBNe, Int.reduceMod, E_30, A30, h1, h2, h3, h4, wrap_small]
def lrs (a : Arm) (d : Pts) : List (List (Int × Int)) :=
  [rc a.bx a.by_ a.l0 a.w (67600 * d.x1) (67600 * d.y1), rc (pp a d).x1 (pp a d).y1 a.l1 a.w (1040 * d.x2) (1040 * d.y2), rc (pp a d).x2 (pp a d).y2 a.l2 a.w (16 * d.x3) (16 * d.y3)]
theorem lks_rc (a : Arm) (d : Pts) : lks a d = lrs a d := by
  simp only [lks, lrs, lkc, rc, pp, Int.mul_assoc]
theorem le_mul {l X M : Int} (hl : 0 ≤ l) (hx : -M ≤ X ∧ X ≤ M) : -(l * M) ≤ l * X ∧ l * X ≤ l * M := by
  constructor
  · have := Int.mul_le_mul_of_nonneg_left hx.1 hl
    rw [Int.mul_neg] at this; exact this
  · exact Int.mul_le_mul_of_nonneg_left hx.2 hl
structure R3 (a : Arm) (d : Pts) : Prop where
  r0 : RCok a.bx a.by_ a.l0 a.w (67600 * d.x1) (67600 * d.y1) 19307236000000
  r1 : RCok (pp a d).x1 (pp a d).y1 a.l1 a.w (1040 * d.x2) (1040 * d.y2) 19307236000000
  r2 : RCok (pp a d).x2 (pp a d).y2 a.l2 a.w (16 * d.x3) (16 * d.y3) 19307236000000
theorem r3 {a : Arm} (h : OKa a) {d : Pts} (v : DV d) : R3 a d := by
  have l0 := h.l0
  have l1 := h.l1
  have l2 := h.l2
  have w := h.w
  have bx := h.bx
  have by_ := h.by_
  have x1 := v.v1.x
  have y1 := v.v1.y
  have x2 := v.v2.x
  have y2 := v.v2.y
  have x3 := v.v3.x
  have y3 := v.v3.y
  have n1 := v.v1.eq
  have n2 := v.v2.eq
  have n3 := v.v3.eq
  simp only [p65] at x1 y1 x2 y2 x3 y3 n1 n2 n3
  have g : ∀ l X : Int, 1 ≤ l → -4394000 ≤ X ∧ X ≤ 4394000 → -(l * 4394000) ≤ l * X ∧ l * X ≤ l * 4394000 := fun l X h1 h2 => le_mul (by omega) h2
  have a1 := g a.l0 (67600 * d.x1) (by omega) (by omega)
  have a2 := g a.l0 (67600 * d.y1) (by omega) (by omega)
  have a3 := g a.l1 (1040 * d.x2) (by omega) (by omega)
  have a4 := g a.l1 (1040 * d.y2) (by omega) (by omega)
  have a5 := g a.l2 (16 * d.x3) (by omega) (by omega)
  have a6 := g a.l2 (16 * d.y3) (by omega) (by omega)
  have b1 := g a.w (67600 * d.x1) (by omega) (by omega)
  have b2 := g a.w (67600 * d.y1) (by omega) (by omega)
  have b3 := g a.w (1040 * d.x2) (by omega) (by omega)
  have b4 := g a.w (1040 * d.y2) (by omega) (by omega)
  have b5 := g a.w (16 * d.x3) (by omega) (by omega)
  have b6 := g a.w (16 * d.y3) (by omega) (by omega)
  have m1 : (67600 * d.x1) * (67600 * d.x1) + (67600 * d.y1) * (67600 * d.y1) = 19307236000000 := by
    have e : (67600 * d.x1) * (67600 * d.x1) + (67600 * d.y1) * (67600 * d.y1) = 67600 * 67600 * (d.x1 * d.x1 + d.y1 * d.y1) := by grind
    rw [e, n1]; rfl
  have m2 : (1040 * d.x2) * (1040 * d.x2) + (1040 * d.y2) * (1040 * d.y2) = 19307236000000 := by
    have e : (1040 * d.x2) * (1040 * d.x2) + (1040 * d.y2) * (1040 * d.y2) = 1040 * 1040 * (d.x2 * d.x2 + d.y2 * d.y2) := by grind
    rw [e, n2]; rfl
  have m3 : (16 * d.x3) * (16 * d.x3) + (16 * d.y3) * (16 * d.y3) = 19307236000000 := by
    have e : (16 * d.x3) * (16 * d.x3) + (16 * d.y3) * (16 * d.y3) = 16 * 16 * (d.x3 * d.x3 + d.y3 * d.y3) := by grind
    rw [e, n3]; rfl
  refine ⟨⟨by omega, by omega, by omega, m1, ?_⟩, ⟨by omega, by omega, by omega, m2, ?_⟩, ⟨by omega, by omega, by omega, m3, ?_⟩⟩
  all_goals
    simp only [rc, List.mem_cons, List.not_mem_nil, or_false]
    rintro p (rfl | rfl | rfl | rfl) <;> simp only [pp, Int.mul_assoc] <;> omega
theorem far_link {fx fy tx ty l u x y R : Int} (d1 : fx - tx = 16 * (-(l * (u * x)))) (d2 : fy - ty = 16 * (-(l * (u * y)))) (n : x * x + y * y = R * R) (hu : u * R = 274625) : farI fx fy tx ty = (l * 274625) * (l * 274625) := by
  unfold farI
  rw [d1, d2, td_16, td_16]
  have e : -(l * (u * x)) * -(l * (u * x)) + -(l * (u * y)) * -(l * (u * y)) = (l * u) * (l * u) * (x * x + y * y) := by grind
  rw [e, n, ← hu]; grind
theorem tm16 {x : Int} (h : ∃ z, x = 16 * z) : x.tmod 16 = 0 := by
  obtain ⟨z, rfl⟩ := h
  exact Int.mul_tmod_right 16 z
theorem law8 (a : Arm) (r0 r1 r2 : Int) (h0 : 0 ≤ r0 ∧ r0 ≤ 255) (h1 : 0 ≤ r1 ∧ r1 ≤ 255) (h2 : 0 ≤ r2 ∧ r2 ≤ 255) :
    pc E 8 [av a, .agg [.int .u8 r0, .int .u8 r1, .int .u8 r2]] = some (.bool true) := by
  have e0 := c14
  have e1 := c15 a
  cases ho : okB a with
  | false =>
    rw [ho] at e1
    rw [pc_eq]; simp +contextual -implicitDefEqProofs (maxSteps := 2000000) only [go_sem, ↓reduceIte, Nat.reduceAdd, Nat.reduceMul, Nat.reduceSub, Nat.reduceEqDiff, Nat.reduceLeDiff, Nat.reduceDiv, Nat.reduceMod, Nat.reduceBEq, Nat.reduceBNe, reduceCtorEq, Int.reduceLE, Int.reduceLT, Int.reduceToNat, Int.reduceNeg, Nat.reduceLT, Int.reduceEq, Int.reduceSub, Int.reduceAdd, Int.reduceMul, Nat.reducePow, Int.reduceBEq, Int.reduceBNe, Int.reduceMod, E_8, A8, e0, e1]
  | true =>
    have h := okB_iff.1 ho
    rw [ho] at e1
    have e5 := c19 a h r0 r1 r2 h0 h1 h2
    generalize jt a.lo0 a.hi0 r0 = q0 at *
    generalize jt a.lo1 a.hi1 r1 = q1 at *
    generalize jt a.lo2 a.hi2 r2 = q2 at *
    have f1 := c27 a h q0 q1 q2
    have f2 := c20 a h q0 q1 q2
    have v := ddV q0 q1 q2
    rw [lks_rc] at f2
    generalize dd q0 q1 q2 = d at *
    have R := r3 h v
    have b := bds h v
    obtain ⟨o0x, o0y, o1x, o1y, o2x, o2y, bx, by_⟩ := b
    have l0 := h.l0
    have l1 := h.l1
    have l2 := h.l2
    have w := h.w
    obtain ⟨B0, hB0⟩ : ∃ z, a.bx = 16 * z := ⟨a.bx / 16, by have : (16 : Int) ∣ a.bx := Int.dvd_of_tmod_eq_zero h.mx; omega⟩
    obtain ⟨B1, hB1⟩ : ∃ z, a.by_ = 16 * z := ⟨a.by_ / 16, by have : (16 : Int) ∣ a.by_ := Int.dvd_of_tmod_eq_zero h.my; omega⟩
    have v0 := G.c31 (rc a.bx a.by_ a.l0 a.w (67600 * d.x1) (67600 * d.y1)) (by simp [rc])
    rw [rc_val R.r0] at v0
    have w0 := G.c32 (rc a.bx a.by_ a.l0 a.w (67600 * d.x1) (67600 * d.y1)) (by simp [rc])
    rw [rc_area R.r0] at w0
    have x0 := G.c33 (rc a.bx a.by_ a.l0 a.w (67600 * d.x1) (67600 * d.y1)) (by simp [rc]) a.bx a.by_
    rw [(rc_loc R.r0).1] at x0
    have y0 := G.c33 (rc a.bx a.by_ a.l0 a.w (67600 * d.x1) (67600 * d.y1)) (by simp [rc]) (a.bx + a.l0 * (67600 * d.x1)) (a.by_ + a.l0 * (67600 * d.y1))
    rw [(rc_loc R.r0).2] at y0
    have t0x : a.bx + a.l0 * (67600 * d.x1) = (pp a d).x1 := by simp only [pp, Int.mul_assoc]
    have t0y : a.by_ + a.l0 * (67600 * d.y1) = (pp a d).y1 := by simp only [pp, Int.mul_assoc]
    have m00 := c30 (a.bx + a.w * (67600 * d.y1)) (a.by_ - a.w * (67600 * d.x1)) (mayB_iff.2 (R.r0.b (a.bx + a.w * (67600 * d.y1), a.by_ - a.w * (67600 * d.x1)) (by simp [rc])))
    have z00x := tm16 (x := a.bx + a.w * (67600 * d.y1)) ⟨B0 + a.w * (4225 * d.y1), by simp only [pp, hB0]; grind⟩
    have z00y := tm16 (x := a.by_ - a.w * (67600 * d.x1)) ⟨B1 - a.w * (4225 * d.x1), by simp only [pp, hB1]; grind⟩
    have m01 := c30 (a.bx + a.l0 * (67600 * d.x1) + a.w * (67600 * d.y1)) (a.by_ + a.l0 * (67600 * d.y1) - a.w * (67600 * d.x1)) (mayB_iff.2 (R.r0.b (a.bx + a.l0 * (67600 * d.x1) + a.w * (67600 * d.y1), a.by_ + a.l0 * (67600 * d.y1) - a.w * (67600 * d.x1)) (by simp [rc])))
    have z01x := tm16 (x := a.bx + a.l0 * (67600 * d.x1) + a.w * (67600 * d.y1)) ⟨B0 + a.l0 * (4225 * d.x1) + a.w * (4225 * d.y1), by simp only [pp, hB0]; grind⟩
    have z01y := tm16 (x := a.by_ + a.l0 * (67600 * d.y1) - a.w * (67600 * d.x1)) ⟨B1 + a.l0 * (4225 * d.y1) - a.w * (4225 * d.x1), by simp only [pp, hB1]; grind⟩
    have m02 := c30 (a.bx + a.l0 * (67600 * d.x1) - a.w * (67600 * d.y1)) (a.by_ + a.l0 * (67600 * d.y1) + a.w * (67600 * d.x1)) (mayB_iff.2 (R.r0.b (a.bx + a.l0 * (67600 * d.x1) - a.w * (67600 * d.y1), a.by_ + a.l0 * (67600 * d.y1) + a.w * (67600 * d.x1)) (by simp [rc])))
    have z02x := tm16 (x := a.bx + a.l0 * (67600 * d.x1) - a.w * (67600 * d.y1)) ⟨B0 + a.l0 * (4225 * d.x1) - a.w * (4225 * d.y1), by simp only [pp, hB0]; grind⟩
    have z02y := tm16 (x := a.by_ + a.l0 * (67600 * d.y1) + a.w * (67600 * d.x1)) ⟨B1 + a.l0 * (4225 * d.y1) + a.w * (4225 * d.x1), by simp only [pp, hB1]; grind⟩
    have m03 := c30 (a.bx - a.w * (67600 * d.y1)) (a.by_ + a.w * (67600 * d.x1)) (mayB_iff.2 (R.r0.b (a.bx - a.w * (67600 * d.y1), a.by_ + a.w * (67600 * d.x1)) (by simp [rc])))
    have z03x := tm16 (x := a.bx - a.w * (67600 * d.y1)) ⟨B0 - a.w * (4225 * d.y1), by simp only [pp, hB0]; grind⟩
    have z03y := tm16 (x := a.by_ + a.w * (67600 * d.x1)) ⟨B1 + a.w * (4225 * d.x1), by simp only [pp, hB1]; grind⟩
    have g0 := R.r0.b _ (show (a.bx + a.l0 * (67600 * d.x1) + a.w * (67600 * d.y1), a.by_ + a.l0 * (67600 * d.y1) - a.w * (67600 * d.x1)) ∈ _ by simp [rc])
    have k0 := R.r0.b _ (show (a.bx + a.l0 * (67600 * d.x1) - a.w * (67600 * d.y1), a.by_ + a.l0 * (67600 * d.y1) + a.w * (67600 * d.x1)) ∈ _ by simp [rc])
    simp only at g0 k0
    have n0 := c30 ((pp a d).x1) ((pp a d).y1) (by rw [mayB_iff, ← t0x, ← t0y]; simp only; omega)
    have s0x := tm16 (x := (pp a d).x1) ⟨B0 + a.l0 * (4225 * d.x1), by simp only [pp, hB0]; grind⟩
    have s0y := tm16 (x := (pp a d).y1) ⟨B1 + a.l0 * (4225 * d.y1), by simp only [pp, hB1]; grind⟩
    have q0 := c29 a.bx a.by_ (pp a d).x1 (pp a d).y1 (by first | omega | (simp only [pp]; omega)) (by first | omega | (simp only [pp]; omega)) (by first | omega | (simp only [pp]; omega)) (by first | omega | (simp only [pp]; omega))
    have fe0 : farI a.bx a.by_ (pp a d).x1 (pp a d).y1 = (a.l0 * 274625) * (a.l0 * 274625) := by
      have d1 : a.bx - (pp a d).x1 = 16 * (-(a.l0 * (4225 * d.x1))) := by simp only [pp]; grind
      have d2 : a.by_ - (pp a d).y1 = 16 * (-(a.l0 * (4225 * d.y1))) := by simp only [pp]; grind
      exact far_link d1 d2 v.v1.eq rfl
    rw [fe0] at q0
    have u0a : IntKind.i64.wrap (a.l0 * 4394000) = a.l0 * 4394000 := wrap_small (by omega) (by omega)
    have u0b := td_4394 a.l0
    have u0c : IntKind.i64.wrap (a.l0 * 274625) = a.l0 * 274625 := wrap_small (by omega) (by omega)
    have mb0 := mul_bd (A := 33000000) (C := 33000000) (x := a.l0 * 274625) (y := a.l0 * 274625) (by omega) (by omega) (by omega) (by omega)
    have u0d : IntKind.i64.wrap ((a.l0 * 274625) * (a.l0 * 274625)) = (a.l0 * 274625) * (a.l0 * 274625) := wrap_small (by omega) (by omega)
    have u0e : IntKind.i64.wrap (4 * a.l0) = 4 * a.l0 := wrap_small (by omega) (by omega)
    have mc0 := mul_bd (A := 160) (C := 4) (x := 4 * a.l0) (y := a.w) (by omega) (by omega) (by omega) (by omega)
    have u0f : IntKind.i64.wrap (4 * a.l0 * a.w) = 4 * a.l0 * a.w := wrap_small (by omega) (by omega)
    have u0g : IntKind.i64.wrap (4 * a.l0 * a.w * 4394000) = 4 * a.l0 * a.w * 4394000 := wrap_small (by omega) (by omega)
    have u0h : IntKind.i64.wrap (4 * a.l0 * a.w * 4394000 * 4394000) = 4 * a.l0 * a.w * 19307236000000 := by rw [wrap_small (by omega) (by omega)]; omega
    have v1 := G.c31 (rc (pp a d).x1 (pp a d).y1 a.l1 a.w (1040 * d.x2) (1040 * d.y2)) (by simp [rc])
    rw [rc_val R.r1] at v1
    have w1 := G.c32 (rc (pp a d).x1 (pp a d).y1 a.l1 a.w (1040 * d.x2) (1040 * d.y2)) (by simp [rc])
    rw [rc_area R.r1] at w1
    have x1 := G.c33 (rc (pp a d).x1 (pp a d).y1 a.l1 a.w (1040 * d.x2) (1040 * d.y2)) (by simp [rc]) (pp a d).x1 (pp a d).y1
    rw [(rc_loc R.r1).1] at x1
    have y1 := G.c33 (rc (pp a d).x1 (pp a d).y1 a.l1 a.w (1040 * d.x2) (1040 * d.y2)) (by simp [rc]) ((pp a d).x1 + a.l1 * (1040 * d.x2)) ((pp a d).y1 + a.l1 * (1040 * d.y2))
    rw [(rc_loc R.r1).2] at y1
    have t1x : (pp a d).x1 + a.l1 * (1040 * d.x2) = (pp a d).x2 := by simp only [pp, Int.mul_assoc]
    have t1y : (pp a d).y1 + a.l1 * (1040 * d.y2) = (pp a d).y2 := by simp only [pp, Int.mul_assoc]
    have m10 := c30 ((pp a d).x1 + a.w * (1040 * d.y2)) ((pp a d).y1 - a.w * (1040 * d.x2)) (mayB_iff.2 (R.r1.b ((pp a d).x1 + a.w * (1040 * d.y2), (pp a d).y1 - a.w * (1040 * d.x2)) (by simp [rc])))
    have z10x := tm16 (x := (pp a d).x1 + a.w * (1040 * d.y2)) ⟨B0 + a.l0 * (4225 * d.x1) + a.w * (65 * d.y2), by simp only [pp, hB0]; grind⟩
    have z10y := tm16 (x := (pp a d).y1 - a.w * (1040 * d.x2)) ⟨B1 + a.l0 * (4225 * d.y1) - a.w * (65 * d.x2), by simp only [pp, hB1]; grind⟩
    have m11 := c30 ((pp a d).x1 + a.l1 * (1040 * d.x2) + a.w * (1040 * d.y2)) ((pp a d).y1 + a.l1 * (1040 * d.y2) - a.w * (1040 * d.x2)) (mayB_iff.2 (R.r1.b ((pp a d).x1 + a.l1 * (1040 * d.x2) + a.w * (1040 * d.y2), (pp a d).y1 + a.l1 * (1040 * d.y2) - a.w * (1040 * d.x2)) (by simp [rc])))
    have z11x := tm16 (x := (pp a d).x1 + a.l1 * (1040 * d.x2) + a.w * (1040 * d.y2)) ⟨B0 + a.l0 * (4225 * d.x1) + a.l1 * (65 * d.x2) + a.w * (65 * d.y2), by simp only [pp, hB0]; grind⟩
    have z11y := tm16 (x := (pp a d).y1 + a.l1 * (1040 * d.y2) - a.w * (1040 * d.x2)) ⟨B1 + a.l0 * (4225 * d.y1) + a.l1 * (65 * d.y2) - a.w * (65 * d.x2), by simp only [pp, hB1]; grind⟩
    have m12 := c30 ((pp a d).x1 + a.l1 * (1040 * d.x2) - a.w * (1040 * d.y2)) ((pp a d).y1 + a.l1 * (1040 * d.y2) + a.w * (1040 * d.x2)) (mayB_iff.2 (R.r1.b ((pp a d).x1 + a.l1 * (1040 * d.x2) - a.w * (1040 * d.y2), (pp a d).y1 + a.l1 * (1040 * d.y2) + a.w * (1040 * d.x2)) (by simp [rc])))
    have z12x := tm16 (x := (pp a d).x1 + a.l1 * (1040 * d.x2) - a.w * (1040 * d.y2)) ⟨B0 + a.l0 * (4225 * d.x1) + a.l1 * (65 * d.x2) - a.w * (65 * d.y2), by simp only [pp, hB0]; grind⟩
    have z12y := tm16 (x := (pp a d).y1 + a.l1 * (1040 * d.y2) + a.w * (1040 * d.x2)) ⟨B1 + a.l0 * (4225 * d.y1) + a.l1 * (65 * d.y2) + a.w * (65 * d.x2), by simp only [pp, hB1]; grind⟩
    have m13 := c30 ((pp a d).x1 - a.w * (1040 * d.y2)) ((pp a d).y1 + a.w * (1040 * d.x2)) (mayB_iff.2 (R.r1.b ((pp a d).x1 - a.w * (1040 * d.y2), (pp a d).y1 + a.w * (1040 * d.x2)) (by simp [rc])))
    have z13x := tm16 (x := (pp a d).x1 - a.w * (1040 * d.y2)) ⟨B0 + a.l0 * (4225 * d.x1) - a.w * (65 * d.y2), by simp only [pp, hB0]; grind⟩
    have z13y := tm16 (x := (pp a d).y1 + a.w * (1040 * d.x2)) ⟨B1 + a.l0 * (4225 * d.y1) + a.w * (65 * d.x2), by simp only [pp, hB1]; grind⟩
    have g1 := R.r1.b _ (show ((pp a d).x1 + a.l1 * (1040 * d.x2) + a.w * (1040 * d.y2), (pp a d).y1 + a.l1 * (1040 * d.y2) - a.w * (1040 * d.x2)) ∈ _ by simp [rc])
    have k1 := R.r1.b _ (show ((pp a d).x1 + a.l1 * (1040 * d.x2) - a.w * (1040 * d.y2), (pp a d).y1 + a.l1 * (1040 * d.y2) + a.w * (1040 * d.x2)) ∈ _ by simp [rc])
    simp only at g1 k1
    have n1 := c30 ((pp a d).x2) ((pp a d).y2) (by rw [mayB_iff, ← t1x, ← t1y]; simp only; omega)
    have s1x := tm16 (x := (pp a d).x2) ⟨B0 + a.l0 * (4225 * d.x1) + a.l1 * (65 * d.x2), by simp only [pp, hB0]; grind⟩
    have s1y := tm16 (x := (pp a d).y2) ⟨B1 + a.l0 * (4225 * d.y1) + a.l1 * (65 * d.y2), by simp only [pp, hB1]; grind⟩
    have q1 := c29 (pp a d).x1 (pp a d).y1 (pp a d).x2 (pp a d).y2 (by first | omega | (simp only [pp]; omega)) (by first | omega | (simp only [pp]; omega)) (by first | omega | (simp only [pp]; omega)) (by first | omega | (simp only [pp]; omega))
    have fe1 : farI (pp a d).x1 (pp a d).y1 (pp a d).x2 (pp a d).y2 = (a.l1 * 274625) * (a.l1 * 274625) := by
      have d1 : (pp a d).x1 - (pp a d).x2 = 16 * (-(a.l1 * (65 * d.x2))) := by simp only [pp]; grind
      have d2 : (pp a d).y1 - (pp a d).y2 = 16 * (-(a.l1 * (65 * d.y2))) := by simp only [pp]; grind
      exact far_link d1 d2 v.v2.eq rfl
    rw [fe1] at q1
    have u1a : IntKind.i64.wrap (a.l1 * 4394000) = a.l1 * 4394000 := wrap_small (by omega) (by omega)
    have u1b := td_4394 a.l1
    have u1c : IntKind.i64.wrap (a.l1 * 274625) = a.l1 * 274625 := wrap_small (by omega) (by omega)
    have mb1 := mul_bd (A := 33000000) (C := 33000000) (x := a.l1 * 274625) (y := a.l1 * 274625) (by omega) (by omega) (by omega) (by omega)
    have u1d : IntKind.i64.wrap ((a.l1 * 274625) * (a.l1 * 274625)) = (a.l1 * 274625) * (a.l1 * 274625) := wrap_small (by omega) (by omega)
    have u1e : IntKind.i64.wrap (4 * a.l1) = 4 * a.l1 := wrap_small (by omega) (by omega)
    have mc1 := mul_bd (A := 160) (C := 4) (x := 4 * a.l1) (y := a.w) (by omega) (by omega) (by omega) (by omega)
    have u1f : IntKind.i64.wrap (4 * a.l1 * a.w) = 4 * a.l1 * a.w := wrap_small (by omega) (by omega)
    have u1g : IntKind.i64.wrap (4 * a.l1 * a.w * 4394000) = 4 * a.l1 * a.w * 4394000 := wrap_small (by omega) (by omega)
    have u1h : IntKind.i64.wrap (4 * a.l1 * a.w * 4394000 * 4394000) = 4 * a.l1 * a.w * 19307236000000 := by rw [wrap_small (by omega) (by omega)]; omega
    have v2 := G.c31 (rc (pp a d).x2 (pp a d).y2 a.l2 a.w (16 * d.x3) (16 * d.y3)) (by simp [rc])
    rw [rc_val R.r2] at v2
    have w2 := G.c32 (rc (pp a d).x2 (pp a d).y2 a.l2 a.w (16 * d.x3) (16 * d.y3)) (by simp [rc])
    rw [rc_area R.r2] at w2
    have x2 := G.c33 (rc (pp a d).x2 (pp a d).y2 a.l2 a.w (16 * d.x3) (16 * d.y3)) (by simp [rc]) (pp a d).x2 (pp a d).y2
    rw [(rc_loc R.r2).1] at x2
    have y2 := G.c33 (rc (pp a d).x2 (pp a d).y2 a.l2 a.w (16 * d.x3) (16 * d.y3)) (by simp [rc]) ((pp a d).x2 + a.l2 * (16 * d.x3)) ((pp a d).y2 + a.l2 * (16 * d.y3))
    rw [(rc_loc R.r2).2] at y2
    have t2x : (pp a d).x2 + a.l2 * (16 * d.x3) = (pp a d).x3 := by simp only [pp, Int.mul_assoc]
    have t2y : (pp a d).y2 + a.l2 * (16 * d.y3) = (pp a d).y3 := by simp only [pp, Int.mul_assoc]
    have m20 := c30 ((pp a d).x2 + a.w * (16 * d.y3)) ((pp a d).y2 - a.w * (16 * d.x3)) (mayB_iff.2 (R.r2.b ((pp a d).x2 + a.w * (16 * d.y3), (pp a d).y2 - a.w * (16 * d.x3)) (by simp [rc])))
    have z20x := tm16 (x := (pp a d).x2 + a.w * (16 * d.y3)) ⟨B0 + a.l0 * (4225 * d.x1) + a.l1 * (65 * d.x2) + a.w * (1 * d.y3), by simp only [pp, hB0]; grind⟩
    have z20y := tm16 (x := (pp a d).y2 - a.w * (16 * d.x3)) ⟨B1 + a.l0 * (4225 * d.y1) + a.l1 * (65 * d.y2) - a.w * (1 * d.x3), by simp only [pp, hB1]; grind⟩
    have m21 := c30 ((pp a d).x2 + a.l2 * (16 * d.x3) + a.w * (16 * d.y3)) ((pp a d).y2 + a.l2 * (16 * d.y3) - a.w * (16 * d.x3)) (mayB_iff.2 (R.r2.b ((pp a d).x2 + a.l2 * (16 * d.x3) + a.w * (16 * d.y3), (pp a d).y2 + a.l2 * (16 * d.y3) - a.w * (16 * d.x3)) (by simp [rc])))
    have z21x := tm16 (x := (pp a d).x2 + a.l2 * (16 * d.x3) + a.w * (16 * d.y3)) ⟨B0 + a.l0 * (4225 * d.x1) + a.l1 * (65 * d.x2) + a.l2 * (1 * d.x3) + a.w * (1 * d.y3), by simp only [pp, hB0]; grind⟩
    have z21y := tm16 (x := (pp a d).y2 + a.l2 * (16 * d.y3) - a.w * (16 * d.x3)) ⟨B1 + a.l0 * (4225 * d.y1) + a.l1 * (65 * d.y2) + a.l2 * (1 * d.y3) - a.w * (1 * d.x3), by simp only [pp, hB1]; grind⟩
    have m22 := c30 ((pp a d).x2 + a.l2 * (16 * d.x3) - a.w * (16 * d.y3)) ((pp a d).y2 + a.l2 * (16 * d.y3) + a.w * (16 * d.x3)) (mayB_iff.2 (R.r2.b ((pp a d).x2 + a.l2 * (16 * d.x3) - a.w * (16 * d.y3), (pp a d).y2 + a.l2 * (16 * d.y3) + a.w * (16 * d.x3)) (by simp [rc])))
    have z22x := tm16 (x := (pp a d).x2 + a.l2 * (16 * d.x3) - a.w * (16 * d.y3)) ⟨B0 + a.l0 * (4225 * d.x1) + a.l1 * (65 * d.x2) + a.l2 * (1 * d.x3) - a.w * (1 * d.y3), by simp only [pp, hB0]; grind⟩
    have z22y := tm16 (x := (pp a d).y2 + a.l2 * (16 * d.y3) + a.w * (16 * d.x3)) ⟨B1 + a.l0 * (4225 * d.y1) + a.l1 * (65 * d.y2) + a.l2 * (1 * d.y3) + a.w * (1 * d.x3), by simp only [pp, hB1]; grind⟩
    have m23 := c30 ((pp a d).x2 - a.w * (16 * d.y3)) ((pp a d).y2 + a.w * (16 * d.x3)) (mayB_iff.2 (R.r2.b ((pp a d).x2 - a.w * (16 * d.y3), (pp a d).y2 + a.w * (16 * d.x3)) (by simp [rc])))
    have z23x := tm16 (x := (pp a d).x2 - a.w * (16 * d.y3)) ⟨B0 + a.l0 * (4225 * d.x1) + a.l1 * (65 * d.x2) - a.w * (1 * d.y3), by simp only [pp, hB0]; grind⟩
    have z23y := tm16 (x := (pp a d).y2 + a.w * (16 * d.x3)) ⟨B1 + a.l0 * (4225 * d.y1) + a.l1 * (65 * d.y2) + a.w * (1 * d.x3), by simp only [pp, hB1]; grind⟩
    have g2 := R.r2.b _ (show ((pp a d).x2 + a.l2 * (16 * d.x3) + a.w * (16 * d.y3), (pp a d).y2 + a.l2 * (16 * d.y3) - a.w * (16 * d.x3)) ∈ _ by simp [rc])
    have k2 := R.r2.b _ (show ((pp a d).x2 + a.l2 * (16 * d.x3) - a.w * (16 * d.y3), (pp a d).y2 + a.l2 * (16 * d.y3) + a.w * (16 * d.x3)) ∈ _ by simp [rc])
    simp only at g2 k2
    have n2 := c30 ((pp a d).x3) ((pp a d).y3) (by rw [mayB_iff, ← t2x, ← t2y]; simp only; omega)
    have s2x := tm16 (x := (pp a d).x3) ⟨B0 + a.l0 * (4225 * d.x1) + a.l1 * (65 * d.x2) + a.l2 * (1 * d.x3), by simp only [pp, hB0]; grind⟩
    have s2y := tm16 (x := (pp a d).y3) ⟨B1 + a.l0 * (4225 * d.y1) + a.l1 * (65 * d.y2) + a.l2 * (1 * d.y3), by simp only [pp, hB1]; grind⟩
    have q2 := c29 (pp a d).x2 (pp a d).y2 (pp a d).x3 (pp a d).y3 (by first | omega | (simp only [pp]; omega)) (by first | omega | (simp only [pp]; omega)) (by first | omega | (simp only [pp]; omega)) (by first | omega | (simp only [pp]; omega))
    have fe2 : farI (pp a d).x2 (pp a d).y2 (pp a d).x3 (pp a d).y3 = (a.l2 * 274625) * (a.l2 * 274625) := by
      have d1 : (pp a d).x2 - (pp a d).x3 = 16 * (-(a.l2 * (1 * d.x3))) := by simp only [pp]; grind
      have d2 : (pp a d).y2 - (pp a d).y3 = 16 * (-(a.l2 * (1 * d.y3))) := by simp only [pp]; grind
      exact far_link d1 d2 v.v3.eq rfl
    rw [fe2] at q2
    have u2a : IntKind.i64.wrap (a.l2 * 4394000) = a.l2 * 4394000 := wrap_small (by omega) (by omega)
    have u2b := td_4394 a.l2
    have u2c : IntKind.i64.wrap (a.l2 * 274625) = a.l2 * 274625 := wrap_small (by omega) (by omega)
    have mb2 := mul_bd (A := 33000000) (C := 33000000) (x := a.l2 * 274625) (y := a.l2 * 274625) (by omega) (by omega) (by omega) (by omega)
    have u2d : IntKind.i64.wrap ((a.l2 * 274625) * (a.l2 * 274625)) = (a.l2 * 274625) * (a.l2 * 274625) := wrap_small (by omega) (by omega)
    have u2e : IntKind.i64.wrap (4 * a.l2) = 4 * a.l2 := wrap_small (by omega) (by omega)
    have mc2 := mul_bd (A := 160) (C := 4) (x := 4 * a.l2) (y := a.w) (by omega) (by omega) (by omega) (by omega)
    have u2f : IntKind.i64.wrap (4 * a.l2 * a.w) = 4 * a.l2 * a.w := wrap_small (by omega) (by omega)
    have u2g : IntKind.i64.wrap (4 * a.l2 * a.w * 4394000) = 4 * a.l2 * a.w * 4394000 := wrap_small (by omega) (by omega)
    have u2h : IntKind.i64.wrap (4 * a.l2 * a.w * 4394000 * 4394000) = 4 * a.l2 * a.w * 19307236000000 := by rw [wrap_small (by omega) (by omega)]; omega
    rw [t0x, t0y] at y0
    rw [t0x] at m01 m02
    rw [t0y] at m01 m02
    rw [t0x] at z01x z02x
    rw [t0y] at z01y z02y
    rw [t1x, t1y] at y1
    rw [t1x] at m11 m12
    rw [t1y] at m11 m12
    rw [t1x] at z11x z12x
    rw [t1y] at z11y z12y
    rw [t2x, t2y] at y2
    rw [t2x] at m21 m22
    rw [t2y] at m21 m22
    rw [t2x] at z21x z22x
    rw [t2y] at z21y z22y
    simp only [lrs, rc, List.map_cons, List.map_nil, c2, Go.Geo.c2, lkv, t0x, t0y, t1x, t1y, t2x, t2y] at f2 v0 w0 x0 y0 v1 w1 x1 y1 v2 w2 x2 y2
    unfold ppv at f1
    clear R v
    generalize pp a d = p at *
    generalize 67600 * d.x1 = X0 at *
    generalize 67600 * d.y1 = Y0 at *
    generalize 1040 * d.x2 = X1 at *
    generalize 1040 * d.y2 = Y1 at *
    generalize 16 * d.x3 = X2 at *
    generalize 16 * d.y3 = Y2 at *
    rw [pc_eq]; simp +contextual -implicitDefEqProofs (maxSteps := 2000000) only [go_sem, ↓reduceIte, Nat.reduceAdd, Nat.reduceMul, Nat.reduceSub, Nat.reduceEqDiff, Nat.reduceLeDiff, Nat.reduceDiv, Nat.reduceMod, Nat.reduceBEq, Nat.reduceBNe, reduceCtorEq, Int.reduceLE, Int.reduceLT, Int.reduceToNat, Int.reduceNeg, Nat.reduceLT, Int.reduceEq, Int.reduceSub, Int.reduceAdd, Int.reduceMul, Nat.reducePow, Int.reduceBEq, Int.reduceBNe, Int.reduceMod, E_8, A8, A8_L1_eq, A8_L1b, A8_L0_eq, A8_L0b, e0, e1, e5, f1, f2, m00, z00x, z00y, m01, z01x, z01y, m02, z02x, z02y, m03, z03x, z03y, v0, w0, x0, y0, n0, s0x, s0y, q0, u0a, u0b, u0c, u0d, u0e, u0f, u0g, u0h, m10, z10x, z10y, m11, z11x, z11y, m12, z12x, z12y, m13, z13x, z13y, v1, w1, x1, y1, n1, s1x, s1y, q1, u1a, u1b, u1c, u1d, u1e, u1f, u1g, u1h, m20, z20x, z20y, m21, z21x, z21y, m22, z22x, z22y, m23, z23x, z23y, v2, w2, x2, y2, n2, s2x, s2y, q2, u2a, u2b, u2c, u2d, u2e, u2f, u2g, u2h, bne_self_eq_false, beq_self_eq_true]
end Go.Proofs.Ytnecdcaaknhgpaa
