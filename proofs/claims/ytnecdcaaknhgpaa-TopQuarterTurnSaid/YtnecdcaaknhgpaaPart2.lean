/- Part of the proof: the evaluation of the program's code and its tie to the machine, or what functions of the program compute over it. -/
import Derived.Test.YtnecdcaaknhgpaaPart1
import Derived.Test.YtnecdcaaknhgpaaEng6
namespace Go.Proofs.Ytnecdcaaknhgpaa.G
set_option maxRecDepth 100000
set_option maxHeartbeats 4000000
set_option linter.unusedSimpArgs false
set_option linter.unusedVariables false
open Go Go.Zv
open Go.Geo
theorem c60 (x : List (List LV)) (h : LV.closeds [.vs x] = true) : pc E 60 [.vs x] = some (.fn (.func 89) [] [.fp [.vs x]]) := by
  rw [pc_eq]; simp +contextual -implicitDefEqProofs (maxSteps := 2000000) only [go_sem, ↓reduceIte, Nat.reduceAdd, Nat.reduceMul, Nat.reduceSub, Nat.reduceEqDiff, Nat.reduceLeDiff, Nat.reduceDiv, Nat.reduceMod, Nat.reduceBEq, Nat.reduceBNe, reduceCtorEq, Int.reduceLE, Int.reduceLT, Int.reduceToNat, Int.reduceNeg, Nat.reduceLT, Int.reduceEq, Int.reduceSub, Int.reduceAdd, Int.reduceMul, Nat.reducePow, Int.reduceBEq, Int.reduceBNe, Int.reduceMod, E_60, A60, h]
theorem cl_c2 (l : List Pt) : LV.closeds [.vs (l.map c2)] = true := rfl
theorem c60' (l : List Pt) : pc E 60 [.vs (l.map c2)] = some (.fn (.func 89) [] [.fp [.vs (l.map c2)]]) := c60 _ (cl_c2 l)
theorem c32 (l : List Pt) (hl : l.length ≤ 1000000000) : pc E 32 [.vs (l.map c2)] = some (.int .i64 (areaW l)) := by
  have h57 := c60' l
  have lp := loop_foldl (fun S => (K E A89_L0 S).bind (blockR 0 (some []) [3, 4, 24]))
    (fun k (x : Int) => ⟨[(0, .yl 1024000), (1, .fp [.vs (l.map c2)]), (5, .vs (l.map c2)), (6, .int .i64 l.length), (7, .int .i64 k)], [[(2, .int .i64 0), (3, .ptr 768 0), (7, .fn (Fn.func 89) [] [.fp [.vs (l.map c2)]])], [(0, .yl 1024000)]], [(1024000, .loop [(2, .int .i64 0), (3, .ptr 768 0), (7, .fn (Fn.func 89) [] [.fp [.vs (l.map c2)]])] [8, 9] A32_R0a A32_R0b LSt.ready AEx.nrm), (768, .box [.int .i64 x])], 1⟩)
    (eds l) arF (fun _ => True) (fun k e x hk he _ => ⟨trivial, by
      obtain ⟨hk', g1, g2⟩ := eds_get he
      have g1 := get_c2 g1
      have g2 := get_c2 g2
      obtain ⟨m1, m2, m3, m4, m5⟩ := mod_nat hk' hl
      have hw := wr_k (k := k) (by omega)
      have h1 : (k : Int) < l.length := by omega
      have h0 : (0 : Int) ≤ k := by omega
      obtain ⟨⟨px, py⟩, ⟨qx, qy⟩⟩ := e
      show (K E A89_L0 _).bind _ = (K E A89_L0 _).bind _
      conv => lhs; rw [A89_L0_eq]
      simp +contextual -implicitDefEqProofs (maxSteps := 2000000) only [go_sem, ↓reduceIte, Nat.reduceAdd, Nat.reduceMul, Nat.reduceSub, Nat.reduceEqDiff, Nat.reduceLeDiff, Nat.reduceDiv, Nat.reduceMod, Nat.reduceBEq, Nat.reduceBNe, reduceCtorEq, Int.reduceLE, Int.reduceLT, Int.reduceToNat, Int.reduceNeg, Nat.reduceLT, Int.reduceEq, Int.reduceSub, Int.reduceAdd, Int.reduceMul, Nat.reducePow, Int.reduceBEq, Int.reduceBNe, Int.reduceMod, A89_L0b, A32_R0a, A32_R0b, List.length_map, h0, h1, g1, g2, m1, m2, m3, m4, m5, hw, arF]⟩) 0 trivial
  have stop : ∀ x : Int, (K E A89_L0 ⟨[(0, .yl 1024000), (1, .fp [.vs (l.map c2)]), (5, .vs (l.map c2)), (6, .int .i64 l.length), (7, .int .i64 l.length)], [[(2, .int .i64 0), (3, .ptr 768 0), (7, .fn (Fn.func 89) [] [.fp [.vs (l.map c2)]])], [(0, .yl 1024000)]], [(1024000, .loop [(2, .int .i64 0), (3, .ptr 768 0), (7, .fn (Fn.func 89) [] [.fp [.vs (l.map c2)]])] [8, 9] A32_R0a A32_R0b LSt.ready AEx.nrm), (768, .box [.int .i64 x])], 1⟩).bind (blockR 0 (some []) [3, 4, 24]) = some (.ex .nrm ⟨[], [[(2, .int .i64 0), (3, .ptr 768 0), (7, .fn (Fn.func 89) [] [.fp [.vs (l.map c2)]])], [(0, .yl 1024000)]], [(1024000, .loop [(2, .int .i64 0), (3, .ptr 768 0), (7, .fn (Fn.func 89) [] [.fp [.vs (l.map c2)]])] [8, 9] A32_R0a A32_R0b LSt.ready AEx.nrm), (768, .box [.int .i64 x])], 1⟩) := fun x => by
    rw [A89_L0_eq]; simp +contextual -implicitDefEqProofs (maxSteps := 2000000) only [go_sem, ↓reduceIte, Nat.reduceAdd, Nat.reduceMul, Nat.reduceSub, Nat.reduceEqDiff, Nat.reduceLeDiff, Nat.reduceDiv, Nat.reduceMod, Nat.reduceBEq, Nat.reduceBNe, reduceCtorEq, Int.reduceLE, Int.reduceLT, Int.reduceToNat, Int.reduceNeg, Nat.reduceLT, Int.reduceEq, Int.reduceSub, Int.reduceAdd, Int.reduceMul, Nat.reducePow, Int.reduceBEq, Int.reduceBNe, Int.reduceMod, A89_L0b, Int.lt_irrefl]
  rw [eds_len] at lp
  simp only [stop, Int.natCast_zero, Int.ofNat_zero] at lp
  rw [pc_eq]; simp +contextual -implicitDefEqProofs (maxSteps := 2000000) only [go_sem, ↓reduceIte, Nat.reduceAdd, Nat.reduceMul, Nat.reduceSub, Nat.reduceEqDiff, Nat.reduceLeDiff, Nat.reduceDiv, Nat.reduceMod, Nat.reduceBEq, Nat.reduceBNe, reduceCtorEq, Int.reduceLE, Int.reduceLT, Int.reduceToNat, Int.reduceNeg, Nat.reduceLT, Int.reduceEq, Int.reduceSub, Int.reduceAdd, Int.reduceMul, Nat.reducePow, Int.reduceBEq, Int.reduceBNe, Int.reduceMod, E_32, A32, h57, E_89, A89, A32_R0, List.length_map, lp, areaW]
abbrev FR28 (l : List Pt) : Env := [(3, .ptr 768 0), (4, .ptr 1024 0), (5, .ptr 1280 0), (11, .fn (Fn.func 89) [] [.fp [.vs (l.map c2)]])]
theorem c33 (l : List Pt) (hl : l.length ≤ 1000000000) (px py : Int) : pc E 33 [.vs (l.map c2), .agg [.int .i64 px, .int .i64 py]] = some (.int .i64 (locI l (px, py))) := by
  have h57 := c60' l
  have lp := loop_leave (fun S => (K E A89_L0 S).bind (blockR 0 (some []) [3, 4, 24]))
    (fun k (x : Bool) => ⟨[(0, .yl 1024000), (1, .fp [.vs (l.map c2)]), (5, .vs (l.map c2)), (6, .int .i64 l.length), (7, .int .i64 k)], [FR28 l, [(0, .yl 1024000)]], [(1024000, .loop (FR28 l) [12, 13] A33_R0a A33_R0b LSt.ready AEx.nrm), (1280, .box [.bool x]), (1024, .box [.int .i64 0]), (768, .box [.int .i64 px, .int .i64 py])], 1⟩)
    (eds l) (parF (px, py)) (onE (px, py)) (fun o => ∃ (k : Int) (x : Bool), o = some (.ex .ret ⟨[(0, .yl 1024000), (1, .fp [.vs (l.map c2)]), (5, .vs (l.map c2)), (6, .int .i64 l.length), (7, .int .i64 k), (25, .bool true)], [FR28 l, [(0, .yl 1024000)]], [(1024000, .loop (FR28 l) [12, 13] A33_R0a A33_R0b LSt.done AEx.ret), (1280, .box [.bool x]), (1024, .box [.int .i64 0]), (768, .box [.int .i64 px, .int .i64 py])], 1⟩))
    (fun x => some (.ex .nrm ⟨[], [FR28 l, [(0, .yl 1024000)]], [(1024000, .loop (FR28 l) [12, 13] A33_R0a A33_R0b LSt.ready AEx.nrm), (1280, .box [.bool x]), (1024, .box [.int .i64 0]), (768, .box [.int .i64 px, .int .i64 py])], 1⟩))
    (fun x => by
      rw [eds_len]
      show (K E A89_L0 _).bind _ = _
      rw [A89_L0_eq]; simp +contextual -implicitDefEqProofs (maxSteps := 2000000) only [go_sem, ↓reduceIte, Nat.reduceAdd, Nat.reduceMul, Nat.reduceSub, Nat.reduceEqDiff, Nat.reduceLeDiff, Nat.reduceDiv, Nat.reduceMod, Nat.reduceBEq, Nat.reduceBNe, reduceCtorEq, Int.reduceLE, Int.reduceLT, Int.reduceToNat, Int.reduceNeg, Nat.reduceLT, Int.reduceEq, Int.reduceSub, Int.reduceAdd, Int.reduceMul, Nat.reducePow, Int.reduceBEq, Int.reduceBNe, Int.reduceMod, A89_L0b, Int.lt_irrefl])
    (fun k e x hk he => by
      obtain ⟨hk', g1, g2⟩ := eds_get he
      have g1 := get_c2 g1
      have g2 := get_c2 g2
      obtain ⟨m1, m2, m3, m4, m5⟩ := mod_nat hk' hl
      have hw := wr_k (k := k) (by omega)
      have h1 : (k : Int) < l.length := by omega
      have h0 : (0 : Int) ≤ k := by omega
      obtain ⟨⟨ax, ay⟩, ⟨bx, by_⟩⟩ := e
      have o1 := c61 ax ay bx by_ px py
      have o2 := c62 ax ay bx by_ px py
      refine ⟨fun hp => ⟨k, x, ?_⟩, fun hp => ?_⟩
      · simp only [onE] at hp
        rw [hp] at o1
        show (K E A89_L0 _).bind _ = _
        rw [A89_L0_eq]
        simp +contextual -implicitDefEqProofs (maxSteps := 2000000) only [go_sem, ↓reduceIte, Nat.reduceAdd, Nat.reduceMul, Nat.reduceSub, Nat.reduceEqDiff, Nat.reduceLeDiff, Nat.reduceDiv, Nat.reduceMod, Nat.reduceBEq, Nat.reduceBNe, reduceCtorEq, Int.reduceLE, Int.reduceLT, Int.reduceToNat, Int.reduceNeg, Nat.reduceLT, Int.reduceEq, Int.reduceSub, Int.reduceAdd, Int.reduceMul, Nat.reducePow, Int.reduceBEq, Int.reduceBNe, Int.reduceMod, A89_L0b, A33_R0a, A33_R0b, List.length_map, h0, h1, g1, g2, m1, m2, m3, m4, m5, hw, o1]
      · simp only [onE] at hp
        rw [hp] at o1
        show (K E A89_L0 _).bind _ = (K E A89_L0 _).bind _
        conv => lhs; rw [A89_L0_eq]
        simp only [parF, flE]
        generalize sgn (crW ax ay bx by_ px py) = s at *
        by_cases d1 : py < ay <;> by_cases d2 : py < by_ <;> by_cases d3 : 0 < s <;> by_cases d4 : ay < by_ <;> cases x <;>
          simp +contextual -implicitDefEqProofs (maxSteps := 2000000) only [go_sem, ↓reduceIte, Nat.reduceAdd, Nat.reduceMul, Nat.reduceSub, Nat.reduceEqDiff, Nat.reduceLeDiff, Nat.reduceDiv, Nat.reduceMod, Nat.reduceBEq, Nat.reduceBNe, reduceCtorEq, Int.reduceLE, Int.reduceLT, Int.reduceToNat, Int.reduceNeg, Nat.reduceLT, Int.reduceEq, Int.reduceSub, Int.reduceAdd, Int.reduceMul, Nat.reducePow, Int.reduceBEq, Int.reduceBNe, Int.reduceMod, A89_L0b, A33_R0a, A33_R0b, List.length_map, h0, h1, g1, g2, m1, m2, m3, m4, m5, hw, o1, o2, d1, d2, d3, d4, decide_true, decide_false, bne_self_eq_false, beq_self_eq_true, Bool.and_true, Bool.and_false])
    false
  simp only [Int.natCast_zero, Int.ofNat_zero] at lp
  unfold locI
  cases ha : (eds l).any (onE (px, py)) with
  | true =>
    obtain ⟨k, x, lq⟩ := lp.1 ha
    rw [pc_eq]; simp +contextual -implicitDefEqProofs (maxSteps := 2000000) only [go_sem, ↓reduceIte, Nat.reduceAdd, Nat.reduceMul, Nat.reduceSub, Nat.reduceEqDiff, Nat.reduceLeDiff, Nat.reduceDiv, Nat.reduceMod, Nat.reduceBEq, Nat.reduceBNe, reduceCtorEq, Int.reduceLE, Int.reduceLT, Int.reduceToNat, Int.reduceNeg, Nat.reduceLT, Int.reduceEq, Int.reduceSub, Int.reduceAdd, Int.reduceMul, Nat.reducePow, Int.reduceBEq, Int.reduceBNe, Int.reduceMod, E_33, A33, h57, E_89, A89, A33_R0, List.length_map, lq]
  | false =>
    have lq := lp.2 ha
    cases hb : (eds l).foldl (parF (px, py)) false <;> rw [hb] at lq <;> rw [pc_eq] <;> simp +contextual -implicitDefEqProofs (maxSteps := 2000000) only [go_sem, ↓reduceIte, Nat.reduceAdd, Nat.reduceMul, Nat.reduceSub, Nat.reduceEqDiff, Nat.reduceLeDiff, Nat.reduceDiv, Nat.reduceMod, Nat.reduceBEq, Nat.reduceBNe, reduceCtorEq, Int.reduceLE, Int.reduceLT, Int.reduceToNat, Int.reduceNeg, Nat.reduceLT, Int.reduceEq, Int.reduceSub, Int.reduceAdd, Int.reduceMul, Nat.reducePow, Int.reduceBEq, Int.reduceBNe, Int.reduceMod, E_33, A33, h57, E_89, A89, A33_R0, List.length_map, lq]
abbrev FR67 (l : List Pt) : Env := [(1, .ptr 256 0), (2, .ptr 512 0), (3, .ptr 768 0), (11, .fn (Fn.func 89) [] [.fp [.vs (l.map c2)]])]
abbrev FI67 (l : List Pt) : Env := [(2, .ptr 512 0), (3, .ptr 768 0), (4, .ptr 2098176 0), (5, .ptr 2098432 0), (28, .fn (Fn.func 89) [] [.fp [.vs (l.map c2)]])]
abbrev FF67 (l : List Pt) (k ax ay bx by_ k1 : Int) (k1m : Nat) : List Env := [FI67 l, [(0, .yl 3121153)], [(0, .yl 1024000)], [(23, .agg [.int .i64 ax, .int .i64 ay, .int .i64 bx, .int .i64 by_]), (22, .agg [.int .i64 bx, .int .i64 by_]), (21, .fp [.int .i64 bx, .int .i64 by_]), (20, .int .i64 k1m), (19, .int .i64 l.length), (18, .vs (l.map c2)), (17, .int .i64 k1), (16, .int .i64 k), (15, .vs (l.map c2)), (14, .agg [.int .i64 ax, .int .i64 ay]), (13, .int .i64 k), (12, .yl 1024000), (0, .yl 1024000), (1, .fp [.vs (l.map c2)]), (3, .int .i64 k), (4, .ptr 1049600 0), (5, .vs (l.map c2)), (6, .int .i64 l.length), (7, .int .i64 k)], FR67 l, [(0, .yl 1024000)]]
abbrev OO67 (l : List Pt) (k ax ay bx by_ : Int) (st : LSt) (pe : AEx) : Heap := [(3121153, .loop (FI67 l) [29, 30] A59_R0a A59_R0b st pe), (2098432, .box [.int .i64 ax, .int .i64 ay, .int .i64 bx, .int .i64 by_]), (2098176, .box [.int .i64 k]), (1049600, .box [.int .i64 ax, .int .i64 ay]), (1024000, .loop (FR67 l) [12, 13] A59_R1a A59_R1b LSt.busy AEx.nrm), (768, .box [.int .i64 l.length]), (512, .box [.bool false]), (256, .box [.vs (l.map c2)])]
theorem in67 (l : List Pt) (hl : l.length ≤ 1000000000) (k : Nat) (hk : k < l.length) (ax ay bx by_ : Int) :
    ((List.range l.length).any (fun j => !adjB l.length k j && cutB ax ay bx by_ (edn l j).1.1 (edn l j).1.2 (edn l j).2.1 (edn l j).2.2) = true → ∃ j : Int, (K E A89_L0 ⟨[(0, .yl 3121153), (1, .fp [.vs (l.map c2)]), (5, .vs (l.map c2)), (6, .int .i64 l.length), (7, .int .i64 0)], FF67 l k ax ay bx by_ (k + 1 : Nat) ((k + 1) % l.length), OO67 l k ax ay bx by_ .ready .nrm, 3⟩).bind (blockR 0 (some []) [3, 4, 24]) =
      some (.ex .ret ⟨[(0, .yl 3121153), (1, .fp [.vs (l.map c2)]), (5, .vs (l.map c2)), (6, .int .i64 l.length), (7, .int .i64 j), (25, .bool true)], FF67 l k ax ay bx by_ (k + 1 : Nat) ((k + 1) % l.length), OO67 l k ax ay bx by_ .done .ret, 3⟩)) ∧
    ((List.range l.length).any (fun j => !adjB l.length k j && cutB ax ay bx by_ (edn l j).1.1 (edn l j).1.2 (edn l j).2.1 (edn l j).2.2) = false → (K E A89_L0 ⟨[(0, .yl 3121153), (1, .fp [.vs (l.map c2)]), (5, .vs (l.map c2)), (6, .int .i64 l.length), (7, .int .i64 0)], FF67 l k ax ay bx by_ (k + 1 : Nat) ((k + 1) % l.length), OO67 l k ax ay bx by_ .ready .nrm, 3⟩).bind (blockR 0 (some []) [3, 4, 24]) =
      some (.ex .nrm ⟨[], FF67 l k ax ay bx by_ (k + 1 : Nat) ((k + 1) % l.length), OO67 l k ax ay bx by_ .ready .nrm, 3⟩)) := by
  have lp := loop_leave (σ := Unit) (fun S => (K E A89_L0 S).bind (blockR 0 (some []) [3, 4, 24]))
    (fun j _ => ⟨[(0, .yl 3121153), (1, .fp [.vs (l.map c2)]), (5, .vs (l.map c2)), (6, .int .i64 l.length), (7, .int .i64 j)], FF67 l k ax ay bx by_ (k + 1 : Nat) ((k + 1) % l.length), OO67 l k ax ay bx by_ .ready .nrm, 3⟩)
    (List.range l.length) (fun _ _ => ()) (fun j => !adjB l.length k j && cutB ax ay bx by_ (edn l j).1.1 (edn l j).1.2 (edn l j).2.1 (edn l j).2.2)
    (fun o => ∃ j : Int, o = some (.ex .ret ⟨[(0, .yl 3121153), (1, .fp [.vs (l.map c2)]), (5, .vs (l.map c2)), (6, .int .i64 l.length), (7, .int .i64 j), (25, .bool true)], FF67 l k ax ay bx by_ (k + 1 : Nat) ((k + 1) % l.length), OO67 l k ax ay bx by_ .done .ret, 3⟩))
    (fun _ => some (.ex .nrm ⟨[], FF67 l k ax ay bx by_ (k + 1 : Nat) ((k + 1) % l.length), OO67 l k ax ay bx by_ .ready .nrm, 3⟩))
    (fun x => by
      rw [List.length_range]
      show (K E A89_L0 _).bind _ = _
      rw [A89_L0_eq]; simp +contextual -implicitDefEqProofs (maxSteps := 2000000) only [go_sem, ↓reduceIte, Nat.reduceAdd, Nat.reduceMul, Nat.reduceSub, Nat.reduceEqDiff, Nat.reduceLeDiff, Nat.reduceDiv, Nat.reduceMod, Nat.reduceBEq, Nat.reduceBNe, reduceCtorEq, Int.reduceLE, Int.reduceLT, Int.reduceToNat, Int.reduceNeg, Nat.reduceLT, Int.reduceEq, Int.reduceSub, Int.reduceAdd, Int.reduceMul, Nat.reducePow, Int.reduceBEq, Int.reduceBNe, Int.reduceMod, A89_L0b, Int.lt_irrefl])
    (fun j j' x hj he => by
      rw [List.length_range] at hj
      rw [range_get hj] at he
      cases he
      obtain ⟨_, g1, g2⟩ := eds_get (edn_get hj)
      have g1 := get_c2 g1
      have g2 := get_c2 g2
      obtain ⟨m1, m2, m3, m4, m5⟩ := mod_nat hj hl
      obtain ⟨n1, _, _, n4, n5⟩ := mod_nat hk hl
      have hw := wr_k (k := j) (by omega)
      have hw2 := wr_k (k := k) (by omega)
      have h1 : (j : Int) < l.length := by omega
      have h0 : (0 : Int) ≤ j := by omega
      have a1 : ((j : Int) == (k : Int)) = decide (j = k) := by rw [Bool.eq_iff_iff]; simp only [beq_iff_eq, decide_eq_true_eq]; omega
      have a2 : ((j : Int) == (((k + 1) % l.length : Nat) : Int)) = decide (j = (k + 1) % l.length) := by rw [Bool.eq_iff_iff]; simp only [beq_iff_eq, decide_eq_true_eq]; omega
      have a3 : ((k : Int) == (((j + 1) % l.length : Nat) : Int)) = decide (k = (j + 1) % l.length) := by rw [Bool.eq_iff_iff]; simp only [beq_iff_eq, decide_eq_true_eq]; omega
      generalize edn l j = e at *
      obtain ⟨⟨cx, cy⟩, ⟨dx, dy⟩⟩ := e
      have o1 := c88 ax ay bx by_ cx cy dx dy
      simp only [adjB] at *
      generalize ((k + 1) % l.length) = k1 at *
      generalize ((j + 1) % l.length) = j1 at *
      refine ⟨fun hp => ⟨j, ?_⟩, fun hp => ?_⟩
      · simp only [Bool.and_eq_true, Bool.not_eq_true', Bool.or_eq_false_iff, decide_eq_false_iff_not] at hp
        obtain ⟨⟨d1, d2, d3⟩, hc⟩ := hp
        rw [hc] at o1
        show (K E A89_L0 _).bind _ = _
        rw [A89_L0_eq]
        simp +contextual -implicitDefEqProofs (maxSteps := 2000000) only [go_sem, ↓reduceIte, Nat.reduceAdd, Nat.reduceMul, Nat.reduceSub, Nat.reduceEqDiff, Nat.reduceLeDiff, Nat.reduceDiv, Nat.reduceMod, Nat.reduceBEq, Nat.reduceBNe, reduceCtorEq, Int.reduceLE, Int.reduceLT, Int.reduceToNat, Int.reduceNeg, Nat.reduceLT, Int.reduceEq, Int.reduceSub, Int.reduceAdd, Int.reduceMul, Nat.reducePow, Int.reduceBEq, Int.reduceBNe, Int.reduceMod, OO67, FF67, FI67, FR67, A89_L0b, A59_R0a, A59_R0b, List.length_map, h0, h1, g1, g2, m1, m2, m3, m4, m5, n1, n4, n5, hw, hw2, a1, a2, a3, d1, d2, d3, decide_false, o1]
      · show (K E A89_L0 _).bind _ = (K E A89_L0 _).bind _
        conv => lhs; rw [A89_L0_eq]
        by_cases d1 : j = k
        · have e1 := decide_eq_true d1
          simp +contextual -implicitDefEqProofs (maxSteps := 2000000) only [go_sem, ↓reduceIte, Nat.reduceAdd, Nat.reduceMul, Nat.reduceSub, Nat.reduceEqDiff, Nat.reduceLeDiff, Nat.reduceDiv, Nat.reduceMod, Nat.reduceBEq, Nat.reduceBNe, reduceCtorEq, Int.reduceLE, Int.reduceLT, Int.reduceToNat, Int.reduceNeg, Nat.reduceLT, Int.reduceEq, Int.reduceSub, Int.reduceAdd, Int.reduceMul, Nat.reducePow, Int.reduceBEq, Int.reduceBNe, Int.reduceMod, OO67, FF67, FI67, FR67, A89_L0b, A59_R0a, A59_R0b, List.length_map, h0, h1, g1, g2, m1, m2, m3, m4, m5, n1, n4, n5, hw, hw2, a1, a2, a3, e1]
        · by_cases d2 : j = k1
          · have e1 := decide_eq_false d1
            have e2 := decide_eq_true d2
            simp +contextual -implicitDefEqProofs (maxSteps := 2000000) only [go_sem, ↓reduceIte, Nat.reduceAdd, Nat.reduceMul, Nat.reduceSub, Nat.reduceEqDiff, Nat.reduceLeDiff, Nat.reduceDiv, Nat.reduceMod, Nat.reduceBEq, Nat.reduceBNe, reduceCtorEq, Int.reduceLE, Int.reduceLT, Int.reduceToNat, Int.reduceNeg, Nat.reduceLT, Int.reduceEq, Int.reduceSub, Int.reduceAdd, Int.reduceMul, Nat.reducePow, Int.reduceBEq, Int.reduceBNe, Int.reduceMod, OO67, FF67, FI67, FR67, A89_L0b, A59_R0a, A59_R0b, List.length_map, h0, h1, g1, g2, m1, m2, m3, m4, m5, n1, n4, n5, hw, hw2, a1, a2, a3, e1, e2]
          · by_cases d3 : k = j1
            · have e1 := decide_eq_false d1
              have e2 := decide_eq_false d2
              have e3 := decide_eq_true d3
              simp +contextual -implicitDefEqProofs (maxSteps := 2000000) only [go_sem, ↓reduceIte, Nat.reduceAdd, Nat.reduceMul, Nat.reduceSub, Nat.reduceEqDiff, Nat.reduceLeDiff, Nat.reduceDiv, Nat.reduceMod, Nat.reduceBEq, Nat.reduceBNe, reduceCtorEq, Int.reduceLE, Int.reduceLT, Int.reduceToNat, Int.reduceNeg, Nat.reduceLT, Int.reduceEq, Int.reduceSub, Int.reduceAdd, Int.reduceMul, Nat.reducePow, Int.reduceBEq, Int.reduceBNe, Int.reduceMod, OO67, FF67, FI67, FR67, A89_L0b, A59_R0a, A59_R0b, List.length_map, h0, h1, g1, g2, m1, m2, m3, m4, m5, n1, n4, n5, hw, hw2, a1, a2, a3, e1, e2, e3]
            · simp only [d1, d2, d3, decide_false, Bool.or_false, Bool.not_false, Bool.true_and] at hp
              rw [hp] at o1
              simp +contextual -implicitDefEqProofs (maxSteps := 2000000) only [go_sem, ↓reduceIte, Nat.reduceAdd, Nat.reduceMul, Nat.reduceSub, Nat.reduceEqDiff, Nat.reduceLeDiff, Nat.reduceDiv, Nat.reduceMod, Nat.reduceBEq, Nat.reduceBNe, reduceCtorEq, Int.reduceLE, Int.reduceLT, Int.reduceToNat, Int.reduceNeg, Nat.reduceLT, Int.reduceEq, Int.reduceSub, Int.reduceAdd, Int.reduceMul, Nat.reducePow, Int.reduceBEq, Int.reduceBNe, Int.reduceMod, OO67, FF67, FI67, FR67, A89_L0b, A59_R0a, A59_R0b, List.length_map, h0, h1, g1, g2, m1, m2, m3, m4, m5, n1, n4, n5, hw, hw2, a1, a2, a3, d1, d2, d3, decide_false, o1])
    ()
  simp only [Int.natCast_zero, Int.ofNat_zero] at lp
  exact lp
theorem wr_2 {k : Nat} (h : k ≤ 1000000000) : IntKind.i64.wrap (((k : Nat) : Int) + 2) = ((k + 2 : Nat) : Int) := by rw [wrap_small (by omega) (by omega)]; omega
theorem mod2_nat {k n : Nat} (hk : k < n) (hn : n ≤ 1000000000) : (((k + 2 : Nat) : Int)).tmod (n : Int) = (((k + 2) % n : Nat) : Int) ∧ (0 : Int) ≤ (((k + 2) % n : Nat) : Int) ∧ (((k + 2) % n : Nat) : Int) < n := by
  have h := Nat.mod_lt (k + 2) (show n > 0 by omega)
  refine ⟨?_, by omega, by omega⟩
  rw [Int.tmod_eq_emod_of_nonneg (by omega)]; rfl
theorem c59 (l : List Pt) (hl : l.length ≤ 1000000000) : pc E 59 [.vs (l.map c2)] = some (.bool (simB l)) := by
  have h57 := c60' l
  have lp := loop_leave (σ := Unit) (fun S => (K E A89_L0 S).bind (blockR 0 (some []) [3, 4, 24]))
    (fun k _ => ⟨[(0, .yl 1024000), (1, .fp [.vs (l.map c2)]), (5, .vs (l.map c2)), (6, .int .i64 l.length), (7, .int .i64 k)], [FR67 l, [(0, .yl 1024000)]], [(1024000, .loop (FR67 l) [12, 13] A59_R1a A59_R1b LSt.ready AEx.nrm), (768, .box [.int .i64 l.length]), (512, .box [.bool false]), (256, .box [.vs (l.map c2)])], 1⟩)
    (List.range l.length) (fun _ _ => ()) (bad1 l)
    (fun o => ∃ k : Int, o = some (.ex .ret ⟨[(0, .yl 1024000), (1, .fp [.vs (l.map c2)]), (5, .vs (l.map c2)), (6, .int .i64 l.length), (7, .int .i64 k), (25, .bool true)], [FR67 l, [(0, .yl 1024000)]], [(1024000, .loop (FR67 l) [12, 13] A59_R1a A59_R1b LSt.done AEx.ret), (768, .box [.int .i64 l.length]), (512, .box [.bool false]), (256, .box [.vs (l.map c2)])], 1⟩))
    (fun _ => some (.ex .nrm ⟨[], [FR67 l, [(0, .yl 1024000)]], [(1024000, .loop (FR67 l) [12, 13] A59_R1a A59_R1b LSt.ready AEx.nrm), (768, .box [.int .i64 l.length]), (512, .box [.bool false]), (256, .box [.vs (l.map c2)])], 1⟩))
    (fun x => by
      rw [List.length_range]
      show (K E A89_L0 _).bind _ = _
      rw [A89_L0_eq]; simp +contextual -implicitDefEqProofs (maxSteps := 2000000) only [go_sem, ↓reduceIte, Nat.reduceAdd, Nat.reduceMul, Nat.reduceSub, Nat.reduceEqDiff, Nat.reduceLeDiff, Nat.reduceDiv, Nat.reduceMod, Nat.reduceBEq, Nat.reduceBNe, reduceCtorEq, Int.reduceLE, Int.reduceLT, Int.reduceToNat, Int.reduceNeg, Nat.reduceLT, Int.reduceEq, Int.reduceSub, Int.reduceAdd, Int.reduceMul, Nat.reducePow, Int.reduceBEq, Int.reduceBNe, Int.reduceMod, A89_L0b, Int.lt_irrefl])
    (fun k j' x hk he => by
      rw [List.length_range] at hk
      rw [range_get hk] at he
      cases he
      obtain ⟨_, g1, g2⟩ := eds_get (edn_get hk)
      have g3 := ptn_mod (l := l) (k := k + 2) (by omega)
      have g1 := get_c2 g1
      have g2 := get_c2 g2
      have g3 := get_c2 g3
      obtain ⟨m1, m2, m3, m4, m5⟩ := mod_nat hk hl
      obtain ⟨n1, n4, n5⟩ := mod2_nat hk hl
      have hw := wr_k (k := k) (by omega)
      have hw2 := wr_2 (k := k) (by omega)
      have h1 : (k : Int) < l.length := by omega
      have h0 : (0 : Int) ≤ k := by omega
      have o1 := c62 (edn l k).1.1 (edn l k).1.2 (edn l k).2.1 (edn l k).2.2 (ptn l (k + 2)).1 (ptn l (k + 2)).2
      have q := in67 l hl k hk (edn l k).1.1 (edn l k).1.2 (edn l k).2.1 (edn l k).2.2
      have hb : bad1 l k = (decide (sgn (crW (edn l k).1.1 (edn l k).1.2 (edn l k).2.1 (edn l k).2.2 (ptn l (k + 2)).1 (ptn l (k + 2)).2) = 0) || (List.range l.length).any (fun j => !adjB l.length k j && cutB (edn l k).1.1 (edn l k).1.2 (edn l k).2.1 (edn l k).2.2 (edn l j).1.1 (edn l j).1.2 (edn l j).2.1 (edn l j).2.2)) := rfl
      rw [hb]
      generalize (List.range l.length).any (fun j => !adjB l.length k j && cutB (edn l k).1.1 (edn l k).1.2 (edn l k).2.1 (edn l k).2.2 (edn l j).1.1 (edn l j).1.2 (edn l j).2.1 (edn l j).2.2) = b2 at *
      generalize sgn (crW (edn l k).1.1 (edn l k).1.2 (edn l k).2.1 (edn l k).2.2 (ptn l (k + 2)).1 (ptn l (k + 2)).2) = s at *
      generalize edn l k = e at *
      generalize ptn l (k + 2) = c at *
      obtain ⟨⟨ax, ay⟩, ⟨bx, by_⟩⟩ := e
      obtain ⟨cx, cy⟩ := c
      simp only at g1 g2 g3 o1 q
      by_cases hs : s = 0
      · subst hs
        refine ⟨fun _ => ⟨k, ?_⟩, fun h => by simp at h⟩
        show (K E A89_L0 _).bind _ = _
        rw [A89_L0_eq]
        simp +contextual -implicitDefEqProofs (maxSteps := 2000000) only [go_sem, ↓reduceIte, Nat.reduceAdd, Nat.reduceMul, Nat.reduceSub, Nat.reduceEqDiff, Nat.reduceLeDiff, Nat.reduceDiv, Nat.reduceMod, Nat.reduceBEq, Nat.reduceBNe, reduceCtorEq, Int.reduceLE, Int.reduceLT, Int.reduceToNat, Int.reduceNeg, Nat.reduceLT, Int.reduceEq, Int.reduceSub, Int.reduceAdd, Int.reduceMul, Nat.reducePow, Int.reduceBEq, Int.reduceBNe, Int.reduceMod, FR67, A89_L0b, A59_R1a, A59_R1b, List.length_map, h0, h1, g1, g2, g3, m1, m2, m3, m4, m5, n1, n4, n5, hw, hw2, o1, beq_self_eq_true]
      · have hs' : (s == 0) = false := by simpa using hs
        cases b2 with
        | true =>
          refine ⟨fun _ => ⟨k, ?_⟩, fun h => by simp at h⟩
          obtain ⟨j, q⟩ := q.1 rfl
          simp only [OO67, FF67, FI67, FR67, A59_R0, A59_R0a, A59_R0b, A59_R1a, A59_R1b] at q
          show (K E A89_L0 _).bind _ = _
          rw [A89_L0_eq]
          simp +contextual -implicitDefEqProofs (maxSteps := 2000000) only [go_sem, ↓reduceIte, Nat.reduceAdd, Nat.reduceMul, Nat.reduceSub, Nat.reduceEqDiff, Nat.reduceLeDiff, Nat.reduceDiv, Nat.reduceMod, Nat.reduceBEq, Nat.reduceBNe, reduceCtorEq, Int.reduceLE, Int.reduceLT, Int.reduceToNat, Int.reduceNeg, Nat.reduceLT, Int.reduceEq, Int.reduceSub, Int.reduceAdd, Int.reduceMul, Nat.reducePow, Int.reduceBEq, Int.reduceBNe, Int.reduceMod, FR67, A89_L0b, A59_R0a, A59_R0b, A59_R1a, A59_R1b, List.length_map, h0, h1, g1, g2, g3, m1, m2, m3, m4, m5, n1, n4, n5, hw, hw2, o1, hs, hs', h57, E_89, A89, A59_R0, q]
        | false =>
          refine ⟨fun h => by simp [hs] at h, fun _ => ?_⟩
          have q := q.2 rfl
          simp only [OO67, FF67, FI67, FR67, A59_R0, A59_R0a, A59_R0b, A59_R1a, A59_R1b] at q
          show (K E A89_L0 _).bind _ = (K E A89_L0 _).bind _
          conv => lhs; rw [A89_L0_eq]
          simp +contextual -implicitDefEqProofs (maxSteps := 2000000) only [go_sem, ↓reduceIte, Nat.reduceAdd, Nat.reduceMul, Nat.reduceSub, Nat.reduceEqDiff, Nat.reduceLeDiff, Nat.reduceDiv, Nat.reduceMod, Nat.reduceBEq, Nat.reduceBNe, reduceCtorEq, Int.reduceLE, Int.reduceLT, Int.reduceToNat, Int.reduceNeg, Nat.reduceLT, Int.reduceEq, Int.reduceSub, Int.reduceAdd, Int.reduceMul, Nat.reducePow, Int.reduceBEq, Int.reduceBNe, Int.reduceMod, FR67, A89_L0b, A59_R0a, A59_R0b, A59_R1a, A59_R1b, List.length_map, h0, h1, g1, g2, g3, m1, m2, m3, m4, m5, n1, n4, n5, hw, hw2, o1, hs, hs', h57, E_89, A89, A59_R0, q])
    ()
  simp only [Int.natCast_zero, Int.ofNat_zero] at lp
  unfold simB
  cases ha : (List.range l.length).any (bad1 l) with
  | true =>
    obtain ⟨k, lq⟩ := lp.1 ha
    rw [pc_eq]; simp +contextual -implicitDefEqProofs (maxSteps := 2000000) only [go_sem, ↓reduceIte, Nat.reduceAdd, Nat.reduceMul, Nat.reduceSub, Nat.reduceEqDiff, Nat.reduceLeDiff, Nat.reduceDiv, Nat.reduceMod, Nat.reduceBEq, Nat.reduceBNe, reduceCtorEq, Int.reduceLE, Int.reduceLT, Int.reduceToNat, Int.reduceNeg, Nat.reduceLT, Int.reduceEq, Int.reduceSub, Int.reduceAdd, Int.reduceMul, Nat.reducePow, Int.reduceBEq, Int.reduceBNe, Int.reduceMod, E_59, A59, h57, E_89, A89, A59_R1, List.length_map, lq]
  | false =>
    have lq := lp.2 ha
    rw [pc_eq]; simp +contextual -implicitDefEqProofs (maxSteps := 2000000) only [go_sem, ↓reduceIte, Nat.reduceAdd, Nat.reduceMul, Nat.reduceSub, Nat.reduceEqDiff, Nat.reduceLeDiff, Nat.reduceDiv, Nat.reduceMod, Nat.reduceBEq, Nat.reduceBNe, reduceCtorEq, Int.reduceLE, Int.reduceLT, Int.reduceToNat, Int.reduceNeg, Nat.reduceLT, Int.reduceEq, Int.reduceSub, Int.reduceAdd, Int.reduceMul, Nat.reducePow, Int.reduceBEq, Int.reduceBNe, Int.reduceMod, E_59, A59, h57, E_89, A89, A59_R1, List.length_map, lq]
theorem c58 (x y : Int) : pc E 58 [.agg [.int .i64 x, .int .i64 y]] = some (.bool (mayB (x, y))) := by
  have hv : mayB (x, y) = (decide (mxI x y ≤ 439400000) && decide (-439400000 ≤ mnI x y)) := rfl
  rw [hv]
  by_cases h1 : mxI x y ≤ 439400000
  · by_cases h2 : -439400000 ≤ mnI x y <;> rw [pc_eq] <;> simp +contextual -implicitDefEqProofs (maxSteps := 2000000) only [go_sem, ↓reduceIte, Nat.reduceAdd, Nat.reduceMul, Nat.reduceSub, Nat.reduceEqDiff, Nat.reduceLeDiff, Nat.reduceDiv, Nat.reduceMod, Nat.reduceBEq, Nat.reduceBNe, reduceCtorEq, Int.reduceLE, Int.reduceLT, Int.reduceToNat, Int.reduceNeg, Nat.reduceLT, Int.reduceEq, Int.reduceSub, Int.reduceAdd, Int.reduceMul, Nat.reducePow, Int.reduceBEq, Int.reduceBNe, Int.reduceMod, E_58, A58, h1, h2, decide_true, decide_false]
  · rw [pc_eq]; simp +contextual -implicitDefEqProofs (maxSteps := 2000000) only [go_sem, ↓reduceIte, Nat.reduceAdd, Nat.reduceMul, Nat.reduceSub, Nat.reduceEqDiff, Nat.reduceLeDiff, Nat.reduceDiv, Nat.reduceMod, Nat.reduceBEq, Nat.reduceBNe, reduceCtorEq, Int.reduceLE, Int.reduceLT, Int.reduceToNat, Int.reduceNeg, Nat.reduceLT, Int.reduceEq, Int.reduceSub, Int.reduceAdd, Int.reduceMul, Nat.reducePow, Int.reduceBEq, Int.reduceBNe, Int.reduceMod, E_58, A58, h1, decide_true, decide_false]
theorem c57 (x y : Int) : pc E 57 [.agg [.int .i64 x, .int .i64 y]] = some (.bool (!mayB (x, y))) := by
  have h := c58 x y
  rw [pc_eq]; simp +contextual -implicitDefEqProofs (maxSteps := 2000000) only [go_sem, ↓reduceIte, Nat.reduceAdd, Nat.reduceMul, Nat.reduceSub, Nat.reduceEqDiff, Nat.reduceLeDiff, Nat.reduceDiv, Nat.reduceMod, Nat.reduceBEq, Nat.reduceBNe, reduceCtorEq, Int.reduceLE, Int.reduceLT, Int.reduceToNat, Int.reduceNeg, Nat.reduceLT, Int.reduceEq, Int.reduceSub, Int.reduceAdd, Int.reduceMul, Nat.reducePow, Int.reduceBEq, Int.reduceBNe, Int.reduceMod, E_57, A57, h]
theorem c87 (l : List Pt) (hl : l.length ≤ 1000000000) (f : FuncId) (P : Pt → Bool) (hf : ∀ p : Pt, pc E f [.agg [.int .i64 p.1, .int .i64 p.2]] = some (.bool (P p))) :
    ∃ i : Int, pc E 87 [.vs (l.map c2), .fn (.func f) [] []] = some (.int .i64 i) ∧ decide (0 ≤ i) = l.any P := by
  have lp := loop_leave (σ := Unit) (fun S => (K E A87_L0 S).bind (blockR 0 (some []) [4, 5, 16]))
    (fun k _ => ⟨[(0, .vs (l.map c2)), (1, .fn (.func f) [] []), (7, .int .i64 l.length), (8, .int .i64 k)], [], [], 0⟩)
    l (fun _ _ => ()) P (fun o => ∃ k : Nat, o = some (.ex .ret ⟨[(4, .int .i64 k)], [], [], 0⟩))
    (fun _ => some (.ex .nrm ⟨[], [], [], 0⟩))
    (fun x => by
      show (K E A87_L0 _).bind _ = _
      rw [A87_L0_eq]; simp +contextual -implicitDefEqProofs (maxSteps := 2000000) only [go_sem, ↓reduceIte, Nat.reduceAdd, Nat.reduceMul, Nat.reduceSub, Nat.reduceEqDiff, Nat.reduceLeDiff, Nat.reduceDiv, Nat.reduceMod, Nat.reduceBEq, Nat.reduceBNe, reduceCtorEq, Int.reduceLE, Int.reduceLT, Int.reduceToNat, Int.reduceNeg, Nat.reduceLT, Int.reduceEq, Int.reduceSub, Int.reduceAdd, Int.reduceMul, Nat.reducePow, Int.reduceBEq, Int.reduceBNe, Int.reduceMod, A87_L0b, Int.lt_irrefl])
    (fun k p x hk hp => by
      have g1 := get_c2 hp
      have h1 : (k : Int) < l.length := by omega
      have h0 : (0 : Int) ≤ k := by omega
      have hw := wr_k (k := k) (by omega)
      have hq := hf p
      obtain ⟨px, py⟩ := p
      simp only at hq
      refine ⟨fun h => ⟨k, ?_⟩, fun h => ?_⟩
      · rw [h] at hq
        show (K E A87_L0 _).bind _ = _
        rw [A87_L0_eq]
        simp +contextual -implicitDefEqProofs (maxSteps := 2000000) only [go_sem, ↓reduceIte, Nat.reduceAdd, Nat.reduceMul, Nat.reduceSub, Nat.reduceEqDiff, Nat.reduceLeDiff, Nat.reduceDiv, Nat.reduceMod, Nat.reduceBEq, Nat.reduceBNe, reduceCtorEq, Int.reduceLE, Int.reduceLT, Int.reduceToNat, Int.reduceNeg, Nat.reduceLT, Int.reduceEq, Int.reduceSub, Int.reduceAdd, Int.reduceMul, Nat.reducePow, Int.reduceBEq, Int.reduceBNe, Int.reduceMod, A87_L0b, List.length_map, h0, h1, g1, hw, hq]
      · rw [h] at hq
        show (K E A87_L0 _).bind _ = (K E A87_L0 _).bind _
        conv => lhs; rw [A87_L0_eq]
        simp +contextual -implicitDefEqProofs (maxSteps := 2000000) only [go_sem, ↓reduceIte, Nat.reduceAdd, Nat.reduceMul, Nat.reduceSub, Nat.reduceEqDiff, Nat.reduceLeDiff, Nat.reduceDiv, Nat.reduceMod, Nat.reduceBEq, Nat.reduceBNe, reduceCtorEq, Int.reduceLE, Int.reduceLT, Int.reduceToNat, Int.reduceNeg, Nat.reduceLT, Int.reduceEq, Int.reduceSub, Int.reduceAdd, Int.reduceMul, Nat.reducePow, Int.reduceBEq, Int.reduceBNe, Int.reduceMod, A87_L0b, List.length_map, h0, h1, g1, hw, hq])
    ()
  simp only [Int.natCast_zero, Int.ofNat_zero] at lp
  cases ha : l.any P with
  | true =>
    obtain ⟨k, lq⟩ := lp.1 ha
    refine ⟨k, ?_, by simp⟩
    rw [pc_eq]; simp +contextual -implicitDefEqProofs (maxSteps := 2000000) only [go_sem, ↓reduceIte, Nat.reduceAdd, Nat.reduceMul, Nat.reduceSub, Nat.reduceEqDiff, Nat.reduceLeDiff, Nat.reduceDiv, Nat.reduceMod, Nat.reduceBEq, Nat.reduceBNe, reduceCtorEq, Int.reduceLE, Int.reduceLT, Int.reduceToNat, Int.reduceNeg, Nat.reduceLT, Int.reduceEq, Int.reduceSub, Int.reduceAdd, Int.reduceMul, Nat.reducePow, Int.reduceBEq, Int.reduceBNe, Int.reduceMod, E_87, A87, List.length_map, lq]
  | false =>
    have lq := lp.2 ha
    refine ⟨-1, ?_, by simp⟩
    rw [pc_eq]; simp +contextual -implicitDefEqProofs (maxSteps := 2000000) only [go_sem, ↓reduceIte, Nat.reduceAdd, Nat.reduceMul, Nat.reduceSub, Nat.reduceEqDiff, Nat.reduceLeDiff, Nat.reduceDiv, Nat.reduceMod, Nat.reduceBEq, Nat.reduceBNe, reduceCtorEq, Int.reduceLE, Int.reduceLT, Int.reduceToNat, Int.reduceNeg, Nat.reduceLT, Int.reduceEq, Int.reduceSub, Int.reduceAdd, Int.reduceMul, Nat.reducePow, Int.reduceBEq, Int.reduceBNe, Int.reduceMod, E_87, A87, List.length_map, lq]
theorem c56 (l : List Pt) (hl : l.length ≤ 1000000000) (f : FuncId) (P : Pt → Bool) (hf : ∀ p : Pt, pc E f [.agg [.int .i64 p.1, .int .i64 p.2]] = some (.bool (P p))) :
    pc E 56 [.vs (l.map c2), .fn (.func f) [] []] = some (.bool (l.any P)) := by
  obtain ⟨i, h, hi⟩ := c87 l hl f P hf
  rw [← hi]
  rw [pc_eq]; simp +contextual -implicitDefEqProofs (maxSteps := 2000000) only [go_sem, ↓reduceIte, Nat.reduceAdd, Nat.reduceMul, Nat.reduceSub, Nat.reduceEqDiff, Nat.reduceLeDiff, Nat.reduceDiv, Nat.reduceMod, Nat.reduceBEq, Nat.reduceBNe, reduceCtorEq, Int.reduceLE, Int.reduceLT, Int.reduceToNat, Int.reduceNeg, Nat.reduceLT, Int.reduceEq, Int.reduceSub, Int.reduceAdd, Int.reduceMul, Nat.reducePow, Int.reduceBEq, Int.reduceBNe, Int.reduceMod, E_56, A56, h]
theorem c31 (l : List Pt) (hl : l.length ≤ 1000000000) : pc E 31 [.vs (l.map c2)] = some (.bool (valB l)) := by
  have h1 := c56 l hl 57 (fun p => !mayB p) (fun p => c57 p.1 p.2)
  have h2 := c59 l hl
  have h3 := c32 l hl
  have e : (l.any fun p => !mayB p) = !l.all mayB := by rw [List.all_eq_not_any_not]; simp
  rw [e] at h1
  have hv : valB l = (decide (3 ≤ l.length) && (decide (l.length ≤ 12) && (l.all mayB && (simB l && decide (0 < areaW l))))) := rfl
  rw [hv]
  by_cases k1 : (l.length : Int) < 3
  · have k1' : ¬ 3 ≤ l.length := by omega
    rw [pc_eq]; simp +contextual -implicitDefEqProofs (maxSteps := 2000000) only [go_sem, ↓reduceIte, Nat.reduceAdd, Nat.reduceMul, Nat.reduceSub, Nat.reduceEqDiff, Nat.reduceLeDiff, Nat.reduceDiv, Nat.reduceMod, Nat.reduceBEq, Nat.reduceBNe, reduceCtorEq, Int.reduceLE, Int.reduceLT, Int.reduceToNat, Int.reduceNeg, Nat.reduceLT, Int.reduceEq, Int.reduceSub, Int.reduceAdd, Int.reduceMul, Nat.reducePow, Int.reduceBEq, Int.reduceBNe, Int.reduceMod, E_31, A31, List.length_map, k1, k1', decide_true, decide_false]
  · have k1' : 3 ≤ l.length := by omega
    by_cases k2 : (12 : Int) < l.length
    · have k2' : ¬ l.length ≤ 12 := by omega
      rw [pc_eq]; simp +contextual -implicitDefEqProofs (maxSteps := 2000000) only [go_sem, ↓reduceIte, Nat.reduceAdd, Nat.reduceMul, Nat.reduceSub, Nat.reduceEqDiff, Nat.reduceLeDiff, Nat.reduceDiv, Nat.reduceMod, Nat.reduceBEq, Nat.reduceBNe, reduceCtorEq, Int.reduceLE, Int.reduceLT, Int.reduceToNat, Int.reduceNeg, Nat.reduceLT, Int.reduceEq, Int.reduceSub, Int.reduceAdd, Int.reduceMul, Nat.reducePow, Int.reduceBEq, Int.reduceBNe, Int.reduceMod, E_31, A31, List.length_map, k1, k1', k2, k2', decide_true, decide_false]
    · have k2' : l.length ≤ 12 := by omega
      cases ha : l.all mayB <;> rw [ha] at h1 <;> simp only [Bool.not_true, Bool.not_false] at h1
      · rw [pc_eq]; simp +contextual -implicitDefEqProofs (maxSteps := 2000000) only [go_sem, ↓reduceIte, Nat.reduceAdd, Nat.reduceMul, Nat.reduceSub, Nat.reduceEqDiff, Nat.reduceLeDiff, Nat.reduceDiv, Nat.reduceMod, Nat.reduceBEq, Nat.reduceBNe, reduceCtorEq, Int.reduceLE, Int.reduceLT, Int.reduceToNat, Int.reduceNeg, Nat.reduceLT, Int.reduceEq, Int.reduceSub, Int.reduceAdd, Int.reduceMul, Nat.reducePow, Int.reduceBEq, Int.reduceBNe, Int.reduceMod, E_31, A31, List.length_map, k1, k1', k2, k2', h1, decide_true, decide_false]
      · cases hs : simB l <;> rw [hs] at h2
        · rw [pc_eq]; simp +contextual -implicitDefEqProofs (maxSteps := 2000000) only [go_sem, ↓reduceIte, Nat.reduceAdd, Nat.reduceMul, Nat.reduceSub, Nat.reduceEqDiff, Nat.reduceLeDiff, Nat.reduceDiv, Nat.reduceMod, Nat.reduceBEq, Nat.reduceBNe, reduceCtorEq, Int.reduceLE, Int.reduceLT, Int.reduceToNat, Int.reduceNeg, Nat.reduceLT, Int.reduceEq, Int.reduceSub, Int.reduceAdd, Int.reduceMul, Nat.reducePow, Int.reduceBEq, Int.reduceBNe, Int.reduceMod, E_31, A31, List.length_map, k1, k1', k2, k2', h1, h2, decide_true, decide_false]
        · by_cases k3 : 0 < areaW l
          · rw [pc_eq]; simp +contextual -implicitDefEqProofs (maxSteps := 2000000) only [go_sem, ↓reduceIte, Nat.reduceAdd, Nat.reduceMul, Nat.reduceSub, Nat.reduceEqDiff, Nat.reduceLeDiff, Nat.reduceDiv, Nat.reduceMod, Nat.reduceBEq, Nat.reduceBNe, reduceCtorEq, Int.reduceLE, Int.reduceLT, Int.reduceToNat, Int.reduceNeg, Nat.reduceLT, Int.reduceEq, Int.reduceSub, Int.reduceAdd, Int.reduceMul, Nat.reducePow, Int.reduceBEq, Int.reduceBNe, Int.reduceMod, E_31, A31, List.length_map, k1, k1', k2, k2', h1, h2, h3, k3, decide_true, decide_false]
          · rw [pc_eq]; simp +contextual -implicitDefEqProofs (maxSteps := 2000000) only [go_sem, ↓reduceIte, Nat.reduceAdd, Nat.reduceMul, Nat.reduceSub, Nat.reduceEqDiff, Nat.reduceLeDiff, Nat.reduceDiv, Nat.reduceMod, Nat.reduceBEq, Nat.reduceBNe, reduceCtorEq, Int.reduceLE, Int.reduceLT, Int.reduceToNat, Int.reduceNeg, Nat.reduceLT, Int.reduceEq, Int.reduceSub, Int.reduceAdd, Int.reduceMul, Nat.reducePow, Int.reduceBEq, Int.reduceBNe, Int.reduceMod, E_31, A31, List.length_map, k1, k1', k2, k2', h1, h2, h3, k3, decide_true, decide_false]
end Go.Proofs.Ytnecdcaaknhgpaa.G

namespace Go.Geo
set_option maxRecDepth 100000
set_option maxHeartbeats 4000000
set_option linter.unusedSimpArgs false
set_option linter.unusedVariables false
open Go Go.Zv
theorem perm1 {α : Type} (g : Nat → α) (n : Nat) (h : ∀ k, g (k + n) = g k) : ((List.range n).map fun k => g (k + 1)).Perm ((List.range n).map g) := by
  cases n with
  | zero => exact List.Perm.refl _
  | succ m =>
    have e1 : (List.range (m + 1)).map (fun k => g (k + 1)) = (List.range m).map (fun k => g (k + 1)) ++ [g 0] := by
      rw [List.range_succ, List.map_append]
      have := h 0
      rw [Nat.zero_add] at this
      simp [this]
    have e2 : (List.range (m + 1)).map g = g 0 :: (List.range m).map (fun k => g (k + 1)) := by
      rw [List.range_succ_eq_map, List.map_cons, List.map_map]; rfl
    rw [e1, e2]
    exact List.perm_append_singleton _ _
theorem permR {α : Type} (g : Nat → α) (n : Nat) (h : ∀ k, g (k + n) = g k) (r : Nat) : ((List.range n).map fun k => g (k + r)).Perm ((List.range n).map g) := by
  induction r with
  | zero => exact List.Perm.refl _
  | succ r ih =>
    have := perm1 (fun k => g (k + r)) n (fun k => by show g (k + n + r) = g (k + r); rw [show k + n + r = k + r + n by omega, h])
    refine List.Perm.trans ?_ ih
    refine List.Perm.trans (List.Perm.of_eq ?_) this
    exact List.map_congr_left fun k _ => by show g (k + (r + 1)) = g (k + 1 + r); congr 1; omega
theorem edn_per (l : List Pt) (k : Nat) : edn l (k + l.length) = edn l k := by
  unfold edn ptn
  rw [Nat.add_mod_right, show k + l.length + 1 = k + 1 + l.length by omega, Nat.add_mod_right]
theorem eds_range (l : List Pt) : eds l = (List.range l.length).map (edn l) := by
  apply List.ext_getElem?
  intro i
  by_cases h : i < l.length
  · rw [edn_get h, List.getElem?_map, range_get h]; rfl
  · rw [List.getElem?_eq_none (by rw [eds_len]; omega), List.getElem?_eq_none (by simp; omega)]
/-- the polygon begun at its r-th corner -/
def rotL (r : Nat) (l : List Pt) : List Pt := (List.range l.length).map fun i => ptn l (i + r)
theorem rotL_len (r : Nat) (l : List Pt) : (rotL r l).length = l.length := by simp [rotL]
theorem ptn_rot (r : Nat) (l : List Pt) (k : Nat) (h : 0 < l.length) : ptn (rotL r l) k = ptn l (k + r) := by
  have h1 := ptn_mod (l := rotL r l) (k := k) (by rw [rotL_len]; exact h)
  have h2 : (rotL r l)[k % (rotL r l).length]? = some (ptn l (k % l.length + r)) := by
    unfold rotL
    rw [List.getElem?_map, List.length_map, List.length_range, range_get (Nat.mod_lt _ h)]; rfl
  rw [h1] at h2
  simp only [Option.some.injEq] at h2
  rw [h2]; unfold ptn; rw [Nat.mod_add_mod]
theorem edn_rot (r : Nat) (l : List Pt) (k : Nat) (h : 0 < l.length) : edn (rotL r l) k = edn l (k + r) := by
  unfold edn; rw [ptn_rot r l k h, ptn_rot r l (k + 1) h, show k + 1 + r = k + r + 1 by omega]
theorem eds_rot (r : Nat) (l : List Pt) : (eds (rotL r l)).Perm (eds l) := by
  by_cases h : 0 < l.length
  · rw [eds_range, eds_range l, rotL_len]
    have e : (List.range l.length).map (edn (rotL r l)) = (List.range l.length).map fun k => edn l (k + r) := List.map_congr_left fun k _ => edn_rot r l k h
    rw [e]
    exact permR (edn l) l.length (edn_per l) r
  · have e : l = [] := List.length_eq_zero_iff.1 (by omega)
    subst e; exact List.Perm.refl _
end Go.Geo

namespace Go.Geo
set_option maxRecDepth 100000
set_option maxHeartbeats 4000000
set_option linter.unusedSimpArgs false
set_option linter.unusedVariables false
open Go Go.Zv
/-- the rectangle about the segment from F, l times (X, Y) long, w times as wide to each side -/
def rc (fx fy l w X Y : Int) : List Pt := [(fx + w * Y, fy - w * X), (fx + l * X + w * Y, fy + l * Y - w * X), (fx + l * X - w * Y, fy + l * Y + w * X), (fx - w * Y, fy + w * X)]
theorem cut_no {ax ay bx by_ cx cy dx dy : Int} (h1 : 0 < crW ax ay bx by_ cx cy) (h2 : 0 < crW ax ay bx by_ dx dy) (h3 : 0 < crW cx cy dx dy ax ay) (h4 : 0 < crW cx cy dx dy bx by_) : cutB ax ay bx by_ cx cy dx dy = false := by
  have s : ∀ {n : Int}, 0 < n → sgn n = 1 := fun h => by unfold sgn; rw [if_pos h]
  unfold cutB endsB sdI
  rw [s h1, s h2, s h3, s h4]
  have d : decide (w64 (1 * 1) < 0) = false := by decide
  have d2 : decide ((1 : Int) = 0) = false := by decide
  simp only [d, d2, Bool.false_and, Bool.or_false]
structure RCok (fx fy l w X Y R : Int) : Prop where
  l0 : 0 < l
  w0 : 0 < w
  R0 : 0 < R
  n : X * X + Y * Y = R
  b : ∀ p ∈ rc fx fy l w X Y, (-439400000 ≤ p.1 ∧ p.1 ≤ 439400000) ∧ (-439400000 ≤ p.2 ∧ p.2 ≤ 439400000)
theorem crW_M {ax ay bx by_ px py : Int} (h1 : -439400000 ≤ ax ∧ ax ≤ 439400000) (h2 : -439400000 ≤ ay ∧ ay ≤ 439400000) (h3 : -439400000 ≤ bx ∧ bx ≤ 439400000) (h4 : -439400000 ≤ by_ ∧ by_ ≤ 439400000) (h5 : -439400000 ≤ px ∧ px ≤ 439400000) (h6 : -439400000 ≤ py ∧ py ≤ 439400000) : crW ax ay bx by_ px py = cr ax ay bx by_ px py := by
  refine crW_B ?_ ?_ ?_ ?_ ?_ ?_ <;> unfold B <;> omega
theorem mayB_iff {p : Pt} : mayB p = true ↔ (-439400000 ≤ p.1 ∧ p.1 ≤ 439400000) ∧ (-439400000 ≤ p.2 ∧ p.2 ≤ 439400000) := by
  unfold mayB mxI mnI
  simp only [Bool.and_eq_true, decide_eq_true_eq]
  split <;> split <;> omega
theorem rc_may {fx fy l w X Y R : Int} (h : RCok fx fy l w X Y R) : (rc fx fy l w X Y).all mayB = true := by
  rw [List.all_eq_true]; intro p hp; exact mayB_iff.2 (h.b p hp)
theorem rc_sim {fx fy l w X Y R : Int} (h : RCok fx fy l w X Y R) : simB (rc fx fy l w X Y) = true := by
  have b0 := h.b (fx + w * Y, fy - w * X) (by simp [rc])
  have b1 := h.b (fx + l * X + w * Y, fy + l * Y - w * X) (by simp [rc])
  have b2 := h.b (fx + l * X - w * Y, fy + l * Y + w * X) (by simp [rc])
  have b3 := h.b (fx - w * Y, fy + w * X) (by simp [rc])
  have hp : 0 < 2 * l * w * R := Int.mul_pos (Int.mul_pos (by have := h.l0; omega) h.w0) h.R0
  have n := h.n
  have e012 : cr (fx + w * Y) (fy - w * X) (fx + l * X + w * Y) (fy + l * Y - w * X) (fx + l * X - w * Y) (fy + l * Y + w * X) = 2 * l * w * R := by rw [← n]; unfold cr; grind
  have e013 : cr (fx + w * Y) (fy - w * X) (fx + l * X + w * Y) (fy + l * Y - w * X) (fx - w * Y) (fy + w * X) = 2 * l * w * R := by rw [← n]; unfold cr; grind
  have e123 : cr (fx + l * X + w * Y) (fy + l * Y - w * X) (fx + l * X - w * Y) (fy + l * Y + w * X) (fx - w * Y) (fy + w * X) = 2 * l * w * R := by rw [← n]; unfold cr; grind
  have e120 : cr (fx + l * X + w * Y) (fy + l * Y - w * X) (fx + l * X - w * Y) (fy + l * Y + w * X) (fx + w * Y) (fy - w * X) = 2 * l * w * R := by rw [← n]; unfold cr; grind
  have e230 : cr (fx + l * X - w * Y) (fy + l * Y + w * X) (fx - w * Y) (fy + w * X) (fx + w * Y) (fy - w * X) = 2 * l * w * R := by rw [← n]; unfold cr; grind
  have e231 : cr (fx + l * X - w * Y) (fy + l * Y + w * X) (fx - w * Y) (fy + w * X) (fx + l * X + w * Y) (fy + l * Y - w * X) = 2 * l * w * R := by rw [← n]; unfold cr; grind
  have e301 : cr (fx - w * Y) (fy + w * X) (fx + w * Y) (fy - w * X) (fx + l * X + w * Y) (fy + l * Y - w * X) = 2 * l * w * R := by rw [← n]; unfold cr; grind
  have e302 : cr (fx - w * Y) (fy + w * X) (fx + w * Y) (fy - w * X) (fx + l * X - w * Y) (fy + l * Y + w * X) = 2 * l * w * R := by rw [← n]; unfold cr; grind
  unfold rc
  generalize fx + w * Y = x0 at *
  generalize fy - w * X = y0 at *
  generalize fx + l * X + w * Y = x1 at *
  generalize fy + l * Y - w * X = y1 at *
  generalize fx + l * X - w * Y = x2 at *
  generalize fy + l * Y + w * X = y2 at *
  generalize fx - w * Y = x3 at *
  generalize fy + w * X = y3 at *
  simp only at b0 b1 b2 b3
  rw [← crW_M b0.1 b0.2 b1.1 b1.2 b2.1 b2.2] at e012
  rw [← crW_M b0.1 b0.2 b1.1 b1.2 b3.1 b3.2] at e013
  rw [← crW_M b1.1 b1.2 b2.1 b2.2 b3.1 b3.2] at e123
  rw [← crW_M b1.1 b1.2 b2.1 b2.2 b0.1 b0.2] at e120
  rw [← crW_M b2.1 b2.2 b3.1 b3.2 b0.1 b0.2] at e230
  rw [← crW_M b2.1 b2.2 b3.1 b3.2 b1.1 b1.2] at e231
  rw [← crW_M b3.1 b3.2 b0.1 b0.2 b1.1 b1.2] at e301
  rw [← crW_M b3.1 b3.2 b0.1 b0.2 b2.1 b2.2] at e302
  have q02 := cut_no (by rw [e012]; exact hp) (by rw [e013]; exact hp) (by rw [e230]; exact hp) (by rw [e231]; exact hp)
  have q20 := cut_no (by rw [e230]; exact hp) (by rw [e231]; exact hp) (by rw [e012]; exact hp) (by rw [e013]; exact hp)
  have q13 := cut_no (by rw [e123]; exact hp) (by rw [e120]; exact hp) (by rw [e301]; exact hp) (by rw [e302]; exact hp)
  have q31 := cut_no (by rw [e301]; exact hp) (by rw [e302]; exact hp) (by rw [e123]; exact hp) (by rw [e120]; exact hp)
  have s : ∀ {n : Int}, n = 2 * l * w * R → ¬ (sgn n = 0) := fun h => by rw [h]; unfold sgn; rw [if_pos hp]; decide
  have hr : List.range 4 = [0, 1, 2, 3] := rfl
  have s0 := s e012
  have s1 := s e123
  have s2 := s e230
  have s3 := s e301
  simp [simB, bad1, bad2, adjB, edn, cutE, ptn, oriE, hr, s0, s1, s2, s3, q02, q13, q20, q31]
theorem seg_on {ax ay bx by_ px py : Int} (h1 : -439400000 ≤ ax ∧ ax ≤ 439400000) (h2 : -439400000 ≤ ay ∧ ay ≤ 439400000) (h3 : -439400000 ≤ bx ∧ bx ≤ 439400000) (h4 : -439400000 ≤ by_ ∧ by_ ≤ 439400000) (h5 : ax + bx = 2 * px) (h6 : ay + by_ = 2 * py) : onB ax ay bx by_ px py = true := by
  unfold onB
  rw [crW_M h1 h2 h3 h4 (by omega) (by omega)]
  have e : cr ax ay bx by_ px py = 0 := by
    have e1 : bx = 2 * px - ax := by omega
    have e2 : by_ = 2 * py - ay := by omega
    rw [e1, e2]; unfold cr; grind
  rw [e, sgn_zero]
  simp only [decide_true, Bool.and_true]
  unfold withinB mnI mxI
  simp only [Bool.and_eq_true, decide_eq_true_eq]
  split <;> split <;> omega
theorem rc_loc {fx fy l w X Y R : Int} (h : RCok fx fy l w X Y R) : locI (rc fx fy l w X Y) (fx, fy) = 0 ∧ locI (rc fx fy l w X Y) (fx + l * X, fy + l * Y) = 0 := by
  have b0 := h.b (fx + w * Y, fy - w * X) (by simp [rc])
  have b1 := h.b (fx + l * X + w * Y, fy + l * Y - w * X) (by simp [rc])
  have b2 := h.b (fx + l * X - w * Y, fy + l * Y + w * X) (by simp [rc])
  have b3 := h.b (fx - w * Y, fy + w * X) (by simp [rc])
  simp only at b0 b1 b2 b3
  have k1 := seg_on (px := fx) (py := fy) b3.1 b3.2 b0.1 b0.2 (by omega) (by omega)
  have k2 := seg_on (px := fx + l * X) (py := fy + l * Y) b1.1 b1.2 b2.1 b2.2 (by omega) (by omega)
  unfold locI
  constructor
  · rw [if_pos]; simp [rc, eds, onE, k1]
  · rw [if_pos]; simp [rc, eds, onE, k2]
theorem arF_M {x : Int} {e : Pt × Pt} (hx : -2000000000000000000 ≤ x ∧ x ≤ 2000000000000000000) (h1 : -439400000 ≤ e.1.1 ∧ e.1.1 ≤ 439400000) (h2 : -439400000 ≤ e.1.2 ∧ e.1.2 ≤ 439400000) (h3 : -439400000 ≤ e.2.1 ∧ e.2.1 ≤ 439400000) (h4 : -439400000 ≤ e.2.2 ∧ e.2.2 ≤ 439400000) :
    arF x e = x + (e.1.1 * e.2.2 - e.1.2 * e.2.1) ∧ -400000000000000000 ≤ e.1.1 * e.2.2 - e.1.2 * e.2.1 ∧ e.1.1 * e.2.2 - e.1.2 * e.2.1 ≤ 400000000000000000 := by
  have m1 := mul_bd h1.1 h1.2 h4.1 h4.2
  have m2 := mul_bd h2.1 h2.2 h3.1 h3.2
  unfold arF w64
  refine ⟨?_, by omega, by omega⟩
  rw [wrap_small (n := e.1.1 * e.2.2) (by omega) (by omega), wrap_small (n := e.1.2 * e.2.1) (by omega) (by omega), wrap_small (n := e.1.1 * e.2.2 - e.1.2 * e.2.1) (by omega) (by omega), wrap_small (by omega) (by omega)]
theorem rc_area {fx fy l w X Y R : Int} (h : RCok fx fy l w X Y R) : areaW (rc fx fy l w X Y) = 4 * l * w * R := by
  have b0 := h.b (fx + w * Y, fy - w * X) (by simp [rc])
  have b1 := h.b (fx + l * X + w * Y, fy + l * Y - w * X) (by simp [rc])
  have b2 := h.b (fx + l * X - w * Y, fy + l * Y + w * X) (by simp [rc])
  have b3 := h.b (fx - w * Y, fy + w * X) (by simp [rc])
  have n := h.n
  have fin : (0 + ((fx + w * Y) * (fy + l * Y - w * X) - (fy - w * X) * (fx + l * X + w * Y)) + ((fx + l * X + w * Y) * (fy + l * Y + w * X) - (fy + l * Y - w * X) * (fx + l * X - w * Y)) + ((fx + l * X - w * Y) * (fy + w * X) - (fy + l * Y + w * X) * (fx - w * Y)) + ((fx - w * Y) * (fy - w * X) - (fy + w * X) * (fx + w * Y))) = 4 * l * w * R := by rw [← n]; grind
  rw [← fin]
  unfold rc areaW
  simp only at b0 b1 b2 b3
  generalize fx + w * Y = x0 at *
  generalize fy - w * X = y0 at *
  generalize fx + l * X + w * Y = x1 at *
  generalize fy + l * Y - w * X = y1 at *
  generalize fx + l * X - w * Y = x2 at *
  generalize fy + l * Y + w * X = y2 at *
  generalize fx - w * Y = x3 at *
  generalize fy + w * X = y3 at *
  have a0 := arF_M (x := 0) (e := ((x0, y0), (x1, y1))) (by omega) b0.1 b0.2 b1.1 b1.2
  simp only at a0
  have a1 := arF_M (x := 0 + (x0 * y1 - y0 * x1)) (e := ((x1, y1), (x2, y2))) (by omega) b1.1 b1.2 b2.1 b2.2
  simp only at a1
  have a2 := arF_M (x := 0 + (x0 * y1 - y0 * x1) + (x1 * y2 - y1 * x2)) (e := ((x2, y2), (x3, y3))) (by omega) b2.1 b2.2 b3.1 b3.2
  simp only at a2
  have a3 := arF_M (x := 0 + (x0 * y1 - y0 * x1) + (x1 * y2 - y1 * x2) + (x2 * y3 - y2 * x3)) (e := ((x3, y3), (x0, y0))) (by omega) b3.1 b3.2 b0.1 b0.2
  simp only at a3
  show arF (arF (arF (arF 0 ((x0, y0), (x1, y1))) ((x1, y1), (x2, y2))) ((x2, y2), (x3, y3))) ((x3, y3), (x0, y0)) = _
  rw [a0.1, a1.1, a2.1, a3.1]
theorem rc_val {fx fy l w X Y R : Int} (h : RCok fx fy l w X Y R) : valB (rc fx fy l w X Y) = true := by
  unfold valB
  rw [rc_may h, rc_sim h, rc_area h]
  have hp : 0 < 4 * l * w * R := Int.mul_pos (Int.mul_pos (by have := h.l0; omega) h.w0) h.R0
  simp [rc, hp]
end Go.Geo

namespace Go.Geo
set_option maxRecDepth 100000
set_option maxHeartbeats 4000000
set_option linter.unusedSimpArgs false
set_option linter.unusedVariables false
open Go Go.Zv
theorem par_comm (p : Pt) (b : Bool) (x y : Pt × Pt) : parF p (parF p b x) y = parF p (parF p b y) x := by
  unfold parF; cases b <;> cases flE p x <;> cases flE p y <;> rfl
theorem locI_perm {l m : List Pt} (h : (eds l).Perm (eds m)) (p : Pt) : locI l p = locI m p := by
  have e1 : (eds l).any (onE p) = (eds m).any (onE p) := by
    rw [Bool.eq_iff_iff, List.any_eq_true, List.any_eq_true]
    exact ⟨fun ⟨x, hx, hp⟩ => ⟨x, h.mem_iff.1 hx, hp⟩, fun ⟨x, hx, hp⟩ => ⟨x, h.mem_iff.2 hx, hp⟩⟩
  have e2 : (eds l).foldl (parF p) false = (eds m).foldl (parF p) false := h.foldl_eq' (fun x _ y _ z => par_comm p z x y) false
  unfold locI
  rw [e1, e2]
theorem locI_rot (r : Nat) (l : List Pt) (p : Pt) : locI (rotL r l) p = locI l p := locI_perm (eds_rot r l) p
theorem w64_add (x y : Int) : w64 (w64 x + y) = w64 (x + y) := by
  simp only [w64, IntKind.wrap, IntKind.signed, IntKind.bits]; simp; omega
theorem arF_comm (x : Int) (e f : Pt × Pt) : arF (arF x e) f = arF (arF x f) e := by
  unfold arF
  rw [w64_add, w64_add]; congr 1; omega
theorem areaW_perm {l m : List Pt} (h : (eds l).Perm (eds m)) : areaW l = areaW m := h.foldl_eq' (fun x _ y _ z => arF_comm z x y) 0
theorem areaW_rot (r : Nat) (l : List Pt) : areaW (rotL r l) = areaW l := areaW_perm (eds_rot r l)
end Go.Geo

namespace Go.Geo
set_option maxRecDepth 100000
set_option maxHeartbeats 4000000
set_option linter.unusedSimpArgs false
set_option linter.unusedVariables false
open Go Go.Zv
theorem mod_cancel (a b r n : Nat) : (a + r) % n = (b + r) % n ↔ a % n = b % n := by
  have h := Int.emod_add_cancel_right (m := (a : Int)) (k := (b : Int)) (n := (n : Int)) (r : Int)
  constructor
  · intro e
    have e2 : ((a : Int) + r) % n = ((b : Int) + r) % n := by exact_mod_cast congrArg (fun x : Nat => (x : Int)) e
    have := h.1 e2
    exact_mod_cast this
  · intro e
    have e2 : (a : Int) % n = (b : Int) % n := by exact_mod_cast congrArg (fun x : Nat => (x : Int)) e
    have := h.2 e2
    exact_mod_cast this
def adjM (n i k : Nat) : Bool := decide (k % n = i % n) || (decide (k % n = (i + 1) % n) || decide (i % n = (k + 1) % n))
theorem adjM_eq {n i k : Nat} (hi : i < n) (hk : k < n) : adjB n i k = adjM n i k := by
  unfold adjB adjM; rw [Nat.mod_eq_of_lt hi, Nat.mod_eq_of_lt hk]
theorem adjM_sh (n i k r : Nat) : adjM n (i + r) (k + r) = adjM n i k := by
  unfold adjM
  have e1 := mod_cancel k i r n
  have e2 := mod_cancel k (i + 1) r n
  have e3 := mod_cancel i (k + 1) r n
  rw [show i + r + 1 = i + 1 + r by omega, show k + r + 1 = k + 1 + r by omega, decide_eq_decide.2 e1, decide_eq_decide.2 e2, decide_eq_decide.2 e3]
def badM (l : List Pt) (i k : Nat) : Bool := !adjM l.length i k && cutE (edn l i) (edn l k)
def badN (l : List Pt) (i : Nat) : Bool := decide (oriE (ptn l i) (ptn l (i + 1)) (ptn l (i + 2)) = 0) || ((List.range l.length).map (badM l i)).any id
theorem any_map_id (l : List Nat) (f : Nat → Bool) : l.any f = (l.map f).any id := by rw [List.any_map]; rfl
theorem any_congr {l : List Nat} {f g : Nat → Bool} (h : ∀ x ∈ l, f x = g x) : l.any f = l.any g := by
  rw [any_map_id, any_map_id, List.map_congr_left h]
theorem bad1_N {l : List Pt} {i : Nat} (h : i < l.length) : bad1 l i = badN l i := by
  unfold bad1 badN
  rw [← any_map_id, any_congr (g := badM l i)]
  intro k hk
  unfold bad2 badM
  rw [adjM_eq h (List.mem_range.1 hk)]
theorem simB_N (l : List Pt) : simB l = !((List.range l.length).map (badN l)).any id := by
  unfold simB
  rw [any_congr (g := badN l) (fun i hi => bad1_N (List.mem_range.1 hi)), any_map_id]
theorem ptn_per (l : List Pt) (k : Nat) : ptn l (k + l.length) = ptn l k := by unfold ptn; rw [Nat.add_mod_right]
theorem any_perm {a b : List Bool} (h : a.Perm b) : a.any id = b.any id := by
  rw [Bool.eq_iff_iff, List.any_eq_true, List.any_eq_true]
  exact ⟨fun ⟨x, hx, hp⟩ => ⟨x, h.mem_iff.1 hx, hp⟩, fun ⟨x, hx, hp⟩ => ⟨x, h.mem_iff.2 hx, hp⟩⟩
theorem badM_per (l : List Pt) (i k : Nat) : badM l i (k + l.length) = badM l i k := by
  unfold badM adjM
  rw [edn_per, Nat.add_mod_right, show k + l.length + 1 = k + 1 + l.length by omega, Nat.add_mod_right]
theorem badN_per (l : List Pt) (i : Nat) : badN l (i + l.length) = badN l i := by
  unfold badN
  rw [ptn_per, show i + l.length + 1 = i + 1 + l.length by omega, ptn_per, show i + l.length + 2 = i + 2 + l.length by omega, ptn_per]
  congr 2
  refine List.map_congr_left fun k _ => ?_
  unfold badM adjM
  rw [edn_per, Nat.add_mod_right, show i + l.length + 1 = i + 1 + l.length by omega, Nat.add_mod_right]
theorem badN_rot (r : Nat) (l : List Pt) (i : Nat) (h : 0 < l.length) : badN (rotL r l) i = badN l (i + r) := by
  unfold badN
  rw [ptn_rot r l _ h, ptn_rot r l _ h, ptn_rot r l _ h, rotL_len, show i + 1 + r = i + r + 1 by omega, show i + 2 + r = i + r + 2 by omega]
  congr 1
  have e : (List.range l.length).map (badM (rotL r l) i) = (List.range l.length).map fun k => badM l (i + r) (k + r) := List.map_congr_left fun k _ => by
    unfold badM; rw [rotL_len, edn_rot r l _ h, edn_rot r l _ h, adjM_sh]
  rw [e]
  exact any_perm (permR (badM l (i + r)) l.length (badM_per l (i + r)) r)
theorem simB_rot (r : Nat) (l : List Pt) : simB (rotL r l) = simB l := by
  by_cases h : 0 < l.length
  · rw [simB_N, simB_N, rotL_len]
    have e : (List.range l.length).map (badN (rotL r l)) = (List.range l.length).map fun k => badN l (k + r) := List.map_congr_left fun k _ => badN_rot r l k h
    rw [e, any_perm (permR (badN l) l.length (badN_per l) r)]
  · have e : l = [] := List.length_eq_zero_iff.1 (by omega)
    subst e; rfl
theorem rot_mem {r : Nat} {l : List Pt} : (rotL r l).Perm l := by
  have e : l = (List.range l.length).map (ptn l) := by
    apply List.ext_getElem?
    intro i
    by_cases h : i < l.length
    · rw [ptn_get h, List.getElem?_map, range_get h]; rfl
    · rw [List.getElem?_eq_none (by omega), List.getElem?_eq_none (by simp; omega)]
  have := permR (ptn l) l.length (ptn_per l) r
  rw [← e] at this
  exact this
theorem valB_rot (r : Nat) (l : List Pt) : valB (rotL r l) = valB l := by
  have e : (rotL r l).all mayB = l.all mayB := by
    rw [Bool.eq_iff_iff, List.all_eq_true, List.all_eq_true]
    exact ⟨fun h x hx => h x (rot_mem.mem_iff.2 hx), fun h x hx => h x (rot_mem.mem_iff.1 hx)⟩
  unfold valB
  rw [rotL_len, simB_rot, areaW_rot, e]
end Go.Geo

namespace Go.Geo
set_option maxRecDepth 100000
set_option maxHeartbeats 4000000
set_option linter.unusedSimpArgs false
set_option linter.unusedVariables false
open Go Go.Zv
theorem w64_sub (x y : Int) : w64 (w64 x - y) = w64 (x - y) := by
  have := w64_add x (-y); rw [Int.sub_eq_add_neg, Int.sub_eq_add_neg]; exact this
theorem w64_add' (x y : Int) : w64 (x + w64 y) = w64 (x + y) := by rw [Int.add_comm, w64_add, Int.add_comm]
theorem w64_neg (x : Int) : w64 (-w64 x) = w64 (-x) := by
  simp only [w64, IntKind.wrap, IntKind.signed, IntKind.bits]; simp; omega
theorem w64_sub' (x y : Int) : w64 (x - w64 y) = w64 (x - y) := by
  rw [Int.sub_eq_add_neg, ← w64_add' x (-w64 y), w64_neg, w64_add', ← Int.sub_eq_add_neg]
def dE (e : Pt × Pt) : Int := e.1.1 * e.2.2 - e.1.2 * e.2.1
theorem arF_d (x : Int) (e : Pt × Pt) : arF x e = w64 (x + dE e) := by
  unfold arF dE
  rw [w64_sub, w64_sub', w64_add']
theorem fold_d (l : List (Pt × Pt)) : ∀ x : Int, w64 (l.foldl arF x) = w64 (x + (l.map dE).sum) := by
  induction l with
  | nil => intro x; simp
  | cons e l ih => intro x; rw [List.foldl_cons, ih, arF_d, w64_add, List.map_cons, List.sum_cons, Int.add_assoc]
theorem w64_idem (x : Int) : w64 (w64 x) = w64 x := by have := w64_add x 0; simpa using this
theorem areaW_sum (l : List Pt) : areaW l = w64 ((eds l).map dE).sum := by
  have h := fold_d (eds l) 0
  rw [Int.zero_add] at h
  rw [← h]
  unfold areaW
  cases hl : eds l with
  | nil => rfl
  | cons e t =>
    have : ∀ (t : List (Pt × Pt)) (x : Int), w64 x = x → w64 (t.foldl arF x) = t.foldl arF x := by
      intro t
      induction t with
      | nil => intro x hx; exact hx
      | cons f t ih => intro x hx; rw [List.foldl_cons]; exact ih _ (by rw [arF_d, w64_idem])
    exact (this (e :: t) 0 (by decide)).symm
def swE (e : Pt × Pt) : Pt × Pt := (e.2, e.1)
theorem dE_sw (e : Pt × Pt) : dE (swE e) = -dE e := by unfold dE swE; grind
theorem ptn_rev (l : List Pt) (k : Nat) (h : k < l.length) : ptn l.reverse k = ptn l (l.length - 1 - k) := by
  have h1 := ptn_get (l := l.reverse) (k := k) (by simpa using h)
  rw [List.getElem?_reverse h, ptn_get (by omega)] at h1
  simpa using h1.symm
theorem edn_rev (l : List Pt) (k : Nat) (h : k < l.length) : edn l.reverse k = swE (edn l (2 * l.length - 2 - k)) := by
  unfold edn swE
  rw [ptn_rev l k h]
  simp only [Prod.mk.injEq]
  constructor
  · rw [show 2 * l.length - 2 - k + 1 = (l.length - 1 - k) + l.length by omega, ptn_per]
  · by_cases e : k + 1 < l.length
    · rw [ptn_rev l (k + 1) e, show 2 * l.length - 2 - k = (l.length - 1 - (k + 1)) + l.length by omega, ptn_per]
    · have e1 : k + 1 = 0 + l.reverse.length := by rw [List.length_reverse]; omega
      rw [e1, ptn_per, ptn_rev l 0 (by omega)]
      congr 1; omega
theorem sum_perm {a b : List Int} (h : a.Perm b) : a.sum = b.sum := by
  induction h with
  | nil => rfl
  | cons x _ ih => simp [ih]
  | swap x y l => simp; omega
  | trans _ _ h1 h2 => exact h1.trans h2
theorem eds_rev (l : List Pt) : (eds l.reverse).Perm ((eds l).map swE) := by
  rw [eds_range, eds_range l, List.length_reverse, List.map_map]
  have e : (List.range l.length).map (edn l.reverse) = ((List.range l.length).map fun j => (swE ∘ edn l) (j + (l.length - 1))).reverse := by
    apply List.ext_getElem?
    intro i
    by_cases h : i < l.length
    · rw [List.getElem?_map, range_get h, List.getElem?_reverse (by simpa using h), List.getElem?_map, List.length_map, List.length_range, range_get (by omega)]
      simp only [Option.map_some, Function.comp_apply, Option.some.injEq]
      rw [edn_rev l i h]
      congr 2; omega
    · rw [List.getElem?_eq_none (by simp; omega), List.getElem?_eq_none (by simp; omega)]
  rw [e]
  refine (List.reverse_perm _).trans ?_
  exact permR (swE ∘ edn l) l.length (fun k => by simp only [Function.comp_apply, edn_per]) (l.length - 1)
theorem sum_neg (l : List (Pt × Pt)) : ((l.map swE).map dE).sum = -(l.map dE).sum := by
  induction l with
  | nil => rfl
  | cons e l ih => simp only [List.map_cons, List.sum_cons, ih, dE_sw]; omega
theorem areaW_rev (l : List Pt) : areaW l.reverse = w64 (-areaW l) := by
  rw [areaW_sum, areaW_sum, w64_neg, sum_perm ((eds_rev l).map dE), sum_neg]
end Go.Geo

namespace Go.Geo
set_option maxRecDepth 100000
set_option maxHeartbeats 4000000
set_option linter.unusedSimpArgs false
set_option linter.unusedVariables false
open Go Go.Zv
/-! Winding numbers over the rationals -/
abbrev Q2 := Rat × Rat
/-- cross product -/
def xq (u v : Q2) : Rat := u.1 * v.2 - u.2 * v.1
/-- scalar product -/
def dq (u v : Q2) : Rat := u.1 * v.1 + u.2 * v.2
def sq (a x : Q2) : Q2 := (a.1 - x.1, a.2 - x.2)
/-- the signed crossing of the ray d from the origin with the edge from u to v -/
def hit (d u v : Q2) : Int := if 0 < xq d u then (if 0 < xq d v then 0 else if xq u v < 0 then -1 else 0) else if 0 < xq d v then (if 0 < xq u v then 1 else 0) else 0
/-- the origin lies on the segment from u to v -/
def OnV (u v : Q2) : Prop := xq u v = 0 ∧ dq u v ≤ 0
def Wd (d e u : Q2) : Int := if 0 < xq d u then (if 0 < xq e u then 0 else 1) else 0
theorem r_sq_nn (x : Rat) : 0 ≤ x * x := by
  rcases Rat.le_total (a := 0) (b := x) with h | h
  · exact Rat.mul_nonneg h h
  · have : 0 ≤ (-x) * (-x) := Rat.mul_nonneg (by grind) (by grind)
    grind
theorem r_sq_pos {x : Rat} (h : x ≠ 0) : 0 < x * x := by
  rcases Rat.le_total (a := 0) (b := x) with h1 | h1
  · exact Rat.mul_pos (by grind) (by grind)
  · have : 0 < (-x) * (-x) := Rat.mul_pos (by grind) (by grind)
    grind
theorem dq_nn (u : Q2) : 0 ≤ dq u u := by
  have h1 := r_sq_nn u.1
  have h2 := r_sq_nn u.2
  unfold dq; grind
theorem dq_pos {u : Q2} (h : u ≠ (0, 0)) : 0 < dq u u := by
  have h1 := r_sq_nn u.1
  have h2 := r_sq_nn u.2
  by_cases e1 : u.1 = 0
  · have e2 : u.2 ≠ 0 := fun e2 => h (Prod.ext e1 e2)
    have := r_sq_pos e2
    unfold dq; grind
  · have := r_sq_pos e1
    unfold dq; grind
theorem pm (p s : Rat) : (0 < p ∧ 0 < s ∧ 0 < p * s) ∨ (0 < p ∧ ¬ 0 < s ∧ p * s ≤ 0) ∨ (¬ 0 < p ∧ 0 < s ∧ p * s ≤ 0) ∨ (¬ 0 < p ∧ ¬ 0 < s ∧ 0 ≤ p * s) := by
  by_cases h1 : 0 < p <;> by_cases h2 : 0 < s
  · exact .inl ⟨h1, h2, Rat.mul_pos h1 h2⟩
  · have : 0 ≤ p * (-s) := Rat.mul_nonneg (by grind) (by grind)
    exact .inr (.inl ⟨h1, h2, by grind⟩)
  · have : 0 ≤ (-p) * s := Rat.mul_nonneg (by grind) (by grind)
    exact .inr (.inr (.inl ⟨h1, h2, by grind⟩))
  · have : 0 ≤ (-p) * (-s) := Rat.mul_nonneg (by grind) (by grind)
    exact .inr (.inr (.inr ⟨h1, h2, by grind⟩))
theorem pos_iff_of_mul {U q k p : Rat} (hU : 0 < U) (hk : 0 < k) (h : U * q = k * p) : 0 < q ↔ 0 < p := by
  constructor
  · intro hq
    have := Rat.mul_pos hU hq
    rw [h] at this
    exact (Rat.mul_pos_iff_of_pos_left hk).1 this
  · intro hp
    have := Rat.mul_pos hk hp
    rw [← h] at this
    exact (Rat.mul_pos_iff_of_pos_left hU).1 this
/-- two directions with the sector between them -/
theorem wedge {d e u v : Q2} (h : 0 < xq d e) (n : ¬ OnV u v) : hit d u v - hit e u v = Wd d e v - Wd d e u := by
  have id1 : xq d e * xq u v = xq d u * xq e v - xq d v * xq e u := by unfold xq; grind
  have id2 : dq u u * xq d v = dq u v * xq d u + dq d u * xq u v := by unfold xq dq; grind
  have id3 : dq u u * xq e v = dq u v * xq e u + dq e u * xq u v := by unfold xq dq; grind
  by_cases c0 : xq u v = 0
  · have hk : 0 < dq u v := by
      refine Classical.byContradiction fun hk => n ⟨c0, by grind⟩
    have hU : 0 < dq u u := by
      refine dq_pos fun e => ?_
      subst e
      unfold dq at hk; grind
    rw [c0] at id2 id3
    have e1 := pos_iff_of_mul (q := xq d v) (p := xq d u) hU hk (by grind)
    have e2 := pos_iff_of_mul (q := xq e v) (p := xq e u) hU hk (by grind)
    unfold hit Wd
    rw [c0]
    by_cases h1 : 0 < xq d u <;> by_cases h2 : 0 < xq e u <;> simp [h1, h2, e1, e2]
  · unfold hit Wd
    generalize xq d u = p at *
    generalize xq d v = q at *
    generalize xq e u = r at *
    generalize xq e v = s at *
    generalize xq u v = c at *
    generalize xq d e = D at *
    have hc : (0 < c ∧ 0 < D * c ∧ ¬ c < 0) ∨ (¬ 0 < c ∧ D * c < 0 ∧ c < 0) := by
      rcases Rat.le_total (a := 0) (b := c) with h1 | h1
      · left; have : 0 < c := by grind
        exact ⟨this, Rat.mul_pos h this, by grind⟩
      · right; have : 0 < -c := by grind
        have h2 := Rat.mul_pos h this
        exact ⟨by grind, by grind, by grind⟩
    rw [id1] at hc
    rcases pm p s with ⟨a1, a2, a3⟩ | ⟨a1, a2, a3⟩ | ⟨a1, a2, a3⟩ | ⟨a1, a2, a3⟩ <;> rcases pm q r with ⟨b1, b2, b3⟩ | ⟨b1, b2, b3⟩ | ⟨b1, b2, b3⟩ | ⟨b1, b2, b3⟩ <;> rcases hc with ⟨k1, k2, k3⟩ | ⟨k1, k2, k3⟩ <;> simp only [a1, a2, b1, b2, k1, k3, if_true, if_false] <;> first | rfl | (exfalso; grind)
/-- a chain of edges from p to q -/
def Path (p q : Q2) (es : List (Q2 × Q2)) : Prop := ∀ f : Q2 → Int, (es.map fun e => f e.2 - f e.1).sum = f q - f p
def OnE (x : Q2) (e : Q2 × Q2) : Prop := OnV (sq e.1 x) (sq e.2 x)
/-- the winding number, counted along the ray d from x -/
def wn (d x : Q2) (es : List (Q2 × Q2)) : Int := (es.map fun e => hit d (sq e.1 x) (sq e.2 x)).sum
theorem sum_sub (l : List (Q2 × Q2)) (f g : Q2 × Q2 → Int) : (l.map f).sum - (l.map g).sum = (l.map fun e => f e - g e).sum := by
  induction l with
  | nil => rfl
  | cons a l ih => simp only [List.map_cons, List.sum_cons, ← ih]; omega
theorem wn_wedge {p q d e x : Q2} {es : List (Q2 × Q2)} (hp : Path p q es) (h : 0 < xq d e) (n : ∀ g ∈ es, ¬ OnE x g) : wn d x es - wn e x es = Wd d e (sq q x) - Wd d e (sq p x) := by
  unfold wn
  rw [sum_sub, ← hp (fun u => Wd d e (sq u x))]
  congr 1
  exact List.map_congr_left fun g hg => wedge h (n g hg)
theorem xq_swap (u v : Q2) : xq u v = -xq v u := by unfold xq; grind
theorem wn_dir1 {p d e x : Q2} {es : List (Q2 × Q2)} (hp : Path p p es) (h : xq d e ≠ 0) (n : ∀ g ∈ es, ¬ OnE x g) : wn d x es = wn e x es := by
  by_cases h1 : 0 < xq d e
  · have := wn_wedge hp h1 n; omega
  · have h2 : 0 < xq e d := by rw [xq_swap]; grind
    have := wn_wedge hp h2 n; omega
/-- off the edges, the direction does not matter -/
theorem wn_dir {p d e x : Q2} {es : List (Q2 × Q2)} (hp : Path p p es) (hd : d ≠ (0, 0)) (he : e ≠ (0, 0)) (n : ∀ g ∈ es, ¬ OnE x g) : wn d x es = wn e x es := by
  by_cases h : xq d e = 0
  · have h1 : xq d (-d.2, d.1) ≠ 0 := by
      have := dq_pos hd
      unfold dq at this; unfold xq; grind
    have h2 : xq (-d.2, d.1) e ≠ 0 := by
      have k1 := dq_pos hd
      have k2 := dq_pos he
      have k3 : dq d e * dq d e + xq d e * xq d e = dq d d * dq e e := by unfold dq xq; grind
      have k4 := Rat.mul_pos k1 k2
      rw [← k3, h] at k4
      intro hx
      have : dq d e = 0 := by unfold dq; unfold xq at hx; grind
      rw [this] at k4
      grind
    rw [wn_dir1 hp h1 n, wn_dir1 hp h2 n]
  · exact wn_dir1 hp h n
end Go.Geo

namespace Go.Geo
set_option maxRecDepth 100000
set_option maxHeartbeats 4000000
set_option linter.unusedSimpArgs false
set_option linter.unusedVariables false
open Go Go.Zv
theorem r_inv {x : Rat} (h : x ≠ 0) : x * x⁻¹ = 1 := Rat.mul_inv_cancel x h
def onp (a b : Q2) (s : Rat) : Q2 := (a.1 + s * (b.1 - a.1), a.2 + s * (b.2 - a.2))
theorem on_of_param {a b : Q2} {s : Rat} (h0 : 0 ≤ s) (h1 : s ≤ 1) : OnE (onp a b s) (a, b) := by
  have h2 : 0 ≤ s * (1 - s) := Rat.mul_nonneg h0 (by grind)
  have h3 := Rat.mul_nonneg h2 (dq_nn (sq b a))
  unfold OnE OnV onp
  unfold dq sq at *
  unfold xq
  simp only at *
  constructor
  · grind
  · grind
theorem on_param {x a b : Q2} (h : OnE x (a, b)) : ∃ s : Rat, 0 ≤ s ∧ s ≤ 1 ∧ x = onp a b s := by
  obtain ⟨hc, hd⟩ := h
  simp only at hc hd
  have k1 := dq_nn (sq a x)
  have k2 := dq_nn (sq b x)
  by_cases hw : sq b a = (0, 0)
  · refine ⟨0, by grind, by grind, ?_⟩
    simp only [sq, Prod.mk.injEq] at hw
    have e : dq (sq a x) (sq a x) = 0 := by
      have e2 : dq (sq a x) (sq b x) = dq (sq a x) (sq a x) := by unfold dq sq; grind
      grind
    have e3 : sq a x = (0, 0) := by
      refine Classical.byContradiction fun h => ?_
      have := dq_pos h
      grind
    simp only [sq, Prod.mk.injEq] at e3
    refine Prod.ext ?_ ?_ <;> simp only [onp] <;> grind
  · have hN := dq_pos hw
    have hi := r_inv (x := dq (sq b a) (sq b a)) (by grind)
    have hp : 0 < (dq (sq b a) (sq b a))⁻¹ := Rat.inv_pos.2 hN
    generalize hNe : dq (sq b a) (sq b a) = N at *
    have hk0 : 0 ≤ -dq (sq a x) (sq b a) := by
      have : -dq (sq a x) (sq b a) = dq (sq a x) (sq a x) - dq (sq a x) (sq b x) := by unfold dq sq; grind
      grind
    have hk1 : 0 ≤ N + dq (sq a x) (sq b a) := by
      have : N + dq (sq a x) (sq b a) = dq (sq b x) (sq b x) - dq (sq a x) (sq b x) := by rw [← hNe]; unfold dq sq; grind
      grind
    refine ⟨-dq (sq a x) (sq b a) * N⁻¹, Rat.mul_nonneg hk0 (by grind), ?_, ?_⟩
    · have := Rat.mul_nonneg hk1 (show 0 ≤ N⁻¹ by grind)
      grind
    · have e1 : N * (a.1 - x.1) = dq (sq a x) (sq b a) * (b.1 - a.1) := by
        rw [← hNe]; unfold dq sq; unfold xq sq at hc; grind
      have e2 : N * (a.2 - x.2) = dq (sq a x) (sq b a) * (b.2 - a.2) := by
        rw [← hNe]; unfold dq sq; unfold xq sq at hc; grind
      generalize dq (sq a x) (sq b a) = k at *
      generalize N⁻¹ = M at *
      refine Prod.ext ?_ ?_ <;> simp only [onp] <;> grind
def Meets (a b x y : Q2) : Prop := ∃ z, OnE z (a, b) ∧ OnE z (x, y)
/-- what differs for two points lies between them -/
theorem hit_seg {x y a b : Q2} (h : ¬ Meets a b x y) : hit (sq y x) (sq a x) (sq b x) = hit (sq y x) (sq a y) (sq b y) := by
  have hp : xq (sq y x) (sq a y) = xq (sq y x) (sq a x) := by unfold xq sq; grind
  have hq : xq (sq y x) (sq b y) = xq (sq y x) (sq b x) := by unfold xq sq; grind
  have hc : xq (sq a y) (sq b y) = xq (sq a x) (sq b x) + xq (sq y x) (sq a x) - xq (sq y x) (sq b x) := by unfold xq sq; grind
  have key : ∀ s t : Rat, 0 ≤ s → s ≤ 1 → 0 ≤ t → t ≤ 1 → s * (xq (sq y x) (sq b x) - xq (sq y x) (sq a x)) = - xq (sq y x) (sq a x) → t * (xq (sq y x) (sq b x) - xq (sq y x) (sq a x)) = xq (sq a x) (sq b x) → xq (sq y x) (sq b x) - xq (sq y x) (sq a x) ≠ 0 → False := by
    intro s t s0 s1 t0 t1 e1 e2 hD
    refine h ⟨onp a b s, on_of_param s0 s1, ?_⟩
    have : onp a b s = onp x y t := by
      have hi := r_inv hD
      have i1 : xq (sq y x) (sq b x) * (a.1 - x.1) - xq (sq y x) (sq a x) * (b.1 - x.1) = xq (sq a x) (sq b x) * (y.1 - x.1) := by unfold xq sq; grind
      have i2 : xq (sq y x) (sq b x) * (a.2 - x.2) - xq (sq y x) (sq a x) * (b.2 - x.2) = xq (sq a x) (sq b x) * (y.2 - x.2) := by unfold xq sq; grind
      generalize xq (sq y x) (sq b x) = q at *
      generalize xq (sq y x) (sq a x) = p at *
      generalize xq (sq a x) (sq b x) = c at *
      generalize (q - p)⁻¹ = M at *
      refine Prod.ext ?_ ?_ <;> simp only [onp] <;> grind
    rw [this]; exact on_of_param t0 t1
  unfold hit
  rw [hp, hq, hc]
  generalize xq (sq y x) (sq b x) = q at *
  generalize xq (sq y x) (sq a x) = p at *
  generalize xq (sq a x) (sq b x) = c at *
  by_cases h1 : 0 < p
  · by_cases h2 : 0 < q
    · simp [h1, h2]
    · simp only [h1, h2, if_true, if_false]
      by_cases c1 : c < 0
      · by_cases c2 : c + p - q < 0
        · simp [c1, c2]
        · exfalso
          have hi := r_inv (x := q - p) (by grind)
          have hM : 0 < (p - q)⁻¹ := Rat.inv_pos.2 (by grind)
          have hi2 := r_inv (x := p - q) (by grind)
          have m1 := Rat.mul_nonneg (a := p) (b := (p - q)⁻¹) (by grind) (by grind)
          have m2 := Rat.mul_nonneg (a := -q) (b := (p - q)⁻¹) (by grind) (by grind)
          have m3 := Rat.mul_nonneg (a := -c) (b := (p - q)⁻¹) (by grind) (by grind)
          have m4 := Rat.mul_nonneg (a := c + p - q) (b := (p - q)⁻¹) (by grind) (by grind)
          generalize (p - q)⁻¹ = M at *
          exact key (p * M) (-c * M) (by grind) (by grind) (by grind) (by grind) (by grind) (by grind) (by grind)
      · have c2 : ¬ c + p - q < 0 := by grind
        simp [c1, c2]
  · by_cases h2 : 0 < q
    · simp only [h1, h2, if_true, if_false]
      by_cases c1 : 0 < c + p - q
      · have c2 : 0 < c := by grind
        simp [c1, c2]
      · by_cases c2 : 0 < c
        · exfalso
          have hM : 0 < (q - p)⁻¹ := Rat.inv_pos.2 (by grind)
          have hi2 := r_inv (x := q - p) (by grind)
          have m1 := Rat.mul_nonneg (a := -p) (b := (q - p)⁻¹) (by grind) (by grind)
          have m2 := Rat.mul_nonneg (a := q) (b := (q - p)⁻¹) (by grind) (by grind)
          have m3 := Rat.mul_nonneg (a := c) (b := (q - p)⁻¹) (by grind) (by grind)
          have m4 := Rat.mul_nonneg (a := q - p - c) (b := (q - p)⁻¹) (by grind) (by grind)
          generalize (q - p)⁻¹ = M at *
          exact key (-p * M) (c * M) (by grind) (by grind) (by grind) (by grind) (by grind) (by grind) (by grind)
        · simp [c1, c2]
    · simp [h1, h2]
theorem wn_seg {x y : Q2} {es : List (Q2 × Q2)} (h : ∀ e ∈ es, ¬ Meets e.1 e.2 x y) : wn (sq y x) x es = wn (sq y x) y es := by
  unfold wn
  congr 1
  exact List.map_congr_left fun e he => hit_seg (h e he)
theorem on_left (x y : Q2) : OnE x (x, y) := by
  unfold OnE OnV xq dq sq; simp only; constructor <;> grind
theorem on_right (x y : Q2) : OnE y (x, y) := by
  unfold OnE OnV xq dq sq; simp only; constructor <;> grind
theorem sq_ne {x y : Q2} (h : x ≠ y) : sq y x ≠ (0, 0) := by
  intro e
  simp only [sq, Prod.mk.injEq] at e
  exact h (Prod.ext (by grind) (by grind))
/-- along a segment that meets no edge the winding number stays -/
theorem wn_walk {p d x y : Q2} {es : List (Q2 × Q2)} (hp : Path p p es) (hd : d ≠ (0, 0)) (h : ∀ e ∈ es, ¬ Meets e.1 e.2 x y) : wn d x es = wn d y es := by
  by_cases e : x = y
  · rw [e]
  · have h1 : ∀ g ∈ es, ¬ OnE x g := fun g hg ho => h g hg ⟨x, ho, on_left x y⟩
    have h2 : ∀ g ∈ es, ¬ OnE y g := fun g hg ho => h g hg ⟨y, ho, on_right x y⟩
    rw [wn_dir hp hd (sq_ne e) h1, wn_dir hp hd (sq_ne e) h2]
    exact wn_seg h
theorem wn_all_left {d x : Q2} {es : List (Q2 × Q2)} (h : ∀ e ∈ es, 0 < xq d (sq e.1 x) ∧ 0 < xq d (sq e.2 x)) : wn d x es = 0 := by
  unfold wn
  rw [List.map_congr_left (g := fun _ => (0 : Int)) fun e he => by unfold hit; simp [(h e he).1, (h e he).2]]
  induction es with
  | nil => rfl
  | cons a l ih => simp only [List.map_cons, List.sum_cons, ih (fun e he => h e (by simp [he])), Int.zero_add]
theorem wn_none_left {d x : Q2} {es : List (Q2 × Q2)} (h : ∀ e ∈ es, ¬ 0 < xq d (sq e.1 x) ∧ ¬ 0 < xq d (sq e.2 x)) : wn d x es = 0 := by
  unfold wn
  rw [List.map_congr_left (g := fun _ => (0 : Int)) fun e he => by unfold hit; simp [(h e he).1, (h e he).2]]
  induction es with
  | nil => rfl
  | cons a l ih => simp only [List.map_cons, List.sum_cons, ih (fun e he => h e (by simp [he])), Int.zero_add]
theorem hit_scale {k : Rat} {d u v : Q2} (hk : 0 < k) : hit (k * d.1, k * d.2) u v = hit d u v := by
  have h : ∀ w : Q2, 0 < xq (k * d.1, k * d.2) w ↔ 0 < xq d w := fun w => by
    have : xq (k * d.1, k * d.2) w = k * xq d w := by unfold xq; grind
    rw [this]; exact Rat.mul_pos_iff_of_pos_left hk
  unfold hit
  simp only [h]
theorem hit_neg (d u v : Q2) : hit d v u = - hit d u v := by
  have h1 : xq v u < 0 ↔ 0 < xq u v := by rw [xq_swap]; constructor <;> intro h <;> grind
  have h2 : xq u v < 0 ↔ 0 < xq v u := by rw [xq_swap]; constructor <;> intro h <;> grind
  unfold hit
  simp only [h1, h2]
  by_cases a : 0 < xq d u <;> by_cases b : 0 < xq d v <;> simp only [a, b, if_true, if_false] <;> (try split) <;> simp
end Go.Geo

namespace Go.Geo
set_option maxRecDepth 100000
set_option maxHeartbeats 4000000
set_option linter.unusedSimpArgs false
set_option linter.unusedVariables false
open Go Go.Zv
def edg (a : Nat → Q2) (k : Nat) : Q2 × Q2 := (a k, a (k + 1))
def chn (a : Nat → Q2) (i m : Nat) : List (Q2 × Q2) := (List.range m).map fun k => edg a (i + k)
theorem chn_cons (a : Nat → Q2) (i m : Nat) : chn a i (m + 1) = edg a i :: chn a (i + 1) m := by
  unfold chn
  rw [List.range_succ_eq_map, List.map_cons, List.map_map]
  congr 1
  exact List.map_congr_left fun k _ => by simp only [Function.comp_apply]; congr 1; omega
theorem chn_snoc (a : Nat → Q2) (i m : Nat) : chn a i (m + 1) = chn a i m ++ [edg a (i + m)] := by
  unfold chn
  rw [List.range_succ, List.map_append]; rfl
theorem chn_path (a : Nat → Q2) (i m : Nat) : Path (a i) (a (i + m)) (chn a i m) := by
  intro f
  induction m with
  | zero => simp [chn]
  | succ m ih =>
    rw [chn_snoc, List.map_append, List.sum_append, ih]
    simp only [edg, List.map_cons, List.map_nil, List.sum_cons, List.sum_nil]
    rw [show i + (m + 1) = i + m + 1 by omega]; omega
theorem wn_cons (d x : Q2) (e : Q2 × Q2) (l : List (Q2 × Q2)) : wn d x (e :: l) = hit d (sq e.1 x) (sq e.2 x) + wn d x l := by simp [wn]
theorem wn_append (d x : Q2) (l m : List (Q2 × Q2)) : wn d x (l ++ m) = wn d x l + wn d x m := by simp [wn, List.sum_append]
theorem wn_one (d x : Q2) (e : Q2 × Q2) : wn d x [e] = hit d (sq e.1 x) (sq e.2 x) := by simp [wn]
theorem mem_chn {a : Nat → Q2} {i m : Nat} {e : Q2 × Q2} : e ∈ chn a i m ↔ ∃ k, k < m ∧ e = edg a (i + k) := by
  unfold chn
  simp only [List.mem_map, List.mem_range]
  constructor
  · rintro ⟨k, h, rfl⟩; exact ⟨k, h, rfl⟩
  · rintro ⟨k, h, rfl⟩; exact ⟨k, h, rfl⟩
theorem wn_congr {d d' x y : Q2} {a : Nat → Q2} {i m : Nat} (h : ∀ k, k < m → hit d (sq (a (i + k)) x) (sq (a (i + k + 1)) x) = hit d' (sq (a (i + k)) y) (sq (a (i + k + 1)) y)) : wn d x (chn a i m) = wn d' y (chn a i m) := by
  unfold wn chn
  rw [List.map_map, List.map_map]
  congr 1
  exact List.map_congr_left fun k hk => h k (List.mem_range.1 hk)
/-- a simple closed polygon -/
structure Simp (a : Nat → Q2) (n : Nat) : Prop where
  n3 : 3 ≤ n
  per : ∀ k, a (k + n) = a k
  nc : ∀ i, xq (sq (a (i + 1)) (a i)) (sq (a (i + 2)) (a (i + 1))) ≠ 0
  dj : ∀ i m, 2 ≤ m → m + 2 ≤ n → ∀ z, OnE z (edg a i) → ¬ OnE z (edg a (i + m))
section
variable {a : Nat → Q2} {n : Nat}
theorem edg_per (h : Simp a n) (k : Nat) : edg a (k + n) = edg a k := by
  unfold edg; rw [h.per, show k + n + 1 = k + 1 + n by omega, h.per]
theorem wn_turn (h : Simp a n) (d x : Q2) (i : Nat) : wn d x (chn a (i + 1) n) = wn d x (chn a i n) := by
  obtain ⟨m, rfl⟩ : ∃ m, n = m + 1 := ⟨n - 1, by have := h.n3; omega⟩
  have e : edg a (i + 1 + m) = edg a i := by rw [show i + 1 + m = i + (m + 1) by omega]; exact edg_per h i
  rw [chn_cons a i m, chn_snoc a (i + 1) m, wn_append, wn_one, wn_cons, e, Int.add_comm]
theorem wn_base (h : Simp a n) (d x : Q2) (i : Nat) : wn d x (chn a i n) = wn d x (chn a 0 n) := by
  induction i with
  | zero => rfl
  | succ i ih => rw [wn_turn h, ih]
theorem f_ne (h : Simp a n) (i : Nat) : sq (a (i + 1)) (a i) ≠ (0, 0) := fun e => h.nc i (by rw [e]; unfold xq; grind)
/-- edges with a common corner share nothing else -/
theorem adj (h : Simp a n) {i : Nat} {z : Q2} (h1 : OnE z (edg a i)) (h2 : OnE z (edg a (i + 1))) : z = a (i + 1) := by
  obtain ⟨s, s0, s1, e1⟩ := on_param h1
  obtain ⟨t, t0, t1, e2⟩ := on_param h2
  have hn := h.nc i
  rw [show i + 1 + 1 = i + 2 by omega] at e2
  rw [e1] at e2
  simp only [onp, Prod.mk.injEq] at e2
  obtain ⟨q1, q2⟩ := e2
  have hs : (1 - s) * xq (sq (a (i + 1)) (a i)) (sq (a (i + 2)) (a (i + 1))) = 0 := by unfold xq sq; grind
  have : s = 1 := by
    have hi := r_inv hn
    generalize (xq (sq (a (i + 1)) (a i)) (sq (a (i + 2)) (a (i + 1))))⁻¹ = M at *
    grind
  rw [e1, this]
  refine Prod.ext ?_ ?_ <;> simp only [onp] <;> grind
/-- a corner lies on its two edges alone -/
theorem corner_off (h : Simp a n) (i k : Nat) (hk : k < n - 2) : ¬ OnE (a (i + 1)) (edg a (i + 2 + k)) := by
  intro ho
  have n3 := h.n3
  by_cases h1 : k + 2 + 2 ≤ n
  · exact h.dj i (k + 2) (by omega) (by omega) (a (i + 1)) (on_right _ _) (by rw [show i + (k + 2) = i + 2 + k by omega]; exact ho)
  · by_cases h2 : n = 3
    · have hk0 : k = 0 := by omega
      subst hk0
      have := adj h (i := i + 1) (z := a (i + 1)) (on_left _ _) (by exact ho)
      have hn := h.nc (i + 1)
      rw [show i + 1 + 1 = i + 2 by omega] at this
      rw [show i + 1 + 1 = i + 2 by omega, ← this] at hn
      exact hn (by unfold xq sq; grind)
    · exact h.dj (i + 1) (k + 1) (by omega) (by omega) (a (i + 1)) (on_left _ _) (by rw [show i + 1 + (k + 1) = i + 2 + k by omega]; exact ho)
/-- a point inside an edge lies on no other -/
theorem inner_off (h : Simp a n) {i : Nat} {y : Q2} (hy : OnE y (edg a i)) (h0 : y ≠ a i) (h1 : y ≠ a (i + 1)) (k : Nat) (hk : k < n - 1) : ¬ OnE y (edg a (i + 1 + k)) := by
  intro ho
  have n3 := h.n3
  by_cases e0 : k = 0
  · subst e0; exact h1 (adj h hy ho)
  · by_cases e1 : k + 3 ≤ n
    · exact h.dj i (k + 1) (by omega) (by omega) y hy (by rw [show i + (k + 1) = i + 1 + k by omega]; exact ho)
    · have e2 : k + 2 = n := by omega
      have := adj h (i := i + 1 + k) (z := y) ho (by rw [show i + 1 + k + 1 = i + n by omega, edg_per h]; exact hy)
      rw [show i + 1 + k + 1 = i + n by omega, h.per] at this
      exact h0 this
/-- what the winding number is on the left of an edge -/
def Lc (a : Nat → Q2) (n i : Nat) : Int := wn (sq (a (i + 1)) (a i)) (a i) (chn a i n)
theorem hit_from0 (d v : Q2) : hit d (0, 0) v = 0 := by
  have h1 : xq d (0, 0) = 0 := by unfold xq; grind
  have h2 : xq (0, 0) v = 0 := by unfold xq; grind
  unfold hit; rw [h1, h2]; simp
theorem hit_to0 (d v : Q2) : hit d v (0, 0) = 0 := by rw [hit_neg, hit_from0]; rfl
theorem sq_self (x : Q2) : sq x x = (0, 0) := by unfold sq; refine Prod.ext ?_ ?_ <;> simp only <;> grind
def lft (a : Nat → Q2) (i : Nat) : Int := if 0 < xq (sq (a (i + 1)) (a i)) (sq (a (i + 2)) (a (i + 1))) then 1 else 0
theorem hit_next {a : Nat → Q2} {i : Nat} {y : Q2} {s : Rat} (s1 : s < 1) (hy : y = onp (a i) (a (i + 1)) s) : hit (sq (a (i + 1)) (a i)) (sq (a (i + 1)) y) (sq (a (i + 2)) y) = lft a i := by
  have e1 : xq (sq (a (i + 1)) (a i)) (sq (a (i + 1)) y) = 0 := by subst hy; unfold onp xq sq; grind
  have e2 : xq (sq (a (i + 1)) (a i)) (sq (a (i + 2)) y) = xq (sq (a (i + 1)) (a i)) (sq (a (i + 2)) (a (i + 1))) := by subst hy; unfold onp xq sq; grind
  have e3 : xq (sq (a (i + 1)) y) (sq (a (i + 2)) y) = (1 - s) * xq (sq (a (i + 1)) (a i)) (sq (a (i + 2)) (a (i + 1))) := by subst hy; unfold onp xq sq; grind
  unfold hit lft
  rw [e1, e2, e3]
  have h0 : ¬ (0 : Rat) < 0 := by grind
  rw [if_neg h0]
  by_cases hg : 0 < xq (sq (a (i + 1)) (a i)) (sq (a (i + 2)) (a (i + 1)))
  · have := Rat.mul_pos (a := 1 - s) (by grind) hg
    simp only [hg, this, if_true]
  · simp only [hg, if_false]
theorem hit_prev {z b c y : Q2} {s : Rat} (s0 : 0 ≤ s) (hy : y = onp b c s) : hit (sq c b) (sq z y) (sq b y) = 0 := by
  have e1 : xq (sq c b) (sq b y) = 0 := by subst hy; unfold onp xq sq; grind
  have e3 : xq (sq z y) (sq b y) = s * xq (sq c b) (sq z y) := by subst hy; unfold onp xq sq; grind
  unfold hit
  rw [e1, e3]
  have h0 : ¬ (0 : Rat) < 0 := by grind
  simp only [h0, if_false]
  by_cases hg : 0 < xq (sq c b) (sq z y)
  · have := Rat.mul_nonneg s0 (show 0 ≤ xq (sq c b) (sq z y) by grind)
    have h1 : ¬ s * xq (sq c b) (sq z y) < 0 := by grind
    simp only [hg, h1, if_true, if_false]
  · simp only [hg, if_false]
theorem hit_self {b c y : Q2} {s : Rat} (hy : y = onp b c s) : hit (sq c b) (sq b y) (sq c y) = 0 := by
  have e1 : xq (sq c b) (sq b y) = 0 := by subst hy; unfold onp xq sq; grind
  have e2 : xq (sq c b) (sq c y) = 0 := by subst hy; unfold onp xq sq; grind
  have h0 : ¬ (0 : Rat) < 0 := by grind
  unfold hit; rw [e1, e2]; simp only [h0, if_false]
theorem onp0 (a b : Q2) : onp a b 0 = a := by refine Prod.ext ?_ ?_ <;> simp only [onp] <;> grind
theorem onp1 (a b : Q2) : onp a b 1 = b := by refine Prod.ext ?_ ?_ <;> simp only [onp] <;> grind
/-- along an edge, in its direction: the other edges count alike -/
theorem edge_move (h : Simp a n) {i : Nat} {y : Q2} {s : Rat} (s0 : 0 ≤ s) (s1 : s ≤ 1) (hy : y = onp (a i) (a (i + 1)) s) :
    wn (sq (a (i + 1)) (a i)) y (chn a (i + 2) (n - 2)) = wn (sq (a (i + 1)) (a i)) (a i) (chn a (i + 2) (n - 2)) := by
  refine wn_congr fun k hk => ?_
  have n3 := h.n3
  by_cases e : k + 3 = n
  · have e1 : a (i + 2 + k + 1) = a i := by rw [show i + 2 + k + 1 = i + n by omega, h.per]
    rw [e1, hit_prev s0 hy, hit_prev (s := 0) (by grind) (onp0 (a i) (a (i + 1))).symm]
  · by_cases hz : y = a i
    · rw [hz]
    · have s2 : 0 < s := by
        refine Classical.byContradiction fun hs => hz ?_
        have : s = 0 := by grind
        rw [hy, this, onp0]
      have hm : ¬ Meets (a (i + 2 + k)) (a (i + 2 + k + 1)) (a i) y := by
        rintro ⟨z, z1, z2⟩
        refine h.dj i (k + 2) (by omega) (by omega) z ?_ (by rw [show i + (k + 2) = i + 2 + k by omega]; exact z1)
        obtain ⟨t, t0, t1, ht⟩ := on_param z2
        have : z = onp (a i) (a (i + 1)) (t * s) := by rw [ht, hy]; refine Prod.ext ?_ ?_ <;> simp only [onp] <;> grind
        rw [this]
        refine on_of_param (Rat.mul_nonneg t0 s0) ?_
        have := Rat.mul_nonneg (a := 1 - t) (b := s) (by grind) s0
        grind
      have := hit_seg hm
      have hd : sq y (a i) = (s * (sq (a (i + 1)) (a i)).1, s * (sq (a (i + 1)) (a i)).2) := by rw [hy]; refine Prod.ext ?_ ?_ <;> simp only [onp, sq] <;> grind
      rw [hd, hit_scale s2, hit_scale s2] at this
      exact this.symm
theorem split2 (h : Simp a n) (i : Nat) : chn a i n = edg a i :: edg a (i + 1) :: chn a (i + 2) (n - 2) := by
  obtain ⟨m, rfl⟩ : ∃ m, n = m + 2 := ⟨n - 2, by have := h.n3; omega⟩
  rw [chn_cons, chn_cons]; rfl
theorem Lc_eq (h : Simp a n) {i : Nat} {y : Q2} {s : Rat} (s0 : 0 ≤ s) (s1 : s < 1) (hy : y = onp (a i) (a (i + 1)) s) : wn (sq (a (i + 1)) (a i)) y (chn a i n) = Lc a n i := by
  unfold Lc
  rw [split2 h i]
  simp only [wn_cons, edg]
  rw [edge_move h s0 (by grind) hy, hit_self hy, hit_next s1 hy, hit_self (s := 0) (onp0 (a i) (a (i + 1))).symm, hit_next (s := 0) (by grind) (onp0 (a i) (a (i + 1))).symm]
theorem Lc_V (h : Simp a n) (i : Nat) : Lc a n i = lft a i + wn (sq (a (i + 1)) (a i)) (a (i + 1)) (chn a (i + 2) (n - 2)) := by
  unfold Lc
  rw [split2 h i]
  simp only [wn_cons, edg]
  rw [hit_self (s := 0) (onp0 (a i) (a (i + 1))).symm, hit_next (s := 0) (by grind) (onp0 (a i) (a (i + 1))).symm, edge_move h (s := 1) (by grind) (by grind) (onp1 (a i) (a (i + 1))).symm]
  omega
theorem Lc_V2 (h : Simp a n) (i : Nat) : Lc a n (i + 1) = wn (sq (a (i + 2)) (a (i + 1))) (a (i + 1)) (chn a (i + 2) (n - 2)) := by
  unfold Lc
  rw [wn_turn h, split2 h i]
  simp only [wn_cons, edg]
  rw [sq_self, hit_to0, hit_from0, show i + 1 + 1 = i + 2 by omega]
  omega
theorem V_path (h : Simp a n) (i : Nat) : Path (a (i + 2)) (a i) (chn a (i + 2) (n - 2)) := by
  have := chn_path a (i + 2) (n - 2)
  rw [show i + 2 + (n - 2) = i + n by have := h.n3; omega, h.per] at this
  exact this
theorem V_off (h : Simp a n) (i : Nat) : ∀ g ∈ chn a (i + 2) (n - 2), ¬ OnE (a (i + 1)) g := by
  intro g hg
  obtain ⟨k, hk, rfl⟩ := mem_chn.1 hg
  exact corner_off h i k hk
theorem Lc_succ (h : Simp a n) (i : Nat) : Lc a n (i + 1) = Lc a n i := by
  rw [Lc_V2 h, Lc_V h i]
  have hn := h.nc i
  have k1 : xq (sq (a (i + 1)) (a i)) (sq (a i) (a (i + 1))) = 0 := by unfold xq sq; grind
  have k2 : xq (sq (a (i + 2)) (a (i + 1))) (sq (a i) (a (i + 1))) = xq (sq (a (i + 1)) (a i)) (sq (a (i + 2)) (a (i + 1))) := by unfold xq sq; grind
  have k3 : xq (sq (a (i + 2)) (a (i + 1))) (sq (a (i + 2)) (a (i + 1))) = 0 := by unfold xq sq; grind
  have z0 : ¬ (0 : Rat) < 0 := by grind
  by_cases hl : 0 < xq (sq (a (i + 1)) (a i)) (sq (a (i + 2)) (a (i + 1)))
  · have := wn_wedge (V_path h i) hl (V_off h i)
    unfold Wd at this
    simp only [k1, k3, hl, z0, if_true, if_false] at this
    unfold lft
    rw [if_pos hl]; omega
  · have hr : 0 < xq (sq (a (i + 2)) (a (i + 1))) (sq (a (i + 1)) (a i)) := by rw [xq_swap]; grind
    have := wn_wedge (V_path h i) hr (V_off h i)
    unfold Wd at this
    simp only [k2, k3, hl, z0, if_false] at this
    unfold lft
    rw [if_neg hl]; omega
theorem Lc_const (h : Simp a n) (i : Nat) : Lc a n i = Lc a n 0 := by
  induction i with
  | zero => rfl
  | succ i ih => rw [Lc_succ h, ih]
/-- the top corner tells -/
theorem Lc_top (h : Simp a n) (t : Nat) (ht : ∀ j, (a j).2 < (a (t + 1)).2 ∨ ((a j).2 = (a (t + 1)).2 ∧ (a (t + 1)).1 ≤ (a j).1)) : Lc a n (t + 1) = 0 ∨ Lc a n (t + 1) = 1 := by
  rw [Lc_V2 h]
  have hj : ∀ j, ¬ 0 < xq (1, 0) (sq (a j) (a (t + 1))) := fun j => by
    have := ht j
    unfold xq sq; simp only; grind
  have h0 : wn (1, 0) (a (t + 1)) (chn a (t + 2) (n - 2)) = 0 := wn_none_left fun e he => by
    obtain ⟨k, hk, rfl⟩ := mem_chn.1 he
    exact ⟨hj _, hj _⟩
  have k3 : xq (sq (a (t + 2)) (a (t + 1))) (sq (a (t + 2)) (a (t + 1))) = 0 := by unfold xq sq; grind
  have z0 : ¬ (0 : Rat) < 0 := by grind
  have h2 := ht (t + 2)
  by_cases hg : 0 < xq (sq (a (t + 2)) (a (t + 1))) (1, 0)
  · have := wn_wedge (V_path h t) hg (V_off h t)
    unfold Wd at this
    simp only [k3, z0, if_false, h0] at this
    rw [Int.sub_zero, Int.sub_zero] at this
    rw [this]
    have := hj t
    simp only [this, if_false]
    split <;> simp
  · have hne := f_ne h (t + 1)
    have e2 : (sq (a (t + 2)) (a (t + 1))).2 = 0 := by unfold xq sq at hg; simp only at hg; unfold sq; simp only; grind
    have e1 : 0 < (sq (a (t + 2)) (a (t + 1))).1 := by
      refine Classical.byContradiction fun hx => hne ?_
      rw [show t + 1 + 1 = t + 2 by omega]
      refine Prod.ext ?_ e2
      unfold sq at hx e2 ⊢; simp only at hx e2 ⊢; grind
    left
    refine wn_none_left fun e he => ?_
    obtain ⟨k, hk, rfl⟩ := mem_chn.1 he
    have hs : ∀ j, ¬ 0 < xq (sq (a (t + 2)) (a (t + 1))) (sq (a j) (a (t + 1))) := fun j hx => by
      have : xq (sq (a (t + 2)) (a (t + 1))) (sq (a j) (a (t + 1))) = (sq (a (t + 2)) (a (t + 1))).1 * xq (1, 0) (sq (a j) (a (t + 1))) := by unfold xq at *; simp only at *; rw [e2]; grind
      rw [this] at hx
      exact hj j ((Rat.mul_pos_iff_of_pos_left e1).1 hx)
    exact ⟨hs _, hs _⟩
end
end Go.Geo

namespace Go.Geo
set_option maxRecDepth 100000
set_option maxHeartbeats 4000000
set_option linter.unusedSimpArgs false
set_option linter.unusedVariables false
open Go Go.Zv
theorem exists_dir (us : List Q2) (h : ∀ u ∈ us, u ≠ (0, 0)) : ∃ M0 : Rat, ∀ M, M0 < M → ∀ u ∈ us, xq (M, 1) u ≠ 0 := by
  induction us with
  | nil => exact ⟨0, fun _ _ u hu => by cases hu⟩
  | cons u us ih =>
    obtain ⟨M0, hM⟩ := ih fun u hu => h u (by simp [hu])
    by_cases e : u.2 = 0
    · refine ⟨M0, fun M hm v hv => ?_⟩
      rcases List.mem_cons.1 hv with rfl | hv
      · have := h v (by simp)
        intro hx
        refine this (Prod.ext ?_ e)
        unfold xq at hx; simp only at hx ⊢; grind
      · exact hM M hm v hv
    · have hi := r_inv e
      have step : ∀ M, u.1 * u.2⁻¹ < M → xq (M, 1) u ≠ 0 := fun M hm hx => by
        unfold xq at hx; simp only at hx
        generalize u.2⁻¹ = k at *
        have : M = u.1 * k := by grind
        grind
      rcases Rat.le_total (a := M0) (b := u.1 * u.2⁻¹) with hl | hl
      · refine ⟨u.1 * u.2⁻¹, fun M hm v hv => ?_⟩
        rcases List.mem_cons.1 hv with rfl | hv
        · exact step M hm
        · exact hM M (by grind) v hv
      · refine ⟨M0, fun M hm v hv => ?_⟩
        rcases List.mem_cons.1 hv with rfl | hv
        · exact step M (by grind)
        · exact hM M hm v hv
theorem argmin (n : Nat) (P : Nat → Prop) (t : Nat → Rat) (h : ∃ i, i < n ∧ P i) : ∃ i, i < n ∧ P i ∧ ∀ j, j < n → P j → t i ≤ t j := by
  induction n with
  | zero => obtain ⟨i, hi, _⟩ := h; omega
  | succ n ih =>
    by_cases hn : ∃ i, i < n ∧ P i
    · obtain ⟨i, i1, i2, i3⟩ := ih hn
      by_cases hp : P n ∧ t n ≤ t i
      · refine ⟨n, by omega, hp.1, fun j hj hpj => ?_⟩
        by_cases e : j = n
        · subst e; exact Rat.le_refl
        · have := i3 j (by omega) hpj; have := hp.2; grind
      · refine ⟨i, by omega, i2, fun j hj hpj => ?_⟩
        by_cases e : j = n
        · subst e
          have : ¬ t j ≤ t i := fun h => hp ⟨hpj, h⟩
          grind
        · exact i3 j (by omega) hpj
    · obtain ⟨i, i1, i2⟩ := h
      have e : i = n := Classical.byContradiction fun hx => hn ⟨i, by omega, i2⟩
      subst e
      refine ⟨i, by omega, i2, fun j hj hpj => ?_⟩
      by_cases e : j = i
      · subst e; exact Rat.le_refl
      · exact absurd ⟨j, by omega, hpj⟩ hn
theorem lt_of_not {x : Rat} (h : x ≠ 0) (h1 : ¬ 0 < x) : x < 0 := by grind
theorem r_cancel {D : Rat} (x : Rat) (h : D ≠ 0) : x * D * D⁻¹ = x := by rw [Rat.mul_assoc, r_inv h, Rat.mul_one]
theorem hit_ne {d u v : Q2} (hp : xq d u ≠ 0) (hq : xq d v ≠ 0) (h : hit d u v ≠ 0) : (xq d u < 0 ∧ 0 < xq d v ∧ 0 < xq u v ∧ hit d u v = 1) ∨ (0 < xq d u ∧ xq d v < 0 ∧ xq u v < 0 ∧ hit d u v = -1) := by
  unfold hit at *
  by_cases h1 : 0 < xq d u <;> by_cases h2 : 0 < xq d v <;> simp only [h1, h2, if_true, if_false] at h ⊢
  · exact absurd rfl h
  · by_cases h3 : xq u v < 0
    · right; simp only [h3, if_true]; exact ⟨trivial, lt_of_not hq h2, trivial, trivial⟩
    · simp [h3] at h
  · by_cases h3 : 0 < xq u v
    · left; simp only [h3, if_true]; exact ⟨lt_of_not hp h1, trivial, trivial, trivial⟩
    · simp [h3] at h
  · exact absurd rfl h
theorem hit_of1 {d u v : Q2} (h1 : xq d u < 0) (h2 : 0 < xq d v) (h3 : 0 < xq u v) : hit d u v = 1 := by
  have : ¬ 0 < xq d u := by grind
  unfold hit; simp only [this, h2, h3, if_true, if_false]
theorem hit_of2 {d u v : Q2} (h1 : 0 < xq d u) (h2 : xq d v < 0) (h3 : xq u v < 0) : hit d u v = -1 := by
  have : ¬ 0 < xq d v := by grind
  unfold hit; simp only [this, h1, h3, if_true, if_false]
theorem cross_at {x p q z d : Q2} {r s : Rat} (h1 : z = onp p q s) (h2 : sq z x = (r * d.1, r * d.2)) :
    xq d (sq p x) + s * (xq d (sq q x) - xq d (sq p x)) = 0 ∧ xq (sq p x) (sq q x) = r * (xq d (sq q x) - xq d (sq p x)) := by
  subst h1
  unfold onp sq at h2
  simp only [Prod.mk.injEq] at h2
  obtain ⟨e1, e2⟩ := h2
  unfold xq sq
  constructor <;> grind
section
variable {a : Nat → Q2} {n : Nat}
theorem per_mod (h : Simp a n) (j : Nat) : a (j % n) = a j := by
  have : ∀ q r, a (r + n * q) = a r := by
    intro q r
    induction q with
    | zero => simp
    | succ q ih => rw [Nat.mul_succ, ← Nat.add_assoc, h.per, ih]
  have e := this (j / n) (j % n)
  rw [Nat.mod_add_div] at e
  exact e.symm
theorem per_mod1 (h : Simp a n) (j : Nat) : a (j % n + 1) = a (j + 1) := by
  rw [← per_mod h (j % n + 1), ← per_mod h (j + 1), Nat.mod_add_mod]
theorem edg_mod (h : Simp a n) (j : Nat) : edg a (j % n) = edg a j := by
  unfold edg; rw [per_mod h, per_mod1 h]
theorem edg_mem (h : Simp a n) (j : Nat) : edg a j ∈ chn a 0 n := by
  rw [← edg_mod h]
  exact mem_chn.2 ⟨j % n, Nat.mod_lt _ (by have := h.n3; omega), by rw [Nat.zero_add]⟩
theorem split1 (h : Simp a n) (i : Nat) : chn a i n = edg a i :: chn a (i + 1) (n - 1) := by
  obtain ⟨m, rfl⟩ : ∃ m, n = m + 1 := ⟨n - 1, by have := h.n3; omega⟩
  rw [chn_cons]; rfl
theorem N_path (h : Simp a n) (i : Nat) : Path (a (i + 1)) (a i) (chn a (i + 1) (n - 1)) := by
  have := chn_path a (i + 1) (n - 1)
  rw [show i + 1 + (n - 1) = i + n by have := h.n3; omega, h.per] at this
  exact this
theorem all_path (h : Simp a n) : Path (a 0) (a 0) (chn a 0 n) := by
  have := chn_path a 0 n
  rw [h.per] at this
  exact this
/-- inside an edge: the other edges, counted along a ray to the right of the edge or to its left -/
theorem N_right (h : Simp a n) {i : Nat} {y d : Q2} {s : Rat} (s0 : 0 < s) (s1 : s < 1) (hy : y = onp (a i) (a (i + 1)) s) (hd : 0 < xq d (sq (a (i + 1)) (a i))) :
    wn d y (chn a (i + 1) (n - 1)) = Lc a n 0 - 1 := by
  have hon : OnE y (edg a i) := by rw [hy]; exact on_of_param (by grind) (by grind)
  have hne := f_ne h i
  have h0 : y ≠ a i := fun e => by
    rw [e] at hy
    refine hne ?_
    rw [Prod.ext_iff] at hy; simp only [onp] at hy
    refine Prod.ext ?_ ?_ <;> unfold sq <;> simp only
    · have : s * ((a (i + 1)).1 - (a i).1) = 0 := by grind
      have hi := r_inv (x := s) (by grind)
      generalize s⁻¹ = M at *; grind
    · have : s * ((a (i + 1)).2 - (a i).2) = 0 := by grind
      have hi := r_inv (x := s) (by grind)
      generalize s⁻¹ = M at *; grind
  have h1 : y ≠ a (i + 1) := fun e => by
    rw [e] at hy
    refine hne ?_
    rw [Prod.ext_iff] at hy; simp only [onp] at hy
    refine Prod.ext ?_ ?_ <;> unfold sq <;> simp only
    · have : (1 - s) * ((a (i + 1)).1 - (a i).1) = 0 := by grind
      have hi := r_inv (x := 1 - s) (by grind)
      generalize (1 - s)⁻¹ = M at *; grind
    · have : (1 - s) * ((a (i + 1)).2 - (a i).2) = 0 := by grind
      have hi := r_inv (x := 1 - s) (by grind)
      generalize (1 - s)⁻¹ = M at *; grind
  have hoff : ∀ g ∈ chn a (i + 1) (n - 1), ¬ OnE y g := fun g hg => by
    obtain ⟨k, hk, rfl⟩ := mem_chn.1 hg
    exact inner_off h hon h0 h1 k hk
  have hL := Lc_eq h (i := i) (y := y) (s := s) (by grind) s1 hy
  rw [Lc_const h i, split1 h i, wn_cons] at hL
  simp only [edg] at hL
  rw [hit_self hy] at hL
  have hw := wn_wedge (N_path h i) hd hoff
  have k1 : xq d (sq (a i) y) = -s * xq d (sq (a (i + 1)) (a i)) := by rw [hy]; unfold xq sq onp; grind
  have k2 : xq d (sq (a (i + 1)) y) = (1 - s) * xq d (sq (a (i + 1)) (a i)) := by rw [hy]; unfold xq sq onp; grind
  have k3 : xq (sq (a (i + 1)) (a i)) (sq (a (i + 1)) y) = 0 := by rw [hy]; unfold xq sq onp; grind
  have z0 : ¬ (0 : Rat) < 0 := by grind
  have p1 := Rat.mul_pos s0 hd
  have p2 := Rat.mul_pos (show 0 < 1 - s by grind) hd
  have q1 : ¬ 0 < -s * xq d (sq (a (i + 1)) (a i)) := by grind
  unfold Wd at hw
  rw [k1, k2, k3] at hw
  simp only [q1, p2, z0, if_true, if_false] at hw
  omega
theorem N_left (h : Simp a n) {i : Nat} {y d : Q2} {s : Rat} (s0 : 0 < s) (s1 : s < 1) (hy : y = onp (a i) (a (i + 1)) s) (hd : 0 < xq (sq (a (i + 1)) (a i)) d) :
    wn d y (chn a (i + 1) (n - 1)) = Lc a n 0 := by
  have hm : 0 < xq (-d.1, -d.2) (sq (a (i + 1)) (a i)) := by
    have : xq (-d.1, -d.2) (sq (a (i + 1)) (a i)) = xq (sq (a (i + 1)) (a i)) d := by unfold xq; grind
    rw [this]; exact hd
  have hL := Lc_eq h (i := i) (y := y) (s := s) (by grind) s1 hy
  rw [Lc_const h i, split1 h i, wn_cons] at hL
  simp only [edg] at hL
  rw [hit_self hy] at hL
  have hon : OnE y (edg a i) := by rw [hy]; exact on_of_param (by grind) (by grind)
  have k1 : xq (sq (a (i + 1)) (a i)) (sq (a i) y) = 0 := by rw [hy]; unfold xq sq onp; grind
  have k2 : xq (sq (a (i + 1)) (a i)) (sq (a (i + 1)) y) = 0 := by rw [hy]; unfold xq sq onp; grind
  have z0 : ¬ (0 : Rat) < 0 := by grind
  have hne := f_ne h i
  have hoff : ∀ g ∈ chn a (i + 1) (n - 1), ¬ OnE y g := fun g hg => by
    obtain ⟨k, hk, rfl⟩ := mem_chn.1 hg
    have e1 : xq d (sq (a i) y) = -s * xq d (sq (a (i + 1)) (a i)) := by rw [hy]; unfold xq sq onp; grind
    have e2 : xq d (sq (a (i + 1)) y) = (1 - s) * xq d (sq (a (i + 1)) (a i)) := by rw [hy]; unfold xq sq onp; grind
    have hd' : 0 < -xq d (sq (a (i + 1)) (a i)) := by rw [xq_swap] at hd; grind
    have p1 := Rat.mul_pos s0 hd'
    have p2 := Rat.mul_pos (show 0 < 1 - s by grind) hd'
    refine inner_off h hon (fun e => ?_) (fun e => ?_) k hk
    · rw [e, sq_self] at e1
      have : xq d (0, 0) = 0 := by unfold xq; grind
      rw [← e] at e1; grind
    · rw [e, sq_self] at e2
      have : xq d (0, 0) = 0 := by unfold xq; grind
      rw [← e] at e2; grind
  have hw := wn_wedge (N_path h i) hd hoff
  unfold Wd at hw
  rw [k1, k2] at hw
  simp only [z0, if_false] at hw
  omega
/-- off the edges: outside, or as on one of an edge's two sides -/
theorem wind (h : Simp a n) {x d : Q2} (hx : ∀ e ∈ chn a 0 n, ¬ OnE x e) (hd : d ≠ (0, 0)) : wn d x (chn a 0 n) = 0 ∨ wn d x (chn a 0 n) = Lc a n 0 ∨ wn d x (chn a 0 n) = Lc a n 0 - 1 := by
  have n3 := h.n3
  obtain ⟨M0, hM⟩ := exists_dir ((List.range n).map fun k => sq (a k) x) (fun u hu => by
    obtain ⟨k, hk, rfl⟩ := List.mem_map.1 hu
    intro e
    have : a k = x := by
      simp only [sq, Prod.mk.injEq] at e
      refine Prod.ext ?_ ?_ <;> grind
    refine hx _ (edg_mem h k) ?_
    rw [← this]; exact on_left _ _)
  have hg := hM (M0 + 1) (by grind)
  generalize hG : ((M0 + 1, 1) : Q2) = g at hg
  have gne : g ≠ (0, 0) := by
    rw [← hG]; intro e; simp only [Prod.mk.injEq] at e; exact absurd e.2 (by decide)
  have hp : ∀ j, xq g (sq (a j) x) ≠ 0 := fun j => by
    rw [← per_mod h j]
    exact hg _ (List.mem_map.2 ⟨j % n, List.mem_range.2 (Nat.mod_lt _ (by omega)), rfl⟩)
  rw [wn_dir (all_path h) hd gne hx]
  by_cases hz : ∃ i, i < n ∧ hit g (sq (a i) x) (sq (a (i + 1)) x) ≠ 0
  · obtain ⟨i, hi, hh, hmin⟩ := argmin n _ (fun j => xq (sq (a j) x) (sq (a (j + 1)) x) * (xq g (sq (a (j + 1)) x) - xq g (sq (a j) x))⁻¹) hz
    have hD : xq g (sq (a (i + 1)) x) - xq g (sq (a i) x) ≠ 0 := by
      rcases hit_ne (hp i) (hp (i + 1)) hh with ⟨h1, h2, _⟩ | ⟨h1, h2, _⟩ <;> grind
    have hinv := r_inv hD
    have hts : 0 < xq (sq (a i) x) (sq (a (i + 1)) x) * (xq g (sq (a (i + 1)) x) - xq g (sq (a i) x))⁻¹ ∧ 0 < -xq g (sq (a i) x) * (xq g (sq (a (i + 1)) x) - xq g (sq (a i) x))⁻¹ ∧ 0 < xq g (sq (a (i + 1)) x) * (xq g (sq (a (i + 1)) x) - xq g (sq (a i) x))⁻¹ := by
      rcases hit_ne (hp i) (hp (i + 1)) hh with ⟨h1, h2, h3, _⟩ | ⟨h1, h2, h3, _⟩
      · have hI : 0 < (xq g (sq (a (i + 1)) x) - xq g (sq (a i) x))⁻¹ := Rat.inv_pos.2 (by grind)
        exact ⟨Rat.mul_pos h3 hI, Rat.mul_pos (by grind) hI, Rat.mul_pos h2 hI⟩
      · have hI : 0 < (xq g (sq (a i) x) - xq g (sq (a (i + 1)) x))⁻¹ := Rat.inv_pos.2 (by grind)
        have e : (xq g (sq (a i) x) - xq g (sq (a (i + 1)) x))⁻¹ = -(xq g (sq (a (i + 1)) x) - xq g (sq (a i) x))⁻¹ := by
          have i2 := r_inv (x := xq g (sq (a i) x) - xq g (sq (a (i + 1)) x)) (by grind)
          generalize (xq g (sq (a i) x) - xq g (sq (a (i + 1)) x))⁻¹ = A at *
          generalize (xq g (sq (a (i + 1)) x) - xq g (sq (a i) x))⁻¹ = C at *
          grind
        rw [e] at hI
        have m1 := Rat.mul_pos (show 0 < -xq (sq (a i) x) (sq (a (i + 1)) x) by grind) hI
        have m2 := Rat.mul_pos h1 hI
        have m3 := Rat.mul_pos (show 0 < -xq g (sq (a (i + 1)) x) by grind) hI
        exact ⟨by grind, by grind, by grind⟩
    obtain ⟨t0, s0, s1'⟩ := hts
    generalize hti : xq (sq (a i) x) (sq (a (i + 1)) x) * (xq g (sq (a (i + 1)) x) - xq g (sq (a i) x))⁻¹ = t at *
    generalize hsi : -xq g (sq (a i) x) * (xq g (sq (a (i + 1)) x) - xq g (sq (a i) x))⁻¹ = s at *
    have s1 : s < 1 := by
      generalize (xq g (sq (a (i + 1)) x) - xq g (sq (a i) x))⁻¹ = M at *
      grind
    generalize hy : onp (a i) (a (i + 1)) s = y
    have hyx : sq y x = (t * g.1, t * g.2) := by
      have i1 : xq g (sq (a (i + 1)) x) * ((a i).1 - x.1) - xq g (sq (a i) x) * ((a (i + 1)).1 - x.1) = xq (sq (a i) x) (sq (a (i + 1)) x) * g.1 := by unfold xq sq; grind
      have i2 : xq g (sq (a (i + 1)) x) * ((a i).2 - x.2) - xq g (sq (a i) x) * ((a (i + 1)).2 - x.2) = xq (sq (a i) x) (sq (a (i + 1)) x) * g.2 := by unfold xq sq; grind
      rw [← hy, ← hti, ← hsi]
      generalize (xq g (sq (a (i + 1)) x) - xq g (sq (a i) x))⁻¹ = M at *
      generalize xq g (sq (a (i + 1)) x) = q at *
      generalize xq g (sq (a i) x) = p at *
      generalize xq (sq (a i) x) (sq (a (i + 1)) x) = c at *
      refine Prod.ext ?_ ?_ <;> simp only [onp, sq] <;> grind
    have hgy : xq g (sq y x) = 0 := by rw [hyx]; unfold xq; grind
    have hon : OnE y (edg a i) := by rw [← hy]; exact on_of_param (by grind) (by grind)
    have y0 : y ≠ a i := fun e => hp i (by rw [← e]; exact hgy)
    have y1 : y ≠ a (i + 1) := fun e => hp (i + 1) (by rw [← e]; exact hgy)
    have hrest : wn g x (chn a (i + 1) (n - 1)) = wn g y (chn a (i + 1) (n - 1)) := by
      refine wn_congr fun k hk => ?_
      have hm : ¬ Meets (a (i + 1 + k)) (a (i + 1 + k + 1)) x y := by
        rintro ⟨z, z1, z2⟩
        obtain ⟨s', u0, u1, ez⟩ := on_param z1
        obtain ⟨r, r0, r1, er⟩ := on_param z2
        have ezx : sq z x = (r * t * g.1, r * t * g.2) := by
          rw [er]
          simp only [sq, Prod.mk.injEq] at hyx
          refine Prod.ext ?_ ?_ <;> simp only [onp, sq] <;> grind
        obtain ⟨c1, c2⟩ := cross_at ez ezx
        have rne : r ≠ 0 := fun e => by
          refine hx _ (edg_mem h (i + 1 + k)) ?_
          have : z = x := by rw [er, e, onp0]
          rw [← this]; exact z1
        have rt : 0 < r * t := Rat.mul_pos (by grind) t0
        have pj := hp (i + 1 + k)
        have pj1 := hp (i + 1 + k + 1)
        have hDj : xq g (sq (a (i + 1 + k + 1)) x) - xq g (sq (a (i + 1 + k)) x) ≠ 0 := fun e => by rw [e] at c1; grind
        have hj : hit g (sq (a (i + 1 + k)) x) (sq (a (i + 1 + k + 1)) x) ≠ 0 := by
          generalize hPe : xq g (sq (a (i + 1 + k)) x) = P at *
          generalize hQe : xq g (sq (a (i + 1 + k + 1)) x) = R at *
          by_cases hP : P < 0
          · have hD2 : 0 < R - P := by
              refine Classical.byContradiction fun hn => ?_
              have := Rat.mul_nonneg u0 (show 0 ≤ P - R by grind)
              grind
            have hR : 0 < R := by
              have := Rat.mul_nonneg (show 0 ≤ 1 - s' by grind) (show 0 ≤ R - P by grind)
              grind
            rw [hit_of1 (by rw [hPe]; exact hP) (by rw [hQe]; exact hR) (by rw [c2]; exact Rat.mul_pos rt hD2)]; decide
          · have hP2 : 0 < P := by grind
            have hD2 : 0 < P - R := by
              refine Classical.byContradiction fun hn => ?_
              have := Rat.mul_nonneg u0 (show 0 ≤ R - P by grind)
              grind
            have hR : R < 0 := by
              have := Rat.mul_nonneg (show 0 ≤ 1 - s' by grind) (show 0 ≤ P - R by grind)
              grind
            have := Rat.mul_pos rt hD2
            rw [hit_of2 (by rw [hPe]; exact hP2) (by rw [hQe]; exact hR) (by rw [c2]; grind)]; decide
        have hmj := hmin ((i + 1 + k) % n) (Nat.mod_lt _ (by omega)) (by rw [per_mod h, per_mod1 h]; exact hj)
        rw [per_mod h, per_mod1 h, c2, r_cancel _ hDj] at hmj
        have hr : r = 1 := by
          refine Classical.byContradiction fun hr => ?_
          have := Rat.mul_pos (show 0 < 1 - r by grind) t0
          grind
        have : z = y := by rw [er, hr, onp1]
        rw [this] at z1
        exact inner_off h hon y0 y1 k hk z1
      have := hit_seg hm
      rw [hyx, hit_scale t0, hit_scale t0] at this
      exact this
    rw [← wn_base h g x i, split1 h i, wn_cons, hrest]
    simp only [edg]
    have e1 : xq g (sq (a (i + 1)) (a i)) = xq g (sq (a (i + 1)) x) - xq g (sq (a i) x) := by unfold xq sq; grind
    rcases hit_ne (hp i) (hp (i + 1)) hh with ⟨h1, h2, h3, h4⟩ | ⟨h1, h2, h3, h4⟩
    · right; left
      rw [h4, N_right h s0 s1 hy.symm (by grind)]; omega
    · right; right
      rw [h4, N_left h s0 s1 hy.symm (by rw [xq_swap]; grind)]; omega
  · left
    have hall : ∀ j, j < n → hit g (sq (a (0 + j)) x) (sq (a (0 + j + 1)) x) = 0 := fun j hj => by
      rw [Nat.zero_add]
      exact Classical.byContradiction fun hne => hz ⟨j, hj, hne⟩
    have e : (chn a 0 n).map (fun e => hit g (sq e.1 x) (sq e.2 x)) = (List.range n).map fun _ => (0 : Int) := by
      unfold chn
      rw [List.map_map]
      exact List.map_congr_left fun k hk => hall k (List.mem_range.1 hk)
    unfold wn
    rw [e]
    clear e hall hz hp hg hM hG
    generalize List.range n = l
    induction l with
    | nil => rfl
    | cons b l ih => simp only [List.map_cons, List.sum_cons, ih, Int.zero_add]
end
end Go.Geo

namespace Go.Geo
set_option maxRecDepth 100000
set_option maxHeartbeats 4000000
set_option linter.unusedSimpArgs false
set_option linter.unusedVariables false
open Go Go.Zv
def cnt (L : List (Rat × Int)) (t : Rat) : Int := (L.map fun p => if t < p.1 then p.2 else 0).sum
def mom (L : List (Rat × Int)) (m : Rat) : Rat := (L.map fun p => if m < p.1 then (p.2 : Rat) * (p.1 - m) else 0).sum
theorem mom_step (L : List (Rat × Int)) (m m' : Rat) (hm : m < m') (h : ∀ p ∈ L, m < p.1 → m' ≤ p.1) : mom L m = mom L m' + (cnt L m : Rat) * (m' - m) := by
  unfold mom cnt
  induction L with
  | nil => simp only [List.map_nil, List.sum_nil]; have : ((0 : Int) : Rat) = 0 := rfl; grind
  | cons p L ih =>
    have ih := ih fun q hq => h q (by simp [hq])
    have hp := h p (by simp)
    simp only [List.map_cons, List.sum_cons, ih, Rat.intCast_add]
    by_cases h1 : m < p.1
    · have h2 := hp h1
      by_cases h3 : m' < p.1
      · simp only [h1, h3, if_true]; grind
      · have : p.1 = m' := by grind
        simp only [h1, h3, if_true, if_false]; grind
    · have h3 : ¬ m' < p.1 := by grind
      simp only [h1, h3, if_false]
      have : ((0 : Int) : Rat) = 0 := rfl
      grind
theorem mom_zero (L : List (Rat × Int)) (m : Rat) (h : ∀ p ∈ L, ¬ m < p.1) : mom L m = 0 := by
  unfold mom
  induction L with
  | nil => rfl
  | cons p L ih =>
    simp only [List.map_cons, List.sum_cons, ih fun q hq => h q (by simp [hq]), h p (by simp), if_false]
    grind
theorem next_x (L : List (Rat × Int)) (m : Rat) (h : ∃ p ∈ L, m < p.1) : ∃ m', m < m' ∧ (∃ p ∈ L, p.1 = m') ∧ ∀ p ∈ L, m < p.1 → m' ≤ p.1 := by
  induction L with
  | nil => obtain ⟨p, hp, _⟩ := h; cases hp
  | cons q L ih =>
    by_cases hL : ∃ p ∈ L, m < p.1
    · obtain ⟨m', h1, ⟨p, hp, e⟩, h3⟩ := ih hL
      by_cases hq : m < q.1 ∧ q.1 < m'
      · refine ⟨q.1, hq.1, ⟨q, by simp, rfl⟩, fun r hr hmr => ?_⟩
        rcases List.mem_cons.1 hr with rfl | hr
        · exact Rat.le_refl
        · have := h3 r hr hmr; have := hq.2; grind
      · refine ⟨m', h1, ⟨p, by simp [hp], e⟩, fun r hr hmr => ?_⟩
        rcases List.mem_cons.1 hr with rfl | hr
        · refine Classical.byContradiction fun hn => hq ⟨hmr, by grind⟩
        · exact h3 r hr hmr
    · obtain ⟨p, hp, hmp⟩ := h
      rcases List.mem_cons.1 hp with rfl | hp
      · refine ⟨p.1, hmp, ⟨p, by simp, rfl⟩, fun r hr hmr => ?_⟩
        rcases List.mem_cons.1 hr with rfl | hr
        · exact Rat.le_refl
        · exact absurd ⟨r, hr, hmr⟩ hL
      · exact absurd ⟨p, hp, hmp⟩ hL
def above (L : List (Rat × Int)) (m : Rat) : Nat := (L.filter fun p => decide (m < p.1)).length
theorem above_lt (L : List (Rat × Int)) (m m' : Rat) (hm : m < m') (h : ∃ p ∈ L, p.1 = m') : above L m' < above L m := by
  have le : ∀ L : List (Rat × Int), above L m' ≤ above L m := by
    intro L
    unfold above
    induction L with
    | nil => simp
    | cons q L ih =>
      simp only [List.filter_cons]
      by_cases h1 : m' < q.1
      · have h2 : m < q.1 := by grind
        simp only [h1, h2, decide_true, if_true, List.length_cons]; omega
      · by_cases h2 : m < q.1
        · simp only [h1, h2, decide_true, decide_false, if_true, List.length_cons, Bool.false_eq_true, if_false]; omega
        · simp only [h1, h2, decide_false, Bool.false_eq_true, if_false]; omega
  induction L with
  | nil => obtain ⟨p, hp, _⟩ := h; cases hp
  | cons q L ih =>
    have := le L
    obtain ⟨p, hp, e⟩ := h
    unfold above at *
    simp only [List.filter_cons]
    rcases List.mem_cons.1 hp with rfl | hp
    · have h1 : ¬ m' < p.1 := by grind
      have h2 : m < p.1 := by grind
      simp only [h1, h2, decide_true, decide_false, if_true, List.length_cons, Bool.false_eq_true, if_false]; omega
    · have ih := ih ⟨p, hp, e⟩
      by_cases h1 : m' < q.1
      · have h2 : m < q.1 := by grind
        simp only [h1, h2, decide_true, if_true, List.length_cons]; omega
      · by_cases h2 : m < q.1
        · simp only [h1, h2, decide_true, decide_false, if_true, List.length_cons, Bool.false_eq_true, if_false]; omega
        · simp only [h1, h2, decide_false, Bool.false_eq_true, if_false]; omega
theorem abel (L : List (Rat × Int)) : ∀ (c : Nat) (m : Rat), above L m ≤ c → (∀ t, m < t → (∀ p ∈ L, p.1 ≠ t) → cnt L t ≤ 0) → mom L m ≤ 0
  | c, m, hc, h => by
    by_cases he : ∃ p ∈ L, m < p.1
    · obtain ⟨m', h1, h2, h3⟩ := next_x L m he
      have hlt := above_lt L m m' h1 h2
      cases c with
      | zero => omega
      | succ c =>
        have ih := abel L c m' (by omega) fun t ht hp => h t (by grind) hp
        rw [mom_step L m m' h1 h3]
        have ht : cnt L ((m + m') / 2) ≤ 0 := h _ (by grind) (fun p hp e => by
          by_cases hm : m < p.1
          · have := h3 p hp hm; grind
          · grind)
        have e : cnt L ((m + m') / 2) = cnt L m := by
          unfold cnt
          congr 1
          refine List.map_congr_left fun p hp => ?_
          by_cases hm : m < p.1
          · have := h3 p hp hm
            have h5 : (m + m') / 2 < p.1 := by grind
            rw [if_pos hm, if_pos h5]
          · have h5 : ¬ (m + m') / 2 < p.1 := by grind
            rw [if_neg hm, if_neg h5]
        rw [e] at ht
        have hr : (cnt L m : Rat) ≤ 0 := Rat.intCast_nonpos.2 ht
        have := Rat.mul_nonneg (show 0 ≤ -(cnt L m : Rat) by grind) (show 0 ≤ m' - m by grind)
        grind
    · rw [mom_zero L m fun p hp hm => he ⟨p, hp, hm⟩]; exact Rat.le_refl
theorem low_x (L : List (Rat × Int)) : ∃ m, ∀ p ∈ L, m < p.1 := by
  induction L with
  | nil => exact ⟨0, fun p hp => by cases hp⟩
  | cons q L ih =>
    obtain ⟨m, h⟩ := ih
    by_cases hq : m < q.1
    · refine ⟨m, fun p hp => ?_⟩
      rcases List.mem_cons.1 hp with rfl | hp
      · exact hq
      · exact h p hp
    · refine ⟨q.1 - 1, fun p hp => ?_⟩
      rcases List.mem_cons.1 hp with rfl | hp
      · grind
      · have := h p hp; grind
theorem abel_all (L : List (Rat × Int)) (h0 : (L.map Prod.snd).sum = 0) (h : ∀ t, (∀ p ∈ L, p.1 ≠ t) → cnt L t ≤ 0) : (L.map fun p => (p.2 : Rat) * p.1).sum ≤ 0 := by
  obtain ⟨m, hm⟩ := low_x L
  have h1 := abel L (above L m) m (Nat.le_refl _) fun t _ => h t
  have e : ∀ L : List (Rat × Int), (∀ p ∈ L, m < p.1) → mom L m = (L.map fun p => (p.2 : Rat) * p.1).sum - ((L.map Prod.snd).sum : Int) * m := by
    intro L hL
    unfold mom
    induction L with
    | nil => simp only [List.map_nil, List.sum_nil]; have : ((0 : Int) : Rat) = 0 := rfl; grind
    | cons q L ih =>
      simp only [List.map_cons, List.sum_cons, ih fun p hp => hL p (by simp [hp]), hL q (by simp), if_true, Rat.intCast_add]
      grind
  rw [e L hm, h0] at h1
  have : ((0 : Int) : Rat) = 0 := rfl
  grind
/-! rows -/
def qp (p : Pt) : Q2 := ((p.1 : Rat), (p.2 : Rat))
def qe (e : Pt × Pt) : Q2 × Q2 := (qp e.1, qp e.2)
def spn (e : Pt × Pt) (k : Int) : Int := (if k < e.2.2 then 1 else 0) - (if k < e.1.2 then 1 else 0)
def gX (e : Pt × Pt) (y : Rat) : Rat := e.1.1 * (y - e.1.2) + (e.2.1 - e.1.1) * ((e.2.2 : Rat) - e.1.2)⁻¹ * ((y - e.1.2) * (y - e.1.2)) / 2
def xr (e : Pt × Pt) (k : Int) : Rat := gX e (k + 1) - gX e k
def rowL (es : List (Pt × Pt)) (k : Int) : List (Rat × Int) := es.map fun e => (xr e k, spn e k)
theorem half_lt {k n : Int} : 0 < (n : Rat) - ((k : Rat) + 1 / 2) ↔ k < n := by
  constructor
  · intro h
    refine Classical.byContradiction fun hn => ?_
    have : (n : Rat) ≤ (k : Rat) := Rat.intCast_le_intCast.2 (by omega)
    grind
  · intro h
    have : ((k + 1 : Int) : Rat) ≤ (n : Rat) := Rat.intCast_le_intCast.2 (by omega)
    rw [Rat.intCast_add] at this
    have e : ((1 : Int) : Rat) = 1 := rfl
    grind
theorem half_ne {k n : Int} : (n : Rat) - ((k : Rat) + 1 / 2) ≠ 0 := by
  intro h
  have h1 : ¬ k < n := fun hk => by have := half_lt.2 hk; grind
  have : (n : Rat) ≤ (k : Rat) := Rat.intCast_le_intCast.2 (by omega)
  grind
theorem row_hit (e : Pt × Pt) (k : Int) (t : Rat) : hit (1, 0) (sq (qp e.1) (t, (k : Rat) + 1 / 2)) (sq (qp e.2) (t, (k : Rat) + 1 / 2)) = if t < xr e k then spn e k else 0 := by
  have x1 : xq (1, 0) (sq (qp e.1) (t, (k : Rat) + 1 / 2)) = (e.1.2 : Rat) - ((k : Rat) + 1 / 2) := by unfold xq sq qp; grind
  have x2 : xq (1, 0) (sq (qp e.2) (t, (k : Rat) + 1 / 2)) = (e.2.2 : Rat) - ((k : Rat) + 1 / 2) := by unfold xq sq qp; grind
  have x3 : xq (sq (qp e.1) (t, (k : Rat) + 1 / 2)) (sq (qp e.2) (t, (k : Rat) + 1 / 2)) = (e.1.1 - t) * (e.2.2 - (k + 1 / 2)) - (e.1.2 - (k + 1 / 2)) * (e.2.1 - t) := by unfold xq sq qp; grind
  unfold hit spn
  rw [x1, x2, x3]
  simp only [half_lt]
  by_cases h1 : k < e.1.2 <;> by_cases h2 : k < e.2.2 <;> simp only [h1, h2, if_true, if_false]
  · simp
  · have g1 := half_lt.2 h1
    have g2 : ¬ 0 < (e.2.2 : Rat) - ((k : Rat) + 1 / 2) := fun h => h2 (half_lt.1 h)
    have hD : 0 < (e.1.2 : Rat) - e.2.2 := by grind
    have hne : (e.2.2 : Rat) - e.1.2 ≠ 0 := by grind
    have hinv := r_inv hne
    have hx : (xr e k - t) * ((e.2.2 : Rat) - e.1.2) = (e.1.1 - t) * (e.2.2 - (k + 1 / 2)) - (e.1.2 - (k + 1 / 2)) * (e.2.1 - t) := by
      unfold xr gX
      generalize ((e.2.2 : Rat) - e.1.2)⁻¹ = M at *
      grind
    rw [← hx]
    by_cases ht : t < xr e k
    · have := Rat.mul_pos (show 0 < xr e k - t by grind) hD
      have h3 : (xr e k - t) * ((e.2.2 : Rat) - e.1.2) < 0 := by grind
      simp only [ht, h3, if_true]; rfl
    · have := Rat.mul_nonneg (show 0 ≤ t - xr e k by grind) (show 0 ≤ (e.1.2 : Rat) - e.2.2 by grind)
      have h3 : ¬ (xr e k - t) * ((e.2.2 : Rat) - e.1.2) < 0 := by grind
      simp only [ht, h3, if_false]
  · have g1 := half_lt.2 h2
    have g2 : ¬ 0 < (e.1.2 : Rat) - ((k : Rat) + 1 / 2) := fun h => h1 (half_lt.1 h)
    have hD : 0 < (e.2.2 : Rat) - e.1.2 := by grind
    have hinv := r_inv (x := (e.2.2 : Rat) - e.1.2) (by grind)
    have hx : (xr e k - t) * ((e.2.2 : Rat) - e.1.2) = (e.1.1 - t) * (e.2.2 - (k + 1 / 2)) - (e.1.2 - (k + 1 / 2)) * (e.2.1 - t) := by
      unfold xr gX
      generalize ((e.2.2 : Rat) - e.1.2)⁻¹ = M at *
      grind
    rw [← hx]
    by_cases ht : t < xr e k
    · have h3 := Rat.mul_pos (show 0 < xr e k - t by grind) hD
      simp only [ht, h3, if_true]; rfl
    · have := Rat.mul_nonneg (show 0 ≤ t - xr e k by grind) (show 0 ≤ (e.2.2 : Rat) - e.1.2 by grind)
      have h3 : ¬ 0 < (xr e k - t) * ((e.2.2 : Rat) - e.1.2) := by grind
      simp only [ht, h3, if_false]
  · simp
theorem row_wn (es : List (Pt × Pt)) (k : Int) (t : Rat) : wn (1, 0) (t, (k : Rat) + 1 / 2) (es.map qe) = cnt (rowL es k) t := by
  unfold wn cnt rowL
  rw [List.map_map, List.map_map]
  congr 1
  exact List.map_congr_left fun e _ => row_hit e k t
theorem row_off {e : Pt × Pt} {k : Int} {t : Rat} (h : xr e k ≠ t) : ¬ OnE (t, (k : Rat) + 1 / 2) (qe e) := by
  intro ho
  obtain ⟨s, s0, s1, es⟩ := on_param ho
  simp only [onp, qp, Prod.mk.injEq] at es
  obtain ⟨e1, e2⟩ := es
  have n1 := half_ne (k := k) (n := e.1.2)
  have hne : (e.2.2 : Rat) - e.1.2 ≠ 0 := by
    intro hz
    rw [hz] at e2
    exact n1 (by grind)
  have hinv := r_inv hne
  apply h
  unfold xr gX
  generalize ((e.2.2 : Rat) - e.1.2)⁻¹ = M at *
  rw [e1]
  have hs : s = ((k : Rat) + 1 / 2 - e.1.2) * M := by grind
  rw [hs]; grind
theorem row_le {p : Q2} {es : List (Pt × Pt)} (hp : Path p p (es.map qe)) (h : ∀ x : Q2, (∀ e ∈ es, ¬ OnE x (qe e)) → wn (1, 0) x (es.map qe) ≤ 0) (k : Int) : (es.map fun e => (spn e k : Rat) * xr e k).sum ≤ 0 := by
  have e1 : (es.map fun e => (spn e k : Rat) * xr e k) = (rowL es k).map fun p => (p.2 : Rat) * p.1 := by unfold rowL; rw [List.map_map]; rfl
  rw [e1]
  refine abel_all _ ?_ fun t ht => ?_
  · have := hp fun u => if (k : Rat) < u.2 then 1 else 0
    rw [Int.sub_self, List.map_map] at this
    rw [← this]
    unfold rowL
    rw [List.map_map]
    congr 1
    refine List.map_congr_left fun e _ => ?_
    simp only [Function.comp_apply, spn, qe, qp, Rat.intCast_lt_intCast]
  · rw [← row_wn]
    refine h _ fun e he => row_off fun hx => ?_
    exact ht (xr e k, spn e k) (by unfold rowL; exact List.mem_map.2 ⟨e, he, rfl⟩) hx
/-! all rows -/
theorem sum_swap {α β : Type} (l : List α) (m : List β) (f : α → β → Rat) : (l.map fun x => (m.map fun y => f x y).sum).sum = (m.map fun y => (l.map fun x => f x y).sum).sum := by
  induction l with
  | nil =>
    simp only [List.map_nil, List.sum_nil]
    induction m with
    | nil => rfl
    | cons b m ih => simp only [List.map_cons, List.sum_cons, ← ih]; grind
  | cons a l ih =>
    simp only [List.map_cons, List.sum_cons, ih]
    clear ih
    induction m with
    | nil => simp only [List.map_nil, List.sum_nil]; grind
    | cons b m ih => simp only [List.map_cons, List.sum_cons, ← ih]; grind
theorem tel (G : Nat → Rat) (N : Nat) : ∀ J : Nat, ((List.range J).map fun j => if j < N then G (j + 1) - G j else 0).sum = G (min J N) - G 0
  | 0 => by simp; grind
  | J + 1 => by
    rw [List.range_succ, List.map_append, List.sum_append, tel G N J]
    simp only [List.map_cons, List.map_nil, List.sum_cons, List.sum_nil]
    by_cases h : J < N
    · rw [if_pos h, Nat.min_eq_left (by omega), Nat.min_eq_left (by omega)]; grind
    · rw [if_neg h, Nat.min_eq_right (by omega), Nat.min_eq_right (by omega)]; grind
theorem sum_sub_r {α : Type} (l : List α) (f g : α → Rat) : (l.map fun e => f e - g e).sum = (l.map f).sum - (l.map g).sum := by
  induction l with
  | nil => simp only [List.map_nil, List.sum_nil]; grind
  | cons a l ih => simp only [List.map_cons, List.sum_cons, ih]; grind
theorem rows_edge (e : Pt × Pt) (M : Nat) (h1 : -(M : Int) ≤ e.1.2) (h2 : e.1.2 ≤ M) (h3 : -(M : Int) ≤ e.2.2) (h4 : e.2.2 ≤ M) :
    ((List.range (2 * M)).map fun j : Nat => (spn e (-(M : Int) + (j : Int)) : Rat) * xr e (-(M : Int) + (j : Int))).sum = gX e e.2.2 - gX e e.1.2 := by
  have key : ∀ B : Int, -(M : Int) ≤ B → B ≤ M → ((List.range (2 * M)).map fun j => if j < (B + M).toNat then gX e ((-(M : Int) + (j + 1 : Nat) : Int) : Rat) - gX e ((-(M : Int) + (j : Nat) : Int) : Rat) else 0).sum = gX e B - gX e ((-(M : Int) + (0 : Nat) : Int) : Rat) := fun B b1 b2 => by
    rw [tel (fun j => gX e ((-(M : Int) + (j : Nat) : Int) : Rat)) (B + M).toNat (2 * M)]
    rw [Nat.min_eq_right (by omega), show -(M : Int) + ((B + M).toNat : Nat) = B by omega]
  have k1 := key e.2.2 h3 h4
  have k2 := key e.1.2 h1 h2
  have : gX e e.2.2 - gX e e.1.2 = (gX e e.2.2 - gX e ((-(M : Int) + (0 : Nat) : Int) : Rat)) - (gX e e.1.2 - gX e ((-(M : Int) + (0 : Nat) : Int) : Rat)) := by grind
  rw [this, ← k1, ← k2, ← sum_sub_r]
  congr 1
  refine List.map_congr_left fun j hj => ?_
  have hj := List.mem_range.1 hj
  have ex : xr e (-(M : Int) + j) = gX e ((-(M : Int) + (j + 1 : Nat) : Int) : Rat) - gX e ((-(M : Int) + (j : Nat) : Int) : Rat) := by
    have e5 : ((-(M : Int) + ((j + 1 : Nat) : Int) : Int) : Rat) = ((-(M : Int) + (j : Int) : Int) : Rat) + 1 := by
      rw [show (-(M : Int) + ((j + 1 : Nat) : Int)) = (-(M : Int) + (j : Int)) + 1 by omega]; exact Rat.intCast_add _ 1
    unfold xr
    rw [e5]
  rw [← ex]
  unfold spn
  have c1 : (-(M : Int) + (j : Int) < e.2.2) ↔ j < (e.2.2 + M).toNat := by omega
  have c2 : (-(M : Int) + (j : Int) < e.1.2) ↔ j < (e.1.2 + M).toNat := by omega
  simp only [c1, c2]
  have e1 : ((1 : Int) : Rat) = 1 := rfl
  have e0 : ((0 : Int) : Rat) = 0 := rfl
  by_cases a : j < (e.2.2 + M).toNat <;> by_cases b : j < (e.1.2 + M).toNat <;> simp only [a, b, if_true, if_false, Rat.intCast_sub, e1, e0] <;> grind
theorem gX_diff (e : Pt × Pt) : gX e e.2.2 - gX e e.1.2 = ((e.1.1 + e.2.1) * (e.2.2 - e.1.2) : Rat) / 2 := by
  unfold gX
  by_cases h : (e.2.2 : Rat) - e.1.2 = 0
  · rw [h]; grind
  · have := r_inv h
    generalize ((e.2.2 : Rat) - e.1.2)⁻¹ = M at *
    grind
theorem sum_cast (l : List Int) : ((l.sum : Int) : Rat) = (l.map fun x : Int => (x : Rat)).sum := by
  induction l with
  | nil => rfl
  | cons a l ih => simp only [List.sum_cons, List.map_cons, Rat.intCast_add, ih]
theorem sum_le0 {α : Type} (l : List α) (f : α → Rat) (h : ∀ x ∈ l, f x ≤ 0) : (l.map f).sum ≤ 0 := by
  induction l with
  | nil => exact Rat.le_refl
  | cons a l ih =>
    simp only [List.map_cons, List.sum_cons]
    have := ih fun x hx => h x (by simp [hx])
    have := h a (by simp)
    grind
theorem sum_le0' {α : Type} (l : List α) (f : α → Int) (h : ∀ x ∈ l, f x ≤ 0) : (l.map f).sum ≤ 0 := by
  induction l with
  | nil => simp
  | cons a l ih =>
    simp only [List.map_cons, List.sum_cons]
    have := ih fun x hx => h x (by simp [hx])
    have := h a (by simp)
    omega
theorem bound_y (es : List (Pt × Pt)) : ∃ M : Nat, ∀ e ∈ es, -(M : Int) ≤ e.1.2 ∧ e.1.2 ≤ M ∧ -(M : Int) ≤ e.2.2 ∧ e.2.2 ≤ M := by
  induction es with
  | nil => exact ⟨0, fun e he => by cases he⟩
  | cons q L ih =>
    obtain ⟨M, h⟩ := ih
    refine ⟨M + q.1.2.natAbs + q.2.2.natAbs, fun e he => ?_⟩
    rcases List.mem_cons.1 he with rfl | he
    · omega
    · have := h e he; omega
/-- where no winding number is positive, neither is the area -/
theorem area_le {p : Q2} {es : List (Pt × Pt)} (hp : Path p p (es.map qe)) (h : ∀ x : Q2, (∀ e ∈ es, ¬ OnE x (qe e)) → wn (1, 0) x (es.map qe) ≤ 0) : (es.map dE).sum ≤ 0 := by
  obtain ⟨M, hM⟩ := bound_y es
  have h1 : (es.map fun e => ((List.range (2 * M)).map fun j : Nat => (spn e (-(M : Int) + (j : Int)) : Rat) * xr e (-(M : Int) + (j : Int))).sum).sum ≤ 0 := by
    rw [sum_swap]
    exact sum_le0 _ _ fun j _ => row_le hp h _
  rw [List.map_congr_left (g := fun e => ((e.1.1 + e.2.1) * (e.2.2 - e.1.2) : Rat) / 2) fun e he => by
    obtain ⟨b1, b2, b3, b4⟩ := hM e he
    rw [rows_edge e M b1 b2 b3 b4, gX_diff]] at h1
  have h2 := hp fun u => u.1.floor * u.2.floor
  rw [Int.sub_self, List.map_map] at h2
  have h3 : (es.map fun e => e.2.1 * e.2.2 - e.1.1 * e.1.2).sum = 0 := by
    rw [← h2]; congr 1
  have h4 : ((es.map dE).sum : Rat) = 2 * (es.map fun e => ((e.1.1 + e.2.1) * (e.2.2 - e.1.2) : Rat) / 2).sum - ((es.map fun e => e.2.1 * e.2.2 - e.1.1 * e.1.2).sum : Int) := by
    clear h1 h2 h3 hM h hp
    induction es with
    | nil => simp only [List.map_nil, List.sum_nil]; have : ((0 : Int) : Rat) = 0 := rfl; grind
    | cons e l ih =>
      simp only [List.map_cons, List.sum_cons, Rat.intCast_add, ih, Rat.intCast_sub, Rat.intCast_mul, dE]
      grind
  rw [h3] at h4
  have e0 : ((0 : Int) : Rat) = 0 := rfl
  refine Rat.intCast_nonpos.1 ?_
  rw [h4, e0]; grind
end Go.Geo

namespace Go.Geo
set_option maxRecDepth 100000
set_option maxHeartbeats 4000000
set_option linter.unusedSimpArgs false
set_option linter.unusedVariables false
open Go Go.Zv
theorem mul_neg_iff {x y : Rat} : x * y < 0 ↔ (x < 0 ∧ 0 < y) ∨ (0 < x ∧ y < 0) := by
  constructor
  · intro h
    rcases Rat.le_total (a := 0) (b := x) with hx | hx
    · right
      have hy : y < 0 := by
        refine Classical.byContradiction fun hn => ?_
        have := Rat.mul_nonneg hx (show 0 ≤ y by grind)
        grind
      refine ⟨?_, hy⟩
      refine Classical.byContradiction fun hn => ?_
      have : x = 0 := by grind
      rw [this] at h; grind
    · left
      have hy : 0 < y := by
        refine Classical.byContradiction fun hn => ?_
        have := Rat.mul_nonneg (show 0 ≤ -x by grind) (show 0 ≤ -y by grind)
        grind
      refine ⟨?_, hy⟩
      refine Classical.byContradiction fun hn => ?_
      have : x = 0 := by grind
      rw [this] at h; grind
  · rintro (⟨h1, h2⟩ | ⟨h1, h2⟩)
    · have := Rat.mul_pos (show 0 < -x by grind) h2; grind
    · have := Rat.mul_pos h1 (show 0 < -y by grind); grind
theorem meets_half {a b c d : Q2} (h : Meets a b c d) (hn : ¬ xq (sq b a) (sq c a) * xq (sq b a) (sq d a) < 0) : OnE c (a, b) ∨ OnE d (a, b) ∨ OnE a (c, d) ∨ OnE b (c, d) := by
  obtain ⟨z, z1, z2⟩ := h
  obtain ⟨t, t0, t1, ht⟩ := on_param z2
  by_cases e0 : t = 0
  · left; rw [ht, e0, onp0] at z1; exact z1
  by_cases e1 : t = 1
  · right; left; rw [ht, e1, onp1] at z1; exact z1
  obtain ⟨s, s0, s1, hs⟩ := on_param z1
  have hz : xq (sq b a) (sq z a) = 0 := by rw [hs]; unfold xq sq onp; grind
  have hz2 : (1 - t) * xq (sq b a) (sq c a) + t * xq (sq b a) (sq d a) = 0 := by rw [← hz, ht]; unfold xq sq onp; grind
  rw [mul_neg_iff] at hn
  have hc : xq (sq b a) (sq c a) = 0 ∧ xq (sq b a) (sq d a) = 0 := by
    generalize xq (sq b a) (sq c a) = o1 at *
    generalize xq (sq b a) (sq d a) = o2 at *
    have p0 : 0 < t := by grind
    have p1 : 0 < 1 - t := by grind
    by_cases h1 : 0 < o1
    · have := Rat.mul_pos p1 h1
      have h2 : 0 ≤ o2 := by grind
      have := Rat.mul_nonneg t0 h2
      grind
    · by_cases h2 : o1 < 0
      · have := Rat.mul_pos p1 (show 0 < -o1 by grind)
        have h2 : 0 ≤ -o2 := by grind
        have := Rat.mul_nonneg t0 h2
        grind
      · have e : o1 = 0 := by grind
        refine ⟨e, ?_⟩
        rw [e] at hz2
        have hi := r_inv (x := t) e0
        generalize t⁻¹ = M at *; grind
  refine Classical.byContradiction fun hno => ?_
  have hab : a ≠ b := fun e => by
    refine hno (.inr (.inr (.inl ?_)))
    have : z = a := by rw [hs, e]; refine Prod.ext ?_ ?_ <;> simp only [onp] <;> grind
    rw [← this]; exact z2
  have hN := dq_pos (sq_ne hab)
  have hi := r_inv (x := dq (sq b a) (sq b a)) (by grind)
  obtain ⟨c1, c2⟩ := hc
  -- the others' places on the line
  have par : ∀ p : Q2, xq (sq b a) (sq p a) = 0 → ∃ k, p = onp a b k := fun p hp => by
    refine ⟨dq (sq p a) (sq b a) * (dq (sq b a) (sq b a))⁻¹, ?_⟩
    have i1 : dq (sq b a) (sq b a) * (p.1 - a.1) = dq (sq p a) (sq b a) * (b.1 - a.1) := by unfold dq sq; unfold xq sq at hp; grind
    have i2 : dq (sq b a) (sq b a) * (p.2 - a.2) = dq (sq p a) (sq b a) * (b.2 - a.2) := by unfold dq sq; unfold xq sq at hp; grind
    generalize dq (sq b a) (sq b a) = N at *
    generalize dq (sq p a) (sq b a) = m at *
    generalize N⁻¹ = M at *
    refine Prod.ext ?_ ?_ <;> simp only [onp] <;> grind
  obtain ⟨k1, e1'⟩ := par c c1
  obtain ⟨k2, e2'⟩ := par d c2
  have n1 : ¬ (0 ≤ k1 ∧ k1 ≤ 1) := fun ⟨x, y⟩ => hno (.inl (by rw [e1']; exact on_of_param x y))
  have n2 : ¬ (0 ≤ k2 ∧ k2 ≤ 1) := fun ⟨x, y⟩ => hno (.inr (.inl (by rw [e2']; exact on_of_param x y)))
  have hs2 : s = (1 - t) * k1 + t * k2 := by
    rw [ht, e1', e2'] at hs
    unfold onp at hs; simp only [Prod.mk.injEq] at hs
    obtain ⟨q1, q2⟩ := hs
    have w1 : (s - ((1 - t) * k1 + t * k2)) * (b.1 - a.1) = 0 := by grind
    have w2 : (s - ((1 - t) * k1 + t * k2)) * (b.2 - a.2) = 0 := by grind
    have w3 : (s - ((1 - t) * k1 + t * k2)) * dq (sq b a) (sq b a) = 0 := by unfold dq sq; grind
    generalize dq (sq b a) (sq b a) = N at *
    generalize N⁻¹ = M at *
    grind
  have n3 : ¬ k1 * k2 ≤ 0 := fun hk => by
    refine hno (.inr (.inr (.inl ?_)))
    rw [e1', e2']
    have := Rat.mul_nonneg (show 0 ≤ -(k1 * k2) by grind) (dq_nn (sq b a))
    unfold OnE OnV xq dq sq onp; unfold dq sq at this; simp only at this ⊢
    constructor <;> grind
  have p0 : 0 < t := by grind
  have p1 : 0 < 1 - t := by grind
  by_cases q1 : 0 ≤ k1
  · have q2 : 0 ≤ k2 := by
      refine Classical.byContradiction fun hk => n3 ?_
      have := Rat.mul_nonneg q1 (show 0 ≤ -k2 by grind)
      grind
    have := Rat.mul_pos p1 (show 0 < k1 - 1 by grind)
    have := Rat.mul_pos p0 (show 0 < k2 - 1 by grind)
    grind
  · have q2 : k2 < 0 := by
      refine Classical.byContradiction fun hk => n3 ?_
      have := Rat.mul_nonneg (show 0 ≤ -k1 by grind) (show 0 ≤ k2 by grind)
      grind
    have := Rat.mul_pos p1 (show 0 < -k1 by grind)
    have := Rat.mul_pos p0 (show 0 < -k2 by grind)
    grind
theorem meets_comm {a b c d : Q2} : Meets a b c d ↔ Meets c d a b := ⟨fun ⟨z, h1, h2⟩ => ⟨z, h2, h1⟩, fun ⟨z, h1, h2⟩ => ⟨z, h2, h1⟩⟩
theorem meets_cases {a b c d : Q2} (h : Meets a b c d) : (xq (sq b a) (sq c a) * xq (sq b a) (sq d a) < 0 ∧ xq (sq d c) (sq a c) * xq (sq d c) (sq b c) < 0) ∨ OnE c (a, b) ∨ OnE d (a, b) ∨ OnE a (c, d) ∨ OnE b (c, d) := by
  by_cases h1 : xq (sq b a) (sq c a) * xq (sq b a) (sq d a) < 0
  · by_cases h2 : xq (sq d c) (sq a c) * xq (sq d c) (sq b c) < 0
    · exact .inl ⟨h1, h2⟩
    · rcases meets_half (meets_comm.1 h) h2 with h | h | h | h
      · exact .inr (.inr (.inr (.inl h)))
      · exact .inr (.inr (.inr (.inr h)))
      · exact .inr (.inl h)
      · exact .inr (.inr (.inl h))
  · exact .inr (meets_half h h1)
theorem meets_proper {a b c d : Q2} (h1 : xq (sq b a) (sq c a) * xq (sq b a) (sq d a) < 0) (h2 : xq (sq d c) (sq a c) * xq (sq d c) (sq b c) < 0) : Meets a b c d := by
  have i1 : xq (sq d c) (sq a c) - xq (sq d c) (sq b c) = xq (sq b a) (sq d a) - xq (sq b a) (sq c a) := by unfold xq sq; grind
  have j1 : (xq (sq b a) (sq d a) - xq (sq b a) (sq c a)) * (a.1 - c.1) + xq (sq d c) (sq a c) * (b.1 - a.1) = -xq (sq b a) (sq c a) * (d.1 - c.1) := by unfold xq sq; grind
  have j2 : (xq (sq b a) (sq d a) - xq (sq b a) (sq c a)) * (a.2 - c.2) + xq (sq d c) (sq a c) * (b.2 - a.2) = -xq (sq b a) (sq c a) * (d.2 - c.2) := by unfold xq sq; grind
  rw [mul_neg_iff] at h1 h2
  generalize xq (sq b a) (sq c a) = o1 at *
  generalize xq (sq b a) (sq d a) = o2 at *
  generalize xq (sq d c) (sq a c) = o3 at *
  generalize xq (sq d c) (sq b c) = o4 at *
  have hne : o2 - o1 ≠ 0 := by grind
  have hi := r_inv hne
  have key : 0 ≤ o3 * (o2 - o1)⁻¹ ∧ 0 ≤ -o4 * (o2 - o1)⁻¹ ∧ 0 ≤ -o1 * (o2 - o1)⁻¹ ∧ 0 ≤ o2 * (o2 - o1)⁻¹ := by
    rcases h2 with ⟨u, v⟩ | ⟨u, v⟩
    · have hM : 0 < (o1 - o2)⁻¹ := Rat.inv_pos.2 (by grind)
      have e : (o2 - o1)⁻¹ = -(o1 - o2)⁻¹ := by
        have i2 := r_inv (x := o1 - o2) (by grind)
        generalize (o1 - o2)⁻¹ = A at *
        generalize (o2 - o1)⁻¹ = C at *
        grind
      have m1 := Rat.mul_nonneg (show 0 ≤ -o3 by grind) (show 0 ≤ (o1 - o2)⁻¹ by grind)
      have m2 := Rat.mul_nonneg (show 0 ≤ o4 by grind) (show 0 ≤ (o1 - o2)⁻¹ by grind)
      have m3 := Rat.mul_nonneg (show 0 ≤ o1 by grind) (show 0 ≤ (o1 - o2)⁻¹ by grind)
      have m4 := Rat.mul_nonneg (show 0 ≤ -o2 by grind) (show 0 ≤ (o1 - o2)⁻¹ by grind)
      rw [e]
      generalize (o1 - o2)⁻¹ = A at *
      exact ⟨by grind, by grind, by grind, by grind⟩
    · have hM : 0 < (o2 - o1)⁻¹ := Rat.inv_pos.2 (by grind)
      exact ⟨Rat.mul_nonneg (by grind) (by grind), Rat.mul_nonneg (by grind) (by grind), Rat.mul_nonneg (by grind) (by grind), Rat.mul_nonneg (by grind) (by grind)⟩
  obtain ⟨m1, m2, m3, m4⟩ := key
  generalize (o2 - o1)⁻¹ = M at *
  have ez : onp a b (o3 * M) = onp c d (-o1 * M) := by refine Prod.ext ?_ ?_ <;> simp only [onp] <;> grind
  have k1 : o3 * M + -o4 * M = 1 := by rw [← hi, ← i1]; grind
  have k2 : -o1 * M + o2 * M = 1 := by rw [← hi]; grind
  have l1 : o3 * M ≤ 1 := by rw [← k1]; grind
  have l2 : -o1 * M ≤ 1 := by rw [← k2]; grind
  refine ⟨onp a b (o3 * M), on_of_param m1 l1, ?_⟩
  rw [ez]; exact on_of_param m3 l2
/-! whole points -/
theorem xq_int (a b p : Pt) : xq (sq (qp b) (qp a)) (sq (qp p) (qp a)) = ((cr a.1 a.2 b.1 b.2 p.1 p.2 : Int) : Rat) := by
  unfold xq sq qp cr
  simp only [Rat.intCast_sub, Rat.intCast_mul]
theorem xq_int' (a b p : Pt) : xq (sq (qp a) (qp p)) (sq (qp b) (qp p)) = ((cr a.1 a.2 b.1 b.2 p.1 p.2 : Int) : Rat) := by
  rw [← xq_int]; unfold xq sq; grind
theorem onE_int (p a b : Pt) : OnE (qp p) (qp a, qp b) ↔ (withinB a.1 a.2 b.1 b.2 p.1 p.2 = true ∧ cr a.1 a.2 b.1 b.2 p.1 p.2 = 0) := by
  rw [on_iff]
  unfold OnE OnV
  simp only
  rw [xq_int']
  have hd : dq (sq (qp a) (qp p)) (sq (qp b) (qp p)) = ((-((p.1 - a.1) * (b.1 - p.1) + (p.2 - a.2) * (b.2 - p.2)) : Int) : Rat) := by
    unfold dq sq qp
    simp only [Rat.intCast_sub, Rat.intCast_mul, Rat.intCast_add, Rat.intCast_neg]; grind
  rw [hd, Rat.intCast_nonpos, Rat.intCast_eq_zero_iff]
  constructor
  · rintro ⟨h1, h2⟩
    refine ⟨h1, by omega, ?_⟩
    rintro ⟨e1, e2⟩
    rw [← e1, ← e2] at h2
    have s1 := sq_nn (p.1 - a.1)
    have s2 := sq_nn (p.2 - a.2)
    have : (p.1 - a.1) * (a.1 - p.1) = -((p.1 - a.1) * (p.1 - a.1)) := by grind
    have : (p.2 - a.2) * (a.2 - p.2) = -((p.2 - a.2) * (p.2 - a.2)) := by grind
    constructor
    · refine Classical.byContradiction fun hn => ?_
      have := sq_pos (x := p.1 - a.1) (by omega)
      omega
    · refine Classical.byContradiction fun hn => ?_
      have := sq_pos (x := p.2 - a.2) (by omega)
      omega
  · rintro ⟨h1, h2, _⟩
    exact ⟨h1, by omega⟩
abbrev B2 (p : Pt) : Prop := B p.1 ∧ B p.2
theorem B8_of {a b c d : Pt} (ha : B2 a) (hb : B2 b) (hc : B2 c) (hd : B2 d) : B8 a.1 a.2 b.1 b.2 c.1 c.2 d.1 d.2 := ⟨ha.1, ha.2, hb.1, hb.2, hc.1, hc.2, hd.1, hd.2⟩
theorem i_neg (x y : Int) : (x : Rat) * y < 0 ↔ x * y < 0 := by rw [← Rat.intCast_mul, Rat.intCast_neg_iff]
theorem cut_meets {a b c d : Pt} (ha : B2 a) (hb : B2 b) (hc : B2 c) (hd : B2 d) : cutE (a, b) (c, d) = true ↔ Meets (qp a) (qp b) (qp c) (qp d) := by
  unfold cutE
  rw [cutB_iff (B8_of ha hb hc hd)]
  constructor
  · rintro (⟨h1, h2⟩ | (⟨h1, h2⟩ | ⟨h1, h2⟩) | (⟨h1, h2⟩ | ⟨h1, h2⟩))
    · refine meets_proper ?_ ?_
      · rw [xq_int, xq_int, i_neg]; exact h1
      · rw [xq_int, xq_int, i_neg]; exact h2
    · exact ⟨qp c, (onE_int c a b).2 ⟨h2, h1⟩, on_left _ _⟩
    · exact ⟨qp d, (onE_int d a b).2 ⟨h2, h1⟩, on_right _ _⟩
    · exact ⟨qp a, on_left _ _, (onE_int a c d).2 ⟨h2, h1⟩⟩
    · exact ⟨qp b, on_right _ _, (onE_int b c d).2 ⟨h2, h1⟩⟩
  · intro h
    rcases meets_cases h with ⟨h1, h2⟩ | h | h | h | h
    · rw [xq_int, xq_int, i_neg] at h1 h2
      exact .inl ⟨h1, h2⟩
    · have := (onE_int c a b).1 h; exact .inr (.inl (.inl ⟨this.2, this.1⟩))
    · have := (onE_int d a b).1 h; exact .inr (.inl (.inr ⟨this.2, this.1⟩))
    · have := (onE_int a c d).1 h; exact .inr (.inr (.inl ⟨this.2, this.1⟩))
    · have := (onE_int b c d).1 h; exact .inr (.inr (.inr ⟨this.2, this.1⟩))
theorem onE_meets {p : Pt} {e : Pt × Pt} (hp : B2 p) (h1 : B2 e.1) (h2 : B2 e.2) : onE p e = true ↔ OnE (qp p) (qe e) := by
  have := onE_int p e.1 e.2
  rw [show qe e = (qp e.1, qp e.2) from rfl, this]
  unfold onE onB
  rw [crW_B h1.1 h1.2 h2.1 h2.2 hp.1 hp.2]
  simp [sgn_eq0]
end Go.Geo

namespace Go.Geo
set_option maxRecDepth 100000
set_option maxHeartbeats 4000000
set_option linter.unusedSimpArgs false
set_option linter.unusedVariables false
open Go Go.Zv
theorem mod_of_per {α : Type} (g : Nat → α) (n : Nat) (h : ∀ k, g (k + n) = g k) (k : Nat) : g (k % n) = g k := by
  have : ∀ q r, g (r + n * q) = g r := by
    intro q r
    induction q with
    | zero => simp
    | succ q ih => rw [Nat.mul_succ, ← Nat.add_assoc, h, ih]
  have e := this (k / n) (k % n)
  rw [Nat.mod_add_div] at e
  exact e.symm
/-- the corners, round and round -/
def pqf (l : List Pt) (k : Nat) : Q2 := qp (ptn l k)
theorem eds_chn (l : List Pt) : (eds l).map qe = chn (pqf l) 0 l.length := by
  rw [eds_range, List.map_map]
  unfold chn
  exact List.map_congr_left fun k _ => by simp only [Function.comp_apply, Nat.zero_add]; rfl
theorem mayB_B {p : Pt} (h : mayB p = true) : (-439400000 ≤ p.1 ∧ p.1 ≤ 439400000) ∧ (-439400000 ≤ p.2 ∧ p.2 ≤ 439400000) := by
  unfold mayB mxI mnI at h
  simp only [Bool.and_eq_true, decide_eq_true_eq] at h
  split at h <;> split at h <;> omega
theorem mayB_B2 {p : Pt} (h : mayB p = true) : B2 p := by
  have := mayB_B h
  unfold B2 B; omega
theorem ptn_mem {l : List Pt} (k : Nat) (h : 0 < l.length) : ptn l k ∈ l := List.mem_of_getElem? (ptn_mod (l := l) (k := k) h)
theorem ptn_B {l : List Pt} (hm : l.all mayB = true) (h : 0 < l.length) (k : Nat) : B2 (ptn l k) := mayB_B2 (List.all_eq_true.1 hm _ (ptn_mem k h))
structure Val (l : List Pt) : Prop where
  n3 : 3 ≤ l.length
  n12 : l.length ≤ 12
  may : l.all mayB = true
  sim : simB l = true
  area : 0 < areaW l
theorem val_iff {l : List Pt} : valB l = true ↔ Val l := by
  unfold valB
  simp only [Bool.and_eq_true, decide_eq_true_eq]
  exact ⟨fun ⟨a, b, c, d, e⟩ => ⟨a, b, c, d, e⟩, fun h => ⟨h.n3, h.n12, h.may, h.sim, h.area⟩⟩
theorem sim_bad {l : List Pt} (h : simB l = true) (h0 : 0 < l.length) (i : Nat) : badN l i = false := by
  rw [simB_N] at h
  simp only [Bool.not_eq_true', List.any_eq_false, List.mem_map, List.mem_range] at h
  rw [← mod_of_per (badN l) l.length (badN_per l) i]
  have := h (badN l (i % l.length)) ⟨i % l.length, Nat.mod_lt _ h0, rfl⟩
  simpa using this
theorem sim_nc {l : List Pt} (h : simB l = true) (h0 : 0 < l.length) (i : Nat) : oriE (ptn l i) (ptn l (i + 1)) (ptn l (i + 2)) ≠ 0 := by
  have := sim_bad h h0 i
  unfold badN at this
  simp only [Bool.or_eq_false_iff, decide_eq_false_iff_not] at this
  exact this.1
theorem sim_dj {l : List Pt} (h : simB l = true) (h0 : 0 < l.length) (i m : Nat) (h2 : 2 ≤ m) (h3 : m + 2 ≤ l.length) : cutE (edn l i) (edn l (i + m)) = false := by
  have := sim_bad h h0 i
  unfold badN at this
  simp only [Bool.or_eq_false_iff, List.any_eq_false, List.mem_map, List.mem_range] at this
  have h4 := this.2 (badM l i ((i + m) % l.length)) ⟨(i + m) % l.length, Nat.mod_lt _ h0, rfl⟩
  rw [mod_of_per (badM l i) l.length (badM_per l i) (i + m)] at h4
  unfold badM at h4
  have ha : adjM l.length i (i + m) = false := by
    unfold adjM
    have e1 := mod_cancel m 0 i l.length
    have e2 := mod_cancel (m - 1) 0 (i + 1) l.length
    have e3 := mod_cancel 0 (m + 1) i l.length
    rw [show m + i = i + m by omega, Nat.zero_add] at e1
    rw [show m - 1 + (i + 1) = i + m by omega, Nat.zero_add] at e2
    rw [show m + 1 + i = i + m + 1 by omega, Nat.zero_add] at e3
    rw [Nat.mod_eq_of_lt (a := m) (by omega), Nat.mod_eq_of_lt (a := 0) (by omega)] at e1
    rw [Nat.mod_eq_of_lt (a := m - 1) (by omega), Nat.mod_eq_of_lt (a := 0) (by omega)] at e2
    rw [Nat.mod_eq_of_lt (a := m + 1) (by omega), Nat.mod_eq_of_lt (a := 0) (by omega)] at e3
    have f1 : ¬ (i + m) % l.length = i % l.length := fun e => by have := e1.1 e; omega
    have f2 : ¬ (i + m) % l.length = (i + 1) % l.length := fun e => by have := e2.1 e; omega
    have f3 : ¬ i % l.length = (i + m + 1) % l.length := fun e => by have := e3.1 e; omega
    simp only [f1, f2, f3, decide_false, Bool.or_false]
  rw [ha] at h4
  simpa using h4
theorem simp_of {l : List Pt} (h3 : 3 ≤ l.length) (hm : l.all mayB = true) (hs : simB l = true) : Simp (pqf l) l.length where
  n3 := h3
  per := fun k => by unfold pqf; rw [ptn_per]
  nc := fun i => by
    have h0 : 0 < l.length := by omega
    have h1 := sim_nc hs h0 i
    have b0 := ptn_B hm h0 i
    have b1 := ptn_B hm h0 (i + 1)
    have b2 := ptn_B hm h0 (i + 2)
    unfold oriE at h1
    rw [crW_B b0.1 b0.2 b1.1 b1.2 b2.1 b2.2] at h1
    have e : xq (sq (pqf l (i + 1)) (pqf l i)) (sq (pqf l (i + 2)) (pqf l (i + 1))) = ((cr (ptn l i).1 (ptn l i).2 (ptn l (i + 1)).1 (ptn l (i + 1)).2 (ptn l (i + 2)).1 (ptn l (i + 2)).2 : Int) : Rat) := by
      rw [← xq_int]; unfold pqf xq sq; grind
    rw [e]
    intro hx
    rw [Rat.intCast_eq_zero_iff] at hx
    rw [hx] at h1
    exact h1 rfl
  dj := fun i m h2 h4 z z1 z2 => by
    have h0 : 0 < l.length := by omega
    have := sim_dj hs h0 i m h2 h4
    have hc := (cut_meets (ptn_B hm h0 i) (ptn_B hm h0 (i + 1)) (ptn_B hm h0 (i + m)) (ptn_B hm h0 (i + m + 1))).2 ⟨z, z1, z2⟩
    unfold edn at this
    rw [hc] at this
    cases this
theorem dE_bd {a b : Pt} (ha : mayB a = true) (hb : mayB b = true) : -386144720000000000 ≤ dE (a, b) ∧ dE (a, b) ≤ 386144720000000000 := by
  obtain ⟨⟨a1, a2⟩, a3, a4⟩ := mayB_B ha
  obtain ⟨⟨b1, b2⟩, b3, b4⟩ := mayB_B hb
  have p := mul_bd a1 a2 b3 b4
  have q := mul_bd a3 a4 b1 b2
  unfold dE; simp only; omega
theorem sum_bd (l : List Int) (K : Int) (h : ∀ x ∈ l, -K ≤ x ∧ x ≤ K) : -(K * l.length) ≤ l.sum ∧ l.sum ≤ K * l.length := by
  induction l with
  | nil => simp
  | cons a l ih =>
    have := ih fun x hx => h x (by simp [hx])
    have := h a (by simp)
    simp only [List.sum_cons, List.length_cons]
    have e : K * ((l.length + 1 : Nat) : Int) = K * l.length + K := by rw [Int.natCast_add, Int.mul_add]; simp
    rw [e]; omega
theorem areaW_val {l : List Pt} (h12 : l.length ≤ 12) (hm : l.all mayB = true) : areaW l = ((eds l).map dE).sum := by
  rw [areaW_sum]
  have := sum_bd ((eds l).map dE) 386144720000000000 (fun x hx => by
    obtain ⟨e, he, rfl⟩ := List.mem_map.1 hx
    obtain ⟨i, hi⟩ := List.getElem?_of_mem he
    obtain ⟨h1, h2, h3⟩ := eds_get hi
    exact dE_bd (List.all_eq_true.1 hm _ (List.mem_of_getElem? h2)) (List.all_eq_true.1 hm _ (List.mem_of_getElem? h3)))
  rw [List.length_map, eds_len] at this
  exact wrap_small (by omega) (by omega)
theorem top_arg (a : Nat → Q2) (n : Nat) (h : 0 < n) : ∃ i, i < n ∧ ∀ j, j < n → (a j).2 < (a i).2 ∨ ((a j).2 = (a i).2 ∧ (a i).1 ≤ (a j).1) := by
  induction n with
  | zero => omega
  | succ n ih =>
    by_cases e : n = 0
    · subst e
      exact ⟨0, by omega, fun j hj => by have : j = 0 := by omega
                                         subst this; exact .inr ⟨rfl, Rat.le_refl⟩⟩
    · obtain ⟨i, hi, hmax⟩ := ih (by omega)
      by_cases hn : (a n).2 < (a i).2 ∨ ((a n).2 = (a i).2 ∧ (a i).1 ≤ (a n).1)
      · refine ⟨i, by omega, fun j hj => ?_⟩
        by_cases e : j = n
        · subst e; exact hn
        · exact hmax j (by omega)
      · refine ⟨n, by omega, fun j hj => ?_⟩
        by_cases e : j = n
        · subst e; exact .inr ⟨rfl, Rat.le_refl⟩
        · have := hmax j (by omega)
          have h1 : (a i).2 ≤ (a n).2 := by
            refine Classical.byContradiction fun hx => hn (.inl (by grind))
          have h2 : (a n).2 = (a i).2 → (a n).1 < (a i).1 := fun e => by
            refine Classical.byContradiction fun hx => hn (.inr ⟨e, by grind⟩)
          by_cases e2 : (a n).2 = (a i).2
          · have := h2 e2
            rcases this2 : hmax j (by omega) with h | ⟨h, h'⟩
            · left; rw [e2]; exact h
            · right; exact ⟨by rw [h, e2], by grind⟩
          · left
            have : (a i).2 < (a n).2 := by grind
            rcases hmax j (by omega) with h | ⟨h, h'⟩ <;> grind
theorem Lc_01 {a : Nat → Q2} {n : Nat} (h : Simp a n) : Lc a n 0 = 0 ∨ Lc a n 0 = 1 := by
  have n3 := h.n3
  obtain ⟨i, hi, hmax⟩ := top_arg a n (by omega)
  have e : a (i + n - 1 + 1) = a i := by rw [show i + n - 1 + 1 = i + n by omega, h.per]
  have := Lc_top h (i + n - 1) (fun j => by
    rw [e, ← per_mod h j]
    exact hmax (j % n) (Nat.mod_lt _ (by omega)))
  rw [Lc_const h] at this
  exact this
theorem Lc_val {l : List Pt} (h : Val l) : Lc (pqf l) l.length 0 = 1 := by
  have hs := simp_of h.n3 h.may h.sim
  rcases Lc_01 hs with h0 | h1
  · exfalso
    have ha := h.area
    rw [areaW_val h.n12 h.may] at ha
    have := area_le (p := pqf l 0) (es := eds l) (by rw [eds_chn]; exact all_path hs) (fun x hx => by
      rw [eds_chn]
      have hx' : ∀ e ∈ chn (pqf l) 0 l.length, ¬ OnE x e := by
        rw [← eds_chn]
        intro e he
        obtain ⟨f, hf, rfl⟩ := List.mem_map.1 he
        exact hx f hf
      have hd : ((1, 0) : Q2) ≠ (0, 0) := by intro e; simp only [Prod.mk.injEq] at e; exact absurd e.1 (by decide)
      rcases wind hs hx' hd with e | e | e <;> rw [e] <;> (try rw [h0]) <;> decide)
    omega
  · exact h1
theorem d10 : ((1, 0) : Q2) ≠ (0, 0) := by intro e; simp only [Prod.mk.injEq] at e; exact absurd e.1 (by decide)
/-- a valid polygon goes round a point once or not at all -/
theorem wind_val {l : List Pt} (h : Val l) {x d : Q2} (hx : ∀ e ∈ eds l, ¬ OnE x (qe e)) (hd : d ≠ (0, 0)) : wn d x ((eds l).map qe) = 0 ∨ wn d x ((eds l).map qe) = 1 := by
  have hs := simp_of h.n3 h.may h.sim
  have hL := Lc_val h
  have hx' : ∀ e ∈ chn (pqf l) 0 l.length, ¬ OnE x e := by
    rw [← eds_chn]
    intro e he
    obtain ⟨f, hf, rfl⟩ := List.mem_map.1 he
    exact hx f hf
  rw [eds_chn]
  rcases wind hs hx' hd with e | e | e
  · exact .inl e
  · rw [hL] at e; exact .inr e
  · rw [hL] at e; exact .inl e
/-! where a point lies -/
theorem fl_hit {p : Pt} {e : Pt × Pt} (hp : B2 p) (h1 : B2 e.1) (h2 : B2 e.2) (hn : ¬ OnE (qp p) (qe e)) : flE p e = decide (hit (1, 0) (sq (qp e.1) (qp p)) (sq (qp e.2) (qp p)) % 2 = 1) := by
  have y1 : 0 < xq (1, 0) (sq (qp e.1) (qp p)) ↔ p.2 < e.1.2 := by
    have : xq (1, 0) (sq (qp e.1) (qp p)) = ((e.1.2 - p.2 : Int) : Rat) := by unfold xq sq qp; rw [Rat.intCast_sub]; grind
    rw [this, Rat.intCast_pos]; omega
  have y2 : 0 < xq (1, 0) (sq (qp e.2) (qp p)) ↔ p.2 < e.2.2 := by
    have : xq (1, 0) (sq (qp e.2) (qp p)) = ((e.2.2 - p.2 : Int) : Rat) := by unfold xq sq qp; rw [Rat.intCast_sub]; grind
    rw [this, Rat.intCast_pos]; omega
  have hon : ¬ (withinB e.1.1 e.1.2 e.2.1 e.2.2 p.1 p.2 = true ∧ cr e.1.1 e.1.2 e.2.1 e.2.2 p.1 p.2 = 0) := fun h => hn ((onE_int p e.1 e.2).2 h)
  unfold flE hit
  rw [crW_B h1.1 h1.2 h2.1 h2.2 hp.1 hp.2, xq_int']
  simp only [y1, y2, Rat.intCast_pos, Rat.intCast_neg_iff]
  have s1 : 0 < sgn (cr e.1.1 e.1.2 e.2.1 e.2.2 p.1 p.2) ↔ 0 < cr e.1.1 e.1.2 e.2.1 e.2.2 p.1 p.2 := by unfold sgn; repeat' split
                                                                                                        all_goals omega
  simp only [s1]
  by_cases a : p.2 < e.1.2 <;> by_cases b : p.2 < e.2.2
  · simp [a, b]
  · have c : ¬ e.1.2 < e.2.2 := by omega
    have hne : cr e.1.1 e.1.2 e.2.1 e.2.2 p.1 p.2 ≠ 0 := fun hc => hon ⟨w_y hc (by omega) (by rw [mul_nn]; omega), hc⟩
    by_cases d : cr e.1.1 e.1.2 e.2.1 e.2.2 p.1 p.2 < 0
    · have d' : ¬ 0 < cr e.1.1 e.1.2 e.2.1 e.2.2 p.1 p.2 := by omega
      simp [a, b, c, d, d']
    · have d' : 0 < cr e.1.1 e.1.2 e.2.1 e.2.2 p.1 p.2 := by omega
      simp [a, b, c, d, d']
  · have c : e.1.2 < e.2.2 := by omega
    by_cases d : 0 < cr e.1.1 e.1.2 e.2.1 e.2.2 p.1 p.2
    · simp [a, b, c, d]
    · simp [a, b, c, d]
  · simp [a, b]
theorem par_fold (p : Pt) (es : List (Pt × Pt)) (f : Pt × Pt → Int) (h : ∀ e ∈ es, flE p e = decide (f e % 2 = 1)) : ∀ b : Bool, es.foldl (parF p) b = (b != decide ((es.map f).sum % 2 = 1)) := by
  induction es with
  | nil => intro b; simp
  | cons e l ih =>
    intro b
    rw [List.foldl_cons, ih (fun x hx => h x (by simp [hx]))]
    unfold parF
    rw [h e (by simp), List.map_cons, List.sum_cons]
    have e1 : (f e + (l.map f).sum) % 2 = 1 ↔ ((f e % 2 = 1) ↔ ¬ (l.map f).sum % 2 = 1) := by omega
    simp only [e1]
    by_cases a : f e % 2 = 1 <;> by_cases c : (l.map f).sum % 2 = 1 <;> cases b <;> simp [a, c]
/-- where a point lies, by its winding number -/
theorem locI_wn {l : List Pt} {p : Pt} (hm : l.all mayB = true) (hp : B2 p) : locI l p = if (eds l).any (onE p) = true then 0 else if wn (1, 0) (qp p) ((eds l).map qe) % 2 = 1 then 1 else -1 := by
  unfold locI
  by_cases h : (eds l).any (onE p) = true
  · rw [if_pos h, if_pos h]
  · rw [if_neg h, if_neg h]
    have hB : ∀ e ∈ eds l, B2 e.1 ∧ B2 e.2 := fun e he => by
      obtain ⟨i, hi⟩ := List.getElem?_of_mem he
      obtain ⟨h1, h2, h3⟩ := eds_get hi
      exact ⟨mayB_B2 (List.all_eq_true.1 hm _ (List.mem_of_getElem? h2)), mayB_B2 (List.all_eq_true.1 hm _ (List.mem_of_getElem? h3))⟩
    have hoff : ∀ e ∈ eds l, ¬ OnE (qp p) (qe e) := fun e he ho => by
      apply h
      rw [List.any_eq_true]
      exact ⟨e, he, (onE_meets hp (hB e he).1 (hB e he).2).2 ho⟩
    rw [par_fold p (eds l) (fun e => hit (1, 0) (sq (qp e.1) (qp p)) (sq (qp e.2) (qp p))) (fun e he => fl_hit hp (hB e he).1 (hB e he).2 (hoff e he))]
    unfold wn
    rw [List.map_map]
    simp only [Bool.false_bne, decide_eq_true_eq]
    rfl
end Go.Geo

namespace Go.Geo
set_option maxRecDepth 100000
set_option maxHeartbeats 4000000
set_option linter.unusedSimpArgs false
set_option linter.unusedVariables false
open Go Go.Zv
/-! rigid motions of the plane -/
structure Mot where
  c : Rat
  s : Rat
  x : Rat
  y : Rat
  h : c * c + s * s = 1
def Mot.lin (M : Mot) (v : Q2) : Q2 := (M.c * v.1 - M.s * v.2, M.s * v.1 + M.c * v.2)
def Mot.app (M : Mot) (v : Q2) : Q2 := (M.c * v.1 - M.s * v.2 + M.x, M.s * v.1 + M.c * v.2 + M.y)
def Mot.back (M : Mot) (v : Q2) : Q2 := (M.c * (v.1 - M.x) + M.s * (v.2 - M.y), M.c * (v.2 - M.y) - M.s * (v.1 - M.x))
section
variable (M : Mot)
theorem Mot.app_back (z : Q2) : M.app (M.back z) = z := by
  have := M.h
  refine Prod.ext ?_ ?_ <;> simp only [Mot.app, Mot.back] <;> grind
theorem Mot.sq_app (a b : Q2) : sq (M.app a) (M.app b) = M.lin (sq a b) := by
  refine Prod.ext ?_ ?_ <;> simp only [Mot.app, Mot.lin, sq] <;> grind
theorem Mot.xq_lin (u v : Q2) : xq (M.lin u) (M.lin v) = xq u v := by
  have := M.h
  unfold xq Mot.lin; simp only
  have e : (M.c * u.1 - M.s * u.2) * (M.s * v.1 + M.c * v.2) - (M.s * u.1 + M.c * u.2) * (M.c * v.1 - M.s * v.2) = (M.c * M.c + M.s * M.s) * (u.1 * v.2 - u.2 * v.1) := by grind
  rw [e, this]; grind
theorem Mot.dq_lin (u v : Q2) : dq (M.lin u) (M.lin v) = dq u v := by
  have := M.h
  unfold dq Mot.lin; simp only
  have e : (M.c * u.1 - M.s * u.2) * (M.c * v.1 - M.s * v.2) + (M.s * u.1 + M.c * u.2) * (M.s * v.1 + M.c * v.2) = (M.c * M.c + M.s * M.s) * (u.1 * v.1 + u.2 * v.2) := by grind
  rw [e, this]; grind
theorem Mot.hit_lin (d u v : Q2) : hit (M.lin d) (M.lin u) (M.lin v) = hit d u v := by
  unfold hit; simp only [Mot.xq_lin]
theorem Mot.on_app (z a b : Q2) : OnE (M.app z) (M.app a, M.app b) ↔ OnE z (a, b) := by
  unfold OnE OnV; simp only [Mot.sq_app, Mot.xq_lin, Mot.dq_lin]
theorem Mot.meets_app (a b c d : Q2) : Meets (M.app a) (M.app b) (M.app c) (M.app d) ↔ Meets a b c d := by
  constructor
  · rintro ⟨z, h1, h2⟩
    rw [← M.app_back z, M.on_app] at h1 h2
    exact ⟨_, h1, h2⟩
  · rintro ⟨z, h1, h2⟩
    exact ⟨M.app z, (M.on_app ..).2 h1, (M.on_app ..).2 h2⟩
theorem Mot.lin_ne {d : Q2} (h : d ≠ (0, 0)) : M.lin d ≠ (0, 0) := by
  intro e
  have h1 := dq_pos h
  rw [← M.dq_lin, e] at h1
  unfold dq at h1; grind
end
theorem ptn_map {l : List Pt} (f : Pt → Pt) (h : 0 < l.length) (k : Nat) : ptn (l.map f) k = f (ptn l k) := by
  have h1 := ptn_mod (l := l.map f) (k := k) (by simpa using h)
  rw [List.length_map, List.getElem?_map, ptn_mod h] at h1
  simpa using h1.symm
theorem eds_map (f : Pt → Pt) (l : List Pt) : eds (l.map f) = (eds l).map fun e => (f e.1, f e.2) := by
  by_cases h : 0 < l.length
  · rw [eds_range, eds_range, List.length_map, List.map_map]
    refine List.map_congr_left fun k _ => ?_
    simp only [Function.comp_apply, edn, ptn_map f h]
  · have : l = [] := List.length_eq_zero_iff.1 (by omega)
    subst this; rfl
theorem tel_r (g : Nat → Rat) (n : Nat) : ((List.range n).map fun k => g (k + 1) - g k).sum = g n - g 0 := by
  induction n with
  | zero => simp only [List.range_zero, List.map_nil, List.sum_nil]; grind
  | succ n ih =>
    rw [List.range_succ, List.map_append, List.sum_append, ih]
    simp only [List.map_cons, List.map_nil, List.sum_cons, List.sum_nil]; grind
theorem eds_tel_r (l : List Pt) (g : Pt → Rat) : ((eds l).map fun e => g e.2 - g e.1).sum = 0 := by
  rw [eds_range, List.map_map]
  have := tel_r (fun k => g (ptn l k)) l.length
  have e : ptn l l.length = ptn l 0 := by have := ptn_per l 0; rwa [Nat.zero_add] at this
  rw [e] at this
  have e2 : g (ptn l 0) - g (ptn l 0) = 0 := by grind
  rw [e2] at this
  exact this
theorem eds_mem {l : List Pt} {e : Pt × Pt} (h : e ∈ eds l) : e.1 ∈ l ∧ e.2 ∈ l := by
  obtain ⟨i, hi⟩ := List.getElem?_of_mem h
  obtain ⟨h1, h2, h3⟩ := eds_get hi
  exact ⟨List.mem_of_getElem? h2, List.mem_of_getElem? h3⟩
theorem dE_xq (e : Pt × Pt) : ((dE e : Int) : Rat) = xq (qp e.1) (qp e.2) := by
  unfold dE xq qp; rw [Rat.intCast_sub, Rat.intCast_mul, Rat.intCast_mul]
theorem any_congr2 {α : Type} {l : List α} {f g : α → Bool} (h : ∀ x ∈ l, f x = g x) : l.any f = l.any g := by
  rw [Bool.eq_iff_iff, List.any_eq_true, List.any_eq_true]
  exact ⟨fun ⟨x, hx, hp⟩ => ⟨x, hx, by rw [← h x hx]; exact hp⟩, fun ⟨x, hx, hp⟩ => ⟨x, hx, by rw [h x hx]; exact hp⟩⟩
/-- moved: the corners and one more point -/
structure Moved (M : Mot) (f : Pt → Pt) (l : List Pt) : Prop where
  may : l.all mayB = true
  may' : (l.map f).all mayB = true
  mv : ∀ p ∈ l, qp (f p) = M.app (qp p)
section
variable {M : Mot} {f : Pt → Pt} {l : List Pt}
theorem Moved.area (h : Moved M f l) : ((eds (l.map f)).map dE).sum = ((eds l).map dE).sum := by
  rw [← Rat.intCast_inj, sum_cast, sum_cast, eds_map, List.map_map, List.map_map, List.map_map]
  have h0 := eds_tel_r l (fun p => xq (M.x, M.y) (M.lin (qp p)))
  have : ((eds l).map (((fun x : Int => (x : Rat)) ∘ dE) ∘ fun e => (f e.1, f e.2))) = (eds l).map fun e => ((dE e : Int) : Rat) + (xq (M.x, M.y) (M.lin (qp e.2)) - xq (M.x, M.y) (M.lin (qp e.1))) := by
    refine List.map_congr_left fun e he => ?_
    obtain ⟨h1, h2⟩ := eds_mem he
    simp only [Function.comp_apply]
    rw [dE_xq, dE_xq]
    simp only
    rw [h.mv _ h1, h.mv _ h2, ← M.xq_lin (qp e.1)]
    unfold xq Mot.app Mot.lin; simp only; grind
  rw [this]
  have add : ∀ (m : List (Pt × Pt)) (u v : Pt × Pt → Rat), (m.map fun e => u e + v e).sum = (m.map u).sum + (m.map v).sum := by
    intro m u v
    induction m with
    | nil => simp only [List.map_nil, List.sum_nil]; grind
    | cons e m ih => simp only [List.map_cons, List.sum_cons, ih]; grind
  rw [add, h0]
  have : ((eds l).map ((fun x : Int => (x : Rat)) ∘ dE)) = (eds l).map fun e => ((dE e : Int) : Rat) := rfl
  rw [this]; grind
theorem Moved.pt (h : Moved M f l) (h0 : 0 < l.length) (k : Nat) : qp (ptn (l.map f) k) = M.app (qp (ptn l k)) := by
  rw [ptn_map f h0, h.mv _ (ptn_mem k h0)]
theorem Moved.len (_h : Moved M f l) : (l.map f).length = l.length := List.length_map ..
theorem Moved.sim (h : Moved M f l) : simB (l.map f) = simB l := by
  by_cases h0 : 0 < l.length
  · have hb := ptn_B h.may h0
    have hb' := ptn_B h.may' (by rw [h.len]; exact h0)
    have hori : ∀ i, decide (oriE (ptn (l.map f) i) (ptn (l.map f) (i + 1)) (ptn (l.map f) (i + 2)) = 0) = decide (oriE (ptn l i) (ptn l (i + 1)) (ptn l (i + 2)) = 0) := fun i => by
      unfold oriE
      rw [crW_B (hb i).1 (hb i).2 (hb (i + 1)).1 (hb (i + 1)).2 (hb (i + 2)).1 (hb (i + 2)).2, crW_B (hb' i).1 (hb' i).2 (hb' (i + 1)).1 (hb' (i + 1)).2 (hb' (i + 2)).1 (hb' (i + 2)).2]
      have e : cr (ptn (l.map f) i).1 (ptn (l.map f) i).2 (ptn (l.map f) (i + 1)).1 (ptn (l.map f) (i + 1)).2 (ptn (l.map f) (i + 2)).1 (ptn (l.map f) (i + 2)).2 = cr (ptn l i).1 (ptn l i).2 (ptn l (i + 1)).1 (ptn l (i + 1)).2 (ptn l (i + 2)).1 (ptn l (i + 2)).2 := by
        rw [← Rat.intCast_inj, ← xq_int, ← xq_int, h.pt h0, h.pt h0, h.pt h0, M.sq_app, M.sq_app, M.xq_lin]
      rw [e]
    have hcut : ∀ i k, cutE (edn (l.map f) i) (edn (l.map f) k) = cutE (edn l i) (edn l k) := fun i k => by
      unfold edn
      rw [Bool.eq_iff_iff, cut_meets (hb' _) (hb' _) (hb' _) (hb' _), cut_meets (hb _) (hb _) (hb _) (hb _), h.pt h0, h.pt h0, h.pt h0, h.pt h0, M.meets_app]
    have h2 : ∀ i, bad2 (l.map f) i = bad2 l i := fun i => funext fun k => by unfold bad2; rw [h.len, hcut]
    have h1 : bad1 (l.map f) = bad1 l := funext fun i => by unfold bad1; rw [hori, h2, h.len]
    unfold simB
    rw [h1, h.len]
  · have : l = [] := List.length_eq_zero_iff.1 (by omega)
    subst this; rfl
theorem Moved.areaW (h : Moved M f l) (h12 : l.length ≤ 12) : areaW (l.map f) = areaW l := by
  rw [areaW_val (by rw [h.len]; exact h12) h.may', areaW_val h12 h.may, h.area]
theorem Moved.val (h : Moved M f l) : valB (l.map f) = valB l := by
  unfold valB
  rw [h.len, h.may, h.may', h.sim]
  by_cases h12 : l.length ≤ 12
  · rw [h.areaW h12]
  · simp [h12]
theorem Moved.loc (h : Moved M f l) {p : Pt} (hp : B2 p) (hp' : B2 (f p)) (hm : qp (f p) = M.app (qp p)) : locI (l.map f) (f p) = locI l p := by
  have hbe : ∀ e ∈ eds l, (B2 e.1 ∧ B2 e.2) ∧ B2 (f e.1) ∧ B2 (f e.2) := fun e he => by
    obtain ⟨h1, h2⟩ := eds_mem he
    refine ⟨⟨mayB_B2 (List.all_eq_true.1 h.may _ h1), mayB_B2 (List.all_eq_true.1 h.may _ h2)⟩, mayB_B2 (List.all_eq_true.1 h.may' _ ?_), mayB_B2 (List.all_eq_true.1 h.may' _ ?_)⟩
    · exact List.mem_map.2 ⟨_, h1, rfl⟩
    · exact List.mem_map.2 ⟨_, h2, rfl⟩
  have hqe : ∀ e ∈ eds l, qe (f e.1, f e.2) = (M.app (qp e.1), M.app (qp e.2)) := fun e he => by
    obtain ⟨h1, h2⟩ := eds_mem he
    unfold qe; simp only; rw [h.mv _ h1, h.mv _ h2]
  have hon : ∀ e ∈ eds l, onE (f p) (f e.1, f e.2) = onE p e := fun e he => by
    obtain ⟨⟨b1, b2⟩, b3, b4⟩ := hbe e he
    rw [Bool.eq_iff_iff, onE_meets hp' b3 b4, onE_meets hp b1 b2, hqe e he, hm, M.on_app]
    rfl
  rw [locI_wn h.may' hp', locI_wn h.may hp]
  have e1 : (eds (l.map f)).any (onE (f p)) = (eds l).any (onE p) := by
    rw [eds_map, List.any_map]
    exact any_congr2 fun e he => hon e he
  rw [e1]
  by_cases ho : (eds l).any (onE p) = true
  · rw [if_pos ho, if_pos ho]
  · rw [if_neg ho, if_neg ho]
    have hoff : ∀ e ∈ eds l, ¬ OnE (qp p) (qe e) := fun e he hx => ho (by
      rw [List.any_eq_true]
      exact ⟨e, he, (onE_meets hp (hbe e he).1.1 (hbe e he).1.2).2 hx⟩)
    have e2 : wn (1, 0) (qp (f p)) ((eds (l.map f)).map qe) = wn (1, 0) (qp p) ((eds l).map qe) := by
      have hd : ∃ d : Q2, M.lin d = (1, 0) := ⟨(M.c, -M.s), by
        have := M.h
        refine Prod.ext ?_ ?_ <;> simp only [Mot.lin] <;> grind⟩
      obtain ⟨d, hd⟩ := hd
      have hdn : d ≠ (0, 0) := fun e => by
        rw [e] at hd
        refine d10 ?_
        rw [← hd]
        refine Prod.ext ?_ ?_ <;> simp only [Mot.lin] <;> grind
      have hp0 : Path (pqf l 0) (pqf l 0) ((eds l).map qe) := by
        have := chn_path (pqf l) 0 l.length
        rw [← eds_chn, Nat.zero_add] at this
        have e : pqf l l.length = pqf l 0 := by unfold pqf; rw [show l.length = 0 + l.length by omega, ptn_per]
        rw [e] at this
        exact this
      rw [wn_dir hp0 d10 hdn (fun g hg => by
        obtain ⟨e, he, rfl⟩ := List.mem_map.1 hg
        exact hoff e he)]
      rw [← hd, hm, eds_map]
      unfold wn
      rw [List.map_map, List.map_map, List.map_map]
      congr 1
      refine List.map_congr_left fun e he => ?_
      simp only [Function.comp_apply]
      rw [hqe e he]
      simp only
      rw [M.sq_app, M.sq_app, M.hit_lin]; rfl
    rw [e2]
end
end Go.Geo

namespace Go.Geo
set_option maxRecDepth 100000
set_option maxHeartbeats 4000000
set_option linter.unusedSimpArgs false
set_option linter.unusedVariables false
open Go Go.Zv
theorem tmod_pos {x n : Int} (h : 0 ≤ x) : x.tmod n = x % n := Int.tmod_eq_emod_of_nonneg h
theorem tmod36 (q : Int) : (if q.tmod 36 < 0 then q.tmod 36 + 36 else q.tmod 36) = q % 36 := by
  by_cases h : 0 ≤ q
  · rw [tmod_pos h]; split <;> omega
  · obtain ⟨p, rfl⟩ : ∃ p : Int, q = -p := ⟨-q, by omega⟩
    rw [Int.neg_tmod, tmod_pos (by omega)]
    split <;> omega
theorem tb36 (q : Int) : -36 < q.tmod 36 ∧ q.tmod 36 < 36 := ⟨Int.lt_tmod_of_pos q (by omega), Int.tmod_lt_of_pos q (by omega)⟩
/-- cosine and sine, times 65 -/
def cs : Nat → Int × Int
  | 0 => (65, 0) | 1 => (63, 16) | 2 => (60, 25) | 3 => (56, 33) | 4 => (52, 39) | 5 => (39, 52) | 6 => (33, 56) | 7 => (25, 60) | 8 => (16, 63)
  | 9 => (0, 65) | 10 => (-16, 63) | 11 => (-25, 60) | 12 => (-33, 56) | 13 => (-39, 52) | 14 => (-52, 39) | 15 => (-56, 33) | 16 => (-60, 25) | 17 => (-63, 16)
  | 18 => (-65, 0) | 19 => (-63, -16) | 20 => (-60, -25) | 21 => (-56, -33) | 22 => (-52, -39) | 23 => (-39, -52) | 24 => (-33, -56) | 25 => (-25, -60) | 26 => (-16, -63)
  | 27 => (0, -65) | 28 => (16, -63) | 29 => (25, -60) | 30 => (33, -56) | 31 => (39, -52) | 32 => (52, -39) | 33 => (56, -33) | 34 => (60, -25) | 35 => (63, -16)
  | _ => (65, 0)
def csI (q : Int) : Int × Int := cs (q % 36).toNat
theorem cases36 {k : Int} (h1 : 0 ≤ k) (h2 : k < 36) : k = 0 ∨ k = 1 ∨ k = 2 ∨ k = 3 ∨ k = 4 ∨ k = 5 ∨ k = 6 ∨ k = 7 ∨ k = 8 ∨ k = 9 ∨ k = 10 ∨ k = 11 ∨ k = 12 ∨ k = 13 ∨ k = 14 ∨ k = 15 ∨ k = 16 ∨ k = 17 ∨ k = 18 ∨ k = 19 ∨ k = 20 ∨ k = 21 ∨ k = 22 ∨ k = 23 ∨ k = 24 ∨ k = 25 ∨ k = 26 ∨ k = 27 ∨ k = 28 ∨ k = 29 ∨ k = 30 ∨ k = 31 ∨ k = 32 ∨ k = 33 ∨ k = 34 ∨ k = 35 := by omega
theorem csI_facts (q : Int) : (-65 ≤ (csI q).1 ∧ (csI q).1 ≤ 65) ∧ (-65 ≤ (csI q).2 ∧ (csI q).2 ≤ 65) ∧ (csI q).1 * (csI q).1 + (csI q).2 * (csI q).2 = 4225 ∧ (csI (-q)).1 = (csI q).1 ∧ (csI (-q)).2 = -(csI q).2 := by
  have h1 : 0 ≤ q % 36 := by omega
  have h2 : q % 36 < 36 := by omega
  have h3 : (-q) % 36 = (36 - q % 36) % 36 := by omega
  unfold csI
  rw [h3]
  generalize q % 36 = k at *
  rcases cases36 h1 h2 with rfl | rfl | rfl | rfl | rfl | rfl | rfl | rfl | rfl | rfl | rfl | rfl | rfl | rfl | rfl | rfl | rfl | rfl | rfl | rfl | rfl | rfl | rfl | rfl | rfl | rfl | rfl | rfl | rfl | rfl | rfl | rfl | rfl | rfl | rfl | rfl <;> decide
/-- 65 times the turned point -/
def rx (q : Int) (p : Pt) : Int := p.1 * (csI q).1 - p.2 * (csI q).2
def ry (q : Int) (p : Pt) : Int := p.1 * (csI q).2 + p.2 * (csI q).1
def exB (q : Int) (p : Pt) : Bool := decide ((rx q p).tmod 65 = 0) && decide ((ry q p).tmod 65 = 0)
def rqP (q : Int) (p : Pt) : Pt := ((rx q p).tdiv 65, (ry q p).tdiv 65)
def rzP (q : Int) (p : Pt) : Pt := if exB q p = true then rqP q p else (0, 0)
def rMot (q : Int) : Mot where
  c := (((csI q).1 : Int) : Rat) / 65
  s := (((csI q).2 : Int) : Rat) / 65
  x := 0
  y := 0
  h := by
    have h := (csI_facts q).2.2.1
    have h2 : (((csI q).1 * (csI q).1 + (csI q).2 * (csI q).2 : Int) : Rat) = ((4225 : Int) : Rat) := by rw [h]
    rw [Rat.intCast_add, Rat.intCast_mul, Rat.intCast_mul] at h2
    have : ((4225 : Int) : Rat) = 4225 := rfl
    grind
theorem exB_mul {q : Int} {p : Pt} (h : exB q p = true) : 65 * (rqP q p).1 = rx q p ∧ 65 * (rqP q p).2 = ry q p := by
  unfold exB at h
  simp only [Bool.and_eq_true, decide_eq_true_eq] at h
  have h1 := Int.mul_tdiv_add_tmod (rx q p) 65
  have h2 := Int.mul_tdiv_add_tmod (ry q p) 65
  unfold rqP; simp only; omega
theorem exB_mot {q : Int} {p : Pt} (h : exB q p = true) : qp (rqP q p) = (rMot q).app (qp p) := by
  obtain ⟨h1, h2⟩ := exB_mul h
  have e1 : ((65 * (rqP q p).1 : Int) : Rat) = ((rx q p : Int) : Rat) := by rw [h1]
  have e2 : ((65 * (rqP q p).2 : Int) : Rat) = ((ry q p : Int) : Rat) := by rw [h2]
  unfold rx at e1
  unfold ry at e2
  rw [Rat.intCast_mul, Rat.intCast_sub, Rat.intCast_mul, Rat.intCast_mul] at e1
  rw [Rat.intCast_mul, Rat.intCast_add, Rat.intCast_mul, Rat.intCast_mul] at e2
  have : ((65 : Int) : Rat) = 65 := rfl
  refine Prod.ext ?_ ?_ <;> simp only [qp, rMot, Mot.app] <;> grind
end Go.Geo

namespace Go.Geo
set_option maxRecDepth 100000
set_option maxHeartbeats 4000000
set_option linter.unusedSimpArgs false
set_option linter.unusedVariables false
open Go Go.Zv
theorem eds_path (l : List Pt) : Path (pqf l 0) (pqf l 0) ((eds l).map qe) := by
  have := chn_path (pqf l) 0 l.length
  rw [← eds_chn, Nat.zero_add] at this
  have e : pqf l l.length = pqf l 0 := by unfold pqf; rw [show l.length = 0 + l.length by omega, ptn_per]
  rw [e] at this
  exact this
theorem eds_B {l : List Pt} (hm : l.all mayB = true) {e : Pt × Pt} (he : e ∈ eds l) : B2 e.1 ∧ B2 e.2 := by
  obtain ⟨h1, h2⟩ := eds_mem he
  exact ⟨mayB_B2 (List.all_eq_true.1 hm _ h1), mayB_B2 (List.all_eq_true.1 hm _ h2)⟩
/-- off the boundary -/
theorem off_iff {l : List Pt} {p : Pt} (hm : l.all mayB = true) (hp : B2 p) : (eds l).any (onE p) = false ↔ ∀ e ∈ eds l, ¬ OnE (qp p) (qe e) := by
  rw [List.any_eq_false]
  constructor
  · intro h e he ho
    exact h e he ((onE_meets hp (eds_B hm he).1 (eds_B hm he).2).2 ho)
  · intro h e he ho
    exact h e he ((onE_meets hp (eds_B hm he).1 (eds_B hm he).2).1 ho)
theorem loc_corner {l : List Pt} (hm : l.all mayB = true) {k : Nat} (hk : k < l.length) : locI l (ptn l k) = 0 := by
  have hp := ptn_B hm (show 0 < l.length by omega) k
  rw [locI_wn hm hp]
  rw [if_pos]
  rw [List.any_eq_true]
  refine ⟨edn l k, List.mem_of_getElem? (edn_get hk), ?_⟩
  rw [onE_meets hp (ptn_B hm (by omega) k) (ptn_B hm (by omega) (k + 1))]
  exact on_left _ _
/-- all corners to one side of a line through the point: outside -/
theorem loc_side {l : List Pt} (hm : l.all mayB = true) {p : Pt} (hp : B2 p) {d : Q2} (hd : d ≠ (0, 0)) (h : ∀ q ∈ l, xq d (sq (qp q) (qp p)) < 0) : locI l p = -1 := by
  have hoff : ∀ e ∈ eds l, ¬ OnE (qp p) (qe e) := fun e he ho => by
    obtain ⟨h1, h2⟩ := eds_mem he
    obtain ⟨s, s0, s1, hs⟩ := on_param ho
    have k1 := h _ h1
    have k2 := h _ h2
    have e0 : (1 - s) * xq d (sq (qp e.1) (qp p)) + s * xq d (sq (qp e.2) (qp p)) = 0 := by
      have hz : xq d (sq (qp p) (qp p)) = 0 := by unfold xq sq; grind
      conv at hz => lhs; arg 2; arg 1; rw [hs]
      rw [← hz]; unfold xq sq onp; grind
    by_cases hs0 : s = 0
    · rw [hs0] at e0; grind
    · have m1 := Rat.mul_nonneg (show 0 ≤ 1 - s by grind) (show 0 ≤ -xq d (sq (qp e.1) (qp p)) by grind)
      have m2 := Rat.mul_pos (show 0 < s by grind) (show 0 < -xq d (sq (qp e.2) (qp p)) by grind)
      grind
  have ho := (off_iff hm hp).2 hoff
  rw [locI_wn hm hp, ho, wn_dir (eds_path l) d10 hd (fun g hg => by
    obtain ⟨e, he, rfl⟩ := List.mem_map.1 hg
    exact hoff e he), wn_none_left fun g hg => by
    obtain ⟨e, he, rfl⟩ := List.mem_map.1 hg
    obtain ⟨h1, h2⟩ := eds_mem he
    have k1 := h _ h1
    have k2 := h _ h2
    unfold qe; simp only
    constructor <;> grind]
  simp
theorem loc_side' {l : List Pt} (hm : l.all mayB = true) {p : Pt} (hp : B2 p) {d : Q2} (hd : d ≠ (0, 0)) (h : ∀ q ∈ l, 0 < xq d (sq (qp q) (qp p))) : locI l p = -1 := by
  refine loc_side hm hp (d := (-d.1, -d.2)) (fun e => hd ?_) fun q hq => ?_
  · simp only [Prod.mk.injEq] at e
    refine Prod.ext ?_ ?_ <;> simp only <;> grind
  · have := h q hq
    have e : xq (-d.1, -d.2) (sq (qp q) (qp p)) = -xq d (sq (qp q) (qp p)) := by unfold xq; grind
    rw [e]; grind
/-- a segment that meets no edge: both ends alike -/
theorem loc_walk {l : List Pt} (hm : l.all mayB = true) {p q : Pt} (hp : B2 p) (hq : B2 q) (h : ∀ e ∈ eds l, cutE e (p, q) = false) : locI l p = locI l q ∧ locI l p ≠ 0 := by
  have hM : ∀ e ∈ eds l, ¬ Meets (qp e.1) (qp e.2) (qp p) (qp q) := fun e he hx => by
    have := (cut_meets (eds_B hm he).1 (eds_B hm he).2 hp hq).2 hx
    have h2 := h e he
    rw [show e = (e.1, e.2) from rfl, this] at h2
    cases h2
  have h1 : ∀ e ∈ eds l, ¬ OnE (qp p) (qe e) := fun e he ho => hM e he ⟨qp p, ho, on_left _ _⟩
  have h2 : ∀ e ∈ eds l, ¬ OnE (qp q) (qe e) := fun e he ho => hM e he ⟨qp q, ho, on_right _ _⟩
  have hw : wn (1, 0) (qp p) ((eds l).map qe) = wn (1, 0) (qp q) ((eds l).map qe) := wn_walk (eds_path l) d10 fun g hg => by
    obtain ⟨e, he, rfl⟩ := List.mem_map.1 hg
    exact hM e he
  rw [locI_wn hm hp, locI_wn hm hq, (off_iff hm hp).2 h1, (off_iff hm hq).2 h2, hw]
  refine ⟨rfl, ?_⟩
  simp only [Bool.false_eq_true, if_false]
  split <;> decide
end Go.Geo

namespace Go.Geo
set_option maxRecDepth 100000
set_option maxHeartbeats 4000000
set_option linter.unusedSimpArgs false
set_option linter.unusedVariables false
open Go Go.Zv
/-! intersections of polygons -/
/-- all corners to the right of an edge -/
def beyB (e : Pt × Pt) (l : List Pt) : Bool := l.all fun p => decide (oriE e.1 e.2 p < 0)
/-- a corner of p in q -/
def insB (p : List Pt) (i : Int) (q : List Pt) : Bool := decide (0 ≤ i) && (decide (i < p.length) && decide (locI q (ptn p i.toNat) ≠ -1))
def fcJ (a b : List Pt) (i : Nat) : Option Nat := (List.range b.length).find? fun j => cutE (edn a i) (edn b j)
def fcE (a b : List Pt) : Option Nat := (List.range a.length).find? fun i => (fcJ a b i).isSome
def fcA (a b : List Pt) : Option Nat := (List.range a.length).find? fun i => insB a i b
/-- the first witness of an intersection -/
def FC (a b : List Pt) : Option (Int × Int × Int) :=
  match fcE a b with
  | some i => Option.map (fun j : Nat => ((1 : Int), (i : Int), (j : Int))) (fcJ a b i)
  | none => match fcA a b with
    | some i => some (2, (i : Int), 0)
    | none => Option.map (fun j : Nat => ((3 : Int), (0 : Int), (j : Int))) (fcA b a)
def sepAt (a b : List Pt) (d : Int) : Bool := decide (0 ≤ d ∧ d < a.length) && beyB (edn a d.toNat) b
def isepB (a b : List Pt) (o d : Int) : Bool := if o = 1 then sepAt b a d else decide (o = 0) && sepAt a b d
def icnB (a b : List Pt) (k i j : Int) : Bool :=
  if k = 1 then decide (0 ≤ i ∧ i < a.length) && (decide (0 ≤ j ∧ j < b.length) && cutE (edn a i.toNat) (edn b j.toNat))
  else if k = 2 then decide (j = 0) && insB a i b
  else if k = 3 then decide (i = 0) && insB b j a
  else false
/-- a corner to the right of edge i -/
def rgtE (l : List Pt) (i k : Nat) : Bool := decide (oriE (ptn l i) (ptn l (i + 1)) (ptn l k) < 0)
def cvxB (l : List Pt) : Bool := !(List.range l.length).any fun i => (List.range l.length).any (rgtE l i)
end Go.Geo

/- The engine, part 33: a loop that leaves at the first index of a kind. -/
namespace Go.Zv
set_option autoImplicit false
theorem loop_first (G : St → Option Out) (S : Nat → St) (n : Nat) (P : Nat → Bool) (R : Nat → Option Out → Prop) (e : Option Out)
    (stop : G (S n) = e)
    (step : ∀ k, k < n → (P k = true → R k (G (S k))) ∧ (P k = false → G (S k) = G (S (k + 1)))) :
    (∀ j, (List.range n).find? P = some j → R j (G (S 0))) ∧ ((List.range n).find? P = none → G (S 0) = e) := by
  have h := loop_P (σ := Unit) G (fun k _ => S k) n (fun _ _ => True)
    (fun k _ o => (∀ j, k ≤ j → j < n → P j = true → (∀ i, k ≤ i → i < j → P i = false) → R j o) ∧ ((∀ j, k ≤ j → j < n → P j = false) → o = e))
    (fun _ _ => ⟨fun j h1 h2 => by omega, fun _ => stop⟩) (fun k _ hk _ => by
      have hs := step k hk
      cases hp : P k with
      | true =>
        left
        refine ⟨fun j h1 h2 h3 h4 => ?_, fun h => by have := h k (Nat.le_refl _) hk; rw [hp] at this; cases this⟩
        by_cases e : j = k
        · subst e; exact hs.1 hp
        · have := h4 k (Nat.le_refl _) (by omega); rw [hp] at this; cases this
      | false =>
        right
        refine ⟨(), trivial, hs.2 hp, fun o ho => ⟨fun j h1 h2 h3 h4 => ?_, fun h => ho.2 fun j h1 h2 => h j (by omega) h2⟩⟩
        by_cases e : j = k
        · subst e; rw [hp] at h3; cases h3
        · exact ho.1 j (by omega) h2 h3 fun i h5 h6 => h4 i (by omega) h6) 0 () (by omega) trivial
  refine ⟨fun j hj => ?_, fun hn => ?_⟩
  · rw [List.find?_range_eq_some] at hj
    obtain ⟨h1, h2, h3⟩ := hj
    exact h.1 j (by omega) (List.mem_range.1 h2) h1 fun i _ hi => by have := h3 i hi; simpa using this
  · rw [List.find?_eq_none] at hn
    exact h.2 fun j _ hj => by have := hn j (List.mem_range.2 hj); simpa using this
end Go.Zv

namespace Go.Proofs.Ytnecdcaaknhgpaa.G
set_option maxRecDepth 100000
set_option maxHeartbeats 4000000
set_option linter.unusedSimpArgs false
set_option linter.unusedVariables false
open Go Go.Zv
open Go.Geo
theorem c68 (a b : List Pt) (hl : a.length ≤ 1000000000) : pc E 68 [.vs (a.map c2), .vs (b.map c2)] = some (.bool (decide (a = b))) := by
  by_cases h : a.length = b.length
  · have lp := loop_eq (fun S => (K E A68_L0 S).bind (blockR 0 (some []) [4, 5])) (fun k => ⟨[(0, .vs (a.map c2)), (1, .vs (b.map c2)), (12, .int .i64 a.length), (13, .int .i64 k)], [], [], 0⟩) a b h (some (.ex .ret ⟨[(4, .bool false)], [], [], 0⟩)) (some (.ex .nrm ⟨[], [], [], 0⟩))
      (by
        show (K E A68_L0 _).bind _ = _
        rw [A68_L0_eq]; simp +contextual -implicitDefEqProofs (maxSteps := 2000000) only [go_sem, ↓reduceIte, Nat.reduceAdd, Nat.reduceMul, Nat.reduceSub, Nat.reduceEqDiff, Nat.reduceLeDiff, Nat.reduceDiv, Nat.reduceMod, Nat.reduceBEq, Nat.reduceBNe, reduceCtorEq, Int.reduceLE, Int.reduceLT, Int.reduceToNat, Int.reduceNeg, Nat.reduceLT, Int.reduceEq, Int.reduceSub, Int.reduceAdd, Int.reduceMul, Nat.reducePow, Int.reduceBEq, Int.reduceBNe, Int.reduceMod, A68_L0b, Int.lt_irrefl, List.length_map])
      (fun k p q hk hp hq => by
        show (K E A68_L0 _).bind _ = if _ then (K E A68_L0 _).bind _ else _
        have h1 : (k : Int) < a.length := by omega
        have h2 : (k : Int) < b.length := by omega
        have h0 : (0 : Int) ≤ k := by omega
        have hw := wr_k (k := k) (by omega)
        have g1 := get_c2 hp
        have g2 := get_c2 hq
        obtain ⟨px, py⟩ := p
        obtain ⟨qx, qy⟩ := q
        conv => lhs; rw [A68_L0_eq]
        by_cases e : px = qx
        · subst e
          by_cases e2 : py = qy
          · subst e2
            simp +contextual -implicitDefEqProofs (maxSteps := 2000000) only [go_sem, ↓reduceIte, Nat.reduceAdd, Nat.reduceMul, Nat.reduceSub, Nat.reduceEqDiff, Nat.reduceLeDiff, Nat.reduceDiv, Nat.reduceMod, Nat.reduceBEq, Nat.reduceBNe, reduceCtorEq, Int.reduceLE, Int.reduceLT, Int.reduceToNat, Int.reduceNeg, Nat.reduceLT, Int.reduceEq, Int.reduceSub, Int.reduceAdd, Int.reduceMul, Nat.reducePow, Int.reduceBEq, Int.reduceBNe, Int.reduceMod, A68_L0b, List.length_map, h0, h1, h2, hw, g1, g2, bne_self_eq_false, beq_self_eq_true]
          · have e' : (py == qy) = false := by simpa using e2
            simp +contextual -implicitDefEqProofs (maxSteps := 2000000) only [go_sem, ↓reduceIte, Nat.reduceAdd, Nat.reduceMul, Nat.reduceSub, Nat.reduceEqDiff, Nat.reduceLeDiff, Nat.reduceDiv, Nat.reduceMod, Nat.reduceBEq, Nat.reduceBNe, reduceCtorEq, Int.reduceLE, Int.reduceLT, Int.reduceToNat, Int.reduceNeg, Nat.reduceLT, Int.reduceEq, Int.reduceSub, Int.reduceAdd, Int.reduceMul, Nat.reducePow, Int.reduceBEq, Int.reduceBNe, Int.reduceMod, A68_L0b, List.length_map, h0, h1, h2, hw, g1, g2, bne_self_eq_false, beq_self_eq_true, e', Prod.mk.injEq, e2]
        · have e' : (px == qx) = false := by simpa using e
          simp +contextual -implicitDefEqProofs (maxSteps := 2000000) only [go_sem, ↓reduceIte, Nat.reduceAdd, Nat.reduceMul, Nat.reduceSub, Nat.reduceEqDiff, Nat.reduceLeDiff, Nat.reduceDiv, Nat.reduceMod, Nat.reduceBEq, Nat.reduceBNe, reduceCtorEq, Int.reduceLE, Int.reduceLT, Int.reduceToNat, Int.reduceNeg, Nat.reduceLT, Int.reduceEq, Int.reduceSub, Int.reduceAdd, Int.reduceMul, Nat.reducePow, Int.reduceBEq, Int.reduceBNe, Int.reduceMod, A68_L0b, List.length_map, h0, h1, h2, hw, g1, g2, e', Prod.mk.injEq, e])
    simp only [Int.natCast_zero, Int.ofNat_zero] at lp
    have h' : ((a.length : Int) != b.length) = false := by simp [h]
    by_cases e : a = b
    · subst e
      rw [if_pos rfl] at lp
      rw [pc_eq]; simp +contextual -implicitDefEqProofs (maxSteps := 2000000) only [go_sem, ↓reduceIte, Nat.reduceAdd, Nat.reduceMul, Nat.reduceSub, Nat.reduceEqDiff, Nat.reduceLeDiff, Nat.reduceDiv, Nat.reduceMod, Nat.reduceBEq, Nat.reduceBNe, reduceCtorEq, Int.reduceLE, Int.reduceLT, Int.reduceToNat, Int.reduceNeg, Nat.reduceLT, Int.reduceEq, Int.reduceSub, Int.reduceAdd, Int.reduceMul, Nat.reducePow, Int.reduceBEq, Int.reduceBNe, Int.reduceMod, E_68, A68, List.length_map, h', lp, bne_self_eq_false]
    · rw [if_neg e] at lp
      rw [pc_eq]; simp +contextual -implicitDefEqProofs (maxSteps := 2000000) only [go_sem, ↓reduceIte, Nat.reduceAdd, Nat.reduceMul, Nat.reduceSub, Nat.reduceEqDiff, Nat.reduceLeDiff, Nat.reduceDiv, Nat.reduceMod, Nat.reduceBEq, Nat.reduceBNe, reduceCtorEq, Int.reduceLE, Int.reduceLT, Int.reduceToNat, Int.reduceNeg, Nat.reduceLT, Int.reduceEq, Int.reduceSub, Int.reduceAdd, Int.reduceMul, Nat.reducePow, Int.reduceBEq, Int.reduceBNe, Int.reduceMod, E_68, A68, List.length_map, h', lp, e]
  · have h' : ((a.length : Int) != b.length) = true := by simp; omega
    have h2 : ¬ ((a.length : Int) = b.length) := by omega
    have e : ¬ a = b := fun e => h (by rw [e])
    rw [pc_eq]; simp +contextual -implicitDefEqProofs (maxSteps := 2000000) only [go_sem, ↓reduceIte, Nat.reduceAdd, Nat.reduceMul, Nat.reduceSub, Nat.reduceEqDiff, Nat.reduceLeDiff, Nat.reduceDiv, Nat.reduceMod, Nat.reduceBEq, Nat.reduceBNe, reduceCtorEq, Int.reduceLE, Int.reduceLT, Int.reduceToNat, Int.reduceNeg, Nat.reduceLT, Int.reduceEq, Int.reduceSub, Int.reduceAdd, Int.reduceMul, Nat.reducePow, Int.reduceBEq, Int.reduceBNe, Int.reduceMod, E_68, A68, List.length_map, h', h2, e]
theorem c36 (a b : List Pt) (hl : a.length ≤ 1000000000) : pc E 36 [.vs (a.map c2), .vs (b.map c2)] = some (.bool (decide (a = b))) := by
  have h := c68 a b hl
  rw [pc_eq]; simp +contextual -implicitDefEqProofs (maxSteps := 2000000) only [go_sem, ↓reduceIte, Nat.reduceAdd, Nat.reduceMul, Nat.reduceSub, Nat.reduceEqDiff, Nat.reduceLeDiff, Nat.reduceDiv, Nat.reduceMod, Nat.reduceBEq, Nat.reduceBNe, reduceCtorEq, Int.reduceLE, Int.reduceLT, Int.reduceToNat, Int.reduceNeg, Nat.reduceLT, Int.reduceEq, Int.reduceSub, Int.reduceAdd, Int.reduceMul, Nat.reducePow, Int.reduceBEq, Int.reduceBNe, Int.reduceMod, E_36, A36, h]
def trP (p q : Pt) : Pt := (w64 (q.1 + p.1), w64 (q.2 + p.2))
abbrev FR40 (l : List Pt) : List Env := [[(6, .fn (Fn.func 95) [] [.ptr 768 0]), (5, .vs (l.map c2)), (0, .vs (l.map c2)), (3, .ptr 768 0)]]
theorem c66 (l : List Pt) (hl : l.length ≤ 1000000000) (px py : Int) : pc E 66 [.vs (l.map c2), .agg [.int .i64 px, .int .i64 py]] = some (.vs ((l.map (trP (px, py))).map c2)) := by
  have lp := loop_idx (σ := Unit) (fun S => (K E A92_L0 S).bind (blockR 0 (some [5]) [7, 17, 18]))
    (fun k _ => ⟨[(1, .fn (Fn.func 95) [] [.ptr 768 0]), (5, .bs 1049856 0 ((l.take k).map (fun q => c2 (trP (px, py) q))).length), (8, .vs (l.map c2)), (9, .int .i64 l.length), (10, .int .i64 k)], FR40 l, [(1049856, .row 2 ((l.take k).map (fun q => c2 (trP (px, py) q)))), (1049600, .row 2 []), (1024, .row 2 []), (768, .box [.int .i64 px, .int .i64 py])], 1⟩)
    l.length (fun _ _ => True)
    (fun _ _ => some (.ex .nrm ⟨[(5, .bs 1049856 0 (l.map (fun q => c2 (trP (px, py) q))).length)], FR40 l, [(1049856, .row 2 (l.map (fun q => c2 (trP (px, py) q)))), (1049600, .row 2 []), (1024, .row 2 []), (768, .box [.int .i64 px, .int .i64 py])], 1⟩))
    (fun _ _ => by
      show (K E A92_L0 _).bind _ = _
      rw [List.take_length, A92_L0_eq]; simp +contextual -implicitDefEqProofs (maxSteps := 2000000) only [go_sem, ↓reduceIte, Nat.reduceAdd, Nat.reduceMul, Nat.reduceSub, Nat.reduceEqDiff, Nat.reduceLeDiff, Nat.reduceDiv, Nat.reduceMod, Nat.reduceBEq, Nat.reduceBNe, reduceCtorEq, Int.reduceLE, Int.reduceLT, Int.reduceToNat, Int.reduceNeg, Nat.reduceLT, Int.reduceEq, Int.reduceSub, Int.reduceAdd, Int.reduceMul, Nat.reducePow, Int.reduceBEq, Int.reduceBNe, Int.reduceMod, A92_L0b, Int.lt_irrefl])
    (fun k x hk _ => .inr ⟨(), trivial, by
      have hget : l[k]? = some (l[k]'hk) := List.getElem?_eq_getElem _
      have ht : l.take (k + 1) = l.take k ++ [l[k]'hk] := by rw [List.take_add_one, hget]; rfl
      rw [ht, List.map_append]
      generalize l[k]'hk = p at *
      have g1 := get_c2 hget
      have h1 : (k : Int) < l.length := by omega
      have h0 : (0 : Int) ≤ k := by omega
      have hw := wr_k (k := k) (by omega)
      have o1 := c54 p.1 p.2 px py
      have hr : ((l.take k).map (fun q => c2 (trP (px, py) q))).length ≤ 999999999 := by rw [List.length_map, List.length_take]; omega
      generalize (l.take k).map (fun q => c2 (trP (px, py) q)) = rows at *
      obtain ⟨x, y⟩ := p
      simp only at o1
      show (K E A92_L0 _).bind _ = (K E A92_L0 _).bind _
      conv => lhs; rw [A92_L0_eq]
      simp +contextual -implicitDefEqProofs (maxSteps := 2000000) only [go_sem, ↓reduceIte, Nat.reduceAdd, Nat.reduceMul, Nat.reduceSub, Nat.reduceEqDiff, Nat.reduceLeDiff, Nat.reduceDiv, Nat.reduceMod, Nat.reduceBEq, Nat.reduceBNe, reduceCtorEq, Int.reduceLE, Int.reduceLT, Int.reduceToNat, Int.reduceNeg, Nat.reduceLT, Int.reduceEq, Int.reduceSub, Int.reduceAdd, Int.reduceMul, Nat.reducePow, Int.reduceBEq, Int.reduceBNe, Int.reduceMod, FR40, A92_L0b, List.length_map, h0, h1, g1, hw, hr, o1, E_95, A95, trP, c2, List.map_cons, List.map_nil, List.length_append], rfl⟩) 0 () (by omega) trivial
  simp only [Int.natCast_zero, Int.ofNat_zero, List.take_zero, List.map_nil, List.length_nil] at lp
  have ht : List.take l.length (List.map (fun q => c2 (trP (px, py) q)) l) = List.map (fun q => c2 (trP (px, py) q)) l := List.take_of_length_le (by simp)
  rw [pc_eq]; simp +contextual -implicitDefEqProofs (maxSteps := 2000000) only [go_sem, ↓reduceIte, Nat.reduceAdd, Nat.reduceMul, Nat.reduceSub, Nat.reduceEqDiff, Nat.reduceLeDiff, Nat.reduceDiv, Nat.reduceMod, Nat.reduceBEq, Nat.reduceBNe, reduceCtorEq, Int.reduceLE, Int.reduceLT, Int.reduceToNat, Int.reduceNeg, Nat.reduceLT, Int.reduceEq, Int.reduceSub, Int.reduceAdd, Int.reduceMul, Nat.reducePow, Int.reduceBEq, Int.reduceBNe, Int.reduceMod, ht, E_66, A66, E_92, A92, List.length_map, lp, List.map_map, Function.comp_def]
theorem c120 (q : Int) : pc E 120 [.int .i64 q] = some (.int .i64 (q % 36)) := by
  have h := tmod36 q
  have hb := tb36 q
  have w : IntKind.i64.wrap (q.tmod 36 + 36) = q.tmod 36 + 36 := wrap_small (by omega) (by omega)
  by_cases hc : q.tmod 36 < 0
  · rw [if_pos hc] at h
    have w2 : IntKind.i64.wrap (q % 36) = q % 36 := wrap_small (by omega) (by omega)
    rw [pc_eq]; simp +contextual -implicitDefEqProofs (maxSteps := 2000000) only [go_sem, ↓reduceIte, Nat.reduceAdd, Nat.reduceMul, Nat.reduceSub, Nat.reduceEqDiff, Nat.reduceLeDiff, Nat.reduceDiv, Nat.reduceMod, Nat.reduceBEq, Nat.reduceBNe, reduceCtorEq, Int.reduceLE, Int.reduceLT, Int.reduceToNat, Int.reduceNeg, Nat.reduceLT, Int.reduceEq, Int.reduceSub, Int.reduceAdd, Int.reduceMul, Nat.reducePow, Int.reduceBEq, Int.reduceBNe, Int.reduceMod, E_120, A120, hc, w, h, w2]
  · rw [if_neg hc] at h
    rw [h] at hc
    rw [pc_eq]; simp +contextual -implicitDefEqProofs (maxSteps := 2000000) only [go_sem, ↓reduceIte, Nat.reduceAdd, Nat.reduceMul, Nat.reduceSub, Nat.reduceEqDiff, Nat.reduceLeDiff, Nat.reduceDiv, Nat.reduceMod, Nat.reduceBEq, Nat.reduceBNe, reduceCtorEq, Int.reduceLE, Int.reduceLT, Int.reduceToNat, Int.reduceNeg, Nat.reduceLT, Int.reduceEq, Int.reduceSub, Int.reduceAdd, Int.reduceMul, Nat.reducePow, Int.reduceBEq, Int.reduceBNe, Int.reduceMod, E_120, A120, h, hc]
theorem c121 : pc E 121 [] = some (.agg [.int .i64 65, .int .i64 0, .int .i64 63, .int .i64 16, .int .i64 60, .int .i64 25, .int .i64 56, .int .i64 33, .int .i64 52, .int .i64 39, .int .i64 39, .int .i64 52, .int .i64 33, .int .i64 56, .int .i64 25, .int .i64 60, .int .i64 16, .int .i64 63]) := by
  rw [pc_eq]; simp +contextual -implicitDefEqProofs (maxSteps := 2000000) only [go_sem, ↓reduceIte, Nat.reduceAdd, Nat.reduceMul, Nat.reduceSub, Nat.reduceEqDiff, Nat.reduceLeDiff, Nat.reduceDiv, Nat.reduceMod, Nat.reduceBEq, Nat.reduceBNe, reduceCtorEq, Int.reduceLE, Int.reduceLT, Int.reduceToNat, Int.reduceNeg, Nat.reduceLT, Int.reduceEq, Int.reduceSub, Int.reduceAdd, Int.reduceMul, Nat.reducePow, Int.reduceBEq, Int.reduceBNe, Int.reduceMod, E_121, A121]
theorem c91 (x y : Int) (h1 : -1000000000000 ≤ y) (h2 : y ≤ 1000000000000) : pc E 91 [.agg [.int .i64 x, .int .i64 y]] = some (.agg [.int .i64 (-y), .int .i64 x]) := by
  have w : IntKind.i64.wrap (0 - y) = -y := by rw [wrap_small (by omega) (by omega)]; omega
  rw [pc_eq]; simp +contextual -implicitDefEqProofs (maxSteps := 2000000) only [go_sem, ↓reduceIte, Nat.reduceAdd, Nat.reduceMul, Nat.reduceSub, Nat.reduceEqDiff, Nat.reduceLeDiff, Nat.reduceDiv, Nat.reduceMod, Nat.reduceBEq, Nat.reduceBNe, reduceCtorEq, Int.reduceLE, Int.reduceLT, Int.reduceToNat, Int.reduceNeg, Nat.reduceLT, Int.reduceEq, Int.reduceSub, Int.reduceAdd, Int.reduceMul, Nat.reducePow, Int.reduceBEq, Int.reduceBNe, Int.reduceMod, E_91, A91, w]
theorem left_ok (x y : Int) (h1 : -65 ≤ y) (h2 : y ≤ 65) : pc E 91 [.agg [.int .i64 x, .int .i64 y]] = some (.agg [.int .i64 (-y), .int .i64 x]) := c91 x y (by omega) (by omega)
theorem c109 (q : Int) : pc E 109 [.int .i64 q] = some (.tup [.int .i64 (csI q).1, .int .i64 (csI q).2]) := by
  have h := c120 q
  have h1 : 0 ≤ q % 36 := by omega
  have h2 : q % 36 < 36 := by omega
  unfold csI
  generalize q % 36 = k at *
  rcases cases36 h1 h2 with rfl | rfl | rfl | rfl | rfl | rfl | rfl | rfl | rfl | rfl | rfl | rfl | rfl | rfl | rfl | rfl | rfl | rfl | rfl | rfl | rfl | rfl | rfl | rfl | rfl | rfl | rfl | rfl | rfl | rfl | rfl | rfl | rfl | rfl | rfl | rfl <;>
    (rw [pc_eq]; simp +contextual -implicitDefEqProofs (maxSteps := 2000000) only [go_sem, ↓reduceIte, Nat.reduceAdd, Nat.reduceMul, Nat.reduceSub, Nat.reduceEqDiff, Nat.reduceLeDiff, Nat.reduceDiv, Nat.reduceMod, Nat.reduceBEq, Nat.reduceBNe, reduceCtorEq, Int.reduceLE, Int.reduceLT, Int.reduceToNat, Int.reduceNeg, Nat.reduceLT, Int.reduceEq, Int.reduceSub, Int.reduceAdd, Int.reduceMul, Nat.reducePow, Int.reduceBEq, Int.reduceBNe, Int.reduceMod, E_109, A109, h, c121, A109_L0_eq, A109_L0b, Int.reduceTDiv, Int.reduceTMod, left_ok, Int.neg_neg]) <;> rfl
theorem c83 (x y q : Int) (hx : -1000000000 ≤ x ∧ x ≤ 1000000000) (hy : -1000000000 ≤ y ∧ y ≤ 1000000000) : pc E 83 [.agg [.int .i64 x, .int .i64 y], .int .i64 q] = some (.agg [.int .i64 (rx q (x, y)), .int .i64 (ry q (x, y))]) := by
  have h := c109 q
  obtain ⟨f1, f2, _⟩ := csI_facts q
  unfold rx ry
  simp only
  generalize (csI q).1 = c at *
  generalize (csI q).2 = s at *
  have m1 := mul_bd hx.1 hx.2 f1.1 f1.2
  have m2 := mul_bd hx.1 hx.2 f2.1 f2.2
  have m3 := mul_bd hy.1 hy.2 f1.1 f1.2
  have m4 := mul_bd hy.1 hy.2 f2.1 f2.2
  have w1 : IntKind.i64.wrap (x * c) = x * c := wrap_small (by omega) (by omega)
  have w2 : IntKind.i64.wrap (x * s) = x * s := wrap_small (by omega) (by omega)
  have w3 : IntKind.i64.wrap (y * c) = y * c := wrap_small (by omega) (by omega)
  have w4 : IntKind.i64.wrap (y * s) = y * s := wrap_small (by omega) (by omega)
  have w5 : IntKind.i64.wrap (x * c - y * s) = x * c - y * s := wrap_small (by omega) (by omega)
  have w6 : IntKind.i64.wrap (x * s + y * c) = x * s + y * c := wrap_small (by omega) (by omega)
  rw [pc_eq]; simp +contextual -implicitDefEqProofs (maxSteps := 2000000) only [go_sem, ↓reduceIte, Nat.reduceAdd, Nat.reduceMul, Nat.reduceSub, Nat.reduceEqDiff, Nat.reduceLeDiff, Nat.reduceDiv, Nat.reduceMod, Nat.reduceBEq, Nat.reduceBNe, reduceCtorEq, Int.reduceLE, Int.reduceLT, Int.reduceToNat, Int.reduceNeg, Nat.reduceLT, Int.reduceEq, Int.reduceSub, Int.reduceAdd, Int.reduceMul, Nat.reducePow, Int.reduceBEq, Int.reduceBNe, Int.reduceMod, E_83, A83, h, w1, w2, w3, w4, w5, w6]
theorem rx_bd (q : Int) {x y : Int} (hx : -1000000000 ≤ x ∧ x ≤ 1000000000) (hy : -1000000000 ≤ y ∧ y ≤ 1000000000) : (-130000000000 ≤ rx q (x, y) ∧ rx q (x, y) ≤ 130000000000) ∧ (-130000000000 ≤ ry q (x, y) ∧ ry q (x, y) ≤ 130000000000) := by
  obtain ⟨f1, f2, _⟩ := csI_facts q
  unfold rx ry
  simp only
  have m1 := mul_bd hx.1 hx.2 f1.1 f1.2
  have m2 := mul_bd hx.1 hx.2 f2.1 f2.2
  have m3 := mul_bd hy.1 hy.2 f1.1 f1.2
  have m4 := mul_bd hy.1 hy.2 f2.1 f2.2
  omega
theorem c94 (x y q : Int) (hx : -1000000000 ≤ x ∧ x ≤ 1000000000) (hy : -1000000000 ≤ y ∧ y ≤ 1000000000) : pc E 94 [.agg [.int .i64 x, .int .i64 y], .int .i64 q] = some (.tup [.agg [.int .i64 (rzP q (x, y)).1, .int .i64 (rzP q (x, y)).2], .bool (exB q (x, y))]) := by
  have h := c83 x y q hx hy
  obtain ⟨b1, b2⟩ := rx_bd q hx hy
  unfold rzP exB rqP
  generalize rx q (x, y) = u at *
  generalize ry q (x, y) = v at *
  have t1 := Int.mul_tdiv_add_tmod u 65
  have t2 := Int.mul_tdiv_add_tmod v 65
  have t3 := Int.tmod_lt_of_pos u (show (0 : Int) < 65 by omega)
  have t4 := Int.lt_tmod_of_pos u (show (0 : Int) < 65 by omega)
  have t5 := Int.tmod_lt_of_pos v (show (0 : Int) < 65 by omega)
  have t6 := Int.lt_tmod_of_pos v (show (0 : Int) < 65 by omega)
  have w1 : IntKind.i64.wrap (u.tdiv 65) = u.tdiv 65 := wrap_small (by omega) (by omega)
  have w2 : IntKind.i64.wrap (v.tdiv 65) = v.tdiv 65 := wrap_small (by omega) (by omega)
  by_cases k1 : u.tmod 65 = 0
  · by_cases k2 : v.tmod 65 = 0
    · rw [pc_eq]; simp +contextual -implicitDefEqProofs (maxSteps := 2000000) only [go_sem, ↓reduceIte, Nat.reduceAdd, Nat.reduceMul, Nat.reduceSub, Nat.reduceEqDiff, Nat.reduceLeDiff, Nat.reduceDiv, Nat.reduceMod, Nat.reduceBEq, Nat.reduceBNe, reduceCtorEq, Int.reduceLE, Int.reduceLT, Int.reduceToNat, Int.reduceNeg, Nat.reduceLT, Int.reduceEq, Int.reduceSub, Int.reduceAdd, Int.reduceMul, Nat.reducePow, Int.reduceBEq, Int.reduceBNe, Int.reduceMod, E_94, A94, h, k1, k2, w1, w2, decide_true, Bool.and_true, bne_self_eq_false]
    · have k2' : (v.tmod 65 != 0) = true := by simpa using k2
      rw [pc_eq]; simp +contextual -implicitDefEqProofs (maxSteps := 2000000) only [go_sem, ↓reduceIte, Nat.reduceAdd, Nat.reduceMul, Nat.reduceSub, Nat.reduceEqDiff, Nat.reduceLeDiff, Nat.reduceDiv, Nat.reduceMod, Nat.reduceBEq, Nat.reduceBNe, reduceCtorEq, Int.reduceLE, Int.reduceLT, Int.reduceToNat, Int.reduceNeg, Nat.reduceLT, Int.reduceEq, Int.reduceSub, Int.reduceAdd, Int.reduceMul, Nat.reducePow, Int.reduceBEq, Int.reduceBNe, Int.reduceMod, E_94, A94, h, k1, k2, k2', w1, w2, decide_true, decide_false, Bool.and_false, bne_self_eq_false]
  · have k1' : (u.tmod 65 != 0) = true := by simpa using k1
    rw [pc_eq]; simp +contextual -implicitDefEqProofs (maxSteps := 2000000) only [go_sem, ↓reduceIte, Nat.reduceAdd, Nat.reduceMul, Nat.reduceSub, Nat.reduceEqDiff, Nat.reduceLeDiff, Nat.reduceDiv, Nat.reduceMod, Nat.reduceBEq, Nat.reduceBNe, reduceCtorEq, Int.reduceLE, Int.reduceLT, Int.reduceToNat, Int.reduceNeg, Nat.reduceLT, Int.reduceEq, Int.reduceSub, Int.reduceAdd, Int.reduceMul, Nat.reducePow, Int.reduceBEq, Int.reduceBNe, Int.reduceMod, E_94, A94, h, k1, k1', w1, w2, decide_true, decide_false, Bool.false_and, bne_self_eq_false]
abbrev FR43 (l : List Pt) : List Env := [[(9, .fn (Fn.func 93) [] [.ptr 768 0, .ptr 1536 0]), (8, .vs (l.map c2)), (0, .vs (l.map c2)), (3, .ptr 768 0), (6, .ptr 1536 0)]]
def Bd9 (l : List Pt) : Prop := ∀ p ∈ l, (-1000000000 ≤ p.1 ∧ p.1 ≤ 1000000000) ∧ (-1000000000 ≤ p.2 ∧ p.2 ≤ 1000000000)
theorem lp43 (l : List Pt) (hl : l.length ≤ 1000000000) (hb : Bd9 l) (q : Int) : (K E A92_L0 ⟨[(1, .fn (Fn.func 93) [] [.ptr 768 0, .ptr 1536 0]), (5, .bs 1049856 0 0), (8, .vs (l.map c2)), (9, .int .i64 l.length), (10, .int .i64 0)], FR43 l, [(1049856, .row 2 []), (1049600, .row 2 []), (1536, .box [.bool true]), (1024, .row 2 []), (768, .box [.int .i64 q])], 1⟩).bind (blockR 0 (some [5]) [7, 17, 18]) =
    some (.ex .nrm ⟨[(5, .bs 1049856 0 (l.map fun p => c2 (rzP q p)).length)], FR43 l, [(1049856, .row 2 (l.map fun p => c2 (rzP q p))), (1049600, .row 2 []), (1536, .box [.bool (l.all (exB q))]), (1024, .row 2 []), (768, .box [.int .i64 q])], 1⟩) := by
  have lp := loop_idx (σ := Unit) (fun S => (K E A92_L0 S).bind (blockR 0 (some [5]) [7, 17, 18]))
    (fun k _ => ⟨[(1, .fn (Fn.func 93) [] [.ptr 768 0, .ptr 1536 0]), (5, .bs 1049856 0 ((l.take k).map fun p => c2 (rzP q p)).length), (8, .vs (l.map c2)), (9, .int .i64 l.length), (10, .int .i64 k)], FR43 l, [(1049856, .row 2 ((l.take k).map fun p => c2 (rzP q p))), (1049600, .row 2 []), (1536, .box [.bool ((l.take k).all (exB q))]), (1024, .row 2 []), (768, .box [.int .i64 q])], 1⟩)
    l.length (fun _ _ => True)
    (fun _ _ => some (.ex .nrm ⟨[(5, .bs 1049856 0 (l.map fun p => c2 (rzP q p)).length)], FR43 l, [(1049856, .row 2 (l.map fun p => c2 (rzP q p))), (1049600, .row 2 []), (1536, .box [.bool (l.all (exB q))]), (1024, .row 2 []), (768, .box [.int .i64 q])], 1⟩))
    (fun _ _ => by
      show (K E A92_L0 _).bind _ = _
      rw [List.take_length, A92_L0_eq]; simp +contextual -implicitDefEqProofs (maxSteps := 2000000) only [go_sem, ↓reduceIte, Nat.reduceAdd, Nat.reduceMul, Nat.reduceSub, Nat.reduceEqDiff, Nat.reduceLeDiff, Nat.reduceDiv, Nat.reduceMod, Nat.reduceBEq, Nat.reduceBNe, reduceCtorEq, Int.reduceLE, Int.reduceLT, Int.reduceToNat, Int.reduceNeg, Nat.reduceLT, Int.reduceEq, Int.reduceSub, Int.reduceAdd, Int.reduceMul, Nat.reducePow, Int.reduceBEq, Int.reduceBNe, Int.reduceMod, A92_L0b, Int.lt_irrefl])
    (fun k x hk _ => .inr ⟨(), trivial, by
      have hget : l[k]? = some (l[k]'hk) := List.getElem?_eq_getElem _
      have ht : l.take (k + 1) = l.take k ++ [l[k]'hk] := by rw [List.take_add_one, hget]; rfl
      have hm : l[k]'hk ∈ l := List.getElem_mem hk
      rw [ht, List.map_append, List.all_append]
      generalize l[k]'hk = p at *
      have g1 := get_c2 hget
      have h1 : (k : Int) < l.length := by omega
      have h0 : (0 : Int) ≤ k := by omega
      have hw := wr_k (k := k) (by omega)
      obtain ⟨bx, by_⟩ := hb p hm
      obtain ⟨x, y⟩ := p
      have o1 := c94 x y q bx by_
      have hr : ((l.take k).map (fun p => c2 (rzP q p))).length ≤ 999999999 := by rw [List.length_map, List.length_take]; omega
      generalize (l.take k).map (fun p => c2 (rzP q p)) = rows at *
      generalize (l.take k).all (exB q) = bb at *
      simp only [List.all_cons, List.all_nil, List.map_cons, List.map_nil, Bool.and_true]
      generalize rzP q (x, y) = z at *
      generalize exB q (x, y) = ee at *
      obtain ⟨zx, zy⟩ := z
      show (K E A92_L0 _).bind _ = (K E A92_L0 _).bind _
      conv => lhs; rw [A92_L0_eq]
      cases bb <;> simp +contextual -implicitDefEqProofs (maxSteps := 2000000) only [go_sem, ↓reduceIte, Nat.reduceAdd, Nat.reduceMul, Nat.reduceSub, Nat.reduceEqDiff, Nat.reduceLeDiff, Nat.reduceDiv, Nat.reduceMod, Nat.reduceBEq, Nat.reduceBNe, reduceCtorEq, Int.reduceLE, Int.reduceLT, Int.reduceToNat, Int.reduceNeg, Nat.reduceLT, Int.reduceEq, Int.reduceSub, Int.reduceAdd, Int.reduceMul, Nat.reducePow, Int.reduceBEq, Int.reduceBNe, Int.reduceMod, FR43, A92_L0b, List.length_map, h0, h1, g1, hw, hr, o1, E_93, A93, c2, List.length_append, Bool.true_and, Bool.false_and], rfl⟩) 0 () (by omega) trivial
  simp only [Int.natCast_zero, Int.ofNat_zero, List.take_zero, List.map_nil, List.length_nil, List.all_nil] at lp
  exact lp
theorem c65 (l : List Pt) (hl : l.length ≤ 1000000000) (hb : Bd9 l) (q : Int) : pc E 65 [.vs (l.map c2), .int .i64 q] = some (.tup [if l.all (exB q) = true then .vs ((l.map (rqP q)).map c2) else .os 2 [], .bool (l.all (exB q))]) := by
  have lp := lp43 l hl hb q
  simp only [FR43] at lp
  cases ha : l.all (exB q) with
  | false =>
    rw [ha] at lp
    rw [pc_eq]; simp +contextual -implicitDefEqProofs (maxSteps := 2000000) only [go_sem, ↓reduceIte, Nat.reduceAdd, Nat.reduceMul, Nat.reduceSub, Nat.reduceEqDiff, Nat.reduceLeDiff, Nat.reduceDiv, Nat.reduceMod, Nat.reduceBEq, Nat.reduceBNe, reduceCtorEq, Int.reduceLE, Int.reduceLT, Int.reduceToNat, Int.reduceNeg, Nat.reduceLT, Int.reduceEq, Int.reduceSub, Int.reduceAdd, Int.reduceMul, Nat.reducePow, Int.reduceBEq, Int.reduceBNe, Int.reduceMod, E_65, A65, E_92, A92, List.length_map, lp]
  | true =>
    rw [ha] at lp
    have e : (l.map fun p => c2 (rzP q p)) = (l.map (rqP q)).map c2 := by
      rw [List.map_map]
      refine List.map_congr_left fun p hp => ?_
      have := List.all_eq_true.1 ha p hp
      simp only [Function.comp_apply, rzP, if_pos this]
    rw [e] at lp
    have ht : List.take l.length ((l.map (rqP q)).map c2) = (l.map (rqP q)).map c2 := List.take_of_length_le (by simp)
    rw [pc_eq]; simp +contextual -implicitDefEqProofs (maxSteps := 2000000) only [go_sem, ↓reduceIte, Nat.reduceAdd, Nat.reduceMul, Nat.reduceSub, Nat.reduceEqDiff, Nat.reduceLeDiff, Nat.reduceDiv, Nat.reduceMod, Nat.reduceBEq, Nat.reduceBNe, reduceCtorEq, Int.reduceLE, Int.reduceLT, Int.reduceToNat, Int.reduceNeg, Nat.reduceLT, Int.reduceEq, Int.reduceSub, Int.reduceAdd, Int.reduceMul, Nat.reducePow, Int.reduceBEq, Int.reduceBNe, Int.reduceMod, E_65, A65, E_92, A92, List.length_map, lp, ht]
theorem c96 (l : List Pt) : pc E 96 [.vs (l.map c2)] = some (.fn (.func 112) [] [.fp [.vs (l.map c2)]]) := by
  have h := cl_c2 l
  rw [pc_eq]; simp +contextual -implicitDefEqProofs (maxSteps := 2000000) only [go_sem, ↓reduceIte, Nat.reduceAdd, Nat.reduceMul, Nat.reduceSub, Nat.reduceEqDiff, Nat.reduceLeDiff, Nat.reduceDiv, Nat.reduceMod, Nat.reduceBEq, Nat.reduceBNe, reduceCtorEq, Int.reduceLE, Int.reduceLT, Int.reduceToNat, Int.reduceNeg, Nat.reduceLT, Int.reduceEq, Int.reduceSub, Int.reduceAdd, Int.reduceMul, Nat.reducePow, Int.reduceBEq, Int.reduceBNe, Int.reduceMod, E_96, A96, h]
abbrev FR47 (l : List Pt) : Env := [(3, .ptr 768 0), (4, .ptr 1024 0), (5, .ptr 1280 0), (9, .fn (Fn.func 112) [] [.fp [.vs (l.map c2)]])]
theorem c97 (p q : List Pt) (hq : q.length ≤ 1000000000) (i : Int) : pc E 97 [.vs (p.map c2), .int .i64 i, .vs (q.map c2)] = some (.bool (insB p i q)) := by
  unfold insB
  by_cases h1 : 0 ≤ i
  · by_cases h2 : i < p.length
    · have hi : i.toNat < p.length := by omega
      have g := get_c2 (ptn_get hi)
      have o1 := c33 q hq (ptn p i.toNat).1 (ptn p i.toNat).2
      rw [show ((ptn p i.toNat).1, (ptn p i.toNat).2) = ptn p i.toNat from rfl] at o1
      have e : ((i.toNat : Nat) : Int) = i := by omega
      generalize locI q (ptn p i.toNat) = lo at *
      have hn : (lo != -1) = decide (lo ≠ -1) := by rw [bne, Bool.beq_eq_decide_eq, decide_not]
      rw [pc_eq]; simp +contextual -implicitDefEqProofs (maxSteps := 2000000) only [go_sem, ↓reduceIte, Nat.reduceAdd, Nat.reduceMul, Nat.reduceSub, Nat.reduceEqDiff, Nat.reduceLeDiff, Nat.reduceDiv, Nat.reduceMod, Nat.reduceBEq, Nat.reduceBNe, reduceCtorEq, Int.reduceLE, Int.reduceLT, Int.reduceToNat, Int.reduceNeg, Nat.reduceLT, Int.reduceEq, Int.reduceSub, Int.reduceAdd, Int.reduceMul, Nat.reducePow, Int.reduceBEq, Int.reduceBNe, Int.reduceMod, E_97, A97, h1, h2, List.length_map, g, e, o1, hn, decide_true, Bool.true_and]
    · rw [pc_eq]; simp +contextual -implicitDefEqProofs (maxSteps := 2000000) only [go_sem, ↓reduceIte, Nat.reduceAdd, Nat.reduceMul, Nat.reduceSub, Nat.reduceEqDiff, Nat.reduceLeDiff, Nat.reduceDiv, Nat.reduceMod, Nat.reduceBEq, Nat.reduceBNe, reduceCtorEq, Int.reduceLE, Int.reduceLT, Int.reduceToNat, Int.reduceNeg, Nat.reduceLT, Int.reduceEq, Int.reduceSub, Int.reduceAdd, Int.reduceMul, Nat.reducePow, Int.reduceBEq, Int.reduceBNe, Int.reduceMod, E_97, A97, h1, h2, List.length_map, decide_true, decide_false, Bool.true_and, Bool.false_and]
  · rw [pc_eq]; simp +contextual -implicitDefEqProofs (maxSteps := 2000000) only [go_sem, ↓reduceIte, Nat.reduceAdd, Nat.reduceMul, Nat.reduceSub, Nat.reduceEqDiff, Nat.reduceLeDiff, Nat.reduceDiv, Nat.reduceMod, Nat.reduceBEq, Nat.reduceBNe, reduceCtorEq, Int.reduceLE, Int.reduceLT, Int.reduceToNat, Int.reduceNeg, Nat.reduceLT, Int.reduceEq, Int.reduceSub, Int.reduceAdd, Int.reduceMul, Nat.reducePow, Int.reduceBEq, Int.reduceBNe, Int.reduceMod, E_97, A97, h1, List.length_map, decide_true, decide_false, Bool.false_and]
abbrev FR17 (a : List Pt) : Env := [(0, .vs (a.map c2)), (3, .ptr 768 0), (4, .ptr 1024 0), (5, .ptr 1280 0), (13, .fn (Fn.func 112) [] [.fp [.vs (a.map c2)]])]
abbrev FI17 (b : List Pt) : Env := [(4, .ptr 1024 0), (5, .ptr 1280 0), (6, .ptr 2098688 0), (7, .ptr 2098944 0), (17, .fn (Fn.func 112) [] [.fp [.vs (b.map c2)]])]
abbrev FF17 (a b : List Pt) (k ax ay bx by_ k1 : Int) (k1m : Nat) : List Env := [FI17 b, [(0, .yl 3121153)], [(0, .yl 1024000)], [(23, .agg [.int .i64 ax, .int .i64 ay, .int .i64 bx, .int .i64 by_]), (22, .agg [.int .i64 bx, .int .i64 by_]), (21, .fp [.int .i64 bx, .int .i64 by_]), (20, .int .i64 k1m), (19, .int .i64 a.length), (18, .vs (a.map c2)), (17, .int .i64 k1), (16, .int .i64 k), (15, .vs (a.map c2)), (14, .agg [.int .i64 ax, .int .i64 ay]), (13, .int .i64 k), (12, .yl 1024000), (0, .yl 1024000), (1, .fp [.vs (a.map c2)]), (3, .int .i64 k), (4, .ptr 1049600 0), (5, .vs (a.map c2)), (6, .int .i64 a.length), (7, .int .i64 k)], FR17 a, [(0, .yl 1024000)]]
abbrev OO17 (a b : List Pt) (k ax ay bx by_ : Int) (st : LSt) (pe : AEx) (ok : Bool) (c0 c1 c2' : Int) : Heap := [(3121153, .loop (FI17 b) [18, 19] A69_R2a A69_R2b st pe), (2098944, .box [.int .i64 ax, .int .i64 ay, .int .i64 bx, .int .i64 by_]), (2098688, .box [.int .i64 k]), (1049600, .box [.int .i64 ax, .int .i64 ay]), (1024000, .loop (FR17 a) [14, 15] A69_R3a A69_R3b LSt.busy AEx.nrm), (1280, .box [.bool ok]), (1024, .box [.int .i64 c0, .int .i64 c1, .int .i64 c2']), (768, .box [.vs (b.map c2)])]
theorem in17 (a b : List Pt) (hb : b.length ≤ 1000000000) (k : Nat) (ax ay bx by_ k1 : Int) (k1m : Nat) (he : edn a k = ((ax, ay), (bx, by_))) :
    (∀ j, fcJ a b k = some j → (K E A112_L0 ⟨[(0, .yl 3121153), (1, .fp [.vs (b.map c2)]), (5, .vs (b.map c2)), (6, .int .i64 b.length), (7, .int .i64 0)], FF17 a b k ax ay bx by_ k1 k1m, OO17 a b k ax ay bx by_ .ready .nrm false 0 0 0, 3⟩).bind (blockR 0 (some []) [3, 4, 24]) =
      some (.ex .ret ⟨[(0, .yl 3121153), (1, .fp [.vs (b.map c2)]), (5, .vs (b.map c2)), (6, .int .i64 b.length), (7, .int .i64 j), (25, .bool true)], FF17 a b k ax ay bx by_ k1 k1m, OO17 a b k ax ay bx by_ .done .ret true 1 k j, 3⟩)) ∧
    (fcJ a b k = none → (K E A112_L0 ⟨[(0, .yl 3121153), (1, .fp [.vs (b.map c2)]), (5, .vs (b.map c2)), (6, .int .i64 b.length), (7, .int .i64 0)], FF17 a b k ax ay bx by_ k1 k1m, OO17 a b k ax ay bx by_ .ready .nrm false 0 0 0, 3⟩).bind (blockR 0 (some []) [3, 4, 24]) =
      some (.ex .nrm ⟨[], FF17 a b k ax ay bx by_ k1 k1m, OO17 a b k ax ay bx by_ .ready .nrm false 0 0 0, 3⟩)) := by
  have lp := loop_first (fun S => (K E A112_L0 S).bind (blockR 0 (some []) [3, 4, 24]))
    (fun j => ⟨[(0, .yl 3121153), (1, .fp [.vs (b.map c2)]), (5, .vs (b.map c2)), (6, .int .i64 b.length), (7, .int .i64 j)], FF17 a b k ax ay bx by_ k1 k1m, OO17 a b k ax ay bx by_ .ready .nrm false 0 0 0, 3⟩)
    b.length (fun j => cutE (edn a k) (edn b j))
    (fun j o => o = some (.ex .ret ⟨[(0, .yl 3121153), (1, .fp [.vs (b.map c2)]), (5, .vs (b.map c2)), (6, .int .i64 b.length), (7, .int .i64 j), (25, .bool true)], FF17 a b k ax ay bx by_ k1 k1m, OO17 a b k ax ay bx by_ .done .ret true 1 k j, 3⟩))
    (some (.ex .nrm ⟨[], FF17 a b k ax ay bx by_ k1 k1m, OO17 a b k ax ay bx by_ .ready .nrm false 0 0 0, 3⟩))
    (by
      show (K E A112_L0 _).bind _ = _
      rw [A112_L0_eq]; simp +contextual -implicitDefEqProofs (maxSteps := 2000000) only [go_sem, ↓reduceIte, Nat.reduceAdd, Nat.reduceMul, Nat.reduceSub, Nat.reduceEqDiff, Nat.reduceLeDiff, Nat.reduceDiv, Nat.reduceMod, Nat.reduceBEq, Nat.reduceBNe, reduceCtorEq, Int.reduceLE, Int.reduceLT, Int.reduceToNat, Int.reduceNeg, Nat.reduceLT, Int.reduceEq, Int.reduceSub, Int.reduceAdd, Int.reduceMul, Nat.reducePow, Int.reduceBEq, Int.reduceBNe, Int.reduceMod, A112_L0b, Int.lt_irrefl])
    (fun j hj => by
      rw [he]
      obtain ⟨_, g1, g2⟩ := eds_get (edn_get hj)
      have g1 := get_c2 g1
      have g2 := get_c2 g2
      obtain ⟨m1, m2, m3, m4, m5⟩ := mod_nat hj hb
      have hw := wr_k (k := j) (by omega)
      have h1 : (j : Int) < b.length := by omega
      have h0 : (0 : Int) ≤ j := by omega
      generalize edn b j = e at *
      obtain ⟨⟨cx, cy⟩, ⟨dx, dy⟩⟩ := e
      have o1 := c88 ax ay bx by_ cx cy dx dy
      unfold cutE
      simp only
      refine ⟨fun hp => ?_, fun hp => ?_⟩
      · rw [hp] at o1
        show (K E A112_L0 _).bind _ = _
        rw [A112_L0_eq]
        simp +contextual -implicitDefEqProofs (maxSteps := 2000000) only [go_sem, ↓reduceIte, Nat.reduceAdd, Nat.reduceMul, Nat.reduceSub, Nat.reduceEqDiff, Nat.reduceLeDiff, Nat.reduceDiv, Nat.reduceMod, Nat.reduceBEq, Nat.reduceBNe, reduceCtorEq, Int.reduceLE, Int.reduceLT, Int.reduceToNat, Int.reduceNeg, Nat.reduceLT, Int.reduceEq, Int.reduceSub, Int.reduceAdd, Int.reduceMul, Nat.reducePow, Int.reduceBEq, Int.reduceBNe, Int.reduceMod, OO17, FF17, FI17, FR17, A112_L0b, A69_R2a, A69_R2b, List.length_map, h0, h1, g1, g2, m1, m2, m3, m4, m5, hw, o1]
      · rw [hp] at o1
        show (K E A112_L0 _).bind _ = (K E A112_L0 _).bind _
        conv => lhs; rw [A112_L0_eq]
        simp +contextual -implicitDefEqProofs (maxSteps := 2000000) only [go_sem, ↓reduceIte, Nat.reduceAdd, Nat.reduceMul, Nat.reduceSub, Nat.reduceEqDiff, Nat.reduceLeDiff, Nat.reduceDiv, Nat.reduceMod, Nat.reduceBEq, Nat.reduceBNe, reduceCtorEq, Int.reduceLE, Int.reduceLT, Int.reduceToNat, Int.reduceNeg, Nat.reduceLT, Int.reduceEq, Int.reduceSub, Int.reduceAdd, Int.reduceMul, Nat.reducePow, Int.reduceBEq, Int.reduceBNe, Int.reduceMod, OO17, FF17, FI17, FR17, A112_L0b, A69_R2a, A69_R2b, List.length_map, h0, h1, g1, g2, m1, m2, m3, m4, m5, hw, o1])
  simp only [Int.natCast_zero, Int.ofNat_zero] at lp
  exact lp
abbrev O17 (b : List Pt) (ok : Bool) (c0 c1 c2' : Int) : Heap := [(1280, .box [.bool ok]), (1024, .box [.int .i64 c0, .int .i64 c1, .int .i64 c2']), (768, .box [.vs (b.map c2)])]
theorem out17 (a b : List Pt) (ha : a.length ≤ 1000000000) (hb : b.length ≤ 1000000000) :
    (∀ i, fcE a b = some i → ∀ j, fcJ a b i = some j → (K E A112_L0 ⟨[(0, .yl 1024000), (1, .fp [.vs (a.map c2)]), (5, .vs (a.map c2)), (6, .int .i64 a.length), (7, .int .i64 0)], [FR17 a, [(0, .yl 1024000)]], (1024000, .loop (FR17 a) [14, 15] A69_R3a A69_R3b LSt.ready AEx.nrm) :: O17 b false 0 0 0, 1⟩).bind (blockR 0 (some []) [3, 4, 24]) =
      some (.ex .ret ⟨[(0, .yl 1024000), (1, .fp [.vs (a.map c2)]), (5, .vs (a.map c2)), (6, .int .i64 a.length), (7, .int .i64 i), (25, .bool true)], [FR17 a, [(0, .yl 1024000)]], (1024000, .loop (FR17 a) [14, 15] A69_R3a A69_R3b LSt.done AEx.ret) :: O17 b true 1 i j, 1⟩)) ∧
    (fcE a b = none → (K E A112_L0 ⟨[(0, .yl 1024000), (1, .fp [.vs (a.map c2)]), (5, .vs (a.map c2)), (6, .int .i64 a.length), (7, .int .i64 0)], [FR17 a, [(0, .yl 1024000)]], (1024000, .loop (FR17 a) [14, 15] A69_R3a A69_R3b LSt.ready AEx.nrm) :: O17 b false 0 0 0, 1⟩).bind (blockR 0 (some []) [3, 4, 24]) =
      some (.ex .nrm ⟨[], [FR17 a, [(0, .yl 1024000)]], (1024000, .loop (FR17 a) [14, 15] A69_R3a A69_R3b LSt.ready AEx.nrm) :: O17 b false 0 0 0, 1⟩)) := by
  have h45 := c96 b
  have lp := loop_first (fun S => (K E A112_L0 S).bind (blockR 0 (some []) [3, 4, 24]))
    (fun k => ⟨[(0, .yl 1024000), (1, .fp [.vs (a.map c2)]), (5, .vs (a.map c2)), (6, .int .i64 a.length), (7, .int .i64 k)], [FR17 a, [(0, .yl 1024000)]], (1024000, .loop (FR17 a) [14, 15] A69_R3a A69_R3b LSt.ready AEx.nrm) :: O17 b false 0 0 0, 1⟩)
    a.length (fun i => (fcJ a b i).isSome)
    (fun i o => ∀ j, fcJ a b i = some j → o = some (.ex .ret ⟨[(0, .yl 1024000), (1, .fp [.vs (a.map c2)]), (5, .vs (a.map c2)), (6, .int .i64 a.length), (7, .int .i64 i), (25, .bool true)], [FR17 a, [(0, .yl 1024000)]], (1024000, .loop (FR17 a) [14, 15] A69_R3a A69_R3b LSt.done AEx.ret) :: O17 b true 1 i j, 1⟩))
    (some (.ex .nrm ⟨[], [FR17 a, [(0, .yl 1024000)]], (1024000, .loop (FR17 a) [14, 15] A69_R3a A69_R3b LSt.ready AEx.nrm) :: O17 b false 0 0 0, 1⟩))
    (by
      show (K E A112_L0 _).bind _ = _
      rw [A112_L0_eq]; simp +contextual -implicitDefEqProofs (maxSteps := 2000000) only [go_sem, ↓reduceIte, Nat.reduceAdd, Nat.reduceMul, Nat.reduceSub, Nat.reduceEqDiff, Nat.reduceLeDiff, Nat.reduceDiv, Nat.reduceMod, Nat.reduceBEq, Nat.reduceBNe, reduceCtorEq, Int.reduceLE, Int.reduceLT, Int.reduceToNat, Int.reduceNeg, Nat.reduceLT, Int.reduceEq, Int.reduceSub, Int.reduceAdd, Int.reduceMul, Nat.reducePow, Int.reduceBEq, Int.reduceBNe, Int.reduceMod, A112_L0b, Int.lt_irrefl])
    (fun k hk => by
      obtain ⟨_, g1, g2⟩ := eds_get (edn_get hk)
      have g1 := get_c2 g1
      have g2 := get_c2 g2
      obtain ⟨m1, m2, m3, m4, m5⟩ := mod_nat hk ha
      have hw := wr_k (k := k) (by omega)
      have h1 : (k : Int) < a.length := by omega
      have h0 : (0 : Int) ≤ k := by omega
      have q := in17 a b hb k (edn a k).1.1 (edn a k).1.2 (edn a k).2.1 (edn a k).2.2 (k + 1 : Nat) ((k + 1) % a.length) rfl
      generalize fcJ a b k = ff at *
      generalize edn a k = e at *
      obtain ⟨⟨ax, ay⟩, ⟨bx, by_⟩⟩ := e
      simp only at g1 g2 q
      cases ff with
      | some j =>
        refine ⟨fun _ j' hj => ?_, fun h => (by cases h)⟩
        cases hj
        have q := q.1 j rfl
        simp only [OO17, FF17, FI17, FR17, A69_R2a, A69_R2b, A69_R3a, A69_R3b, A69_R2] at q
        show (K E A112_L0 _).bind _ = _
        rw [A112_L0_eq]
        simp +contextual -implicitDefEqProofs (maxSteps := 2000000) only [go_sem, ↓reduceIte, Nat.reduceAdd, Nat.reduceMul, Nat.reduceSub, Nat.reduceEqDiff, Nat.reduceLeDiff, Nat.reduceDiv, Nat.reduceMod, Nat.reduceBEq, Nat.reduceBNe, reduceCtorEq, Int.reduceLE, Int.reduceLT, Int.reduceToNat, Int.reduceNeg, Nat.reduceLT, Int.reduceEq, Int.reduceSub, Int.reduceAdd, Int.reduceMul, Nat.reducePow, Int.reduceBEq, Int.reduceBNe, Int.reduceMod, O17, FR17, A112_L0b, A69_R2a, A69_R2b, A69_R3a, A69_R3b, A69_R2, List.length_map, h0, h1, g1, g2, m1, m2, m3, m4, m5, hw, h45, E_112, A112, q]
      | none =>
        refine ⟨fun h => (by cases h), fun _ => ?_⟩
        have q := q.2 rfl
        simp only [OO17, FF17, FI17, FR17, A69_R2a, A69_R2b, A69_R3a, A69_R3b, A69_R2] at q
        show (K E A112_L0 _).bind _ = (K E A112_L0 _).bind _
        conv => lhs; rw [A112_L0_eq]
        simp +contextual -implicitDefEqProofs (maxSteps := 2000000) only [go_sem, ↓reduceIte, Nat.reduceAdd, Nat.reduceMul, Nat.reduceSub, Nat.reduceEqDiff, Nat.reduceLeDiff, Nat.reduceDiv, Nat.reduceMod, Nat.reduceBEq, Nat.reduceBNe, reduceCtorEq, Int.reduceLE, Int.reduceLT, Int.reduceToNat, Int.reduceNeg, Nat.reduceLT, Int.reduceEq, Int.reduceSub, Int.reduceAdd, Int.reduceMul, Nat.reducePow, Int.reduceBEq, Int.reduceBNe, Int.reduceMod, O17, FR17, A112_L0b, A69_R2a, A69_R2b, A69_R3a, A69_R3b, A69_R2, List.length_map, h0, h1, g1, g2, m1, m2, m3, m4, m5, hw, h45, E_112, A112, q])
  simp only [Int.natCast_zero, Int.ofNat_zero] at lp
  exact lp
theorem l17_1 (a b : List Pt) (ha : a.length ≤ 1000000000) (hb : b.length ≤ 1000000000) :
    (∀ i, fcA a b = some i → (K E A69_L1 ⟨[(0, .vs (a.map c2)), (3, .ptr 768 0), (4, .ptr 1024 0), (5, .ptr 1280 0), (33, .int .i64 a.length), (34, .int .i64 0)], [], O17 b false 0 0 0, 0⟩).bind (blockR 4 (some [0, 3, 4, 5]) [40]) = some (.ex .ret ⟨[(4, .ptr 1024 0), (5, .ptr 1280 0)], [], O17 b true 2 i 0, 0⟩)) ∧
    (fcA a b = none → (K E A69_L1 ⟨[(0, .vs (a.map c2)), (3, .ptr 768 0), (4, .ptr 1024 0), (5, .ptr 1280 0), (33, .int .i64 a.length), (34, .int .i64 0)], [], O17 b false 0 0 0, 0⟩).bind (blockR 4 (some [0, 3, 4, 5]) [40]) = some (.ex .nrm ⟨[(0, .vs (a.map c2)), (3, .ptr 768 0), (4, .ptr 1024 0), (5, .ptr 1280 0)], [], O17 b false 0 0 0, 0⟩)) := by
  have lp := loop_first (fun S => (K E A69_L1 S).bind (blockR 4 (some [0, 3, 4, 5]) [40]))
    (fun k => ⟨[(0, .vs (a.map c2)), (3, .ptr 768 0), (4, .ptr 1024 0), (5, .ptr 1280 0), (33, .int .i64 a.length), (34, .int .i64 k)], [], O17 b false 0 0 0, 0⟩)
    a.length (fun i => insB a i b)
    (fun i o => o = some (.ex .ret ⟨[(4, .ptr 1024 0), (5, .ptr 1280 0)], [], O17 b true 2 i 0, 0⟩))
    (some (.ex .nrm ⟨[(0, .vs (a.map c2)), (3, .ptr 768 0), (4, .ptr 1024 0), (5, .ptr 1280 0)], [], O17 b false 0 0 0, 0⟩))
    (by
      show (K E A69_L1 _).bind _ = _
      rw [A69_L1_eq]; simp +contextual -implicitDefEqProofs (maxSteps := 2000000) only [go_sem, ↓reduceIte, Nat.reduceAdd, Nat.reduceMul, Nat.reduceSub, Nat.reduceEqDiff, Nat.reduceLeDiff, Nat.reduceDiv, Nat.reduceMod, Nat.reduceBEq, Nat.reduceBNe, reduceCtorEq, Int.reduceLE, Int.reduceLT, Int.reduceToNat, Int.reduceNeg, Nat.reduceLT, Int.reduceEq, Int.reduceSub, Int.reduceAdd, Int.reduceMul, Nat.reducePow, Int.reduceBEq, Int.reduceBNe, Int.reduceMod, A69_L1b, Int.lt_irrefl])
    (fun k hk => by
      have hw := wr_k (k := k) (by omega)
      have h1 : (k : Int) < a.length := by omega
      have o1 := c97 a b hb k
      refine ⟨fun hp => ?_, fun hp => ?_⟩
      · rw [hp] at o1
        show (K E A69_L1 _).bind _ = _
        rw [A69_L1_eq]
        simp +contextual -implicitDefEqProofs (maxSteps := 2000000) only [go_sem, ↓reduceIte, Nat.reduceAdd, Nat.reduceMul, Nat.reduceSub, Nat.reduceEqDiff, Nat.reduceLeDiff, Nat.reduceDiv, Nat.reduceMod, Nat.reduceBEq, Nat.reduceBNe, reduceCtorEq, Int.reduceLE, Int.reduceLT, Int.reduceToNat, Int.reduceNeg, Nat.reduceLT, Int.reduceEq, Int.reduceSub, Int.reduceAdd, Int.reduceMul, Nat.reducePow, Int.reduceBEq, Int.reduceBNe, Int.reduceMod, O17, A69_L1b, h1, hw, o1]
      · rw [hp] at o1
        show (K E A69_L1 _).bind _ = (K E A69_L1 _).bind _
        conv => lhs; rw [A69_L1_eq]
        simp +contextual -implicitDefEqProofs (maxSteps := 2000000) only [go_sem, ↓reduceIte, Nat.reduceAdd, Nat.reduceMul, Nat.reduceSub, Nat.reduceEqDiff, Nat.reduceLeDiff, Nat.reduceDiv, Nat.reduceMod, Nat.reduceBEq, Nat.reduceBNe, reduceCtorEq, Int.reduceLE, Int.reduceLT, Int.reduceToNat, Int.reduceNeg, Nat.reduceLT, Int.reduceEq, Int.reduceSub, Int.reduceAdd, Int.reduceMul, Nat.reducePow, Int.reduceBEq, Int.reduceBNe, Int.reduceMod, O17, A69_L1b, h1, hw, o1])
  simp only [Int.natCast_zero, Int.ofNat_zero] at lp
  exact lp
theorem l17_0 (a b : List Pt) (ha : a.length ≤ 1000000000) (hb : b.length ≤ 1000000000) :
    (∀ i, fcA b a = some i → (K E A69_L0 ⟨[(0, .vs (a.map c2)), (3, .ptr 768 0), (4, .ptr 1024 0), (5, .ptr 1280 0), (45, .int .i64 b.length), (46, .int .i64 0)], [], O17 b false 0 0 0, 0⟩).bind (blockR 6 (some [4, 5]) [52]) = some (.ex .ret ⟨[(4, .ptr 1024 0), (5, .ptr 1280 0)], [], O17 b true 3 0 i, 0⟩)) ∧
    (fcA b a = none → (K E A69_L0 ⟨[(0, .vs (a.map c2)), (3, .ptr 768 0), (4, .ptr 1024 0), (5, .ptr 1280 0), (45, .int .i64 b.length), (46, .int .i64 0)], [], O17 b false 0 0 0, 0⟩).bind (blockR 6 (some [4, 5]) [52]) = some (.ex .nrm ⟨[(4, .ptr 1024 0), (5, .ptr 1280 0)], [], O17 b false 0 0 0, 0⟩)) := by
  have lp := loop_first (fun S => (K E A69_L0 S).bind (blockR 6 (some [4, 5]) [52]))
    (fun k => ⟨[(0, .vs (a.map c2)), (3, .ptr 768 0), (4, .ptr 1024 0), (5, .ptr 1280 0), (45, .int .i64 b.length), (46, .int .i64 k)], [], O17 b false 0 0 0, 0⟩)
    b.length (fun i => insB b i a)
    (fun i o => o = some (.ex .ret ⟨[(4, .ptr 1024 0), (5, .ptr 1280 0)], [], O17 b true 3 0 i, 0⟩))
    (some (.ex .nrm ⟨[(4, .ptr 1024 0), (5, .ptr 1280 0)], [], O17 b false 0 0 0, 0⟩))
    (by
      show (K E A69_L0 _).bind _ = _
      rw [A69_L0_eq]; simp +contextual -implicitDefEqProofs (maxSteps := 2000000) only [go_sem, ↓reduceIte, Nat.reduceAdd, Nat.reduceMul, Nat.reduceSub, Nat.reduceEqDiff, Nat.reduceLeDiff, Nat.reduceDiv, Nat.reduceMod, Nat.reduceBEq, Nat.reduceBNe, reduceCtorEq, Int.reduceLE, Int.reduceLT, Int.reduceToNat, Int.reduceNeg, Nat.reduceLT, Int.reduceEq, Int.reduceSub, Int.reduceAdd, Int.reduceMul, Nat.reducePow, Int.reduceBEq, Int.reduceBNe, Int.reduceMod, A69_L0b, Int.lt_irrefl])
    (fun k hk => by
      have hw := wr_k (k := k) (by omega)
      have h1 : (k : Int) < b.length := by omega
      have o1 := c97 b a ha k
      refine ⟨fun hp => ?_, fun hp => ?_⟩
      · rw [hp] at o1
        show (K E A69_L0 _).bind _ = _
        rw [A69_L0_eq]
        simp +contextual -implicitDefEqProofs (maxSteps := 2000000) only [go_sem, ↓reduceIte, Nat.reduceAdd, Nat.reduceMul, Nat.reduceSub, Nat.reduceEqDiff, Nat.reduceLeDiff, Nat.reduceDiv, Nat.reduceMod, Nat.reduceBEq, Nat.reduceBNe, reduceCtorEq, Int.reduceLE, Int.reduceLT, Int.reduceToNat, Int.reduceNeg, Nat.reduceLT, Int.reduceEq, Int.reduceSub, Int.reduceAdd, Int.reduceMul, Nat.reducePow, Int.reduceBEq, Int.reduceBNe, Int.reduceMod, O17, A69_L0b, h1, hw, o1]
      · rw [hp] at o1
        show (K E A69_L0 _).bind _ = (K E A69_L0 _).bind _
        conv => lhs; rw [A69_L0_eq]
        simp +contextual -implicitDefEqProofs (maxSteps := 2000000) only [go_sem, ↓reduceIte, Nat.reduceAdd, Nat.reduceMul, Nat.reduceSub, Nat.reduceEqDiff, Nat.reduceLeDiff, Nat.reduceDiv, Nat.reduceMod, Nat.reduceBEq, Nat.reduceBNe, reduceCtorEq, Int.reduceLE, Int.reduceLT, Int.reduceToNat, Int.reduceNeg, Nat.reduceLT, Int.reduceEq, Int.reduceSub, Int.reduceAdd, Int.reduceMul, Nat.reducePow, Int.reduceBEq, Int.reduceBNe, Int.reduceMod, O17, A69_L0b, h1, hw, o1])
  simp only [Int.natCast_zero, Int.ofNat_zero] at lp
  exact lp
def conV : Option (Int × Int × Int) → LV
  | some (k, i, j) => .tup [.agg [.int .i64 k, .int .i64 i, .int .i64 j], .bool true]
  | none => .tup [.agg [.int .i64 0, .int .i64 0, .int .i64 0], .bool false]
theorem c69 (a b : List Pt) (ha : a.length ≤ 1000000000) (hb : b.length ≤ 1000000000) : pc E 69 [.vs (a.map c2), .vs (b.map c2)] = some (conV (FC a b)) := by
  have h45 := c96 a
  have q3 := out17 a b ha hb
  have q1 := l17_1 a b ha hb
  have q0 := l17_0 a b ha hb
  simp only [FR17, O17] at q3 q1 q0
  unfold FC
  cases h1 : fcE a b with
  | some i =>
    have hs : ∃ j, fcJ a b i = some j := by
      unfold fcE at h1
      rw [List.find?_range_eq_some] at h1
      exact Option.isSome_iff_exists.1 h1.1
    obtain ⟨j, hj⟩ := hs
    have q := q3.1 i h1 j hj
    simp only [hj, Option.map_some, conV]
    rw [pc_eq]; simp +contextual -implicitDefEqProofs (maxSteps := 2000000) only [go_sem, ↓reduceIte, Nat.reduceAdd, Nat.reduceMul, Nat.reduceSub, Nat.reduceEqDiff, Nat.reduceLeDiff, Nat.reduceDiv, Nat.reduceMod, Nat.reduceBEq, Nat.reduceBNe, reduceCtorEq, Int.reduceLE, Int.reduceLT, Int.reduceToNat, Int.reduceNeg, Nat.reduceLT, Int.reduceEq, Int.reduceSub, Int.reduceAdd, Int.reduceMul, Nat.reducePow, Int.reduceBEq, Int.reduceBNe, Int.reduceMod, E_69, A69, h45, E_112, A112, A69_R3, List.length_map, q]
  | none =>
    have q := q3.2 h1
    simp only
    cases h2 : fcA a b with
    | some i =>
      have r := q1.1 i h2
      simp only [conV]
      rw [pc_eq]; simp +contextual -implicitDefEqProofs (maxSteps := 2000000) only [go_sem, ↓reduceIte, Nat.reduceAdd, Nat.reduceMul, Nat.reduceSub, Nat.reduceEqDiff, Nat.reduceLeDiff, Nat.reduceDiv, Nat.reduceMod, Nat.reduceBEq, Nat.reduceBNe, reduceCtorEq, Int.reduceLE, Int.reduceLT, Int.reduceToNat, Int.reduceNeg, Nat.reduceLT, Int.reduceEq, Int.reduceSub, Int.reduceAdd, Int.reduceMul, Nat.reducePow, Int.reduceBEq, Int.reduceBNe, Int.reduceMod, E_69, A69, h45, E_112, A112, A69_R3, List.length_map, q, r]
    | none =>
      have r := q1.2 h2
      cases h3 : fcA b a with
      | some j =>
        have s := q0.1 j h3
        simp only [Option.map_some, conV]
        rw [pc_eq]; simp +contextual -implicitDefEqProofs (maxSteps := 2000000) only [go_sem, ↓reduceIte, Nat.reduceAdd, Nat.reduceMul, Nat.reduceSub, Nat.reduceEqDiff, Nat.reduceLeDiff, Nat.reduceDiv, Nat.reduceMod, Nat.reduceBEq, Nat.reduceBNe, reduceCtorEq, Int.reduceLE, Int.reduceLT, Int.reduceToNat, Int.reduceNeg, Nat.reduceLT, Int.reduceEq, Int.reduceSub, Int.reduceAdd, Int.reduceMul, Nat.reducePow, Int.reduceBEq, Int.reduceBNe, Int.reduceMod, E_69, A69, h45, E_112, A112, A69_R3, List.length_map, q, r, s]
      | none =>
        have s := q0.2 h3
        simp only [Option.map_none, conV]
        rw [pc_eq]; simp +contextual -implicitDefEqProofs (maxSteps := 2000000) only [go_sem, ↓reduceIte, Nat.reduceAdd, Nat.reduceMul, Nat.reduceSub, Nat.reduceEqDiff, Nat.reduceLeDiff, Nat.reduceDiv, Nat.reduceMod, Nat.reduceBEq, Nat.reduceBNe, reduceCtorEq, Int.reduceLE, Int.reduceLT, Int.reduceToNat, Int.reduceNeg, Nat.reduceLT, Int.reduceEq, Int.reduceSub, Int.reduceAdd, Int.reduceMul, Nat.reducePow, Int.reduceBEq, Int.reduceBNe, Int.reduceMod, E_69, A69, h45, E_112, A112, A69_R3, List.length_map, q, r, s]
theorem c37 (a b : List Pt) (ha : a.length ≤ 1000000000) (hb : b.length ≤ 1000000000) : pc E 37 [.vs (a.map c2), .vs (b.map c2)] = some (.bool (FC a b).isSome) := by
  have h := c69 a b ha hb
  cases hf : FC a b with
  | none => rw [hf] at h; simp only [conV] at h; rw [pc_eq]; simp +contextual -implicitDefEqProofs (maxSteps := 2000000) only [go_sem, ↓reduceIte, Nat.reduceAdd, Nat.reduceMul, Nat.reduceSub, Nat.reduceEqDiff, Nat.reduceLeDiff, Nat.reduceDiv, Nat.reduceMod, Nat.reduceBEq, Nat.reduceBNe, reduceCtorEq, Int.reduceLE, Int.reduceLT, Int.reduceToNat, Int.reduceNeg, Nat.reduceLT, Int.reduceEq, Int.reduceSub, Int.reduceAdd, Int.reduceMul, Nat.reducePow, Int.reduceBEq, Int.reduceBNe, Int.reduceMod, E_37, A37, h, Option.isSome_none]
  | some t => obtain ⟨k, i, j⟩ := t; rw [hf] at h; simp only [conV] at h; rw [pc_eq]; simp +contextual -implicitDefEqProofs (maxSteps := 2000000) only [go_sem, ↓reduceIte, Nat.reduceAdd, Nat.reduceMul, Nat.reduceSub, Nat.reduceEqDiff, Nat.reduceLeDiff, Nat.reduceDiv, Nat.reduceMod, Nat.reduceBEq, Nat.reduceBNe, reduceCtorEq, Int.reduceLE, Int.reduceLT, Int.reduceToNat, Int.reduceNeg, Nat.reduceLT, Int.reduceEq, Int.reduceSub, Int.reduceAdd, Int.reduceMul, Nat.reducePow, Int.reduceBEq, Int.reduceBNe, Int.reduceMod, E_37, A37, h, Option.isSome_some]
end Go.Proofs.Ytnecdcaaknhgpaa.G
