/- Part of the proof: what functions of the program compute, over the evaluation that the engine's texts tie to the machine. -/
import Derived.Test.YtjmnepfdhkabfaaDL5
namespace Go.Proofs.Ytjmnepfdhkabfaa
set_option maxRecDepth 100000
set_option maxHeartbeats 4000000
set_option linter.unusedSimpArgs false
set_option linter.unusedVariables false
open Go Go.Zv
theorem loop3a (s : List (List UInt8)) (hs : s.length ≤ 1000000000) (f t : Int) (w : Bool) (n l : LV) (m i : LV) :
    (K E A3_L1 ⟨[(0, n), (1, l), (3, m), (4, i), (7, .ptr 1792 0), (11, .bool true), (12, .int .i64 0)], [], [(1792, .box [sv s, .int .i64 f, .int .i64 t, .bool w])], 0⟩).bind (blockR 0 (some [0, 1, 3, 4, 7, 11]) [10, 12]) =
    if s.any (fun p => decide (100 < p.length)) = true then some (.ex .ret ⟨[(10, .bool true)], [], [(1792, .box [sv s, .int .i64 f, .int .i64 t, .bool w])], 0⟩) else
      some (.ex .nrm ⟨[(0, n), (1, l), (3, m), (4, i), (7, .ptr 1792 0), (11, .bool true)], [], [(1792, .box [sv s, .int .i64 f, .int .i64 t, .bool w])], 0⟩) := by
  refine loop_any (fun S => (K E A3_L1 S).bind (blockR 0 (some [0, 1, 3, 4, 7, 11]) [10, 12])) (fun k => ⟨[(0, n), (1, l), (3, m), (4, i), (7, .ptr 1792 0), (11, .bool true), (12, .int .i64 k)], [], [(1792, .box [sv s, .int .i64 f, .int .i64 t, .bool w])], 0⟩) s (fun p => decide (100 < p.length)) _ _ ?_ fun k p hk hg => ?_
  · show (K E A3_L1 _).bind _ = _
    rw [A3_L1_eq]
    simp +contextual -implicitDefEqProofs (maxSteps := 2000000) only [go_sem, ↓reduceIte, Nat.reduceAdd, Nat.reduceMul, Nat.reduceSub, Nat.reduceEqDiff, Nat.reduceLeDiff, Nat.reduceDiv, Nat.reduceMod, Nat.reduceBEq, Nat.reduceBNe, reduceCtorEq, Int.reduceLE, Int.reduceLT, Int.reduceToNat, Int.reduceNeg, Nat.reduceLT, Int.reduceEq, Int.reduceSub, Int.reduceAdd, Int.reduceMul, Nat.reducePow, Int.reduceBEq, Int.reduceBNe, Int.reduceMod, A3_L1b, List.length_map, Int.lt_irrefl]
  · show (K E A3_L1 _).bind _ = if _ then _ else (K E A3_L1 _).bind _
    have h1 : (k : Int) < s.length := by omega
    have h0 : (0 : Int) ≤ k := by omega
    have hw := wr_succ (n := k) (by omega)
    have hg := get_s1 hg
    conv => lhs; rw [A3_L1_eq]
    by_cases hp : 100 < p.length
    · have hp' : (100 : Int) < p.length := by omega
      simp +contextual -implicitDefEqProofs (maxSteps := 2000000) only [go_sem, ↓reduceIte, Nat.reduceAdd, Nat.reduceMul, Nat.reduceSub, Nat.reduceEqDiff, Nat.reduceLeDiff, Nat.reduceDiv, Nat.reduceMod, Nat.reduceBEq, Nat.reduceBNe, reduceCtorEq, Int.reduceLE, Int.reduceLT, Int.reduceToNat, Int.reduceNeg, Nat.reduceLT, Int.reduceEq, Int.reduceSub, Int.reduceAdd, Int.reduceMul, Nat.reducePow, Int.reduceBEq, Int.reduceBNe, Int.reduceMod, A3_L1b, List.length_map, h0, h1, hw, hg, hp, hp']
    · have hp' : ¬ (100 : Int) < p.length := by omega
      simp +contextual -implicitDefEqProofs (maxSteps := 2000000) only [go_sem, ↓reduceIte, Nat.reduceAdd, Nat.reduceMul, Nat.reduceSub, Nat.reduceEqDiff, Nat.reduceLeDiff, Nat.reduceDiv, Nat.reduceMod, Nat.reduceBEq, Nat.reduceBNe, reduceCtorEq, Int.reduceLE, Int.reduceLT, Int.reduceToNat, Int.reduceNeg, Nat.reduceLT, Int.reduceEq, Int.reduceSub, Int.reduceAdd, Int.reduceMul, Nat.reducePow, Int.reduceBEq, Int.reduceBNe, Int.reduceMod, A3_L1b, List.length_map, h0, h1, hw, hg, hp, hp']
theorem rdv_cases (s : List (List UInt8)) (w : Bool) (i : Int) : (∃ e, rdv s w i = .tup [.os 1 [], .int .i64 e]) ∨ ∃ p, rdv s w i = .tup [bv p, .int .i64 0] := by
  unfold rdv
  split
  · exact .inl ⟨_, rfl⟩
  · split
    · exact .inr ⟨_, rfl⟩
    · exact .inl ⟨_, rfl⟩
theorem loop3b (l : List Act) (hl : l.length ≤ 1000000000) (ha : ∀ a ∈ l, OKa a) (i : Int) (d : Dsk) (hd : OKd d) : ∃ d', OKd d' ∧
    (K E A3_L0 ⟨[(1, .vs (l.map a5)), (4, .int .i64 i), (11, .bool true), (17, .ptr 4352 0), (18, .int .i64 0)], [], [(4352, .box [sv d.sec, .int .i64 d.fuse, .int .i64 d.torn, .bool d.down]), (4353, .row 1 [])], 0⟩).bind (blockR 2 (some [4, 11, 17]) [10, 18, 19, 20, 21, 22, 23, 24, 25, 26, 96, 105, 114, 125, 135, 144]) =
    some (.ex .nrm ⟨[(4, .int .i64 i), (11, .bool true), (17, .ptr 4352 0)], [], [(4352, .box [sv d'.sec, .int .i64 d'.fuse, .int .i64 d'.torn, .bool d'.down]), (4353, .row 1 [])], 0⟩) := by
  have h := loop_inv (fun S => (K E A3_L0 S).bind (blockR 2 (some [4, 11, 17]) [10, 18, 19, 20, 21, 22, 23, 24, 25, 26, 96, 105, 114, 125, 135, 144]))
    (fun k d => ⟨[(1, .vs (l.map a5)), (4, .int .i64 i), (11, .bool true), (17, .ptr 4352 0), (18, .int .i64 k)], [], [(4352, .box [sv d.sec, .int .i64 d.fuse, .int .i64 d.torn, .bool d.down]), (4353, .row 1 [])], 0⟩) l.length (fun k d => OKd d) ?_ d hd
  · obtain ⟨d', h1, h2⟩ := h
    refine ⟨d', h1, h2.trans ?_⟩
    show (K E A3_L0 _).bind _ = _
    rw [A3_L0_eq]
    simp +contextual -implicitDefEqProofs (maxSteps := 2000000) only [go_sem, ↓reduceIte, Nat.reduceAdd, Nat.reduceMul, Nat.reduceSub, Nat.reduceEqDiff, Nat.reduceLeDiff, Nat.reduceDiv, Nat.reduceMod, Nat.reduceBEq, Nat.reduceBNe, reduceCtorEq, Int.reduceLE, Int.reduceLT, Int.reduceToNat, Int.reduceNeg, Nat.reduceLT, Int.reduceEq, Int.reduceSub, Int.reduceAdd, Int.reduceMul, Nat.reducePow, Int.reduceBEq, Int.reduceBNe, Int.reduceMod, A3_L0b, List.length_map, Int.lt_irrefl]
  · intro k d hk hd
    have hget : l[k]? = some (l[k]'hk) := List.getElem?_eq_getElem _
    have hp := ha _ (List.getElem_mem hk)
    generalize l[k]'hk = p at *
    have hg := get_a5 hget
    have hw := wr_succ (n := k) (by omega)
    have h1 : (k : Int) < l.length := by omega
    have h0 : (0 : Int) ≤ k := by omega
    have c1 := c23 d hd p hp
    have c2 := c24 d hd p hp
    have hu := ok_ac hd hp
    have s1 := c19 (ac d p).1 (ac d p).1 (by have := hu.len2; omega)
    rw [sameB_self] at s1
    generalize ac d p = ue at *
    obtain ⟨⟨us, uf, ut, uw⟩, e⟩ := ue
    obtain ⟨s, f, t, w⟩ := d
    obtain ⟨pk, pi, pn, pt, pd⟩ := p
    simp only at *
    have r1 := c25 us uf ut uw pi
    have r2 := c26 us uf ut uw pi
    refine ⟨⟨us, uf, ut, uw⟩, hu, ?_⟩
    show (K E A3_L0 _).bind _ = (K E A3_L0 _).bind _
    conv => lhs; rw [A3_L0_eq]
    rcases rdv_cases us uw pi with ⟨e', he⟩ | ⟨q, he⟩ <;> rw [he] at r1 r2
    · have c0 := c27 [] []
      rw [beq_self_eq_true, bv, List.map_nil] at c0
      simp +contextual -implicitDefEqProofs (maxSteps := 2000000) only [go_sem, ↓reduceIte, Nat.reduceAdd, Nat.reduceMul, Nat.reduceSub, Nat.reduceEqDiff, Nat.reduceLeDiff, Nat.reduceDiv, Nat.reduceMod, Nat.reduceBEq, Nat.reduceBNe, reduceCtorEq, Int.reduceLE, Int.reduceLT, Int.reduceToNat, Int.reduceNeg, Nat.reduceLT, Int.reduceEq, Int.reduceSub, Int.reduceAdd, Int.reduceMul, Nat.reducePow, Int.reduceBEq, Int.reduceBNe, Int.reduceMod, A3_L0b, List.length_map, h0, h1, hw, hg, c1, c2, s1, r1, r2, c0, bne_self_eq_false]
    · have c0 := c27 q q
      rw [beq_self_eq_true] at c0
      simp +contextual -implicitDefEqProofs (maxSteps := 2000000) only [go_sem, ↓reduceIte, Nat.reduceAdd, Nat.reduceMul, Nat.reduceSub, Nat.reduceEqDiff, Nat.reduceLeDiff, Nat.reduceDiv, Nat.reduceMod, Nat.reduceBEq, Nat.reduceBNe, reduceCtorEq, Int.reduceLE, Int.reduceLT, Int.reduceToNat, Int.reduceNeg, Nat.reduceLT, Int.reduceEq, Int.reduceSub, Int.reduceAdd, Int.reduceMul, Nat.reducePow, Int.reduceBEq, Int.reduceBNe, Int.reduceMod, A3_L0b, List.length_map, h0, h1, hw, hg, c1, c2, s1, r1, r2, c0, bne_self_eq_false]
theorem law3 (n : Nat) (hn : n ≤ 255) (l : List Act) (hl : l.length ≤ 1000000000) (ha : ∀ a ∈ l, OKa a) (s : List (List UInt8)) (hs : s.length ≤ 1000000000) (f t : Int) (w : Bool) (m i : Int) :
    pc E 3 [.int .u8 n, .vs (l.map a5), .agg [sv s, .int .i64 f, .int .i64 t, .bool w], .int .i64 m, .int .i64 i] = some (.bool true) := by
  have h1 := c16 l (by omega)
  cases g1 : gr l with
  | true => rw [g1] at h1; rw [pc_eq]; simp +contextual -implicitDefEqProofs (maxSteps := 2000000) only [go_sem, ↓reduceIte, Nat.reduceAdd, Nat.reduceMul, Nat.reduceSub, Nat.reduceEqDiff, Nat.reduceLeDiff, Nat.reduceDiv, Nat.reduceMod, Nat.reduceBEq, Nat.reduceBNe, reduceCtorEq, Int.reduceLE, Int.reduceLT, Int.reduceToNat, Int.reduceNeg, Nat.reduceLT, Int.reduceEq, Int.reduceSub, Int.reduceAdd, Int.reduceMul, Nat.reducePow, Int.reduceBEq, Int.reduceBNe, Int.reduceMod, E_3, A3, c15, h1]
  | false =>
    rw [g1] at h1
    by_cases h2 : (70 : Int) < s.length
    · rw [pc_eq]; simp +contextual -implicitDefEqProofs (maxSteps := 2000000) only [go_sem, ↓reduceIte, Nat.reduceAdd, Nat.reduceMul, Nat.reduceSub, Nat.reduceEqDiff, Nat.reduceLeDiff, Nat.reduceDiv, Nat.reduceMod, Nat.reduceBEq, Nat.reduceBNe, reduceCtorEq, Int.reduceLE, Int.reduceLT, Int.reduceToNat, Int.reduceNeg, Nat.reduceLT, Int.reduceEq, Int.reduceSub, Int.reduceAdd, Int.reduceMul, Nat.reducePow, Int.reduceBEq, Int.reduceBNe, Int.reduceMod, E_3, A3, c15, h1, h2, List.length_map]
    have lp := loop3a s hs f t w (.int .u8 n) (.vs (l.map a5)) (.int .i64 m) (.int .i64 i)
    cases g2 : s.any (fun p => decide (100 < p.length)) with
    | true => rw [g2] at lp; rw [pc_eq]; simp +contextual -implicitDefEqProofs (maxSteps := 2000000) only [go_sem, ↓reduceIte, Nat.reduceAdd, Nat.reduceMul, Nat.reduceSub, Nat.reduceEqDiff, Nat.reduceLeDiff, Nat.reduceDiv, Nat.reduceMod, Nat.reduceBEq, Nat.reduceBNe, reduceCtorEq, Int.reduceLE, Int.reduceLT, Int.reduceToNat, Int.reduceNeg, Nat.reduceLT, Int.reduceEq, Int.reduceSub, Int.reduceAdd, Int.reduceMul, Nat.reducePow, Int.reduceBEq, Int.reduceBNe, Int.reduceMod, E_3, A3, c15, h1, h2, List.length_map, lp]
    | false =>
      rw [g2] at lp
      have h5 := c20 s f t w
      have h6 := c21 s f t w
      have h7 := c22 n hn
      have hd := ok_mk (1 + n % 6) (by omega) (by omega)
      generalize mk (1 + n % 6) = d at *
      obtain ⟨d', hd', lp2⟩ := loop3b l hl ha i d hd
      have r1 := c25 d'.sec d'.fuse d'.torn d'.down i
      have r2 := c26 d'.sec d'.fuse d'.torn d'.down i
      have h3 : ∃ a e, pc E 17 [.int .i64 m] = some (.tup [dv a, .int .i64 e]) ∧ pc E 18 [.int .i64 m] = some (.tup [dv a, .int .i64 e]) ∧ a.sec.length ≤ 1000000000 := by
        by_cases hm : m < 1 ∨ 64 < m
        · exact ⟨⟨[], 0, 0, false⟩, 1, c17b m hm, c18b m hm, by simp⟩
        · obtain ⟨k, rfl⟩ : ∃ k : Nat, m = k := ⟨m.toNat, by omega⟩
          exact ⟨mk k, 0, c17 k (by omega) (by omega), c18 k (by omega) (by omega), by simp [mk]; omega⟩
      obtain ⟨a, e, h3, h4, hal⟩ := h3
      have h8 := c19 a a hal
      rw [sameB_self] at h8
      rcases rdv_cases d'.sec d'.down i with ⟨e', he⟩ | ⟨q, he⟩ <;> rw [he] at r1 r2
      · have c0 := c27 [] []
        rw [beq_self_eq_true, bv, List.map_nil] at c0
        cases g3 : vd s f t <;> rw [g3] at h5 h6 <;> rw [pc_eq] <;> simp +contextual -implicitDefEqProofs (maxSteps := 2000000) only [go_sem, ↓reduceIte, Nat.reduceAdd, Nat.reduceMul, Nat.reduceSub, Nat.reduceEqDiff, Nat.reduceLeDiff, Nat.reduceDiv, Nat.reduceMod, Nat.reduceBEq, Nat.reduceBNe, reduceCtorEq, Int.reduceLE, Int.reduceLT, Int.reduceToNat, Int.reduceNeg, Nat.reduceLT, Int.reduceEq, Int.reduceSub, Int.reduceAdd, Int.reduceMul, Nat.reducePow, Int.reduceBEq, Int.reduceBNe, Int.reduceMod, E_3, A3, c15, h1, h2, List.length_map, lp, h3, h4, h5, h6, h7, h8, bne_self_eq_false, lp2, r1, r2, c0]
      · have c0 := c27 q q
        rw [beq_self_eq_true] at c0
        cases g3 : vd s f t <;> rw [g3] at h5 h6 <;> rw [pc_eq] <;> simp +contextual -implicitDefEqProofs (maxSteps := 2000000) only [go_sem, ↓reduceIte, Nat.reduceAdd, Nat.reduceMul, Nat.reduceSub, Nat.reduceEqDiff, Nat.reduceLeDiff, Nat.reduceDiv, Nat.reduceMod, Nat.reduceBEq, Nat.reduceBNe, reduceCtorEq, Int.reduceLE, Int.reduceLT, Int.reduceToNat, Int.reduceNeg, Nat.reduceLT, Int.reduceEq, Int.reduceSub, Int.reduceAdd, Int.reduceMul, Nat.reducePow, Int.reduceBEq, Int.reduceBNe, Int.reduceMod, E_3, A3, c15, h1, h2, List.length_map, lp, h3, h4, h5, h6, h7, h8, bne_self_eq_false, lp2, r1, r2, c0]
end Go.Proofs.Ytjmnepfdhkabfaa
