/- Part of the proof: what functions of the program compute, over the evaluation that the engine's texts tie to the machine. -/
import Derived.Test.YtjmnepfdhkabfaaDL6
namespace Go.Proofs.Ytjmnepfdhkabfaa
set_option maxRecDepth 100000
set_option maxHeartbeats 4000000
set_option linter.unusedSimpArgs false
set_option linter.unusedVariables false
open Go Go.Zv
structure Inv7 (n q k : Nat) (d fr : Dsk) : Prop where
  od : OKd d
  of : OKd fr
  ld : d.sec.length = n
  lf : fr.sec.length = n
  ff : fr.fuse = -1
  fw : fr.down = false
  le : k ≤ q → d.down = false ∧ d.fuse = (q : Int) + 1 - k
  gt : q < k → d.down = true ∧ d.fuse = -1
theorem loop7 (n q : Nat) (hn : 1 ≤ n) (hn2 : n ≤ 64) (hq : q < 20) (d fr : Dsk) (hi : Inv7 n q 0 d fr) : ∃ d' fr', Inv7 n q 20 d' fr' ∧
    (K E A7_L0 ⟨[(7, .bool true), (8, .ptr 2048 0), (9, .int .i64 q), (10, .ptr 2560 0), (11, .int .i64 0)], [], [(2560, .box [sv fr.sec, .int .i64 fr.fuse, .int .i64 fr.torn, .bool fr.down]), (2561, .row 1 []), (2048, .box [sv d.sec, .int .i64 d.fuse, .int .i64 d.torn, .bool d.down]), (2049, .row 1 [])], 0⟩).bind (blockR 0 (some [7, 8, 10]) [6, 11, 12, 13, 14, 15, 50, 51, 63, 64]) =
    some (.ex .nrm ⟨[(7, .bool true), (8, .ptr 2048 0), (10, .ptr 2560 0)], [], [(2560, .box [sv fr'.sec, .int .i64 fr'.fuse, .int .i64 fr'.torn, .bool fr'.down]), (2561, .row 1 []), (2048, .box [sv d'.sec, .int .i64 d'.fuse, .int .i64 d'.torn, .bool d'.down]), (2049, .row 1 [])], 0⟩) := by
  have h := loop_inv (σ := Dsk × Dsk) (fun S => (K E A7_L0 S).bind (blockR 0 (some [7, 8, 10]) [6, 11, 12, 13, 14, 15, 50, 51, 63, 64]))
    (fun k x => ⟨[(7, .bool true), (8, .ptr 2048 0), (9, .int .i64 q), (10, .ptr 2560 0), (11, .int .i64 k)], [], [(2560, .box [sv x.2.sec, .int .i64 x.2.fuse, .int .i64 x.2.torn, .bool x.2.down]), (2561, .row 1 []), (2048, .box [sv x.1.sec, .int .i64 x.1.fuse, .int .i64 x.1.torn, .bool x.1.down]), (2049, .row 1 [])], 0⟩) 20 (fun k x => Inv7 n q k x.1 x.2) ?_ (d, fr) hi
  · obtain ⟨⟨d', fr'⟩, h1, h2⟩ := h
    refine ⟨d', fr', h1, h2.trans ?_⟩
    show (K E A7_L0 _).bind _ = _
    rw [A7_L0_eq]
    simp +contextual -implicitDefEqProofs (maxSteps := 2000000) only [go_sem, ↓reduceIte, Nat.reduceAdd, Nat.reduceMul, Nat.reduceSub, Nat.reduceEqDiff, Nat.reduceLeDiff, Nat.reduceDiv, Nat.reduceMod, Nat.reduceBEq, Nat.reduceBNe, reduceCtorEq, Int.reduceLE, Int.reduceLT, Int.reduceToNat, Int.reduceNeg, Nat.reduceLT, Int.reduceEq, Int.reduceSub, Int.reduceAdd, Int.reduceMul, Nat.reducePow, Int.reduceBEq, Int.reduceBNe, Int.reduceMod, A7_L0b, List.length_map, Int.lt_irrefl]
  · rintro k ⟨⟨s, f, t, w⟩, ⟨s', f', t', w'⟩⟩ hk ⟨od, of, ld, lf, ff, fw, le, gt⟩
    simp only at *
    subst ff; subst fw
    have h1 : (k : Int) < 20 := by omega
    have hw := wr_succ (n := k) (by omega)
    have hu : IntKind.u8.wrap (k : Int) = k := by simp [IntKind.wrap, IntKind.signed, IntKind.bits]; omega
    have tm : (k : Int).tmod n = ((k % n : Nat) : Int) := by rw [Int.tmod_eq_emod_of_nonneg (by omega)]; rfl
    have ml : k % n < n := Nat.mod_lt _ (by omega)
    have nz : ¬ ((n : Int) = 0) := by omega
    have eb : bv [UInt8.ofNat k] = .vs [[.int .u8 k]] := by simp [b1]; omega
    have w1 := c29 _ od ((k % n : Nat) : Int) [UInt8.ofNat k] (by simp)
    have w2 := c29 _ of ((k % n : Nat) : Int) [UInt8.ofNat k] (by simp)
    have o1 := ok_wr od ((k % n : Nat) : Int) [UInt8.ofNat k]
    have o2 := ok_wr of ((k % n : Nat) : Int) [UInt8.ofNat k]
    have q2 : okw s' ((k % n : Nat) : Int) [UInt8.ofNat k] := ⟨by omega, by omega, by simp⟩
    have e2 := ((wr_free s' t' ((k % n : Nat) : Int) [UInt8.ofNat k]).resolve_left fun h => h.1 q2).2
    rw [e2, eb] at w2
    rw [e2] at o2
    simp only at w2 o2
    rw [eb] at w1
    rcases wr_cases ⟨s, f, t, w⟩ ((k % n : Nat) : Int) [UInt8.ofNat k] with ⟨k1, e1⟩ | ⟨k1, k2, e1⟩ | ⟨k1, k2, k3, e1⟩ | ⟨k1, k2, k3, e1⟩ <;> rw [e1] at w1 o1 <;> simp only at *
    · subst k1
      have hlt : q < k := by
        by_cases h : k ≤ q
        · have := (le h).1; cases this
        · omega
      refine ⟨(_, _), ⟨o1, o2, ld, by simp only [wrg_len]; exact lf, rfl, rfl, fun h => absurd h (by omega), fun _ => gt hlt⟩, ?_⟩
      show (K E A7_L0 _).bind _ = (K E A7_L0 _).bind _
      have hc : ¬ ((k : Int) < q) := by omega
      conv => lhs; rw [A7_L0_eq]
      simp +contextual -implicitDefEqProofs (maxSteps := 2000000) only [go_sem, ↓reduceIte, Nat.reduceAdd, Nat.reduceMul, Nat.reduceSub, Nat.reduceEqDiff, Nat.reduceLeDiff, Nat.reduceDiv, Nat.reduceMod, Nat.reduceBEq, Nat.reduceBNe, reduceCtorEq, Int.reduceLE, Int.reduceLT, Int.reduceToNat, Int.reduceNeg, Nat.reduceLT, Int.reduceEq, Int.reduceSub, Int.reduceAdd, Int.reduceMul, Nat.reducePow, Int.reduceBEq, Int.reduceBNe, Int.reduceMod, A7_L0b, nz, h1, hw, hu, List.length_map, ld, lf, tm, w1, w2, hc, bne_self_eq_false, wrg_len]
    · exact absurd ⟨by omega, by omega, by simp⟩ k2
    · subst k1
      have hlt : k = q := by
        by_cases h : k ≤ q
        · have := (le h).2; omega
        · have := (gt (by omega)).1; cases this
      subst hlt
      subst k3
      refine ⟨(_, _), ⟨o1, o2, by simp only [List.length_set]; exact ld, by simp only [wrg_len]; exact lf, rfl, rfl, fun h => absurd h (by omega), fun _ => ⟨rfl, rfl⟩⟩, ?_⟩
      show (K E A7_L0 _).bind _ = (K E A7_L0 _).bind _
      conv => lhs; rw [A7_L0_eq]
      simp +contextual -implicitDefEqProofs (maxSteps := 2000000) only [go_sem, ↓reduceIte, Nat.reduceAdd, Nat.reduceMul, Nat.reduceSub, Nat.reduceEqDiff, Nat.reduceLeDiff, Nat.reduceDiv, Nat.reduceMod, Nat.reduceBEq, Nat.reduceBNe, reduceCtorEq, Int.reduceLE, Int.reduceLT, Int.reduceToNat, Int.reduceNeg, Nat.reduceLT, Int.reduceEq, Int.reduceSub, Int.reduceAdd, Int.reduceMul, Nat.reducePow, Int.reduceBEq, Int.reduceBNe, Int.reduceMod, A7_L0b, nz, h1, hw, hu, List.length_map, ld, lf, tm, w1, w2, Int.lt_irrefl, bne_self_eq_false, wrg_len, List.length_set]
    · subst k1
      have hlt : k < q := by
        by_cases h : k ≤ q
        · have := (le h).2; omega
        · have := (gt (by omega)).1; cases this
      have hf := (le (by omega)).2
      have hf1 : f > 1 := by omega
      rw [if_pos hf1] at w1 o1
      refine ⟨(_, _), ⟨o1, o2, by simp only [List.length_set]; exact ld, by simp only [wrg_len]; exact lf, rfl, rfl, fun h => ⟨rfl, by simp only; omega⟩, fun h => absurd h (by omega)⟩, ?_⟩
      show (K E A7_L0 _).bind _ = (K E A7_L0 _).bind _
      have hc : ((k : Int) < q) := by omega
      conv => lhs; rw [A7_L0_eq]
      simp +contextual -implicitDefEqProofs (maxSteps := 2000000) only [go_sem, ↓reduceIte, Nat.reduceAdd, Nat.reduceMul, Nat.reduceSub, Nat.reduceEqDiff, Nat.reduceLeDiff, Nat.reduceDiv, Nat.reduceMod, Nat.reduceBEq, Nat.reduceBNe, reduceCtorEq, Int.reduceLE, Int.reduceLT, Int.reduceToNat, Int.reduceNeg, Nat.reduceLT, Int.reduceEq, Int.reduceSub, Int.reduceAdd, Int.reduceMul, Nat.reducePow, Int.reduceBEq, Int.reduceBNe, Int.reduceMod, A7_L0b, nz, h1, hw, hu, List.length_map, ld, lf, tm, w1, w2, hc, bne_self_eq_false, wrg_len, List.length_set]
theorem law7 (n : Nat) (hn : n ≤ 255) (l : List Act) (hl : l.length ≤ 1000000000) (ha : ∀ a ∈ l, OKa a) (m : Nat) (hm : m ≤ 255) :
    pc E 7 [.int .u8 n, .vs (l.map a5), .int .u8 m] = some (.bool true) := by
  have h1 := c16 l (by omega)
  have h3 := c28 n hn l hl ha
  have hd := ok_made n l ha
  generalize made n l = d at *
  cases g1 : gr l with
  | true => rw [g1] at h1; rw [pc_eq]; simp +contextual -implicitDefEqProofs (maxSteps := 2000000) only [go_sem, ↓reduceIte, Nat.reduceAdd, Nat.reduceMul, Nat.reduceSub, Nat.reduceEqDiff, Nat.reduceLeDiff, Nat.reduceDiv, Nat.reduceMod, Nat.reduceBEq, Nat.reduceBNe, reduceCtorEq, Int.reduceLE, Int.reduceLT, Int.reduceToNat, Int.reduceNeg, Nat.reduceLT, Int.reduceEq, Int.reduceSub, Int.reduceAdd, Int.reduceMul, Nat.reducePow, Int.reduceBEq, Int.reduceBNe, Int.reduceMod, E_7, A7, c15, h1]
  | false =>
    rw [g1] at h1
    obtain ⟨s, f0, t0, w0⟩ := d
    have e1 : IntKind.i64.wrap (m : Int) = m := wrap_small (by omega) (by omega)
    have e2 : (m : Int).tmod 20 = ((m % 20 : Nat) : Int) := by rw [Int.tmod_eq_emod_of_nonneg (by omega)]; rfl
    have e3 : IntKind.i64.wrap (1 + ((m % 20 : Nat) : Int)) = 1 + ((m % 20 : Nat) : Int) := wrap_small (by omega) (by omega)
    have e4 : IntKind.i64.wrap (1 + ((m % 20 : Nat) : Int) - 1) = ((m % 20 : Nat) : Int) := by rw [wrap_small (by omega) (by omega)]; omega
    have e5 : m % 20 < 20 := by omega
    generalize m % 20 = q at *
    have hf := ok_free hd
    obtain ⟨d', fr', hI, lp⟩ := loop7 s.length q hd.len1 hd.len2 e5 ⟨s, 1 + (q : Int), 0, false⟩ ⟨s, -1, 0, false⟩
      ⟨⟨hd.len1, hd.len2, hd.all, .inr ⟨by simp only; omega, by simp only; omega⟩, by simp, by simp⟩, ⟨hd.len1, hd.len2, hd.all, .inl rfl, by simp, by simp⟩, rfl, rfl, rfl, rfl, fun _ => ⟨rfl, by simp only; omega⟩, fun h => absurd h (by omega)⟩
    obtain ⟨od, of, ld, lf, ff, fw, le, gt⟩ := hI
    obtain ⟨gw, gf⟩ := gt e5
    obtain ⟨s1', f1, t1, w1⟩ := d'
    obtain ⟨s2, f2, t2, w2⟩ := fr'
    try simp only at *
    subst ff; subst fw; subst gw; subst gf
    have c1 := c30 s1' (-1) t1 true
    have o1 : OKd ⟨s1', -1, t1, false⟩ := ok_up od
    have c2 := c29 _ o1 0 [9] (by simp)
    have q2 : okw s1' 0 [9] := ⟨by omega, by have := hd.len1; simp only at this; omega, by simp⟩
    have e6 := ((wr_free s1' t1 0 [9]).resolve_left fun h => h.1 q2).2
    rw [e6, show bv [9] = .vs [[.int .u8 9]] from rfl] at c2
    try simp only at c2
    try simp only [Int.natCast_zero, Int.ofNat_zero] at lp
    rw [pc_eq]; simp +contextual -implicitDefEqProofs (maxSteps := 2000000) only [go_sem, ↓reduceIte, Nat.reduceAdd, Nat.reduceMul, Nat.reduceSub, Nat.reduceEqDiff, Nat.reduceLeDiff, Nat.reduceDiv, Nat.reduceMod, Nat.reduceBEq, Nat.reduceBNe, reduceCtorEq, Int.reduceLE, Int.reduceLT, Int.reduceToNat, Int.reduceNeg, Nat.reduceLT, Int.reduceEq, Int.reduceSub, Int.reduceAdd, Int.reduceMul, Nat.reducePow, Int.reduceBEq, Int.reduceBNe, Int.reduceMod, E_7, A7, c15, h1, h3, e1, e2, e3, e4, lp, c1, c2, beq_self_eq_true, ite_self]
end Go.Proofs.Ytjmnepfdhkabfaa
