/- Part of the proof: the evaluation of the program's code and its tie to the machine, or what functions of the program compute over it. -/
import Derived.Test.YtjmnepfdhkabfaaPart1
import Derived.Test.YtjmnepfdhkabfaaEng6
import Derived.KernelRfl
namespace Go.Proofs.Ytjmnepfdhkabfaa
set_option maxRecDepth 100000
set_option maxHeartbeats 4000000
set_option linter.unusedSimpArgs false
set_option linter.unusedVariables false
open Go Go.Zv
abbrev gk (b : List UInt8) (k : Nat) : UInt8 := b[k]?.getD 0
theorem stp {b : List UInt8} (h : b.length = 64) (k : Nat) (hk : k < 64) : ((b.drop k).map b1)[0]? = some [.int .u8 (gk b k).toNat] ∧ ((b.drop k).map b1).length = 64 - k ∧ ((b.drop k).map b1).drop 1 = (b.drop (k + 1)).map b1 ∧ ((b.drop k).map b1).take (64 - k) = (b.drop k).map b1 ∧ (((b.drop k).map b1).all fun x => x.length == 1) = true := by
  have hget : b[k]? = some (b[k]'(by omega)) := List.getElem?_eq_getElem _
  have hd := drop_get hget
  refine ⟨?_, ?_, ?_, ?_, all_b1 _⟩
  · unfold gk; rw [hd, hget]; rfl
  · rw [List.length_map, List.length_drop]; omega
  · rw [hd]; rfl
  · exact List.take_of_length_le (by rw [List.length_map, List.length_drop]; omega)

theorem w33a (d0 d1 d2 d3 d4 d5 d6 d7 d8 d9 d10 d11 d12 d13 d14 d15 d16 : List (List LV)) (x0 x1 x2 x3 x4 x5 x6 x7 x8 x9 x10 x11 x12 x13 x14 x15 : UInt8) (h0 : d0[0]? = some [.int .u8 x0.toNat]) (l0 : d0.length = 64) (e0 : d0.drop 1 = d1) (t0 : d0.take 64 = d0) (a0 : (d0.all fun x => x.length == 1) = true) (h1 : d1[0]? = some [.int .u8 x1.toNat]) (l1 : d1.length = 63) (e1 : d1.drop 1 = d2) (t1 : d1.take 63 = d1) (a1 : (d1.all fun x => x.length == 1) = true) (h2 : d2[0]? = some [.int .u8 x2.toNat]) (l2 : d2.length = 62) (e2 : d2.drop 1 = d3) (t2 : d2.take 62 = d2) (a2 : (d2.all fun x => x.length == 1) = true) (h3 : d3[0]? = some [.int .u8 x3.toNat]) (l3 : d3.length = 61) (e3 : d3.drop 1 = d4) (t3 : d3.take 61 = d3) (a3 : (d3.all fun x => x.length == 1) = true) (h4 : d4[0]? = some [.int .u8 x4.toNat]) (l4 : d4.length = 60) (e4 : d4.drop 1 = d5) (t4 : d4.take 60 = d4) (a4 : (d4.all fun x => x.length == 1) = true) (h5 : d5[0]? = some [.int .u8 x5.toNat]) (l5 : d5.length = 59) (e5 : d5.drop 1 = d6) (t5 : d5.take 59 = d5) (a5 : (d5.all fun x => x.length == 1) = true) (h6 : d6[0]? = some [.int .u8 x6.toNat]) (l6 : d6.length = 58) (e6 : d6.drop 1 = d7) (t6 : d6.take 58 = d6) (a6 : (d6.all fun x => x.length == 1) = true) (h7 : d7[0]? = some [.int .u8 x7.toNat]) (l7 : d7.length = 57) (e7 : d7.drop 1 = d8) (t7 : d7.take 57 = d7) (a7 : (d7.all fun x => x.length == 1) = true) (h8 : d8[0]? = some [.int .u8 x8.toNat]) (l8 : d8.length = 56) (e8 : d8.drop 1 = d9) (t8 : d8.take 56 = d8) (a8 : (d8.all fun x => x.length == 1) = true) (h9 : d9[0]? = some [.int .u8 x9.toNat]) (l9 : d9.length = 55) (e9 : d9.drop 1 = d10) (t9 : d9.take 55 = d9) (a9 : (d9.all fun x => x.length == 1) = true) (h10 : d10[0]? = some [.int .u8 x10.toNat]) (l10 : d10.length = 54) (e10 : d10.drop 1 = d11) (t10 : d10.take 54 = d10) (a10 : (d10.all fun x => x.length == 1) = true) (h11 : d11[0]? = some [.int .u8 x11.toNat]) (l11 : d11.length = 53) (e11 : d11.drop 1 = d12) (t11 : d11.take 53 = d11) (a11 : (d11.all fun x => x.length == 1) = true) (h12 : d12[0]? = some [.int .u8 x12.toNat]) (l12 : d12.length = 52) (e12 : d12.drop 1 = d13) (t12 : d12.take 52 = d12) (a12 : (d12.all fun x => x.length == 1) = true) (h13 : d13[0]? = some [.int .u8 x13.toNat]) (l13 : d13.length = 51) (e13 : d13.drop 1 = d14) (t13 : d13.take 51 = d13) (a13 : (d13.all fun x => x.length == 1) = true) (h14 : d14[0]? = some [.int .u8 x14.toNat]) (l14 : d14.length = 50) (e14 : d14.drop 1 = d15) (t14 : d14.take 50 = d14) (a14 : (d14.all fun x => x.length == 1) = true) (h15 : d15[0]? = some [.int .u8 x15.toNat]) (l15 : d15.length = 49) (e15 : d15.drop 1 = d16) (t15 : d15.take 49 = d15) (a15 : (d15.all fun x => x.length == 1) = true) (t : List UInt8) (ht : t.length = 48) (hd16 : d16 = t.map b1) (hx8 : ¬ x15.toNat ≤ 8) : pc E 33 [.vs d0] = some (.tup [.agg [.int .i64 0, .int .i64 0, .int .i64 0, .int .i64 0, .int .i64 0, .int .i64 0, .int .i64 0, .int .i64 0, .int .i64 0, .int .i64 0, .vs [], .int .i64 0], .int .i64 4]) := by
  have g3 := dec3 d0 (((((x1.toNat : Int) * 256 + x2.toNat) * 256 + x3.toNat) * 256) + x4.toNat) ((x5.toNat : Int) * 256 + x6.toNat) d7 d8 d9 d10 d11 d12 d13 x7 x8 x9 x10 x11 x12 h7 l7 e7 t7 a7 h8 l8 e8 t8 a8 h9 l9 e9 t9 a9 h10 l10 e10 t10 a10 h11 l11 e11 t11 a11 h12 l12 e12 t12 a12
  have g1 := dec1 d0 (((((x1.toNat : Int) * 256 + x2.toNat) * 256 + x3.toNat) * 256) + x4.toNat) ((x5.toNat : Int) * 256 + x6.toNat) (x7.toNat - 17) (x8.toNat - 17) (x9.toNat - 17) (x10.toNat - 17) (x11.toNat - 17) (x12.toNat - 17) d13 d14 d15 x13 x14 h13 l13 e13 t13 a13 h14 l14 e14 t14 a14
  have k8 : (8 : Int) < x15.toNat := by omega
  rw [pc_eq]; simp +contextual -implicitDefEqProofs (maxSteps := 2000000) only [go_sem, ↓reduceIte, Nat.reduceAdd, Nat.reduceMul, Nat.reduceSub, Nat.reduceEqDiff, Nat.reduceLeDiff, Nat.reduceDiv, Nat.reduceMod, Nat.reduceBEq, Nat.reduceBNe, reduceCtorEq, Int.reduceLE, Int.reduceLT, Int.reduceToNat, Int.reduceNeg, Nat.reduceLT, Int.reduceEq, Int.reduceSub, Int.reduceAdd, Int.reduceMul, Nat.reducePow, Int.reduceBEq, Int.reduceBNe, Int.reduceMod, E_33, A33, E_60, A60, A60_L0_eq, A60_L0b, wb0, wb1, wb2, wb3, ob1, ob2, ob3, ob4, shl8, Int.zero_mul, h0, l0, e0, t0, a0, h1, l1, e1, t1, a1, h2, l2, e2, t2, a2, h3, l3, e3, t3, a3, h4, l4, e4, t4, a4, h5, l5, e5, t5, a5, h6, l6, e6, t6, a6, h15, l15, e15, t15, a15, g3, g1, k8]

theorem w33b (d0 d1 d2 d3 d4 d5 d6 d7 d8 d9 d10 d11 d12 d13 d14 d15 d16 : List (List LV)) (x0 x1 x2 x3 x4 x5 x6 x7 x8 x9 x10 x11 x12 x13 x14 x15 : UInt8) (h0 : d0[0]? = some [.int .u8 x0.toNat]) (l0 : d0.length = 64) (e0 : d0.drop 1 = d1) (t0 : d0.take 64 = d0) (a0 : (d0.all fun x => x.length == 1) = true) (h1 : d1[0]? = some [.int .u8 x1.toNat]) (l1 : d1.length = 63) (e1 : d1.drop 1 = d2) (t1 : d1.take 63 = d1) (a1 : (d1.all fun x => x.length == 1) = true) (h2 : d2[0]? = some [.int .u8 x2.toNat]) (l2 : d2.length = 62) (e2 : d2.drop 1 = d3) (t2 : d2.take 62 = d2) (a2 : (d2.all fun x => x.length == 1) = true) (h3 : d3[0]? = some [.int .u8 x3.toNat]) (l3 : d3.length = 61) (e3 : d3.drop 1 = d4) (t3 : d3.take 61 = d3) (a3 : (d3.all fun x => x.length == 1) = true) (h4 : d4[0]? = some [.int .u8 x4.toNat]) (l4 : d4.length = 60) (e4 : d4.drop 1 = d5) (t4 : d4.take 60 = d4) (a4 : (d4.all fun x => x.length == 1) = true) (h5 : d5[0]? = some [.int .u8 x5.toNat]) (l5 : d5.length = 59) (e5 : d5.drop 1 = d6) (t5 : d5.take 59 = d5) (a5 : (d5.all fun x => x.length == 1) = true) (h6 : d6[0]? = some [.int .u8 x6.toNat]) (l6 : d6.length = 58) (e6 : d6.drop 1 = d7) (t6 : d6.take 58 = d6) (a6 : (d6.all fun x => x.length == 1) = true) (h7 : d7[0]? = some [.int .u8 x7.toNat]) (l7 : d7.length = 57) (e7 : d7.drop 1 = d8) (t7 : d7.take 57 = d7) (a7 : (d7.all fun x => x.length == 1) = true) (h8 : d8[0]? = some [.int .u8 x8.toNat]) (l8 : d8.length = 56) (e8 : d8.drop 1 = d9) (t8 : d8.take 56 = d8) (a8 : (d8.all fun x => x.length == 1) = true) (h9 : d9[0]? = some [.int .u8 x9.toNat]) (l9 : d9.length = 55) (e9 : d9.drop 1 = d10) (t9 : d9.take 55 = d9) (a9 : (d9.all fun x => x.length == 1) = true) (h10 : d10[0]? = some [.int .u8 x10.toNat]) (l10 : d10.length = 54) (e10 : d10.drop 1 = d11) (t10 : d10.take 54 = d10) (a10 : (d10.all fun x => x.length == 1) = true) (h11 : d11[0]? = some [.int .u8 x11.toNat]) (l11 : d11.length = 53) (e11 : d11.drop 1 = d12) (t11 : d11.take 53 = d11) (a11 : (d11.all fun x => x.length == 1) = true) (h12 : d12[0]? = some [.int .u8 x12.toNat]) (l12 : d12.length = 52) (e12 : d12.drop 1 = d13) (t12 : d12.take 52 = d12) (a12 : (d12.all fun x => x.length == 1) = true) (h13 : d13[0]? = some [.int .u8 x13.toNat]) (l13 : d13.length = 51) (e13 : d13.drop 1 = d14) (t13 : d13.take 51 = d13) (a13 : (d13.all fun x => x.length == 1) = true) (h14 : d14[0]? = some [.int .u8 x14.toNat]) (l14 : d14.length = 50) (e14 : d14.drop 1 = d15) (t14 : d14.take 50 = d14) (a14 : (d14.all fun x => x.length == 1) = true) (h15 : d15[0]? = some [.int .u8 x15.toNat]) (l15 : d15.length = 49) (e15 : d15.drop 1 = d16) (t15 : d15.take 49 = d15) (a15 : (d15.all fun x => x.length == 1) = true) (t : List UInt8) (ht : t.length = 48) (hd16 : d16 = t.map b1) (hx8 : x15.toNat ≤ 8) (xm : UInt8) (dm dn : List (List LV)) (hm0 : (t.drop x15.toNat).map b1 = dm) (hm : dm[0]? = some [.int .u8 xm.toNat]) (lm : dm.length = 48 - x15.toNat) (em : dm.drop 1 = dn) (tm : dm.take (48 - x15.toNat) = dm) (am : (dm.all fun x => x.length == 1) = true)
    (bm : Bool) (hmay : pc E 61 [.agg [.int .i64 (((((x1.toNat : Int) * 256 + x2.toNat) * 256 + x3.toNat) * 256) + x4.toNat), .int .i64 ((x5.toNat : Int) * 256 + x6.toNat), .int .i64 (x7.toNat - 17), .int .i64 (x8.toNat - 17), .int .i64 (x9.toNat - 17), .int .i64 (x10.toNat - 17), .int .i64 (x11.toNat - 17), .int .i64 (x12.toNat - 17), .int .i64 (x13.toNat - 1), .int .i64 (x14.toNat - 1), .vs (whk t x15.toNat), .int .i64 xm.toNat]] = some (.bool bm)) (er : List (List LV)) (hlen : bm = true → er.length = 64) (her : bm = true → er.take 64 = er) (hall : bm = true → (er.all fun x => x.all LV.scal) = true) (henc : bm = true → pc E 35 [.agg [.int .i64 (((((x1.toNat : Int) * 256 + x2.toNat) * 256 + x3.toNat) * 256) + x4.toNat), .int .i64 ((x5.toNat : Int) * 256 + x6.toNat), .int .i64 (x7.toNat - 17), .int .i64 (x8.toNat - 17), .int .i64 (x9.toNat - 17), .int .i64 (x10.toNat - 17), .int .i64 (x11.toNat - 17), .int .i64 (x12.toNat - 17), .int .i64 (x13.toNat - 1), .int .i64 (x14.toNat - 1), .vs (whk t x15.toNat), .int .i64 xm.toNat]] = some (.os 1 er)) (be : Bool) (heq : bm = true → pc E 62 [.vs er, .vs d0] = some (.bool be)) :
    pc E 33 [.vs d0] = some (if (bm && be) = true then .tup [.agg [.int .i64 (((((x1.toNat : Int) * 256 + x2.toNat) * 256 + x3.toNat) * 256) + x4.toNat), .int .i64 ((x5.toNat : Int) * 256 + x6.toNat), .int .i64 (x7.toNat - 17), .int .i64 (x8.toNat - 17), .int .i64 (x9.toNat - 17), .int .i64 (x10.toNat - 17), .int .i64 (x11.toNat - 17), .int .i64 (x12.toNat - 17), .int .i64 (x13.toNat - 1), .int .i64 (x14.toNat - 1), .vs (whk t x15.toNat), .int .i64 xm.toNat], .int .i64 0] else .tup [.agg [.int .i64 0, .int .i64 0, .int .i64 0, .int .i64 0, .int .i64 0, .int .i64 0, .int .i64 0, .int .i64 0, .int .i64 0, .int .i64 0, .vs [], .int .i64 0], .int .i64 4]) := by
  have g3 := dec3 d0 (((((x1.toNat : Int) * 256 + x2.toNat) * 256 + x3.toNat) * 256) + x4.toNat) ((x5.toNat : Int) * 256 + x6.toNat) d7 d8 d9 d10 d11 d12 d13 x7 x8 x9 x10 x11 x12 h7 l7 e7 t7 a7 h8 l8 e8 t8 a8 h9 l9 e9 t9 a9 h10 l10 e10 t10 a10 h11 l11 e11 t11 a11 h12 l12 e12 t12 a12
  have g1 := dec1 d0 (((((x1.toNat : Int) * 256 + x2.toNat) * 256 + x3.toNat) * 256) + x4.toNat) ((x5.toNat : Int) * 256 + x6.toNat) (x7.toNat - 17) (x8.toNat - 17) (x9.toNat - 17) (x10.toNat - 17) (x11.toNat - 17) (x12.toNat - 17) d13 d14 d15 x13 x14 h13 l13 e13 t13 a13 h14 l14 e14 t14 a14
  have g0 := dec0 d0 (((((x1.toNat : Int) * 256 + x2.toNat) * 256 + x3.toNat) * 256) + x4.toNat) ((x5.toNat : Int) * 256 + x6.toNat) (x7.toNat - 17) (x8.toNat - 17) (x9.toNat - 17) (x10.toNat - 17) (x11.toNat - 17) (x12.toNat - 17) (x13.toNat - 1) (x14.toNat - 1) x15.toNat t (by omega) ht
  have k8 : ¬ (8 : Int) < x15.toNat := by omega
  have wl := whk_len t x15.toNat (by omega)
  have wt : (whk t x15.toNat).take x15.toNat = whk t x15.toNat := List.take_of_length_le (by omega)
  have k1 : (1 : Int) ≤ ((48 - x15.toNat : Nat) : Int) := by omega
  rw [hm0] at g0
  rw [← hd16] at g0
  cases bm
  · rw [pc_eq]; simp +contextual -implicitDefEqProofs (maxSteps := 2000000) only [go_sem, ↓reduceIte, Nat.reduceAdd, Nat.reduceMul, Nat.reduceSub, Nat.reduceEqDiff, Nat.reduceLeDiff, Nat.reduceDiv, Nat.reduceMod, Nat.reduceBEq, Nat.reduceBNe, reduceCtorEq, Int.reduceLE, Int.reduceLT, Int.reduceToNat, Int.reduceNeg, Nat.reduceLT, Int.reduceEq, Int.reduceSub, Int.reduceAdd, Int.reduceMul, Nat.reducePow, Int.reduceBEq, Int.reduceBNe, Int.reduceMod, E_33, A33, E_60, A60, A60_L0_eq, A60_L0b, wb0, wb1, wb2, wb3, ob1, ob2, ob3, ob4, shl8, Int.zero_mul, h0, l0, e0, t0, a0, h1, l1, e1, t1, a1, h2, l2, e2, t2, a2, h3, l3, e3, t3, a3, h4, l4, e4, t4, a4, h5, l5, e5, t5, a5, h6, l6, e6, t6, a6, h15, l15, e15, t15, a15, g3, g1, g0, k8, wl, wt, hm, lm, em, tm, am, k1, hmay, Bool.false_and]
  · have hlen := hlen rfl
    have hall := hall rfl
    have her := her rfl
    have henc := henc rfl
    have heq := heq rfl
    cases be
    · rw [pc_eq]; simp +contextual -implicitDefEqProofs (maxSteps := 2000000) only [go_sem, ↓reduceIte, Nat.reduceAdd, Nat.reduceMul, Nat.reduceSub, Nat.reduceEqDiff, Nat.reduceLeDiff, Nat.reduceDiv, Nat.reduceMod, Nat.reduceBEq, Nat.reduceBNe, reduceCtorEq, Int.reduceLE, Int.reduceLT, Int.reduceToNat, Int.reduceNeg, Nat.reduceLT, Int.reduceEq, Int.reduceSub, Int.reduceAdd, Int.reduceMul, Nat.reducePow, Int.reduceBEq, Int.reduceBNe, Int.reduceMod, E_33, A33, E_60, A60, A60_L0_eq, A60_L0b, wb0, wb1, wb2, wb3, ob1, ob2, ob3, ob4, shl8, Int.zero_mul, h0, l0, e0, t0, a0, h1, l1, e1, t1, a1, h2, l2, e2, t2, a2, h3, l3, e3, t3, a3, h4, l4, e4, t4, a4, h5, l5, e5, t5, a5, h6, l6, e6, t6, a6, h15, l15, e15, t15, a15, g3, g1, g0, k8, wl, wt, hm, lm, em, tm, am, k1, hmay, henc, heq, hlen, her, hall, Bool.and_false]
    · rw [pc_eq]; simp +contextual -implicitDefEqProofs (maxSteps := 2000000) only [go_sem, ↓reduceIte, Nat.reduceAdd, Nat.reduceMul, Nat.reduceSub, Nat.reduceEqDiff, Nat.reduceLeDiff, Nat.reduceDiv, Nat.reduceMod, Nat.reduceBEq, Nat.reduceBNe, reduceCtorEq, Int.reduceLE, Int.reduceLT, Int.reduceToNat, Int.reduceNeg, Nat.reduceLT, Int.reduceEq, Int.reduceSub, Int.reduceAdd, Int.reduceMul, Nat.reducePow, Int.reduceBEq, Int.reduceBNe, Int.reduceMod, E_33, A33, E_60, A60, A60_L0_eq, A60_L0b, wb0, wb1, wb2, wb3, ob1, ob2, ob3, ob4, shl8, Int.zero_mul, h0, l0, e0, t0, a0, h1, l1, e1, t1, a1, h2, l2, e2, t2, a2, h3, l3, e3, t3, a3, h4, l4, e4, t4, a4, h5, l5, e5, t5, a5, h6, l6, e6, t6, a6, h15, l15, e15, t15, a15, g3, g1, g0, k8, wl, wt, hm, lm, em, tm, am, k1, hmay, henc, heq, hlen, her, hall, Bool.and_self]

theorem c33 (b : List UInt8) (hb : b.length ≤ 1000000) : pc E 33 [bv b] = some (decR b) := by
  by_cases h64 : b.length = 64
  · have hd0 : bv b = .vs ((b.drop 0).map b1) := by rw [List.drop_zero]
    have s0 := stp h64 0 (by omega)
    have s1 := stp h64 1 (by omega)
    have s2 := stp h64 2 (by omega)
    have s3 := stp h64 3 (by omega)
    have s4 := stp h64 4 (by omega)
    have s5 := stp h64 5 (by omega)
    have s6 := stp h64 6 (by omega)
    have s7 := stp h64 7 (by omega)
    have s8 := stp h64 8 (by omega)
    have s9 := stp h64 9 (by omega)
    have s10 := stp h64 10 (by omega)
    have s11 := stp h64 11 (by omega)
    have s12 := stp h64 12 (by omega)
    have s13 := stp h64 13 (by omega)
    have s14 := stp h64 14 (by omega)
    have s15 := stp h64 15 (by omega)
    have ht : (b.drop 16).length = 48 := by rw [List.length_drop]; omega
    rw [hd0]
    by_cases h8 : (gk b 15).toNat ≤ 8
    · have sm := stp h64 (16 + (gk b 15).toNat) (by omega)
      have hm0 : ((b.drop 16).drop (gk b 15).toNat).map b1 = (b.drop (16 + (gk b 15).toNat)).map b1 := by rw [List.drop_drop]
      have hwh : (raw b).wh.map c1 = whk (b.drop 16) (gk b 15).toNat := by
        show (((b.drop 16).take (gk b 15).toNat).map (fun x => ((x.toNat : Int) - 1))).map c1 = _
        rw [List.map_map]; rfl
      have hrec : rv (raw b) = .agg [.int .i64 ((((((gk b 1).toNat : Int) * 256 + (gk b 2).toNat) * 256 + (gk b 3).toNat) * 256) + (gk b 4).toNat), .int .i64 (((gk b 5).toNat : Int) * 256 + (gk b 6).toNat), .int .i64 ((gk b 7).toNat - 17), .int .i64 ((gk b 8).toNat - 17), .int .i64 ((gk b 9).toNat - 17), .int .i64 ((gk b 10).toNat - 17), .int .i64 ((gk b 11).toNat - 17), .int .i64 ((gk b 12).toNat - 17), .int .i64 ((gk b 13).toNat - 1), .int .i64 ((gk b 14).toNat - 1), .vs (whk (b.drop 16) (gk b 15).toNat), .int .i64 (gk b (16 + (gk b 15).toNat)).toNat] := by
        rw [← hwh]; rfl
      have hmay := c61 (raw b) (by
        show (((b.drop 16).take (gk b 15).toNat).map _).length ≤ _
        rw [List.length_map, List.length_take]; omega)
      have hen : mayB (raw b) = true → (enc (raw b)).length = 64 := fun h => enc_len ((may_iff _).1 h)
      have w := w33b ((b.drop 0).map b1) ((b.drop 1).map b1) ((b.drop 2).map b1) ((b.drop 3).map b1) ((b.drop 4).map b1) ((b.drop 5).map b1) ((b.drop 6).map b1) ((b.drop 7).map b1) ((b.drop 8).map b1) ((b.drop 9).map b1) ((b.drop 10).map b1) ((b.drop 11).map b1) ((b.drop 12).map b1) ((b.drop 13).map b1) ((b.drop 14).map b1) ((b.drop 15).map b1) ((b.drop 16).map b1) (gk b 0) (gk b 1) (gk b 2) (gk b 3) (gk b 4) (gk b 5) (gk b 6) (gk b 7) (gk b 8) (gk b 9) (gk b 10) (gk b 11) (gk b 12) (gk b 13) (gk b 14) (gk b 15) s0.1 s0.2.1 s0.2.2.1 s0.2.2.2.1 s0.2.2.2.2 s1.1 s1.2.1 s1.2.2.1 s1.2.2.2.1 s1.2.2.2.2 s2.1 s2.2.1 s2.2.2.1 s2.2.2.2.1 s2.2.2.2.2 s3.1 s3.2.1 s3.2.2.1 s3.2.2.2.1 s3.2.2.2.2 s4.1 s4.2.1 s4.2.2.1 s4.2.2.2.1 s4.2.2.2.2 s5.1 s5.2.1 s5.2.2.1 s5.2.2.2.1 s5.2.2.2.2 s6.1 s6.2.1 s6.2.2.1 s6.2.2.2.1 s6.2.2.2.2 s7.1 s7.2.1 s7.2.2.1 s7.2.2.2.1 s7.2.2.2.2 s8.1 s8.2.1 s8.2.2.1 s8.2.2.2.1 s8.2.2.2.2 s9.1 s9.2.1 s9.2.2.1 s9.2.2.2.1 s9.2.2.2.2 s10.1 s10.2.1 s10.2.2.1 s10.2.2.2.1 s10.2.2.2.2 s11.1 s11.2.1 s11.2.2.1 s11.2.2.2.1 s11.2.2.2.2 s12.1 s12.2.1 s12.2.2.1 s12.2.2.2.1 s12.2.2.2.2 s13.1 s13.2.1 s13.2.2.1 s13.2.2.2.1 s13.2.2.2.2 s14.1 s14.2.1 s14.2.2.1 s14.2.2.2.1 s14.2.2.2.2 s15.1 s15.2.1 s15.2.2.1 s15.2.2.2.1 s15.2.2.2.2 (b.drop 16) ht rfl h8 (gk b (16 + (gk b 15).toNat)) _ _ hm0 sm.1 (by rw [sm.2.1]; omega) sm.2.2.1 (by
        have := sm.2.2.2.1
        rwa [show 64 - (16 + (gk b 15).toNat) = 48 - (gk b 15).toNat by omega] at this) sm.2.2.2.2 (mayB (raw b)) (by rw [← hrec]; exact hmay) ((enc (raw b)).map b1) (fun h => by rw [List.length_map]; exact hen h) (fun h => List.take_of_length_le (by rw [List.length_map, hen h]; omega)) (fun h => scal_b1 _) (fun h => by rw [← hrec]; exact c35 (raw b) ((may_iff _).1 h)) (decide (enc (raw b) = b)) (fun h => by
          have := c62 (enc (raw b)) b (by rw [hen h]; omega)
          rw [List.drop_zero]; exact this)
      rw [← hrec] at w
      rw [w]
      by_cases h1 : mayB (raw b) = true
      · by_cases h2 : enc (raw b) = b
        · have hd : dec b = some (raw b) := if_pos ⟨h64, h8, h1, h2⟩
          unfold decR; rw [hd, h1, decide_eq_true h2]; rfl
        · have hd : dec b = none := if_neg (fun h => h2 h.2.2.2)
          unfold decR; rw [hd, decide_eq_false h2, Bool.and_false]; rfl
      · have hd : dec b = none := if_neg (fun h => h1 h.2.2.1)
        unfold decR; rw [hd, Bool.eq_false_iff.2 h1, Bool.false_and]; rfl
    · have w := w33a ((b.drop 0).map b1) ((b.drop 1).map b1) ((b.drop 2).map b1) ((b.drop 3).map b1) ((b.drop 4).map b1) ((b.drop 5).map b1) ((b.drop 6).map b1) ((b.drop 7).map b1) ((b.drop 8).map b1) ((b.drop 9).map b1) ((b.drop 10).map b1) ((b.drop 11).map b1) ((b.drop 12).map b1) ((b.drop 13).map b1) ((b.drop 14).map b1) ((b.drop 15).map b1) ((b.drop 16).map b1) (gk b 0) (gk b 1) (gk b 2) (gk b 3) (gk b 4) (gk b 5) (gk b 6) (gk b 7) (gk b 8) (gk b 9) (gk b 10) (gk b 11) (gk b 12) (gk b 13) (gk b 14) (gk b 15) s0.1 s0.2.1 s0.2.2.1 s0.2.2.2.1 s0.2.2.2.2 s1.1 s1.2.1 s1.2.2.1 s1.2.2.2.1 s1.2.2.2.2 s2.1 s2.2.1 s2.2.2.1 s2.2.2.2.1 s2.2.2.2.2 s3.1 s3.2.1 s3.2.2.1 s3.2.2.2.1 s3.2.2.2.2 s4.1 s4.2.1 s4.2.2.1 s4.2.2.2.1 s4.2.2.2.2 s5.1 s5.2.1 s5.2.2.1 s5.2.2.2.1 s5.2.2.2.2 s6.1 s6.2.1 s6.2.2.1 s6.2.2.2.1 s6.2.2.2.2 s7.1 s7.2.1 s7.2.2.1 s7.2.2.2.1 s7.2.2.2.2 s8.1 s8.2.1 s8.2.2.1 s8.2.2.2.1 s8.2.2.2.2 s9.1 s9.2.1 s9.2.2.1 s9.2.2.2.1 s9.2.2.2.2 s10.1 s10.2.1 s10.2.2.1 s10.2.2.2.1 s10.2.2.2.2 s11.1 s11.2.1 s11.2.2.1 s11.2.2.2.1 s11.2.2.2.2 s12.1 s12.2.1 s12.2.2.1 s12.2.2.2.1 s12.2.2.2.2 s13.1 s13.2.1 s13.2.2.1 s13.2.2.2.1 s13.2.2.2.2 s14.1 s14.2.1 s14.2.2.1 s14.2.2.2.1 s14.2.2.2.2 s15.1 s15.2.1 s15.2.2.1 s15.2.2.2.1 s15.2.2.2.2 (b.drop 16) ht rfl h8
      have hd : dec b = none := if_neg (fun h => h8 h.2.1)
      unfold decR; rw [w, hd]; rfl
  · have e : ((b.length : Int) != 64) = true := by simp; omega
    have e' : ¬ ((b.length : Int) = 64) := by omega
    have hd : dec b = none := by unfold dec; rw [if_neg (fun h => h64 h.1)]
    unfold decR
    rw [hd, pc_eq]; simp +contextual -implicitDefEqProofs (maxSteps := 2000000) only [go_sem, ↓reduceIte, Nat.reduceAdd, Nat.reduceMul, Nat.reduceSub, Nat.reduceEqDiff, Nat.reduceLeDiff, Nat.reduceDiv, Nat.reduceMod, Nat.reduceBEq, Nat.reduceBNe, reduceCtorEq, Int.reduceLE, Int.reduceLT, Int.reduceToNat, Int.reduceNeg, Nat.reduceLT, Int.reduceEq, Int.reduceSub, Int.reduceAdd, Int.reduceMul, Nat.reducePow, Int.reduceBEq, Int.reduceBNe, Int.reduceMod, E_33, A33, List.length_map, e, e']
    rfl
end Go.Proofs.Ytjmnepfdhkabfaa

namespace Go.Proofs.Ytjmnepfdhkabfaa
set_option maxRecDepth 100000
set_option maxHeartbeats 4000000
set_option linter.unusedSimpArgs false
set_option linter.unusedVariables false
open Go Go.Zv
theorem c32 (r : Rec) : pc E 32 [rv r] = some (.bool (decide (100 < r.wh.length))) := by
  have e : decide (100 < r.wh.length) = decide ((100 : Int) < r.wh.length) := decide_eq_decide.2 (by omega)
  rw [e, pc_eq]; simp +contextual -implicitDefEqProofs (maxSteps := 2000000) only [go_sem, ↓reduceIte, Nat.reduceAdd, Nat.reduceMul, Nat.reduceSub, Nat.reduceEqDiff, Nat.reduceLeDiff, Nat.reduceDiv, Nat.reduceMod, Nat.reduceBEq, Nat.reduceBNe, reduceCtorEq, Int.reduceLE, Int.reduceLT, Int.reduceToNat, Int.reduceNeg, Nat.reduceLT, Int.reduceEq, Int.reduceSub, Int.reduceAdd, Int.reduceMul, Nat.reducePow, Int.reduceBEq, Int.reduceBNe, Int.reduceMod, E_32, A32, List.length_map, gt_iff_lt]
theorem c38 (d : Dsk) : pc E 38 [dv d] = some (.agg [sv d.sec, .int .i64 d.fuse, .int .i64 d.torn, .bool d.down, .int .i64 1, .int .i64 0]) := by
  rw [pc_eq]; simp +contextual -implicitDefEqProofs (maxSteps := 2000000) only [go_sem, ↓reduceIte, Nat.reduceAdd, Nat.reduceMul, Nat.reduceSub, Nat.reduceEqDiff, Nat.reduceLeDiff, Nat.reduceDiv, Nat.reduceMod, Nat.reduceBEq, Nat.reduceBNe, reduceCtorEq, Int.reduceLE, Int.reduceLT, Int.reduceToNat, Int.reduceNeg, Nat.reduceLT, Int.reduceEq, Int.reduceSub, Int.reduceAdd, Int.reduceMul, Nat.reducePow, Int.reduceBEq, Int.reduceBNe, Int.reduceMod, E_38, A38]
theorem c39 (n : Nat) (h1 : 1 ≤ n) (h2 : n ≤ 64) : pc E 39 [.int .i64 n] = some (dv (mk n)) := by
  rw [pc_eq]; simp +contextual -implicitDefEqProofs (maxSteps := 2000000) only [go_sem, ↓reduceIte, Nat.reduceAdd, Nat.reduceMul, Nat.reduceSub, Nat.reduceEqDiff, Nat.reduceLeDiff, Nat.reduceDiv, Nat.reduceMod, Nat.reduceBEq, Nat.reduceBNe, reduceCtorEq, Int.reduceLE, Int.reduceLT, Int.reduceToNat, Int.reduceNeg, Nat.reduceLT, Int.reduceEq, Int.reduceSub, Int.reduceAdd, Int.reduceMul, Nat.reducePow, Int.reduceBEq, Int.reduceBNe, Int.reduceMod, E_39, A39, c17 n h1 h2]
theorem c68 (d : Dsk) (hn : 1 ≤ d.sec.length) (hl : d.sec.length ≤ 1000) (i : Nat) (hi : i < 1000000) : pc E 68 [dv d, .int .i64 i] = some (.int .i64 (((i + 1) % d.sec.length : Nat) : Int)) := by
  have hw : IntKind.i64.wrap ((i : Int) + 1) = ((i + 1 : Nat) : Int) := wr_succ (by omega)
  have hm : mxI 1 (d.sec.length : Int) = d.sec.length := by unfold mxI; split <;> omega
  have hz : ((d.sec.length : Int) == 0) = false := beq_eq_false_iff_ne.2 (by omega)
  have hz' : ¬ ((d.sec.length : Int) = 0) := by omega
  have ht : (((i + 1 : Nat) : Int)).tmod (d.sec.length : Int) = (((i + 1) % d.sec.length : Nat) : Int) := by rw [Int.tmod_eq_emod_of_nonneg (Int.natCast_nonneg _)]; rfl
  have hw2 : IntKind.i64.wrap (((i + 1) % d.sec.length : Nat) : Int) = (((i + 1) % d.sec.length : Nat) : Int) := by
    have := Nat.mod_lt (i + 1) (show 0 < d.sec.length by omega)
    exact wrap_small (by omega) (by omega)
  rw [pc_eq]; simp +contextual -implicitDefEqProofs (maxSteps := 2000000) only [go_sem, ↓reduceIte, Nat.reduceAdd, Nat.reduceMul, Nat.reduceSub, Nat.reduceEqDiff, Nat.reduceLeDiff, Nat.reduceDiv, Nat.reduceMod, Nat.reduceBEq, Nat.reduceBNe, reduceCtorEq, Int.reduceLE, Int.reduceLT, Int.reduceToNat, Int.reduceNeg, Nat.reduceLT, Int.reduceEq, Int.reduceSub, Int.reduceAdd, Int.reduceMul, Nat.reducePow, Int.reduceBEq, Int.reduceBNe, Int.reduceMod, E_68, A68, List.length_map, hw, hm, hz, hz', ht, hw2]
end Go.Proofs.Ytjmnepfdhkabfaa

namespace Go.Proofs.Ytjmnepfdhkabfaa
set_option maxRecDepth 100000
set_option maxHeartbeats 4000000
set_option linter.unusedSimpArgs false
set_option linter.unusedVariables false
open Go Go.Zv
def mayR (r : Rec) : Bool := (inI r.q0 (-17) 18 && (inI r.q1 (-17) 18 && (inI r.q2 (-17) 18 && (inI r.h0 (-1) 7 && (inI r.q3 (-17) 18 && (inI r.q4 (-17) 18 && (inI r.q5 (-17) 18 && inI r.h1 (-1) 7))))))) && (whB r.wh && (inI r.seq 1 1073741824 && (inI r.step 0 300 && (decide ((r.wh.length : Int) ≤ 8) && inI r.mode 1 5))))
theorem mayR_eq (r : Rec) : mayR r = mayB r := by
  unfold mayR mayB
  simp only [Bool.and_assoc]
  rw [show decide ((r.wh.length : Int) ≤ 8) = decide (r.wh.length ≤ 8) from decide_eq_decide.2 (by omega)]
end Go.Proofs.Ytjmnepfdhkabfaa

namespace Go.Proofs.Ytjmnepfdhkabfaa
set_option maxRecDepth 100000
set_option maxHeartbeats 4000000
set_option linter.unusedSimpArgs false
set_option linter.unusedVariables false
open Go Go.Zv
def sameR (a b : Rec) : Bool := decide (a = b)
theorem rec_eq (a b : Rec) : a = b ↔ a.seq = b.seq ∧ a.step = b.step ∧ a.mode = b.mode ∧ (a.q0 = b.q0 ∧ a.q1 = b.q1 ∧ a.q2 = b.q2 ∧ a.q3 = b.q3 ∧ a.q4 = b.q4 ∧ a.q5 = b.q5) ∧ (a.h0 = b.h0 ∧ a.h1 = b.h1) ∧ a.wh = b.wh := by
  cases a; cases b
  simp only [Rec.mk.injEq]
  constructor
  · rintro ⟨a, b, c, d, e, f, g, h, i, j, k, l⟩; exact ⟨a, b, l, ⟨c, d, e, f, g, h⟩, ⟨i, j⟩, k⟩
  · rintro ⟨a, b, l, ⟨c, d, e, f, g, h⟩, ⟨i, j⟩, k⟩; exact ⟨a, b, c, d, e, f, g, h, i, j, k, l⟩
theorem loop36 (a b : Rec) (hl : a.wh.length ≤ 1000000000) (h : a.wh.length = b.wh.length) :
    (K E A36_L0 ⟨[(2, .ptr 512 0), (3, .ptr 768 0), (5, .int .i64 0)], [], [(768, bx12 b.seq b.step b.q0 b.q1 b.q2 b.q3 b.q4 b.q5 b.h0 b.h1 b.wh b.mode), (512, bx12 a.seq a.step a.q0 a.q1 a.q2 a.q3 a.q4 a.q5 a.h0 a.h1 a.wh a.mode)], 0⟩).bind (blockR 0 (some []) [4, 5]) =
      if a.wh = b.wh then some (.ex .nrm ⟨[], [], [(768, bx12 b.seq b.step b.q0 b.q1 b.q2 b.q3 b.q4 b.q5 b.h0 b.h1 b.wh b.mode), (512, bx12 a.seq a.step a.q0 a.q1 a.q2 a.q3 a.q4 a.q5 a.h0 a.h1 a.wh a.mode)], 0⟩) else some (.ex .ret ⟨[(4, .bool false)], [], [(768, bx12 b.seq b.step b.q0 b.q1 b.q2 b.q3 b.q4 b.q5 b.h0 b.h1 b.wh b.mode), (512, bx12 a.seq a.step a.q0 a.q1 a.q2 a.q3 a.q4 a.q5 a.h0 a.h1 a.wh a.mode)], 0⟩) := by
  have lp := loop_eq (fun S => (K E A36_L0 S).bind (blockR 0 (some []) [4, 5]))
    (fun k => ⟨[(2, .ptr 512 0), (3, .ptr 768 0), (5, .int .i64 k)], [], [(768, bx12 b.seq b.step b.q0 b.q1 b.q2 b.q3 b.q4 b.q5 b.h0 b.h1 b.wh b.mode), (512, bx12 a.seq a.step a.q0 a.q1 a.q2 a.q3 a.q4 a.q5 a.h0 a.h1 a.wh a.mode)], 0⟩) a.wh b.wh h
    (some (.ex .ret ⟨[(4, .bool false)], [], [(768, bx12 b.seq b.step b.q0 b.q1 b.q2 b.q3 b.q4 b.q5 b.h0 b.h1 b.wh b.mode), (512, bx12 a.seq a.step a.q0 a.q1 a.q2 a.q3 a.q4 a.q5 a.h0 a.h1 a.wh a.mode)], 0⟩)) (some (.ex .nrm ⟨[], [], [(768, bx12 b.seq b.step b.q0 b.q1 b.q2 b.q3 b.q4 b.q5 b.h0 b.h1 b.wh b.mode), (512, bx12 a.seq a.step a.q0 a.q1 a.q2 a.q3 a.q4 a.q5 a.h0 a.h1 a.wh a.mode)], 0⟩))
    (by
      show (K E A36_L0 _).bind _ = _
      rw [A36_L0_eq]; simp +contextual -implicitDefEqProofs (maxSteps := 2000000) only [go_sem, ↓reduceIte, Nat.reduceAdd, Nat.reduceMul, Nat.reduceSub, Nat.reduceEqDiff, Nat.reduceLeDiff, Nat.reduceDiv, Nat.reduceMod, Nat.reduceBEq, Nat.reduceBNe, reduceCtorEq, Int.reduceLE, Int.reduceLT, Int.reduceToNat, Int.reduceNeg, Nat.reduceLT, Int.reduceEq, Int.reduceSub, Int.reduceAdd, Int.reduceMul, Nat.reducePow, Int.reduceBEq, Int.reduceBNe, Int.reduceMod, A36_L0b, Int.lt_irrefl, List.length_map])
    (fun k p q hk hp hq => by
      have g1 := get_c1 hp
      have g2 := get_c1 hq
      have hw := wr_succ (n := k) (by omega)
      have k1 : (k : Int) < a.wh.length := by omega
      have k2 : (k : Int) < b.wh.length := by omega
      have k0 : (0 : Int) ≤ k := by omega
      show (K E A36_L0 _).bind _ = _
      by_cases hpq : p = q
      · subst hpq
        rw [if_pos rfl]
        conv => lhs; rw [A36_L0_eq]
        simp +contextual -implicitDefEqProofs (maxSteps := 2000000) only [go_sem, ↓reduceIte, Nat.reduceAdd, Nat.reduceMul, Nat.reduceSub, Nat.reduceEqDiff, Nat.reduceLeDiff, Nat.reduceDiv, Nat.reduceMod, Nat.reduceBEq, Nat.reduceBNe, reduceCtorEq, Int.reduceLE, Int.reduceLT, Int.reduceToNat, Int.reduceNeg, Nat.reduceLT, Int.reduceEq, Int.reduceSub, Int.reduceAdd, Int.reduceMul, Nat.reducePow, Int.reduceBEq, Int.reduceBNe, Int.reduceMod, A36_L0b, k0, k1, k2, hw, g1, g2, List.length_map, bne_self_eq_false]
      · have hne : (p != q) = true := by simp [hpq]
        rw [if_neg hpq, A36_L0_eq]
        simp +contextual -implicitDefEqProofs (maxSteps := 2000000) only [go_sem, ↓reduceIte, Nat.reduceAdd, Nat.reduceMul, Nat.reduceSub, Nat.reduceEqDiff, Nat.reduceLeDiff, Nat.reduceDiv, Nat.reduceMod, Nat.reduceBEq, Nat.reduceBNe, reduceCtorEq, Int.reduceLE, Int.reduceLT, Int.reduceToNat, Int.reduceNeg, Nat.reduceLT, Int.reduceEq, Int.reduceSub, Int.reduceAdd, Int.reduceMul, Nat.reducePow, Int.reduceBEq, Int.reduceBNe, Int.reduceMod, A36_L0b, k0, k1, k2, hw, g1, g2, List.length_map, hne, hpq])
  simp only [Int.natCast_zero, Int.ofNat_zero] at lp
  exact lp
theorem c36 (a b : Rec) (hl : a.wh.length ≤ 1000000000) : pc E 36 [rv a, rv b] = some (.bool (sameR a b)) := by
  have cs : ∀ x y : Int, (x != y) = !decide (x = y) := fun x y => by rw [bne, Bool.beq_eq_decide_eq]
  have cs2 : ∀ x y : Int, (x == y) = decide (x = y) := fun x y => Bool.beq_eq_decide_eq _ _
  have hv : sameR a b = (decide (a.seq = b.seq) && (decide (a.step = b.step) && (decide (a.mode = b.mode) && ((decide (a.q0 = b.q0) && (decide (a.q1 = b.q1) && (decide (a.q2 = b.q2) && (decide (a.q3 = b.q3) && (decide (a.q4 = b.q4) && decide (a.q5 = b.q5)))))) && ((decide (a.h0 = b.h0) && decide (a.h1 = b.h1)) && (decide ((a.wh.length : Int) = b.wh.length) && decide (a.wh = b.wh))))))) := by
    unfold sameR
    rw [Bool.eq_iff_iff]
    simp only [Bool.and_eq_true, decide_eq_true_eq, rec_eq]
    constructor
    · rintro ⟨h1, h2, h3, ⟨h4, h5, h6, h7, h8, h9⟩, ⟨h10, h11⟩, h12⟩; exact ⟨h1, h2, h3, ⟨h4, h5, h6, h7, h8, h9⟩, ⟨h10, h11⟩, by rw [h12], h12⟩
    · rintro ⟨h1, h2, h3, ⟨h4, h5, h6, h7, h8, h9⟩, ⟨h10, h11⟩, h13, h12⟩; exact ⟨h1, h2, h3, ⟨h4, h5, h6, h7, h8, h9⟩, ⟨h10, h11⟩, h12⟩
  rw [hv]
  have lp := loop36 a b hl
  have n1 := cs a.seq b.seq
  have n2 := cs a.step b.step
  have n3 := cs a.mode b.mode
  have n4 := cs2 a.q0 b.q0
  have n5 := cs2 a.q1 b.q1
  have n6 := cs2 a.q2 b.q2
  have n7 := cs2 a.q3 b.q3
  have n8 := cs2 a.q4 b.q4
  have n9 := cs2 a.q5 b.q5
  have n10 := cs2 a.h0 b.h0
  have n11 := cs2 a.h1 b.h1
  have n12 := cs a.wh.length b.wh.length
  have k12 : decide ((a.wh.length : Int) = b.wh.length) = true → a.wh.length = b.wh.length := fun h => by have := of_decide_eq_true h; omega
  by_cases hq : a.wh = b.wh
  · rw [decide_eq_true hq]
    simp only [if_pos hq] at lp
    generalize decide (a.seq = b.seq) = v1 at *
    generalize decide (a.step = b.step) = v2 at *
    generalize decide (a.mode = b.mode) = v3 at *
    generalize (decide (a.q0 = b.q0)) = v4 at *
    generalize (decide (a.q1 = b.q1)) = v5 at *
    generalize (decide (a.q2 = b.q2)) = v6 at *
    generalize (decide (a.q3 = b.q3)) = v7 at *
    generalize (decide (a.q4 = b.q4)) = v8 at *
    generalize (decide (a.q5 = b.q5)) = v9 at *
    generalize (decide (a.h0 = b.h0)) = v10 at *
    generalize (decide (a.h1 = b.h1)) = v11 at *
    generalize decide ((a.wh.length : Int) = b.wh.length) = v12 at *
    cases v1
    · rw [pc_eq]; simp +contextual -implicitDefEqProofs (maxSteps := 2000000) only [go_sem, ↓reduceIte, Nat.reduceAdd, Nat.reduceMul, Nat.reduceSub, Nat.reduceEqDiff, Nat.reduceLeDiff, Nat.reduceDiv, Nat.reduceMod, Nat.reduceBEq, Nat.reduceBNe, reduceCtorEq, Int.reduceLE, Int.reduceLT, Int.reduceToNat, Int.reduceNeg, Nat.reduceLT, Int.reduceEq, Int.reduceSub, Int.reduceAdd, Int.reduceMul, Nat.reducePow, Int.reduceBEq, Int.reduceBNe, Int.reduceMod, E_36, A36, List.length_map, n1]
    cases v2
    · rw [pc_eq]; simp +contextual -implicitDefEqProofs (maxSteps := 2000000) only [go_sem, ↓reduceIte, Nat.reduceAdd, Nat.reduceMul, Nat.reduceSub, Nat.reduceEqDiff, Nat.reduceLeDiff, Nat.reduceDiv, Nat.reduceMod, Nat.reduceBEq, Nat.reduceBNe, reduceCtorEq, Int.reduceLE, Int.reduceLT, Int.reduceToNat, Int.reduceNeg, Nat.reduceLT, Int.reduceEq, Int.reduceSub, Int.reduceAdd, Int.reduceMul, Nat.reducePow, Int.reduceBEq, Int.reduceBNe, Int.reduceMod, E_36, A36, List.length_map, n1, n2]
    cases v3
    · rw [pc_eq]; simp +contextual -implicitDefEqProofs (maxSteps := 2000000) only [go_sem, ↓reduceIte, Nat.reduceAdd, Nat.reduceMul, Nat.reduceSub, Nat.reduceEqDiff, Nat.reduceLeDiff, Nat.reduceDiv, Nat.reduceMod, Nat.reduceBEq, Nat.reduceBNe, reduceCtorEq, Int.reduceLE, Int.reduceLT, Int.reduceToNat, Int.reduceNeg, Nat.reduceLT, Int.reduceEq, Int.reduceSub, Int.reduceAdd, Int.reduceMul, Nat.reducePow, Int.reduceBEq, Int.reduceBNe, Int.reduceMod, E_36, A36, List.length_map, n1, n2, n3]
    cases v12
    · rw [pc_eq]; simp +contextual -implicitDefEqProofs (maxSteps := 2000000) only [go_sem, ↓reduceIte, Nat.reduceAdd, Nat.reduceMul, Nat.reduceSub, Nat.reduceEqDiff, Nat.reduceLeDiff, Nat.reduceDiv, Nat.reduceMod, Nat.reduceBEq, Nat.reduceBNe, reduceCtorEq, Int.reduceLE, Int.reduceLT, Int.reduceToNat, Int.reduceNeg, Nat.reduceLT, Int.reduceEq, Int.reduceSub, Int.reduceAdd, Int.reduceMul, Nat.reducePow, Int.reduceBEq, Int.reduceBNe, Int.reduceMod, E_36, A36, List.length_map, n1, n2, n3, n4, n5, n6, n7, n8, n9, n10, n11, n12]
      generalize (v4 && (v5 && (v6 && (v7 && (v8 && v9))))) = u; generalize (v10 && v11) = w; cases u <;> cases w <;> rfl
    have lp := lp (k12 rfl)
    rw [pc_eq]; simp +contextual -implicitDefEqProofs (maxSteps := 2000000) only [go_sem, ↓reduceIte, Nat.reduceAdd, Nat.reduceMul, Nat.reduceSub, Nat.reduceEqDiff, Nat.reduceLeDiff, Nat.reduceDiv, Nat.reduceMod, Nat.reduceBEq, Nat.reduceBNe, reduceCtorEq, Int.reduceLE, Int.reduceLT, Int.reduceToNat, Int.reduceNeg, Nat.reduceLT, Int.reduceEq, Int.reduceSub, Int.reduceAdd, Int.reduceMul, Nat.reducePow, Int.reduceBEq, Int.reduceBNe, Int.reduceMod, E_36, A36, List.length_map, n1, n2, n3, n4, n5, n6, n7, n8, n9, n10, n11, n12, lp]
    generalize (v4 && (v5 && (v6 && (v7 && (v8 && v9))))) = u; generalize (v10 && v11) = w; cases u <;> cases w <;> rfl
  · rw [decide_eq_false hq]
    simp only [if_neg hq] at lp
    generalize decide (a.seq = b.seq) = v1 at *
    generalize decide (a.step = b.step) = v2 at *
    generalize decide (a.mode = b.mode) = v3 at *
    generalize (decide (a.q0 = b.q0)) = v4 at *
    generalize (decide (a.q1 = b.q1)) = v5 at *
    generalize (decide (a.q2 = b.q2)) = v6 at *
    generalize (decide (a.q3 = b.q3)) = v7 at *
    generalize (decide (a.q4 = b.q4)) = v8 at *
    generalize (decide (a.q5 = b.q5)) = v9 at *
    generalize (decide (a.h0 = b.h0)) = v10 at *
    generalize (decide (a.h1 = b.h1)) = v11 at *
    generalize decide ((a.wh.length : Int) = b.wh.length) = v12 at *
    cases v1
    · rw [pc_eq]; simp +contextual -implicitDefEqProofs (maxSteps := 2000000) only [go_sem, ↓reduceIte, Nat.reduceAdd, Nat.reduceMul, Nat.reduceSub, Nat.reduceEqDiff, Nat.reduceLeDiff, Nat.reduceDiv, Nat.reduceMod, Nat.reduceBEq, Nat.reduceBNe, reduceCtorEq, Int.reduceLE, Int.reduceLT, Int.reduceToNat, Int.reduceNeg, Nat.reduceLT, Int.reduceEq, Int.reduceSub, Int.reduceAdd, Int.reduceMul, Nat.reducePow, Int.reduceBEq, Int.reduceBNe, Int.reduceMod, E_36, A36, List.length_map, n1]
    cases v2
    · rw [pc_eq]; simp +contextual -implicitDefEqProofs (maxSteps := 2000000) only [go_sem, ↓reduceIte, Nat.reduceAdd, Nat.reduceMul, Nat.reduceSub, Nat.reduceEqDiff, Nat.reduceLeDiff, Nat.reduceDiv, Nat.reduceMod, Nat.reduceBEq, Nat.reduceBNe, reduceCtorEq, Int.reduceLE, Int.reduceLT, Int.reduceToNat, Int.reduceNeg, Nat.reduceLT, Int.reduceEq, Int.reduceSub, Int.reduceAdd, Int.reduceMul, Nat.reducePow, Int.reduceBEq, Int.reduceBNe, Int.reduceMod, E_36, A36, List.length_map, n1, n2]
    cases v3
    · rw [pc_eq]; simp +contextual -implicitDefEqProofs (maxSteps := 2000000) only [go_sem, ↓reduceIte, Nat.reduceAdd, Nat.reduceMul, Nat.reduceSub, Nat.reduceEqDiff, Nat.reduceLeDiff, Nat.reduceDiv, Nat.reduceMod, Nat.reduceBEq, Nat.reduceBNe, reduceCtorEq, Int.reduceLE, Int.reduceLT, Int.reduceToNat, Int.reduceNeg, Nat.reduceLT, Int.reduceEq, Int.reduceSub, Int.reduceAdd, Int.reduceMul, Nat.reducePow, Int.reduceBEq, Int.reduceBNe, Int.reduceMod, E_36, A36, List.length_map, n1, n2, n3]
    cases v12
    · rw [pc_eq]; simp +contextual -implicitDefEqProofs (maxSteps := 2000000) only [go_sem, ↓reduceIte, Nat.reduceAdd, Nat.reduceMul, Nat.reduceSub, Nat.reduceEqDiff, Nat.reduceLeDiff, Nat.reduceDiv, Nat.reduceMod, Nat.reduceBEq, Nat.reduceBNe, reduceCtorEq, Int.reduceLE, Int.reduceLT, Int.reduceToNat, Int.reduceNeg, Nat.reduceLT, Int.reduceEq, Int.reduceSub, Int.reduceAdd, Int.reduceMul, Nat.reducePow, Int.reduceBEq, Int.reduceBNe, Int.reduceMod, E_36, A36, List.length_map, n1, n2, n3, n4, n5, n6, n7, n8, n9, n10, n11, n12]
      generalize (v4 && (v5 && (v6 && (v7 && (v8 && v9))))) = u; generalize (v10 && v11) = w; cases u <;> cases w <;> rfl
    have lp := lp (k12 rfl)
    rw [pc_eq]; simp +contextual -implicitDefEqProofs (maxSteps := 2000000) only [go_sem, ↓reduceIte, Nat.reduceAdd, Nat.reduceMul, Nat.reduceSub, Nat.reduceEqDiff, Nat.reduceLeDiff, Nat.reduceDiv, Nat.reduceMod, Nat.reduceBEq, Nat.reduceBNe, reduceCtorEq, Int.reduceLE, Int.reduceLT, Int.reduceToNat, Int.reduceNeg, Nat.reduceLT, Int.reduceEq, Int.reduceSub, Int.reduceAdd, Int.reduceMul, Nat.reducePow, Int.reduceBEq, Int.reduceBNe, Int.reduceMod, E_36, A36, List.length_map, n1, n2, n3, n4, n5, n6, n7, n8, n9, n10, n11, n12, lp]
    generalize (v4 && (v5 && (v6 && (v7 && (v8 && v9))))) = u; generalize (v10 && v11) = w; cases u <;> cases w <;> rfl
end Go.Proofs.Ytjmnepfdhkabfaa

namespace Go.Proofs.Ytjmnepfdhkabfaa
set_option maxRecDepth 100000
set_option maxHeartbeats 4000000
set_option linter.unusedSimpArgs false
set_option linter.unusedVariables false
open Go Go.Zv
/-- a journal -/
structure Jnl where
  d : Dsk
  nx : Int
  at_ : Int
abbrev jl (j : Jnl) : LV := .agg [sv j.d.sec, .int .i64 j.d.fuse, .int .i64 j.d.torn, .bool j.d.down, .int .i64 j.nx, .int .i64 j.at_]
def sameJ (a b : Jnl) : Bool := decide (a.d.sec = b.d.sec ∧ a.d.fuse = b.d.fuse ∧ a.d.torn = b.d.torn ∧ a.d.down = b.d.down ∧ a.nx = b.nx ∧ a.at_ = b.at_)
abbrev bx6 (j : Jnl) : Zv.Obj := .box [sv j.d.sec, .int .i64 j.d.fuse, .int .i64 j.d.torn, .bool j.d.down, .int .i64 j.nx, .int .i64 j.at_]
end Go.Proofs.Ytjmnepfdhkabfaa

namespace Go.Proofs.Ytjmnepfdhkabfaa
set_option maxRecDepth 100000
set_option maxHeartbeats 4000000
set_option linter.unusedSimpArgs false
set_option linter.unusedVariables false
open Go Go.Zv
def wS (r : Rec) (n : Int) : Rec := ⟨n, r.step, r.q0, r.q1, r.q2, r.q3, r.q4, r.q5, r.h0, r.h1, r.wh, r.mode⟩
/-- Append -/
def apd (j : Jnl) (r : Rec) : Jnl × Int :=
  if mayB (wS r 1) = false then (j, 1) else
  if 1073741824 < j.nx then (j, 310) else
  if (wr j.d j.at_ (enc (wS r j.nx))).2 ≠ 0 then (⟨(wr j.d j.at_ (enc (wS r j.nx))).1, j.nx, j.at_⟩, (wr j.d j.at_ (enc (wS r j.nx))).2) else
  (⟨(wr j.d j.at_ (enc (wS r j.nx))).1, j.nx + 1, (((j.at_.toNat + 1) % (wr j.d j.at_ (enc (wS r j.nx))).1.sec.length : Nat) : Int)⟩, 0)
theorem may_wS {r : Rec} {n : Int} (h : mayB (wS r 1) = true) (h1 : 1 ≤ n) (h2 : n ≤ 1073741824) : OKr (wS r n) := by
  have k := (may_iff _).1 h
  exact ⟨k.q0, k.q1, k.q2, k.q3, k.q4, k.q5, k.h0, k.h1, k.wh, ⟨h1, h2⟩, k.step, k.len, k.mode⟩
end Go.Proofs.Ytjmnepfdhkabfaa

namespace Go.Proofs.Ytjmnepfdhkabfaa
set_option maxRecDepth 100000
set_option maxHeartbeats 4000000
set_option linter.unusedSimpArgs false
set_option linter.unusedVariables false
open Go Go.Zv
theorem c40a (j : Jnl) (r : Rec) (hl : r.wh.length ≤ 1000000000) (hm : mayB (wS r 1) = false) : pc E 40 [jl j, rv r] = some (.tup [jl j, .int .i64 1]) := by
  have o := c61 (wS r 1) hl
  rw [hm] at o
  dsimp only [wS] at o
  rw [pc_eq]; simp +contextual -implicitDefEqProofs (maxSteps := 2000000) only [go_sem, ↓reduceIte, Nat.reduceAdd, Nat.reduceMul, Nat.reduceSub, Nat.reduceEqDiff, Nat.reduceLeDiff, Nat.reduceDiv, Nat.reduceMod, Nat.reduceBEq, Nat.reduceBNe, reduceCtorEq, Int.reduceLE, Int.reduceLT, Int.reduceToNat, Int.reduceNeg, Nat.reduceLT, Int.reduceEq, Int.reduceSub, Int.reduceAdd, Int.reduceMul, Nat.reducePow, Int.reduceBEq, Int.reduceBNe, Int.reduceMod, E_40, A40, o]
theorem c40b (j : Jnl) (r : Rec) (hl : r.wh.length ≤ 1000000000) (hm : mayB (wS r 1) = true) (hn : 1073741824 < j.nx) : pc E 40 [jl j, rv r] = some (.tup [jl j, .int .i64 310]) := by
  have o := c61 (wS r 1) hl
  rw [hm] at o
  dsimp only [wS] at o
  rw [pc_eq]; simp +contextual -implicitDefEqProofs (maxSteps := 2000000) only [go_sem, ↓reduceIte, Nat.reduceAdd, Nat.reduceMul, Nat.reduceSub, Nat.reduceEqDiff, Nat.reduceLeDiff, Nat.reduceDiv, Nat.reduceMod, Nat.reduceBEq, Nat.reduceBNe, reduceCtorEq, Int.reduceLE, Int.reduceLT, Int.reduceToNat, Int.reduceNeg, Nat.reduceLT, Int.reduceEq, Int.reduceSub, Int.reduceAdd, Int.reduceMul, Nat.reducePow, Int.reduceBEq, Int.reduceBNe, Int.reduceMod, E_40, A40, o, hn]
theorem c40c (j : Jnl) (r : Rec) (hl : r.wh.length ≤ 1000000000) (hm : mayB (wS r 1) = true) (hn : ¬ 1073741824 < j.nx) (h1 : 1 ≤ j.nx) (h : OKd j.d) (d : Dsk) (e : Int) (he : wr j.d j.at_ (enc (wS r j.nx)) = (d, e)) (e0 : e ≠ 0) : pc E 40 [jl j, rv r] = some (.tup [jl ⟨d, j.nx, j.at_⟩, .int .i64 e]) := by
  have o := c61 (wS r 1) hl
  rw [hm] at o
  have ok := may_wS hm h1 (by omega : j.nx ≤ 1073741824)
  have o2 := c35 (wS r j.nx) ok
  have hlen := enc_len ok
  have o3 := c29 j.d h j.at_ (enc (wS r j.nx)) (by omega)
  rw [he] at o3
  dsimp only at o3
  have hq : ((enc (wS r j.nx)).map b1).length = 64 := by rw [List.length_map]; exact hlen
  have ht : ((enc (wS r j.nx)).map b1).take 64 = (enc (wS r j.nx)).map b1 := List.take_of_length_le (by omega)
  have ha := scal_b1 (enc (wS r j.nx))
  unfold bv at o3
  generalize (enc (wS r j.nx)).map b1 = er at *
  dsimp only [wS] at o o2
  have e1 : (e != 0) = true := by simp [e0]
  rw [pc_eq]; simp +contextual -implicitDefEqProofs (maxSteps := 2000000) only [go_sem, ↓reduceIte, Nat.reduceAdd, Nat.reduceMul, Nat.reduceSub, Nat.reduceEqDiff, Nat.reduceLeDiff, Nat.reduceDiv, Nat.reduceMod, Nat.reduceBEq, Nat.reduceBNe, reduceCtorEq, Int.reduceLE, Int.reduceLT, Int.reduceToNat, Int.reduceNeg, Nat.reduceLT, Int.reduceEq, Int.reduceSub, Int.reduceAdd, Int.reduceMul, Nat.reducePow, Int.reduceBEq, Int.reduceBNe, Int.reduceMod, E_40, A40, o, hn, o2, o3, hq, ht, ha, e0, e1]
theorem c40d (j : Jnl) (r : Rec) (hl : r.wh.length ≤ 1000000000) (hm : mayB (wS r 1) = true) (hn : ¬ 1073741824 < j.nx) (h1 : 1 ≤ j.nx) (h : OKd j.d) (d : Dsk) (he : wr j.d j.at_ (enc (wS r j.nx)) = (d, 0)) (n : Nat) (ha0 : j.at_ = n) (hn6 : n < 1000000) (hd1 : 1 ≤ d.sec.length) (hd2 : d.sec.length ≤ 1000) : pc E 40 [jl j, rv r] = some (.tup [jl ⟨d, j.nx + 1, (((n + 1) % d.sec.length : Nat) : Int)⟩, .int .i64 0]) := by
  have o := c61 (wS r 1) hl
  rw [hm] at o
  have ok := may_wS hm h1 (by omega : j.nx ≤ 1073741824)
  have o2 := c35 (wS r j.nx) ok
  have hlen := enc_len ok
  have o3 := c29 j.d h j.at_ (enc (wS r j.nx)) (by omega)
  rw [he] at o3
  dsimp only at o3
  have hq : ((enc (wS r j.nx)).map b1).length = 64 := by rw [List.length_map]; exact hlen
  have ht : ((enc (wS r j.nx)).map b1).take 64 = (enc (wS r j.nx)).map b1 := List.take_of_length_le (by omega)
  have ha := scal_b1 (enc (wS r j.nx))
  unfold bv at o3
  generalize (enc (wS r j.nx)).map b1 = er at *
  dsimp only [wS] at o o2
  have o4 := c68 d hd1 hd2 n hn6
  have hw : IntKind.i64.wrap (j.nx + 1) = j.nx + 1 := wrap_small (by omega) (by omega)
  rw [ha0] at o3
  rw [pc_eq]; simp +contextual -implicitDefEqProofs (maxSteps := 2000000) only [go_sem, ↓reduceIte, Nat.reduceAdd, Nat.reduceMul, Nat.reduceSub, Nat.reduceEqDiff, Nat.reduceLeDiff, Nat.reduceDiv, Nat.reduceMod, Nat.reduceBEq, Nat.reduceBNe, reduceCtorEq, Int.reduceLE, Int.reduceLT, Int.reduceToNat, Int.reduceNeg, Nat.reduceLT, Int.reduceEq, Int.reduceSub, Int.reduceAdd, Int.reduceMul, Nat.reducePow, Int.reduceBEq, Int.reduceBNe, Int.reduceMod, E_40, A40, o, hn, o2, o3, o4, ha0, hw, hq, ht, ha, bne_self_eq_false]
end Go.Proofs.Ytjmnepfdhkabfaa

namespace Go.Proofs.Ytjmnepfdhkabfaa
set_option maxRecDepth 100000
set_option maxHeartbeats 4000000
set_option linter.unusedSimpArgs false
set_option linter.unusedVariables false
open Go Go.Zv
/-- Append, whole -/
theorem c40 (j : Jnl) (r : Rec) (hl : r.wh.length ≤ 1000000000) (h1 : 1 ≤ j.nx) (h : OKd j.d) : pc E 40 [jl j, rv r] = some (.tup [jl (apd j r).1, .int .i64 (apd j r).2]) := by
  by_cases hm : mayB (wS r 1) = false
  · rw [c40a j r hl hm]; unfold apd; rw [if_pos hm]
  · have hm' : mayB (wS r 1) = true := by simpa using hm
    by_cases hn : 1073741824 < j.nx
    · rw [c40b j r hl hm' hn]; unfold apd; rw [if_neg hm, if_pos hn]
    · by_cases he : (wr j.d j.at_ (enc (wS r j.nx))).2 = 0
      · have hrange : 0 ≤ j.at_ ∧ j.at_ < j.d.sec.length ∧ (wr j.d j.at_ (enc (wS r j.nx))).1.sec.length = j.d.sec.length := by
          unfold wr at he ⊢
          split at he
          · cases he
          · rename_i hd
            rw [if_neg hd]
            split at he
            · rename_i hc
              rw [if_pos hc]
              refine ⟨hc.1, hc.2.1, ?_⟩
              split <;> simp
            · cases he
        have hlen2 := h.len2
        have hlen1 := h.len1
        rw [c40d j r hl hm' hn h1 h (wr j.d j.at_ (enc (wS r j.nx))).1 (by rw [← he]) j.at_.toNat (by omega) (by omega) (by omega) (by omega)]
        unfold apd; rw [if_neg hm, if_neg hn, if_neg (by simpa using he)]
      · rw [c40c j r hl hm' hn h1 h (wr j.d j.at_ (enc (wS r j.nx))).1 (wr j.d j.at_ (enc (wS r j.nx))).2 rfl he]
        unfold apd; rw [if_neg hm, if_neg hn, if_pos he]
end Go.Proofs.Ytjmnepfdhkabfaa

namespace Go.Proofs.Ytjmnepfdhkabfaa
set_option maxRecDepth 100000
set_option maxHeartbeats 4000000
set_option linter.unusedSimpArgs false
set_option linter.unusedVariables false
open Go Go.Zv
theorem recL_snoc (n : Nat) (b : List UInt8) : ∀ (l : List (List UInt8)) (i : Nat) (st : Rec × Int × Int), recL n (l ++ [b]) i st = rstep n (recL n l i st) (i + l.length) b
  | [], i, st => rfl
  | c :: l, i, st => by
    rw [List.cons_append, recL_cons, recL_cons, recL_snoc n b l]
    rw [List.length_cons, show i + 1 + l.length = i + (l.length + 1) by omega]
theorem recL_take {s : List (List UInt8)} {n k : Nat} {b : List UInt8} (h : s[k]? = some b) (st : Rec × Int × Int) : recL n (s.take (k + 1)) 0 st = rstep n (recL n (s.take k) 0 st) k b := by
  have hk := (List.getElem?_eq_some_iff.1 h).1
  rw [List.take_add_one, h, Option.toList_some, recL_snoc, List.length_take, Nat.zero_add, Nat.min_eq_left (by omega)]
abbrev O42 (d : Dsk) (r : Rec) (nx at_ : Int) : Heap := [(1536, .box [.int .i64 r.seq, .int .i64 r.step, .int .i64 r.q0, .int .i64 r.q1, .int .i64 r.q2, .int .i64 r.q3, .int .i64 r.q4, .int .i64 r.q5, .int .i64 r.h0, .int .i64 r.h1, .vs (r.wh.map c1), .int .i64 r.mode]),
  (1280, .box [sv d.sec, .int .i64 d.fuse, .int .i64 d.torn, .bool d.down, .int .i64 nx, .int .i64 at_]), (1281, .row 1 []),
  (768, .box [.int .i64 0, .int .i64 0, .int .i64 0, .int .i64 0, .int .i64 0, .int .i64 0, .int .i64 0, .int .i64 0, .int .i64 0, .int .i64 0, .bs 779 0 0, .int .i64 0]), (779, .row 1 []),
  (512, .box [.bs 513 0 0, .int .i64 0, .int .i64 0, .bool false, .int .i64 0, .int .i64 0]), (513, .row 1 []), (256, .box [sv d.sec, .int .i64 d.fuse, .int .i64 d.torn, .bool d.down])]
theorem lp42 (d : Dsk) (h : OKd d) (hd : d.down = false) : ∃ y : Rec × Int × Int, y = recv d.sec ∧
    (K E A42_L0 ⟨[(1, .ptr 256 0), (2, .ptr 512 0), (3, .ptr 768 0), (5, .ptr 1280 0), (6, .ptr 1536 0), (16, .int .i64 d.sec.length), (17, .int .i64 0)], [], O42 d zrec 1 0, 0⟩).bind (blockR 0 (some [2, 3, 5, 6]) [7, 8, 9, 10, 11, 23, 30, 48]) =
    some (.ex .nrm ⟨[(2, .ptr 512 0), (3, .ptr 768 0), (5, .ptr 1280 0), (6, .ptr 1536 0)], [], O42 d y.1 y.2.1 y.2.2, 0⟩) := by
  obtain ⟨s, f, t, w⟩ := d
  simp only at hd
  subst hd
  have hl1 : 1 ≤ s.length := h.len1
  have hl2 : s.length ≤ 64 := h.len2
  have lp := loop_inv (σ := Rec × Int × Int) (fun S => (K E A42_L0 S).bind (blockR 0 (some [2, 3, 5, 6]) [7, 8, 9, 10, 11, 23, 30, 48]))
    (fun k y => ⟨[(1, .ptr 256 0), (2, .ptr 512 0), (3, .ptr 768 0), (5, .ptr 1280 0), (6, .ptr 1536 0), (16, .int .i64 s.length), (17, .int .i64 k)], [], O42 ⟨s, f, t, false⟩ y.1 y.2.1 y.2.2, 0⟩)
    s.length (fun k y => y = recL s.length (s.take k) 0 (zrec, 1, 0))
    (fun k y hk hi => by
      obtain ⟨r, nx, at_⟩ := y
      have hget : s[k]? = some (s[k]'hk) := List.getElem?_eq_getElem hk
      have hlen : (s[k]'hk).length = 64 := h.all _ (List.getElem_mem hk)
      have hs := recL_take (n := s.length) hget (zrec, 1, 0)
      rw [← hi] at hs
      generalize s[k]'hk = b at *
      have h0 : (0 : Int) ≤ k := by omega
      have h1 : (k : Int) < s.length := by omega
      have o1 : pc E 25 [.agg [sv s, .int .i64 f, .int .i64 t, .bool false], .int .i64 k] = some (.tup [bv b, .int .i64 0]) := by
        rw [c25, rdv, if_neg (by decide), if_pos ⟨h0, h1⟩, Int.toNat_natCast, hget, Option.getD_some]
      have o2 := c33 b (by omega)
      have o3 := c68 ⟨s, f, t, false⟩ hl1 (by simp only; omega) k (by omega)
      simp only at o3
      have hw := wr_succ (n := k) (by omega)
      cases hdec : dec b with
      | none =>
        refine ⟨(r, nx, at_), ?_, ?_⟩
        · rw [hs]; unfold rstep; rw [hdec]
        · rw [decR, hdec] at o2
          simp only [rv, zrec, List.map_nil] at o2
          show (K E A42_L0 _).bind _ = (K E A42_L0 _).bind _
          conv => lhs; rw [A42_L0_eq]
          simp +contextual -implicitDefEqProofs (maxSteps := 2000000) only [go_sem, ↓reduceIte, Nat.reduceAdd, Nat.reduceMul, Nat.reduceSub, Nat.reduceEqDiff, Nat.reduceLeDiff, Nat.reduceDiv, Nat.reduceMod, Nat.reduceBEq, Nat.reduceBNe, reduceCtorEq, Int.reduceLE, Int.reduceLT, Int.reduceToNat, Int.reduceNeg, Nat.reduceLT, Int.reduceEq, Int.reduceSub, Int.reduceAdd, Int.reduceMul, Nat.reducePow, Int.reduceBEq, Int.reduceBNe, Int.reduceMod, A42_L0b, O42, h0, h1, o1, o2, hw]
      | some x =>
        have hok := (dec_some hdec).1
        rw [decR, hdec] at o2
        simp only [rv] at o2
        have hsq := hok.seq
        have hw2 : IntKind.i64.wrap (x.seq + 1) = x.seq + 1 := wrap_small (by omega) (by omega)
        by_cases hgt : r.seq < x.seq
        · refine ⟨(x, x.seq + 1, (((k + 1) % s.length : Nat) : Int)), ?_, ?_⟩
          · rw [hs]; unfold rstep; rw [hdec]; simp only; rw [if_pos hgt]
          · show (K E A42_L0 _).bind _ = (K E A42_L0 _).bind _
            conv => lhs; rw [A42_L0_eq]
            simp +contextual -implicitDefEqProofs (maxSteps := 2000000) only [go_sem, ↓reduceIte, Nat.reduceAdd, Nat.reduceMul, Nat.reduceSub, Nat.reduceEqDiff, Nat.reduceLeDiff, Nat.reduceDiv, Nat.reduceMod, Nat.reduceBEq, Nat.reduceBNe, reduceCtorEq, Int.reduceLE, Int.reduceLT, Int.reduceToNat, Int.reduceNeg, Nat.reduceLT, Int.reduceEq, Int.reduceSub, Int.reduceAdd, Int.reduceMul, Nat.reducePow, Int.reduceBEq, Int.reduceBNe, Int.reduceMod, A42_L0b, O42, h0, h1, o1, o2, o3, hw, hw2, hgt]
        · refine ⟨(r, nx, at_), ?_, ?_⟩
          · rw [hs]; unfold rstep; rw [hdec]; simp only; rw [if_neg hgt]
          · show (K E A42_L0 _).bind _ = (K E A42_L0 _).bind _
            conv => lhs; rw [A42_L0_eq]
            simp +contextual -implicitDefEqProofs (maxSteps := 2000000) only [go_sem, ↓reduceIte, Nat.reduceAdd, Nat.reduceMul, Nat.reduceSub, Nat.reduceEqDiff, Nat.reduceLeDiff, Nat.reduceDiv, Nat.reduceMod, Nat.reduceBEq, Nat.reduceBNe, reduceCtorEq, Int.reduceLE, Int.reduceLT, Int.reduceToNat, Int.reduceNeg, Nat.reduceLT, Int.reduceEq, Int.reduceSub, Int.reduceAdd, Int.reduceMul, Nat.reducePow, Int.reduceBEq, Int.reduceBNe, Int.reduceMod, A42_L0b, O42, h0, h1, o1, o2, o3, hw, hw2, hgt])
    (zrec, 1, 0) rfl
  obtain ⟨y, hy, hg⟩ := lp
  rw [List.take_length] at hy
  refine ⟨y, hy, ?_⟩
  simp only [Int.natCast_zero, Int.ofNat_zero] at hg
  refine hg.trans ?_
  show (K E A42_L0 _).bind _ = _
  rw [A42_L0_eq]
  simp +contextual -implicitDefEqProofs (maxSteps := 2000000) only [go_sem, ↓reduceIte, Nat.reduceAdd, Nat.reduceMul, Nat.reduceSub, Nat.reduceEqDiff, Nat.reduceLeDiff, Nat.reduceDiv, Nat.reduceMod, Nat.reduceBEq, Nat.reduceBNe, reduceCtorEq, Int.reduceLE, Int.reduceLT, Int.reduceToNat, Int.reduceNeg, Nat.reduceLT, Int.reduceEq, Int.reduceSub, Int.reduceAdd, Int.reduceMul, Nat.reducePow, Int.reduceBEq, Int.reduceBNe, Int.reduceMod, A42_L0b, Int.lt_irrefl]
theorem c42 (d : Dsk) (h : OKd d) (hd : d.down = false) : pc E 42 [dv d] = some (.tup [jl ⟨d, (recv d.sec).2.1, (recv d.sec).2.2⟩, rv (recv d.sec).1, .bool (decide (0 < (recv d.sec).1.seq))]) := by
  obtain ⟨⟨r, nx, at_⟩, hy, lp⟩ := lp42 d h hd
  rw [← hy]
  have o := c38 d
  simp only [O42, zrec, List.map_nil] at lp
  rw [pc_eq]; simp +contextual -implicitDefEqProofs (maxSteps := 2000000) only [go_sem, ↓reduceIte, Nat.reduceAdd, Nat.reduceMul, Nat.reduceSub, Nat.reduceEqDiff, Nat.reduceLeDiff, Nat.reduceDiv, Nat.reduceMod, Nat.reduceBEq, Nat.reduceBNe, reduceCtorEq, Int.reduceLE, Int.reduceLT, Int.reduceToNat, Int.reduceNeg, Nat.reduceLT, Int.reduceEq, Int.reduceSub, Int.reduceAdd, Int.reduceMul, Nat.reducePow, Int.reduceBEq, Int.reduceBNe, Int.reduceMod, E_42, A42, o, List.length_map, O42, lp, gt_iff_lt]
end Go.Proofs.Ytjmnepfdhkabfaa

/- The engine, part 32: a call without free variables, evaluated with fuel. -/
namespace Go.Zv
set_option autoImplicit false
theorem pc_of_run {E : FuncId → Option AFn} (n : Nat) {f : FuncId} {args : List LV} {v : LV} (h : pureCall (run E n) f args = some v) : pc E f args = some v :=
  (nice_pure f args).mono (fun _ _ h => Run_iff.2 ⟨n, h⟩) h
end Go.Zv

namespace Go.Proofs.Ytjmnepfdhkabfaa
set_option maxRecDepth 100000
set_option maxHeartbeats 4000000
set_option linter.unusedSimpArgs false
set_option linter.unusedVariables false
open Go Go.Zv
theorem c31 : pc E 31 [] = some (.bool true) := by
  refine pc_of_run 4000 ?_
  kernel_rfl
end Go.Proofs.Ytjmnepfdhkabfaa

namespace Go.Proofs.Ytjmnepfdhkabfaa
set_option maxRecDepth 100000
set_option maxHeartbeats 4000000
set_option linter.unusedSimpArgs false
set_option linter.unusedVariables false
open Go Go.Zv
theorem apd_bad {j : Jnl} {r : Rec} (hm : mayB (wS r 1) = false) : apd j r = (j, 1) := by unfold apd; rw [if_pos hm]
/-- what the sector held -/
def oldS (j : Jnl) : List UInt8 := j.d.sec[j.at_.toNat]?.getD []
theorem old_len {j : Jnl} {last : Rec} (h : JI j.d j.nx j.at_ last) : (oldS j).length = 64 := by
  have hat := h.at_lt
  have hlt : j.at_.toNat < j.d.sec.length := by omega
  unfold oldS
  rw [List.getElem?_eq_getElem hlt, Option.getD_some]
  exact h.ok.all _ (List.getElem_mem hlt)
theorem apd_ok {j : Jnl} {last r : Rec} (h : JI j.d j.nx j.at_ last) (hd : j.d.down = false) (hf : j.d.fuse ≠ 1) (hm : mayB (wS r 1) = true) (hn : j.nx ≤ 1073741824) :
    apd j r = (⟨⟨j.d.sec.set j.at_.toNat (over (enc (wS r j.nx)) (oldS j)), if j.d.fuse > 1 then j.d.fuse - 1 else j.d.fuse, j.d.torn, false⟩, j.nx + 1, (((j.at_.toNat + 1) % j.d.sec.length : Nat) : Int)⟩, 0) := by
  have hnx := h.nx_eq
  have hnn := h.nn
  have ok := may_wS hm (by omega : 1 ≤ j.nx) hn
  have hl := enc_len ok
  have hat := h.at_lt
  have hw : wr j.d j.at_ (enc (wS r j.nx)) = (⟨j.d.sec.set j.at_.toNat (over (enc (wS r j.nx)) (oldS j)), if j.d.fuse > 1 then j.d.fuse - 1 else j.d.fuse, j.d.torn, false⟩, 0) := by
    unfold wr
    rw [if_neg (by rw [hd]; decide), if_pos ⟨hat.1, hat.2, by omega⟩, if_neg hf]
    rfl
  unfold apd
  rw [if_neg (by rw [hm]; decide), if_neg (by omega), hw]
  simp only
  rw [if_neg (by decide), List.length_set]
theorem apd_cut {j : Jnl} {last r : Rec} (h : JI j.d j.nx j.at_ last) (hd : j.d.down = false) (hf : j.d.fuse = 1) (hm : mayB (wS r 1) = true) (hn : j.nx ≤ 1073741824) :
    apd j r = (⟨⟨j.d.sec.set j.at_.toNat (over ((enc (wS r j.nx)).take j.d.torn.toNat) (oldS j)), -1, 0, true⟩, j.nx, j.at_⟩, 300) := by
  have hnx := h.nx_eq
  have hnn := h.nn
  have ok := may_wS hm (by omega : 1 ≤ j.nx) hn
  have hl := enc_len ok
  have hat := h.at_lt
  have hw : wr j.d j.at_ (enc (wS r j.nx)) = (⟨j.d.sec.set j.at_.toNat (over ((enc (wS r j.nx)).take j.d.torn.toNat) (oldS j)), -1, 0, true⟩, 300) := by
    unfold wr
    rw [if_neg (by rw [hd]; decide), if_pos ⟨hat.1, hat.2, by omega⟩, if_pos hf]
    rfl
  unfold apd
  rw [if_neg (by rw [hm]; decide), if_neg (by omega), hw]
  simp only
  rw [if_pos (by decide)]
/-- a record put whole -/
theorem JI.app {j : Jnl} {last r : Rec} (h : JI j.d j.nx j.at_ last) (hd : j.d.down = false) (hf : j.d.fuse ≠ 1) (hm : mayB (wS r 1) = true) (hn : j.nx ≤ 1073741824) :
    ∃ j' : Jnl, apd j r = (j', 0) ∧ JI j'.d j'.nx j'.at_ (wS r j.nx) ∧ j'.nx = j.nx + 1 ∧ j'.d.down = false ∧ j'.d.sec.length = j.d.sec.length ∧ j'.d.torn = j.d.torn ∧ j'.d.fuse = (if j.d.fuse > 1 then j.d.fuse - 1 else j.d.fuse) := by
  have hnx := h.nx_eq
  have hnn := h.nn
  have ok := may_wS hm (by omega : 1 ≤ j.nx) hn
  have hfu := h.ok.fuse
  refine ⟨_, apd_ok h hd hf hm hn, ?_, rfl, rfl, by simp, rfl, rfl⟩
  simp only
  refine JI.put h ok rfl ?_ h.ok.torn0 h.ok.torn1 (oldS j) (old_len h)
  split <;> omega
/-- a record cut -/
theorem JI.cut {j : Jnl} {last r : Rec} (h : JI j.d j.nx j.at_ last) (hd : j.d.down = false) (hf : j.d.fuse = 1) (hm : mayB (wS r 1) = true) (hn : j.nx ≤ 255) (h2 : 2 ≤ j.d.sec.length) :
    ∃ d' : Dsk, apd j r = (⟨d', j.nx, j.at_⟩, 300) ∧ d'.down = true ∧ d'.sec.length = j.d.sec.length ∧ d'.fuse = -1 ∧
      ((j.d.torn = 64 ∧ JI ⟨d'.sec, d'.fuse, d'.torn, false⟩ (j.nx + 1) (((j.at_.toNat + 1) % j.d.sec.length : Nat) : Int) (wS r j.nx)) ∨ (j.d.torn ≠ 64 ∧ JI ⟨d'.sec, d'.fuse, d'.torn, false⟩ j.nx j.at_ last)) := by
  have hnx := h.nx_eq
  have hnn := h.nn
  have ok := may_wS hm (by omega : 1 ≤ j.nx) (by omega : j.nx ≤ 1073741824)
  have hl := enc_len ok
  have h0 := h.ok.torn0
  have h1 := h.ok.torn1
  refine ⟨_, apd_cut h hd hf hm (by omega), rfl, by simp, rfl, ?_⟩
  by_cases ht : j.d.torn = 64
  · refine .inl ⟨ht, ?_⟩
    simp only
    rw [ht, show ((64 : Int).toNat) = 64 from rfl, List.take_of_length_le (by omega)]
    exact JI.put h ok rfl (.inl rfl) (by omega) (by omega) (oldS j) (old_len h)
  · refine .inr ⟨ht, ?_⟩
    have hk : j.d.torn.toNat < 64 := by omega
    simp only
    exact JI.torn h h2 ok (show (wS r j.nx).seq ≤ 255 from hn) (by omega) hk (.inl rfl) (by omega) (by omega)
end Go.Proofs.Ytjmnepfdhkabfaa

namespace Go.Proofs.Ytjmnepfdhkabfaa
set_option maxRecDepth 100000
set_option maxHeartbeats 4000000
set_option linter.unusedSimpArgs false
set_option linter.unusedVariables false
open Go Go.Zv
abbrev rcl (r : Rec) : List LV := [.int .i64 r.seq, .int .i64 r.step, .int .i64 r.q0, .int .i64 r.q1, .int .i64 r.q2, .int .i64 r.q3, .int .i64 r.q4, .int .i64 r.q5, .int .i64 r.h0, .int .i64 r.h1, .vs (r.wh.map c1), .int .i64 r.mode]
abbrev jcl (j : Jnl) : List LV := [sv j.d.sec, .int .i64 j.d.fuse, .int .i64 j.d.torn, .bool j.d.down, .int .i64 j.nx, .int .i64 j.at_]
theorem get_r {l : List Rec} {i : Nat} {p : Rec} (h : l[i]? = some p) : (l.map rcl)[i]? = some (rcl p) := by rw [List.getElem?_map, h]; rfl
theorem sameJ_self (j : Jnl) : sameJ j j = true := by unfold sameJ; simp
theorem sameR_self (r : Rec) : sameR r r = true := by unfold sameR; simp
abbrev S11 (l : List Rec) (k : Nat) (j : Jnl) (r : Rec) : St := ⟨[(1, .vs (l.map rcl)), (5, .bool true), (6, .ptr 1536 0), (7, .ptr 1792 0), (8, .int .i64 k)], [], [(1792, .box (rcl r)), (1536, .box (jcl j))], 0⟩
theorem jsec {d : Dsk} (h : OKd d) : d.sec.length ≤ 1000000 ∧ ∀ s ∈ d.sec, s.length ≤ 1000000 := ⟨by have := h.len2; omega, fun s hs => by have := h.all s hs; omega⟩
end Go.Proofs.Ytjmnepfdhkabfaa

namespace Go.Proofs.Ytjmnepfdhkabfaa
set_option maxRecDepth 100000
set_option maxHeartbeats 4000000
set_option linter.unusedSimpArgs false
set_option linter.unusedVariables false
open Go Go.Zv
abbrev S12 (l : List Rec) (d0 : Dsk) (k : Nat) (j : Jnl) (r : Rec) : St := ⟨[(1, .vs (l.map rcl)), (9, .bool true), (10, .ptr 2560 0), (11, .ptr 2816 0), (12, .ptr 3072 0), (13, .int .i64 k)], [], [(3072, .box (rcl r)), (2816, .box (jcl j)), (2560, .box [sv d0.sec, .int .i64 d0.fuse, .int .i64 d0.torn, .bool d0.down])], 0⟩
abbrev D12 : List Nat := [8, 13, 14, 15, 16, 17, 18, 19, 20, 21, 22, 55, 70, 82, 83, 89, 99]
end Go.Proofs.Ytjmnepfdhkabfaa

namespace Go.Proofs.Ytjmnepfdhkabfaa
set_option maxRecDepth 100000
set_option maxHeartbeats 4000000
set_option linter.unusedSimpArgs false
set_option linter.unusedVariables false
open Go Go.Zv
def u2 (p : UInt8 × UInt8) : List LV := [.int .u8 p.1.toNat, .int .u8 p.2.toNat]
theorem get_u2 {l : List (UInt8 × UInt8)} {i : Nat} {p : UInt8 × UInt8} (h : l[i]? = some p) : (l.map u2)[i]? = some [.int .u8 p.1.toNat, .int .u8 p.2.toNat] := by rw [List.getElem?_map, h]; rfl
abbrev D13 : List Nat := [6, 9, 10, 11, 12, 13, 14, 15, 16, 17, 18, 19, 47, 86, 97, 98, 105, 106, 131]
abbrev T13 (l : List Rec) (m : List (UInt8 × UInt8)) (np : Nat) (sure k : Int) : Env := [(1, .vs (l.map rcl)), (2, .vs (m.map u2)), (7, .bool true), (8, .ptr 2048 0), (9, .bs 9216 0 np), (10, .int .i64 sure), (11, .int .i64 k)]
/-- the search among what was put -/
theorem in13 (l : List Rec) (m : List (UInt8 × UInt8)) (put : List Rec) (hp : ∀ p ∈ put, p.wh.length ≤ 1000000000) (hpl : put.length ≤ 1000000) (sure k : Int) (j : Jnl) (mj : List LV) (r : Rec) (Z : List (List LV)) (is f0 : Bool) :
    (K E A13_L0 ⟨[(1, .vs (l.map rcl)), (2, .vs (m.map u2)), (7, .bool true), (8, .ptr 2048 0), (9, .bs 9216 0 put.length), (10, .int .i64 sure), (11, .int .i64 k), (15, .ptr 3840 0), (16, .ptr 4096 0), (17, .bool is), (18, .bool f0), (19, .int .i64 0)], [], [(4096, .box (rcl r)), (4107, .row 1 []), (3840, .box mj), (3841, .row 1 []), (24832, .row 12 Z), (9216, .row 12 (put.map rcl)), (2048, .box (jcl j))], 0⟩).bind (blockR 2 (some [1, 2, 7, 8, 9, 10, 11, 15, 16, 18]) [19]) =
    some (.ex .nrm ⟨[(1, .vs (l.map rcl)), (2, .vs (m.map u2)), (7, .bool true), (8, .ptr 2048 0), (9, .bs 9216 0 put.length), (10, .int .i64 sure), (11, .int .i64 k), (15, .ptr 3840 0), (16, .ptr 4096 0), (18, .bool (f0 || (is && put.any fun p => sameR p r)))], [], [(4096, .box (rcl r)), (4107, .row 1 []), (3840, .box mj), (3841, .row 1 []), (24832, .row 12 Z), (9216, .row 12 (put.map rcl)), (2048, .box (jcl j))], 0⟩) := by
  have lp := loop_foldl (fun S => (K E A13_L0 S).bind (blockR 2 (some [1, 2, 7, 8, 9, 10, 11, 15, 16, 18]) [19]))
    (fun a (f : Bool) => ⟨[(1, .vs (l.map rcl)), (2, .vs (m.map u2)), (7, .bool true), (8, .ptr 2048 0), (9, .bs 9216 0 put.length), (10, .int .i64 sure), (11, .int .i64 k), (15, .ptr 3840 0), (16, .ptr 4096 0), (17, .bool is), (18, .bool f), (19, .int .i64 a)], [], [(4096, .box (rcl r)), (4107, .row 1 []), (3840, .box mj), (3841, .row 1 []), (24832, .row 12 Z), (9216, .row 12 (put.map rcl)), (2048, .box (jcl j))], 0⟩)
    put (fun f p => f || (is && sameR p r)) (fun _ => True) (fun a p f ha hget _ => ⟨trivial, by
      have g := get_r hget
      have a0 : (0 : Int) ≤ a := by omega
      have a1 : (a : Int) < put.length := by omega
      have hw := wr_succ (n := a) (by omega)
      have o36 := c36 p r (hp p (List.mem_of_getElem? hget))
      unfold rv at o36
      have hlen : (put.map rcl).length = put.length := List.length_map ..
      have htk : (put.map rcl).take put.length = put.map rcl := List.take_of_length_le (by omega)
      generalize sameR p r = u at *
      show (K E A13_L0 _).bind _ = (K E A13_L0 _).bind _
      conv => lhs; rw [A13_L0_eq]
      cases f
      · cases is
        · simp +contextual -implicitDefEqProofs (maxSteps := 2000000) only [go_sem, ↓reduceIte, Nat.reduceAdd, Nat.reduceMul, Nat.reduceSub, Nat.reduceEqDiff, Nat.reduceLeDiff, Nat.reduceDiv, Nat.reduceMod, Nat.reduceBEq, Nat.reduceBNe, reduceCtorEq, Int.reduceLE, Int.reduceLT, Int.reduceToNat, Int.reduceNeg, Nat.reduceLT, Int.reduceEq, Int.reduceSub, Int.reduceAdd, Int.reduceMul, Nat.reducePow, Int.reduceBEq, Int.reduceBNe, Int.reduceMod, A13_L0b, a0, a1, hw, g, o36, hlen, htk, Nat.le_refl]
        · cases u <;> simp +contextual -implicitDefEqProofs (maxSteps := 2000000) only [go_sem, ↓reduceIte, Nat.reduceAdd, Nat.reduceMul, Nat.reduceSub, Nat.reduceEqDiff, Nat.reduceLeDiff, Nat.reduceDiv, Nat.reduceMod, Nat.reduceBEq, Nat.reduceBNe, reduceCtorEq, Int.reduceLE, Int.reduceLT, Int.reduceToNat, Int.reduceNeg, Nat.reduceLT, Int.reduceEq, Int.reduceSub, Int.reduceAdd, Int.reduceMul, Nat.reducePow, Int.reduceBEq, Int.reduceBNe, Int.reduceMod, A13_L0b, a0, a1, hw, g, o36, hlen, htk, Nat.le_refl]
      · simp +contextual -implicitDefEqProofs (maxSteps := 2000000) only [go_sem, ↓reduceIte, Nat.reduceAdd, Nat.reduceMul, Nat.reduceSub, Nat.reduceEqDiff, Nat.reduceLeDiff, Nat.reduceDiv, Nat.reduceMod, Nat.reduceBEq, Nat.reduceBNe, reduceCtorEq, Int.reduceLE, Int.reduceLT, Int.reduceToNat, Int.reduceNeg, Nat.reduceLT, Int.reduceEq, Int.reduceSub, Int.reduceAdd, Int.reduceMul, Nat.reducePow, Int.reduceBEq, Int.reduceBNe, Int.reduceMod, A13_L0b, a0, a1, hw, g, o36, hlen, htk, Nat.le_refl]⟩) f0 trivial
  have e : ∀ (l : List Rec) (f : Bool), l.foldl (fun f p => f || (is && sameR p r)) f = (f || (is && l.any fun p => sameR p r)) := by
    intro l
    induction l with
    | nil => intro f; simp
    | cons p l ih => intro f; rw [List.foldl_cons, ih, List.any_cons]; cases f <;> cases is <;> simp
  rw [e] at lp
  simp only [Int.natCast_zero, Int.ofNat_zero] at lp
  refine lp.trans ?_
  show (K E A13_L0 _).bind _ = _
  rw [A13_L0_eq]
  simp +contextual -implicitDefEqProofs (maxSteps := 2000000) only [go_sem, ↓reduceIte, Nat.reduceAdd, Nat.reduceMul, Nat.reduceSub, Nat.reduceEqDiff, Nat.reduceLeDiff, Nat.reduceDiv, Nat.reduceMod, Nat.reduceBEq, Nat.reduceBNe, reduceCtorEq, Int.reduceLE, Int.reduceLT, Int.reduceToNat, Int.reduceNeg, Nat.reduceLT, Int.reduceEq, Int.reduceSub, Int.reduceAdd, Int.reduceMul, Nat.reducePow, Int.reduceBEq, Int.reduceBNe, Int.reduceMod, A13_L0b, Int.lt_irrefl]
end Go.Proofs.Ytjmnepfdhkabfaa

namespace Go.Proofs.Ytjmnepfdhkabfaa
set_option maxRecDepth 100000
set_option maxHeartbeats 4000000
set_option linter.unusedSimpArgs false
set_option linter.unusedVariables false
open Go Go.Zv
structure X13 where
  j : Jnl
  last : Rec
  put : List Rec
structure Iv13 (n0 : Nat) (k : Nat) (x : X13) : Prop where
  ji : JI x.j.d x.j.nx x.j.at_ x.last
  down : x.j.d.down = false
  len : x.j.d.sec.length = n0
  fuse : x.j.d.fuse = -1 ∨ x.j.d.fuse = 1
  nx : x.j.nx ≤ k + 1
  mem : x.last.seq = 0 ∨ x.last ∈ x.put
  wh : ∀ p ∈ x.put, p.wh.length ≤ 100
  pl : x.put.length ≤ k
abbrev S13 (l : List Rec) (m : List (UInt8 × UInt8)) (k : Nat) (x : X13) : St := ⟨T13 l m x.put.length x.last.seq k, [], [(9216, .row 12 (x.put.map rcl)), (2048, .box (jcl x.j))], 0⟩
/-- what the cuts do to the journal ahead of a record -/
def armJ (m : List (UInt8 × UInt8)) (k : Nat) (j : Jnl) : Jnl :=
  match m[k]? with
  | some c => if c.1.toNat % 3 = 0 then ⟨⟨j.d.sec, 1, ((c.2.toNat % 65 : Nat) : Int), j.d.down⟩, j.nx, j.at_⟩ else j
  | none => j
theorem arm_inv {m : List (UInt8 × UInt8)} {n0 k : Nat} {x : X13} (h : Iv13 n0 k x) : Iv13 n0 k ⟨armJ m k x.j, x.last, x.put⟩ := by
  obtain ⟨⟨⟨s, f, t, w⟩, n, i⟩, last, put⟩ := x
  have h0 := h.ji
  have hd := h.down
  simp only at h0 hd
  subst hd
  unfold armJ
  cases m[k]? with
  | none => exact h
  | some c =>
    simp only
    split
    · have ht : c.2.toNat % 65 < 65 := Nat.mod_lt _ (by omega)
      exact ⟨h0.up 1 _ false (.inr ⟨by omega, by omega⟩) (by omega) (by omega), rfl, h.len, .inr rfl, h.nx, h.mem, h.wh, h.pl⟩
    · exact h
end Go.Proofs.Ytjmnepfdhkabfaa

namespace Go.Proofs.Ytjmnepfdhkabfaa
set_option maxRecDepth 100000
set_option maxHeartbeats 4000000
set_option linter.unusedSimpArgs false
set_option linter.unusedVariables false
open Go Go.Zv
theorem lp13 (l : List Rec) (hl : l.length ≤ 100) (m : List (UInt8 × UInt8)) (hml : m.length ≤ 100) (n0 : Nat) (h2 : 2 ≤ n0) (h64 : n0 ≤ 64) (x0 : X13) (h0 : Iv13 n0 0 x0) :
    ((∃ Y, (K E A13_L1 (S13 l m 0 x0)).bind (blockR 0 (some [7]) D13) = some (.ex .nrm ⟨[(7, .bool true)], [], Y, 0⟩)) ∨ ∃ X, (K E A13_L1 (S13 l m 0 x0)).bind (blockR 0 (some [7]) D13) = some (.ex .ret ⟨[(6, .bool true)], [], X, 0⟩)) := by
  have lp := loop_P (σ := X13) (fun S => (K E A13_L1 S).bind (blockR 0 (some [7]) D13))
    (fun k x => S13 l m k x) l.length (fun k x => Iv13 n0 k x)
    (fun k x o => (∃ Y, o = some (.ex .nrm ⟨[(7, .bool true)], [], Y, 0⟩)) ∨ ∃ X, o = some (.ex .ret ⟨[(6, .bool true)], [], X, 0⟩))
    (fun x hi => by
      refine .inl ⟨[(9216, .row 12 (x.put.map rcl)), (2048, .box (jcl x.j))], ?_⟩
      show (K E A13_L1 _).bind _ = _
      rw [A13_L1_eq]; simp +contextual -implicitDefEqProofs (maxSteps := 2000000) only [go_sem, ↓reduceIte, Nat.reduceAdd, Nat.reduceMul, Nat.reduceSub, Nat.reduceEqDiff, Nat.reduceLeDiff, Nat.reduceDiv, Nat.reduceMod, Nat.reduceBEq, Nat.reduceBNe, reduceCtorEq, Int.reduceLE, Int.reduceLT, Int.reduceToNat, Int.reduceNeg, Nat.reduceLT, Int.reduceEq, Int.reduceSub, Int.reduceAdd, Int.reduceMul, Nat.reducePow, Int.reduceBEq, Int.reduceBNe, Int.reduceMod, A13_L1b, T13, D13, Int.lt_irrefl, List.length_map])
    (fun k x hk hi => by
      have hget : l[k]? = some (l[k]'hk) := List.getElem?_eq_getElem hk
      generalize l[k]'hk = r at *
      have g := get_r hget
      have k0 : (0 : Int) ≤ k := by omega
      have k1 : (k : Int) < l.length := by omega
      have hw := wr_succ (n := k) (by omega)
      have o32 := c32 r
      unfold rv at o32
      by_cases hg : 100 < r.wh.length
      · rw [decide_eq_true hg] at o32
        refine .inl (.inr ⟨[(9216, .row 12 (x.put.map rcl)), (2048, .box (jcl x.j))], ?_⟩)
        show (K E A13_L1 _).bind _ = _
        rw [A13_L1_eq]
        simp +contextual -implicitDefEqProofs (maxSteps := 2000000) only [go_sem, ↓reduceIte, Nat.reduceAdd, Nat.reduceMul, Nat.reduceSub, Nat.reduceEqDiff, Nat.reduceLeDiff, Nat.reduceDiv, Nat.reduceMod, Nat.reduceBEq, Nat.reduceBNe, reduceCtorEq, Int.reduceLE, Int.reduceLT, Int.reduceToNat, Int.reduceNeg, Nat.reduceLT, Int.reduceEq, Int.reduceSub, Int.reduceAdd, Int.reduceMul, Nat.reducePow, Int.reduceBEq, Int.reduceBNe, Int.reduceMod, A13_L1b, T13, D13, k0, k1, g, o32, List.length_map]
      rw [decide_eq_false hg] at o32
      -- the cut
      have ha := arm_inv (m := m) hi
      have hplen := hi.pl
      have hb : x.put.length + 1 ≤ 1000000000 := by omega
      have hlen : (x.put.map rcl).length = x.put.length := List.length_map ..
      have htk : (x.put.map rcl).take x.put.length = x.put.map rcl := List.take_of_length_le (by omega)
      obtain ⟨⟨⟨s, f, t, w⟩, n, i⟩, last, put⟩ := x
      simp only at hplen hb hlen htk
      cases hmk : m[k]? with
      | none =>
        have hA : ¬ ((k : Int) < m.length) := by have := List.getElem?_eq_none_iff.1 hmk; omega
        rw [show armJ m k ⟨⟨s, f, t, w⟩, n, i⟩ = ⟨⟨s, f, t, w⟩, n, i⟩ from by unfold armJ; rw [hmk]] at ha
        have hJ := ha.ji
        have hd := ha.down
        have hs := ha.len
        have hfu := ha.fuse
        have hn := ha.nx
        have hmem := ha.mem
        have hwh := ha.wh
        simp only at hJ hd hs hfu hn hmem hwh
        subst hd
        have hnx := hJ.nx_eq
        have hnn := hJ.nn
        have hat := hJ.at_lt
        have o40 := c40 ⟨⟨s, f, t, false⟩, n, i⟩ r (by omega) (by first | omega | (simp only; omega)) hJ.ok
        have wln : IntKind.i64.wrap (last.seq + 1) = last.seq + 1 := wrap_small (by omega) (by omega)
        have hplen2 : put.length ≤ 1000000000 := by omega
        have hlw : last.wh.length ≤ 1000000000 := by
          by_cases hz : last.seq = 0
          · rw [(hJ.zero hz).1]; simp [zrec]
          · have := ((hJ.pos hz).1).len; omega
        cases hm : mayB (wS r 1) with
        | false =>
          rw [apd_bad hm] at o40
          simp only at o40
          refine .inr ⟨⟨⟨⟨s, f, t, false⟩, n, i⟩, last, put⟩, ⟨hJ, rfl, hs, hfu, by first | omega | (simp only; omega), hmem, hwh, by first | omega | (simp only; omega)⟩, ?_, fun o h => h⟩
          show (K E A13_L1 _).bind _ = (K E A13_L1 _).bind _
          conv => lhs; rw [A13_L1_eq]
          simp +contextual -implicitDefEqProofs (maxSteps := 2000000) only [go_sem, ↓reduceIte, Nat.reduceAdd, Nat.reduceMul, Nat.reduceSub, Nat.reduceEqDiff, Nat.reduceLeDiff, Nat.reduceDiv, Nat.reduceMod, Nat.reduceBEq, Nat.reduceBNe, reduceCtorEq, Int.reduceLE, Int.reduceLT, Int.reduceToNat, Int.reduceNeg, Nat.reduceLT, Int.reduceEq, Int.reduceSub, Int.reduceAdd, Int.reduceMul, Nat.reducePow, Int.reduceBEq, Int.reduceBNe, Int.reduceMod, A13_L1b, T13, D13, k0, k1, g, o32, o40, hw, wln, hb, hplen2, hlen, htk, List.length_map, bne_self_eq_false, beq_self_eq_true, gt_iff_lt, hA]
        | true =>
          have hp2 : ∀ p ∈ put ++ [wS r n], p.wh.length ≤ 100 := fun p hp => by
            rcases List.mem_append.1 hp with h | h
            · exact hwh p h
            · rw [List.mem_singleton.1 h]; show r.wh.length ≤ 100; omega
          have hp3 : ∀ p ∈ put ++ [wS r n], p.wh.length ≤ 1000000000 := fun p hp => by have := hp2 p hp; omega
          have hpl3 : (put ++ [wS r n]).length ≤ 1000000 := by rw [List.length_append]; simp; omega
          have hpl4 : (put ++ [wS r n]).length = put.length + 1 := by rw [List.length_append]; rfl
          have eapp : put.map rcl ++ [[.int .i64 n, .int .i64 r.step, .int .i64 r.q0, .int .i64 r.q1, .int .i64 r.q2, .int .i64 r.q3, .int .i64 r.q4, .int .i64 r.q5, .int .i64 r.h0, .int .i64 r.h1, .vs (r.wh.map c1), .int .i64 r.mode]] = (put ++ [wS r n]).map rcl := by rw [List.map_append]; rfl
          by_cases hf : (f : Int) = 1
          · obtain ⟨d', e40, hdn, hlen', hfu', hcut⟩ := hJ.cut (j := ⟨⟨s, f, t, false⟩, n, i⟩) rfl hf hm (by first | omega | (simp only; omega)) (by first | omega | (simp only; omega))
            rw [e40] at o40
            simp only at o40
            obtain ⟨s', f', t', w'⟩ := d'
            simp only at hdn hlen' hfu' hcut
            subst hdn
            have o30 := c30 s' f' t' true
            have hls : s'.length = s.length := hlen'
            rcases hcut with ⟨h64, hJ'⟩ | ⟨h64, hJ'⟩
            · have hmod := Nat.mod_lt (i.toNat + 1) (show 0 < s.length by omega)
              have o42 := c42 ⟨s', f', t', false⟩ hJ'.ok rfl
              have hre := hJ'.rec_ok
              simp only at hre
              rw [hre] at o42
              simp only at o42
              have hpos : 0 < n := by omega
              rw [decide_eq_true (show 0 < (wS r n).seq from hpos)] at o42
              have inn := in13 l m (put ++ [wS r n]) hp3 hpl3 last.seq k ⟨⟨s', f', t', true⟩, n, i⟩ (jcl ⟨⟨s', f', t', false⟩, n + 1, (((i.toNat + 1) % s.length : Nat) : Int)⟩) (wS r n) [rcl (wS r n)] true false
              rw [show (false || (true && (put ++ [wS r n]).any fun p => sameR p (wS r n))) = true from by
                simp only [Bool.false_or, Bool.true_and, List.any_eq_true]
                exact ⟨wS r n, by simp, sameR_self _⟩] at inn
              have hz2 : ¬ n < last.seq := by omega
              have w3 : IntKind.i64.wrap (n + 1) = n + 1 := wrap_small (by omega) (by omega)
              have ha2 : ¬ ((((i.toNat + 1) % s.length : Nat) : Int)) < 0 := by omega
              have ha3 : ¬ ((s'.length : Int) ≤ ((((i.toNat + 1) % s.length : Nat) : Int))) := by omega
              have ha4 : ((((i.toNat + 1) % s.length : Nat) : Int)) < s'.length := by omega
              refine .inr ⟨⟨⟨⟨s', f', t', false⟩, n + 1, (((i.toNat + 1) % s.length : Nat) : Int)⟩, wS r n, put ++ [wS r n]⟩, ⟨hJ', rfl, by first | omega | (simp only; omega), .inl hfu', by first | omega | (simp only; omega), .inr (by simp), hp2, by first | omega | (simp only; omega)⟩, ?_, fun o h => h⟩
              generalize hat2 : (((i.toNat + 1) % s.length : Nat) : Int) = at2 at *
              rw [hpl4] at inn
              unfold S13 T13 D13
              simp only [hpl4]
              rw [← eapp] at inn ⊢
              dsimp only [wS] at o42 inn ⊢
              show (K E A13_L1 _).bind _ = (K E A13_L1 _).bind _
              conv => lhs; rw [A13_L1_eq]
              simp +contextual -implicitDefEqProofs (maxSteps := 2000000) only [go_sem, ↓reduceIte, Nat.reduceAdd, Nat.reduceMul, Nat.reduceSub, Nat.reduceEqDiff, Nat.reduceLeDiff, Nat.reduceDiv, Nat.reduceMod, Nat.reduceBEq, Nat.reduceBNe, reduceCtorEq, Int.reduceLE, Int.reduceLT, Int.reduceToNat, Int.reduceNeg, Nat.reduceLT, Int.reduceEq, Int.reduceSub, Int.reduceAdd, Int.reduceMul, Nat.reducePow, Int.reduceBEq, Int.reduceBNe, Int.reduceMod, A13_L1b, k0, k1, g, o32, o40, hw, wln, hb, hplen2, hlen, htk, List.length_map, bne_self_eq_false, beq_self_eq_true, gt_iff_lt, hA, o30, o42, inn, hz2, w3, ha2, ha3, ha4, List.length_append, ge_iff_le]
            · have o42 := c42 ⟨s', f', t', false⟩ hJ'.ok rfl
              have hre := hJ'.rec_ok
              simp only at hre
              rw [hre] at o42
              simp only at o42
              have hz2 : ¬ last.seq < last.seq := by omega
              have ha2 : ¬ i < 0 := by have : 0 ≤ i := hat.1; omega
              have ha3 : ¬ ((s'.length : Int) ≤ i) := by have : i < s.length := hat.2; omega
              have ha4 : i < s'.length := by omega
              refine .inr ⟨⟨⟨⟨s', f', t', false⟩, n, i⟩, last, put ++ [wS r n]⟩, ⟨hJ', rfl, by first | omega | (simp only; omega), .inl hfu', by first | omega | (simp only; omega), hmem.imp id (fun h => by simp [h]), hp2, by first | omega | (simp only; omega)⟩, ?_, fun o h => h⟩
              by_cases hz : last.seq = 0
              · rw [decide_eq_false (show ¬ 0 < last.seq by omega)] at o42
                have inn := in13 l m (put ++ [wS r n]) hp3 hpl3 last.seq k ⟨⟨s', f', t', true⟩, n, i⟩ (jcl ⟨⟨s', f', t', false⟩, n, i⟩) last [rcl (wS r n)] false true
                rw [Bool.true_or] at inn
                rw [hpl4] at inn
                unfold S13 T13 D13
                simp only [hpl4]
                rw [← eapp] at inn ⊢
                have hn1 : n = 1 := by omega
                have ww : IntKind.i64.wrap (0 + 1) = 1 := by decide
                subst hn1
                dsimp only [wS] at inn
                simp only [rcl, rv, hz] at inn o42 hz2 ⊢
                show (K E A13_L1 _).bind _ = (K E A13_L1 _).bind _
                conv => lhs; rw [A13_L1_eq]
                simp +contextual -implicitDefEqProofs (maxSteps := 2000000) only [go_sem, ↓reduceIte, Nat.reduceAdd, Nat.reduceMul, Nat.reduceSub, Nat.reduceEqDiff, Nat.reduceLeDiff, Nat.reduceDiv, Nat.reduceMod, Nat.reduceBEq, Nat.reduceBNe, reduceCtorEq, Int.reduceLE, Int.reduceLT, Int.reduceToNat, Int.reduceNeg, Nat.reduceLT, Int.reduceEq, Int.reduceSub, Int.reduceAdd, Int.reduceMul, Nat.reducePow, Int.reduceBEq, Int.reduceBNe, Int.reduceMod, A13_L1b, k0, k1, g, o32, o40, hw, wln, hb, hplen2, hlen, htk, List.length_map, bne_self_eq_false, beq_self_eq_true, gt_iff_lt, hA, o30, o42, inn, hz2, ww, ha2, ha3, ha4, List.length_append, ge_iff_le]
              · have hpos : 0 < last.seq := by omega
                rw [decide_eq_true hpos] at o42
                have inn := in13 l m (put ++ [wS r n]) hp3 hpl3 last.seq k ⟨⟨s', f', t', true⟩, n, i⟩ (jcl ⟨⟨s', f', t', false⟩, n, i⟩) last [rcl (wS r n)] true false
                rw [show (false || (true && (put ++ [wS r n]).any fun p => sameR p last)) = true from by
                  simp only [Bool.false_or, Bool.true_and, List.any_eq_true]
                  exact ⟨last, by simp [hmem.resolve_left hz], sameR_self _⟩] at inn
                rw [hpl4] at inn
                unfold S13 T13 D13
                simp only [hpl4]
                rw [← eapp] at inn ⊢
                dsimp only [wS] at inn
                have hn1 : n = last.seq + 1 := hnx
                subst hn1
                show (K E A13_L1 _).bind _ = (K E A13_L1 _).bind _
                conv => lhs; rw [A13_L1_eq]
                simp +contextual -implicitDefEqProofs (maxSteps := 2000000) only [go_sem, ↓reduceIte, Nat.reduceAdd, Nat.reduceMul, Nat.reduceSub, Nat.reduceEqDiff, Nat.reduceLeDiff, Nat.reduceDiv, Nat.reduceMod, Nat.reduceBEq, Nat.reduceBNe, reduceCtorEq, Int.reduceLE, Int.reduceLT, Int.reduceToNat, Int.reduceNeg, Nat.reduceLT, Int.reduceEq, Int.reduceSub, Int.reduceAdd, Int.reduceMul, Nat.reducePow, Int.reduceBEq, Int.reduceBNe, Int.reduceMod, A13_L1b, k0, k1, g, o32, o40, hw, wln, hb, hplen2, hlen, htk, List.length_map, bne_self_eq_false, beq_self_eq_true, gt_iff_lt, hA, o30, o42, inn, hz2, ha2, ha3, ha4, List.length_append, ge_iff_le]
          · obtain ⟨j', e40, hJ', hn', hd', hs', ht', hf'⟩ := hJ.app (j := ⟨⟨s, f, t, false⟩, n, i⟩) rfl hf hm (by first | omega | (simp only; omega))
            rw [e40] at o40
            simp only at o40
            simp only at hn' hs' hf'
            refine .inr ⟨⟨j', wS r n, put ++ [wS r n]⟩, ⟨hJ', hd', by first | omega | (simp only; omega), .inl (by simp only; rw [hf', if_neg (by omega)]; omega), by first | omega | (simp only; omega), .inr (by simp), hp2, by first | omega | (simp only; omega)⟩, ?_, fun o h => h⟩
            obtain ⟨⟨s', f', t', w'⟩, n', i'⟩ := j'
            unfold S13 T13 D13
            simp only [hpl4]
            rw [← eapp]
            dsimp only [wS]
            show (K E A13_L1 _).bind _ = (K E A13_L1 _).bind _
            conv => lhs; rw [A13_L1_eq]
            simp +contextual -implicitDefEqProofs (maxSteps := 2000000) only [go_sem, ↓reduceIte, Nat.reduceAdd, Nat.reduceMul, Nat.reduceSub, Nat.reduceEqDiff, Nat.reduceLeDiff, Nat.reduceDiv, Nat.reduceMod, Nat.reduceBEq, Nat.reduceBNe, reduceCtorEq, Int.reduceLE, Int.reduceLT, Int.reduceToNat, Int.reduceNeg, Nat.reduceLT, Int.reduceEq, Int.reduceSub, Int.reduceAdd, Int.reduceMul, Nat.reducePow, Int.reduceBEq, Int.reduceBNe, Int.reduceMod, A13_L1b, k0, k1, g, o32, o40, hw, wln, hb, hplen2, hlen, htk, List.length_map, bne_self_eq_false, beq_self_eq_true, gt_iff_lt, hA, List.length_append]
      | some c =>
        have hB : (k : Int) < m.length := by have := (List.getElem?_eq_some_iff.1 hmk).1; omega
        have gB := get_u2 hmk
        have e3 : (c.1.toNat : Int).tmod 3 = ((c.1.toNat % 3 : Nat) : Int) := by rw [Int.tmod_eq_emod_of_nonneg (Int.natCast_nonneg _)]; rfl
        have e65 : (c.2.toNat : Int).tmod 65 = ((c.2.toNat % 65 : Nat) : Int) := by rw [Int.tmod_eq_emod_of_nonneg (Int.natCast_nonneg _)]; rfl
        have b3 : c.1.toNat % 3 < 3 := Nat.mod_lt _ (by omega)
        have b65 : c.2.toNat % 65 < 65 := Nat.mod_lt _ (by omega)
        have hc2 := c.2.toNat_lt
        have v3 : IntKind.u8.wrap ((c.1.toNat % 3 : Nat) : Int) = ((c.1.toNat % 3 : Nat) : Int) := by rw [wr_u8]; omega
        have v65 : IntKind.i64.wrap ((c.2.toNat % 65 : Nat) : Int) = ((c.2.toNat % 65 : Nat) : Int) := wrap_small (by omega) (by omega)
        have vc : IntKind.i64.wrap (c.2.toNat : Int) = c.2.toNat := wrap_small (by omega) (by omega)
        by_cases h3 : c.1.toNat % 3 = 0
        · rw [show armJ m k ⟨⟨s, f, t, w⟩, n, i⟩ = ⟨⟨s, 1, ((c.2.toNat % 65 : Nat) : Int), w⟩, n, i⟩ from by unfold armJ; rw [hmk]; simp only; rw [if_pos h3]] at ha
          rw [h3] at e3 v3
          have v3 : IntKind.u8.wrap 0 = 0 := by decide
          simp only [Int.natCast_zero, Int.ofNat_zero] at e3
          generalize c.2.toNat % 65 = t2 at *
          have hJ := ha.ji
          have hd := ha.down
          have hs := ha.len
          have hfu := ha.fuse
          have hn := ha.nx
          have hmem := ha.mem
          have hwh := ha.wh
          simp only at hJ hd hs hfu hn hmem hwh
          subst hd
          have hnx := hJ.nx_eq
          have hnn := hJ.nn
          have hat := hJ.at_lt
          have o40 := c40 ⟨⟨s, 1, (t2 : Int), false⟩, n, i⟩ r (by omega) (by first | omega | (simp only; omega)) hJ.ok
          have wln : IntKind.i64.wrap (last.seq + 1) = last.seq + 1 := wrap_small (by omega) (by omega)
          have hplen2 : put.length ≤ 1000000000 := by omega
          have hlw : last.wh.length ≤ 1000000000 := by
            by_cases hz : last.seq = 0
            · rw [(hJ.zero hz).1]; simp [zrec]
            · have := ((hJ.pos hz).1).len; omega
          cases hm : mayB (wS r 1) with
          | false =>
            rw [apd_bad hm] at o40
            simp only at o40
            refine .inr ⟨⟨⟨⟨s, 1, (t2 : Int), false⟩, n, i⟩, last, put⟩, ⟨hJ, rfl, hs, (.inr rfl), by first | omega | (simp only; omega), hmem, hwh, by first | omega | (simp only; omega)⟩, ?_, fun o h => h⟩
            show (K E A13_L1 _).bind _ = (K E A13_L1 _).bind _
            conv => lhs; rw [A13_L1_eq]
            simp +contextual -implicitDefEqProofs (maxSteps := 2000000) only [go_sem, ↓reduceIte, Nat.reduceAdd, Nat.reduceMul, Nat.reduceSub, Nat.reduceEqDiff, Nat.reduceLeDiff, Nat.reduceDiv, Nat.reduceMod, Nat.reduceBEq, Nat.reduceBNe, reduceCtorEq, Int.reduceLE, Int.reduceLT, Int.reduceToNat, Int.reduceNeg, Nat.reduceLT, Int.reduceEq, Int.reduceSub, Int.reduceAdd, Int.reduceMul, Nat.reducePow, Int.reduceBEq, Int.reduceBNe, Int.reduceMod, A13_L1b, T13, D13, k0, k1, g, o32, o40, hw, wln, hb, hplen2, hlen, htk, List.length_map, bne_self_eq_false, beq_self_eq_true, gt_iff_lt, hB, gB, e3, e65, v3, v65, vc]
          | true =>
            have hp2 : ∀ p ∈ put ++ [wS r n], p.wh.length ≤ 100 := fun p hp => by
              rcases List.mem_append.1 hp with h | h
              · exact hwh p h
              · rw [List.mem_singleton.1 h]; show r.wh.length ≤ 100; omega
            have hp3 : ∀ p ∈ put ++ [wS r n], p.wh.length ≤ 1000000000 := fun p hp => by have := hp2 p hp; omega
            have hpl3 : (put ++ [wS r n]).length ≤ 1000000 := by rw [List.length_append]; simp; omega
            have hpl4 : (put ++ [wS r n]).length = put.length + 1 := by rw [List.length_append]; rfl
            have eapp : put.map rcl ++ [[.int .i64 n, .int .i64 r.step, .int .i64 r.q0, .int .i64 r.q1, .int .i64 r.q2, .int .i64 r.q3, .int .i64 r.q4, .int .i64 r.q5, .int .i64 r.h0, .int .i64 r.h1, .vs (r.wh.map c1), .int .i64 r.mode]] = (put ++ [wS r n]).map rcl := by rw [List.map_append]; rfl
            by_cases hf : (1 : Int) = 1
            · obtain ⟨d', e40, hdn, hlen', hfu', hcut⟩ := hJ.cut (j := ⟨⟨s, 1, (t2 : Int), false⟩, n, i⟩) rfl hf hm (by first | omega | (simp only; omega)) (by first | omega | (simp only; omega))
              rw [e40] at o40
              simp only at o40
              obtain ⟨s', f', t', w'⟩ := d'
              simp only at hdn hlen' hfu' hcut
              subst hdn
              have o30 := c30 s' f' t' true
              have hls : s'.length = s.length := hlen'
              rcases hcut with ⟨h64, hJ'⟩ | ⟨h64, hJ'⟩
              · have hmod := Nat.mod_lt (i.toNat + 1) (show 0 < s.length by omega)
                have o42 := c42 ⟨s', f', t', false⟩ hJ'.ok rfl
                have hre := hJ'.rec_ok
                simp only at hre
                rw [hre] at o42
                simp only at o42
                have hpos : 0 < n := by omega
                rw [decide_eq_true (show 0 < (wS r n).seq from hpos)] at o42
                have inn := in13 l m (put ++ [wS r n]) hp3 hpl3 last.seq k ⟨⟨s', f', t', true⟩, n, i⟩ (jcl ⟨⟨s', f', t', false⟩, n + 1, (((i.toNat + 1) % s.length : Nat) : Int)⟩) (wS r n) [rcl (wS r n)] true false
                rw [show (false || (true && (put ++ [wS r n]).any fun p => sameR p (wS r n))) = true from by
                  simp only [Bool.false_or, Bool.true_and, List.any_eq_true]
                  exact ⟨wS r n, by simp, sameR_self _⟩] at inn
                have hz2 : ¬ n < last.seq := by omega
                have w3 : IntKind.i64.wrap (n + 1) = n + 1 := wrap_small (by omega) (by omega)
                have ha2 : ¬ ((((i.toNat + 1) % s.length : Nat) : Int)) < 0 := by omega
                have ha3 : ¬ ((s'.length : Int) ≤ ((((i.toNat + 1) % s.length : Nat) : Int))) := by omega
                have ha4 : ((((i.toNat + 1) % s.length : Nat) : Int)) < s'.length := by omega
                refine .inr ⟨⟨⟨⟨s', f', t', false⟩, n + 1, (((i.toNat + 1) % s.length : Nat) : Int)⟩, wS r n, put ++ [wS r n]⟩, ⟨hJ', rfl, by first | omega | (simp only; omega), .inl hfu', by first | omega | (simp only; omega), .inr (by simp), hp2, by first | omega | (simp only; omega)⟩, ?_, fun o h => h⟩
                generalize hat2 : (((i.toNat + 1) % s.length : Nat) : Int) = at2 at *
                rw [hpl4] at inn
                unfold S13 T13 D13
                simp only [hpl4]
                rw [← eapp] at inn ⊢
                dsimp only [wS] at o42 inn ⊢
                show (K E A13_L1 _).bind _ = (K E A13_L1 _).bind _
                conv => lhs; rw [A13_L1_eq]
                simp +contextual -implicitDefEqProofs (maxSteps := 2000000) only [go_sem, ↓reduceIte, Nat.reduceAdd, Nat.reduceMul, Nat.reduceSub, Nat.reduceEqDiff, Nat.reduceLeDiff, Nat.reduceDiv, Nat.reduceMod, Nat.reduceBEq, Nat.reduceBNe, reduceCtorEq, Int.reduceLE, Int.reduceLT, Int.reduceToNat, Int.reduceNeg, Nat.reduceLT, Int.reduceEq, Int.reduceSub, Int.reduceAdd, Int.reduceMul, Nat.reducePow, Int.reduceBEq, Int.reduceBNe, Int.reduceMod, A13_L1b, k0, k1, g, o32, o40, hw, wln, hb, hplen2, hlen, htk, List.length_map, bne_self_eq_false, beq_self_eq_true, gt_iff_lt, hB, gB, e3, e65, v3, v65, vc, o30, o42, inn, hz2, w3, ha2, ha3, ha4, List.length_append, ge_iff_le]
              · have o42 := c42 ⟨s', f', t', false⟩ hJ'.ok rfl
                have hre := hJ'.rec_ok
                simp only at hre
                rw [hre] at o42
                simp only at o42
                have hz2 : ¬ last.seq < last.seq := by omega
                have ha2 : ¬ i < 0 := by have : 0 ≤ i := hat.1; omega
                have ha3 : ¬ ((s'.length : Int) ≤ i) := by have : i < s.length := hat.2; omega
                have ha4 : i < s'.length := by omega
                refine .inr ⟨⟨⟨⟨s', f', t', false⟩, n, i⟩, last, put ++ [wS r n]⟩, ⟨hJ', rfl, by first | omega | (simp only; omega), .inl hfu', by first | omega | (simp only; omega), hmem.imp id (fun h => by simp [h]), hp2, by first | omega | (simp only; omega)⟩, ?_, fun o h => h⟩
                by_cases hz : last.seq = 0
                · rw [decide_eq_false (show ¬ 0 < last.seq by omega)] at o42
                  have inn := in13 l m (put ++ [wS r n]) hp3 hpl3 last.seq k ⟨⟨s', f', t', true⟩, n, i⟩ (jcl ⟨⟨s', f', t', false⟩, n, i⟩) last [rcl (wS r n)] false true
                  rw [Bool.true_or] at inn
                  rw [hpl4] at inn
                  unfold S13 T13 D13
                  simp only [hpl4]
                  rw [← eapp] at inn ⊢
                  have hn1 : n = 1 := by omega
                  have ww : IntKind.i64.wrap (0 + 1) = 1 := by decide
                  subst hn1
                  dsimp only [wS] at inn
                  simp only [rcl, rv, hz] at inn o42 hz2 ⊢
                  show (K E A13_L1 _).bind _ = (K E A13_L1 _).bind _
                  conv => lhs; rw [A13_L1_eq]
                  simp +contextual -implicitDefEqProofs (maxSteps := 2000000) only [go_sem, ↓reduceIte, Nat.reduceAdd, Nat.reduceMul, Nat.reduceSub, Nat.reduceEqDiff, Nat.reduceLeDiff, Nat.reduceDiv, Nat.reduceMod, Nat.reduceBEq, Nat.reduceBNe, reduceCtorEq, Int.reduceLE, Int.reduceLT, Int.reduceToNat, Int.reduceNeg, Nat.reduceLT, Int.reduceEq, Int.reduceSub, Int.reduceAdd, Int.reduceMul, Nat.reducePow, Int.reduceBEq, Int.reduceBNe, Int.reduceMod, A13_L1b, k0, k1, g, o32, o40, hw, wln, hb, hplen2, hlen, htk, List.length_map, bne_self_eq_false, beq_self_eq_true, gt_iff_lt, hB, gB, e3, e65, v3, v65, vc, o30, o42, inn, hz2, ww, ha2, ha3, ha4, List.length_append, ge_iff_le]
                · have hpos : 0 < last.seq := by omega
                  rw [decide_eq_true hpos] at o42
                  have inn := in13 l m (put ++ [wS r n]) hp3 hpl3 last.seq k ⟨⟨s', f', t', true⟩, n, i⟩ (jcl ⟨⟨s', f', t', false⟩, n, i⟩) last [rcl (wS r n)] true false
                  rw [show (false || (true && (put ++ [wS r n]).any fun p => sameR p last)) = true from by
                    simp only [Bool.false_or, Bool.true_and, List.any_eq_true]
                    exact ⟨last, by simp [hmem.resolve_left hz], sameR_self _⟩] at inn
                  rw [hpl4] at inn
                  unfold S13 T13 D13
                  simp only [hpl4]
                  rw [← eapp] at inn ⊢
                  dsimp only [wS] at inn
                  have hn1 : n = last.seq + 1 := hnx
                  subst hn1
                  show (K E A13_L1 _).bind _ = (K E A13_L1 _).bind _
                  conv => lhs; rw [A13_L1_eq]
                  simp +contextual -implicitDefEqProofs (maxSteps := 2000000) only [go_sem, ↓reduceIte, Nat.reduceAdd, Nat.reduceMul, Nat.reduceSub, Nat.reduceEqDiff, Nat.reduceLeDiff, Nat.reduceDiv, Nat.reduceMod, Nat.reduceBEq, Nat.reduceBNe, reduceCtorEq, Int.reduceLE, Int.reduceLT, Int.reduceToNat, Int.reduceNeg, Nat.reduceLT, Int.reduceEq, Int.reduceSub, Int.reduceAdd, Int.reduceMul, Nat.reducePow, Int.reduceBEq, Int.reduceBNe, Int.reduceMod, A13_L1b, k0, k1, g, o32, o40, hw, wln, hb, hplen2, hlen, htk, List.length_map, bne_self_eq_false, beq_self_eq_true, gt_iff_lt, hB, gB, e3, e65, v3, v65, vc, o30, o42, inn, hz2, ha2, ha3, ha4, List.length_append, ge_iff_le]
            · obtain ⟨j', e40, hJ', hn', hd', hs', ht', hf'⟩ := hJ.app (j := ⟨⟨s, 1, (t2 : Int), false⟩, n, i⟩) rfl hf hm (by first | omega | (simp only; omega))
              rw [e40] at o40
              simp only at o40
              simp only at hn' hs' hf'
              refine .inr ⟨⟨j', wS r n, put ++ [wS r n]⟩, ⟨hJ', hd', by first | omega | (simp only; omega), .inl (by simp only; rw [hf', if_neg (by omega)]; omega), by first | omega | (simp only; omega), .inr (by simp), hp2, by first | omega | (simp only; omega)⟩, ?_, fun o h => h⟩
              obtain ⟨⟨s', f', t', w'⟩, n', i'⟩ := j'
              unfold S13 T13 D13
              simp only [hpl4]
              rw [← eapp]
              dsimp only [wS]
              show (K E A13_L1 _).bind _ = (K E A13_L1 _).bind _
              conv => lhs; rw [A13_L1_eq]
              simp +contextual -implicitDefEqProofs (maxSteps := 2000000) only [go_sem, ↓reduceIte, Nat.reduceAdd, Nat.reduceMul, Nat.reduceSub, Nat.reduceEqDiff, Nat.reduceLeDiff, Nat.reduceDiv, Nat.reduceMod, Nat.reduceBEq, Nat.reduceBNe, reduceCtorEq, Int.reduceLE, Int.reduceLT, Int.reduceToNat, Int.reduceNeg, Nat.reduceLT, Int.reduceEq, Int.reduceSub, Int.reduceAdd, Int.reduceMul, Nat.reducePow, Int.reduceBEq, Int.reduceBNe, Int.reduceMod, A13_L1b, k0, k1, g, o32, o40, hw, wln, hb, hplen2, hlen, htk, List.length_map, bne_self_eq_false, beq_self_eq_true, gt_iff_lt, hB, gB, e3, e65, v3, v65, vc, List.length_append]
        · rw [show armJ m k ⟨⟨s, f, t, w⟩, n, i⟩ = ⟨⟨s, f, t, w⟩, n, i⟩ from by unfold armJ; rw [hmk]; simp only; rw [if_neg h3]] at ha
          have h3a : ¬ (((c.1.toNat % 3 : Nat) : Int) = 0) := by omega
          have h3b : (((c.1.toNat % 3 : Nat) : Int) == 0) = false := beq_eq_false_iff_ne.2 h3a
          generalize c.1.toNat % 3 = t3 at *
          have hJ := ha.ji
          have hd := ha.down
          have hs := ha.len
          have hfu := ha.fuse
          have hn := ha.nx
          have hmem := ha.mem
          have hwh := ha.wh
          simp only at hJ hd hs hfu hn hmem hwh
          subst hd
          have hnx := hJ.nx_eq
          have hnn := hJ.nn
          have hat := hJ.at_lt
          have o40 := c40 ⟨⟨s, f, t, false⟩, n, i⟩ r (by omega) (by first | omega | (simp only; omega)) hJ.ok
          have wln : IntKind.i64.wrap (last.seq + 1) = last.seq + 1 := wrap_small (by omega) (by omega)
          have hplen2 : put.length ≤ 1000000000 := by omega
          have hlw : last.wh.length ≤ 1000000000 := by
            by_cases hz : last.seq = 0
            · rw [(hJ.zero hz).1]; simp [zrec]
            · have := ((hJ.pos hz).1).len; omega
          cases hm : mayB (wS r 1) with
          | false =>
            rw [apd_bad hm] at o40
            simp only at o40
            refine .inr ⟨⟨⟨⟨s, f, t, false⟩, n, i⟩, last, put⟩, ⟨hJ, rfl, hs, hfu, by first | omega | (simp only; omega), hmem, hwh, by first | omega | (simp only; omega)⟩, ?_, fun o h => h⟩
            show (K E A13_L1 _).bind _ = (K E A13_L1 _).bind _
            conv => lhs; rw [A13_L1_eq]
            simp +contextual -implicitDefEqProofs (maxSteps := 2000000) only [go_sem, ↓reduceIte, Nat.reduceAdd, Nat.reduceMul, Nat.reduceSub, Nat.reduceEqDiff, Nat.reduceLeDiff, Nat.reduceDiv, Nat.reduceMod, Nat.reduceBEq, Nat.reduceBNe, reduceCtorEq, Int.reduceLE, Int.reduceLT, Int.reduceToNat, Int.reduceNeg, Nat.reduceLT, Int.reduceEq, Int.reduceSub, Int.reduceAdd, Int.reduceMul, Nat.reducePow, Int.reduceBEq, Int.reduceBNe, Int.reduceMod, A13_L1b, T13, D13, k0, k1, g, o32, o40, hw, wln, hb, hplen2, hlen, htk, List.length_map, bne_self_eq_false, beq_self_eq_true, gt_iff_lt, hB, gB, e3, v3, h3a, h3b]
          | true =>
            have hp2 : ∀ p ∈ put ++ [wS r n], p.wh.length ≤ 100 := fun p hp => by
              rcases List.mem_append.1 hp with h | h
              · exact hwh p h
              · rw [List.mem_singleton.1 h]; show r.wh.length ≤ 100; omega
            have hp3 : ∀ p ∈ put ++ [wS r n], p.wh.length ≤ 1000000000 := fun p hp => by have := hp2 p hp; omega
            have hpl3 : (put ++ [wS r n]).length ≤ 1000000 := by rw [List.length_append]; simp; omega
            have hpl4 : (put ++ [wS r n]).length = put.length + 1 := by rw [List.length_append]; rfl
            have eapp : put.map rcl ++ [[.int .i64 n, .int .i64 r.step, .int .i64 r.q0, .int .i64 r.q1, .int .i64 r.q2, .int .i64 r.q3, .int .i64 r.q4, .int .i64 r.q5, .int .i64 r.h0, .int .i64 r.h1, .vs (r.wh.map c1), .int .i64 r.mode]] = (put ++ [wS r n]).map rcl := by rw [List.map_append]; rfl
            by_cases hf : (f : Int) = 1
            · obtain ⟨d', e40, hdn, hlen', hfu', hcut⟩ := hJ.cut (j := ⟨⟨s, f, t, false⟩, n, i⟩) rfl hf hm (by first | omega | (simp only; omega)) (by first | omega | (simp only; omega))
              rw [e40] at o40
              simp only at o40
              obtain ⟨s', f', t', w'⟩ := d'
              simp only at hdn hlen' hfu' hcut
              subst hdn
              have o30 := c30 s' f' t' true
              have hls : s'.length = s.length := hlen'
              rcases hcut with ⟨h64, hJ'⟩ | ⟨h64, hJ'⟩
              · have hmod := Nat.mod_lt (i.toNat + 1) (show 0 < s.length by omega)
                have o42 := c42 ⟨s', f', t', false⟩ hJ'.ok rfl
                have hre := hJ'.rec_ok
                simp only at hre
                rw [hre] at o42
                simp only at o42
                have hpos : 0 < n := by omega
                rw [decide_eq_true (show 0 < (wS r n).seq from hpos)] at o42
                have inn := in13 l m (put ++ [wS r n]) hp3 hpl3 last.seq k ⟨⟨s', f', t', true⟩, n, i⟩ (jcl ⟨⟨s', f', t', false⟩, n + 1, (((i.toNat + 1) % s.length : Nat) : Int)⟩) (wS r n) [rcl (wS r n)] true false
                rw [show (false || (true && (put ++ [wS r n]).any fun p => sameR p (wS r n))) = true from by
                  simp only [Bool.false_or, Bool.true_and, List.any_eq_true]
                  exact ⟨wS r n, by simp, sameR_self _⟩] at inn
                have hz2 : ¬ n < last.seq := by omega
                have w3 : IntKind.i64.wrap (n + 1) = n + 1 := wrap_small (by omega) (by omega)
                have ha2 : ¬ ((((i.toNat + 1) % s.length : Nat) : Int)) < 0 := by omega
                have ha3 : ¬ ((s'.length : Int) ≤ ((((i.toNat + 1) % s.length : Nat) : Int))) := by omega
                have ha4 : ((((i.toNat + 1) % s.length : Nat) : Int)) < s'.length := by omega
                refine .inr ⟨⟨⟨⟨s', f', t', false⟩, n + 1, (((i.toNat + 1) % s.length : Nat) : Int)⟩, wS r n, put ++ [wS r n]⟩, ⟨hJ', rfl, by first | omega | (simp only; omega), .inl hfu', by first | omega | (simp only; omega), .inr (by simp), hp2, by first | omega | (simp only; omega)⟩, ?_, fun o h => h⟩
                generalize hat2 : (((i.toNat + 1) % s.length : Nat) : Int) = at2 at *
                rw [hpl4] at inn
                unfold S13 T13 D13
                simp only [hpl4]
                rw [← eapp] at inn ⊢
                dsimp only [wS] at o42 inn ⊢
                show (K E A13_L1 _).bind _ = (K E A13_L1 _).bind _
                conv => lhs; rw [A13_L1_eq]
                simp +contextual -implicitDefEqProofs (maxSteps := 2000000) only [go_sem, ↓reduceIte, Nat.reduceAdd, Nat.reduceMul, Nat.reduceSub, Nat.reduceEqDiff, Nat.reduceLeDiff, Nat.reduceDiv, Nat.reduceMod, Nat.reduceBEq, Nat.reduceBNe, reduceCtorEq, Int.reduceLE, Int.reduceLT, Int.reduceToNat, Int.reduceNeg, Nat.reduceLT, Int.reduceEq, Int.reduceSub, Int.reduceAdd, Int.reduceMul, Nat.reducePow, Int.reduceBEq, Int.reduceBNe, Int.reduceMod, A13_L1b, k0, k1, g, o32, o40, hw, wln, hb, hplen2, hlen, htk, List.length_map, bne_self_eq_false, beq_self_eq_true, gt_iff_lt, hB, gB, e3, v3, h3a, h3b, o30, o42, inn, hz2, w3, ha2, ha3, ha4, List.length_append, ge_iff_le]
              · have o42 := c42 ⟨s', f', t', false⟩ hJ'.ok rfl
                have hre := hJ'.rec_ok
                simp only at hre
                rw [hre] at o42
                simp only at o42
                have hz2 : ¬ last.seq < last.seq := by omega
                have ha2 : ¬ i < 0 := by have : 0 ≤ i := hat.1; omega
                have ha3 : ¬ ((s'.length : Int) ≤ i) := by have : i < s.length := hat.2; omega
                have ha4 : i < s'.length := by omega
                refine .inr ⟨⟨⟨⟨s', f', t', false⟩, n, i⟩, last, put ++ [wS r n]⟩, ⟨hJ', rfl, by first | omega | (simp only; omega), .inl hfu', by first | omega | (simp only; omega), hmem.imp id (fun h => by simp [h]), hp2, by first | omega | (simp only; omega)⟩, ?_, fun o h => h⟩
                by_cases hz : last.seq = 0
                · rw [decide_eq_false (show ¬ 0 < last.seq by omega)] at o42
                  have inn := in13 l m (put ++ [wS r n]) hp3 hpl3 last.seq k ⟨⟨s', f', t', true⟩, n, i⟩ (jcl ⟨⟨s', f', t', false⟩, n, i⟩) last [rcl (wS r n)] false true
                  rw [Bool.true_or] at inn
                  rw [hpl4] at inn
                  unfold S13 T13 D13
                  simp only [hpl4]
                  rw [← eapp] at inn ⊢
                  have hn1 : n = 1 := by omega
                  have ww : IntKind.i64.wrap (0 + 1) = 1 := by decide
                  subst hn1
                  dsimp only [wS] at inn
                  simp only [rcl, rv, hz] at inn o42 hz2 ⊢
                  show (K E A13_L1 _).bind _ = (K E A13_L1 _).bind _
                  conv => lhs; rw [A13_L1_eq]
                  simp +contextual -implicitDefEqProofs (maxSteps := 2000000) only [go_sem, ↓reduceIte, Nat.reduceAdd, Nat.reduceMul, Nat.reduceSub, Nat.reduceEqDiff, Nat.reduceLeDiff, Nat.reduceDiv, Nat.reduceMod, Nat.reduceBEq, Nat.reduceBNe, reduceCtorEq, Int.reduceLE, Int.reduceLT, Int.reduceToNat, Int.reduceNeg, Nat.reduceLT, Int.reduceEq, Int.reduceSub, Int.reduceAdd, Int.reduceMul, Nat.reducePow, Int.reduceBEq, Int.reduceBNe, Int.reduceMod, A13_L1b, k0, k1, g, o32, o40, hw, wln, hb, hplen2, hlen, htk, List.length_map, bne_self_eq_false, beq_self_eq_true, gt_iff_lt, hB, gB, e3, v3, h3a, h3b, o30, o42, inn, hz2, ww, ha2, ha3, ha4, List.length_append, ge_iff_le]
                · have hpos : 0 < last.seq := by omega
                  rw [decide_eq_true hpos] at o42
                  have inn := in13 l m (put ++ [wS r n]) hp3 hpl3 last.seq k ⟨⟨s', f', t', true⟩, n, i⟩ (jcl ⟨⟨s', f', t', false⟩, n, i⟩) last [rcl (wS r n)] true false
                  rw [show (false || (true && (put ++ [wS r n]).any fun p => sameR p last)) = true from by
                    simp only [Bool.false_or, Bool.true_and, List.any_eq_true]
                    exact ⟨last, by simp [hmem.resolve_left hz], sameR_self _⟩] at inn
                  rw [hpl4] at inn
                  unfold S13 T13 D13
                  simp only [hpl4]
                  rw [← eapp] at inn ⊢
                  dsimp only [wS] at inn
                  have hn1 : n = last.seq + 1 := hnx
                  subst hn1
                  show (K E A13_L1 _).bind _ = (K E A13_L1 _).bind _
                  conv => lhs; rw [A13_L1_eq]
                  simp +contextual -implicitDefEqProofs (maxSteps := 2000000) only [go_sem, ↓reduceIte, Nat.reduceAdd, Nat.reduceMul, Nat.reduceSub, Nat.reduceEqDiff, Nat.reduceLeDiff, Nat.reduceDiv, Nat.reduceMod, Nat.reduceBEq, Nat.reduceBNe, reduceCtorEq, Int.reduceLE, Int.reduceLT, Int.reduceToNat, Int.reduceNeg, Nat.reduceLT, Int.reduceEq, Int.reduceSub, Int.reduceAdd, Int.reduceMul, Nat.reducePow, Int.reduceBEq, Int.reduceBNe, Int.reduceMod, A13_L1b, k0, k1, g, o32, o40, hw, wln, hb, hplen2, hlen, htk, List.length_map, bne_self_eq_false, beq_self_eq_true, gt_iff_lt, hB, gB, e3, v3, h3a, h3b, o30, o42, inn, hz2, ha2, ha3, ha4, List.length_append, ge_iff_le]
            · obtain ⟨j', e40, hJ', hn', hd', hs', ht', hf'⟩ := hJ.app (j := ⟨⟨s, f, t, false⟩, n, i⟩) rfl hf hm (by first | omega | (simp only; omega))
              rw [e40] at o40
              simp only at o40
              simp only at hn' hs' hf'
              refine .inr ⟨⟨j', wS r n, put ++ [wS r n]⟩, ⟨hJ', hd', by first | omega | (simp only; omega), .inl (by simp only; rw [hf', if_neg (by omega)]; omega), by first | omega | (simp only; omega), .inr (by simp), hp2, by first | omega | (simp only; omega)⟩, ?_, fun o h => h⟩
              obtain ⟨⟨s', f', t', w'⟩, n', i'⟩ := j'
              unfold S13 T13 D13
              simp only [hpl4]
              rw [← eapp]
              dsimp only [wS]
              show (K E A13_L1 _).bind _ = (K E A13_L1 _).bind _
              conv => lhs; rw [A13_L1_eq]
              simp +contextual -implicitDefEqProofs (maxSteps := 2000000) only [go_sem, ↓reduceIte, Nat.reduceAdd, Nat.reduceMul, Nat.reduceSub, Nat.reduceEqDiff, Nat.reduceLeDiff, Nat.reduceDiv, Nat.reduceMod, Nat.reduceBEq, Nat.reduceBNe, reduceCtorEq, Int.reduceLE, Int.reduceLT, Int.reduceToNat, Int.reduceNeg, Nat.reduceLT, Int.reduceEq, Int.reduceSub, Int.reduceAdd, Int.reduceMul, Nat.reducePow, Int.reduceBEq, Int.reduceBNe, Int.reduceMod, A13_L1b, k0, k1, g, o32, o40, hw, wln, hb, hplen2, hlen, htk, List.length_map, bne_self_eq_false, beq_self_eq_true, gt_iff_lt, hB, gB, e3, v3, h3a, h3b, List.length_append])
    0 x0 (by omega) h0
  exact lp
end Go.Proofs.Ytjmnepfdhkabfaa

namespace Go.Proofs.Ytjmnepfdhkabfaa
set_option maxRecDepth 100000
set_option maxHeartbeats 4000000
set_option linter.unusedSimpArgs false
set_option linter.unusedVariables false
open Go Go.Zv
theorem law13 (hd : pc E 31 [] = some (.bool true)) (n : Nat) (hn : n ≤ 255) (l : List Rec) (m : List (UInt8 × UInt8)) : pc E 13 [.int .u8 n, .vs (l.map rcl), .vs (m.map u2)] = some (.bool true) := by
  by_cases k1 : (100 : Int) < l.length
  · rw [pc_eq]; simp +contextual -implicitDefEqProofs (maxSteps := 2000000) only [go_sem, ↓reduceIte, Nat.reduceAdd, Nat.reduceMul, Nat.reduceSub, Nat.reduceEqDiff, Nat.reduceLeDiff, Nat.reduceDiv, Nat.reduceMod, Nat.reduceBEq, Nat.reduceBNe, reduceCtorEq, Int.reduceLE, Int.reduceLT, Int.reduceToNat, Int.reduceNeg, Nat.reduceLT, Int.reduceEq, Int.reduceSub, Int.reduceAdd, Int.reduceMul, Nat.reducePow, Int.reduceBEq, Int.reduceBNe, Int.reduceMod, E_13, A13, hd, List.length_map, k1]
  by_cases k2 : (100 : Int) < m.length
  · rw [pc_eq]; simp +contextual -implicitDefEqProofs (maxSteps := 2000000) only [go_sem, ↓reduceIte, Nat.reduceAdd, Nat.reduceMul, Nat.reduceSub, Nat.reduceEqDiff, Nat.reduceLeDiff, Nat.reduceDiv, Nat.reduceMod, Nat.reduceBEq, Nat.reduceBNe, reduceCtorEq, Int.reduceLE, Int.reduceLT, Int.reduceToNat, Int.reduceNeg, Nat.reduceLT, Int.reduceEq, Int.reduceSub, Int.reduceAdd, Int.reduceMul, Nat.reducePow, Int.reduceBEq, Int.reduceBNe, Int.reduceMod, E_13, A13, hd, List.length_map, k1, k2]
  have hm : n % 7 < 7 := Nat.mod_lt _ (by omega)
  have w1 : IntKind.i64.wrap (n : Int) = n := wrap_small (by omega) (by omega)
  have m1 : (n : Int).tmod 7 = ((n % 7 : Nat) : Int) := by rw [Int.tmod_eq_emod_of_nonneg (Int.natCast_nonneg _)]; rfl
  have w4 : IntKind.i64.wrap ((n % 7 : Nat) : Int) = ((n % 7 : Nat) : Int) := wrap_small (by omega) (by omega)
  have w7 : IntKind.i64.wrap (2 + ((n % 7 : Nat) : Int)) = ((2 + n % 7 : Nat) : Int) := by rw [wrap_small (by omega) (by omega)]; omega
  have o39 := c39 (2 + n % 7) (by omega) (by omega)
  have o38 := c38 (mk (2 + n % 7))
  have hl2 : (mk (2 + n % 7)).sec.length = 2 + n % 7 := by simp [mk]
  have lp := lp13 l (by omega) m (by omega) (2 + n % 7) (by omega) (by omega) ⟨⟨mk (2 + n % 7), 1, 0⟩, zrec, []⟩
    ⟨JI_new (2 + n % 7) (by omega) (by omega) (f := -1) (t := 0) (.inl rfl) (by omega) (by omega), rfl, hl2, .inl rfl, by simp, .inl rfl, by simp, by simp⟩
  generalize 2 + n % 7 = q at *
  unfold S13 T13 D13 at lp
  simp only [rcl, zrec, List.map_nil, List.length_nil, Int.natCast_zero, Int.ofNat_zero] at lp
  rcases lp with ⟨Y, lp⟩ | ⟨X, lp⟩
  · rw [pc_eq]; simp +contextual -implicitDefEqProofs (maxSteps := 2000000) only [go_sem, ↓reduceIte, Nat.reduceAdd, Nat.reduceMul, Nat.reduceSub, Nat.reduceEqDiff, Nat.reduceLeDiff, Nat.reduceDiv, Nat.reduceMod, Nat.reduceBEq, Nat.reduceBNe, reduceCtorEq, Int.reduceLE, Int.reduceLT, Int.reduceToNat, Int.reduceNeg, Nat.reduceLT, Int.reduceEq, Int.reduceSub, Int.reduceAdd, Int.reduceMul, Nat.reducePow, Int.reduceBEq, Int.reduceBNe, Int.reduceMod, E_13, A13, hd, List.length_map, k1, k2, w1, w4, w7, m1, o39, o38, lp]
  · rw [pc_eq]; simp +contextual -implicitDefEqProofs (maxSteps := 2000000) only [go_sem, ↓reduceIte, Nat.reduceAdd, Nat.reduceMul, Nat.reduceSub, Nat.reduceEqDiff, Nat.reduceLeDiff, Nat.reduceDiv, Nat.reduceMod, Nat.reduceBEq, Nat.reduceBNe, reduceCtorEq, Int.reduceLE, Int.reduceLT, Int.reduceToNat, Int.reduceNeg, Nat.reduceLT, Int.reduceEq, Int.reduceSub, Int.reduceAdd, Int.reduceMul, Nat.reducePow, Int.reduceBEq, Int.reduceBNe, Int.reduceMod, E_13, A13, hd, List.length_map, k1, k2, w1, w4, w7, m1, o39, o38, lp]
end Go.Proofs.Ytjmnepfdhkabfaa
