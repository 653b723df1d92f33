/- Part of the proof: what functions of the program compute, over the evaluation that the engine's texts tie to the machine. -/
import Derived.Test.YtjmnepfdhkabfaaD4
namespace Go.Proofs.Ytjmnepfdhkabfaa
set_option maxRecDepth 100000
set_option maxHeartbeats 4000000
set_option linter.unusedSimpArgs false
set_option linter.unusedVariables false
open Go Go.Zv
theorem ok_mk (n : Nat) (h1 : 1 ≤ n) (h2 : n ≤ 64) : OKd (mk n) := by
  refine ⟨by simp [mk]; omega, by simp [mk]; omega, fun s hs => ?_, .inl rfl, by simp [mk], by simp [mk]⟩
  have := List.eq_of_mem_replicate (show s ∈ List.replicate n zs from hs)
  rw [this, zs_len]
theorem c22 (n : Nat) (hn : n ≤ 255) : pc E 22 [.int .u8 n] = some (dv (mk (1 + n % 6))) := by
  have w1 : IntKind.i64.wrap (n : Int) = n := wrap_small (by omega) (by omega)
  have t1 : (n : Int).tmod 6 = ((n % 6 : Nat) : Int) := by rw [Int.tmod_eq_emod_of_nonneg (by omega)]; rfl
  have w2 : IntKind.i64.wrap (1 + ((n % 6 : Nat) : Int)) = ((1 + n % 6 : Nat) : Int) := by rw [wrap_small (by omega) (by omega)]; omega
  have h := c18 (1 + n % 6) (by omega) (by omega)
  generalize hm : (1 + n % 6 : Nat) = m at *
  generalize mk m = dd at *
  obtain ⟨s, f, t, w⟩ := dd
  rw [pc_eq]; simp +contextual -implicitDefEqProofs (maxSteps := 2000000) only [go_sem, ↓reduceIte, Nat.reduceAdd, Nat.reduceMul, Nat.reduceSub, Nat.reduceEqDiff, Nat.reduceLeDiff, Nat.reduceDiv, Nat.reduceMod, Nat.reduceBEq, Nat.reduceBNe, reduceCtorEq, Int.reduceLE, Int.reduceLT, Int.reduceToNat, Int.reduceNeg, Nat.reduceLT, Int.reduceEq, Int.reduceSub, Int.reduceAdd, Int.reduceMul, Nat.reducePow, E_22, A22, w1, t1, w2, h]
/-- what fused makes -/
def fu (d : Dsk) (a2 a3 : Int) : Dsk := if d.down = true then d else ⟨d.sec, 1 + a2.tmod 9, a3.tmod 65, false⟩
theorem c50 (d : Dsk) (a0 a1 a2 a3 : Int) (x : List UInt8) (h1 : 0 ≤ a2) (h2 : a2 ≤ 255) (h3 : 0 ≤ a3) (h4 : a3 ≤ 255) : pc E 50 [dv d, .agg [.int .u8 a0, .int .i64 a1, .int .u8 a2, .int .u8 a3, bv x]] = some (dv (fu d a2 a3)) := by
  obtain ⟨s, f, t, w⟩ := d
  have w1 : IntKind.i64.wrap a2 = a2 := wrap_small (by omega) (by omega)
  have w2 : IntKind.i64.wrap a3 = a3 := wrap_small (by omega) (by omega)
  have e1 := Int.tmod_lt_of_pos a2 (show (0 : Int) < 9 by omega)
  have e2 := Int.lt_tmod_of_pos a2 (show (0 : Int) < 9 by omega)
  have w3 : IntKind.i64.wrap (1 + a2.tmod 9) = 1 + a2.tmod 9 := wrap_small (by omega) (by omega)
  cases w with
  | true => rw [pc_eq]; simp +contextual -implicitDefEqProofs (maxSteps := 2000000) only [go_sem, ↓reduceIte, Nat.reduceAdd, Nat.reduceMul, Nat.reduceSub, Nat.reduceEqDiff, Nat.reduceLeDiff, Nat.reduceDiv, Nat.reduceMod, Nat.reduceBEq, Nat.reduceBNe, reduceCtorEq, Int.reduceLE, Int.reduceLT, Int.reduceToNat, Int.reduceNeg, Nat.reduceLT, Int.reduceEq, Int.reduceSub, Int.reduceAdd, Int.reduceMul, Nat.reducePow, E_50, A50, fu]
  | false => rw [pc_eq]; simp +contextual -implicitDefEqProofs (maxSteps := 2000000) only [go_sem, ↓reduceIte, Nat.reduceAdd, Nat.reduceMul, Nat.reduceSub, Nat.reduceEqDiff, Nat.reduceLeDiff, Nat.reduceDiv, Nat.reduceMod, Nat.reduceBEq, Nat.reduceBNe, reduceCtorEq, Int.reduceLE, Int.reduceLT, Int.reduceToNat, Int.reduceNeg, Nat.reduceLT, Int.reduceEq, Int.reduceSub, Int.reduceAdd, Int.reduceMul, Nat.reducePow, E_50, A50, fu, w1, w2, w3]
theorem ok_fu {d : Dsk} (h : OKd d) {a2 a3 : Int} (h1 : 0 ≤ a2) (h3 : 0 ≤ a3) : OKd (fu d a2 a3) := by
  unfold fu
  split
  · exact h
  · have e1 := Int.tmod_lt_of_pos a2 (show (0 : Int) < 9 by omega)
    have e2 := Int.tmod_nonneg 9 h1
    have e3 := Int.tmod_lt_of_pos a3 (show (0 : Int) < 65 by omega)
    have e4 := Int.tmod_nonneg 65 h3
    exact ⟨h.len1, h.len2, h.all, .inr ⟨by simp only; omega, by simp only; omega⟩, e4, by simp only; omega⟩
theorem ok_wr {d : Dsk} (h : OKd d) (i : Int) (x : List UInt8) : OKd (wr d i x).1 := by
  unfold wr
  split
  · exact h
  · split
    · rename_i hc
      have hget : d.sec[i.toNat]? = some (d.sec[i.toNat]'(by omega)) := List.getElem?_eq_getElem _
      have hpl := h.all _ (List.getElem_mem (l := d.sec) (n := i.toNat) (by omega))
      rw [hget, Option.getD_some]
      have hset : ∀ y : List UInt8, y.length = 64 → ∀ s ∈ d.sec.set i.toNat y, s.length = 64 := fun y hy s hs => by
        rcases List.mem_or_eq_of_mem_set hs with h' | rfl
        · exact h.all s h'
        · exact hy
      split
      · exact ⟨by simp only [List.length_set]; exact h.len1, by simp only [List.length_set]; exact h.len2, hset _ (by rw [over_len (by rw [List.length_take, hpl]; omega), hpl]), .inl rfl, by simp, by simp⟩
      · refine ⟨by simp only [List.length_set]; exact h.len1, by simp only [List.length_set]; exact h.len2, hset _ (by rw [over_len (by omega), hpl]), ?_, h.torn0, h.torn1⟩
        have := h.fuse
        simp only
        split <;> omega
    · exact h
theorem ok_up {d : Dsk} (h : OKd d) : OKd { d with down := false } := ⟨h.len1, h.len2, h.all, h.fuse, h.torn0, h.torn1⟩
end Go.Proofs.Ytjmnepfdhkabfaa
