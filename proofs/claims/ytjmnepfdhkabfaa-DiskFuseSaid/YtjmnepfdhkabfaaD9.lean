/- Part of the proof: what functions of the program compute, over the evaluation that the engine's texts tie to the machine. -/
import Derived.Test.YtjmnepfdhkabfaaD8
namespace Go.Proofs.Ytjmnepfdhkabfaa
set_option maxRecDepth 100000
set_option maxHeartbeats 4000000
set_option linter.unusedSimpArgs false
set_option linter.unusedVariables false
open Go Go.Zv
def a5 (a : Act) : List LV := [.int .u8 a.k, .int .i64 a.at_, .int .u8 a.n, .int .u8 a.torn, bv a.data]
theorem get_a5 {l : List Act} {i : Nat} {p : Act} (h : l[i]? = some p) : (l.map a5)[i]? = some [.int .u8 p.k, .int .i64 p.at_, .int .u8 p.n, .int .u8 p.torn, bv p.data] := by
  rw [List.getElem?_map, h]; rfl
def acs (d : Dsk) (l : List Act) : Dsk := l.foldl (fun d a => (ac d a).1) d
theorem made_loop (l : List Act) (hl : l.length ≤ 1000000000) (ha : ∀ a ∈ l, OKa a) : ∀ (j k : Nat) (d : Dsk), OKd d → k + j = l.length →
    (K E A28_L0 ⟨[(1, .vs (l.map a5)), (4, .ptr 1024 0), (5, .ptr 1280 0), (6, .int .i64 k)], [],
      [(1280, .box [sv d.sec, .int .i64 d.fuse, .int .i64 d.torn, .bool d.down]), (1281, .row 1 []), (1024, .box [.bs 1025 0 0, .int .i64 0, .int .i64 0, .bool false]), (1025, .row 1 [])], 0⟩).bind (blockR 0 (some [4, 5]) [6, 7, 8, 23]) =
    some (.ex .nrm ⟨[(4, .ptr 1024 0), (5, .ptr 1280 0)], [],
      [(1280, .box [sv (acs d (l.drop k)).sec, .int .i64 (acs d (l.drop k)).fuse, .int .i64 (acs d (l.drop k)).torn, .bool (acs d (l.drop k)).down]), (1281, .row 1 []), (1024, .box [.bs 1025 0 0, .int .i64 0, .int .i64 0, .bool false]), (1025, .row 1 [])], 0⟩)
  | 0, k, d, hd, h => by
    have e : l.length = k := by omega
    have he : l.drop k = [] := List.drop_of_length_le (by omega)
    rw [A28_L0_eq, he]
    simp +contextual -implicitDefEqProofs (maxSteps := 2000000) only [go_sem, ↓reduceIte, Nat.reduceAdd, Nat.reduceMul, Nat.reduceSub, Nat.reduceEqDiff, Nat.reduceLeDiff, Nat.reduceDiv, Nat.reduceMod, Nat.reduceBEq, Nat.reduceBNe, reduceCtorEq, Int.reduceLE, Int.reduceLT, Int.reduceToNat, Int.reduceNeg, Nat.reduceLT, Int.reduceEq, Int.reduceSub, Int.reduceAdd, Int.reduceMul, Nat.reducePow, A28_L0b, e, Int.lt_irrefl, List.length_map, acs, List.foldl_nil]
  | j + 1, k, d, hd, h => by
    have h1 : (k : Int) < l.length := by omega
    have hget : l[k]? = some (l[k]'(by omega)) := List.getElem?_eq_getElem _
    have he : l.drop k = (l[k]'(by omega)) :: l.drop (k + 1) := List.drop_eq_getElem_cons (by omega)
    have hp := ha _ (List.getElem_mem (l := l) (n := k) (by omega))
    generalize l[k]'(by omega) = p at hget he hp
    have hg := get_a5 hget
    have hw := wr_succ (n := k) (by omega)
    have h0 : (0 : Int) ≤ (k : Int) := by omega
    have h24 := c24 d hd p hp
    have ih := made_loop l hl ha j (k + 1) (ac d p).1 (ok_ac hd hp) (by omega)
    have ea : acs d (p :: l.drop (k + 1)) = acs (ac d p).1 (l.drop (k + 1)) := rfl
    rw [A28_L0_eq, he, ea]
    simp +contextual -implicitDefEqProofs (maxSteps := 2000000) only [go_sem, ↓reduceIte, Nat.reduceAdd, Nat.reduceMul, Nat.reduceSub, Nat.reduceEqDiff, Nat.reduceLeDiff, Nat.reduceDiv, Nat.reduceMod, Nat.reduceBEq, Nat.reduceBNe, reduceCtorEq, Int.reduceLE, Int.reduceLT, Int.reduceToNat, Int.reduceNeg, Nat.reduceLT, Int.reduceEq, Int.reduceSub, Int.reduceAdd, Int.reduceMul, Nat.reducePow, A28_L0b, h1, hg, hw, h0, h24, ih, List.length_map]
theorem ok_acs {l : List Act} (ha : ∀ a ∈ l, OKa a) : ∀ {d : Dsk}, OKd d → OKd (acs d l) := by
  induction l with
  | nil => exact fun h => h
  | cons a l ih => exact fun h => ih (fun b hb => ha b (by simp [hb])) (ok_ac h (ha a (by simp)))
/-- the disk that Made hands back -/
def made (n : Nat) (l : List Act) : Dsk := acs (mk (1 + n % 6)) l
theorem ok_made (n : Nat) (l : List Act) (ha : ∀ a ∈ l, OKa a) : OKd (made n l) := ok_acs ha (ok_mk _ (by omega) (by omega))
theorem c28 (n : Nat) (hn : n ≤ 255) (l : List Act) (hl : l.length ≤ 1000000000) (ha : ∀ a ∈ l, OKa a) : pc E 28 [.int .u8 n, .vs (l.map a5)] = some (dv (made n l)) := by
  have h22 := c22 n hn
  have hk := ok_mk (1 + n % 6) (by omega) (by omega)
  have ml := made_loop l hl ha l.length 0 (mk (1 + n % 6)) hk (by omega)
  simp only [Int.natCast_zero, Int.ofNat_zero, List.drop_zero] at ml
  unfold made
  generalize mk (1 + n % 6) = d at *
  obtain ⟨s, f, t, w⟩ := d
  generalize acs ⟨s, f, t, w⟩ l = u at *
  obtain ⟨s1, f1, t1, w1⟩ := u
  rw [pc_eq]; simp +contextual -implicitDefEqProofs (maxSteps := 2000000) only [go_sem, ↓reduceIte, Nat.reduceAdd, Nat.reduceMul, Nat.reduceSub, Nat.reduceEqDiff, Nat.reduceLeDiff, Nat.reduceDiv, Nat.reduceMod, Nat.reduceBEq, Nat.reduceBNe, reduceCtorEq, Int.reduceLE, Int.reduceLT, Int.reduceToNat, Int.reduceNeg, Nat.reduceLT, Int.reduceEq, Int.reduceSub, Int.reduceAdd, Int.reduceMul, Nat.reducePow, E_28, A28, List.length_map, h22, ml]
end Go.Proofs.Ytjmnepfdhkabfaa
