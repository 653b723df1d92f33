/- Part of the proof: what functions of the program compute, over the evaluation that the engine's texts tie to the machine. -/
import Derived.Test.YtojjdhdflhcdkaaGQ
namespace Go.Proofs.Ytojjdhdflhcdkaa
set_option maxRecDepth 100000
set_option maxHeartbeats 4000000
set_option linter.unusedSimpArgs false
set_option linter.unusedVariables false
open Go Go.Zv
theorem take_c2' (l : List (Int × Int)) : (l.map c2).take l.length = l.map c2 := List.take_of_length_le (by simp)
theorem inner_loop (a b : List (Int × Int)) (ha : a.length ≤ 30) (hb : b.length ≤ 30) (i : Nat) (g : Int) (p : Int × Int) (hp : a[i]? = some p) (bp : B p.1 ∧ B p.2) (bb : ∀ q ∈ b, B q.1 ∧ B q.2)
    (hg : ∀ q ∈ b, g ≤ p.1 - q.1 ∨ g ≤ q.1 - p.1 ∨ g ≤ p.2 - q.2 ∨ g ≤ q.2 - p.2) : ∀ (j k : Nat), k + j = b.length →
    (K E A9_L1 ⟨[(5, .bool true), (6, .bs 5120 0 a.length), (7, .bs 5632 0 b.length), (8, .int .i64 g), (9, .int .i64 i), (10, .int .i64 k)], [],
   [(5632, .row 2 (b.map c2)), (5120, .row 2 (a.map c2))], 0⟩).bind (blockR 2 (some [5, 6, 7, 8, 9]) [4, 10, 11, 12]) = some (.ex .nrm ⟨[(5, .bool true), (6, .bs 5120 0 a.length), (7, .bs 5632 0 b.length), (8, .int .i64 g), (9, .int .i64 i)], [],
   [(5632, .row 2 (b.map c2)), (5120, .row 2 (a.map c2))], 0⟩)
  | 0, k, h => by
    have hk : ¬ ((k : Int) < b.length) := by omega
    rw [A9_L1_eq]
    simp +contextual -implicitDefEqProofs (maxSteps := 2000000) only [go_sem, ↓reduceIte, Nat.reduceAdd, Nat.reduceMul, Nat.reduceSub, Nat.reduceEqDiff, Nat.reduceLeDiff, Nat.reduceDiv, Nat.reduceMod, Nat.reduceBEq, reduceCtorEq, Int.reduceLE, Int.reduceLT, Int.reduceToNat, Int.reduceNeg, Nat.reduceLT, Int.reduceEq, Int.reduceSub, Int.reduceAdd, Int.reduceMul, Nat.reducePow, A9_L1b, hk]
  | j + 1, k, h => by
    have hk : ((k : Int) < b.length) := by omega
    have hget : b[k]? = some (b[k]'(by omega)) := List.getElem?_eq_getElem _
    have hq := hg (b[k]'(by omega)) (List.getElem_mem _)
    have bq := bb (b[k]'(by omega)) (List.getElem_mem _)
    generalize b[k]'(by omega) = q at hget hq bq
    obtain ⟨⟨p1, p2⟩, p3, p4⟩ := bp
    obtain ⟨⟨q1, q2⟩, q3, q4⟩ := bq
    have hi : (i : Int) < a.length := by
      have := (List.getElem?_eq_some_iff.1 hp).1
      omega
    have hg1 := get_c2 hp
    have hg2 := get_c2 hget
    have hw := wr_succ (n := k) (by omega)
    have h0 : (0 : Int) ≤ (i : Int) := by omega
    have h1 : (0 : Int) ≤ (k : Int) := by omega
    have w1 : IntKind.i64.wrap (p.1 - q.1) = p.1 - q.1 := wrap_small (by omega) (by omega)
    have w2 : IntKind.i64.wrap (p.2 - q.2) = p.2 - q.2 := wrap_small (by omega) (by omega)
    have w3 : IntKind.i64.wrap (0 - (p.1 - q.1)) = 0 - (p.1 - q.1) := wrap_small (by omega) (by omega)
    have w4 : IntKind.i64.wrap (0 - (p.2 - q.2)) = 0 - (p.2 - q.2) := wrap_small (by omega) (by omega)
    have hgt : (g > mxI (mxI (mxI (p.1 - q.1) (0 - (p.1 - q.1))) (p.2 - q.2)) (0 - (p.2 - q.2))) = False := by
      have m1 := mx_le (p.1 - q.1) (0 - (p.1 - q.1))
      have m2 := mx_le (mxI (p.1 - q.1) (0 - (p.1 - q.1))) (p.2 - q.2)
      have m3 := mx_le (mxI (mxI (p.1 - q.1) (0 - (p.1 - q.1))) (p.2 - q.2)) (0 - (p.2 - q.2))
      simp only [eq_iff_iff, iff_false]; omega
    have ih := inner_loop a b ha hb i g p hp ⟨⟨p1, p2⟩, p3, p4⟩ bb hg j (k + 1) (by omega)
    rw [A9_L1_eq]
    simp +contextual -implicitDefEqProofs (maxSteps := 2000000) only [go_sem, ↓reduceIte, Nat.reduceAdd, Nat.reduceMul, Nat.reduceSub, Nat.reduceEqDiff, Nat.reduceLeDiff, Nat.reduceDiv, Nat.reduceMod, Nat.reduceBEq, reduceCtorEq, Int.reduceLE, Int.reduceLT, Int.reduceToNat, Int.reduceNeg, Nat.reduceLT, Int.reduceEq, Int.reduceSub, Int.reduceAdd, Int.reduceMul, Nat.reducePow, A9_L1b, hk, hi, hg1, hg2, hw, h0, h1, w1, w2, w3, w4, hgt, ih, List.length_map, decide_false]
theorem out_loop (a b : List (Int × Int)) (ha : a.length ≤ 30) (hb : b.length ≤ 30) (g : Int) (ba : ∀ q ∈ a, B q.1 ∧ B q.2) (bb : ∀ q ∈ b, B q.1 ∧ B q.2)
    (hg : ∀ p ∈ a, ∀ q ∈ b, g ≤ p.1 - q.1 ∨ g ≤ q.1 - p.1 ∨ g ≤ p.2 - q.2 ∨ g ≤ q.2 - p.2) : ∀ (k i : Nat), i + k = a.length →
    (K E A9_L2 ⟨[(5, .bool true), (6, .bs 5120 0 a.length), (7, .bs 5632 0 b.length), (8, .int .i64 g), (9, .int .i64 i)], [],
   [(5632, .row 2 (b.map c2)), (5120, .row 2 (a.map c2))], 0⟩).bind (blockR 0 (some [5, 6, 7, 8]) [4, 9, 10, 11, 12]) = some (.ex .nrm ⟨[(5, .bool true), (6, .bs 5120 0 a.length), (7, .bs 5632 0 b.length), (8, .int .i64 g)], [],
   [(5632, .row 2 (b.map c2)), (5120, .row 2 (a.map c2))], 0⟩)
  | 0, i, h => by
    have hi : ¬ ((i : Int) < a.length) := by omega
    rw [A9_L2_eq]
    simp +contextual -implicitDefEqProofs (maxSteps := 2000000) only [go_sem, ↓reduceIte, Nat.reduceAdd, Nat.reduceMul, Nat.reduceSub, Nat.reduceEqDiff, Nat.reduceLeDiff, Nat.reduceDiv, Nat.reduceMod, Nat.reduceBEq, reduceCtorEq, Int.reduceLE, Int.reduceLT, Int.reduceToNat, Int.reduceNeg, Nat.reduceLT, Int.reduceEq, Int.reduceSub, Int.reduceAdd, Int.reduceMul, Nat.reducePow, A9_L2b, hi]
  | k + 1, i, h => by
    have hi : ((i : Int) < a.length) := by omega
    have hget : a[i]? = some (a[i]'(by omega)) := List.getElem?_eq_getElem _
    have hp := hg (a[i]'(by omega)) (List.getElem_mem _)
    have bp := ba (a[i]'(by omega)) (List.getElem_mem _)
    generalize a[i]'(by omega) = p at hget hp bp
    have hw := wr_succ (n := i) (by omega)
    have il := inner_loop a b ha hb i g p hget bp bb hp b.length 0 (by omega)
    simp only [Int.ofNat_zero, Int.natCast_zero] at il
    have ih := out_loop a b ha hb g ba bb hg k (i + 1) (by omega)
    rw [A9_L2_eq]
    simp +contextual -implicitDefEqProofs (maxSteps := 2000000) only [go_sem, ↓reduceIte, Nat.reduceAdd, Nat.reduceMul, Nat.reduceSub, Nat.reduceEqDiff, Nat.reduceLeDiff, Nat.reduceDiv, Nat.reduceMod, Nat.reduceBEq, reduceCtorEq, Int.reduceLE, Int.reduceLT, Int.reduceToNat, Int.reduceNeg, Nat.reduceLT, Int.reduceEq, Int.reduceSub, Int.reduceAdd, Int.reduceMul, Nat.reducePow, A9_L2b, hi, il, hw, ih]
def cf (p : Int × Int) : Int × Int := (p.1.tdiv 4, p.2.tdiv 4)
def df (p : Int × Int) : Int × Int := (p.1.tdiv 4 + 219700000 + 9, p.2.tdiv 4)
theorem cd_loop (a b : List (Int × Int)) (ha : a.length ≤ 30) (g : Int) (ba : ∀ q ∈ a, B q.1 ∧ B q.2) : ∀ (k i : Nat) (c d : List (Int × Int)), i + k = a.length → c.length = i → d.length = i →
    (K E A9_L0 ⟨[(5, .bool true), (6, .bs 5120 0 a.length), (7, .bs 5632 0 b.length), (8, .int .i64 g), (13, .bs 17664 0 i), (14, .bs 17920 0 i), (15, .int .i64 i)], [],
   [(17920, .row 2 (d.map c2)), (17664, .row 2 (c.map c2)), (5632, .row 2 (b.map c2)), (5120, .row 2 (a.map c2))], 0⟩).bind (blockR 4 (some [5, 6, 7, 8, 13, 14]) [15, 90, 91, 108, 109]) =
    some (.ex .nrm ⟨[(5, .bool true), (6, .bs 5120 0 a.length), (7, .bs 5632 0 b.length), (8, .int .i64 g), (13, .bs 17664 0 a.length), (14, .bs 17920 0 a.length)], [],
   [(17920, .row 2 ((d ++ (a.drop i).map df).map c2)), (17664, .row 2 ((c ++ (a.drop i).map cf).map c2)), (5632, .row 2 (b.map c2)), (5120, .row 2 (a.map c2))], 0⟩)
  | 0, i, c, d, h, hc, hd => by
    have hi : ¬ ((i : Int) < a.length) := by omega
    have he : a.drop i = [] := List.drop_of_length_le (by omega)
    have e : a.length = i := by omega
    rw [A9_L0_eq, he]
    simp +contextual -implicitDefEqProofs (maxSteps := 2000000) only [go_sem, ↓reduceIte, Nat.reduceAdd, Nat.reduceMul, Nat.reduceSub, Nat.reduceEqDiff, Nat.reduceLeDiff, Nat.reduceDiv, Nat.reduceMod, Nat.reduceBEq, reduceCtorEq, Int.reduceLE, Int.reduceLT, Int.reduceToNat, Int.reduceNeg, Nat.reduceLT, Int.reduceEq, Int.reduceSub, Int.reduceAdd, Int.reduceMul, Nat.reducePow, A9_L0b, Int.lt_irrefl, List.map_nil, List.append_nil, e]
  | k + 1, i, c, d, h, hc, hd => by
    have hi : ((i : Int) < a.length) := by omega
    have hget : a[i]? = some (a[i]'(by omega)) := List.getElem?_eq_getElem _
    have he : a.drop i = (a[i]'(by omega)) :: a.drop (i + 1) := List.drop_eq_getElem_cons (by omega)
    have bp := ba (a[i]'(by omega)) (List.getElem_mem _)
    generalize a[i]'(by omega) = p at hget he bp
    obtain ⟨⟨p1, p2⟩, p3, p4⟩ := bp
    have hg1 := get_c2 hget
    have hw := wr_succ (n := i) (by omega)
    have h0 : (0 : Int) ≤ (i : Int) := by omega
    have d1 := Int.tmod_add_mul_tdiv p.1 4
    have e1 := tmod_bd p.1 (n := 4) (by omega)
    have d2 := Int.tmod_add_mul_tdiv p.2 4
    have e2 := tmod_bd p.2 (n := 4) (by omega)
    have w1 : IntKind.i64.wrap (p.1.tdiv 4) = p.1.tdiv 4 := wrap_small (by omega) (by omega)
    have w2 : IntKind.i64.wrap (p.2.tdiv 4) = p.2.tdiv 4 := wrap_small (by omega) (by omega)
    have w3 : IntKind.i64.wrap (p.1.tdiv 4 + 219700000) = p.1.tdiv 4 + 219700000 := wrap_small (by omega) (by omega)
    have w4 : IntKind.i64.wrap (p.1.tdiv 4 + 219700000 + 9) = p.1.tdiv 4 + 219700000 + 9 := wrap_small (by omega) (by omega)
    have hb : i + 1 ≤ 1000000000 := by omega
    have t1 : (c.map c2).take i = c.map c2 := List.take_of_length_le (by simp [hc])
    have t2 : (d.map c2).take i = d.map c2 := List.take_of_length_le (by simp [hd])
    have ih := cd_loop a b ha g ba k (i + 1) (c ++ [cf p]) (d ++ [df p]) (by omega) (by simp [hc]) (by simp [hd])
    simp only [List.map_append, List.map_cons, List.map_nil, cf, df, c2, List.append_assoc, List.cons_append, List.nil_append] at ih
    rw [A9_L0_eq, he]
    simp +contextual -implicitDefEqProofs (maxSteps := 2000000) only [go_sem, ↓reduceIte, Nat.reduceAdd, Nat.reduceMul, Nat.reduceSub, Nat.reduceEqDiff, Nat.reduceLeDiff, Nat.reduceDiv, Nat.reduceMod, Nat.reduceBEq, reduceCtorEq, Int.reduceLE, Int.reduceLT, Int.reduceToNat, Int.reduceNeg, Nat.reduceLT, Int.reduceEq, Int.reduceSub, Int.reduceAdd, Int.reduceMul, Nat.reducePow, A9_L0b, hi, hg1, hw, h0, w1, w2, w3, w4, List.length_map, hc, hd, hb, t1, t2, c27, ih, Nat.le_refl, List.map_cons, List.map_append, cf, df, c2, List.append_assoc]
theorem law9 (l m : List (Int × Int)) (hl : l.length < 9223372036854775808) (hm : m.length < 9223372036854775808) :
    pc E 9 [.vs (l.map c2), .vs (m.map c2)] = some (.bool true) := by
  have h1 := c12 l hl
  have h2 := c12 m hm
  have f1 := fits_len l
  have f2 := fits_len m
  have b1 := fits_bd (l := l)
  have b2 := fits_bd (l := m)
  generalize fits l = a at *
  generalize fits m = b at *
  have ba : ∀ q ∈ a, B q.1 ∧ B q.2 := fun p hp => by have := b1 p hp; exact ⟨⟨by omega, by omega⟩, by omega, by omega⟩
  have bb : ∀ q ∈ b, B q.1 ∧ B q.2 := fun p hp => by have := b2 p hp; exact ⟨⟨by omega, by omega⟩, by omega, by omega⟩
  have h3 := c25 a b (by omega) (by omega)
  have h4 := c25 b a (by omega) (by omega)
  have hg : ∀ p ∈ a, ∀ q ∈ b, gapI a b ≤ p.1 - q.1 ∨ gapI a b ≤ q.1 - p.1 ∨ gapI a b ≤ p.2 - q.2 ∨ gapI a b ≤ q.2 - p.2 := fun p hp q hq => by
    have ha : a ≠ [] := List.ne_nil_of_mem hp
    have hb : b ≠ [] := List.ne_nil_of_mem hq
    rw [gap_eq ha hb ba bb]
    have bx := box ha
    have by_ := box hb
    have hc := (gapZ_char (bbL a) (bbH a) (bbL b) (bbH b) _).1 rfl
    have := bx.b1 p hp; have := bx.b2 p hp; have := bx.b3 p hp; have := bx.b4 p hp
    have := by_.b1 q hq; have := by_.b2 q hq; have := by_.b3 q hq; have := by_.b4 q hq
    omega
  have hs : gapI b a = gapI a b := by
    by_cases ha : a = []
    · subst ha; simp [gapI]
    by_cases hb : b = []
    · subst hb; simp [gapI]
    rw [gap_eq ha hb ba bb, gap_eq hb ha bb ba, gapZ_char]
    have hc := (gapZ_char (bbL b) (bbH b) (bbL a) (bbH a) _).1 rfl
    have hc := (gapZ_char (bbL a) (bbH a) (bbL b) (bbH b) _).1 rfl
    omega
  have hn : gapI a b ≥ 0 := by
    by_cases ha : a = []
    · subst ha; simp [gapI]
    by_cases hb : b = []
    · subst hb; simp [gapI]
    rw [gap_eq ha hb ba bb]
    have hc := (gapZ_char (bbL a) (bbH a) (bbL b) (bbH b) _).1 rfl
    omega
  rw [hs] at h4
  have ol := out_loop a b f1 f2 (gapI a b) ba bb hg a.length 0 (by omega)
  simp only [Int.ofNat_zero, Int.natCast_zero] at ol
  have cl := cd_loop a b f1 (gapI a b) ba a.length 0 [] [] (by omega) rfl rfl
  simp only [Int.ofNat_zero, Int.natCast_zero, List.drop_zero, List.map_nil, List.nil_append] at cl
  have h5 := c13 (a.map cf) (by simp; omega)
  have h6 := c25 (a.map cf) (a.map df) (by simp; omega) (by simp; omega)
  have tk : ∀ f : Int × Int → Int × Int, ((a.map f).map c2).take a.length = (a.map f).map c2 := fun f => List.take_of_length_le (by simp)
  have qd : ∀ p ∈ a, (-109850000 ≤ (cf p).1 ∧ (cf p).1 ≤ 109850000) ∧ (-109850000 ≤ (cf p).2 ∧ (cf p).2 ≤ 109850000) := fun p hp => by
    have d1 := Int.tmod_add_mul_tdiv p.1 4
    have e1 := tmod_bd p.1 (n := 4) (by omega)
    have d2 := Int.tmod_add_mul_tdiv p.2 4
    have e2 := tmod_bd p.2 (n := 4) (by omega)
    have := b1 p hp
    unfold cf; omega
  by_cases ha : a = []
  · subst ha
    simp only [List.map_nil, List.length_nil, Int.natCast_zero, Int.ofNat_zero] at *
    rw [pc_eq]; simp +contextual -implicitDefEqProofs (maxSteps := 2000000) only [go_sem, ↓reduceIte, Nat.reduceAdd, Nat.reduceMul, Nat.reduceSub, Nat.reduceEqDiff, Nat.reduceLeDiff, Nat.reduceDiv, Nat.reduceMod, Nat.reduceBEq, reduceCtorEq, Int.reduceLE, Int.reduceLT, Int.reduceToNat, Int.reduceNeg, Nat.reduceLT, Int.reduceEq, Int.reduceSub, Int.reduceAdd, Int.reduceMul, Nat.reducePow, E_9, A9, c10, h1, h2, h3, h4, h5, h6, List.length_map, take_c2', ol, cl, hn, decide_true, List.map_nil, List.length_nil, Int.natCast_zero, Int.ofNat_zero]
  have hz : ¬ ((a.length : Int) = 0) := by
    have := List.length_pos_iff.2 ha
    omega
  have hc0 : a.map cf ≠ [] := by simp [ha]
  have hd0 : a.map df ≠ [] := by simp [ha]
  have bc := box hc0
  have bd := box hd0
  have bd2 : Box (a.map df) ((bbL (a.map cf)).1 + 219700000 + 9, (bbL (a.map cf)).2) ((bbH (a.map cf)).1 + 219700000 + 9, (bbH (a.map cf)).2) := by
    have m : ∀ p ∈ a, cf p ∈ a.map cf := fun p hp => List.mem_map_of_mem hp
    have m' : ∀ p ∈ a, df p ∈ a.map df := fun p hp => List.mem_map_of_mem hp
    have all : ∀ {Q : Int × Int → Prop}, (∀ p ∈ a, Q (df p)) → ∀ q ∈ a.map df, Q q := fun h q hq => by
      obtain ⟨p, hp, rfl⟩ := List.mem_map.1 hq; exact h p hp
    have ex : ∀ {Q : Int × Int → Prop} {R : Int × Int → Prop}, (∃ q ∈ a.map cf, Q q) → (∀ p ∈ a, Q (cf p) → R (df p)) → ∃ q ∈ a.map df, R q := fun ⟨q, hq, h⟩ k => by
      obtain ⟨p, hp, rfl⟩ := List.mem_map.1 hq; exact ⟨_, m' p hp, k p hp h⟩
    refine ⟨all fun p hp => ?_, all fun p hp => ?_, all fun p hp => ?_, all fun p hp => ?_, ex bc.m1 fun p hp h => ?_, ex bc.m2 fun p hp h => ?_, ex bc.m3 fun p hp h => ?_, ex bc.m4 fun p hp h => ?_⟩
    · have := bc.b1 _ (m p hp); simp only [cf, df] at *; omega
    · have := bc.b2 _ (m p hp); simp only [cf, df] at *; omega
    · have := bc.b3 _ (m p hp); simp only [cf, df] at *; omega
    · have := bc.b4 _ (m p hp); simp only [cf, df] at *; omega
    · simp only [cf, df] at *; omega
    · simp only [cf, df] at *; omega
    · simp only [cf, df] at *; omega
    · simp only [cf, df] at *; omega
  obtain ⟨u1, u2⟩ := bd.uniq bd2
  have Bc : ∀ q ∈ a.map cf, B q.1 ∧ B q.2 := fun q hq => by
    obtain ⟨p, hp, rfl⟩ := List.mem_map.1 hq
    have := qd p hp; exact ⟨⟨by omega, by omega⟩, by omega, by omega⟩
  have Bd : ∀ q ∈ a.map df, B q.1 ∧ B q.2 := fun q hq => by
    obtain ⟨p, hp, rfl⟩ := List.mem_map.1 hq
    have := qd p hp
    have e1 : (df p).1 = (cf p).1 + 219700000 + 9 := rfl
    have e2 : (df p).2 = (cf p).2 := rfl
    exact ⟨⟨by omega, by omega⟩, by omega, by omega⟩
  have hgap : gapI (a.map cf) (a.map df) = mxI 0 (219700009 - ((bbH (a.map cf)).1 - (bbL (a.map cf)).1)) := by
    rw [gap_eq hc0 hd0 Bc Bd, u1, u2]
    symm
    rw [gapZ_char]
    obtain ⟨p1, hp1, e1⟩ := bc.m1
    obtain ⟨p2, hp2, e2⟩ := bc.m2
    have := bc.b3 p1 hp1
    have := bc.b4 p2 hp2
    have := mx_le 0 (219700009 - ((bbH (a.map cf)).1 - (bbL (a.map cf)).1))
    simp only
    omega
  obtain ⟨p1, hp1, e1⟩ := bc.m1
  obtain ⟨p3, hp3, e3⟩ := bc.m3
  obtain ⟨q1, hq1, rfl⟩ := List.mem_map.1 hp1
  obtain ⟨q3, hq3, rfl⟩ := List.mem_map.1 hp3
  have k1 := qd q1 hq1
  have k3 := qd q3 hq3
  have w1 : IntKind.i64.wrap ((bbH (a.map cf)).1 - (bbL (a.map cf)).1) = (bbH (a.map cf)).1 - (bbL (a.map cf)).1 := wrap_small (by omega) (by omega)
  have w2 : IntKind.i64.wrap (219700009 - ((bbH (a.map cf)).1 - (bbL (a.map cf)).1)) = 219700009 - ((bbH (a.map cf)).1 - (bbL (a.map cf)).1) := wrap_small (by omega) (by omega)
  rw [hgap] at h6
  rw [pc_eq]; simp +contextual -implicitDefEqProofs (maxSteps := 2000000) only [go_sem, ↓reduceIte, Nat.reduceAdd, Nat.reduceMul, Nat.reduceSub, Nat.reduceEqDiff, Nat.reduceLeDiff, Nat.reduceDiv, Nat.reduceMod, Nat.reduceBEq, reduceCtorEq, Int.reduceLE, Int.reduceLT, Int.reduceToNat, Int.reduceNeg, Nat.reduceLT, Int.reduceEq, Int.reduceSub, Int.reduceAdd, Int.reduceMul, Nat.reducePow, E_9, A9, c10, h1, h2, h3, h4, h5, h6, List.length_map, take_c2', tk, ol, cl, hn, hz, beq_eq_false_iff_ne.2 hz, w1, w2, decide_true, beq_self_eq_true, Nat.le_refl]
end Go.Proofs.Ytojjdhdflhcdkaa
