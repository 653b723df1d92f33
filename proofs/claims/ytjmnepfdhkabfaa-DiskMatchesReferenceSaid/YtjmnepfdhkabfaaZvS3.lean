/- The engine, part 8: slices of slices; the least, the greatest; values put together. -/
import Derived.Test.YtjmnepfdhkabfaaZvS2
namespace Go.Zv
set_option autoImplicit false
set_option linter.unusedVariables false
set_option linter.unusedSimpArgs false
section
variable {P : Program} {c : Cx} {w : World} {O : Heap} {T : Env} {a : Act}

theorem optOpd_ok (hT : TR c T a.tmps) {x : Option Operand} {y : Option Opd} (h : optOpd x = some y) :
    (x = none ∧ y = none) ∨ ∃ x' y', x = some x' ∧ y = some y' ∧ VR c (y'.ev T) (a.eval x') := by
  cases x with
  | none => simp only [optOpd, Option.some.injEq] at h; exact .inl ⟨rfl, h.symm⟩
  | some x =>
    simp only [optOpd] at h
    obtain ⟨z, hz, rfl⟩ := Option.map_eq_some_iff.1 h
    exact .inr ⟨x, z, rfl, rfl, opd_ok hT hz⟩
theorem bnd_ok (hT : TR c T a.tmps) {x : Option Operand} {y : Option Opd} (h : optOpd x = some y) {dflt lim l : Nat} (hb : bnd T dflt lim y = some l) :
    (x = none ∧ l = dflt) ∨ ∃ x' k, x = some x' ∧ a.eval x' = .int k l ∧ l ≤ lim := by
  rcases optOpd_ok hT h with ⟨rfl, rfl⟩ | ⟨x', y', rfl, rfl, hv⟩
  · simp only [bnd, Option.some.injEq] at hb; exact .inl ⟨rfl, hb.symm⟩
  · simp only [bnd] at hb
    unfold bndV at hb
    split at hb
    · rename_i k n heq
      rw [heq] at hv
      have he2 := hv.of_int
      split at hb
      · rename_i hle
        simp only [Option.some.injEq] at hb; subst hb
        refine .inr ⟨x', k, rfl, ?_, by omega⟩
        have : ((n.toNat : Nat) : Int) = n := by omega
        rw [this]; exact he2
      · cases hb
    · cases hb
theorem cut_ok (hT : TR c T a.tmps) {lo hi : Option Operand} {lo' hi' : Option Opd} (h1 : optOpd lo = some lo') (h2 : optOpd hi = some hi') {n : Nat} {f : Nat → Nat → LV} {v : LV} (h : cut T n lo' hi' f = some v) :
    ∃ l hh, l ≤ hh ∧ hh ≤ n ∧ v = f hh l ∧ ∀ (s : Bool) (cap : Nat), n ≤ cap → (Instr.sliceBounds s n cap (lo.map a.eval) (hi.map a.eval) none).run P w = .ok (l, hh, cap) w := by
  obtain ⟨hh, e1, h⟩ := Option.bind_eq_some_iff.1 h
  obtain ⟨l, e2, h⟩ := Option.bind_eq_some_iff.1 h
  simp only [cutK2, Option.some.injEq] at h; subst h
  have hle : hh ≤ n := by rcases bnd_ok hT h2 e1 with ⟨_, rfl⟩ | ⟨_, _, _, _, hle⟩ <;> omega
  have hl : l ≤ hh := by rcases bnd_ok hT h1 e2 with ⟨_, rfl⟩ | ⟨_, _, _, _, hle⟩ <;> omega
  refine ⟨l, hh, hl, hle, rfl, fun s cap hcap => ?_⟩
  rcases bnd_ok hT h2 e1 with ⟨rfl, rfl⟩ | ⟨hi, k, rfl, ehi, _⟩ <;> rcases bnd_ok hT h1 e2 with ⟨rfl, rfl⟩ | ⟨lo, k2, rfl, elo, _⟩
  · simp [Instr.sliceBounds]
  · simp [Instr.sliceBounds, Instr.sliceBound, asIntOf, elo, hl]
  · have : (hh : Int) ≤ cap := by omega
    simp [Instr.sliceBounds, Instr.sliceBound, asIntOf, ehi, show hh ≤ cap by omega]
  · simp [Instr.sliceBounds, Instr.sliceBound, asIntOf, ehi, elo, hl, show hh ≤ cap by omega]

theorem allLen_at {st : Nat} {xs : List (List LV)} (h : allLen st xs = true) {i : Nat} {x : List LV} (hx : xs[i]? = some x) : x.length = st := by
  have := List.all_eq_true.1 h x (List.mem_of_getElem? hx)
  simpa using this

theorem sls_says (hT : TR c T a.tmps) {t e : TypeId} {st : Nat} (ht : P.underlying t = some (.slice e)) (hst : tsize P e = some st) (hO : HR P c w O) {lo hi : Option Operand} {lo' hi' : Option Opd} (h1 : optOpd lo = some lo') (h2 : optOpd hi = some hi')
    {x v : LV} {u : Value} (hx : VR c x u) (h : slsV T O st lo' hi' x = some v) : Says P c w (Instr.sliceAt t u (lo.map a.eval) (hi.map a.eval) none) v := by
  have key : ∀ (q : Option Addr) (len cap l hh : Nat), l ≤ hh → hh ≤ len → len ≤ cap → (Instr.sliceBounds true len cap (lo.map a.eval) (hi.map a.eval) none).run P w = .ok (l, hh, cap) w → u = .slice q len cap →
      (Instr.sliceAt t u (lo.map a.eval) (hi.map a.eval) none).run P w = .ok (.slice (if cap = l then q else q.map (·.add (l * st))) (hh - l) (cap - l)) w := by
    intro q len cap l hh a1 a2 a3 hb e2; subst e2
    simp [Instr.sliceAt, Instr.slice, run_underlying ht, hb, run_size hst]
  unfold slsV at h
  split at h
  · rename_i xs
    split at h
    · rename_i hal
      obtain ⟨l, hh, hl, hle, rfl, hb⟩ := cut_ok (P := P) (w := w) hT h1 h2 h
      cases hx with
      | vs0 q cap =>
        have e1 : hh = 0 := by simpa using hle
        have e2 : l = 0 := by omega
        subst e1; subst e2
        refine ⟨_, key q 0 cap 0 0 (by simp) (by simp) (by simp) (hb true cap (by simp)) rfl, ?_⟩
        simpa [cutVs] using VR.vs0 (c := c) _ _
      | vs _ b o s cap val hne hcap hs hm ho hv =>
        refine ⟨_, key _ _ cap l hh hl hle hcap (hb true cap hcap) rfl, ?_⟩
        have hss : s = st := by
          cases xs with
          | nil => exact absurd rfl hne
          | cons y ys => rw [← (hs 0 y rfl).1, allLen_at hal (i := 0) rfl]
        subst hss
        by_cases hz : hh - l = 0
        · rw [hz]
          have : cutVs xs hh l = .vs [] := by simp [cutVs]; omega
          rw [this]; exact .vs0 _ _
        · have hne2 : ¬ cap = l := by omega
          rw [if_neg hne2]
          simp only [Option.map_some, Addr.add_mid]
          have hlen : ((xs.take hh).drop l).length = hh - l := by simp; omega
          have hget : ∀ (k : Nat) (x : List LV), ((xs.take hh).drop l)[k]? = some x → xs[l + k]? = some x := by
            intro k x hx
            rw [List.getElem?_drop, List.getElem?_take] at hx
            split at hx
            · exact hx
            · cases hx
          have := VR.vs (c := c) ((xs.take hh).drop l) b (o + l * s) s (cap - l) (fun i j => val (l + i) j) (by intro e; rw [e] at hlen; simp at hlen; omega) (by rw [hlen]; omega)
            (fun i x hx => hs _ x (hget i x hx))
            (fun i x j y hx hy => by
              have := hm _ x j y (hget i x hx) hy
              rwa [Nat.add_mul, ← Nat.add_assoc] at this)
            (fun i x j y hx hy => ho _ x j y (hget i x hx) hy)
            (fun i x j y hx hy => hv _ x j y (hget i x hx) hy)
          rw [hlen] at this
          exact this
    · cases h
  · rename_i id off len
    unfold slsRow at h
    split at h
    · rename_i st' xs hor
      split at h
      · rename_i hst'
        obtain ⟨l, hh, hl, hle, rfl, hb⟩ := cut_ok (P := P) (w := w) hT h1 h2 h
        cases hx with
        | bs _ _ _ hm q cap hcap hi h0 hn =>
          refine ⟨_, key _ _ cap l hh hl hle hcap (hb true cap hcap) rfl, ?_⟩
          obtain ⟨h2, hi2, ho⟩ := hO _ _ hor
          rw [hi] at hi2; cases hi2
          have hs : st' = hm.st := by cases ho; rfl
          have hs2 : hm.st = st := by omega
          refine .bs _ _ _ hm _ _ (by omega) hi ?_ ?_
          · intro hz
            have e1 : off = 0 := by omega
            have e2 : l = 0 := by omega
            subst e1; subst e2
            obtain ⟨rfl, rfl⟩ := h0 rfl
            refine ⟨?_, by simp⟩
            split
            · rfl
            · simp [Addr.add]
          · intro hz
            obtain ⟨hnn, rfl⟩ := hn (by omega)
            refine ⟨hnn, ?_⟩
            rw [if_neg (by omega)]
            simp [Addr.add_mid, hs2, Nat.add_mul, Nat.add_assoc]
      · cases h
    · cases h
  · rename_i id off st' len
    split at h
    · rename_i hst'
      subst hst'
      obtain ⟨l, hh, hl, hle, rfl, hb⟩ := cut_ok (P := P) (w := w) hT h1 h2 h
      cases hx with
      | bb _ _ _ _ hm q cap hcap hi h1 =>
        refine ⟨_, key _ _ cap l hh hl hle hcap (hb true cap hcap) rfl, ?_⟩
        refine .bb _ _ _ _ hm _ _ (by omega) hi fun hz => ?_
        have := h1 (by omega); subst this
        rw [if_neg (by omega)]
        simp [Addr.add_mid]
    · cases h
  · obtain ⟨l, hh, hl, hle, rfl, hb⟩ := cut_ok (P := P) (w := w) hT h1 h2 h
    cases hx with
    | nils _ q =>
      have e1 : hh = 0 := by omega
      have e2 : l = 0 := by omega
      subst e1; subst e2
      exact ⟨_, key q 0 0 0 0 (by simp) (by simp) (by simp) (hb true 0 (by simp)) rfl, by simpa [cutNil] using VR.nils (c := c) _ _⟩
  · cases h

theorem slt_says (hT : TR c T a.tmps) {t : TypeId} (ht : P.underlying t = some .string) {lo hi : Option Operand} {lo' hi' : Option Opd} (h1 : optOpd lo = some lo') (h2 : optOpd hi = some hi')
    {x v : LV} {u : Value} (hx : VR c x u) (h : sltV T lo' hi' x = some v) : Says P c w (Instr.sliceAt t u (lo.map a.eval) (hi.map a.eval) none) v := by
  unfold sltV at h
  split at h
  · rename_i xs
    obtain ⟨l, hh, hl, hle, rfl, hb⟩ := cut_ok (P := P) (w := w) hT h1 h2 h
    cases hx
    have hb2 := hb false xs.length (Nat.le_refl _)
    refine ⟨.string ⟨((xs.take hh).drop l).toArray⟩, ?_, .str _⟩
    have e : (⟨xs.toArray⟩ : ByteArray).size = xs.length := by simp [ByteArray.size_mk']
    have e2 : (⟨xs.toArray⟩ : ByteArray).extract l hh = ⟨((xs.take hh).drop l).toArray⟩ := by
      apply ByteArray.ext
      simp [ByteArray.data_extract, List.take_drop, show l + (hh - l) = hh by omega]
    simp [Instr.sliceAt, Instr.slice, run_underlying ht, e, hb2, e2]
  · cases h

theorem chunk_len (st : Nat) : ∀ (n : Nat) (cs : List LV), (chunk st n cs).length = n
  | 0, _ => rfl
  | n + 1, cs => by simp [chunk, chunk_len st n]
theorem chunk_get (st : Nat) : ∀ (n : Nat) (cs : List LV) (i : Nat) (x : List LV), (chunk st n cs)[i]? = some x → x = (cs.drop (i * st)).take st
  | 0, _, i, x, h => by simp [chunk] at h
  | n + 1, cs, 0, x, h => by simp [chunk] at h; simp [h]
  | n + 1, cs, i + 1, x, h => by
    simp [chunk] at h
    rw [chunk_get st n _ i x h, List.drop_drop, Nat.add_mul, Nat.one_mul, Nat.add_comm st]

theorem sla_says (hT : TR c T a.tmps) {t e : TypeId} {n st : Nat} (ht : P.underlying t = some (.array n e)) (hst : tsize P e = some st) {lo hi : Option Operand} {lo' hi' : Option Opd} (h1 : optOpd lo = some lo') (h2 : optOpd hi = some hi')
    {x v : LV} {u : Value} (hx : VR c x u) (h : slaV T n st lo' hi' x = some v) : Says P c w (Instr.sliceAt t u (lo.map a.eval) (hi.map a.eval) none) v := by
  have key : ∀ (q : Addr) (l hh : Nat), (Instr.sliceBounds false n n (lo.map a.eval) (hi.map a.eval) none).run P w = .ok (l, hh, n) w → u = .pointer (some q) →
      (Instr.sliceAt t u (lo.map a.eval) (hi.map a.eval) none).run P w = .ok (.slice (some (if n = l then q else q.add (l * st))) (hh - l) (n - l)) w := by
    intro q l hh hb e2; subst e2
    simp [Instr.sliceAt, Instr.sureAddr, run_underlying ht, hb, run_size hst]
  unfold slaV at h
  split at h
  · obtain ⟨l, hh, hl, hle, rfl, hb⟩ := cut_ok (P := P) (w := w) hT h1 h2 h
    cases hx with
    | ptr _ _ hm hi =>
      refine ⟨_, key _ l hh (hb false n (Nat.le_refl _)) rfl, .bb _ _ _ _ hm _ _ (by omega) hi fun hz => ?_⟩
      rw [if_neg (by omega), Addr.add_mid]
  · rename_i cs
    split at h
    · rename_i hcs
      obtain ⟨l, hh, hl, hle, rfl, hb⟩ := cut_ok (P := P) (w := w) hT h1 h2 h
      cases hx with
      | fp _ b o val hcl hm ho hv =>
        refine ⟨_, key _ l hh (hb false n (Nat.le_refl _)) rfl, ?_⟩
        by_cases hz : hh - l = 0
        · rw [hz]; simp only [cutFp, hz, chunk]; exact .vs0 _ _
        · rw [if_neg (by omega), Addr.add_mid]
          have hget : ∀ (i : Nat) (x : List LV), (chunk st (hh - l) (cs.drop (l * st)))[i]? = some x → i < hh - l ∧ x = (cs.drop ((l + i) * st)).take st := by
            intro i x hx
            have h3 := (List.getElem?_eq_some_iff.1 hx).1
            rw [chunk_len] at h3
            refine ⟨h3, ?_⟩
            rw [chunk_get _ _ _ _ _ hx, List.drop_drop, ← Nat.add_mul]
          have hin : ∀ (i : Nat) (x : List LV) (j : Nat) (y : LV), (chunk st (hh - l) (cs.drop (l * st)))[i]? = some x → x[j]? = some y → cs[(l + i) * st + j]? = some y := by
            intro i x j y hx hy
            rw [(hget i x hx).2, List.getElem?_take] at hy
            split at hy
            · simpa using hy
            · cases hy
          have := VR.vs (c := c) (chunk st (hh - l) (cs.drop (l * st))) b (o + l * st) st (n - l) (fun i j => val ((l + i) * st + j)) (by intro e; have := chunk_len st (hh - l) (cs.drop (l * st)); rw [e] at this; simp at this; omega) (by rw [chunk_len]; omega)
            (fun i x hx => by
              obtain ⟨hi, rfl⟩ := hget i x hx
              refine ⟨?_, closeds_of fun k y hy => ?_⟩
              · have : (l + i) * st + st ≤ cs.length := by
                  have : (l + i + 1) * st ≤ n * st := Nat.mul_le_mul_right _ (by omega)
                  rw [Nat.add_mul, Nat.one_mul] at this; omega
                simp; omega
              · exact closeds_at hcl (hin i _ k y hx hy))
            (fun i x j y hx hy => by
              have := hm _ y (hin i x j y hx hy)
              rwa [show o + ((l + i) * st + j) = o + l * st + i * st + j by rw [Nat.add_mul]; omega] at this)
            (fun i x j y hx hy => ho _ y (hin i x j y hx hy))
            (fun i x j y hx hy => hv _ y (hin i x j y hx hy))
          rw [chunk_len] at this
          exact this
    · cases h
  · cases h

/-! the least, the greatest -/
theorem mn_fold : ∀ {xs : List LV} {vs : List Value} {x v : LV} {u : Value}, VR c x u → VRs c xs vs → fold2 mnI x xs = some v → Says P c w (vs.foldlM Builtin.min2 u) v
  | [], vs, x, v, u, hx, hv, h => by
    cases vs with
    | nil => simp only [fold2, Option.some.injEq] at h; subst h; exact ⟨u, by simp, hx⟩
    | cons => have := hv.len; simp at this
  | y :: xs, vs, x, v, u, hx, hv, h => by
    cases vs with
    | nil => have := hv.len; simp at this
    | cons b vs =>
      have hy := hv.head
      unfold fold2 at h
      split at h
      · rename_i heq; cases heq
      · rename_i heq
        cases heq
        split at h
        · rename_i hk; subst hk
          cases hx; cases hy
          obtain ⟨z, hz, hr⟩ := mn_fold (.int _ _) hv.tail h
          exact ⟨z, by simpa [Builtin.min2, mnI] using hz, hr⟩
        · cases h
      · cases h
theorem mx_fold : ∀ {xs : List LV} {vs : List Value} {x v : LV} {u : Value}, VR c x u → VRs c xs vs → fold2 mxI x xs = some v → Says P c w (vs.foldlM Builtin.max2 u) v
  | [], vs, x, v, u, hx, hv, h => by
    cases vs with
    | nil => simp only [fold2, Option.some.injEq] at h; subst h; exact ⟨u, by simp, hx⟩
    | cons => have := hv.len; simp at this
  | y :: xs, vs, x, v, u, hx, hv, h => by
    cases vs with
    | nil => have := hv.len; simp at this
    | cons b vs =>
      have hy := hv.head
      unfold fold2 at h
      split at h
      · rename_i heq; cases heq
      · rename_i heq
        cases heq
        split at h
        · rename_i hk; subst hk
          cases hx; cases hy
          obtain ⟨z, hz, hr⟩ := mx_fold (.int _ _) hv.tail h
          exact ⟨z, by simpa [Builtin.max2, mxI] using hz, hr⟩
        · cases h
      · cases h
theorem mn_says {ty : TypeId} {ts : Array TypeId} {xs : List LV} {vs : Array Value} {v : LV} (hv : VRs c xs vs.toList) (h : foldV mnI xs = some v) : Says P c w (Builtin.min_ ts ty vs) v := by
  cases xs with
  | nil => cases h
  | cons x xs =>
    unfold Builtin.min_
    cases hvs : vs.toList with
    | nil => rw [hvs] at hv; have := hv.len; simp at this
    | cons u us => rw [hvs] at hv; exact mn_fold hv.head hv.tail h
theorem mx_says {ty : TypeId} {ts : Array TypeId} {xs : List LV} {vs : Array Value} {v : LV} (hv : VRs c xs vs.toList) (h : foldV mxI xs = some v) : Says P c w (Builtin.max_ ts ty vs) v := by
  cases xs with
  | nil => cases h
  | cons x xs =>
    unfold Builtin.max_
    cases hvs : vs.toList with
    | nil => rw [hvs] at hv; have := hv.len; simp at this
    | cons u us => rw [hvs] at hv; exact mx_fold hv.head hv.tail h
end
end Go.Zv
