/- The engine, part 10: values put together; the elements of a slice; bytes. -/
import Derived.Test.YtjmnepfdhkabfaaZvS4
import Derived.Laws.BytesString
import Derived.Laws.BytesArg
namespace Go.Zv
set_option autoImplicit false
set_option linter.unusedVariables false
set_option linter.unusedSimpArgs false
section
variable {P : Program} {c : Cx} {w : World} {O : Heap} {T : Env} {a : Act}

/-! put together -/
theorem setAt_len {cs vs : List LV} {off : Nat} (h : off + vs.length ≤ cs.length) : (setAt cs off vs).length = cs.length := by
  simp [setAt]; omega
/-- the same, with values -/
def setV (cs : List Value) (off : Nat) (vs : List Value) : List Value := cs.take off ++ (vs ++ cs.drop (off + vs.length))
theorem setAt_VRs {cs vs : List LV} {us ws : List Value} {off : Nat} (h : VRs c cs us) (h2 : VRs c vs ws) : VRs c (setAt cs off vs) (setV us off ws) := by
  unfold setAt setV
  rw [h2.len]
  exact (h.take off).append (h2.append (h.drop _))
theorem foldl_set : ∀ (ws : List Value) (k off : Nat) (A : Array Value), off + k + ws.length ≤ A.size →
    (ws.zipIdx k).foldl (fun cs (p : Value × Nat) => cs.setIfInBounds (off + p.2) p.1) A = (setV A.toList (off + k) ws).toArray
  | [], k, off, A, h => by simp [setV]
  | v :: ws, k, off, A, h => by
    simp only [List.zipIdx_cons, List.foldl_cons]
    rw [foldl_set ws (k + 1) off _ (by simp at h ⊢; omega)]
    simp only [List.length_cons] at h
    have hlt : off + k < A.toList.length := by simp; omega
    congr 1
    simp only [setV, Array.toList_setIfInBounds, List.length_cons]
    rw [List.take_set, List.drop_set]
    apply List.ext_getElem?
    intro i
    simp only [List.getElem?_append, List.length_take, List.getElem?_take, List.getElem?_set, List.getElem?_cons, List.length_set, List.length_cons, List.getElem?_drop]
    grind
theorem foldl_set0 (ws : List Value) (off : Nat) (A : Array Value) (h : off + ws.length ≤ A.size) :
    ws.toArray.zipIdx.foldl (fun cs (p : Value × Nat) => cs.setIfInBounds (off + p.2) p.1) A = (setV A.toList off ws).toArray := by
  have := foldl_set ws 0 off A (by simpa using h)
  simp only [Nat.add_zero] at this
  rw [← this, Array.zipIdx_toArray, List.foldl_toArray]

theorem fill_ok {place : Nat → Option (Nat × Nat)} : ∀ {l : List (Nat × Nat × Opd)} {cs cs' : List LV} {us : List Value} {ps : List (Nat × Value)}, VRs c cs us → fill T l cs = some cs' →
    l.length = ps.length → (∀ (i : Nat) (p : Nat × Nat × Opd) (q : Nat × Value), l[i]? = some p → ps[i]? = some q → place q.1 = some (p.1, p.2.1) ∧ VR c (p.2.2.ev T) q.2) →
    ∃ us', Instr.fill place us.toArray ps = some us'.toArray ∧ VRs c cs' us'
  | [], cs, cs', us, [], hv, h, _, _ => by simp only [fill, Option.some.injEq] at h; subst h; exact ⟨us, rfl, hv⟩
  | [], _, _, _, _ :: _, _, _, hl, _ => by simp at hl
  | _ :: _, _, _, _, [], _, _, hl, _ => by simp at hl
  | (off, n, x) :: l, cs, cs', us, q :: ps, hv, h, hl, hp => by
    simp only [fill, fillK] at h
    split at h
    · rename_i hc
      obtain ⟨pl, pv⟩ := hp 0 _ q rfl rfl
      obtain ⟨h1, _⟩ := cells_VRs pv hc.2.2
      have hle : q.2.cells.toList.length = n := by rw [← h1.len]; exact hc.1
      have hlu := hv.len
      obtain ⟨us', e1, e2⟩ := fill_ok (setAt_VRs (off := off) hv h1) h (by simpa using hl) (fun i p r hp1 hr => hp (i + 1) p r (by simpa using hp1) (by simpa using hr))
      refine ⟨us', ?_, e2⟩
      obtain ⟨qi, qv⟩ := q
      simp only [Instr.fill]
      simp only at pl hle e1
      rw [pl]
      simp only
      have hsz : qv.cells.size = n := by simpa using hle
      rw [if_neg (by simp [hsz]; omega)]
      have := foldl_set0 qv.cells.toList off us.toArray (by rw [hle]; simp; omega)
      simp only [Array.toArray_toList] at this
      rw [this]
      exact e1
    · cases h

theorem build_struct_says {t : TypeId} {fs : Array Field} {z : LV} {l : List (Nat × Nat × Opd)} {ps : Array (Nat × Value)} (ht : P.underlying t = some (.struct fs)) (hz : zeroLV P t = some z) {v : LV} (h : (fill T l z.cells).bind aggK = some v)
    (hzc : z.cells.all LV.one = true) (hall : ∀ f ∈ fs, ∃ n, tsize P f.type = some n)
    (hl : l.length = ps.size) (hp : ∀ (i : Nat) (p : Nat × Nat × Opd) (q : Nat × Value), l[i]? = some p → ps[i]? = some q → (∃ f, fs[q.1]? = some f ∧ p.1 = f.offset ∧ tsize P f.type = some p.2.1) ∧ VR c (p.2.2.ev T) q.2) :
    Says P c w (Instr.build t ps) v := by
  obtain ⟨cs', hf, h⟩ := Option.bind_eq_some_iff.1 h
  simp only [aggK, Option.some.injEq] at h; subst h
  obtain ⟨i, zv, hi, hzv, hzr⟩ := zeroLV_ok (c := c) hz
  obtain ⟨h1, _⟩ := cells_VRs hzr hzc
  have hm : ∀ (L : List Field), (∀ f ∈ L, ∃ n, tsize P f.type = some n) → (L.mapM fun f => do pure (f.offset, ← sizeOf f.type) : Sem (List (Nat × Nat))).run P w = .ok (L.map fun f => (f.offset, (tsize P f.type).getD 0)) w := by
    intro L
    induction L with
    | nil => intro _; simp
    | cons f L ih =>
      intro hL
      obtain ⟨n, hn⟩ := hL f (by simp)
      have h3 := ih fun g hg => hL g (by simp [hg])
      rw [List.mapM_cons]
      simp only [Sem.run_bind, run_size hn, Result.andThen_ok, Sem.run_pure, h3, List.map_cons, hn, Option.getD_some]
  have hm2 : (fs.mapM fun f => do pure (f.offset, ← sizeOf f.type) : Sem (Array (Nat × Nat))).run P w = .ok (fs.map fun f => (f.offset, (tsize P f.type).getD 0)) w := by
    rw [Array.mapM_eq_mapM_toList]
    have := hm fs.toList fun f hf => hall f (by simpa using hf)
    simp only [Sem.run_map, this, Result.andThen_ok]
    congr 1
    apply Array.ext'
    simp
  obtain ⟨us', e1, e2⟩ := fill_ok (place := fun i => (fs.map fun f => (f.offset, (tsize P f.type).getD 0))[i]?) h1 hf (by simpa using hl) (ps := ps.toList) (fun i p q hpi hqi => by
    obtain ⟨⟨f, hf1, hf2, hf3⟩, hv⟩ := hp i p q hpi (by simpa using hqi)
    exact ⟨by simp [hf1, hf2, hf3], hv⟩)
  refine ⟨.agg us'.toArray, ?_, .agg _ _ e2.len e2.at_⟩
  unfold Instr.build
  simp only [Sem.run_bind, run_zero hi hzv, Result.andThen_ok, run_underlying ht, hm2]
  simp only [Array.toArray_toList] at e1
  rw [e1]
  rfl
theorem build_array_says {t e : TypeId} {n m : Nat} {z : LV} {l : List (Nat × Nat × Opd)} {ps : Array (Nat × Value)} (ht : P.underlying t = some (.array n e)) (hz : zeroLV P t = some z) (hm : tsize P e = some m) {v : LV} (h : (fill T l z.cells).bind aggK = some v)
    (hzc : z.cells.all LV.one = true)
    (hl : l.length = ps.size) (hp : ∀ (i : Nat) (p : Nat × Nat × Opd) (q : Nat × Value), l[i]? = some p → ps[i]? = some q → p.1 = q.1 * m ∧ p.2.1 = m ∧ VR c (p.2.2.ev T) q.2) :
    Says P c w (Instr.build t ps) v := by
  obtain ⟨cs', hf, h⟩ := Option.bind_eq_some_iff.1 h
  simp only [aggK, Option.some.injEq] at h; subst h
  obtain ⟨i, zv, hi, hzv, hzr⟩ := zeroLV_ok (c := c) hz
  obtain ⟨h1, _⟩ := cells_VRs hzr hzc
  obtain ⟨us', e1, e2⟩ := fill_ok (place := fun i => some (i * m, m)) h1 hf (by simpa using hl) (ps := ps.toList) (fun i p q hpi hqi => by
    obtain ⟨a1, a2, hv⟩ := hp i p q hpi (by simpa using hqi)
    exact ⟨by simp [a1, a2], hv⟩)
  refine ⟨.agg us'.toArray, ?_, .agg _ _ e2.len e2.at_⟩
  unfold Instr.build
  simp only [Sem.run_bind, run_zero hi hzv, Result.andThen_ok, run_underlying ht, run_size hm]
  simp only [Array.toArray_toList] at e1
  rw [e1]
  rfl

/-! the elements of a slice -/
theorem rows_flat {b st : Nat} {R : Value → Prop} : ∀ (xs : List (List LV)) (o : Nat) (val : Nat → Nat → Value), (∀ x ∈ xs, x.length = st) →
    (∀ (i : Nat) (x : List LV) (j : Nat) (y : LV), xs[i]? = some x → x[j]? = some y → w.cell? ⟨b, o + i * st + j, none⟩ = some (val i j) ∧ R (val i j) ∧ VR c y (val i j)) →
    ∃ vals : List Value, vals.length = xs.length * st ∧ VRs c xs.flatten vals ∧ ∀ j v, vals[j]? = some v → w.cell? ⟨b, o + j, none⟩ = some v ∧ R v
  | [], o, val, _, _ => ⟨[], by simp, VRs.nil c, by simp⟩
  | x :: xs, o, val, hl, h => by
    have hx : x.length = st := hl x (by simp)
    obtain ⟨vals, h1, h2, h3⟩ := rows_flat xs (o + st) (fun i j => val (i + 1) j) (fun y hy => hl y (by simp [hy])) (fun i y j z hy hz => by
      have := h (i + 1) y j z (by simpa using hy) hz
      rw [Nat.add_mul, Nat.one_mul] at this
      rwa [show o + (i * st + st) + j = o + st + i * st + j by omega] at this)
    have hv := VRs.ofFun (c := c) (cs := x) (val := val 0) fun j y hy => (h 0 x j y rfl hy).2.2
    refine ⟨(List.range x.length).map (val 0) ++ vals, by simp [h1, hx, Nat.add_mul]; omega, ?_, ?_⟩
    · rw [List.flatten_cons]; exact hv.append h2
    · intro j v hj
      by_cases hlt : j < st
      · rw [List.getElem?_append_left (by simpa [hx] using hlt)] at hj
        simp [hx, hlt] at hj
        subst hj
        obtain ⟨a1, a2, _⟩ := h 0 x j _ rfl (List.getElem?_eq_getElem (by omega))
        exact ⟨by simpa using a1, a2⟩
      · rw [List.getElem?_append_right (by simp [hx]; omega)] at hj
        simp only [List.length_map, List.length_range, hx] at hj
        obtain ⟨a1, a2⟩ := h3 _ _ hj
        exact ⟨by rwa [show o + st + (j - st) = o + j by omega] at a1, a2⟩

/-- a slice's elements, as they lie -/
structure Lies (c : Cx) (w : World) (st : Nat) (xs : List (List LV)) (u : Value) : Prop where
  ex : (∃ l, u = .string ⟨l.toArray⟩ ∧ xs = u8s l) ∨ ∃ q cap, u = .slice q xs.length cap ∧ xs.length ≤ cap ∧ (xs ≠ [] → ∃ b o vals, q = some ⟨b, o, none⟩ ∧ vals.length = xs.length * st ∧ VRs c xs.flatten vals ∧ ∀ j v, vals[j]? = some v → w.cell? ⟨b, o + j, none⟩ = some v ∧ v.oneCell' = true)

theorem allLen_mem {st : Nat} {xs : List (List LV)} (h : allLen st xs = true) : ∀ x ∈ xs, x.length = st := fun x hx => by
  have := List.all_eq_true.1 h x hx; simpa using this

theorem elems_ok (hO : HR P c w O) (hM : MR c w) {st : Nat} {x : LV} {u : Value} {xs : List (List LV)} (hx : VR c x u) (h : elems O x = some xs) (hal : allLen st xs = true) : Lies c w st xs u := by
  unfold elems at h
  split at h
  · rename_i ys
    simp only [Option.some.injEq] at h; subst h
    cases hx with
    | vs0 q cap => exact ⟨.inr ⟨q, cap, rfl, by simp, by simp⟩⟩
    | vs _ b o s cap val hne hcap hs hm ho hv =>
      refine ⟨.inr ⟨_, cap, rfl, hcap, fun _ => ?_⟩⟩
      have hss : s = st := by
        cases ys with
        | nil => exact absurd rfl hne
        | cons y ys => rw [← (hs 0 y rfl).1, allLen_at hal (i := 0) rfl]
      subst hss
      obtain ⟨vals, h1, h2, h3⟩ := rows_flat (R := fun v => v.oneCell' = true) _ o val (allLen_mem hal) (fun i x j y hx hy => ⟨hM _ _ _ (hm i x j y hx hy), ho i x j y hx hy, hv i x j y hx hy⟩)
      exact ⟨b, o, vals, rfl, h1, h2, h3⟩
  · simp only [Option.some.injEq] at h; subst h; cases hx; exact ⟨.inr ⟨_, _, rfl, by simp, by simp⟩⟩
  · simp only [Option.some.injEq] at h; subst h; cases hx; exact ⟨.inr ⟨_, _, rfl, by simp, by simp⟩⟩
  · simp only [Option.some.injEq] at h; subst h; cases hx; exact ⟨.inr ⟨_, _, rfl, by simp, by simp⟩⟩
  · rename_i id off len
    unfold rowElems at h
    split at h
    · rename_i st' ys ho
      split at h
      · rename_i hle
        simp only [Option.some.injEq] at h; subst h
        have hlen : ((ys.drop off).take len).length = len := by simp; omega
        cases hx with
        | bs _ _ _ hm q cap hcap hi h0 h1 =>
          refine ⟨.inr ⟨q, cap, by rw [hlen], by rw [hlen]; exact hcap, fun hne => ?_⟩⟩
          have hz : len ≠ 0 := by intro e; subst e; simp at hne
          obtain ⟨hn, rfl⟩ := h1 hz
          obtain ⟨h2, hi2, hor⟩ := hO _ _ ho
          rw [hi] at hi2; cases hi2
          have hget : ∀ (k : Nat) (x : List LV), ((ys.drop off).take len)[k]? = some x → ys[off + k]? = some x := by
            intro k x hx
            rw [List.getElem?_take] at hx
            split at hx
            · simpa using hx
            · cases hx
          cases hor with
          | row _ val hs hv hl h0 hsp hmm =>
            have hst : hm.st = st := by
              have hlt : 0 < ((ys.drop off).take len).length := by rw [hlen]; omega
              have e := List.getElem?_eq_getElem hlt
              rw [← allLen_at hal e, (hs _ _ (hget 0 _ e)).1]
            obtain ⟨vals, k1, k2, k3⟩ := rows_flat (w := w) (c := c) (b := hm.blk) (st := st) (R := fun v => v.oneCell' = true) ((ys.drop off).take len) (hm.off + off * hm.st) (fun i j => val (off + i) j) (allLen_mem hal) (fun i x j y hx hy => by
              obtain ⟨a1, a2, a3⟩ := hv _ x j y (hget i x hx) hy
              refine ⟨?_, a2, a3⟩
              rw [Nat.add_mul] at a1
              rwa [show hm.off + off * hm.st + i * st + j = hm.off + (off * hm.st + i * hm.st) + j by rw [hst]; omega])
            exact ⟨_, _, vals, rfl, k1, k2, k3⟩
      · cases h
    · cases h
  · rename_i id off st' len
    unfold boxElemsC at h
    split at h
    · rename_i cs ho
      split at h
      · rename_i hle
        obtain ⟨hclo, hle⟩ := hle
        simp only [Option.some.injEq] at h; subst h
        have hlen := chunk_len st' len (cs.drop off)
        cases hx with
        | bb _ _ _ _ hm q cap hcap hi h1 =>
          refine ⟨.inr ⟨q, cap, by rw [hlen], by rw [hlen]; exact hcap, fun hne => ?_⟩⟩
          have hz : len ≠ 0 := by intro e; subst e; simp [chunk] at hne
          have := h1 hz; subst this
          obtain ⟨h2, hi2, hor⟩ := hO _ _ ho
          rw [hi] at hi2; cases hi2
          cases hor with
          | box _ vals hn hv hc hmm =>
            have hget : ∀ (k : Nat) (x : List LV), (chunk st' len (cs.drop off))[k]? = some x → k < len ∧ x = (cs.drop (off + k * st')).take st' := by
              intro k x hx
              have h3 := (List.getElem?_eq_some_iff.1 hx).1
              rw [hlen] at h3
              exact ⟨h3, by rw [chunk_get _ _ _ _ _ hx, List.drop_drop]⟩
            have hst : st' = st := by
              have hlt : 0 < (chunk st' len (cs.drop off)).length := by rw [hlen]; omega
              have e := List.getElem?_eq_getElem hlt
              have e2 := allLen_at hal e
              rw [(hget 0 _ e).2] at e2
              have : st' ≤ len * st' := Nat.le_mul_of_pos_left _ (by omega)
              simp at e2; omega
            subst hst
            obtain ⟨vs, k1, k2, k3⟩ := rows_flat (w := w) (c := c) (b := hm.blk) (st := st') (R := fun v => v.oneCell' = true) (chunk st' len (cs.drop off)) off (fun i j => vals.getD (off + i * st' + j) undef) (allLen_mem hal) (fun i x j y hx hy => by
              obtain ⟨hi, rfl⟩ := hget i x hx
              have hy2 : cs[off + i * st' + j]? = some y := by
                rw [List.getElem?_take] at hy
                split at hy
                · simpa using hy
                · cases hy
              obtain ⟨v, hv1, hv2⟩ := hv.getSome hy2
              obtain ⟨a1, a2, a3⟩ := hc _ v hv1
              have e : vals.getD (off + i * st' + j) undef = v := by simp [List.getD, hv1]
              rw [e]
              exact ⟨a1, a3, hv2⟩)
            exact ⟨_, _, vs, rfl, k1, k2, k3⟩
      · cases h
    · cases h
  · simp only [Option.some.injEq] at h; subst h
    cases hx
    exact ⟨.inl ⟨_, rfl, rfl⟩⟩
  · cases h

theorem elems_closed (hO : HR P c w O) {x : LV} {u : Value} {xs : List (List LV)} (hx : VR c x u) (h : elems O x = some xs) : ∀ y ∈ xs, LV.closeds y = true := by
  unfold elems at h
  split at h
  · simp only [Option.some.injEq] at h; subst h
    cases hx with
    | vs0 => simp
    | vs _ b o s cap val hne hcap hs hm ho hv =>
      intro y hy
      obtain ⟨i, hi⟩ := List.mem_iff_getElem?.1 hy
      exact (hs i y hi).2
  · simp only [Option.some.injEq] at h; subst h; simp
  · simp only [Option.some.injEq] at h; subst h; simp
  · simp only [Option.some.injEq] at h; subst h; simp
  · rename_i id off len
    unfold rowElems at h
    split at h
    · rename_i st' ys ho
      split at h
      · simp only [Option.some.injEq] at h; subst h
        obtain ⟨hh, hi, hor⟩ := hO _ _ ho
        intro y hy
        obtain ⟨i, hi⟩ := List.mem_iff_getElem?.1 (List.mem_of_mem_drop (List.mem_of_mem_take hy))
        cases hor with
        | row _ val hs hv hl h0 hsp hmm => exact (hs i y hi).2
      · cases h
    · cases h
  · unfold boxElemsC at h
    split at h
    · rename_i cs ho
      split at h
      · rename_i hle
        simp only [Option.some.injEq] at h; subst h
        intro y hy
        obtain ⟨i, hi⟩ := List.mem_iff_getElem?.1 hy
        rw [chunk_get _ _ _ _ _ hi]
        refine closeds_of fun k z hz => ?_
        rw [List.getElem?_take] at hz
        split at hz
        · rw [List.drop_drop] at hz
          exact closeds_at hle.1 (by simpa using hz)
        · cases hz
      · cases h
    · cases h
  · simp only [Option.some.injEq] at h; subst h
    intro y hy
    simp only [u8s, List.mem_map] at hy
    obtain ⟨b, _, rfl⟩ := hy
    rfl
  · cases h
theorem bytes_ok : ∀ {xs : List (List LV)} {l : List UInt8}, bytesOf xs = some l → ∃ ns : List Int, xs = ns.map (fun n => [LV.int .u8 n]) ∧ l = ns.map (fun n => UInt8.ofNat n.toNat)
  | [], l, h => by simp only [bytesOf, Option.some.injEq] at h; subst h; exact ⟨[], rfl, rfl⟩
  | x :: xs, l, h => by
    simp only [bytesOf] at h
    obtain ⟨b, hb, h⟩ := Option.bind_eq_some_iff.1 h
    obtain ⟨m, hm, h⟩ := Option.bind_eq_some_iff.1 h
    simp only [bytesK, Option.some.injEq] at h; subst h
    obtain ⟨ns, rfl, rfl⟩ := bytes_ok hm
    unfold byte1 at hb
    split at hb
    · rename_i n
      simp only [Option.some.injEq] at hb; subst hb
      exact ⟨n :: ns, rfl, rfl⟩
    · cases hb
theorem ints_of : ∀ {ns : List Int} {vals : List Value}, VRs c (ns.map (fun n => LV.int .u8 n)) vals → vals = ns.map (Value.int .u8)
  | [], [], _ => rfl
  | [], _ :: _, h => by have := h.len; simp at this
  | _ :: _, [], h => by have := h.len; simp at this
  | n :: ns, v :: vals, h => by
    have h1 := h.head.of_int
    have h2 := ints_of (ns := ns) h.tail
    rw [h1, h2]; rfl
theorem b2s_says {src dst e : TypeId} (hs : P.underlying src = some (.slice e)) (he : P.underlying e = some (.int .u8)) (hd : P.underlying dst = some .string) (hO : HR P c w O) (hM : MR c w) {x v : LV} {u : Value} (hx : VR c x u)
    (h : (elems O x).bind b2sK = some v) : Says P c w (convert src dst u) v := by
  obtain ⟨xs, hxs, h⟩ := Option.bind_eq_some_iff.1 h
  obtain ⟨l, hl, h⟩ := Option.bind_eq_some_iff.1 h
  simp only [strK, Option.some.injEq] at h; subst h
  obtain ⟨ns, rfl, rfl⟩ := bytes_ok hl
  have hal : allLen 1 (ns.map fun n => [LV.int .u8 n]) = true := by simp [allLen]
  rcases (elems_ok hO hM hx hxs hal).ex with ⟨l, rfl, e⟩ | ⟨q, cap, rfl, hcap, hne⟩
  · refine ⟨.string ⟨l.toArray⟩, by simp [convert, run_underlying hs, run_underlying hd], ?_⟩
    have : (ns.map fun n => UInt8.ofNat n.toNat) = l := by
      have e2 : ns = l.map fun b => (b.toNat : Int) := by
        have : (ns.map fun n => [LV.int .u8 n]) = (l.map fun b => (b.toNat : Int)).map fun n => [LV.int .u8 n] := by
          rw [e]; simp [u8s, u8]
        exact (List.map_inj_right (fun a b h => by simpa using h)).1 this
      rw [e2, List.map_map]
      conv => rhs; rw [← List.map_id l]
      exact List.map_congr_left fun b _ => by simp
    rw [this]; exact .str _
  · have hc := fun q n => run_convert_bytes_string (P := P) w src dst e q n cap hs he hd
    cases ns with
    | nil =>
      refine ⟨.string ⟨#[]⟩, (hc _ _).trans ?_, .str []⟩
      cases q with
      | none => simp [Conv.bytesToString]; rfl
      | some q =>
        have := run_bytesToString (P := P) w q 0 cap [] (by simp [loadCells, loadCellsFrom])
        exact this
    | cons n ns =>
      obtain ⟨b, o, vals, rfl, h1, h2, h3⟩ := hne (by simp)
      have e1 : ((n :: ns).map fun n => [LV.int .u8 n]).flatten = (n :: ns).map fun n => LV.int .u8 n := by
        generalize n :: ns = L
        induction L with
        | nil => rfl
        | cons a L ih => simp [ih]
      rw [e1] at h2
      have e2 := ints_of h2
      have hl := run_loadCells_list (P := P) w ⟨b, o, none⟩ vals (fun j v hj => by rw [Addr.add_mid]; exact (h3 j v hj).1)
      have e3 : vals.length = ((n :: ns).map fun n => [LV.int .u8 n]).length := by rw [h1]; simp
      rw [e3, e2] at hl
      have := run_bytesToString (P := P) w ⟨b, o, none⟩ _ cap (n :: ns) hl
      refine ⟨_, (hc _ _).trans this, ?_⟩
      rw [foldl_push_bytes]
      have : (⟨ByteArray.empty.data ++ ((n :: ns).map fun n => UInt8.ofNat n.toNat).toArray⟩ : ByteArray) = ⟨((n :: ns).map fun n => UInt8.ofNat n.toNat).toArray⟩ := by
        congr 1
        show #[] ++ _ = _
        simp
      rw [this]; exact .str _
end
end Go.Zv
