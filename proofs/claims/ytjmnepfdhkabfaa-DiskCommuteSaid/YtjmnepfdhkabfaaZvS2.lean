/- The engine, part 7: the operations that read memory. -/
import Derived.Test.YtjmnepfdhkabfaaZvS1
import Derived.Laws.Cells
namespace Go.Zv
set_option autoImplicit false
set_option linter.unusedVariables false
set_option linter.unusedSimpArgs false
section
variable {P : Program} {c : Cx} {w : World} {O : Heap}

theorem load_says {t : TypeId} {ag : Bool} {off n : Nat} {cs : List LV} {vs : List Value} {x : LV} (ha : isAggT P t = some ag) (hn : tsize P t = some n) (hv : VRs c cs vs) (h : part ag off n cs = some x)
    {b o : Nat} (hm : ∀ i v, vs[i]? = some v → w.cell? ⟨b, o + i, none⟩ = some v) : Says P c w (loadVar t ⟨b, o + off, none⟩) x := by
  unfold part at h
  unfold loadVar
  split at h
  · rename_i e; subst e
    split at h
    · rename_i hle
      simp only [Option.some.injEq] at h; subst h
      have h2 := (hv.drop off).take n
      have hlen : ((vs.drop off).take n).length = n := by rw [← h2.len]; simp; omega
      have hl := run_loadCells_list (P := P) w ⟨b, o + off, none⟩ ((vs.drop off).take n) (fun j v hj => by
        have hj2 : vs[off + j]? = some v := by
          rw [List.getElem?_take] at hj
          split at hj
          · simpa using hj
          · cases hj
        have := hm _ _ hj2
        rw [Addr.add_mid, Nat.add_assoc]; exact this)
      rw [hlen] at hl
      exact ⟨_, by simp [run_isAgg ha, run_size hn, hl], .agg _ _ h2.len h2.at_⟩
    · cases h
  · rename_i e
    have e : ag = false := by simpa using e
    subst e
    obtain ⟨v, hv1, hv2⟩ := hv.getSome h
    exact ⟨v, by simp [run_isAgg ha, hm _ _ hv1], hv2⟩

theorem VRs.ofFun {cs : List LV} {val : Nat → Value} (h : ∀ (j : Nat) (y : LV), cs[j]? = some y → VR c y (val j)) : VRs c cs ((List.range cs.length).map val) :=
  ⟨by simp, fun i x v hx hv => by
    have hi : i < cs.length := (List.getElem?_eq_some_iff.1 hx).1
    simp [hi] at hv
    subst hv; exact h i x hx⟩

/-- the cells of an element of a row -/
theorem OR.row_cells {h : Home} {st : Nat} {xs : List (List LV)} (H : OR P c w h (.row st xs)) {i : Nat} {x : List LV} (hx : xs[i]? = some x) :
    st = h.st ∧ x.length = st ∧ LV.closeds x = true ∧ h.nul = false ∧ ∃ vs, VRs c x vs ∧ ∀ j v, vs[j]? = some v → w.cell? ⟨h.blk, h.off + i * h.st + j, none⟩ = some v := by
  cases H with
  | row xs val hs hv hl h0 hsp hm =>
    refine ⟨rfl, (hs i x hx).1, (hs i x hx).2, ?_, (List.range x.length).map (val i), VRs.ofFun fun j y hy => (hv i x j y hx hy).2.2, fun j v hj => ?_⟩
    · cases hn : h.nul with
      | false => rfl
      | true => have := h0 hn; have := (List.getElem?_eq_some_iff.1 hx).1; omega
    · have hlt : j < x.length := by
        have := (List.getElem?_eq_some_iff.1 hj).1; simpa using this
      simp [hlt] at hj
      subst hj
      exact (hv i x j _ hx (List.getElem?_eq_getElem hlt)).1

theorem rd_says {t : TypeId} {ag : Bool} {n : Nat} {x v : LV} {a : Value} (ha : isAggT P t = some ag) (hn : tsize P t = some n) (hO : HR P c w O) (hM : MR c w) (hx : VR c x a) (h : rd O ag n x = some v) : Says P c w (Instr.loadAt t a) v := by
  unfold rd at h
  split at h
  · cases hx with
    | ptr id off hh hi =>
      unfold boxPart at h
      split at h
      · rename_i cs ho
        obtain ⟨h2, hi2, hor⟩ := hO _ _ ho
        rw [hi] at hi2; cases hi2
        cases hor with
        | box _ vals hn' hv hc hm =>
          obtain ⟨u, hu, hr⟩ := load_says ha hn hv h (b := hh.blk) (o := 0) (fun i v hi => by rw [Nat.zero_add]; exact (hc i v hi).1)
          rw [Nat.zero_add] at hu
          exact ⟨u, by simpa [Instr.loadAt, Instr.sureAddr] using hu, hr⟩
      · cases h
  · cases hx with
    | ep id i off hh hi hnn =>
      unfold rowPart at h
      split at h
      · rename_i st xs ho
        obtain ⟨h2, hi2, hor⟩ := hO _ _ ho
        rw [hi] at hi2; cases hi2
        unfold optPart at h
        split at h
        · rename_i y hy
          obtain ⟨_, _, _, _, vs, hvs, hc⟩ := hor.row_cells hy
          obtain ⟨u, hu, hr⟩ := load_says ha hn hvs h hc
          exact ⟨u, by simpa [Instr.loadAt, Instr.sureAddr] using hu, hr⟩
        · cases h
      · cases h
  · rename_i cs
    cases hx with
    | fp _ b o val hcl hm ho hv =>
      obtain ⟨u, hu, hr⟩ := load_says ha hn (VRs.ofFun hv) h (b := b) (o := o) (fun j v hj => by
        have hlt : j < cs.length := by have := (List.getElem?_eq_some_iff.1 hj).1; simpa using this
        simp [hlt] at hj; subst hj
        exact hM _ _ _ (hm j _ (List.getElem?_eq_getElem hlt)))
      rw [Nat.add_zero] at hu
      exact ⟨u, by simpa [Instr.loadAt, Instr.sureAddr] using hu, hr⟩
  · cases h

theorem int_of_lt {k : IntKind} {n : Int} {m : Nat} (h0 : 0 ≤ n) (h1 : n < m) : n.toNat < m := by omega

theorem iaa_says {t e : TypeId} {len st : Nat} {x i v : LV} {a b : Value} (ht : P.underlying t = some (.array len e)) (hst : tsize P e = some st) (hx : VR c x a) (hi : VR c i b) (h : iaaV len st x i = some v) : Says P c w (Instr.indexAt t a b) v := by
  unfold iaaV at h
  split at h
  · rename_i k n
    cases hi
    split at h
    · rename_i hb
      have key : ∀ q : Addr, q.spot = none → a = .pointer (some q) → (Instr.indexAt t a (.int k n)).run P w = .ok (.pointer (some ⟨q.block, q.off + n.toNat * st, none⟩)) w := by
        intro q hq e2; subst e2
        have : q.add (n.toNat * st) = ⟨q.block, q.off + n.toNat * st, none⟩ := by
          obtain ⟨bb, o, sp⟩ := q; simp only at hq; subst hq
          exact Addr.add_mid _ _ _
        simp [Instr.indexAt, asIntOf, run_underlying ht, Instr.sureAddr, hb.1, hb.2, run_size hst, this]
      unfold iaaI at h
      split at h <;> simp only [Option.some.injEq, reduceCtorEq] at h <;> subst h
      · cases hx with | ptr _ _ hh hi => exact ⟨_, key _ rfl rfl, .ptr _ _ hh hi⟩
      · cases hx with | ep _ _ _ hh hi hn => exact ⟨_, key _ rfl rfl, by simpa [Nat.add_assoc] using VR.ep _ _ _ hh hi hn⟩
      · cases hx with
        | fp cs b o val hcl hm h1 hv =>
          refine ⟨_, key _ rfl rfl, .fp _ b (o + n.toNat * st) (fun j => val (n.toNat * st + j)) ?_ ?_ ?_ ?_⟩
          · exact closeds_of fun j y hy => closeds_at hcl (i := n.toNat * st + j) (by simpa using hy)
          · intro j y hy; have := hm (n.toNat * st + j) y (by simpa using hy); rwa [← Nat.add_assoc] at this
          · intro j y hy; exact h1 _ y (by simpa using hy)
          · intro j y hy; exact hv _ y (by simpa using hy)
    · cases h
  · cases h

theorem ias_says {t e : TypeId} {st : Nat} {x i v : LV} {a b : Value} (ht : P.underlying t = some (.slice e)) (hst : tsize P e = some st) (hO : HR P c w O) (hx : VR c x a) (hi : VR c i b) (h : iasV O st x i = some v) : Says P c w (Instr.indexAt t a b) v := by
  unfold iasV at h
  split at h
  · rename_i k n
    cases hi
    have key : ∀ (q : Addr) (len cap : Nat), q.spot = none → 0 ≤ n → n < len → a = .slice (some q) len cap → (Instr.indexAt t a (.int k n)).run P w = .ok (.pointer (some ⟨q.block, q.off + n.toNat * st, none⟩)) w := by
      intro q len cap hq h0 h1 e2; subst e2
      have : q.add (n.toNat * st) = ⟨q.block, q.off + n.toNat * st, none⟩ := by
        obtain ⟨bb, o, sp⟩ := q; simp only at hq; subst hq
        exact Addr.add_mid _ _ _
      simp [Instr.indexAt, asIntOf, run_underlying ht, h0, h1, run_size hst, this]
    unfold iasI at h
    split at h
    · rename_i xs
      split at h
      · rename_i h0
        obtain ⟨y, hy, h⟩ := Option.bind_eq_some_iff.1 h
        unfold eltK at h
        split at h
        · rename_i hyl
          simp only [Option.some.injEq] at h; subst h
          have hlt := (List.getElem?_eq_some_iff.1 hy).1
          cases hx with
          | vs0 => simp at hy
          | vs _ b o s cap val hne hcap hs hm ho hv =>
            have hs' : s = st := by have := (hs _ _ hy).1; omega
            subst hs'
            refine ⟨_, key ⟨b, o, none⟩ _ cap rfl h0 (by omega) rfl, .fp _ b (o + n.toNat * s) (fun j => val n.toNat j) (hs _ _ hy).2 ?_ ?_ ?_⟩
            · intro j z hz; exact hm _ _ j z hy hz
            · intro j z hz; exact ho _ _ j z hy hz
            · intro j z hz; exact hv _ _ j z hy hz
        · cases h
      · cases h
    · rename_i id off len
      unfold iasRow at h
      split at h
      · rename_i st' xs ho
        split at h
        · rename_i hb
          simp only [Option.some.injEq] at h; subst h
          cases hx with
          | bs _ _ _ hh a cap hcap hi h0 h1 =>
            obtain ⟨hn, rfl⟩ := h1 (by omega)
            obtain ⟨h2, hi2, hor⟩ := hO _ _ ho
            rw [hi] at hi2; cases hi2
            have hst' : st' = hh.st := by cases hor; rfl
            have e1 : hh.st = st := by rw [← hst', hb.2.2]
            refine ⟨_, key _ _ cap rfl hb.1 hb.2.1 rfl, ?_⟩
            have := VR.ep id (off + n.toNat) 0 hh hi hn
            rw [e1] at this ⊢
            simpa [Nat.add_mul, Nat.add_assoc] using this
        · cases h
      · cases h
    · rename_i id off st' len
      split at h
      · rename_i hb
        simp only [Option.some.injEq] at h; subst h
        cases hx with
        | bb _ _ _ _ hh a cap hcap hi h1 =>
          have := h1 (by omega); subst this
          exact ⟨_, key _ _ cap rfl hb.1 hb.2.1 rfl, .ptr _ _ hh hi⟩
      · cases h
    · cases h
  · cases h

theorem ixa_says {t e : TypeId} {ag : Bool} {len st : Nat} {x i v : LV} {a b : Value} (ht : P.underlying t = some (.array len e)) (hag : isAggT P e = some ag) (hst : tsize P e = some st) (hx : VR c x a) (hi : VR c i b) (h : ixaV ag len st x i = some v) :
    Says P c w (Instr.index t a b) v := by
  unfold ixaV at h
  split at h
  · rename_i k n
    cases hi
    split at h
    · rename_i hb
      unfold fldV at h
      split at h
      · obtain ⟨vs, rfl, hv⟩ := VRs.of_agg hx
        obtain ⟨u, hu, hr⟩ := part_says (w := w) hag hst hv h
        exact ⟨u, by simp [Instr.index, asIntOf, run_underlying ht, hb.1, hb.2, run_size hst, hu], hr⟩
      · cases h
    · cases h
  · cases h

theorem ixt_says {t : TypeId} {x i v : LV} {a b : Value} (ht : P.underlying t = some .string) (hx : VR c x a) (hi : VR c i b) (h : ixtV x i = some v) : Says P c w (Instr.index t a b) v := by
  unfold ixtV at h
  split at h
  · rename_i k n
    cases hi
    unfold ixtI at h
    split at h
    · rename_i l
      cases hx
      split at h
      · rename_i h0
        obtain ⟨y, hy, h⟩ := Option.bind_eq_some_iff.1 h
        simp only [u8K, Option.some.injEq] at h; subst h
        have e : (⟨l.toArray⟩ : ByteArray)[n.toNat]? = some y := by
          have hlt := (List.getElem?_eq_some_iff.1 hy).1
          have hlt2 : n.toNat < (⟨l.toArray⟩ : ByteArray).size := by simpa [ByteArray.size] using hlt
          have h3 := (List.getElem?_eq_some_iff.1 hy).2
          rw [getElem?_pos (⟨l.toArray⟩ : ByteArray) n.toNat hlt2]
          show some (l.toArray[n.toNat]'_) = some y
          simpa using h3
        exact ⟨_, by simp [Instr.index, asIntOf, run_underlying ht, h0, e], .int _ _⟩
      · cases h
    · cases h
  · cases h

theorem len_says {t : TypeId} {k : Nat} (hk : (k = 0 ∧ ∃ e, P.underlying t = some (.slice e)) ∨ (k = 1 ∧ P.underlying t = some .string) ∨ (k = 2 ∧ ∃ a b, P.underlying t = some (.map a b)))
    {ty : TypeId} {ts : Array TypeId} (hts : ts[0]? = some t) (hO : HR P c w O) {x v : LV} {a : Value} (hx : VR c x a) (h : (lenOf O k x).bind intK = some v) : Says P c w (Builtin.len_ ts ty #[a]) v := by
  obtain ⟨n, hn, h⟩ := Option.bind_eq_some_iff.1 h
  simp only [intK, Option.some.injEq] at h; subst h
  refine ⟨.int .i64 n, ?_, .int _ _⟩
  rcases hk with ⟨rfl, e, he⟩ | ⟨rfl, he⟩ | ⟨rfl, e, e2, he⟩
  · cases x <;> simp only [lenOf, Option.some.injEq, reduceCtorEq] at hn <;> subst hn <;> cases hx <;> simp [Builtin.len_, hts, run_underlying he, goInt]
  · cases x <;> simp only [lenOf, Option.some.injEq, reduceCtorEq] at hn
    subst hn; cases hx
    simp [Builtin.len_, hts, run_underlying he, goInt, ByteArray.size_mk']
  · cases x <;> simp only [lenOf, Option.some.injEq, reduceCtorEq] at hn
    · rename_i id
      unfold lenMp at hn
      split at hn
      · rename_i es ho
        simp only [Option.some.injEq] at hn; subst hn
        cases hx with
        | mp _ hh hi =>
          obtain ⟨h2, hi2, hor⟩ := hO _ _ ho
          rw [hi] at hi2; cases hi2
          cases hor with
          | map _ en clock hn hw hl hv hm =>
            simp [Builtin.len_, hts, run_underlying he, goInt, getObj, Sem.run, hw, hl]
      · cases hn
    · subst hn; cases hx
      simp [Builtin.len_, hts, run_underlying he, goInt]

theorem zc_says {st : Nat} {x v : LV} {a : Value} (hx : VR c x a) (h : zcV st x = some v) : v = .nils st ∧ ∃ q l k, a = .slice q l k := by
  unfold zcV at h
  split at h <;> simp only [Option.some.injEq, reduceCtorEq] at h <;> subst h <;> cases hx <;> exact ⟨rfl, _, _, _, rfl⟩

theorem cap_says {t ty e : TypeId} {ts : Array TypeId} (hts : ts[0]? = some t) (he : P.underlying t = some (.slice e)) {x v : LV} {a : Value} (hx : VR c x a) (h : capV x = some v) : Says P c w (Builtin.cap_ ts ty #[a]) v := by
  unfold capV at h
  split at h
  · cases hx; simp only [Option.some.injEq] at h; subst h
    exact ⟨_, by simp [Builtin.cap_, hts, run_underlying he, goInt], .int _ _⟩
  · cases h

theorem isn_says {t e : TypeId} {op : BinOp} (hop : op = .eql ∨ op = .neq) (ht : P.underlying t = some (.slice e)) {ox : Operand} {x v : LV} {a : Value} (hx : VR c x a) (h : isnV (decide (op = .neq)) x = some v) :
    Says P c w (do eqGuard op t ox (.const (.slice none 0 0)) a (.slice none 0 0); binOp op t a (.slice none 0 0)) v := by
  have hs : ∃ q l k, a = .slice q l k ∧ v = .bool (q.isNone != decide (op = .neq)) := by
    unfold isnV at h
    split at h
    · cases hx; simp only [Option.some.injEq] at h; subst h; exact ⟨_, _, _, rfl, rfl⟩
    · cases hx; simp only [Option.some.injEq] at h; subst h; exact ⟨_, _, _, rfl, rfl⟩
    · split at h
      · cases h
      · rename_i hne
        simp only [Option.some.injEq] at h; subst h
        cases hx with
        | vs0 => simp at hne
        | vs => exact ⟨_, _, _, rfl, rfl⟩
    · cases h
  obtain ⟨q, l, k, rfl, rfl⟩ := hs
  have eq : (Op.equal t (.slice q l k) (.slice none 0 0)).run P w = .ok q.isNone w := by
    unfold Op.equal Op.maxDepth Op.equalIn
    cases q <;> simp [run_underlying ht]
  rw [eqGuard_plain _ _ _ _ (by simp) (by simp)]
  rcases hop with rfl | rfl
  · exact ⟨.bool (q.isNone != decide (BinOp.eql = BinOp.neq)), by simp only [binOp, Sem.run_bind, Sem.run_pure, Result.andThen_ok, eq]; simp, .bool _⟩
  · exact ⟨.bool (q.isNone != decide (BinOp.neq = BinOp.neq)), by simp only [binOp, Sem.run_bind, Sem.run_pure, Result.andThen_ok, eq]; simp, .bool _⟩
end
end Go.Zv
