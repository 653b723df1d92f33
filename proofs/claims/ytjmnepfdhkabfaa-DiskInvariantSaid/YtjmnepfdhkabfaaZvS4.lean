/- The engine, part 9: values that are the same; maps; values put together; bytes. -/
import Derived.Test.YtjmnepfdhkabfaaZvS3
import Derived.ChangeKeysEq
import Derived.Laws.StructEq
namespace Go.Zv
set_option autoImplicit false
set_option linter.unusedVariables false
set_option linter.unusedSimpArgs false
section
variable {P : Program} {c : Cx} {w : World} {O : Heap} {T : Env} {a : Act}

/-- a value of that type, of these cells -/
def mkv (P : Program) (t : TypeId) (vs : List Value) : Value := match P.underlying t with
  | some (.struct _) | some (.array _ _) => .agg vs.toArray
  | _ => vs.headD undef

theorem flat_size : ∀ {d : Nat} {t : TypeId} {ks : List Nat}, flatT P d t = some ks → tsize P t = some ks.length
  | 0, t, ks, h => by simp [flatT] at h
  | d + 1, t, ks, h => by
    unfold flatT at h
    split at h
    · split at h
      · rename_i hs; simp only [Option.some.injEq] at h; subst h; exact hs
      · cases h
    · split at h
      · rename_i hs; simp only [Option.some.injEq] at h; subst h; exact hs
      · cases h
    · split at h
      · rename_i hs; simp only [Option.some.injEq] at h; subst h; exact hs
      · cases h
    · split at h
      · cases h
      · obtain ⟨l, hl, h⟩ := Option.bind_eq_some_iff.1 h
        split at h
        · rename_i hs; simp only [Option.some.injEq] at h; subst h; exact hs
        · cases h
    · obtain ⟨l, hl, h⟩ := Option.bind_eq_some_iff.1 h
      split at h
      · rename_i hs; simp only [Option.some.injEq] at h; subst h; simpa using hs
      · cases h
    · cases h

theorem run_part_mkv {d : Nat} {e : TypeId} {ks : List Nat} (h : flatT P d e = some ks) {vs : List Value} {off : Nat} (hle : off + ks.length ≤ vs.length) :
    (Go.part e vs.toArray off).run P w = .ok (mkv P e ((vs.drop off).take ks.length)) w := by
  have hs := flat_size h
  unfold Go.part mkv
  cases d with
  | zero => simp [flatT] at h
  | succ d =>
    unfold flatT at h
    have leaf : isAggT P e = some false → ks.length = 1 → (do if ← isAgg e then pure (.agg (vs.toArray.extract off (off + (← sizeOf e)))) else match vs.toArray[off]? with | some v => pure v | none => stuck "part: no such cell" : Sem Value).run P w = .ok (((vs.drop off).take ks.length).headD undef) w := by
      intro ha hk
      have hlt : off < vs.length := by omega
      simp [run_isAgg ha, hk, hlt]
      rw [List.head?_take]
      simp [List.head?_drop, hlt]
    split at h
    · rename_i k hu
      split at h
      · simp only [Option.some.injEq] at h; subst h
        rw [hu]; exact leaf (by simp [isAggT, hu]) rfl
      · cases h
    · rename_i hu
      split at h
      · simp only [Option.some.injEq] at h; subst h
        rw [hu]; exact leaf (by simp [isAggT, hu]) rfl
      · cases h
    · rename_i hu
      split at h
      · simp only [Option.some.injEq] at h; subst h
        rw [hu]; exact leaf (by simp [isAggT, hu]) rfl
      · cases h
    · rename_i fs hu
      rw [hu]
      have ha : isAggT P e = some true := by simp [isAggT, hu]
      simp [run_isAgg ha, run_size hs]
    · rename_i n f hu
      rw [hu]
      have ha : isAggT P e = some true := by simp [isAggT, hu]
      simp [run_isAgg ha, run_size hs]
    · cases h

theorem eqs_len : ∀ {ks : List Nat} {xs ys : List LV} {b : Bool}, eqs ks xs ys = some b → xs.length = ks.length ∧ ys.length = ks.length
  | [], [], [], _, _ => ⟨rfl, rfl⟩
  | t :: ts, x :: l, y :: m, b, h => by
    simp only [eqs] at h
    obtain ⟨b1, _, h⟩ := Option.bind_eq_some_iff.1 h
    simp only [andK] at h
    obtain ⟨b2, h2, _⟩ := Option.map_eq_some_iff.1 h
    have := eqs_len h2
    simp [this.1, this.2]
  | [], _ :: _, _, _, h => by simp [eqs] at h
  | [], [], _ :: _, _, h => by simp [eqs] at h
  | _ :: _, [], _, _, h => by simp [eqs] at h
  | _ :: _, _ :: _, [], _, h => by simp [eqs] at h
theorem eqs_append : ∀ {m r : List Nat} {xs ys : List LV} {b : Bool}, eqs (m ++ r) xs ys = some b →
    ∃ b1 b2, eqs m (xs.take m.length) (ys.take m.length) = some b1 ∧ eqs r (xs.drop m.length) (ys.drop m.length) = some b2 ∧ b = (b1 && b2)
  | [], r, xs, ys, b, h => ⟨true, b, by simp [eqs], by simpa using h, by simp⟩
  | t :: ts, r, [], _, b, h => by simp [eqs] at h
  | t :: ts, r, _ :: _, [], b, h => by simp [eqs] at h
  | t :: ts, r, x :: l, y :: k, b, h => by
    simp only [List.cons_append, eqs] at h
    obtain ⟨b1, h1, h⟩ := Option.bind_eq_some_iff.1 h
    simp only [andK] at h
    obtain ⟨b2, h2, rfl⟩ := Option.map_eq_some_iff.1 h
    obtain ⟨c1, c2, e1, e2, rfl⟩ := eqs_append h2
    exact ⟨b1 && c1, c2, by simp [eqs, h1, andK, e1], by simpa using e2, by rw [Bool.and_assoc]⟩

theorem eq_leaf {k : Nat} {x y : LV} {u v : Value} {b : Bool} (h : eq1 k x y = some b) (hx : VR c x u) (hy : VR c y v) :
    (k = 0 ∧ ∃ q n m, u = .int q n ∧ v = .int q m ∧ b = (n == m)) ∨ (k = 1 ∧ ∃ n m, u = .bool n ∧ v = .bool m ∧ b = (n == m)) ∨ (k = 2 ∧ ∃ n m, u = .string n ∧ v = .string m ∧ b = (n == m)) := by
  unfold eq1 at h
  split at h
  · split at h
    · rename_i hk; subst hk
      simp only [Option.some.injEq] at h; subst h
      cases hx; cases hy; exact .inl ⟨rfl, _, _, _, rfl, rfl, rfl⟩
    · cases h
  · simp only [Option.some.injEq] at h; subst h
    cases hx; cases hy; exact .inr (.inl ⟨rfl, _, _, rfl, rfl, rfl⟩)
  · simp only [Option.some.injEq] at h; subst h
    cases hx; cases hy
    refine .inr (.inr ⟨rfl, _, _, rfl, rfl, ?_⟩)
    rename_i l m
    rw [beq_toListBytes, bytes_toList, bytes_toList]
  · cases h

theorem eqs_one {k : Nat} {xs ys : List LV} {b : Bool} (h : eqs [k] xs ys = some b) : ∃ x y, xs = [x] ∧ ys = [y] ∧ eq1 k x y = some b := by
  obtain ⟨h1, h2⟩ := eqs_len h
  match xs, ys, h1, h2 with
  | [x], [y], _, _ =>
    refine ⟨x, y, rfl, rfl, ?_⟩
    simp only [eqs] at h
    obtain ⟨b1, e, h⟩ := Option.bind_eq_some_iff.1 h
    simp only [andK, Option.map_some, Option.some.injEq, Bool.and_true] at h
    rw [e, h]
theorem VRs.one_ {x : LV} {vs : List Value} (h : VRs c [x] vs) : ∃ v, vs = [v] ∧ VR c x v := by
  match vs, h with
  | [], h => have := h.len; simp at this
  | [v], h => exact ⟨v, rfl, h.head⟩
  | _ :: _ :: _, h => have := h.len; simp at this

theorem eq_flat : ∀ (d : Nat) (t : TypeId) (ks : List Nat), flatT P d t = some ks → ∀ (xs ys : List LV) (va vb : List Value) (b : Bool), eqs ks xs ys = some b → VRs c xs va → VRs c ys vb →
    ∀ D, d ≤ D → (Op.equalIn D t (mkv P t va) (mkv P t vb)).run P w = .ok b w
  | 0, t, ks, h => by simp [flatT] at h
  | d + 1, t, ks, h => by
    intro xs ys va vb b he hx hy D hD
    obtain ⟨D, rfl⟩ : ∃ D', D = D' + 1 := ⟨D - 1, by omega⟩
    unfold flatT at h
    split at h
    · rename_i k hu
      split at h
      · simp only [Option.some.injEq] at h; subst h
        obtain ⟨x, y, rfl, rfl, he1⟩ := eqs_one he
        obtain ⟨u, rfl, hu1⟩ := hx.one_
        obtain ⟨v, rfl, hv1⟩ := hy.one_
        rcases eq_leaf he1 hu1 hv1 with ⟨_, q, n, m, rfl, rfl, rfl⟩ | ⟨h0, _⟩ | ⟨h0, _⟩
        · simp [mkv, hu, Op.equalIn, run_underlying hu]
        · cases h0
        · cases h0
      · cases h
    · rename_i hu
      split at h
      · simp only [Option.some.injEq] at h; subst h
        obtain ⟨x, y, rfl, rfl, he1⟩ := eqs_one he
        obtain ⟨u, rfl, hu1⟩ := hx.one_
        obtain ⟨v, rfl, hv1⟩ := hy.one_
        rcases eq_leaf he1 hu1 hv1 with ⟨h0, _⟩ | ⟨_, n, m, rfl, rfl, rfl⟩ | ⟨h0, _⟩
        · cases h0
        · simp [mkv, hu, Op.equalIn, run_underlying hu]
        · cases h0
      · cases h
    · rename_i hu
      split at h
      · simp only [Option.some.injEq] at h; subst h
        obtain ⟨x, y, rfl, rfl, he1⟩ := eqs_one he
        obtain ⟨u, rfl, hu1⟩ := hx.one_
        obtain ⟨v, rfl, hv1⟩ := hy.one_
        rcases eq_leaf he1 hu1 hv1 with ⟨h0, _⟩ | ⟨h0, _⟩ | ⟨_, n, m, rfl, rfl, rfl⟩
        · cases h0
        · cases h0
        · simp [mkv, hu, Op.equalIn, run_underlying hu]
      · cases h
    · rename_i fs hu
      split at h
      · cases h
      · rename_i hst
        have hst : P.stoodInHeld t = false := by simpa using hst
        obtain ⟨l, hl, h⟩ := Option.bind_eq_some_iff.1 h
        split at h
        · simp only [Option.some.injEq] at h; subst h
          have key : ∀ (L : List Field) (off : Nat) (ks : List Nat), flatF (flatT P d) off L = some ks → off ≤ xs.length → off ≤ ys.length → ∀ (b : Bool), eqs ks (xs.drop off) (ys.drop off) = some b → (Op.eqFields D va.toArray vb.toArray L).run P w = .ok b w := by
            intro L
            induction L with
            | nil =>
              intro off ks h ho1 ho2 b he
              simp only [flatF, Option.some.injEq] at h; subst h
              have := eqs_len he
              have e1 : xs.drop off = [] := List.eq_nil_of_length_eq_zero this.1
              have e2 : ys.drop off = [] := List.eq_nil_of_length_eq_zero this.2
              rw [e1, e2] at he
              simp only [eqs, Option.some.injEq] at he; subst he
              simp [Op.eqFields]
            | cons f L ih =>
              intro off ks h ho1 ho2 b he
              simp only [flatF] at h
              split at h
              · cases h
              · rename_i hn
                simp only [not_or, Decidable.not_not] at hn
                obtain ⟨m, hm, h⟩ := Option.bind_eq_some_iff.1 h
                obtain ⟨r, hr, rfl⟩ := Option.map_eq_some_iff.1 h
                obtain ⟨b1, b2, e1, e2, rfl⟩ := eqs_append he
                have hl := eqs_len he
                simp only [List.length_drop, List.length_append] at hl
                have la := hx.len
                have lb := hy.len
                have p1 := run_part_mkv (P := P) (w := w) hm (vs := va) (off := off) (by omega)
                have p2 := run_part_mkv (P := P) (w := w) hm (vs := vb) (off := off) (by omega)
                have p3 := eq_flat d f.type m hm _ _ _ _ _ e1 ((hx.drop off).take m.length) ((hy.drop off).take m.length) D (by omega)
                have p4 := ih (off + m.length) r hr (by omega) (by omega) b2 (by simpa [List.drop_drop] using e2)
                rw [← hn.2] at p1 p2
                simp only [Op.eqFields, hn.1, ne_eq, not_false_eq_true, if_true, Sem.run_bind, p1, p2, Result.andThen_ok]
                rw [hn.2, p3]
                cases b1
                · simp
                · simpa using p4
          have := key fs.toList 0 l hl (by simp) (by simp) b (by simpa using he)
          have e : mkv P t va = .agg va.toArray := by simp [mkv, hu]
          have e2 : mkv P t vb = .agg vb.toArray := by simp [mkv, hu]
          rw [e, e2]
          have hf : (P.fieldsOf t).toList = fs.toList := by simp [Program.fieldsOf, hu]
          rw [run_equalIn_struct w D t va.toArray vb.toArray (by rw [hu]; simp [Program.fieldsOf, hu]) hst]
          rw [hf]; exact this
        · cases h
    · rename_i n e hu
      obtain ⟨l, hl, h⟩ := Option.bind_eq_some_iff.1 h
      split at h
      · simp only [Option.some.injEq] at h; subst h
        have hsz := flat_size hl
        obtain ⟨i, hi, hii⟩ := Option.map_eq_some_iff.1 (show (P.info? e).map (·.size) = some l.length from hsz)
        have hc : P.cellsOf e = l.length := by simp [Program.cellsOf, hi, hii]
        have key : ∀ (k j : Nat) (b : Bool), eqs (List.replicate k l).flatten (xs.drop (j * l.length)) (ys.drop (j * l.length)) = some b → (Op.eqItems D e l.length va.toArray vb.toArray (List.range' j k)).run P w = .ok b w := by
          intro k
          induction k with
          | zero =>
            intro j b he
            have := eqs_len he
            simp only [List.replicate_zero, List.flatten_nil, List.length_nil] at this
            have e1 : xs.drop (j * l.length) = [] := List.eq_nil_of_length_eq_zero this.1
            have e2 : ys.drop (j * l.length) = [] := List.eq_nil_of_length_eq_zero this.2
            rw [e1, e2] at he
            simp [eqs] at he; subst he
            simp [Op.eqItems]
          | succ k ih =>
            intro j b he
            rw [List.replicate_succ, List.flatten_cons] at he
            obtain ⟨b1, b2, e1, e2, rfl⟩ := eqs_append he
            have hl2 := eqs_len he
            simp only [List.length_drop, List.length_append] at hl2
            have la := hx.len
            have lb := hy.len
            rw [List.range'_succ]
            by_cases hz : l.length = 0
            · have p1 := run_part_mkv (P := P) (w := w) hl (vs := va) (off := j * l.length) (by rw [hz]; simp)
              have p2 := run_part_mkv (P := P) (w := w) hl (vs := vb) (off := j * l.length) (by rw [hz]; simp)
              have p3 := eq_flat d e l hl _ _ _ _ _ e1 ((hx.drop (j * l.length)).take l.length) ((hy.drop (j * l.length)).take l.length) D (by omega)
              have p4 := ih (j + 1) b2 (by rw [Nat.add_mul, Nat.one_mul, ← List.drop_drop, ← List.drop_drop]; exact e2)
              simp only [Op.eqItems, Sem.run_bind, p1, p2, p3, Result.andThen_ok]
              cases b1
              · simp
              · simpa using p4
            · have p1 := run_part_mkv (P := P) (w := w) hl (vs := va) (off := j * l.length) (by omega)
              have p2 := run_part_mkv (P := P) (w := w) hl (vs := vb) (off := j * l.length) (by omega)
              have p3 := eq_flat d e l hl _ _ _ _ _ e1 ((hx.drop (j * l.length)).take l.length) ((hy.drop (j * l.length)).take l.length) D (by omega)
              have p4 := ih (j + 1) b2 (by rw [Nat.add_mul, Nat.one_mul, ← List.drop_drop, ← List.drop_drop]; exact e2)
              simp only [Op.eqItems, Sem.run_bind, p1, p2, p3, Result.andThen_ok]
              cases b1
              · simp
              · simpa using p4
        have := key n 0 b (by simpa using he)
        have e1 : mkv P t va = .agg va.toArray := by simp [mkv, hu]
        have e2 : mkv P t vb = .agg vb.toArray := by simp [mkv, hu]
        rw [e1, e2, run_equalIn_array w D va.toArray vb.toArray hu hi, hc, List.range_eq_range']
        exact this
      · cases h
    · cases h

theorem eqa_says {op : BinOp} (hop : op = .eql ∨ op = .neq) {t : TypeId} (hg : P.eqGuardType P.depth t = false) {ks : List Nat} (hf : flatT P 20 t = some ks) (hr : isAggT P t = some true) {ox oy : Operand} {x y v : LV} {u u' : Value} (hx : VR c x u) (hy : VR c y u')
    (h : eqaV (decide (op = .neq)) ks x y = some v) : Says P c w (do eqGuard op t ox oy u u'; binOp op t u u') v := by
  unfold eqaV at h
  split at h
  · obtain ⟨b, hb, h⟩ := Option.bind_eq_some_iff.1 h
    simp only [eqaK, Option.some.injEq] at h; subst h
    obtain ⟨va, rfl, ha⟩ := VRs.of_agg hx
    obtain ⟨vb, rfl, hb2⟩ := VRs.of_agg hy
    have e : ∀ vs : List Value, mkv P t vs = .agg vs.toArray := by
      intro vs
      unfold isAggT at hr
      unfold mkv
      split at hr
      · rename_i hu; rw [hu]
      · rename_i hu; rw [hu]
      · simp at hr
      · cases hr
    have key := eq_flat 20 t ks hf _ _ _ _ b hb ha hb2 10000 (by omega) (w := w)
    rw [e, e] at key
    have eq : (Op.equal t (.agg va.toArray) (.agg vb.toArray)).run P w = .ok b w := key
    rcases hop with rfl | rfl
    · refine ⟨.bool (b != decide (BinOp.eql = BinOp.neq)), ?_, .bool _⟩
      simp only [Sem.run_bind, run_eqGuard_agg w _ _ _ _ _ _ hg, Result.andThen_ok, binOp, eq, Sem.run_pure]
      simp
    · refine ⟨.bool (b != decide (BinOp.neq = BinOp.neq)), ?_, .bool _⟩
      simp only [Sem.run_bind, run_eqGuard_agg w _ _ _ _ _ _ hg, Result.andThen_ok, binOp, eq, Sem.run_pure]
      simp
  · cases h

/-! keys -/
theorem check_flat (em : Bool) : ∀ (d : Nat) (t : TypeId) (ks : List Nat), flatT P d t = some ks → ∀ (va : List Value), va.length = ks.length → ∀ D, d ≤ D → (Instr.checkKey em D t (mkv P t va)).run P w = .ok () w
  | 0, t, ks, h => by simp [flatT] at h
  | d + 1, t, ks, h => by
    intro va hl D hD
    obtain ⟨D, rfl⟩ : ∃ D', D = D' + 1 := ⟨D - 1, by omega⟩
    unfold flatT at h
    split at h
    · rename_i k hu; simp [Instr.checkKey, run_underlying hu]
    · rename_i hu; simp [Instr.checkKey, run_underlying hu]
    · rename_i hu; simp [Instr.checkKey, run_underlying hu]
    · rename_i fs hu
      split at h
      · cases h
      · obtain ⟨l, hl2, h⟩ := Option.bind_eq_some_iff.1 h
        split at h
        · simp only [Option.some.injEq] at h; subst h
          have e : mkv P t va = .agg va.toArray := by simp [mkv, hu]
          rw [e, Instr.checkKey]
          simp only [Sem.run_bind, run_underlying hu, Result.andThen_ok]
          rw [← Array.forIn_toList]
          have key : ∀ (L : List Field) (off : Nat) (ks : List Nat), flatF (flatT P d) off L = some ks → off + ks.length ≤ va.length → (forIn L PUnit.unit fun f r => (do
              if f.name ≠ "_" then do
                Instr.checkKey em D f.type (← Go.part f.type va.toArray f.offset)
                pure (ForInStep.yield PUnit.unit)
              else pure (ForInStep.yield PUnit.unit) : Sem (ForInStep PUnit))).run P w = .ok PUnit.unit w := by
            intro L
            induction L with
            | nil => intro off ks _ _; simp
            | cons f L ih =>
              intro off ks h ho
              simp only [flatF] at h
              split at h
              · cases h
              · rename_i hn
                simp only [not_or, Decidable.not_not] at hn
                obtain ⟨m, hm, h⟩ := Option.bind_eq_some_iff.1 h
                obtain ⟨r, hr, rfl⟩ := Option.map_eq_some_iff.1 h
                simp only [List.length_append] at ho
                have p1 := run_part_mkv (P := P) (w := w) hm (vs := va) (off := off) (by omega)
                have p2 := check_flat em d f.type m hm ((va.drop off).take m.length) (by simp; omega) D (by omega)
                have p3 := ih (off + m.length) r hr (by omega)
                rw [← hn.2] at p1 p2
                simp only [List.forIn_cons, Sem.run_bind, hn.1, ne_eq, not_false_eq_true, if_true, Result.andThen_ok, p1, p2, Sem.run_pure]
                exact p3
          have := key fs.toList 0 l hl2 (by omega)
          simp at this ⊢
          rw [this]; rfl
        · cases h
    · rename_i n e hu
      obtain ⟨l, hl2, h⟩ := Option.bind_eq_some_iff.1 h
      split at h
      · simp only [Option.some.injEq] at h; subst h
        have hsz := flat_size hl2
        have e1 : mkv P t va = .agg va.toArray := by simp [mkv, hu]
        rw [e1, Instr.checkKey]
        simp only [Sem.run_bind, run_underlying hu, Result.andThen_ok]
        simp only [Std.Legacy.Range.forIn_eq_forIn_range', Std.Legacy.Range.size, Nat.sub_zero, Nat.add_one_sub_one, Nat.div_one]
        have key : ∀ (k j : Nat), (j + k) * l.length ≤ va.length → (forIn (List.range' j k) PUnit.unit fun i r => (do
            Instr.checkKey em D e (← Go.part e va.toArray (i * (← sizeOf e)))
            pure (ForInStep.yield PUnit.unit) : Sem (ForInStep PUnit))).run P w = .ok PUnit.unit w := by
          intro k
          induction k with
          | zero => intro j _; simp
          | succ k ih =>
            intro j hj
            have hj2 : j * l.length + l.length ≤ va.length := by
              have : (j + 1) * l.length ≤ (j + (k + 1)) * l.length := Nat.mul_le_mul_right _ (by omega)
              rw [Nat.add_mul, Nat.one_mul] at this; omega
            have p1 := run_part_mkv (P := P) (w := w) hl2 (vs := va) (off := j * l.length) hj2
            have p2 := check_flat em d e l hl2 ((va.drop (j * l.length)).take l.length) (by simp; omega) D (by omega)
            have p3 := ih (j + 1) (by rw [show j + 1 + k = j + (k + 1) by omega]; exact hj)
            rw [List.range'_succ]
            simp only [List.forIn_cons, Sem.run_bind, run_size hsz, Result.andThen_ok, p1, p2, Sem.run_pure]
            exact p3
        have := key n 0 (by simp at hl; simp [hl])
        simp at this ⊢
        rw [this]; rfl
      · cases h
    · cases h

/-- a key is what its cells make of it -/
theorem mkv_of {t : TypeId} {ag : Bool} (hag : isAggT P t = some ag) {k : LV} {u : Value} (hk : VR c k u) (hfo : isAg k = ag) : ∃ va, VRs c k.cells va ∧ u = mkv P t va := by
  subst hfo
  cases k with
  | agg cs =>
    obtain ⟨vs, rfl, hv⟩ := VRs.of_agg hk
    refine ⟨vs, hv, ?_⟩
    unfold isAggT at hag
    unfold mkv
    split at hag
    · rename_i hu; rw [hu]
    · rename_i hu; rw [hu]
    · simp [isAg] at hag
    · cases hag
  | _ =>
    refine ⟨[u], VRs.cons hk (VRs.nil c), ?_⟩
    unfold isAggT at hag
    unfold mkv
    split at hag
    · simp [isAg] at hag
    · simp [isAg] at hag
    · rename_i d h1 h2 hu
      rw [hu]
      cases d <;> first | rfl | (exact (h1 _ rfl).elim) | (exact (h2 _ _ rfl).elim)
    · cases hag

structure KeyT (P : Program) (t : TypeId) (ks : List Nat) : Prop where
  ex : ∃ ag l, isAggT P t = some ag ∧ flatT P 20 t = some l ∧ ks = (if ag = true then 1 else 0) :: l

/-- the same cells, the same bits -/
theorem bits_cells : ∀ {l : List Nat} {xs ys : List LV} {us vs : List Value}, eqs l xs ys = some true → VRs c xs us → VRs c ys vs → us.length = vs.length ∧ ∀ (n : Nat), ∀ p ∈ vs.zip us, Instr.sameBits n p.1 p.2 = true
  | [], [], [], us, vs, h, h1, h2 => by
    have e1 := h1.len; have e2 := h2.len
    have : us = [] := List.eq_nil_of_length_eq_zero e1.symm
    have : vs = [] := List.eq_nil_of_length_eq_zero e2.symm
    subst us; subst vs; simp
  | t :: ts, x :: l, y :: m, [], vs, h, h1, h2 => by have := h1.len; simp at this
  | t :: ts, x :: l, y :: m, u :: us, [], h, h1, h2 => by have := h2.len; simp at this
  | t :: ts, x :: l, y :: m, u :: us, v :: vs, h, h1, h2 => by
    simp only [eqs] at h
    obtain ⟨b1, e1, h⟩ := Option.bind_eq_some_iff.1 h
    simp only [andK] at h
    obtain ⟨b2, e2, hb⟩ := Option.map_eq_some_iff.1 h
    simp only [Bool.and_eq_true] at hb
    obtain ⟨rfl, rfl⟩ := hb
    obtain ⟨i1, i2⟩ := bits_cells e2 h1.tail h2.tail
    refine ⟨by simp [i1], fun n p hp => ?_⟩
    simp only [List.zip_cons_cons, List.mem_cons] at hp
    rcases hp with rfl | hp
    · rcases eq_leaf e1 h1.head h2.head with ⟨_, q, a, b, rfl, rfl, e⟩ | ⟨_, a, b, rfl, rfl, e⟩ | ⟨_, a, b, rfl, rfl, e⟩
      · have : a = b := by simpa using e.symm
        subst this; cases n <;> simp [Instr.sameBits]
      · have : a = b := by simpa using e.symm
        subst this; cases n <;> simp [Instr.sameBits]
      · rw [beq_toListBytes] at e
        have : a.toList = b.toList := by simpa using e.symm
        cases n <;> simp [Instr.sameBits, beq_toListBytes, this]
    · exact i2 n p hp
  | [], _ :: _, _, _, _, h, _, _ => by simp [eqs] at h
  | [], [], _ :: _, _, _, h, _, _ => by simp [eqs] at h
  | _ :: _, [], _, _, _, h, _, _ => by simp [eqs] at h
  | _ :: _, _ :: _, [], _, _, h, _, _ => by simp [eqs] at h

theorem isAgg_cases {t : TypeId} {ag : Bool} (h : isAggT P t = some ag) : ∃ d, P.underlying t = some d ∧ (ag = true → ∀ vs, mkv P t vs = .agg vs.toArray) := by
  unfold isAggT at h
  unfold mkv
  split at h
  · rename_i hu; exact ⟨_, hu, fun _ vs => by rw [hu]⟩
  · rename_i hu; exact ⟨_, hu, fun _ vs => by rw [hu]⟩
  · rename_i hu; simp only [Option.some.injEq] at h; subst h; exact ⟨_, hu, by simp⟩
  · cases h

theorem eqKey_ok {t : TypeId} {ks : List Nat} (hK : KeyT P t ks) {k x : LV} {u v : Value} {b : Bool} (h : eqKey ks k x = some b) (hk : VR c k u) (hx : VR c x v) :
    (Op.equal t u v).run P w = .ok b w ∧ (∀ em, (Instr.checkKey em 10000 t u).run P w = .ok () w) ∧ (b = true → Instr.sameBits 10000 v u = true) ∧
    ∀ d, P.underlying t = some d → Instr.sameNow d u v = some b ∨ Instr.sameNow d u v = none := by
  obtain ⟨ag, l, hag, hf, rfl⟩ := hK.ex
  have e : (((if ag = true then 1 else 0 : Nat)) == 1) = ag := by cases ag <;> rfl
  simp only [eqKey, e] at h
  split at h
  · rename_i hc
    obtain ⟨va, hva, rfl⟩ := mkv_of hag hk hc.1
    obtain ⟨vb, hvb, rfl⟩ := mkv_of hag hx hc.2
    have hl := eqs_len h
    refine ⟨eq_flat 20 t l hf _ _ _ _ b h hva hvb 10000 (by omega), fun em => check_flat em 20 t l hf va (by rw [← hva.len]; exact hl.1) 10000 (by omega), ?_, ?_⟩
    · intro hb; subst hb
      obtain ⟨e1, e2⟩ := bits_cells h hva hvb
      cases ag with
      | true =>
        obtain ⟨d, hd, hm⟩ := isAgg_cases hag
        rw [hm rfl, hm rfl]
        show Instr.sameBits (9999 + 1) _ _ = true
        simp only [Instr.sameBits, List.size_toArray, e1, beq_self_eq_true, Bool.true_and, List.all_eq_true]
        exact fun p hp => e2 9999 p hp
      | false =>
        obtain ⟨x0, hx0⟩ : ∃ z, k.cells = [z] := by cases k <;> first | exact ⟨_, rfl⟩ | (simp [isAg] at hc)
        obtain ⟨y0, hy0⟩ : ∃ z, x.cells = [z] := by cases x <;> first | exact ⟨_, rfl⟩ | (simp [isAg] at hc)
        rw [hx0] at hva; rw [hy0] at hvb
        obtain ⟨u0, rfl, _⟩ := hva.one_
        obtain ⟨v0, rfl, _⟩ := hvb.one_
        have := e2 10000 (v0, u0) (by simp)
        obtain ⟨d, hd, hm⟩ := isAgg_cases hag
        have e3 : ∀ z, mkv P t [z] = z := by
          intro z
          unfold mkv
          unfold isAggT at hag
          split at hag <;> simp at hag
          rename_i d2 h1 h2 hu
          rw [hu]
          cases d2 <;> first | rfl | (exact (h1 _ rfl).elim) | (exact (h2 _ _ rfl).elim)
        rw [e3, e3]; exact this
    · intro d hd
      cases ag with
      | true =>
        obtain ⟨d2, hd2, hm⟩ := isAgg_cases hag
        rw [hm rfl, hm rfl]
        right; cases d <;> rfl
      | false =>
        unfold flatT at hf
        rw [hd] at hf
        cases d <;> simp only [reduceCtorEq] at hf
        case int q =>
          split at hf
          · simp only [Option.some.injEq] at hf; subst hf
            obtain ⟨x, y, e1, e2, he1⟩ := eqs_one h
            rw [e1] at hva; rw [e2] at hvb
            obtain ⟨u0, rfl, hu1⟩ := hva.one_
            obtain ⟨v0, rfl, hv1⟩ := hvb.one_
            rcases eq_leaf he1 hu1 hv1 with ⟨_, q, a, b, rfl, rfl, e⟩ | ⟨h0, _⟩ | ⟨h0, _⟩
            · left; simp [mkv, hd, Instr.sameNow, e]
            · cases h0
            · cases h0
          · cases hf
        case bool =>
          split at hf
          · simp only [Option.some.injEq] at hf; subst hf
            obtain ⟨x, y, e1, e2, he1⟩ := eqs_one h
            rw [e1] at hva; rw [e2] at hvb
            obtain ⟨u0, rfl, hu1⟩ := hva.one_
            obtain ⟨v0, rfl, hv1⟩ := hvb.one_
            rcases eq_leaf he1 hu1 hv1 with ⟨h0, _⟩ | ⟨_, a, b, rfl, rfl, e⟩ | ⟨h0, _⟩
            · cases h0
            · left; simp [mkv, hd, Instr.sameNow, e]
            · cases h0
          · cases hf
        case string =>
          split at hf
          · simp only [Option.some.injEq] at hf; subst hf
            obtain ⟨x, y, e1, e2, he1⟩ := eqs_one h
            rw [e1] at hva; rw [e2] at hvb
            obtain ⟨u0, rfl, hu1⟩ := hva.one_
            obtain ⟨v0, rfl, hv1⟩ := hvb.one_
            rcases eq_leaf he1 hu1 hv1 with ⟨h0, _⟩ | ⟨h0, _⟩ | ⟨_, a, b, rfl, rfl, e⟩
            · cases h0
            · cases h0
            · left; simp [mkv, hd, Instr.sameNow, e]
          · cases hf
        case struct fs => simp [isAggT, hd] at hag
        case array n e => simp [isAggT, hd] at hag
  · cases h

/-- the entries of a map, one by one -/
structure ER (c : Cx) (es : List (LV × LV)) (en : List MapEntry) : Prop where
  len : es.length = en.length
  at_ : ∀ (i : Nat) (e : LV × LV) (m : MapEntry), es[i]? = some e → en[i]? = some m → VR c e.1 m.key ∧ VR c e.2 m.val ∧ LV.closed e.1 = true ∧ LV.closed e.2 = true
theorem ER.tail {e : LV × LV} {m : MapEntry} {es : List (LV × LV)} {en : List MapEntry} (h : ER c (e :: es) (m :: en)) : ER c es en :=
  ⟨by simpa using h.len, fun i x y hx hy => h.at_ (i + 1) x y (by simpa using hx) (by simpa using hy)⟩
theorem ER.head {e : LV × LV} {m : MapEntry} {es : List (LV × LV)} {en : List MapEntry} (h : ER c (e :: es) (m :: en)) : VR c e.1 m.key ∧ VR c e.2 m.val ∧ LV.closed e.1 = true ∧ LV.closed e.2 = true := h.at_ 0 e m rfl rfl

/-- what a search finds -/
def Found (c : Cx) (en : List MapEntry) (i0 : Nat) : Option LV → Option (Nat × Value) → Prop
  | none, none => True
  | some x, some (i, v) => i0 ≤ i ∧ ∃ m, en[i - i0]? = some m ∧ m.val = v ∧ VR c x v
  | _, _ => False
theorem Found.skip {m : MapEntry} {en : List MapEntry} {i0 : Nat} {r : Option LV} {q : Option (Nat × Value)} (h : Found c en (i0 + 1) r q) : Found c (m :: en) i0 r q := by
  cases r <;> cases q <;> simp only [Found] at h ⊢
  obtain ⟨h1, m', h2, h3, h4⟩ := h
  refine ⟨by omega, m', ?_, h3, h4⟩
  rename_i p
  rw [show p.1 - i0 = (p.1 - (i0 + 1)) + 1 by omega]
  simpa using h2

theorem findNow_ok {t : TypeId} {ks : List Nat} (hK : KeyT P t ks) {d : TypeDesc} (hd : P.underlying t = some d) {k : LV} {u : Value} (hk : VR c k u) : ∀ {es : List (LV × LV)} {en : List MapEntry} {r : Option LV}, ER c es en → lookupE ks k es = some r → ∀ i0,
    (∃ q, Instr.findNow d u en i0 = some q ∧ Found c en i0 r q) ∨ Instr.findNow d u en i0 = none
  | [], [], r, _, h, i0 => by simp only [lookupE, Option.some.injEq] at h; subst h; exact .inl ⟨none, rfl, trivial⟩
  | [], _ :: _, _, hE, _, _ => by have := hE.len; simp at this
  | _ :: _, [], _, hE, _, _ => by have := hE.len; simp at this
  | e :: es, m :: en, r, hE, h, i0 => by
    obtain ⟨b, hb, h⟩ := Option.bind_eq_some_iff.1 (show (eqKey ks k e.1).bind _ = some r from h)
    obtain ⟨_, _, _, hnow⟩ := eqKey_ok (w := default) hK hb hk hE.head.1
    simp only [Instr.findNow]
    rcases hnow d hd with h1 | h1
    · rw [h1]
      simp only [lookK] at h
      cases b with
      | true =>
        simp only [if_true, Option.some.injEq] at h; subst h
        exact .inl ⟨_, rfl, by simp only [Found]; exact ⟨Nat.le_refl _, m, by simp, rfl, hE.head.2.1⟩⟩
      | false =>
        simp only [Bool.false_eq_true, if_false] at h
        rcases findNow_ok hK hd hk hE.tail h (i0 + 1) with ⟨q, hq, hF⟩ | hn
        · exact .inl ⟨q, hq, hF.skip⟩
        · exact .inr hn
    · rw [h1]; exact .inr rfl
theorem findAsking_ok {t : TypeId} {ks : List Nat} (hK : KeyT P t ks) {k : LV} {u : Value} (hk : VR c k u) : ∀ {es : List (LV × LV)} {en : List MapEntry} {r : Option LV}, ER c es en → lookupE ks k es = some r → ∀ i0,
    ∃ q, (Instr.findAsking t u en i0).run P w = .ok q w ∧ Found c en i0 r q
  | [], [], r, _, h, i0 => by simp only [lookupE, Option.some.injEq] at h; subst h; exact ⟨none, rfl, trivial⟩
  | [], _ :: _, _, hE, _, _ => by have := hE.len; simp at this
  | _ :: _, [], _, hE, _, _ => by have := hE.len; simp at this
  | e :: es, m :: en, r, hE, h, i0 => by
    obtain ⟨b, hb, h⟩ := Option.bind_eq_some_iff.1 (show (eqKey ks k e.1).bind _ = some r from h)
    obtain ⟨heq, _, _, _⟩ := eqKey_ok (w := w) hK hb hk hE.head.1
    simp only [Instr.findAsking, Sem.run_bind, heq, Result.andThen_ok]
    simp only [lookK] at h
    cases b with
    | true =>
      simp only [if_true, Option.some.injEq] at h; subst h
      exact ⟨_, rfl, by simp only [Found]; exact ⟨Nat.le_refl _, m, by simp, rfl, hE.head.2.1⟩⟩
    | false =>
      simp only [Bool.false_eq_true, if_false] at h ⊢
      obtain ⟨q, hq, hF⟩ := findAsking_ok hK hk hE.tail h (i0 + 1)
      exact ⟨q, hq, hF.skip⟩
theorem findKey_ok {t : TypeId} {ks : List Nat} (hK : KeyT P t ks) {k : LV} {u : Value} (hk : VR c k u) {es : List (LV × LV)} {en : List MapEntry} {r : Option LV} (hE : ER c es en) (h : lookupE ks k es = some r) :
    ∃ q, (Instr.findKey t u en).run P w = .ok q w ∧ Found c en 0 r q := by
  obtain ⟨ag, l, hag, hf, e⟩ := hK.ex
  obtain ⟨d, hd, _⟩ := isAgg_cases hag
  unfold Instr.findKey
  simp only [Sem.run_bind, run_underlying hd, Result.andThen_ok]
  rcases findNow_ok hK hd hk hE h 0 with ⟨q, hq, hF⟩ | hn
  · rw [hq]; exact ⟨q, rfl, hF⟩
  · rw [hn]; exact findAsking_ok hK hk hE h 0

theorem lkp_says {t kt e : TypeId} {ks : List Nat} {z : LV} {ok : Bool} (ht : P.underlying t = some (.map kt e)) (hK : KeyT P kt ks) (hz : zeroLV P e = some z) (hO : HR P c w O) {x k v : LV} {u uk : Value} (hx : VR c x u) (hk : VR c k uk)
    (h : (lkpV O ks k x).bind (lkpK z ok) = some v) : Says P c w (Instr.lookup t u uk ok) v := by
  obtain ⟨r, hr, h⟩ := Option.bind_eq_some_iff.1 h
  have key : ∀ (es : List (LV × LV)) (en : List MapEntry), ER c es en → lookupE ks k es = some r → eqKey ks k k ≠ none →
      (∀ em, (Instr.checkKey em 10000 kt uk).run P w = .ok () w) ∧ ((∃ i v0, (Instr.findKey kt uk en).run P w = .ok (some (i, v0)) w ∧ VR c v (if ok = true then .tuple #[v0, .bool true] else v0)) ∨
        ((Instr.findKey kt uk en).run P w = .ok none w ∧ ∃ zv, (zeroValue e).run P w = .ok zv w ∧ VR c v (if ok = true then .tuple #[zv, .bool false] else zv))) := by
    intro es en hE hl hkk
    obtain ⟨b, hb⟩ := Option.ne_none_iff_exists'.1 hkk
    obtain ⟨_, hck, _, _⟩ := eqKey_ok (w := w) hK hb hk hk
    obtain ⟨q, hq, hF⟩ := findKey_ok (w := w) hK hk hE hl
    refine ⟨hck, ?_⟩
    cases r with
    | some y =>
      cases q with
      | none => exact hF.elim
      | some p =>
        obtain ⟨i, v0⟩ := p
        simp only [Found] at hF
        obtain ⟨_, m, _, hm, hv⟩ := hF
        simp only [lkpK, Option.some.injEq] at h
        refine .inl ⟨i, v0, hq, ?_⟩
        cases ok
        · simp only [Bool.false_eq_true, if_false] at h ⊢; subst h; exact hv
        · simp only [if_true] at h ⊢; subst h
          exact .tup [y, .bool true] [v0, .bool true] rfl (VRs.cons hv (VRs.cons (.bool _) (VRs.nil c))).at_
    | none =>
      cases q with
      | some p => exact hF.elim
      | none =>
        obtain ⟨i, zv, hi, hzv, hzr⟩ := zeroLV_ok (c := c) hz
        simp only [lkpK, Option.some.injEq] at h
        refine .inr ⟨hq, zv, run_zero hi hzv, ?_⟩
        cases ok
        · simp only [Bool.false_eq_true, if_false] at h ⊢; subst h; exact hzr
        · simp only [if_true] at h ⊢; subst h
          exact .tup [z, .bool false] [zv, .bool false] rfl (VRs.cons hzr (VRs.cons (.bool _) (VRs.nil c))).at_
  unfold lkpV at hr
  split at hr
  · cases hx
    obtain ⟨b, hb, hr⟩ := Option.bind_eq_some_iff.1 hr
    simp only [Option.some.injEq] at hr; subst hr
    obtain ⟨hck, ⟨i, v0, hf, hv⟩ | ⟨hf, zv, hz2, hv⟩⟩ := key [] [] ⟨rfl, by simp⟩ rfl (by rw [hb]; simp)
    · exact ⟨_, by simp [Instr.lookup, run_underlying ht, hck, hf], hv⟩
    · exact ⟨_, by simp [Instr.lookup, run_underlying ht, hck, hf, hz2], hv⟩
  · obtain ⟨b, hb, hr⟩ := Option.bind_eq_some_iff.1 hr
    unfold lkpO at hr
    split at hr
    · rename_i id es ho
      cases hx with
      | mp _ hh hi =>
        obtain ⟨h2, hi2, hor⟩ := hO _ _ ho
        rw [hi] at hi2; cases hi2
        cases hor with
        | map _ en clock hn hw hl hv hm =>
          obtain ⟨hck, ⟨i, v0, hf, hv⟩ | ⟨hf, zv, hz2, hv⟩⟩ := key es en.toList ⟨by simp [hl], fun i e m he hm => hv i e m he (by simpa using hm)⟩ hr (by rw [hb]; simp)
          · exact ⟨_, by simp [Instr.lookup, run_underlying ht, getObj, Sem.run, hw, hck, hf], hv⟩
          · exact ⟨_, by simp [Instr.lookup, run_underlying ht, getObj, Sem.run, hw, hck, hf, hz2], hv⟩
    · cases hr
  · cases hr
end
end Go.Zv
