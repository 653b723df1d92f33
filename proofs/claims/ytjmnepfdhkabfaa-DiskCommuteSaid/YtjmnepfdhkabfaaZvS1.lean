/- The engine, part 6: operands; the operations that touch no memory. -/
import Derived.Test.YtjmnepfdhkabfaaZvR
import Derived.Laws.Concat
import Derived.Laws.Strings
namespace Go.Zv
set_option autoImplicit false
set_option linter.unusedVariables false
set_option linter.unusedSimpArgs false
section
variable {P : Program} {c : Cx} {w : World}

/-- it answers, the world stands -/
def Says (P : Program) (c : Cx) (w : World) (m : Sem Value) (x : LV) : Prop := ∃ v, m.run P w = .ok v w ∧ VR c x v
/-- these objects lie there -/
def HR (P : Program) (c : Cx) (w : World) (O : Heap) : Prop := ∀ id o, oget O id = some o → ∃ h, c.io id = some h ∧ OR P c w h o
def MR (c : Cx) (w : World) : Prop := ∀ b o v, c.mu b o = some v → w.cell? ⟨b, o, none⟩ = some v

theorem VR.of_int {k : IntKind} {n : Int} {v : Value} (h : VR c (.int k n) v) : v = .int k n := by cases h; rfl
theorem VR.of_bool {b : Bool} {v : Value} (h : VR c (.bool b) v) : v = .bool b := by cases h; rfl
theorem VR.of_str {l : List UInt8} {v : Value} (h : VR c (.str l) v) : v = .string ⟨l.toArray⟩ := by cases h; rfl

theorem bytes_toList (l : List UInt8) : (⟨l.toArray⟩ : ByteArray).toList = l := by
  rw [ByteArray.toList_eq]

/-! operands -/
theorem cellLV_ok {v : Value} {x : LV} (h : cellLV v = some x) : VR c x v := by
  unfold cellLV at h
  split at h <;> simp only [Option.some.injEq, reduceCtorEq] at h <;> subst h
  · exact .bool _
  · exact .int _ _
  · rename_i s
    have : s = ⟨s.data.toList.toArray⟩ := by simp
    conv => rhs; rw [this]
    exact .str _
  · exact .nilp
  · exact .nils _ _
  · exact .nilm
  · exact .nilf
theorem mapM_cell : ∀ {l : List Value} {m : List LV}, l.mapM cellLV = some m → VRs c m l
  | [], m, h => by simp only [List.mapM_nil, pure, Option.some.injEq] at h; subst h; exact VRs.nil c
  | v :: l, m, h => by
    simp only [List.mapM_cons, bind, pure, Option.bind_eq_some_iff, Option.some.injEq] at h
    obtain ⟨x, hx, m', hm, rfl⟩ := h
    exact VRs.cons (cellLV_ok hx) (mapM_cell hm)
theorem constLV_ok {v : Value} {x : LV} (h : constLV v = some x) : VR c x v := by
  unfold constLV at h
  split at h
  · rename_i cs
    obtain ⟨m, hm, rfl⟩ := Option.map_eq_some_iff.1 h
    have := mapM_cell (c := c) hm
    have e : cs = cs.toList.toArray := by simp
    conv => rhs; rw [e]
    exact .agg _ _ this.len this.at_
  · exact cellLV_ok h
theorem withSt_ok : ∀ {l : List LV} {s : List Nat} {vs : List Value}, VRs c l vs → VRs c (withSt l s) vs
  | [], s, vs, h => by cases s <;> simpa [withSt] using h
  | v :: l, [], vs, h => by cases v <;> simpa [withSt] using h
  | v :: l, k :: s, [], h => by have := h.len; simp at this
  | v :: l, k :: s, u :: vs, h => by
    have h2 := withSt_ok (s := s) h.tail
    have h1 := h.head
    cases v with
    | nils st => cases h1; exact VRs.cons (.nils _ _) h2
    | _ => exact VRs.cons h1 h2
theorem typed_ok {t : TypeId} {x : LV} {v : Value} (h : VR c x v) : VR c (typed P t x) v := by
  unfold typed
  split
  · obtain ⟨vs, rfl, hv⟩ := VRs.of_agg h
    have := withSt_ok (s := strides P 20 t) hv
    exact .agg _ _ this.len this.at_
  · cases h; exact .nils _ _
  · exact h
variable {T : Env} {a : Act}
theorem opd_ok (hT : TR c T a.tmps) {x : Operand} {y : Opd} (h : toOpd x = some y) : VR c (y.ev T) (a.eval x) := by
  cases x with
  | tmp t => simp only [toOpd, Option.some.injEq] at h; subst h; exact hT t
  | const v =>
    simp only [toOpd] at h
    obtain ⟨z, hz, rfl⟩ := Option.map_eq_some_iff.1 h
    exact constLV_ok hz
  | global g => simp [toOpd] at h
  | func f =>
    simp only [toOpd, Option.some.injEq] at h; subst h
    exact .fn (.func f) [] [] [] [] rfl rfl (by simp) (by simp)
theorem opdT_ok (hT : TR c T a.tmps) {t : TypeId} {x : Operand} {y : Opd} (h : toOpdT P t x = some y) : VR c (y.ev T) (a.eval x) := by
  unfold toOpdT at h
  split at h
  · obtain ⟨z, hz, rfl⟩ := Option.map_eq_some_iff.1 h
    exact typed_ok (constLV_ok hz)
  · exact opd_ok hT h
theorem opds_ok (hT : TR c T a.tmps) : ∀ {l : List Operand} {m : List Opd}, l.mapM toOpd = some m → VRs c (evs T m) (l.map a.eval)
  | [], m, h => by simp only [List.mapM_nil, pure, Option.some.injEq] at h; subst h; exact VRs.nil c
  | v :: l, m, h => by
    simp only [List.mapM_cons, bind, pure, Option.bind_eq_some_iff, Option.some.injEq] at h
    obtain ⟨x, hx, m', hm, rfl⟩ := h
    exact VRs.cons (opd_ok hT hx) (opds_ok hT hm)
theorem opdTs_ok (hT : TR c T a.tmps) {ts : Array TypeId} : ∀ {l : List Operand} {k : Nat} {m : List Opd}, (l.zipIdx k).mapM (fun p => toOpdT P (ts.getD p.2 0) p.1) = some m → VRs c (evs T m) (l.map a.eval)
  | [], k, m, h => by simp only [List.zipIdx_nil, List.mapM_nil, pure, Option.some.injEq] at h; subst h; exact VRs.nil c
  | v :: l, k, m, h => by
    simp only [List.zipIdx_cons, List.mapM_cons, bind, pure, Option.bind_eq_some_iff, Option.some.injEq] at h
    obtain ⟨x, hx, m', hm, rfl⟩ := h
    exact VRs.cons (opdT_ok hT hx) (opdTs_ok hT hm)
theorem args_ok (hT : TR c T a.tmps) {ts : Array TypeId} {l : Array Operand} {m : List Opd} (h : toArgs P ts l = some m) : VRs c (evs T m) (l.map a.eval).toList := by
  rw [Array.toList_map]
  exact opdTs_ok hT h
theorem toOpds_ok (hT : TR c T a.tmps) {l : Array Operand} {m : List Opd} (h : toOpds l = some m) : VRs c (evs T m) (l.map a.eval).toList := by
  rw [Array.toList_map]
  exact opds_ok hT h

/-! the zero of a type -/
theorem zeroLV_ok {t : TypeId} {x : LV} (h : zeroLV P t = some x) : ∃ i z, P.info? t = some i ∧ i.zero = some z ∧ VR c x z := by
  unfold zeroLV at h
  split at h
  · rename_i i hi
    split at h
    · rename_i z hz
      obtain ⟨y, hy, rfl⟩ := Option.map_eq_some_iff.1 h
      exact ⟨i, z, hi, hz, typed_ok (constLV_ok hy)⟩
    · cases h
  · cases h
theorem run_zero {t : TypeId} {i : TypeInfo} {z : Value} (hi : P.info? t = some i) (hz : i.zero = some z) : (zeroValue t).run P w = .ok z w := by
  simp [zeroValue, typeInfo, hi, hz]
theorem run_size {t : TypeId} {n : Nat} (h : tsize P t = some n) : (sizeOf t).run P w = .ok n w := by
  unfold tsize at h
  obtain ⟨i, hi, rfl⟩ := Option.map_eq_some_iff.1 h
  simp [sizeOf, typeInfo, hi]
theorem run_isAgg {t : TypeId} {b : Bool} (h : isAggT P t = some b) : (isAgg t).run P w = .ok b w := by
  unfold isAggT at h
  split at h
  · rename_i hu; simp only [Option.some.injEq] at h; subst h; simp [isAgg, run_underlying hu]
  · rename_i hu; simp only [Option.some.injEq] at h; subst h; simp [isAgg, run_underlying hu]
  · rename_i d hd1 hd2 hu
    simp only [Option.some.injEq] at h; subst h
    simp only [isAgg, Sem.run_bind, run_underlying hu, Result.andThen_ok]
    cases d <;> first | rfl | (exact absurd hu (hd1 _)) | (exact absurd hu (hd2 _ _))
  · cases h

/-! cells -/
theorem cells_VRs {x : LV} {v : Value} (h : VR c x v) (h1 : x.cells.all LV.one = true) : VRs c x.cells v.cells.toList ∧ ∀ u ∈ v.cells.toList, u.oneCell' = true := by
  have aux : ∀ {cs : List LV} {vs : List Value}, VRs c cs vs → cs.all LV.one = true → ∀ u ∈ vs, u.oneCell' = true := by
    intro cs vs hv ha u hu
    obtain ⟨i, hi⟩ := List.mem_iff_getElem?.1 hu
    have hlt : i < vs.length := (List.getElem?_eq_some_iff.1 hi).1
    have hx : cs[i]? = some (cs[i]'(hv.len ▸ hlt)) := List.getElem?_eq_getElem _
    exact (hv.at_ i _ u hx hi).one (List.all_eq_true.1 ha _ (List.mem_of_getElem? hx))
  cases x with
  | agg cs =>
    obtain ⟨vs, rfl, hv⟩ := VRs.of_agg h
    exact ⟨by simpa [LV.cells, Value.cells] using hv, by simpa [Value.cells] using aux hv h1⟩
  | _ =>
    have ho : v.oneCell' = true := h.one (by simpa [LV.cells] using h1)
    have hc : v.cells = #[v] := by cases v <;> first | rfl | (simp [Value.oneCell'] at ho)
    rw [hc]
    exact ⟨VRs.cons h (VRs.nil c), by simp [ho]⟩

/-- a part of some cells -/
theorem part_says {t : TypeId} {ag : Bool} {off n : Nat} {cs : List LV} {vs : List Value} {x : LV} (ha : isAggT P t = some ag) (hn : tsize P t = some n) (hv : VRs c cs vs) (h : part ag off n cs = some x) :
    Says P c w (Go.part t vs.toArray off) x := by
  unfold part at h
  unfold Go.part
  split at h
  · rename_i e; subst e
    split at h
    · rename_i hle
      simp only [Option.some.injEq] at h; subst h
      have := (hv.drop off).take n
      exact ⟨_, by simp [run_isAgg ha, run_size hn], .agg _ _ this.len this.at_⟩
    · cases h
  · rename_i e
    have e : ag = false := by simpa using e
    subst e
    obtain ⟨v, hv1, hv2⟩ := hv.getSome h
    exact ⟨v, by simp [run_isAgg ha, hv1], hv2⟩

/-! the operations -/
theorem eqGuard_plain (op : BinOp) (t : TypeId) (x y : Operand) {a b : Value} (h : ¬ (a = .nilIface ∧ b = .nilIface)) (h2 : ∀ cs ds, ¬ (a = .agg cs ∧ b = .agg ds)) : eqGuard op t x y a b = pure () := by
  unfold eqGuard
  cases op <;> (try rfl) <;> (cases a <;> cases b <;> first | rfl | (exact absurd ⟨rfl, rfl⟩ h) | (exact absurd ⟨rfl, rfl⟩ (h2 _ _)))

theorem bin_says {op : BinOp} {t : TypeId} {ox oy : Operand} {x y : LV} {a b : Value} (ha : VR c x a) (hb : VR c y b) {v : LV} (h : bin op x y = some v) : Says P c w (do eqGuard op t ox oy a b; binOp op t a b) v := by
  unfold bin at h
  split at h
  · cases ha; cases hb
    rename_i k n k' m
    rw [eqGuard_plain _ _ _ _ (by simp) (by simp)]
    split at h
    · rename_i hs
      unfold shf at h
      split at h
      · cases h
      · rename_i hy
        cases op <;> simp only [isShf, Bool.false_eq_true] at hs <;> simp only [Option.some.injEq] at h <;> subst h <;> exact ⟨_, by simp only [binOp, Op.shift, hy, if_false]; rfl, .int _ _⟩
    · rename_i hs
      split at h
      · rename_i hk
        subst hk
        unfold binI at h
        cases op <;> (try (simp [isShf] at hs; done)) <;> simp only [Option.some.injEq, Option.ite_none_left_eq_some] at h
        case quo => obtain ⟨hy, h⟩ := h; subst h; exact ⟨_, by simp only [binOp, ne_eq, not_true_eq_false, if_false, Op.intDiv, hy]; rfl, .int _ _⟩
        case rem => obtain ⟨hy, h⟩ := h; subst h; exact ⟨_, by simp only [binOp, ne_eq, not_true_eq_false, if_false, Op.intDiv, hy]; rfl, .int _ _⟩
        all_goals subst h; first | exact ⟨_, by simp only [binOp, ne_eq, not_true_eq_false, if_false]; rfl, .int _ _⟩ | exact ⟨_, by simp only [binOp, ne_eq, not_true_eq_false, if_false]; rfl, .bool _⟩
      · cases h
  · cases ha; cases hb
    rename_i a b
    rw [eqGuard_plain _ _ _ _ (by simp) (by simp)]
    unfold binT at h
    split at h
    · simp only [Option.some.injEq] at h; subst h
      exact ⟨.bool (a == b), by simp [binOp, Op.stringOp], .bool _⟩
    · simp only [Option.some.injEq] at h; subst h
      exact ⟨.bool (a != b), by simp [binOp, Op.stringOp, bne], .bool _⟩
    · split at h
      · rename_i hl
        simp only [Option.some.injEq] at h; subst h
        refine ⟨_, ?_, .str _⟩
        rw [← ByteArray.mk_append_mk]
        show (Op.stringOp .add _ _).run P w = _
        refine run_string_add_sum _ _ _ ?_
        simp only [ByteArray.size_mk', List.size_toArray]; omega
      · cases h
    · cases h
  · cases h

theorem equal_bool {t : TypeId} (ht : P.underlying t = some .bool) (a b : Bool) : (Op.equal t (.bool a) (.bool b)).run P w = .ok (a == b) w := by
  unfold Op.equal Op.maxDepth Op.equalIn
  simp only [Sem.run_bind, run_underlying ht, Result.andThen_ok, Sem.run_pure]
theorem bib_says {op : BinOp} (hop : op = .eql ∨ op = .neq) {t : TypeId} {ox oy : Operand} {x y : LV} {a b : Value} (ht : P.underlying t = some .bool) (ha : VR c x a) (hb : VR c y b) {v : LV} (h : bibV (decide (op = .neq)) x y = some v) :
    Says P c w (do eqGuard op t ox oy a b; binOp op t a b) v := by
  unfold bibV at h
  split at h
  · cases ha; cases hb
    rename_i a b
    rw [eqGuard_plain _ _ _ _ (by simp) (by simp)]
    simp only [Option.some.injEq] at h; subst h
    rcases hop with rfl | rfl
    · refine ⟨.bool ((a == b) != decide (BinOp.eql = BinOp.neq)), ?_, .bool _⟩
      simp only [binOp, Sem.run_bind, Sem.run_pure, Result.andThen_ok, equal_bool ht]
      simp
    · refine ⟨.bool ((a == b) != decide (BinOp.neq = BinOp.neq)), ?_, .bool _⟩
      simp only [binOp, Sem.run_bind, Sem.run_pure, Result.andThen_ok, equal_bool ht]
      simp
  · cases h

theorem un_says {op : UnOp} {x : LV} {a : Value} (ha : VR c x a) {v : LV} (h : unV op x = some v) : Says P c w (Op.unary op a) v := by
  unfold unV at h
  split at h
  · cases ha; simp only [Option.some.injEq] at h; subst h; exact ⟨_, rfl, .int _ _⟩
  · cases ha; simp only [Option.some.injEq] at h; subst h; exact ⟨_, rfl, .bool _⟩
  · cases h

theorem ext_says {i : Nat} {x : LV} {a : Value} (ha : VR c x a) {v : LV} (h : extV i x = some v) : Says P c w (Instr.extract a i) v := by
  unfold extV at h
  split at h
  · obtain ⟨vs, rfl, hv⟩ := VRs.of_tup ha
    obtain ⟨u, hu, hr⟩ := hv.getSome h
    exact ⟨u, by simp [Instr.extract, hu], hr⟩
  · cases h

theorem nilc_says {x : LV} {a : Value} (ha : VR c x a) {v : LV} (h : nilcV x = some v) : v = x ∧ ((∃ q, a = .pointer (some q)) ∨ ∃ f us vs, a = .func (.func f) us vs) := by
  unfold nilcV at h
  split at h <;> simp only [Option.some.injEq, reduceCtorEq] at h <;> subst h <;> cases ha
  · exact ⟨rfl, .inl ⟨_, rfl⟩⟩
  · exact ⟨rfl, .inl ⟨_, rfl⟩⟩
  · exact ⟨rfl, .inl ⟨_, rfl⟩⟩
  · exact ⟨rfl, .inr ⟨_, _, _, rfl⟩⟩

theorem fad_says {s : TypeId} {i off : Nat} {fs : Array Field} {f : Field} {x : LV} {a : Value} (hs : P.underlying s = some (.struct fs)) (hf : fs[i]? = some f) {n : Nat} (hz : tsize P f.type = some n) (hn : n ≠ 0) (ho : off = f.offset)
    (ha : VR c x a) {v : LV} (h : fadV off x = some v) : Says P c w (Instr.fieldAt s a i) v := by
  subst ho
  have key : ∀ q : Addr, q.spot = none → a = .pointer (some q) → (Instr.fieldAt s a i).run P w = .ok (.pointer (some ⟨q.block, q.off + f.offset, none⟩)) w := by
    intro q hq e; subst e
    have : q.add f.offset = ⟨q.block, q.off + f.offset, none⟩ := by
      obtain ⟨b, o, sp⟩ := q; simp only at hq; subst hq
      unfold Addr.add; split <;> simp_all
    simp [Instr.fieldAt, run_underlying hs, hf, Instr.sureAddr, fieldPlace, run_size hz, hn, this]
  unfold fadV at h
  split at h <;> simp only [Option.some.injEq, reduceCtorEq] at h <;> subst h
  · cases ha with | ptr id o hh hi => exact ⟨_, key _ rfl rfl, .ptr _ _ hh hi⟩
  · cases ha with | ep _ _ _ hh hi hn => exact ⟨_, key _ rfl rfl, by simpa [Nat.add_assoc] using VR.ep _ _ _ hh hi hn⟩
  · cases ha with
    | fp cs b o val hcl hm h1 hv =>
      refine ⟨_, key _ rfl rfl, .fp _ b (o + f.offset) (fun j => val (f.offset + j)) ?_ ?_ ?_ ?_⟩
      · exact closeds_of fun j y hy => closeds_at hcl (i := f.offset + j) (by simpa using hy)
      · intro j y hy; have := hm (f.offset + j) y (by simpa using hy); rwa [← Nat.add_assoc] at this
      · intro j y hy; exact h1 _ y (by simpa using hy)
      · intro j y hy; exact hv _ y (by simpa using hy)

theorem fld_says {t : TypeId} {i off n : Nat} {ag : Bool} {fs : Array Field} {f : Field} {x : LV} {a : Value} (hs : P.underlying t = some (.struct fs)) (hf : fs[i]? = some f) (hag : isAggT P f.type = some ag) (hz : tsize P f.type = some n) (ho : off = f.offset)
    (ha : VR c x a) {v : LV} (h : fldV ag off n x = some v) : Says P c w (Instr.field t a i) v := by
  subst ho
  unfold fldV at h
  split at h
  · obtain ⟨vs, rfl, hv⟩ := VRs.of_agg ha
    obtain ⟨u, hu, hr⟩ := part_says (w := w) hag hz hv h
    exact ⟨u, by simp [Instr.field, run_underlying hs, hf, asAgg, hu], hr⟩
  · cases h

theorem pick_says {x y z : LV} {a b d : Value} (ha : VR c x a) (hb : VR c y b) (hd : VR c z d) {v : LV} (h : pickV x y z = some v) :
    ∃ t, d = .bool t ∧ VR c v (if t = true then a else b) := by
  unfold pickV at h
  split at h
  · cases hd; simp only [Option.some.injEq] at h; subst h
    rename_i t
    exact ⟨t, rfl, by split <;> assumption⟩
  · cases h
end
end Go.Zv
