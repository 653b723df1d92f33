/- The engine, part 17: an operation that calls nobody. -/
import Derived.Test.YtjmnepfdhkabfaaZvS11
namespace Go.Zv
set_option autoImplicit false
set_option linter.unusedVariables false
set_option linter.unusedSimpArgs false
section
variable {P : Program} {c : Cx} {w : World} {s : St} {a : Act} {Ts : List (Array Value)}

/-- the operation is carried out; the state behind it is what the evaluation says -/
def Works (P : Program) (c : Cx) (a : Act) (Ts : List (Array Value)) (w : World) (o : Oper) (v : LV) (s' : St) : Prop :=
  ∃ n w' c', (execOp a.eval o).run P w = .ok n w' ∧ SR P c' s' a.tmps Ts w' ∧ Tr c w c' w' ∧ ((∃ u, n = .value u ∧ VR c' v u) ∨ (n = .skip ∧ v = .undef))

theorem Works.of {o : Oper} {m : Sem Value} {v : LV} {s' : St} (h : Does P c a.tmps Ts w m v s') (he : execOp a.eval o = (do pure (.value (← m)))) : Works P c a Ts w o v s' := by
  obtain ⟨u, w', c', h1, h2, h3, h4⟩ := h
  exact ⟨.value u, w', c', by rw [he]; simp [h1], h2, h3, .inl ⟨u, rfl, h4⟩⟩
theorem Works.skip {o : Oper} {m : Sem Unit} {s' : St} {w' : World} {c' : Cx} (h1 : m.run P w = .ok () w') (h2 : SR P c' s' a.tmps Ts w') (h3 : Tr c w c' w') (he : execOp a.eval o = (do m; pure .skip)) : Works P c a Ts w o .undef s' :=
  ⟨.skip, w', c', by rw [he]; simp [h1], h2, h3, .inr ⟨rfl, rfl⟩⟩

def AOp.isVal : AOp → Bool
  | .as _ | .alloc _ | .box _ | .bsl .. | .store .. | .mkm | .mks .. | .mpu .. | .bad | .call .. | .cal .. | .app .. | .apz .. | .cpy .. => false
  | _ => true
theorem step_val {R : Orc} {d : Nat} {op : AOp} (h : op.isVal = true) : stepOp R true d op s = (valOp s.T s.O op).bind (ok1 s) := by
  cases op <;> first | rfl | (cases h)

theorem all_bind {α β : Type} {p : β → Bool} {x : Option α} {f : α → Option β} (h : ∀ a, (f a).all p = true) : (x.bind f).all p = true := by
  cases x with
  | none => rfl
  | some a => exact h a
theorem all_map {α β : Type} {p : β → Bool} {x : Option α} {f : α → β} (h : ∀ a, p (f a) = true) : (x.map f).all p = true := by
  cases x with
  | none => rfl
  | some a => exact h a
def Op.eff : Op → Bool
  | .assign _ | .alloc _ | .box .. | .buildSlice .. | .store .. | .makeMap .. | .makeSlice .. | .mapUpdate .. | .insert .. | .call _ => true
  | _ => false
theorem val_class {ty : TypeId} {op : Op} (h : Op.eff op = false) : (toOp1 P ty op).all AOp.isVal = true := by
  cases op <;> simp only [Op.eff, reduceCtorEq, Bool.true_eq_false] at h <;> unfold toOp1 <;> simp only [bind] <;>
    repeat' (first | rfl | contradiction | (refine all_map fun _ => ?_) | (refine all_bind fun _ => ?_) | split)

theorem step_ok (H : SR P c s a.tmps Ts w) {R : Orc} {d : Nat} {o : Oper} {op : AOp} (hop : toOp1 P o.type o.op = some op) (hnc : ∀ f l, op ≠ .call f l) (hnc2 : ∀ f l, op ≠ .cal f l) {v : LV} {s' : St} (h : stepOp R true d op s = some (v, s')) : Works P c a Ts w o v s' := by
  have hT := H.T
  have val : (valOp s.T s.O op).bind (ok1 s) = some (v, s') → Works P c a Ts w o v s' := by
    intro h
    obtain ⟨x, hx, h⟩ := Option.bind_eq_some_iff.1 h
    simp only [ok1, Option.some.injEq, Prod.mk.injEq] at h
    obtain ⟨rfl, rfl⟩ := h
    obtain ⟨u, h1, h2⟩ := val_ok hT H.O H.mu hop hx
    exact ⟨.value u, w, c, h1, H, Tr.refl _ _, .inl ⟨u, rfl, h2⟩⟩
  have isv : op.isVal = true → Works P c a Ts w o v s' := fun hv => val (by rw [← step_val (R := R) (d := d) hv]; exact h)
  by_cases he : Op.eff o.op = false
  · have := val_class (P := P) (ty := o.type) he
    rw [hop] at this
    exact isv this
  cases ho : o.op with
  | assign x =>
    rw [ho] at hop; simp only [toOp1] at hop
    obtain ⟨y, hy, rfl⟩ := Option.map_eq_some_iff.1 hop
    exact Works.of (asV_does H (opdT_ok hT hy) h) (by simp [execOp, ho])
  | alloc e =>
    rw [ho] at hop; simp only [toOp1, bind, Option.bind_eq_some_iff, Option.some.injEq] at hop
    obtain ⟨z, hz, rfl⟩ := hop
    obtain ⟨i, zv, hi, hzv, hzr⟩ := zeroLV_ok (c := c) hz
    obtain ⟨hzc, _⟩ := cells_VRs hzr (zero_one hz)
    obtain ⟨u, w', c', h1, h2, h3, h4⟩ := box_does H hzc e h
    refine Works.of (m := Instr.alloc e true (.tuple #[])) ⟨u, w', c', ?_, h2, h3, h4⟩ (by simp only [execOp, ho])
    simp only [Instr.alloc, Sem.run_bind, run_zero hi hzv, Result.andThen_ok]
    exact h1
  | box e x =>
    rw [ho] at hop; simp only [toOp1, bind, Option.bind_eq_some_iff, Option.some.injEq] at hop
    obtain ⟨y, hy, rfl⟩ := hop
    have hone : (y.ev s.T).cells.all LV.one = true := by
      have h' : boxV _ (y.ev s.T).cells s = some (v, s') := h
      unfold boxV at h'
      split at h'
      · assumption
      · cases h'
    obtain ⟨hc, _⟩ := cells_VRs (opdT_ok hT hy) hone
    exact Works.of (m := Instr.box e (a.eval x)) (box_does H hc e h) (by simp only [execOp, ho])
  | buildSlice t n ps =>
    rw [ho] at hop; simp only [toOp1] at hop
    split at hop
    · rename_i e hu
      simp only [bind, Option.bind_eq_some_iff, Option.some.injEq] at hop
      obtain ⟨st, hst, hop⟩ := hop
      split at hop
      · simp at hop
      · rename_i hlim
        simp only [Option.bind_eq_some_iff, Option.some.injEq] at hop
        obtain ⟨l, hl, z, hz, rfl⟩ := hop
        obtain ⟨h1, h2⟩ := mapM_parts hl
        have h' : (if z.cells.length = st then (fillS st s.T l (List.replicate n z.cells)).bind (bslK (oid s.lvl d) st n s) else none) = some (v, s') := h
        split at h'
        · rename_i hzl
          refine Works.of (m := Instr.buildSlice t n (ps.map fun (i, x) => (i, a.eval x))) (bsl_does (a := a) H hu hst hlim hz hzl (by simpa using h1.symm) (fun i p q hp hq => ?_) h') (by simp only [execOp, ho])
          simp only [Array.getElem?_map, Option.map_eq_some_iff] at hq
          obtain ⟨q0, hq0, rfl⟩ := hq
          have := h2 i q0 p (by simpa using hq0) hp
          simp only [Option.bind_eq_some_iff, Option.some.injEq] at this
          obtain ⟨y, hy, rfl⟩ := this
          exact ⟨rfl, opdT_ok hT hy⟩
        · cases h'
    · cases hop
  | store t x y =>
    rw [ho] at hop; simp only [toOp1, bind, Option.bind_eq_some_iff, Option.some.injEq] at hop
    obtain ⟨n, hn, x', hx, y', hy, rfl⟩ := hop
    obtain ⟨s2, hs2, h⟩ := Option.bind_eq_some_iff.1 (show (wr s n _ _).bind okU = some (v, s') from h)
    simp only [okU, Option.some.injEq, Prod.mk.injEq] at h
    obtain ⟨rfl, rfl⟩ := h
    obtain ⟨w', c', h1, h2, h3⟩ := store_does H hn (opd_ok hT hx) (opdT_ok hT hy) hs2
    exact Works.skip h1 h2 h3 (by simp only [execOp, ho])
  | makeMap t r =>
    rw [ho] at hop
    cases r with
    | none =>
      simp only [toOp1, Option.some.injEq] at hop; subst hop
      have h' : some (LV.mp (oid s.lvl d), St.new (oid s.lvl d) (.map []) s) = some (v, s') := h
      simp only [Option.some.injEq, Prod.mk.injEq] at h'
      obtain ⟨rfl, rfl⟩ := h'
      exact Works.of (m := Instr.makeMap t none) (mkm_does H _) (by simp only [execOp, ho, Option.map_none])
    | some r =>
      cases r with
      | const vv =>
        cases vv <;> simp only [toOp1, reduceCtorEq] at hop
        rename_i k n
        split at hop
        · rename_i hm
          simp only [if_true, Option.some.injEq] at hop; subst hop
          have h' : some (LV.mp (oid s.lvl d), St.new (oid s.lvl d) (.map []) s) = some (v, s') := h
          simp only [Option.some.injEq, Prod.mk.injEq] at h'
          obtain ⟨rfl, rfl⟩ := h'
          obtain ⟨u, w', c', h1, h2, h3, h4⟩ := mkm_does (P := P) H (oid s.lvl d)
          refine Works.of (m := Instr.makeMap t (some (.int k n))) ⟨u, w', c', ?_, h2, h3, h4⟩ (by simp only [execOp, ho, Option.map_some]; rfl)
          simp only [Instr.makeMap, Sem.run_bind, run_underlying hm, Result.andThen_ok, asInt, asIntOf, Sem.run_pure]
          exact h1
        · simp at hop
      | _ => simp [toOp1] at hop
  | makeSlice t l cp =>
    rw [ho] at hop; simp only [toOp1] at hop
    split at hop
    · rename_i e hu
      split at hop
      · rename_i hsm
        simp only [bind, Option.bind_eq_some_iff, Option.some.injEq] at hop
        obtain ⟨st, hst, z, hz, x', hx, y', hy, rfl⟩ := hop
        exact Works.of (mks_does H hu hsm hz hst (opd_ok hT hx) (opd_ok hT hy) h) (by simp only [execOp, ho])
      · cases hop
    · cases hop
  | mapUpdate t m k x =>
    rw [ho] at hop; simp only [toOp1] at hop
    split at hop
    · rename_i kt e hu
      simp only [bind, Option.bind_eq_some_iff, Option.some.injEq] at hop
      obtain ⟨ag, hag, ks, hks, y, hy, k', hk, x', hx, rfl⟩ := hop
      obtain ⟨rfl, w', c', h1, h2, h3⟩ := mpu_does H hu ⟨ag, ks, hag, hks, rfl⟩ (opd_ok hT hy) (opd_ok hT hk) (opd_ok hT hx) h
      exact Works.skip h1 h2 h3 (by simp only [execOp, ho])
    · cases hop
  | insert t m k x =>
    rw [ho] at hop; simp only [toOp1] at hop
    split at hop
    · rename_i kt e hu
      simp only [bind, Option.bind_eq_some_iff, Option.some.injEq] at hop
      obtain ⟨ag, hag, ks, hks, y, hy, k', hk, x', hx, rfl⟩ := hop
      obtain ⟨rfl, w', c', h1, h2, h3⟩ := mpu_does H hu ⟨ag, ks, hag, hks, rfl⟩ (opd_ok hT hy) (opd_ok hT hk) (opd_ok hT hx) h
      exact Works.skip h1 h2 h3 (by simp only [execOp, ho])
    · cases hop
  | call cl =>
    rw [ho] at hop; simp only [toOp1] at hop
    split at hop
    · obtain ⟨m, hm, rfl⟩ := Option.map_eq_some_iff.1 hop
      exact absurd rfl (hnc _ _)
    · simp only [bind, Option.bind_eq_some_iff, Option.some.injEq] at hop
      obtain ⟨f, hf, m, hm, rfl⟩ := hop
      exact absurd rfl (hnc2 _ _)
    · split at hop
      · obtain ⟨y, hy, rfl⟩ := Option.map_eq_some_iff.1 hop; exact isv rfl
      · obtain ⟨y, hy, rfl⟩ := Option.map_eq_some_iff.1 hop; exact isv rfl
      · obtain ⟨y, hy, rfl⟩ := Option.map_eq_some_iff.1 hop; exact isv rfl
      · simp only [Option.some.injEq] at hop; subst hop; exact isv rfl
      · cases hop
    · rename_i hb
      split at hop
      · split at hop
        · simp only [bind, Option.bind_eq_some_iff, Option.some.injEq] at hop
          obtain ⟨_, _, _, _, _, _, _, _, rfl⟩ := hop
          have h' : none = some (v, s') := h
          cases h'
        · cases hop
      · rename_i e dx x y hni h1 h2 hargs
        split at hop
        · rename_i hsm
          simp only [bind, Option.bind_eq_some_iff, Option.some.injEq] at hop
          obtain ⟨st, hst, x', hx, y', hy, rfl⟩ := hop
          obtain ⟨t, ht, hu⟩ := Option.bind_eq_some_iff.1 h1
          obtain ⟨t2, ht2, hu2⟩ := Option.bind_eq_some_iff.1 h2
          have hcl : cl.args.map a.eval = #[a.eval x, a.eval y] := by
            have : cl.args = #[x, y] := by rw [← Array.toArray_toList (xs := cl.args), hargs]
            rw [this]; simp
          refine Works.of (m := Builtin.append_ cl.argTypes o.type (cl.args.map a.eval)) ?_ (by simp only [execOp, ho, resolve, hb, pure_bind, invoke]; rfl)
          rw [hcl]
          exact app_does H ht ht2 hu hst hsm hu2 (fun k e2 => hni k e2) (opd_ok hT hx) (opd_ok hT hy) h
        · cases hop
      · cases hop
    · rename_i hb
      split at hop
      · rename_i e x y h1 hargs
        simp only [bind, Option.bind_eq_some_iff, Option.some.injEq] at hop
        obtain ⟨st, hst, x', hx, y', hy, rfl⟩ := hop
        obtain ⟨t, ht, hu⟩ := Option.bind_eq_some_iff.1 h1
        have hcl : cl.args.map a.eval = #[a.eval x, a.eval y] := by
          have : cl.args = #[x, y] := by rw [← Array.toArray_toList (xs := cl.args), hargs]
          rw [this]; simp
        refine Works.of (m := Builtin.copy_ cl.argTypes o.type (cl.args.map a.eval)) ?_ (by simp only [execOp, ho, resolve, hb, pure_bind, invoke]; rfl)
        rw [hcl]
        exact cpy_does H ht hu hst (opd_ok hT hx) (opd_ok hT hy) h
      · cases hop
    · split at hop
      · obtain ⟨y, hy, rfl⟩ := Option.map_eq_some_iff.1 hop; exact isv rfl
      · simp only [Option.some.injEq] at hop; subst hop; exact isv rfl
      · cases hop
    · obtain ⟨y, hy, rfl⟩ := Option.map_eq_some_iff.1 hop; exact isv rfl
    · obtain ⟨y, hy, rfl⟩ := Option.map_eq_some_iff.1 hop; exact isv rfl
    · cases hop
  | _ => rw [ho] at he; simp [Op.eff] at he
end
end Go.Zv
