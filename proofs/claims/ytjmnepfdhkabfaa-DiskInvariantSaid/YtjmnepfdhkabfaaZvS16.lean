/- The engine, part 21: regions in their order. -/
import Derived.Test.YtjmnepfdhkabfaaZvS15
namespace Go.Zv
set_option autoImplicit false
set_option linter.unusedVariables false
set_option linter.unusedSimpArgs false
section
variable {P : Program} {c : Cx} {w w' : World} {s : St} {tmps : Array Value} {Ts : List (Array Value)}

theorem toOper_inv {N : Nat} {ops : Array Oper} {oo : Oper} {o : AOper} (h : toOper P N ops oo = some o) : o.dst = oo.dst ∧ (∀ d, oo.dst = some d → d < N) ∧ o.op = toOp P oo.type oo.op ∧
    ((oo.guard = none ∧ o.grd = none) ∨ ∃ j b d oj, oo.guard = some (j, b) ∧ ops[j]? = some oj ∧ oj.dst = some d ∧ o.grd = some (d, b)) := by
  unfold toOper at h
  have hd' : ∀ d, oo.dst = some d → d < N := fun d e => by
    rw [e] at h
    simp only [decide_eq_true_eq] at h
    by_cases hd : d < N
    · exact hd
    · rw [if_neg hd] at h; cases h
  have h2 : (match oo.guard with
    | none => some { dst := oo.dst, op := toOp P oo.type oo.op, grd := none }
    | some (j, b) => match (ops[j]?).bind (·.dst) with
      | some d => some { dst := oo.dst, op := toOp P oo.type oo.op, grd := some (d, b) }
      | none => none) = some o := by
    cases hdst : oo.dst with
    | none => rw [hdst] at h; exact h
    | some d => rw [hdst] at h; simp only [decide_eq_true_eq, if_pos (hd' d hdst)] at h; exact h
  cases hg : oo.guard with
  | none =>
    rw [hg] at h2
    simp only [Option.some.injEq] at h2; subst h2
    exact ⟨rfl, hd', rfl, .inl ⟨rfl, rfl⟩⟩
  | some jb =>
    obtain ⟨j, b⟩ := jb
    rw [hg] at h2
    simp only at h2
    cases hj : (ops[j]?).bind (·.dst) with
    | none => rw [hj] at h2; cases h2
    | some d =>
      rw [hj] at h2
      simp only [Option.some.injEq] at h2; subst h2
      obtain ⟨oj, h1, h3⟩ := Option.bind_eq_some_iff.1 hj
      exact ⟨rfl, hd', rfl, .inr ⟨j, b, d, oj, rfl, h1, h3, rfl⟩⟩

theorem wanted_ok {T : Env} (hT : TR c T tmps) {ops : Array Oper} {oo : Oper} {g : Option (Nat × Bool)} (hg : (oo.guard = none ∧ g = none) ∨ ∃ j b d oj, oo.guard = some (j, b) ∧ ops[j]? = some oj ∧ oj.dst = some d ∧ g = some (d, b))
    {bb : Bool} (h : wanted T g = some bb) : Region.wanted oo (yielded ops tmps) = bb := by
  rcases hg with ⟨h1, rfl⟩ | ⟨j, b, d, oj, h1, h2, h3, rfl⟩
  · simp only [wanted, Option.some.injEq] at h; subst h
    simp [Region.wanted, h1]
  · have hv := hT d
    simp only [wanted] at h
    simp only [Region.wanted, h1, yielded, h2, Option.bind_some, h3]
    cases hx : tget T d with
    | bool t =>
      rw [hx] at hv h
      simp only [wantV, Option.some.injEq] at h; subst h
      have := VR.of_bool hv
      have e : tmps[d]? = some (.bool t) := by
        simp only [Array.getD_eq_getD_getElem?] at this
        cases hh : tmps[d]? with
        | none => rw [hh] at this; simp [undef] at this
        | some x => rw [hh] at this; simpa using this
      rw [e]
      cases t <;> cases b <;> rfl
    | undef =>
      rw [hx] at hv h
      simp only [wantV, Option.some.injEq] at h; subst h
      have hu : tmps.getD d undef = undef := by
        generalize hq : tmps.getD d undef = q at hv
        cases hv; rfl
      cases hh : tmps[d]? with
      | none => rfl
      | some x =>
        have : x = undef := by simpa [Array.getD_eq_getD_getElem?, hh] using hu
        rw [this]; rfl
    | _ => rw [hx] at h; simp [wantV] at h

section
variable {b : Frame} {a : Act} {ops : Array Oper} {i : Nat} {oo : Oper} {u : Value}
theorem step_acts (hi : ops[i]? = some oo) (hw : Region.wanted oo (yielded ops a.tmps) = true) (hnd : ∀ c, oo.op ≠ .defer c) (h : Acts P a oo w u w') (rest : List Nat) (k : List Item) (cs : List Frame) :
    Steps P (lone (b.atR a (.inRegion ops (i :: rest) :: k)) cs w) (lone (b.atR (a.put oo.dst u) (.inRegion ops rest :: k)) cs w') := by
  have hf : (b.atR a (.inRegion ops (i :: rest) :: k)).finish u = b.atR (a.put oo.dst u) (.inRegion ops rest :: k) := by rw [Frame.finish_atR, hi]; rfl
  have hf2 : (b.atR a (.inRegion ops (i :: rest) :: k)).finish undef = b.atR (a.put oo.dst undef) (.inRegion ops rest :: k) := by rw [Frame.finish_atR, hi]; rfl
  have hs : oo.semAt b.roundOf a.eval = execOp a.eval oo := Oper.semAt_eq _ _ _ hnd
  rcases h with h | ⟨h, rfl⟩ | ⟨nx, h, hg⟩
  · exact .one (step_lone_go (by
      rw [stepGR_op hi hw, hs]
      simp [stepG.apply, Sem.runT_eq, h, GStep.bare_after, hf]))
  · exact .one (step_lone_go (by
      rw [stepGR_op hi hw, hs]
      simp [stepG.apply, Sem.runT_eq, h, GStep.bare_after, hf2]))
  · rcases hg with ⟨f, args, rfl, hsteps⟩ | ⟨l, f, tm, asg, body, rfl, hsteps⟩
    · have := hsteps (b.atR a (.inRegion ops (i :: rest) :: k)) cs
      rw [hf] at this
      refine .head (step_lone_go ?_) this
      rw [stepGR_op hi hw, hs]
      simp [stepG.apply, Sem.runT_eq, h, GStep.bare_after, Frame.atR]
    · have := hsteps (b.atR a (.inRegion ops (i :: rest) :: k)) cs
      rw [hf] at this
      refine .head (step_lone_go ?_) this
      rw [stepGR_op hi hw, hs]
      simp [stepG.apply, Sem.runT_eq, h, GStep.bare_after, Frame.atR]
end

theorem SR.put (H : SR P c s tmps Ts w) {v : LV} {u : Value} (hv : VR c v u) {dst : Option Nat} (hd : ∀ d, dst = some d → d < tmps.size) (ds : List Deferred) :
    SR P c (putT dst v s) (Act.put ⟨tmps, ds⟩ dst u).tmps Ts w := by
  cases dst with
  | none => exact H
  | some d => exact ⟨H.T.put (hd d rfl) hv, H.Fl, H.F, H.O, H.dom, H.inj, H.mu, H.lt⟩
theorem put_size (a : Act) (dst : Option Nat) (u : Value) : (a.put dst u).tmps.size = a.tmps.size := by cases dst <;> simp [Act.put]
theorem put_defers (a : Act) (dst : Option Nat) (u : Value) : (a.put dst u).defers = a.defers := by cases dst <;> rfl

/-- from one place of a region to the next -/
def Moves (P : Program) (c : Cx) (a : Act) (Ts : List (Array Value)) (w : World) (s2 : St) (b : Frame) (from_ to_ : List Item) : Prop :=
  ∃ c' a' w', SR P c' s2 a'.tmps Ts w' ∧ Tr c w c' w' ∧ a'.tmps.size = a.tmps.size ∧ a'.defers = a.defers ∧ ∀ k cs, Steps P (lone (b.atR a (from_ ++ k)) cs w) (lone (b.atR a' (to_ ++ k)) cs w')

theorem oper_step {R : Orc} (IH : FnOK P R) (IHr : RndOK P R) {N : Nat} {ops : Array Oper} {b : Frame} {a : Act} {i : Nat} {oo : Oper} {o : AOper} (hi : ops[i]? = some oo) (ho : toOper P N ops oo = some { o with fz := true })
    (H : SR P c s a.tmps Ts w) (hN : N ≤ a.tmps.size) {s2 : St} {bb : Bool} (hw : wanted s.T o.grd = some bb) (h : if bb = true then ∃ v s1, (stepOp R true (o.dst.getD 0) o.op s).bind (closeV o.fz) = some (v, s1) ∧ s2 = putT o.dst v s1 else s2 = putT o.dst .undef s) (rest : List Nat) :
    Moves P c a Ts w s2 b [.inRegion ops (i :: rest)] [.inRegion ops rest] := by
  obtain ⟨hdst, hd, hop, hg⟩ := toOper_inv ho
  simp only at hdst hop hg
  have hww := wanted_ok H.T hg hw
  cases bb with
  | true =>
    simp only [if_true] at h
    obtain ⟨v, s1, h, rfl⟩ := h
    rw [hop] at h
    obtain ⟨c', u, w', H', t', hv, hnd, hact⟩ := op_okF IH IHr H h
    refine ⟨c', a.put oo.dst u, w', ?_, t', put_size .., put_defers .., fun k cs => step_acts hi hww hnd hact rest k cs⟩
    rw [hdst]
    exact H'.put hv (fun d e => Nat.lt_of_lt_of_le (hd d e) hN) a.defers
  | false =>
    simp only [Bool.false_eq_true, if_false] at h
    subst h
    refine ⟨c, a.put oo.dst undef, w, ?_, Tr.refl _ _, put_size .., put_defers .., fun k cs => ?_⟩
    · rw [hdst]
      exact H.put .undef (fun d e => Nat.lt_of_lt_of_le (hd d e) hN) a.defers
    · have := stepR_op_skip (P := P) (b := b) (a := a) (k := k) (cs := cs) (w := w) (ops := ops) (i := i) (rest := rest) (by simp [hi, hww])
      rw [hi] at this
      exact .one this

theorem Moves.refl {a : Act} (H : SR P c s a.tmps Ts w) {b : Frame} {l : List Item} : Moves P c a Ts w s b l l := ⟨c, a, w, H, Tr.refl _ _, rfl, rfl, fun k cs => Steps.refl _ _⟩

/-- the operations of a list of places -/
def Corr (P : Program) (N : Nat) (ops : Array Oper) : List Nat → List AOper → Prop
  | [], [] => True
  | i :: is, o :: l => (∃ oo, ops[i]? = some oo ∧ toOper P N ops oo = some { o with fz := true }) ∧ Corr P N ops is l
  | _, _ => False

theorem ops_ok {R : Orc} (IH : FnOK P R) (IHr : RndOK P R) {N : Nat} {ops : Array Oper} {b : Frame} : ∀ {is : List Nat} {l : List AOper} {c : Cx} {a : Act} {w : World} {s s2 : St}, Corr P N ops is l → SR P c s a.tmps Ts w → N ≤ a.tmps.size → runOps R l s = some s2 →
    Moves P c a Ts w s2 b [.inRegion ops is] [.inRegion ops []]
  | [], [], c, a, w, s, s2, _, H, hN, h => by
    simp only [runOps, Option.some.injEq] at h; subst h
    exact .refl H
  | [], _ :: _, _, _, _, _, _, hc, _, _, _ => hc.elim
  | _ :: _, [], _, _, _, _, _, hc, _, _, _ => hc.elim
  | i :: is, o :: l, c, a, w, s, s2, ⟨⟨oo, hi, ho⟩, hc⟩, H, hN, h => by
    obtain ⟨bb, hbb, h⟩ := Option.bind_eq_some_iff.1 (show (wanted s.T o.grd).bind (grdK R o (runOps R l) s) = some s2 from h)
    have key : ∃ sm, (if bb = true then ∃ v s1, (stepOp R true (o.dst.getD 0) o.op s).bind (closeV o.fz) = some (v, s1) ∧ sm = putT o.dst v s1 else sm = putT o.dst .undef s) ∧ runOps R l sm = some s2 := by
      unfold grdK at h
      cases bb with
      | true =>
        simp only [if_true] at h ⊢
        obtain ⟨⟨v, s1⟩, h1, h2⟩ := Option.bind_eq_some_iff.1 h
        exact ⟨_, ⟨v, s1, h1, rfl⟩, h2⟩
      | false =>
        simp only [Bool.false_eq_true, if_false] at h ⊢
        exact ⟨_, rfl, h⟩
    obtain ⟨sm, h1, h2⟩ := key
    obtain ⟨c1, a1, w1, H1, t1, hs1, hd1, st1⟩ := oper_step IH IHr (b := b) hi ho H hN hbb h1 is
    obtain ⟨c2, a2, w2, H2, t2, hs2, hd2, st2⟩ := ops_ok (b := b) IH IHr hc H1 (by omega) h2
    exact ⟨c2, a2, w2, H2, t1.trans t2, hs2.trans hs1, hd2.trans hd1, fun k cs => (st1 k cs).trans (st2 k cs)⟩

theorem keep_get : ∀ (T : Env) (ks : List Nat) (t : Nat), tget (keep T ks) t = tget T t ∨ tget (keep T ks) t = .any
  | T, [], t => .inr rfl
  | T, k :: l, t => by
    simp only [keep, tget]
    split
    · rename_i e; subst e; exact .inl rfl
    · exact keep_get T l t

/-- a region's end -/
theorem end_ok (H : SR P c s tmps Ts w) (mask : Option (List Nat)) (drop : List Nat) : ∃ c', SR P c' (endReg mask drop s) tmps Ts w ∧ Tr c w c' w := by
  have H1 : SR P c (maskK mask s) tmps Ts w := by
    cases mask with
    | none => exact H
    | some ks => exact ⟨fun t => by
        rcases keep_get s.T ks t with e | e
        · show VR c (tget (keep s.T ks) t) _; rw [e]; exact H.T t
        · show VR c (tget (keep s.T ks) t) _; rw [e]; exact .any _, H.Fl, H.F, H.O, H.dom, H.inj, H.mu, H.lt⟩
  unfold endReg dropK
  cases drop with
  | nil => exact ⟨c, H1, Tr.refl _ _⟩
  | cons d l =>
    obtain ⟨c', H', t', _⟩ := H1.frees (slotIds (maskK mask s).lvl (d :: l) (maskK mask s).O)
    exact ⟨c', H', t'⟩

theorem corr_range {N : Nat} {ops : Array Oper} {l : List AOper} (h : ops.toList.mapM (toOper P N ops) = some (l.map fun o => { o with fz := true })) : Corr P N ops (List.range ops.size) l := by
  have gen : ∀ (xs : List Oper) (l : List AOper) (k : Nat), (∀ (i : Nat) (o : Oper), xs[i]? = some o → ops[k + i]? = some o) → xs.mapM (toOper P N ops) = some (l.map fun o => { o with fz := true }) → Corr P N ops (List.range' k xs.length) l := by
    intro xs
    induction xs with
    | nil =>
      intro l k _ h
      simp at h
      subst h; trivial
    | cons x xs ih =>
      intro l k hx h
      simp only [List.mapM_cons, bind, Option.bind_eq_some_iff, pure, Option.some.injEq] at h
      obtain ⟨y, hy, ys, hys, e⟩ := h
      cases l with
      | nil => simp at e
      | cons o l =>
        simp only [List.map_cons, List.cons.injEq] at e
        obtain ⟨rfl, rfl⟩ := e
        exact ⟨⟨x, hx 0 x rfl, hy⟩, ih l (k + 1) (fun i o ho => by rw [show k + 1 + i = k + (i + 1) by omega]; exact hx (i + 1) o (by simpa using ho)) hys⟩
  rw [List.range_eq_range']
  exact gen ops.toList l 0 (fun i o h => by simpa using h) h
end
end Go.Zv
