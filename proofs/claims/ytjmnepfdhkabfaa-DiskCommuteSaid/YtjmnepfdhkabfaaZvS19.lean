/- The engine, part 24: code. -/
import Derived.Test.YtjmnepfdhkabfaaZvS18
namespace Go.Zv
set_option autoImplicit false
set_option linter.unusedVariables false
set_option linter.unusedSimpArgs false
section
variable {P : Program} {c : Cx} {w w' : World} {s : St} {tmps : Array Value} {Ts : List (Array Value)}

theorem toReg_shape {N : Nat} {ops : Array Oper} {draw : Bool} {x : ACode} (h : toReg P N ops draw = some x) : x = .bad ∨ ∃ q l, x = .reg q l none [] := by
  unfold toReg at h
  split at h
  · cases h
  · split at h
    · dsimp only at h
      split at h
      · simp only [Option.some.injEq] at h; subst h; exact .inr ⟨_, _, rfl⟩
      · simp only [Option.some.injEq] at h; subst h; exact .inl rfl
    · simp only [Option.some.injEq] at h; subst h; exact .inr ⟨_, _, rfl⟩

inductive Shape (P : Program) (N : Nat) : Code → ACode → Prop
  | skip : Shape P N .skip .skip
  | region (id ops draw q l) (h : toReg P N ops draw = some (.reg q l none [])) : Shape P N (.region id ops draw) (.reg q l none [])
  | seq (m1 m2 x y) (h1 : toCode P N m1 = some x) (h2 : toCode P N m2 = some y) : Shape P N (.seq m1 m2) (.seq x y)
  | cond (c c' m1 m2 x y) (h0 : toOpd c = some c') (h1 : toCode P N m1 = some x) (h2 : toCode P N m2 = some y) : Shape P N (.cond c m1 m2) (.cond c' x y)
  | block (id m x) (h : toCode P N m = some x) : Shape P N (.block id m) (.block id x none [])
  | loop (m x) (h : toCode P N m = some x) : Shape P N (.loop m) (.loop x none [])
  | rf (f f' ps m1 m2 x y) (h0 : toOpd f = some f') (hp : ∀ d ∈ ps.toList, d < N) (h1 : toCode P N m1 = some x) (h2 : toCode P N m2 = some y) : Shape P N (.rangeFunc f ps m1 m2) (.rf 0 f' ps.toList x y)
  | exit (id) : Shape P N (.exit id) (.exit id)
  | scope (m x) (h : toCode P N m = some x) : Shape P N (.scope m) (.scope x)
  | ret : Shape P N .ret .ret
  | bad (m) : Shape P N m .bad
theorem shape_of {N : Nat} {mc : Code} {x : ACode} (h : toCode P N mc = some x) : Shape P N mc x := by
  cases mc with
  | skip => simp only [toCode, Option.some.injEq] at h; subst h; exact .skip
  | region id ops draw =>
    simp only [toCode] at h
    rcases toReg_shape h with rfl | ⟨q, l, rfl⟩
    · exact .bad _
    · exact .region _ _ _ _ _ h
  | seq a b =>
    simp only [toCode] at h
    split at h
    · rename_i x y h1 h2
      simp only [Option.some.injEq] at h; subst h; exact .seq _ _ _ _ h1 h2
    · cases h
  | cond c a b =>
    simp only [toCode] at h
    split at h
    · rename_i c' x y h0 h1 h2
      simp only [Option.some.injEq] at h; subst h; exact .cond _ _ _ _ _ _ h0 h1 h2
    · cases h
  | block id b =>
    simp only [toCode] at h
    split at h
    · rename_i x h1
      simp only [Option.some.injEq] at h; subst h; exact .block _ _ _ h1
    · cases h
  | loop b =>
    simp only [toCode] at h
    split at h
    · rename_i x h1
      simp only [Option.some.injEq] at h; subst h; exact .loop _ _ h1
    · cases h
  | rangeFunc f ps a b =>
    simp only [toCode] at h
    split at h
    · rename_i f' x y h0 h1 h2
      split at h
      · rename_i hp
        simp only [Option.some.injEq] at h; subst h
        exact .rf _ _ _ _ _ _ _ h0 (fun d hd => by simpa using List.all_eq_true.1 hp d hd) h1 h2
      · cases h
    · cases h
  | exit id => simp only [toCode, Option.some.injEq] at h; subst h; exact .exit _
  | scope b =>
    simp only [toCode] at h
    split at h
    · rename_i x h1
      simp only [Option.some.injEq] at h; subst h; exact .scope _ _ h1
    · cases h
  | ret => simp only [toCode, Option.some.injEq] at h; subst h; exact .ret
  | label _ => simp only [toCode, Option.some.injEq] at h; subst h; exact .bad _
  | goto _ => simp only [toCode, Option.some.injEq] at h; subst h; exact .bad _
  | refuse _ => simp only [toCode, Option.some.injEq] at h; subst h; exact .bad _

theorem steps_cases {m m' : Machine} (h : Steps P m m') : m = m' ∨ ∃ m1, Go.step P m = .next m1 ∧ Steps P m1 m' := by
  obtain ⟨n, hn⟩ := h
  cases n with
  | zero => left; simp [runN] at hn; exact hn
  | succ n =>
    simp only [runN] at hn
    cases hs : Go.step P m with
    | next m1 => rw [hs] at hn; exact .inr ⟨m1, rfl, n, hn⟩
    | ended o w => rw [hs] at hn; cases hn
theorem lone_fr {fr fr' : Frame} {cs cs' : List Frame} (h : lone fr cs w = lone fr' cs' w') : fr = fr' := by
  simp only [lone, Machine.mk.injEq] at h
  have := h.2.1
  simp at this
  exact this.1

theorem stepR_scope' {b : Frame} {a : Act} {k : List Item} {cs : List Frame} {x : Code} : Go.step P (lone (b.atR a (.code (.scope x) :: k)) cs w) = .next (lone (b.atR a (.code x :: .inScope x :: k)) cs w) :=
  step_lone_go (by simp [stepG, stepG.exec, Frame.atR])
theorem stepR_inScope' {b : Frame} {a : Act} {k : List Item} {cs : List Frame} {x : Code} : Go.step P (lone (b.atR a (.inScope x :: k)) cs w) = .next (lone (b.atR a k) cs w) :=
  step_lone_go (by simp [stepG, stepG.exec, Frame.atR])

theorem relabel {b : Frame} {a : Act} {k td : List Item} {cs : List Frame} {m : Code} {a' : Act} (h : Steps P (lone (b.atR a (.code (.loop m) :: k)) cs w) (lone (b.atR a' td) cs w')) (hne : td ≠ .code (.loop m) :: k) :
    Steps P (lone (b.atR a (.inLoop m :: k)) cs w) (lone (b.atR a' td) cs w') := by
  rcases steps_cases h with e | ⟨m1, h1, h2⟩
  · have := lone_fr e
    simp only [Frame.atR, Frame.mk.injEq] at this
    exact absurd this.2.2.1.symm hne
  · rw [stepR_loop] at h1
    cases h1
    exact .head stepR_inLoop h2

theorem stepR_rangeFunc_goes {b : Frame} {a : Act} {k : List Item} {cs : List Frame} {g : Operand} {ps : Array Tmp} {assign body : Code} {l : Nat} {mark : List Deferred} {w₁ w₂ : World} {d : Deferred} {nx : Next} {u : Value}
    (he : (Instr.enterLoop b.fn a.tmps ps assign body b.roundOf).run P w = .ok (l, mark) w₁)
    (hres : (Deferred.ofValue (a.eval g) #[.func (.yield l) #[] #[]]).run P w₁ = .ok d w₁) (hinv : (invoke d.target d.args).run P w₁ = .ok nx w₁) (hg : Goes P nx w₁ u w₂) :
    Steps P (lone (b.atR a (.code (.rangeFunc g ps assign body) :: k)) cs w) (lone (b.atR { a with defers := mark ++ a.defers } (.endRangeFunc l :: k)) cs w₂) := by
  have hev : (Act.eval ({ tmps := a.tmps, defers := mark ++ a.defers } : Act)) = a.eval := by funext x; cases x <;> rfl
  have hres' : Sem.run P (resolve ({ tmps := a.tmps, defers := mark ++ a.defers } : Act).eval { callee := .value g, args := #[.const (.func (.yield l) #[] #[])], argTypes := #[] } 0) w₁ = .ok d w₁ := by
    rw [hev]
    simpa [resolve, Act.eval] using hres
  have hev2 := Frame.eval_atR b { a with defers := mark ++ a.defers } (.inRangeFunc l :: k)
  simp only [Frame.atR] at hev2
  rcases hg with ⟨f, args, rfl, hs⟩ | ⟨l', f, tm, asg, bd, rfl, hs⟩
  · have := hs (b.atR { a with defers := mark ++ a.defers } (.inRangeFunc l :: k)) cs
    rw [finish_atR_inRangeFunc] at this
    refine .head (step_lone_go ?_) this
    simp [stepG, stepG.exec, Frame.atR, Sem.runT_eq, he, GStep.bare_after, stepG.apply, hev2, Sem.run_bind, hres', hinv, Result.andThen]
  · have := hs (b.atR { a with defers := mark ++ a.defers } (.inRangeFunc l :: k)) cs
    rw [finish_atR_inRangeFunc] at this
    refine .head (step_lone_go ?_) this
    simp [stepG, stepG.exec, Frame.atR, Sem.runT_eq, he, GStep.bare_after, stepG.apply, hev2, Sem.run_bind, hres', hinv, Result.andThen]

theorem run_enterLoop_inner {fn : FuncId} {tmps : Array Value} {ps : Array Tmp} {assign body : Code} {l0 : Nat} {r : Loop} (h : w.heap[l0]? = some (Go.Obj.loop r)) :
    (Instr.enterLoop fn tmps ps assign body (some l0)).run P w = .ok (w.heap.size, []) (w.alloc (.loop { state := .ready, pending := none, fn, tmps, params := ps, assign, body, defers := r.defers })) := by
  unfold Instr.enterLoop
  simp [Sem.run_bind, run_getLoop h, run_newObj_alloc, Result.andThen, Sem.run_pure]

/-- the statement 'for .. := range f' -/
theorem rf_ok {R : Orc} (IHf : FnOK P R) (IHr : RndOK P R) {id id2 : Nat} {f : Opd} {ps : List Nat} {asg body : ACode} {e : AEx} {s' : St} (h : rfK R id id2 f (begRf id ps asg body s) = some (.ex e s'))
    {N : Nat} {g : Operand} {psA : Array Tmp} {m1 m2 : Code} (hf : toOpd g = some f) (hps : psA.toList = ps) (hp : ∀ d ∈ ps, d < N) (h1 : toCode P N m1 = some (strip asg)) (h2 : toCode P N m2 = some (strip body))
    {lo : Nat} {a : Act} {b : Frame} (H : SR P c s a.tmps Ts w) (hN : N ≤ a.tmps.size) (hm : Marks lo c w a.defers) (hr : InRound b w) (hlo : lo ≤ w.heap.size) :
    ∃ c' a' w', SR P c' s' a'.tmps Ts w' ∧ Tr c w c' w' ∧ a'.tmps.size = a.tmps.size ∧ Marks lo c' w' a'.defers ∧ Lands P b a w (.rangeFunc g psA m1 m2) e a' w' := by
  obtain ⟨c0, H0, t0, hn0, hio0, _⟩ := H.free id
  -- the record is laid
  have enter : ∃ (l : Nat) (mark : List Deferred) (w1 : World) (df : Nat), (Instr.enterLoop b.fn a.tmps psA m1 m2 b.roundOf).run P w = .ok (l, mark) w1 ∧ Grew w w1 ∧ w.heap.size ≤ l ∧ l < w1.heap.size ∧
      w1.heap[l]? = some (Go.Obj.loop { state := .ready, pending := none, fn := b.fn, tmps := a.tmps, params := psA, assign := m1, body := m2, defers := df }) ∧
      ∀ c1 : Cx, Marks lo c1 w1 a.defers → (∀ j hh, c1.io j = some hh → hh.nul = false → hh.blk < w.heap.size ∨ hh.blk = l) → Marks lo c1 w1 (mark ++ a.defers) := by
    cases hro : b.roundOf with
    | none =>
      refine ⟨_, _, _, w.heap.size, run_enterLoop_outer .., ?_, Nat.le_succ _, by simp only [World.size_alloc]; omega, ?_, fun c1 hm1 hio => ⟨⟨w.heap.size, rfl, hlo, ?_, fun j hh hj hn e => ?_, fun d' hd' r' hr' e => ?_⟩, hm1⟩⟩
      · exact (Grew.push w _ rfl).trans (Grew.push (w.alloc (.deferred (some []))) _ rfl)
      · have := World.alloc_heap_new (w.alloc (.deferred (some []))) (Go.Obj.loop { state := .ready, pending := none, fn := b.fn, tmps := a.tmps, params := psA, assign := m1, body := m2, defers := w.heap.size })
        rwa [World.size_alloc] at this
      · show ((w.heap.push _).push _)[w.heap.size]? = _
        rw [Array.getElem?_push_lt (by simp)]
        simp
      · rcases hio j hh hj hn with h3 | h3 <;> omega
      · subst e
        have hold : ∀ {ds : List Deferred}, Marks lo c w ds → d' ∈ ds → d'.target = .collected w.heap.size → False := by
          intro ds
          induction ds with
          | nil => intro _ h; cases h
          | cons x ds ih =>
            rintro ⟨⟨r, g1, g2, g3, g4, g5⟩, g6⟩ hmem ht
            cases hmem with
            | head =>
              rw [g1] at ht; cases ht
              have := (Array.getElem?_eq_some_iff.1 g3).1
              omega
            | tail _ hmem => exact ih g6 hmem ht
        exact hold hm hd' hr'
    | some l0 =>
      obtain ⟨r, hr0⟩ := hr l0 hro
      exact ⟨_, _, _, r.defers, run_enterLoop_inner hr0, Grew.push w _ rfl, Nat.le_refl _, by simp only [World.size_alloc]; omega, World.alloc_heap_new _ _, fun c1 hm1 _ => hm1⟩
  obtain ⟨l, mark, w1, df, hent, hgrew, hle, hlt, hwl, hmarks⟩ := enter
  obtain ⟨c1, H1, t1, hi1, hio1, hmu1⟩ := H0.push (free_gone s id) (o := .loop (St.free id s).T ps asg body .ready .nrm) (h := ⟨l, 0, 0, 0, false, none⟩) hgrew (fun _ => ⟨hle, hlt⟩) (fun c' hmu hio hmn =>
    OR.loop _ ps asg body .ready .nrm _ N rfl hwl (H0.T.mono hmu hio) hN hps hp h1 h2 rfl (fun _ => rfl) (hmn rfl))
  have H1 : SR P c1 (begRf id ps asg body s) a.tmps Ts w1 := H1
  have hm1 : Marks lo c1 w1 (mark ++ a.defers) := hmarks c1 (hm.tr (t0.trans t1)) fun j hh hj hn => by
    by_cases e : j = id
    · subst e; rw [hi1] at hj; cases hj; exact .inr rfl
    · obtain ⟨o, ho⟩ := H1.dom j hh hj
      have ho' : oget (St.free id s).O j = some o := by
        simp only [begRf, begRf2, St.push, oget, if_neg (Ne.symm e)] at ho; exact ho
      obtain ⟨h0, hi0, _⟩ := H0.O j o ho'
      have := hio1 j h0 hi0
      rw [hj] at this; cases this
      exact .inl (H0.lt j hh hi0 hn)
  -- the call
  unfold rfK at h
  obtain ⟨⟨v, s2⟩, hcall, h⟩ := Option.bind_eq_some_iff.1 h
  have hargs : VRs c1 [LV.yl id] [yieldV l] := VRs.cons (.yl id ⟨l, 0, 0, 0, false, none⟩ hi1) (VRs.nil _)
  obtain ⟨c2, u, w2, H2, t2, _, d, nx, hd, hinv, hgo⟩ := callV_ok IHf IHr (H1.wit hi1) (opd_ok (a := a) H1.T hf) hargs hcall
  obtain ⟨s3, hw3, h⟩ := Option.bind_eq_some_iff.1 (show (unwit id s2).bind (endRf id) = some _ from h)
  obtain ⟨H3, ⟨h3, hi3, hb3⟩, hO3⟩ := unwit_ok H2 hw3
  have hb3 : h3.blk = l := hb3
  simp only [endRf] at h
  unfold endRfK at h
  split at h
  · rename_i T' ps' asg' b' st p hob
    split at h
    · cases h
    · rename_i hnb
      simp only [Option.some.injEq, Out.ex.injEq] at h
      obtain ⟨rfl, rfl⟩ := h
      obtain ⟨h3x, hi3x, hor⟩ := H3.O id _ hob
      rw [hi3] at hi3x; cases hi3x
      cases hor with
      | loop _ _ _ _ _ _ L N3 hn3 hwL hTL hN3 hp3 hps3 hasg3 hbody3 hst3 hpe3 hmm3 =>
        rw [hb3] at hwL
        obtain ⟨c4, H4, t4, hn4, hio4, hmu4⟩ := H3.free id
        have hun : ∀ j hh, c4.io j = some hh → hh.nul = false → hh.blk ≠ l := fun j hh hj hn => by
          by_cases e : j = id
          · subst e; rw [hn4] at hj; cases hj
          · rw [hio4 j e] at hj
            rw [← hb3]
            exact H3.inj j id hh h3 e hj hi3 hn hn3
        have H5 := H4.poke (ob := .loop { L with state := .exhausted }) hun (loop_mu H4 hwL)
        have t5 := (((t0.trans t1).trans t2).trans t4).poke (b := l) (ob := .loop { L with state := .exhausted }) (.inl hle) (fun _ _ _ e => by rw [hwL] at e; cases e) (fun _ _ _ e => by cases e) (.inl ⟨_, rfl⟩)
        have hm5 : Marks lo c4 (w2.putObj l (.loop { L with state := .exhausted })) (mark ++ a.defers) := Marks.poke (by rw [hwL]; exact fun e => by cases e) ((hm1.tr t2).tr t4)
        have hbusy : L.state ≠ .busy := by
          rw [hst3]
          cases st with
          | ready => exact fun e => by cases e
          | done => exact fun e => by cases e
          | busy => exact absurd rfl hnb
        have hend := run_endLoop (P := P) hwL hbusy
        refine ⟨c4, { a with defers := mark ++ a.defers }, _, H5, t5, rfl, hm5, fun k cs => ?_⟩
        have hst := (stepR_rangeFunc_goes (k := k) (cs := cs) hent hd hinv hgo).trans (.one (stepR_endRangeFunc hend))
        have hpe := hpe3 hnb
        cases p with
        | nrm =>
          rw [show (L.pending.map Item.code).toList ++ k = k by rw [show L.pending = none from hpe]; rfl] at hst
          exact hst
        | exit i =>
          rw [show (L.pending.map Item.code).toList ++ k = .code (.exit i) :: k by rw [show L.pending = some (.exit i) from hpe]; rfl] at hst
          exact ⟨k, rfl, hst⟩
        | ret =>
          rw [show (L.pending.map Item.code).toList ++ k = .code .ret :: k by rw [show L.pending = some .ret from hpe]; rfl] at hst
          exact ⟨k, hst⟩
  · cases h

/-- what is asked of the regions that draw their order -/
def DrawOK (P : Program) (R : Orc) : Prop := ∀ (q : List Chk) (l : List AOper) (s s2 : St), runD R (q.zip l) (dropK (dsts l) s) = some s2 →
  ∀ (N id : Nat) (ops : Array Oper) (draw : Bool), toReg P N ops draw = some (.reg (some q) (l.map fun o => { o with fz := true }) none []) →
  ∀ (c : Cx) (a : Act) (Ts : List (Array Value)) (w : World) (b : Frame), SR P c s a.tmps Ts w → N ≤ a.tmps.size →
  ∃ c' a' w', SR P c' s2 a'.tmps Ts w' ∧ Tr c w c' w' ∧ a'.tmps.size = a.tmps.size ∧ a'.defers = a.defers ∧ ∀ k cs, Steps P (lone (b.atR a (.code (.region id ops draw) :: k)) cs w) (lone (b.atR a' k) cs w')

theorem code_ok {R : Orc} (IH : CodeOK P R) (IHf : FnOK P R) (IHr : RndOK P R) (hD : DrawOK P R) {E : FuncId → Option AFn} {cd : ACode} {e : AEx} {s' : St} (h : step E R (.code cd s) = some (.ex e s')) : Code1 P cd s e s' := by
  intro N mc hmc lo c a Ts w b H hN hm hr hlo
  have hsh := shape_of hmc
  cases cd with
  | skip =>
    simp only [step, Option.some.injEq, Out.ex.injEq] at h
    obtain ⟨rfl, rfl⟩ := h
    simp only [strip] at hsh
    cases hsh
    exact ⟨c, a, w, H, Tr.refl _ _, rfl, hm, fun k cs => .one stepR_skip⟩
  | reg q ops mask drop =>
    simp only [strip] at hsh
    obtain ⟨s2, hq, h⟩ := Option.bind_eq_some_iff.1 (show (runQ R ops s q).bind (regR mask drop) = some _ from h)
    simp only [regR, Option.some.injEq, Out.ex.injEq] at h
    obtain ⟨rfl, rfl⟩ := h
    cases hsh with
    | region id mops draw q l hreg =>
      have key : ∃ c' a' w', SR P c' s2 a'.tmps Ts w' ∧ Tr c w c' w' ∧ a'.tmps.size = a.tmps.size ∧ a'.defers = a.defers ∧ ∀ k cs, Steps P (lone (b.atR a (.code (.region id mops draw) :: k)) cs w) (lone (b.atR a' k) cs w') := by
        cases q with
        | some q => exact hD q ops s s2 hq N id mops draw hreg c a Ts w b H hN
        | none =>
          unfold toReg at hreg
          split at hreg
          · cases hreg
          · rename_i l hl
            split at hreg
            · dsimp only at hreg
              split at hreg
              · simp only [Option.some.injEq, ACode.reg.injEq] at hreg
                cases hreg.1
              · cases hreg
            · rename_i hdr
              simp only [Option.some.injEq, ACode.reg.injEq, true_and, and_true] at hreg
              rw [hreg] at hl
              have hdr' : draw = false := by simpa using hdr
              subst hdr'
              obtain ⟨c', a', w', H', t', hs', hd', st⟩ := ops_ok (b := b) IHf IHr (corr_range hl) H hN hq
              exact ⟨c', a', w', H', t', hs', hd', fun k cs => (Steps.one stepR_region).trans ((st k cs).trans (.one stepR_region_end))⟩
      obtain ⟨c1, a1, w1, H1, t1, hs1, hd1, st⟩ := key
      obtain ⟨c2, H2, t2⟩ := end_ok H1 mask drop
      exact ⟨c2, a1, w1, H2, t1.trans t2, hs1, by rw [hd1]; exact hm.tr (t1.trans t2), st⟩
  | seq x y =>
    simp only [strip] at hsh
    cases hsh with
    | seq m1 m2 _ _ h1 h2 =>
      obtain ⟨o, ho, h⟩ := Option.bind_eq_some_iff.1 (show (R (.code x s)).bind (seqR R y) = some _ from h)
      cases o with
      | res _ _ _ => cases h
      | ex e1 s1 =>
        obtain ⟨c1, a1, w1, H1, t1, hs1, hm1, land1⟩ := IH _ _ _ _ ho N m1 h1 lo c a Ts w b H hN hm hr hlo
        cases e1 with
        | nrm =>
          obtain ⟨c2, a2, w2, H2, t2, hs2, hm2, land2⟩ := IH _ _ _ _ h N m2 h2 lo c1 a1 Ts w1 b H1 (by omega) hm1 (hr.tr t1) (Nat.le_trans hlo t1.size)
          refine ⟨c2, a2, w2, H2, t1.trans t2, hs2.trans hs1, hm2, fun k cs => ?_⟩
          have hst := (Steps.one (stepR_seq (P := P) (b := b) (a := a) (k := k) (cs := cs) (w := w) (x := m1) (y := m2))).trans (land1 (.code m2 :: k) cs)
          have l2 := land2 k cs
          cases e with
          | nrm => exact hst.trans l2
          | exit i => obtain ⟨k1, hk, hs⟩ := l2; exact ⟨k1, hk, hst.trans hs⟩
          | ret => obtain ⟨k1, hs⟩ := l2; exact ⟨k1, hst.trans hs⟩
        | exit i =>
          simp only [seqR, Option.some.injEq, Out.ex.injEq] at h
          obtain ⟨rfl, rfl⟩ := h
          refine ⟨c1, a1, w1, H1, t1, hs1, hm1, fun k cs => ?_⟩
          obtain ⟨k1, hk, hs⟩ := land1 (.code m2 :: k) cs
          exact ⟨k1, by rw [hk]; rfl, (Steps.one stepR_seq).trans hs⟩
        | ret =>
          simp only [seqR, Option.some.injEq, Out.ex.injEq] at h
          obtain ⟨rfl, rfl⟩ := h
          refine ⟨c1, a1, w1, H1, t1, hs1, hm1, fun k cs => ?_⟩
          obtain ⟨k1, hs⟩ := land1 (.code m2 :: k) cs
          exact ⟨k1, (Steps.one stepR_seq).trans hs⟩
  | cond x y z =>
    simp only [strip] at hsh
    cases hsh with
    | cond c0 _ m1 m2 _ _ h0 h1 h2 =>
      have h : condR (R (.code y s)) (R (.code z s)) (x.ev s.T) = some (.ex e s') := h
      have hv := opd_ok H.T h0
      cases hx : x.ev s.T with
      | bool t =>
        rw [hx] at h hv
        have hev := VR.of_bool hv
        simp only [condR] at h
        cases t with
        | true =>
          obtain ⟨c1, a1, w1, H1, t1, hs1, hm1, land1⟩ := IH _ _ _ _ h N m1 h1 lo c a Ts w b H hN hm hr hlo
          refine ⟨c1, a1, w1, H1, t1, hs1, hm1, fun k cs => ?_⟩
          have hst : Steps P (lone (b.atR a (.code (.cond c0 m1 m2) :: k)) cs w) (lone (b.atR a (.code m1 :: k)) cs w) := .one (stepR_cond (t := true) hev)
          have l2 := land1 k cs
          cases e with
          | nrm => exact hst.trans l2
          | exit i => obtain ⟨k1, hk, hs⟩ := l2; exact ⟨k1, hk, hst.trans hs⟩
          | ret => obtain ⟨k1, hs⟩ := l2; exact ⟨k1, hst.trans hs⟩
        | false =>
          obtain ⟨c1, a1, w1, H1, t1, hs1, hm1, land1⟩ := IH _ _ _ _ h N m2 h2 lo c a Ts w b H hN hm hr hlo
          refine ⟨c1, a1, w1, H1, t1, hs1, hm1, fun k cs => ?_⟩
          have hst : Steps P (lone (b.atR a (.code (.cond c0 m1 m2) :: k)) cs w) (lone (b.atR a (.code m2 :: k)) cs w) := .one (stepR_cond (t := false) hev)
          have l2 := land1 k cs
          cases e with
          | nrm => exact hst.trans l2
          | exit i => obtain ⟨k1, hk, hs⟩ := l2; exact ⟨k1, hk, hst.trans hs⟩
          | ret => obtain ⟨k1, hs⟩ := l2; exact ⟨k1, hst.trans hs⟩
      | _ => rw [hx] at h; cases h
  | block id x mask drop =>
    simp only [strip] at hsh
    cases hsh with
    | block _ m _ h1 =>
      obtain ⟨o, ho, h⟩ := Option.bind_eq_some_iff.1 (show (R (.code x s)).bind (blockR id mask drop) = some _ from h)
      cases o with
      | res _ _ _ => cases h
      | ex e1 s1 =>
        obtain ⟨c1, a1, w1, H1, t1, hs1, hm1, land1⟩ := IH _ _ _ _ ho N m h1 lo c a Ts w b H hN hm hr hlo
        have first_ : ∀ k cs, Steps P (lone (b.atR a (.code (.block id m) :: k)) cs w) (lone (b.atR a (.code m :: .inBlock id :: k)) cs w) := fun k cs => .one stepR_block
        cases e1 with
        | nrm =>
          simp only [blockR, Option.some.injEq, Out.ex.injEq] at h
          obtain ⟨rfl, rfl⟩ := h
          obtain ⟨c2, H2, t2⟩ := end_ok H1 mask drop
          exact ⟨c2, a1, w1, H2, t1.trans t2, hs1, hm1.tr t2, fun k cs => (first_ k cs).trans ((land1 (.inBlock id :: k) cs).trans (.one stepR_inBlock))⟩
        | exit i =>
          replace h : (if i = id then some (Out.ex .nrm (endReg mask drop s1)) else some (.ex (.exit i) s1)) = some (.ex e s') := h
          by_cases hid : i = id
          · rw [if_pos hid] at h
            injection h with h
            injection h with h5 h6
            subst h5 h6 hid
            obtain ⟨c2, H2, t2⟩ := end_ok H1 mask drop
            refine ⟨c2, a1, w1, H2, t1.trans t2, hs1, hm1.tr t2, fun k cs => ?_⟩
            obtain ⟨k1, hk, hs⟩ := land1 (.inBlock i :: k) cs
            exact (first_ k cs).trans (hs.trans (.one (stepR_exit (by rw [hk]; simp [exitTo]))))
          · rw [if_neg hid] at h
            simp only [Option.some.injEq, Out.ex.injEq] at h
            obtain ⟨rfl, rfl⟩ := h
            refine ⟨c1, a1, w1, H1, t1, hs1, hm1, fun k cs => ?_⟩
            obtain ⟨k1, hk, hs⟩ := land1 (.inBlock id :: k) cs
            exact ⟨k1, by rw [hk]; simp [exitTo, Ne.symm hid], (first_ k cs).trans hs⟩
        | ret =>
          simp only [blockR, Option.some.injEq, Out.ex.injEq] at h
          obtain ⟨rfl, rfl⟩ := h
          refine ⟨c1, a1, w1, H1, t1, hs1, hm1, fun k cs => ?_⟩
          obtain ⟨k1, hs⟩ := land1 (.inBlock id :: k) cs
          exact ⟨k1, (first_ k cs).trans hs⟩
  | loop x mask drop =>
    simp only [strip] at hsh
    cases hsh with
    | loop m _ h1 =>
      obtain ⟨o, ho, h⟩ := Option.bind_eq_some_iff.1 (show (R (.code x s)).bind (loopR R x mask drop) = some _ from h)
      cases o with
      | res _ _ _ => cases h
      | ex e1 s1 =>
        obtain ⟨c1, a1, w1, H1, t1, hs1, hm1, land1⟩ := IH _ _ _ _ ho N m h1 lo c a Ts w b H hN hm hr hlo
        have first_ : ∀ k cs, Steps P (lone (b.atR a (.code (.loop m) :: k)) cs w) (lone (b.atR a (.code m :: .inLoop m :: k)) cs w) := fun k cs => .one stepR_loop
        cases e1 with
        | nrm =>
          simp only [loopR] at h
          obtain ⟨c2, H2, t2⟩ := end_ok H1 mask drop
          obtain ⟨c3, a3, w3, H3, t3, hs3, hm3, land3⟩ := IH _ _ _ _ h N (.loop m) hmc lo c2 a1 Ts w1 b H2 (by omega) (hm1.tr t2) (hr.tr (t1.trans t2)) (Nat.le_trans hlo t1.size)
          refine ⟨c3, a3, w3, H3, (t1.trans t2).trans t3, hs3.trans hs1, hm3, fun k cs => ?_⟩
          have hst := (first_ k cs).trans (land1 (.inLoop m :: k) cs)
          have l2 := land3 k cs
          cases e with
          | nrm => exact hst.trans (relabel l2 (fun e => by have := congrArg List.length e; simp at this))
          | exit i => obtain ⟨k1, hk, hs⟩ := l2; exact ⟨k1, hk, hst.trans (relabel hs (fun e => by simp at e))⟩
          | ret => obtain ⟨k1, hs⟩ := l2; exact ⟨k1, hst.trans (relabel hs (fun e => by simp at e))⟩
        | exit i =>
          simp only [loopR, Option.some.injEq, Out.ex.injEq] at h
          obtain ⟨rfl, rfl⟩ := h
          refine ⟨c1, a1, w1, H1, t1, hs1, hm1, fun k cs => ?_⟩
          obtain ⟨k1, hk, hs⟩ := land1 (.inLoop m :: k) cs
          exact ⟨k1, by rw [hk]; rfl, (first_ k cs).trans hs⟩
        | ret =>
          simp only [loopR, Option.some.injEq, Out.ex.injEq] at h
          obtain ⟨rfl, rfl⟩ := h
          refine ⟨c1, a1, w1, H1, t1, hs1, hm1, fun k cs => ?_⟩
          obtain ⟨k1, hs⟩ := land1 (.inLoop m :: k) cs
          exact ⟨k1, (first_ k cs).trans hs⟩
  | rf rid f ps x y =>
    simp only [strip] at hsh
    cases hps : ps with
    | _ =>
      generalize hst : ACode.rf 0 f ps (strip x) (strip y) = z at hsh
      cases hsh with
      | rf g f' psA m1 m2 _ _ h0 hp h1 h2 =>
        simp only [ACode.rf.injEq, true_and] at hst
        obtain ⟨rfl, rfl, rfl, rfl⟩ := hst
        exact rf_ok IHf IHr h h0 rfl hp h1 h2 H hN hm hr hlo
      | _ => cases hst
  | exit id =>
    simp only [step, Option.some.injEq, Out.ex.injEq] at h
    obtain ⟨rfl, rfl⟩ := h
    simp only [strip] at hsh
    cases hsh
    exact ⟨c, a, w, H, Tr.refl _ _, rfl, hm, fun k cs => ⟨k, rfl, Steps.refl _ _⟩⟩
  | scope x =>
    simp only [strip] at hsh
    cases hsh with
    | scope m _ h1 =>
      have h : R (.code x s) = some (.ex e s') := h
      obtain ⟨c1, a1, w1, H1, t1, hs1, hm1, land1⟩ := IH _ _ _ _ h N m h1 lo c a Ts w b H hN hm hr hlo
      refine ⟨c1, a1, w1, H1, t1, hs1, hm1, fun k cs => ?_⟩
      have l2 := land1 (.inScope m :: k) cs
      cases e with
      | nrm => exact (Steps.one stepR_scope').trans (l2.trans (.one stepR_inScope'))
      | exit i => obtain ⟨k1, hk, hs⟩ := l2; exact ⟨k1, by rw [hk]; rfl, (Steps.one stepR_scope').trans hs⟩
      | ret => obtain ⟨k1, hs⟩ := l2; exact ⟨k1, (Steps.one stepR_scope').trans hs⟩
  | ret =>
    simp only [step, Option.some.injEq, Out.ex.injEq] at h
    obtain ⟨rfl, rfl⟩ := h
    simp only [strip] at hsh
    cases hsh
    exact ⟨c, a, w, H, Tr.refl _ _, rfl, hm, fun k cs => ⟨k, Steps.refl _ _⟩⟩
  | bad => cases h

/-- all of it -/
theorem all_ok {E : FuncId → Option AFn} (hE : EOK P E) (hD : ∀ R, FnOK P R → RndOK P R → DrawOK P R) : ∀ n, CodeOK P (run E n) ∧ FnOK P (run E n) ∧ RndOK P (run E n)
  | 0 => ⟨fun _ _ _ _ h => (by cases h), fun _ _ _ _ _ _ _ _ h => (by cases h), fun _ _ _ _ _ _ _ _ h => (by cases h)⟩
  | n + 1 => by
    obtain ⟨h1, h2, h3⟩ := all_ok hE hD n
    exact ⟨fun cd s e s' h => code_ok h1 h2 h3 (hD _ h2 h3) h, fun f args lvl F O v F' O' h c vals Ts w H ha => fn_ok h1 hE h H ha, fun id args lvl F O v F' O' h c vals Ts w H ha hh hi => rnd_ok h1 h H ha hi⟩
theorem Run_ok {E : FuncId → Option AFn} (hE : EOK P E) (hD : ∀ R, FnOK P R → RndOK P R → DrawOK P R) : FnOK P (Run E) := fun f args lvl F O v F' O' h => by
  obtain ⟨n, hn⟩ := Run_iff.1 h
  exact (all_ok hE hD n).2.1 f args lvl F O v F' O' hn
end
end Go.Zv
