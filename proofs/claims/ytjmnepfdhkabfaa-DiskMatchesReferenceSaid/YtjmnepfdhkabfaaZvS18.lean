/- The engine, part 23: functions; code; all of it. -/
import Derived.Test.YtjmnepfdhkabfaaZvS17
namespace Go.Zv
set_option autoImplicit false
set_option linter.unusedVariables false
set_option linter.unusedSimpArgs false
section
variable {P : Program} {c : Cx} {w w' : World} {s : St} {tmps : Array Value} {Ts : List (Array Value)}

/-! a function's results -/
theorem rd_loadVar {t : TypeId} {ag : Bool} {n : Nat} {x v : LV} {u : Value} (ha : isAggT P t = some ag) (hn : tsize P t = some n) (hO : HR P c w s.O) (hM : MR c w) (hx : VR c x u) (h : rd s.O ag n x = some v) :
    Says P c w (do loadVar t (← asAddr u)) v := by
  obtain ⟨q, h1, h2⟩ := rd_says ha hn hO hM hx h
  have : ∃ q, u = .pointer (some q) := by
    unfold rd at h
    split at h
    · cases hx; exact ⟨_, rfl⟩
    · cases hx; exact ⟨_, rfl⟩
    · cases hx; exact ⟨_, rfl⟩
    · cases h
  obtain ⟨q', rfl⟩ := this
  exact ⟨q, h1, h2⟩

def resSem (tmps : Array Value) : ResultVar → Sem Value
  | .tmp t => pure (tmps.getD t undef)
  | .cell a t => do loadVar t (← asAddr (tmps.getD a undef))
theorem results_eq (fn : Func) (tmps : Array Value) : results fn tmps = (do let vs ← fn.results.mapM (resSem tmps); pure (if h : vs.size = 1 then vs[0] else .tuple vs)) := by
  unfold results
  congr 1
theorem res1_ok (H : SR P c s tmps Ts w) {r : ResultVar} {x : ARes} {v : LV} (hr : toRes P r = some x) (h : res1 s x = some v) :
    Says P c w (resSem tmps r) v := by
  cases r with
  | tmp t =>
    simp only [toRes, Option.some.injEq] at hr; subst hr
    simp only [res1, Option.some.injEq] at h; subst h
    exact ⟨_, rfl, H.T t⟩
  | cell a t =>
    simp only [toRes, bind, Option.bind_eq_some_iff, Option.some.injEq] at hr
    obtain ⟨ag, hag, n, hn, rfl⟩ := hr
    exact rd_loadVar hag hn H.O H.mu (H.T a) h

theorem results_ok (H : SR P c s tmps Ts w) {fn : Func} {rs : List ARes} {vs : List LV} (hr : fn.results.toList.mapM (toRes P) = some rs) (h : resultsL s rs = some vs) :
    ∃ u, (results fn tmps).run P w = .ok u w ∧ VR c (tuple1 vs) u := by
  have gen : ∀ (l : List ResultVar) (rs : List ARes) (vs : List LV), l.mapM (toRes P) = some rs → resultsL s rs = some vs →
      ∃ us : List Value, (l.mapM (resSem tmps)).run P w = .ok us w ∧ VRs c vs us := by
    intro l
    induction l with
    | nil =>
      intro rs vs h1 h2
      simp at h1; subst h1
      simp only [resultsL, Option.some.injEq] at h2; subst h2
      exact ⟨[], by simp, VRs.nil c⟩
    | cons r l ih =>
      intro rs vs h1 h2
      simp only [List.mapM_cons, bind, Option.bind_eq_some_iff, pure, Option.some.injEq] at h1
      obtain ⟨x, hx, xs, hxs, rfl⟩ := h1
      obtain ⟨v, hv, h3⟩ := Option.bind_eq_some_iff.1 (show (res1 s x).bind (resultsK (resultsL s xs)) = some vs from h2)
      obtain ⟨vs', hvs, h4⟩ := Option.bind_eq_some_iff.1 (show (resultsL s xs).bind (consV v) = some vs from h3)
      simp only [consV, Option.some.injEq] at h4; subst h4
      obtain ⟨u, hu, hvu⟩ := res1_ok H hx hv
      obtain ⟨us, hus, hvus⟩ := ih xs vs' hxs hvs
      refine ⟨u :: us, ?_, VRs.cons hvu hvus⟩
      rw [List.mapM_cons, Sem.run_bind, hu]
      simp only [Result.andThen_ok, Sem.run_bind, hus, Sem.run_pure]
  obtain ⟨us, hus, hv⟩ := gen _ _ _ hr h
  have hrun : (fn.results.mapM (resSem tmps)).run P w = .ok us.toArray w := by
    rw [Array.mapM_eq_mapM_toList, Sem.run_map, hus]; rfl
  have hres : (results fn tmps).run P w = .ok (if h : us.toArray.size = 1 then us.toArray[0] else .tuple us.toArray) w := by
    rw [results_eq, Sem.run_bind, hrun]; rfl
  refine ⟨_, hres, ?_⟩
  cases vs with
  | nil =>
    cases us with
    | nil => exact .tup [] [] rfl (by simp)
    | cons u us => have := hv.len; simp at this
  | cons v vs =>
    cases us with
    | nil => have := hv.len; simp at this
    | cons u us =>
      cases vs with
      | nil =>
        cases us with
        | nil => exact hv.head
        | cons _ _ => have := hv.len; simp at this
      | cons v2 vs =>
        cases us with
        | nil => have := hv.len; simp at this
        | cons u2 us =>
          have : ¬ (u :: u2 :: us).toArray.size = 1 := by simp
          rw [dif_neg this]
          exact .tup _ _ hv.len hv.at_

/-! the marks go -/
theorem marks_go {c0 : Cx} {w0 : World} : ∀ {ds : List Deferred} {w : World} {c : Cx} {s : St}, SR P c s tmps Ts w → Tr c0 w0 c w → Marks w0.heap.size c w ds →
    ∃ w', SR P c s tmps Ts w' ∧ Tr c0 w0 c w' ∧ ∀ (fr : Frame) cs, fr.mode = .returning → fr.defers = ds → Steps P (lone fr cs w) (lone { fr with defers := [] } cs w')
  | [], w, c, s, H, t, _ => ⟨w, H, t, fun fr cs hm hd => by rw [show { fr with defers := [] } = fr by rw [← hd]]; exact Steps.refl _ _⟩
  | d :: ds, w, c, s, H, t, ⟨⟨r, h1, h2, h3, h4, h5⟩, h6⟩ => by
    have hmu : ∀ x, c.mu r x = none := fun x => by
      cases hv : c.mu r x with
      | none => rfl
      | some v => have := H.mu r x v hv; simp [World.cell?, h3] at this
    have H1 := H.poke (ob := .deferred none) h4 hmu
    have t1 := t.poke (ob := .deferred none) (.inl h2) (fun _ _ _ e => by rw [h3] at e; cases e) (fun _ _ _ e => by cases e) (.inr fun _ e => by rw [h3] at e; cases e)
    have hm1 : Marks w0.heap.size c (w.putObj r (.deferred none)) ds := by
      have gen : ∀ {ds : List Deferred}, (∀ d' ∈ ds, ∀ r', d'.target = .collected r' → r' ≠ r) → Marks w0.heap.size c w ds → Marks w0.heap.size c (w.putObj r (.deferred none)) ds := by
        intro ds
        induction ds with
        | nil => exact fun _ _ => trivial
        | cons d ds ih =>
          rintro h ⟨⟨r', g1, g2, g3, g4, g5⟩, g6⟩
          exact ⟨⟨r', g1, g2, by rw [World.putObj_heap_other (h d (by simp) r' g1)]; exact g3, g4, g5⟩, ih (fun d' hd' => h d' (by simp [hd'])) g6⟩
      exact gen h5 h6
    obtain ⟨w', H2, t2, st⟩ := marks_go H1 t1 hm1
    refine ⟨w', H2, t2, fun fr cs hm hd => .head (step_collected (by rw [hm]; exact fun e => by cases e) hd h1 (run_takeDeferred h3)) ?_⟩
    exact st { fr with defers := [] ++ ds } cs hm rfl

theorem args_TR : ∀ {args : List LV} {vals : List Value} {tmps : Array Value} {i : Nat}, VRs c args vals → (∀ (j : Nat) (v : Value), vals[j]? = some v → tmps.getD (i + j) undef = v) → TR c (numArgs i args) tmps
  | [], vals, tmps, i, _, _ => fun t => by simp [numArgs, tget]; exact .any _
  | x :: args, [], tmps, i, h, _ => by have := h.len; simp at this
  | x :: args, v :: vals, tmps, i, h, hg => fun t => by
    simp only [numArgs, tget]
    split
    · rename_i e; subst e
      have := hg 0 v rfl
      simp only [Nat.add_zero] at this
      rw [this]; exact h.head
    · exact args_TR (i := i + 1) h.tail (fun j v hj => by rw [show i + 1 + j = i + (j + 1) by omega]; exact hg (j + 1) v (by simpa using hj)) t

/-- what is asked of the program's evaluation -/
def FnIs (P : Program) (f : FuncId) : AFn → Prop
  | .code res body => ∃ fn, P.funcs[f]? = some fn ∧ toFn P fn = some (.code res (strip body)) ∧ (fn.name == "runtime.NumGoroutine") = false
  | .prim g => ∀ (c : Cx) (args : List LV) (vals : List Value) (w : World) (r : LV), MR c w → VRs c args vals → g args = some r →
      ∃ c' u w', MR c' w' ∧ Tr c.bare w c'.bare w' ∧ VR c'.bare r u ∧ CallsTo P f vals.toArray w u w'
def EOK (P : Program) (E : FuncId → Option AFn) : Prop := ∀ f fn, E f = some fn → FnIs P f fn

theorem fn_ok {R : Orc} (IH : CodeOK P R) {E : FuncId → Option AFn} (hE : EOK P E) {f : FuncId} {args : List LV} {lvl : Nat} {F : List Env} {O : Heap} {v : LV} {F' : List Env} {O' : Heap} (h : step E R (.fn f args lvl F O) = some (.res v F' O'))
    {vals : List Value} (H : SR P c ⟨[], F, O, lvl⟩ #[] Ts w) (ha : VRs c args vals) :
    ∃ c' u w', SR P c' ⟨[(0, v)], F', O', lvl⟩ #[u] Ts w' ∧ Tr c w c' w' ∧ CallsTo P f vals.toArray w u w' := by
  obtain ⟨fn, hfn, h⟩ := Option.bind_eq_some_iff.1 (show (E f).bind (fnBeg R args lvl F O) = some _ from h)
  have hE1 := hE f fn hfn
  cases fn with
  | prim g =>
    simp only [fnBeg] at h
    split at h
    · rename_i hc
      obtain ⟨hl, hF, hO⟩ := hc
      obtain ⟨r, hr, h⟩ := Option.bind_eq_some_iff.1 h
      simp only [primR, Option.some.injEq, Out.res.injEq] at h
      obtain ⟨rfl, rfl, rfl⟩ := h
      have hF0 : F = [] := by simpa using hF
      have hO0 : O = [] := by simpa using hO
      subst hF0; subst hO0
      obtain ⟨c', u, w', hM, t, hv, hcall⟩ := hE1 c args vals w r H.mu ha hr
      have hTs : Ts = [] := by have := H.Fl; simpa using this.symm
      subst hTs
      have hio : ∀ id, c.io id = none := fun id => by
        cases hi : c.io id with
        | none => rfl
        | some h => obtain ⟨o, e⟩ := H.dom id h hi; simp [oget] at e
      have ec : c = c.bare := by
        cases c with | mk mu io => simp only [Cx.bare, Cx.mk.injEq, true_and]; funext id; exact hio id
      refine ⟨c'.bare, u, w', ⟨fun t => ?_, rfl, fun i F t h => by simp at h, fun id o h => by simp [oget] at h, fun id h hi => by simp [Cx.bare] at hi, fun i j h h' _ hi => by simp [Cx.bare] at hi, hM, fun id h hi => by simp [Cx.bare] at hi⟩, by rw [ec]; exact t, hcall⟩
      simp only [tget]
      split
      · rename_i e; subst e; exact hv
      · exact .any _
    · cases h
  | code res body =>
    obtain ⟨func, hf, hto, hname⟩ := hE1
    obtain ⟨o, ho, h⟩ := Option.bind_eq_some_iff.1 (show (R (.code body { T := numArgs 0 args, F, O, lvl })).bind (fnEnd res) = some _ from h)
    have hfin : ∃ e s, o = .ex e s ∧ (e = .nrm ∨ e = .ret) ∧ endFn res s = some (.res v F' O') := by
      cases o with
      | res _ _ _ => cases h
      | ex e s => cases e with
        | nrm => exact ⟨_, s, rfl, .inl rfl, h⟩
        | ret => exact ⟨_, s, rfl, .inr rfl, h⟩
        | exit => cases h
    obtain ⟨e, s, rfl, he, hend⟩ := hfin
    obtain ⟨vs, hvs, hend⟩ := Option.bind_eq_some_iff.1 (show (resultsL s res).bind (outK s) = some _ from hend)
    simp only [outK, Option.some.injEq, Out.res.injEq] at hend
    obtain ⟨rfl, rfl, rfl⟩ := hend
    unfold toFn at hto
    split at hto
    · cases hto
    · rename_i mc hbody
      split at hto
      · rename_i rs cd hrs hcd
        simp only [Option.some.injEq, AFn.code.injEq] at hto
        obtain ⟨rfl, rfl⟩ := hto
        let tm : Array Value := vals.toArray ++ Array.replicate (func.ntmps - vals.toArray.size) undef
        let b : Frame := { (default : Frame) with fn := f, kind := .normal, roundOf := none }
        have henter : Frame.enter P f vals.toArray .normal = b.atR ⟨tm, []⟩ [.code mc] := by simp [Frame.enter, Frame.atR, hf, hbody, b, tm]
        have hT0 : TR c (numArgs 0 args) tm := args_TR ha fun j v hj => by
          have hlt : j < vals.length := (List.getElem?_eq_some_iff.1 hj).1
          simp only [tm, Array.getD_eq_getD_getElem?, Nat.zero_add]
          rw [Array.getElem?_append_left (by simpa using hlt)]
          simp [hj]
        have H0 : SR P c { T := numArgs 0 args, F := F, O := O, lvl := lvl } tm Ts w := ⟨hT0, H.Fl, H.F, H.O, H.dom, H.inj, H.mu, H.lt⟩
        obtain ⟨c1, a1, w1, H1, t1, hs1, hm1, land⟩ := IH _ _ _ _ ho func.ntmps mc hcd w.heap.size c ⟨tm, []⟩ Ts w b H0 (by simp [tm]; omega) trivial (fun l hl => by cases hl) (Nat.le_refl _)
        -- the frame is on its way out
        have hout : ∃ todo : List Frame → List Item, ∀ cs, Steps P (lone (Frame.enter P f vals.toArray .normal) cs w) (lone { b.atR a1 (todo cs) with mode := .returning } cs w1) := by
          have : ∀ cs, ∃ todo, Steps P (lone (Frame.enter P f vals.toArray .normal) cs w) (lone { b.atR a1 todo with mode := .returning } cs w1) := by
            intro cs
            rw [henter]
            rcases he with rfl | rfl
            · exact ⟨[], (land [] cs).trans (.one (stepR_end rfl))⟩
            · obtain ⟨k1, hs⟩ := land [] cs
              exact ⟨_, hs.trans (.one (stepR_ret rfl))⟩
          exact ⟨fun cs => Classical.choose (this cs), fun cs => Classical.choose_spec (this cs)⟩
        obtain ⟨todo, hsteps⟩ := hout
        obtain ⟨w2, H2, t2, hgo⟩ := marks_go H1 t1 hm1
        obtain ⟨u, hu, hvu⟩ := results_ok H2 hrs hvs
        refine ⟨c1, u, w2, ⟨fun t => ?_, H2.Fl, H2.F, H2.O, H2.dom, H2.inj, H2.mu, H2.lt⟩, t2, ⟨func, hf, by rw [hbody]; rfl, hname⟩, fun cs => ⟨_, (hsteps cs).trans (hgo _ cs rfl rfl), rfl, rfl, rfl, rfl, func, hf, hu⟩⟩
        simp only [tget]
        split
        · rename_i e; subst e; exact hvu
        · exact .any _
      · cases hto
end
end Go.Zv
