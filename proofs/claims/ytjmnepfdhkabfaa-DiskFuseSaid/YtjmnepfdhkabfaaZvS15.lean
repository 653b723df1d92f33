/- The engine, part 20: calls. -/
import Derived.Test.YtjmnepfdhkabfaaZvS14n
import Derived.RangeFuncIn
namespace Go.Zv
set_option autoImplicit false
set_option linter.unusedVariables false
set_option linter.unusedSimpArgs false
section
variable {P : Program} {c : Cx} {w w' : World} {s : St} {tmps : Array Value} {Ts : List (Array Value)}

/-- marks among the deferred calls -/
def Marks (lo : Nat) (c : Cx) (w : World) : List Deferred → Prop
  | [] => True
  | d :: ds => (∃ r, d.target = .collected r ∧ lo ≤ r ∧ w.heap[r]? = some (Go.Obj.deferred (some [])) ∧ (∀ id h, c.io id = some h → h.nul = false → h.blk ≠ r) ∧ ∀ d' ∈ ds, ∀ r', d'.target = .collected r' → r' ≠ r) ∧ Marks lo c w ds
theorem Marks.tr {lo : Nat} {c' : Cx} (t : Tr c w c' w') : ∀ {ds : List Deferred}, Marks lo c w ds → Marks lo c' w' ds
  | [], _ => trivial
  | d :: ds, ⟨⟨r, h1, h2, h3, h4, h5⟩, h6⟩ => by
    have hlt : r < w.heap.size := (Array.getElem?_eq_some_iff.1 h3).1
    refine ⟨⟨r, h1, h2, by rw [t.keep r hlt h4]; exact h3, fun id h hi hn e => ?_, h5⟩, Marks.tr t h6⟩
    rcases t.io id h hi hn with ⟨id0, h0, hi0, hn0, e0⟩ | hle
    · exact h4 id0 h0 hi0 hn0 (e0.trans e)
    · omega
/-- the frame is a round's: its loop is there -/
def InRound (b : Frame) (w : World) : Prop := ∀ l, b.roundOf = some l → ∃ r : Loop, w.heap[l]? = some (Go.Obj.loop r)
theorem InRound.tr {b : Frame} {c' : Cx} (t : Tr c w c' w') (h : InRound b w) : InRound b w' := fun l hl => by obtain ⟨r, hr⟩ := h l hl; exact t.loop l r hr

/-- what is called comes back with that value -/
def CallsTo (P : Program) (f : FuncId) (vals : Array Value) (w : World) (u : Value) (w' : World) : Prop :=
  (∃ fn, P.funcs[f]? = some fn ∧ fn.body.isNone = false ∧ (fn.name == "runtime.NumGoroutine") = false) ∧
  ∀ cs, ∃ fr, Steps P (lone (Frame.enter P f vals .normal) cs w) (lone fr cs w') ∧ fr.fn = f ∧ fr.leaving P w' (.returned u)
def FnOK (P : Program) (R : Orc) : Prop := ∀ f args lvl F O v F' O', R (.fn f args lvl F O) = some (.res v F' O') →
  ∀ (c : Cx) (vals : List Value) (Ts : List (Array Value)) (w : World), SR P c ⟨[], F, O, lvl⟩ #[] Ts w → VRs c args vals →
  ∃ c' u w', SR P c' ⟨[(0, v)], F', O', lvl⟩ #[u] Ts w' ∧ Tr c w c' w' ∧ CallsTo P f vals.toArray w u w'
def RndOK (P : Program) (R : Orc) : Prop := ∀ id args lvl F O v F' O', R (.rnd id args lvl F O) = some (.res v F' O') →
  ∀ (c : Cx) (vals : List Value) (Ts : List (Array Value)) (w : World), SR P c ⟨[], F, O, lvl⟩ #[] Ts w → VRs c args vals → ∀ h, c.io id = some h →
  ∃ c' u w', SR P c' ⟨[(0, v)], F', O', lvl⟩ #[u] Ts w' ∧ Tr c w c' w' ∧ ∃ f tmps asg body, (Instr.yield h.blk vals.toArray).run P w = .ok (.round h.blk f tmps asg body) w ∧
    ∀ (cf : Frame) (cs : List Frame), Steps P (lone (Frame.round h.blk f tmps asg body .normal) (cf :: cs) w) (lone (cf.finish u) cs w')

/-- an empty state: what a callee that shares nothing begins with -/
theorem SR.empty0 (hM : MR c w) : SR P c.bare ⟨[], [], [], 0⟩ #[] [] w :=
  ⟨fun t => by simp [tget]; exact .any _, rfl, fun i F t h => by simp at h, fun id o h => by simp [oget] at h, fun id h hi => by simp [Cx.bare] at hi, fun i j h h' _ hi => by simp [Cx.bare] at hi, hM, fun id h hi => by simp [Cx.bare] at hi⟩

theorem VRs.closed {c' : Cx} (hmu : ∀ b o v, c.mu b o = some v → c'.mu b o = some v) {xs : List LV} {us : List Value} (h : VRs c xs us) (hc : LV.closeds xs = true) : VRs c' xs us :=
  ⟨h.len, fun i x v hx hv => (h.at_ i x v hx hv).closed hmu (closeds_at hc hx)⟩

theorem popK_ok {X : St} {s' : St} {v : LV} {u : Value} {lvl : Nat} (H : SR P c X tmps (#[u] :: Ts) w) (h : popK X = some (v, s')) : SR P c s' tmps Ts w ∧ VR c v u := by
  unfold popK at h
  split at h
  · rename_i V F hF
    simp only [Option.some.injEq, Prod.mk.injEq] at h
    obtain ⟨rfl, rfl⟩ := h
    have h0 := H.F 0 V #[u] (by simp [hF]) rfl 0
    refine ⟨⟨H.T, by have := H.Fl; rw [hF] at this; simpa using this, fun i F' t hF' ht => H.F (i + 1) F' t (by rw [hF]; simpa using hF') (by simpa using ht), H.O, H.dom, H.inj, H.mu, H.lt⟩, by simpa using h0⟩
  · cases h

theorem afterIn_ok {lvl : Nat} {v0 : LV} {F0 : List Env} {O0 : Heap} {u : Value} {v : LV} {s' : St} {l : Nat} (H : SR P c ⟨[(0, v0)], F0, O0, l⟩ #[u] (tmps :: Ts) w) (h : afterIn lvl (.res v0 F0 O0) = some (v, s')) :
    ∃ c', SR P c' s' tmps Ts w ∧ Tr c w c' w ∧ VR c' v u := by
  cases F0 with
  | nil => cases h
  | cons T F =>
    have HX : SR P c { T := T, F := [(0, v0)] :: F, O := O0, lvl := lvl } tmps (#[u] :: Ts) w := by
      refine ⟨H.F 0 T tmps rfl rfl, by have := H.Fl; simpa using this, fun i F' t hF' ht => ?_, H.O, H.dom, H.inj, H.mu, H.lt⟩
      cases i with
      | zero => simp at hF' ht; subst hF'; subst ht; exact H.T
      | succ i => exact H.F (i + 1) F' t (by simpa using hF') (by simpa using ht)
    obtain ⟨c', H', t', _⟩ := HX.frees (idsFrom (lvl + 1) O0)
    obtain ⟨h1, h2⟩ := popK_ok (lvl := 0) H' h
    exact ⟨c', h1, t', h2⟩

theorem callFn_ok {R : Orc} (IH : FnOK P R) (H : SR P c s tmps Ts w) {args : List LV} {vals : List Value} (ha : VRs c args vals) {id : Nat} {f : FuncId} {v : LV} {s' : St} (h : callFn R true id f args s = some (v, s')) :
    ∃ c' u w', SR P c' s' tmps Ts w' ∧ Tr c w c' w' ∧ VR c' v u ∧ CallsTo P f vals.toArray w u w' := by
  unfold callFn callClosed at h
  split at h
  · rename_i hcl
    obtain ⟨r, hr, h⟩ := Option.bind_eq_some_iff.1 h
    obtain ⟨o, ho, hr⟩ := Option.bind_eq_some_iff.1 hr
    cases o with
    | ex e s => cases hr
    | res v0 F0 O0 =>
      obtain ⟨c1, H1, t1, _, _, hcov⟩ := H.frees (LV.idss args)
      have hOR : ∀ id o h, oget s.O id = some o → c.io id = some h → OR P c w h o := fun id o h ho hi => by
        obtain ⟨h', hi', hor⟩ := H.O id o ho
        rw [hi] at hi'; cases hi'; exact hor
      have hv1 : VRs c1 (LV.cls s.O args) vals := cls_ok (c1 := c) hOR t1.mu t1.mu ha (fun id hid _ h hi hn y v hy => hcov id hid h hi hn y v hy) hcl
      unfold afterPure at h
      by_cases hemp : (LV.idss args).isEmpty = true
      · have hnil : LV.idss args = [] := by simpa using hemp
        rw [if_pos (by rw [hemp]; rfl)] at h
        simp only [Option.some.injEq] at h
        have hv1 : VRs c (LV.cls s.O args) vals := cls_ok (c1 := c) hOR (fun _ _ _ h => h) (fun _ _ _ h => h) ha (fun id hid => by rw [hnil] at hid; cases hid) hcl
        obtain ⟨d, u, w', Hd, td, hcall⟩ := IH _ _ _ _ _ _ _ _ ho c.bare vals [] w (SR.empty0 H.mu) (VRs.closed (c := c) (c' := c.bare) (fun _ _ _ h => h) hv1 hcl)
        obtain ⟨c', H2, t2, hv2⟩ := back_in H td Hd (v := v0) (u := u) (by simpa [tget] using Hd.T 0) hr id
        rw [h] at H2 hv2
        exact ⟨c', u, w', H2, t2, hv2, hcall⟩
      · obtain ⟨d, u, w', Hd, td, hcall⟩ := IH _ _ _ _ _ _ _ _ ho c1.bare vals [] w (SR.empty0 H1.mu) (VRs.closed (c := c1) (c' := c1.bare) (fun _ _ _ h => h) hv1 hcl)
        by_cases hno : LV.noVs r = true
        · rw [if_pos (by rw [hno, Bool.or_true])] at h
          simp only [Option.some.injEq] at h
          obtain ⟨c', H2, t2, hv2⟩ := back_noVs H td Hd (v := v0) (u := u) (by simpa [tget] using Hd.T 0) hr hno id
          rw [h] at H2 hv2
          exact ⟨c', u, w', H2, t2, hv2, hcall⟩
        · rw [if_neg (by simp [hemp, hno])] at h
          simp only [Option.some.injEq] at h
          obtain ⟨c', H2, t2, hv2⟩ := back_in H1 td Hd (v := v0) (u := u) (by simpa [tget] using Hd.T 0) hr id
          rw [h] at H2 hv2
          exact ⟨c', u, w', H2, t1.trans t2, hv2, hcall⟩
  · obtain ⟨o, ho, h⟩ := Option.bind_eq_some_iff.1 h
    cases o with
    | ex e s => cases h
    | res v0 F0 O0 =>
      have H0 : SR P c ⟨[], s.T :: s.F, s.O, s.lvl + 1⟩ #[] (tmps :: Ts) w := by
        refine ⟨fun t => by simp [tget]; exact .any _, by simpa using H.Fl, fun i F t hF ht => ?_, H.O, H.dom, H.inj, H.mu, H.lt⟩
        cases i with
        | zero => simp at hF ht; subst hF; subst ht; exact H.T
        | succ i => exact H.F i F t (by simpa using hF) (by simpa using ht)
      obtain ⟨c1, u, w', H1, t1, hcall⟩ := IH _ _ _ _ _ _ _ _ ho c vals (tmps :: Ts) w H0 ha
      obtain ⟨c2, H2, t2, hv⟩ := afterIn_ok H1 h
      exact ⟨c2, u, w', H2, t1.trans t2, hv, hcall⟩

/-- the machine goes there and comes back with that value -/
def Goes (P : Program) (nx : Next) (w : World) (u : Value) (w' : World) : Prop :=
  (∃ f args, nx = .enter f args ∧ ∀ (cf : Frame) (cs : List Frame), Steps P (lone (Frame.enter P f args .normal) (cf :: cs) w) (lone (cf.finish u) cs w')) ∨
  (∃ l f tmps asg body, nx = .round l f tmps asg body ∧ ∀ (cf : Frame) (cs : List Frame), Steps P (lone (Frame.round l f tmps asg body .normal) (cf :: cs) w) (lone (cf.finish u) cs w'))

theorem CallsTo.goes {f : FuncId} {vals : Array Value} {u : Value} (h : CallsTo P f vals w u w') : (callFunc f vals).run P w = .ok (.enter f vals) w ∧ Goes P (.enter f vals) w u w' := by
  obtain ⟨⟨fn, hf, hb, hn⟩, h⟩ := h
  have hn' : fn.name ≠ "runtime.NumGoroutine" := by simpa using hn
  have hb' : fn.body ≠ none := by intro e; rw [e] at hb; cases hb
  refine ⟨?_, .inl ⟨f, vals, rfl, fun cf cs => ?_⟩⟩
  · simp [callFunc, go_sem, hf, hb', hn']
  · obtain ⟨fr, h1, h2, h3⟩ := h (cf :: cs)
    exact h1.trans (.one (step_leave_returned h3))

theorem callV_ok {R : Orc} (IH : FnOK P R) (IHr : RndOK P R) (H : SR P c s tmps Ts w) {f : LV} {uf : Value} (hf : VR c f uf) {args : List LV} {vals : List Value} (ha : VRs c args vals) {id : Nat} {v : LV} {s' : St} (h : callV R true id f args s = some (v, s')) :
    ∃ c' u w', SR P c' s' tmps Ts w' ∧ Tr c w c' w' ∧ VR c' v u ∧ ∃ d nx, (Deferred.ofValue uf vals.toArray).run P w = .ok d w ∧ (invoke d.target d.args).run P w = .ok nx w ∧ Goes P nx w u w' := by
  unfold callV at h
  split at h
  · rename_i f' first cap
    cases hf with
    | fn _ _ _ us vs hl hl2 h1 h2 =>
      obtain ⟨c', u, w', H', t', hv, hc⟩ := callFn_ok IH H (VRs.append ⟨hl, h1⟩ (VRs.append ha ⟨hl2, h2⟩)) h
      obtain ⟨hr, hg⟩ := hc.goes
      refine ⟨c', u, w', H', t', hv, ⟨.fn (.func f') vs.toArray, us.toArray ++ vals.toArray⟩, _, rfl, ?_, hg⟩
      simp only [invoke]
      have e : us.toArray ++ vals.toArray ++ vs.toArray = (us ++ (vals ++ vs)).toArray := by simp
      rw [e]; exact hr
  · rename_i l
    cases hf with
    | yl _ hh hi =>
      obtain ⟨o, ho, h⟩ := Option.bind_eq_some_iff.1 h
      cases o with
      | ex e s => cases h
      | res v0 F0 O0 =>
        have H0 : SR P c ⟨[], s.T :: s.F, s.O, s.lvl + 1⟩ #[] (tmps :: Ts) w := by
          refine ⟨fun t => by simp [tget]; exact .any _, by simpa using H.Fl, fun i F t hF ht => ?_, H.O, H.dom, H.inj, H.mu, H.lt⟩
          cases i with
          | zero => simp at hF ht; subst hF; subst ht; exact H.T
          | succ i => exact H.F i F t (by simpa using hF) (by simpa using ht)
        obtain ⟨c1, u, w', H1, t1, f', tm, asg, body, hy, hs⟩ := IHr _ _ _ _ _ _ _ _ ho c vals (tmps :: Ts) w H0 ha hh hi
        obtain ⟨c2, H2, t2, hv⟩ := afterIn_ok H1 h
        refine ⟨c2, u, w', H2, t1.trans t2, hv, ⟨.fn (.yield hh.blk) #[], #[] ++ vals.toArray⟩, _, rfl, ?_, .inr ⟨_, _, _, _, _, rfl, hs⟩⟩
        simp only [invoke]
        have e : (#[] : Array Value) ++ vals.toArray = vals.toArray := by simp
        rw [e]; exact hy
  · cases h

/-- an operation, whatever it is -/
def Acts (P : Program) (a : Act) (o : Oper) (w : World) (u : Value) (w' : World) : Prop :=
  (execOp a.eval o).run P w = .ok (.value u) w' ∨ ((execOp a.eval o).run P w = .ok .skip w' ∧ u = undef) ∨ ∃ nx, (execOp a.eval o).run P w = .ok nx w ∧ Goes P nx w u w'

theorem toOp_some {ty : TypeId} {op : Op} {R : Orc} {d : Nat} {r : LV × St} (h : stepOp R true d (toOp P ty op) s = some r) : toOp1 P ty op = some (toOp P ty op) := by
  cases hh : toOp1 P ty op with
  | some x => simp [toOp, hh]
  | none =>
    have e : toOp P ty op = .bad := by simp [toOp, hh]
    rw [e] at h; cases h
theorem not_defer {ty : TypeId} {op : Op} {x : AOp} (h : toOp1 P ty op = some x) : ∀ c, op ≠ .defer c := by
  rintro c rfl
  simp [toOp1] at h

def AOp.isCall : AOp → Bool
  | .call .. | .cal .. => true
  | _ => false
theorem nocall {ty : TypeId} {op : Op} (h : ∀ c, op ≠ .call c) : (toOp1 P ty op).all (fun x => !x.isCall) = true := by
  cases op <;> first
    | exact absurd rfl (h _)
    | (unfold toOp1
       simp only [bind]
       repeat' (first | rfl | contradiction | (refine all_map fun _ => ?_) | (refine all_bind fun _ => ?_) | split))
theorem nocall_builtin {ty : TypeId} {cl : Call} {b : Builtin} (h : cl.callee = .builtin b) : (toOp1 P ty (.call cl)).all (fun x => !x.isCall) = true := by
  unfold toOp1
  simp only [h, bind]
  repeat' (first | rfl | contradiction | (refine all_map fun _ => ?_) | (refine all_bind fun _ => ?_) | split)
theorem call_shape {ty : TypeId} {op : Op} {x : AOp} (h : toOp1 P ty op = some x) (hc : x.isCall = true) : ∃ cl, op = .call cl ∧
    ((∃ f l, x = .call f l ∧ cl.callee = .value (.func f) ∧ toArgs P cl.argTypes cl.args = some l) ∨ ∃ y y' l, x = .cal y' l ∧ cl.callee = .value y ∧ toOpd y = some y' ∧ toArgs P cl.argTypes cl.args = some l) := by
  by_cases hop : ∃ cl, op = .call cl
  · obtain ⟨cl, rfl⟩ := hop
    refine ⟨cl, rfl, ?_⟩
    cases hcal : cl.callee with
    | builtin b =>
      have := nocall_builtin (P := P) (ty := ty) hcal
      rw [h] at this; simp [hc] at this
    | invoke a b => simp [toOp1, hcal] at h
    | value y =>
      cases y with
      | func f =>
        simp only [toOp1, hcal] at h
        obtain ⟨m, hm, rfl⟩ := Option.map_eq_some_iff.1 h
        exact .inl ⟨f, m, rfl, rfl, hm⟩
      | _ =>
        simp only [toOp1, hcal, bind, Option.bind_eq_some_iff, Option.some.injEq] at h
        obtain ⟨y', hy, m, hm, rfl⟩ := h
        exact .inr ⟨_, _, _, rfl, rfl, hy, hm⟩
  · have := nocall (P := P) (ty := ty) (op := op) fun c e => hop ⟨c, e⟩
    rw [h] at this; simp [hc] at this

theorem op_ok {R : Orc} (IH : FnOK P R) (IHr : RndOK P R) {a : Act} (H : SR P c s a.tmps Ts w) {o : Oper} {d : Nat} {v : LV} {s' : St} (h : stepOp R true d (toOp P o.type o.op) s = some (v, s')) :
    ∃ c' u w', SR P c' s' a.tmps Ts w' ∧ Tr c w c' w' ∧ VR c' v u ∧ (∀ c, o.op ≠ .defer c) ∧ Acts P a o w u w' := by
  have hop := toOp_some h
  have hnd := not_defer hop
  have hT := H.T
  generalize hx : toOp P o.type o.op = x at h hop
  by_cases hc : x.isCall = true
  · obtain ⟨cl, ho, hsh⟩ := call_shape hop hc
    rcases hsh with ⟨f, l, rfl, hcal, hm⟩ | ⟨y, y', l, rfl, hcal, hy, hm⟩
    · obtain ⟨c', u, w', H', t', hv, hc⟩ := callFn_ok IH H (args_ok hT hm) h
      obtain ⟨hr, hg⟩ := hc.goes
      refine ⟨c', u, w', H', t', hv, hnd, .inr (.inr ⟨_, ?_, hg⟩)⟩
      have e : ((#[] : Array Value) ++ cl.args.map a.eval) ++ #[] = (cl.args.map a.eval).toList.toArray := by simp only [Array.toArray_toList, Array.empty_append, Array.append_empty]
      simp only [execOp, ho, resolve, hcal, Deferred.ofValue, Act.eval, pure_bind, invoke]
      have e2 : ((#[] : Array Value) ++ cl.args.map (fun x => a.eval x)) ++ #[] = (cl.args.map a.eval).toList.toArray := e
      first | (rw [e]; exact hr) | (rw [e2]; exact hr)
    · obtain ⟨c', u, w', H', t', hv, d', nx, h1, h2, hg⟩ := callV_ok IH IHr H (opd_ok hT hy) (args_ok hT hm) h
      refine ⟨c', u, w', H', t', hv, hnd, .inr (.inr ⟨_, ?_, hg⟩)⟩
      simp only [execOp, ho, resolve, hcal]
      have e : cl.args.map a.eval = (cl.args.map a.eval).toList.toArray := Array.toArray_toList.symm
      rw [Sem.run_bind, e, h1]
      exact h2
  · have hn : ∀ f l, x ≠ .call f l := fun f l e => hc (by rw [e]; rfl)
    have hn2 : ∀ f l, x ≠ .cal f l := fun f l e => hc (by rw [e]; rfl)
    obtain ⟨n, w', c', h1, h2, h3, h4⟩ := step_ok H hop hn hn2 h
    rcases h4 with ⟨u, rfl, hu⟩ | ⟨rfl, rfl⟩
    · exact ⟨c', u, w', h2, h3, hu, hnd, .inl h1⟩
    · exact ⟨c', undef, w', h2, h3, .undef, hnd, .inr (.inl ⟨h1, rfl⟩)⟩
theorem closeV_ok (H : SR P c s tmps Ts w) {fz : Bool} {v v' : LV} {s' : St} {u : Value} (hv : VR c v u) (h : closeV fz (v, s) = some (v', s')) : ∃ c', SR P c' s' tmps Ts w ∧ Tr c w c' w ∧ VR c' v' u := by
  unfold closeV at h
  cases fz with
  | true =>
    simp only [if_true, Option.some.injEq, Prod.mk.injEq] at h
    obtain ⟨rfl, rfl⟩ := h
    exact ⟨c, H, Tr.refl _ _, hv⟩
  | false =>
    simp only [Bool.false_eq_true, if_false, closeV1] at h
    split at h
    · rename_i hcl
      simp only [Option.some.injEq, Prod.mk.injEq] at h
      obtain ⟨rfl, rfl⟩ := h
      obtain ⟨c1, H1, t1, _, _, hcov⟩ := H.frees (LV.ids v)
      exact ⟨c1, H1, t1, cl_ok (c1 := c) (fun id o h ho hi => by
        obtain ⟨h', hi', hor⟩ := H.O id o ho
        rw [hi] at hi'; cases hi'; exact hor) t1.mu t1.mu hv (fun id hid _ h hi hn y v hy => hcov id hid h hi hn y v hy) hcl⟩
    · cases h
theorem op_okF {R : Orc} (IH : FnOK P R) (IHr : RndOK P R) {a : Act} {fz : Bool} (H : SR P c s a.tmps Ts w) {o : Oper} {d : Nat} {v : LV} {s' : St} (h : (stepOp R true d (toOp P o.type o.op) s).bind (closeV fz) = some (v, s')) :
    ∃ c' u w', SR P c' s' a.tmps Ts w' ∧ Tr c w c' w' ∧ VR c' v u ∧ (∀ c, o.op ≠ .defer c) ∧ Acts P a o w u w' := by
  obtain ⟨⟨v0, s0⟩, h0, h⟩ := Option.bind_eq_some_iff.1 h
  obtain ⟨c1, u, w', H1, t1, hv, hnd, hact⟩ := op_ok IH IHr H h0
  obtain ⟨c2, H2, t2, hv2⟩ := closeV_ok H1 hv h
  exact ⟨c2, u, w', H2, t1.trans t2, hv2, hnd, hact⟩
end
end Go.Zv
