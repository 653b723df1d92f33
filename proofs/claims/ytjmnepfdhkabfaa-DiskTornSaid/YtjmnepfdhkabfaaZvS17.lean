/- The engine, part 22: the rounds of a range over a function; their records. -/
import Derived.Test.YtjmnepfdhkabfaaZvS16
import Derived.RangeFuncRecord
namespace Go.Zv
set_option autoImplicit false
set_option linter.unusedVariables false
set_option linter.unusedSimpArgs false
section
variable {P : Program} {c : Cx} {w w' : World} {s : St} {tmps : Array Value} {Ts : List (Array Value)}

theorem frozen_put {b : Nat} {ob : Go.Obj} (hold : ∀ cc e fr, w.heap[b]? ≠ some (Go.Obj.cells cc e fr)) (hnew : ∀ cc e fr, ob ≠ .cells cc e fr) (a : Addr) : (w.putObj b ob).frozen? a = w.frozen? a := by
  simp only [World.frozen?, World.putObj]
  by_cases e : a.block = b
  · subst e
    cases hb : w.heap[a.block]? with
    | none =>
      have hge : ¬ a.block < w.heap.size := by
        have := Array.getElem?_eq_none_iff.1 hb; omega
      simp [Array.getElem?_setIfInBounds, hge]
    | some x =>
      have hlt := (Array.getElem?_eq_some_iff.1 hb).1
      simp only [Array.getElem?_setIfInBounds_self_of_lt hlt]
      cases x with
      | cells cc e fr => exact absurd hb (hold cc e fr)
      | _ => cases ob with
        | cells cc e fr => exact absurd rfl (hnew cc e fr)
        | _ => rfl
  · simp [Array.getElem?_setIfInBounds, Ne.symm e]

/-- a block that belongs to nobody is turned -/
theorem SR.poke (H : SR P c s tmps Ts w) {b : Nat} {ob : Go.Obj} (hun : ∀ id h, c.io id = some h → h.nul = false → h.blk ≠ b) (hmu : ∀ x, c.mu b x = none) : SR P c s tmps Ts (w.putObj b ob) := by
  refine ⟨H.T, H.Fl, H.F, fun id o ho => ?_, H.dom, H.inj, fun b' x v hv => ?_, fun id h hi hn => by simpa using H.lt id h hi hn⟩
  · obtain ⟨h, hi, hor⟩ := H.O id o ho
    exact ⟨h, hi, hor.mono (fun _ _ _ h => h) (fun _ _ h => h) (fun hn => World.putObj_heap_other (hun id h hi hn)) (fun hn => hor.mu hn)⟩
  · rw [cell_of_heap (World.putObj_heap_other fun e => by subst e; rw [hmu x] at hv; cases hv)]
    exact H.mu b' x v hv
theorem Tr.poke {c0 : Cx} {w0 : World} (t : Tr c0 w0 c w) {b : Nat} {ob : Go.Obj} (hb : w0.heap.size ≤ b ∨ ∃ id h, c0.io id = some h ∧ h.nul = false ∧ h.blk = b)
    (hold : ∀ cc e fr, w.heap[b]? ≠ some (Go.Obj.cells cc e fr)) (hnew : ∀ cc e fr, ob ≠ .cells cc e fr) (hlp : (∃ r : Loop, ob = .loop r) ∨ ∀ r : Loop, w.heap[b]? ≠ some (Go.Obj.loop r)) : Tr c0 w0 c (w.putObj b ob) := by
  refine ⟨by simpa using t.size, fun b' hb' hf => ?_, t.mu, t.io, fun a => (frozen_put hold hnew a).trans (t.frz a), t.env, t.muN, fun b' r hr => ?_⟩
  · have hne : b' ≠ b := fun e => by
      subst e
      rcases hb with hle | ⟨id, h, hi, hn, e⟩
      · omega
      · exact hf id h hi hn e
    rw [World.putObj_heap_other hne]; exact t.keep b' hb' hf
  · obtain ⟨r', hr'⟩ := t.loop b' r hr
    by_cases e : b' = b
    · subst e
      rcases hlp with ⟨r2, rfl⟩ | hno
      · exact ⟨r2, World.putObj_heap_same (Array.getElem?_eq_some_iff.1 hr').1⟩
      · exact absurd hr' (hno r')
    · exact ⟨r', by rw [World.putObj_heap_other e]; exact hr'⟩
theorem Marks.poke {lo : Nat} {b : Nat} {ob : Go.Obj} (hb : w.heap[b]? ≠ some (Go.Obj.deferred (some []))) : ∀ {ds : List Deferred}, Marks lo c w ds → Marks lo c (w.putObj b ob) ds
  | [], _ => trivial
  | d :: ds, ⟨⟨r, h1, h2, h3, h4, h5⟩, h6⟩ => ⟨⟨r, h1, h2, by rw [World.putObj_heap_other fun e => by subst e; exact hb h3]; exact h3, h4, h5⟩, Marks.poke hb h6⟩

theorem only_loop {b : Nat} {r : Loop} (r' : Loop) (h : w.heap[b]? = some (Go.Obj.loop r)) : Only w (w.putObj b (.loop r')) b :=
  ⟨by simp, fun b' hb => World.putObj_heap_other hb, fun a => frozen_put (fun cc e fr e2 => by rw [h] at e2; cases e2) (fun _ _ _ e => by cases e) a, ⟨rfl, rfl⟩, fun _ _ => ⟨r', World.putObj_heap_same (Array.getElem?_eq_some_iff.1 h).1⟩⟩

theorem loop_mu (H : SR P c s tmps Ts w) {b : Nat} {r : Loop} (h : w.heap[b]? = some (Go.Obj.loop r)) (x : Nat) : c.mu b x = none := by
  cases hv : c.mu b x with
  | none => rfl
  | some v => have := H.mu b x v hv; simp [World.cell?, h] at this

def yieldV (l : Nat) : Value := .func (.yield l) #[] #[]
theorem SR.wit {id : Nat} {h : Home} (H : SR P c s tmps Ts w) (hi : c.io id = some h) : SR P c (wit id s) tmps (#[yieldV h.blk] :: Ts) w := by
  refine ⟨H.T, by simpa [Zv.wit] using H.Fl, fun i F t hF ht => ?_, H.O, H.dom, H.inj, H.mu, H.lt⟩
  cases i with
  | zero =>
    simp [Zv.wit] at hF ht; subst hF; subst ht
    intro t
    simp only [tget]
    split
    · rename_i e; subst e; exact .yl id h hi
    · exact .any _
  | succ i => exact H.F i F t (by simpa [Zv.wit] using hF) (by simpa using ht)
theorem unwit_ok {id l : Nat} {s2 : St} (H : SR P c s tmps (#[yieldV l] :: Ts) w) (h : unwit id s = some s2) : SR P c s2 tmps Ts w ∧ (∃ hh, c.io id = some hh ∧ hh.blk = l) ∧ s2.O = s.O := by
  unfold unwit at h
  split at h
  · rename_i V F hF
    split at h
    · rename_i hy
      simp only [Option.some.injEq] at h; subst h
      have h0 := H.F 0 V #[yieldV l] (by simp [hF]) rfl 0
      refine ⟨⟨H.T, by have := H.Fl; rw [hF] at this; simpa using this, fun i F' t hF' ht => H.F (i + 1) F' t (by rw [hF]; simpa using hF') (by simpa using ht), H.O, H.dom, H.inj, H.mu, H.lt⟩, ?_, rfl⟩
      cases hv : tget V 0 with
      | yl i =>
        rw [hv] at hy h0
        simp only [isYl, beq_iff_eq] at hy; subst hy
        have h0' : VR c (.yl i) (yieldV l) := by simpa using h0
        generalize hq : yieldV l = q at h0'
        cases h0' with
        | yl _ hh hi => exact ⟨hh, hi, by simp only [yieldV, Value.func.injEq, Fn.yield.injEq] at hq; exact hq.1.symm⟩
      | _ => rw [hv] at hy; simp [isYl] at hy
    · cases h
  · cases h

/-- where the code comes out -/
def Lands (P : Program) (b : Frame) (a : Act) (w : World) (mc : Code) (e : AEx) (a' : Act) (w' : World) : Prop :=
  ∀ k cs, match e with
    | .nrm => Steps P (lone (b.atR a (.code mc :: k)) cs w) (lone (b.atR a' k) cs w')
    | .exit id => ∃ k₁, exitTo id k₁ = exitTo id k ∧ Steps P (lone (b.atR a (.code mc :: k)) cs w) (lone (b.atR a' (.code (.exit id) :: k₁)) cs w')
    | .ret => ∃ k₁, Steps P (lone (b.atR a (.code mc :: k)) cs w) (lone (b.atR a' (.code .ret :: k₁)) cs w')

/-- what is asked of the evaluation of one piece of code -/
def Code1 (P : Program) (cd : ACode) (s : St) (e : AEx) (s' : St) : Prop :=
  ∀ (N : Nat) (mc : Code), toCode P N mc = some (strip cd) → ∀ (lo : Nat) (c : Cx) (a : Act) (Ts : List (Array Value)) (w : World) (b : Frame), SR P c s a.tmps Ts w → N ≤ a.tmps.size → Marks lo c w a.defers → InRound b w → lo ≤ w.heap.size →
  ∃ c' a' w', SR P c' s' a'.tmps Ts w' ∧ Tr c w c' w' ∧ a'.tmps.size = a.tmps.size ∧ Marks lo c' w' a'.defers ∧ Lands P b a w mc e a' w'
def CodeOK (P : Program) (R : Orc) : Prop := ∀ cd s e s', R (.code cd s) = some (.ex e s') → Code1 P cd s e s'

theorem zip_TR {T : Env} : ∀ {ps : List Nat} {args : List LV} {vals : List Value} {T : Env} {tmps : Array Value} {N : Nat}, TR c T tmps → VRs c args vals → (∀ d ∈ ps, d < N) → N ≤ tmps.size → ps.length = args.length →
    TR c ((ps.zip args).reverse ++ T) ((ps.zip vals).foldl (fun tm (p : Nat × Value) => tm.setIfInBounds p.1 p.2) tmps) ∧ ((ps.zip vals).foldl (fun tm (p : Nat × Value) => tm.setIfInBounds p.1 p.2) tmps).size = tmps.size
  | [], args, vals, T, tmps, N, hT, _, _, _, _ => by simpa using hT
  | p :: ps, [], vals, T, tmps, N, hT, _, _, _, h => by simp at h
  | p :: ps, x :: args, [], T, tmps, N, hT, hv, _, _, h => by have := hv.len; simp at this
  | p :: ps, x :: args, v :: vals, T, tmps, N, hT, hv, hp, hN, h => by
    have h1 := hT.put (d := p) (Nat.lt_of_lt_of_le (hp p (by simp)) hN) hv.head
    have := zip_TR (T := T) (ps := ps) (args := args) (vals := vals) (N := N) h1 hv.tail (fun d hd => hp d (by simp [hd])) (by simpa using hN) (by simpa using h)
    simpa using this

/-- a round of a range over a function -/
theorem rnd_ok {R : Orc} (IH : CodeOK P R) {E : FuncId → Option AFn} {id : Nat} {args : List LV} {lvl : Nat} {F : List Env} {O : Heap} {v : LV} {F' : List Env} {O' : Heap} (h : step E R (.rnd id args lvl F O) = some (.res v F' O'))
    {vals : List Value} (H : SR P c ⟨[], F, O, lvl⟩ #[] Ts w) (ha : VRs c args vals) {hh : Home} (hi : c.io id = some hh) :
    ∃ c' u w', SR P c' ⟨[(0, v)], F', O', lvl⟩ #[u] Ts w' ∧ Tr c w c' w' ∧ ∃ f tmps asg body, (Instr.yield hh.blk vals.toArray).run P w = .ok (.round hh.blk f tmps asg body) w ∧
      ∀ (cf : Frame) (cs : List Frame), Steps P (lone (Frame.round hh.blk f tmps asg body .normal) (cf :: cs) w) (lone (cf.finish u) cs w') := by
  simp only [step] at h
  unfold rndBeg at h
  split at h
  · rename_i T ps asg body pend ho
    split at h
    · rename_i hlen
      obtain ⟨o1, ho1, h⟩ := Option.bind_eq_some_iff.1 h
      unfold rndAsg at h
      split at h
      · rename_i s1
        obtain ⟨s1', hw1, h⟩ := Option.bind_eq_some_iff.1 h
        simp only [rndMid1] at h
        unfold rndMid at h
        split at h
        · rename_i T' ps' asg' b' p' hob
          obtain ⟨o2, ho2, h⟩ := Option.bind_eq_some_iff.1 h
          unfold rndBody at h
          split at h
          · rename_i e s2
            obtain ⟨s2', hw2, h⟩ := Option.bind_eq_some_iff.1 h
            simp only [endRnd] at h
            unfold endRndK at h
            split at h
            · rename_i T2 ps2 asg2 b2 p2 hob2
              simp only [Option.some.injEq, Out.res.injEq] at h
              obtain ⟨rfl, rfl, rfl⟩ := h
              -- the record
              obtain ⟨h0, hi0, hor⟩ := H.O id _ ho
              rw [hi] at hi0; cases hi0
              cases hor with
              | loop _ _ _ _ _ _ L N hn hwL hTL hN hp hps hasg hbody hst hpe hm =>
                let tm := (ps.zip vals).foldl (fun tm (p : Nat × Value) => tm.setIfInBounds p.1 p.2) L.tmps
                obtain ⟨hTT, hsz⟩ := zip_TR (T := T) hTL ha hps hN hlen
                let b : Frame := { (default : Frame) with fn := L.fn, kind := .normal, roundOf := some hh.blk }
                have Ha : SR P c (wit id { T := (ps.zip args).reverse ++ T, F := F, O := O, lvl := lvl }) tm (#[yieldV hh.blk] :: Ts) w :=
                  SR.wit ⟨hTT, H.Fl, H.F, H.O, H.dom, H.inj, H.mu, H.lt⟩ hi
                obtain ⟨c1, a1, w1, H1, t1, hs1, hm1, land1⟩ := IH _ _ _ _ ho1 N L.assign hasg 0 c ⟨tm, []⟩ _ w b Ha (by show N ≤ tm.size; rw [hsz]; exact hN) trivial (fun l hl => by cases hl; exact ⟨L, hwL⟩) (Nat.zero_le _)
                obtain ⟨H1', ⟨h1, hi1, hb1⟩, hO1⟩ := unwit_ok H1 hw1
                obtain ⟨h1x, hi1x, hor1⟩ := H1'.O id _ hob
                rw [hi1] at hi1x; cases hi1x
                cases hor1 with
                | loop _ _ _ _ _ _ L1 N1 hn1 hwL1 hTL1 hN1 hp1 hps1 hasg1 hbody1 hst1 hpe1 hmm1 =>
                  rw [hb1] at hwL1
                  have hlt1 := (Array.getElem?_eq_some_iff.1 hwL1).1
                  obtain ⟨H2, t2⟩ := H1'.upd (w' := w1.putObj hh.blk (.loop { L1 with state := .busy })) hob hi1 hn1 (by rw [hb1]; exact only_loop _ hwL1) (o' := .loop T' ps' asg' b' .busy p')
                    (OR.loop T' ps' asg' b' .busy p' { L1 with state := .busy } N1 hn1 (by rw [hb1]; exact World.putObj_heap_same hlt1) hTL1 hN1 hp1 hps1 hasg1 hbody1 rfl (by simp) hmm1)
                  have H2w := H2.wit hi1
                  rw [hb1] at H2w
                  obtain ⟨c3, a3, w3, H3, t3, hs3, hm3, land3⟩ := IH _ _ _ _ ho2 N L.body hbody 0 c1 a1 _ _ b H2w (by rw [hs1]; show N ≤ tm.size; rw [hsz]; exact hN) (hm1.tr t2) (fun l hl => by cases hl; exact ⟨_, World.putObj_heap_same hlt1⟩) (Nat.zero_le _)
                  obtain ⟨H3', ⟨h3, hi3, hb3⟩, hO3⟩ := unwit_ok H3 hw2
                  obtain ⟨h3x, hi3x, hor3⟩ := H3'.O id _ hob2
                  rw [hi3] at hi3x; cases hi3x
                  cases hor3 with
                  | loop _ _ _ _ _ _ L3 N3 hn3 hwL3 hTL3 hN3 hp3 hps3 hasg3 hbody3 hst3 hpe3 hmm3 =>
                    rw [hb3] at hwL3
                    have hlt3 := (Array.getElem?_eq_some_iff.1 hwL3).1
                    let jump : Option Code := match e with | .nrm => none | .exit id => some (.exit id) | .ret => some .ret
                    have hjn : jump.isNone = decide (e = .nrm) := by cases e <;> rfl
                    obtain ⟨H4, t4⟩ := H3'.upd (w' := w3.putObj hh.blk (.loop { L3 with state := if jump.isNone then .ready else .done, pending := jump })) hob2 hi3 hn3 (by rw [hb3]; exact only_loop _ hwL3) (o' := .loop T2 ps2 asg2 b2 (if e = .nrm then .ready else .done) e)
                      (OR.loop T2 ps2 asg2 b2 (if e = .nrm then .ready else .done) e { L3 with state := if jump.isNone then .ready else .done, pending := jump } N3 hn3 (by rw [hb3]; exact World.putObj_heap_same hlt3) hTL3 hN3 hp3 hps3 hasg3 hbody3 (by cases e <;> rfl) (fun _ => by cases e <;> rfl) hmm3)
                    refine ⟨c3, .bool (decide (e = .nrm)), _, ⟨fun t => ?_, H4.Fl, H4.F, H4.O, H4.dom, H4.inj, H4.mu, H4.lt⟩, ((t1.trans t2).trans t3).trans t4, L.fn, tm, L.assign, L.body, ?_, fun cf cs => ?_⟩
                    · simp only [tget]
                      split
                      · rename_i e; subst e; exact .bool _
                      · exact .any _
                    · have hsz2 : vals.toArray.size = L.params.size := by
                        have e1 : L.params.size = ps.length := by rw [← hp]; simp
                        have e2 := ha.len
                        simp only [List.size_toArray]; omega
                      rw [run_yield hwL hsz2]
                      have e : (L.params.zip vals.toArray).foldl (fun tmps (x : Tmp × Value) => tmps.setIfInBounds x.1 x.2) L.tmps = tm := by
                        show _ = (ps.zip vals).foldl _ _
                        rw [← hp, ← Array.foldl_toList]
                        congr 1
                        simp
                      rw [← e]
                    · have hb0 : Frame.round hh.blk L.fn tm L.assign L.body .normal = b.atR ⟨tm, []⟩ [.code L.assign, .beginRound, .code L.body] := by simp [Frame.round, Frame.atR, b]
                      rw [hb0]
                      refine (land1 [.beginRound, .code L.body] (cf :: cs)).trans (.head (stepR_beginRound (l := hh.blk) rfl (run_beginRound hwL1 hst1)) ?_)
                      have hend := run_endRound (P := P) jump hwL3
                      rw [hjn] at hend
                      cases e with
                      | nrm => exact (land3 [] (cf :: cs)).trans (.one (stepR_round_end (l := hh.blk) rfl rfl hend))
                      | ret =>
                        obtain ⟨k1, hs⟩ := land3 [] (cf :: cs)
                        exact hs.trans (.one (stepR_round_ret (l := hh.blk) rfl rfl hend))
                      | exit i =>
                        obtain ⟨k1, hk, hs⟩ := land3 [] (cf :: cs)
                        exact hs.trans (.one (stepR_round_exit (l := hh.blk) rfl rfl (by rw [hk]; rfl) hend))
            · cases h
          · cases h
        · cases h
      · cases h
    · cases h
  · cases h
end
end Go.Zv
