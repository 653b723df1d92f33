/- Part of the proof: the evaluation of the program's code and its tie to the machine, or what functions of the program compute over it. -/
import Derived.Test.YtbpneedpcccpaaaGreatEng3
import Derived.RangeFuncRecord
import Derived.Orders
set_option autoImplicit false
set_option maxRecDepth 100000
set_option maxHeartbeats 4000000
set_option linter.unusedSimpArgs false
set_option linter.unusedVariables false
/- The engine, part 22: the rounds of a range over a function; their records. -/
namespace Go.Zv
section
variable {P : Program} {c : Cx} {w w' : World} {s : St} {tmps : Array Value} {Ts : List (Array Value)}

theorem frozen_put {b : Nat} {ob : Go.Obj} (hold : ∀ cc e fr,w.heap[b]? ≠ some (Go.Obj.cells cc e fr)) (hnew : ∀ cc e fr,ob ≠ .cells cc e fr) (a : Addr) : (w.putObj b ob).frozen? a = w.frozen? a:=by
 simp only [World.frozen?,World.putObj]
 by_cases e : a.block = b
 ·subst e
  cases hb : w.heap[a.block]? with
  | none =>
    have hge : ¬ a.block < w.heap.size:=by
     have:=Array.getElem?_eq_none_iff.1 hb; omega
    simp [Qav,hge]
  | some x =>
    have hlt:=(Qaj.1 hb).1
    simp only [Array.getElem?_setIfInBounds_self_of_lt hlt]
    cases x with
    | cells cc e fr=>exact absurd hb (hold cc e fr)
    | _=>cases ob with
      | cells cc e fr=>exact absurd rfl (hnew cc e fr)
      | _=>rfl
 ·simp [Qav,Ne.symm e]

theorem SR.poke (H : SR P c s tmps Ts w) {b : Nat} {ob : Go.Obj} (hun : ∀ id h,c.io id = some h → h.nul = false → h.blk ≠ b) (hmu : ∀ x,c.mu b x = none) : SR P c s tmps Ts (w.putObj b ob):=by
 refine ⟨H.T,H.Fl,H.F,fun id o ho=>?_,H.dom,H.inj,fun b' x v hv=>?_,fun id h hi hn=>by simpa using H.lt id h hi hn⟩
 ·obtain ⟨h,hi,hor⟩:=H.O id o ho
  exact ⟨h,hi,hor.mono (fun _ _ _ h=>h) (fun _ _ h=>h) (fun hn=>World.putObj_heap_other (hun id h hi hn)) (fun hn=>hor.mu hn)⟩
 ·rw [cell_of_heap (World.putObj_heap_other fun e=>by subst e; rw [hmu x] at hv; cases hv)]
  exact H.mu b' x v hv
theorem Tr.poke {c0 : Cx} {w0 : World} (t : Tr c0 w0 c w) {b : Nat} {ob : Go.Obj} (hb : w0.heap.size≤b ∨ ∃ id h,c0.io id = some h∧h.nul = false∧h.blk = b)
  (hold : ∀ cc e fr,w.heap[b]? ≠ some (Go.Obj.cells cc e fr)) (hnew : ∀ cc e fr,ob ≠ .cells cc e fr) (hlp : (∃ r : Loop,ob = .loop r) ∨ ∀ r : Loop,w.heap[b]? ≠ some (Go.Obj.loop r)) : Tr c0 w0 c (w.putObj b ob):=by
 refine ⟨by simpa using t.size,fun b' hb' hf=>?_,t.mu,t.io,fun a=>(frozen_put hold hnew a).trans (t.frz a),t.env,t.muN,fun b' r hr=>?_⟩
 ·have hne : b' ≠ b:=fun e=>by
   subst e
   rcases hb with hle | ⟨id,h,hi,hn,e⟩
   ·omega
   ·exact hf id h hi hn e
  rw [World.putObj_heap_other hne]; exact t.keep b' hb' hf
 ·obtain ⟨r',hr'⟩:=t.loop b' r hr
  by_cases e : b' = b
  ·subst e
   rcases hlp with ⟨r2,rfl⟩ | hno
   ·exact ⟨r2,World.putObj_heap_same (Qaj.1 hr').1⟩
   ·exact absurd hr' (hno r')
  ·exact ⟨r',by rw [World.putObj_heap_other e]; exact hr'⟩
theorem Marks.poke {lo : Nat} {b : Nat} {ob : Go.Obj} (hb : w.heap[b]? ≠ some (Go.Obj.deferred (some []))) : ∀ {ds : List Deferred},Marks lo c w ds → Marks lo c (w.putObj b ob) ds
 | [],_=>trivial
 | d::ds,⟨⟨r,h1,h2,h3,h4,h5⟩,h6⟩=>⟨⟨r,h1,h2,by rw [World.putObj_heap_other fun e=>by subst e; exact hb h3]; exact h3,h4,h5⟩,Marks.poke hb h6⟩

theorem only_loop {b : Nat} {r : Loop} (r' : Loop) (h : w.heap[b]? = some (Go.Obj.loop r)) : Only w (w.putObj b (.loop r')) b :=
 ⟨by simp,fun b' hb=>World.putObj_heap_other hb,fun a=>frozen_put (fun cc e fr e2=>by rw [h] at e2; cases e2) (fun _ _ _ e=>by cases e) a,⟨rfl,rfl⟩,fun _ _=>⟨r',World.putObj_heap_same (Qaj.1 h).1⟩⟩

theorem loop_mu (H : SR P c s tmps Ts w) {b : Nat} {r : Loop} (h : w.heap[b]? = some (Go.Obj.loop r)) (x : Nat) : c.mu b x = none:=by
 cases hv : c.mu b x with
 | none=>rfl
 | some v=>have:=H.mu b x v hv; simp [World.cell?,h] at this

def yieldV (l : Nat) : Value:=.func (.yield l) #[] #[]
theorem SR.wit {id : Nat} {h : Home} (H : SR P c s tmps Ts w) (hi : c.io id = some h) : SR P c (wit id s) tmps (#[yieldV h.blk]::Ts) w:=by
 refine ⟨H.T,by simpa [Zv.wit] using H.Fl,fun i F t hF ht=>?_,H.O,H.dom,H.inj,H.mu,H.lt⟩
 cases i with
 | zero =>
   simp [Zv.wit] at hF ht; subst hF; subst ht
   intro t
   simp only [tget]
   split
   ·rename_i e; subst e; exact .yl id h hi
   ·exact .any _
 | succ i=>exact H.F i F t (by simpa [Zv.wit] using hF) (by simpa using ht)
theorem unwit_ok {id l : Nat} {s2 : St} (H : SR P c s tmps (#[yieldV l]::Ts) w) (h : unwit id s = some s2) : SR P c s2 tmps Ts w∧(∃ hh,c.io id = some hh∧hh.blk = l)∧s2.O = s.O:=by
 unfold unwit at h
 split at h
 ·rename_i V F hF
  split at h
  ·rename_i hy
   simp only [Option.some.injEq] at h; subst h
   have h0:=H.F 0 V #[yieldV l] (by simp [hF]) rfl 0
   refine ⟨⟨H.T,by have:=H.Fl; rw [hF] at this; simpa using this,fun i F' t hF' ht=>H.F (i + 1) F' t (by rw [hF]; simpa using hF') (by simpa using ht),H.O,H.dom,H.inj,H.mu,H.lt⟩,?_,rfl⟩
   cases hv : tget V 0 with
   | yl i =>
     rw [hv] at hy h0
     simp only [isYl,beq_iff_eq] at hy; subst hy
     have h0' : VR c (.yl i) (yieldV l):=by simpa using h0
     generalize hq : yieldV l = q at h0'
     cases h0' with
     | yl _ hh hi=>exact ⟨hh,hi,by simp only [yieldV,Value.func.injEq,Fn.yield.injEq] at hq; exact hq.1.symm⟩
   | _=>rw [hv] at hy; simp [isYl] at hy
  ·cases h
 ·cases h

def Lands (P : Program) (b : Frame) (a : Act) (w : World) (mc : Code) (e : AEx) (a' : Act) (w' : World) : Prop :=
 ∀ k cs,match e with
   | .nrm=>Steps P (lone (b.atR a (.code mc::k)) cs w) (lone (b.atR a' k) cs w')
   | .exit id=>∃ k₁,exitTo id k₁ = exitTo id k∧Steps P (lone (b.atR a (.code mc::k)) cs w) (lone (b.atR a' (.code (.exit id)::k₁)) cs w')
   | .ret=>∃ k₁,Steps P (lone (b.atR a (.code mc::k)) cs w) (lone (b.atR a' (.code .ret::k₁)) cs w')

def Code1 (P : Program) (cd : ACode) (s : St) (e : AEx) (s' : St) : Prop :=
 ∀ (N : Nat) (mc : Code),toCode P N mc = some (strip cd) → ∀ (lo : Nat) (c : Cx) (a : Act) (Ts : List (Array Value)) (w : World) (b : Frame),SR P c s a.tmps Ts w → N≤a.tmps.size → Marks lo c w a.defers → InRound b w → lo≤w.heap.size →
 ∃ c' a' w',SR P c' s' a'.tmps Ts w'∧Tr c w c' w'∧a'.tmps.size = a.tmps.size∧Marks lo c' w' a'.defers∧Lands P b a w mc e a' w'
def CodeOK (P : Program) (R : Orc) : Prop:=∀ cd s e s',R (.code cd s) = some (.ex e s') → Code1 P cd s e s'

theorem zip_TR {T : Env} : ∀ {ps : List Nat} {args : List LV} {vals : List Value} {T : Env} {tmps : Array Value} {N : Nat},TR c T tmps → VRs c args vals → (∀ d ∈ ps,d < N) → N≤tmps.size → ps.length = args.length →
  TR c ((ps.zip args).reverse++T) ((ps.zip vals).foldl (fun tm (p : Nat × Value)=>tm.setIfInBounds p.1 p.2) tmps)∧((ps.zip vals).foldl (fun tm (p : Nat × Value)=>tm.setIfInBounds p.1 p.2) tmps).size = tmps.size
 | [],args,vals,T,tmps,N,hT,_,_,_,_=>by simpa using hT
 | p::ps,[],vals,T,tmps,N,hT,_,_,_,h=>by simp at h
 | p::ps,x::args,[],T,tmps,N,hT,hv,_,_,h=>by have:=hv.len; simp at this
 | p::ps,x::args,v::vals,T,tmps,N,hT,hv,hp,hN,h=>by
   have h1:=hT.put (d:=p) (Qaf (hp p (by simp)) hN) hv.head
   have:=zip_TR (T:=T) (ps:=ps) (args:=args) (vals:=vals) (N:=N) h1 hv.tail (fun d hd=>hp d (by simp [hd])) (by simpa using hN) (by simpa using h)
   simpa using this

theorem rnd_ok {R : Orc} (IH : CodeOK P R) {E : FuncId → Option AFn} {id : Nat} {args : List LV} {lvl : Nat} {F : List Env} {O : Heap} {v : LV} {F' : List Env} {O' : Heap} (h : step E R (.rnd id args lvl F O) = some (.res v F' O'))
  {vals : List Value} (H : SR P c ⟨[],F,O,lvl⟩ #[] Ts w) (ha : VRs c args vals) {hh : Home} (hi : c.io id = some hh) :
  ∃ c' u w',SR P c' ⟨[(0,v)],F',O',lvl⟩ #[u] Ts w'∧Tr c w c' w' ∧ ∃ f tmps asg body,(Instr.yield hh.blk vals.toArray).run P w = .ok (.round hh.blk f tmps asg body) w ∧
    ∀ (cf : Frame) (cs : List Frame),Steps P (lone (Frame.round hh.blk f tmps asg body .normal) (cf::cs) w) (lone (cf.finish u) cs w'):=by
 simp only [step] at h
 unfold rndBeg at h
 split at h
 ·rename_i T ps asg body pend ho
  split at h
  ·rename_i hlen
   obtain ⟨o1,ho1,h⟩:=Qa.1 h
   unfold rndAsg at h
   split at h
   ·rename_i s1
    obtain ⟨s1',hw1,h⟩:=Qa.1 h
    simp only [rndMid1] at h
    unfold rndMid at h
    split at h
    ·rename_i T' ps' asg' b' p' hob
     obtain ⟨o2,ho2,h⟩:=Qa.1 h
     unfold rndBody at h
     split at h
     ·rename_i e s2
      obtain ⟨s2',hw2,h⟩:=Qa.1 h
      simp only [endRnd] at h
      unfold endRndK at h
      split at h
      ·rename_i T2 ps2 asg2 b2 p2 hob2
       simp only [Option.some.injEq,Out.res.injEq] at h
       obtain ⟨rfl,rfl,rfl⟩:=h
       -- the record
       obtain ⟨h0,hi0,hor⟩:=H.O id _ ho
       rw [hi] at hi0; cases hi0
       cases hor with
       | loop _ _ _ _ _ _ L N hn hwL hTL hN hp hps hasg hbody hst hpe hm =>
         let tm:=(ps.zip vals).foldl (fun tm (p : Nat × Value)=>tm.setIfInBounds p.1 p.2) L.tmps
         obtain ⟨hTT,hsz⟩:=zip_TR (T:=T) hTL ha hps hN hlen
         let b : Frame:={ (default : Frame) with fn:=L.fn,kind:=.normal,roundOf:=some hh.blk }
         have Ha : SR P c (wit id { T:=(ps.zip args).reverse++T,F:=F,O:=O,lvl:=lvl }) tm (#[yieldV hh.blk]::Ts) w :=
          SR.wit ⟨hTT,H.Fl,H.F,H.O,H.dom,H.inj,H.mu,H.lt⟩ hi
         obtain ⟨c1,a1,w1,H1,t1,hs1,hm1,land1⟩:=IH _ _ _ _ ho1 N L.assign hasg 0 c ⟨tm,[]⟩ _ w b Ha (by show N≤tm.size; rw [hsz]; exact hN) trivial (fun l hl=>by cases hl; exact ⟨L,hwL⟩) (Qcj _)
         obtain ⟨H1',⟨h1,hi1,hb1⟩,hO1⟩:=unwit_ok H1 hw1
         obtain ⟨h1x,hi1x,hor1⟩:=H1'.O id _ hob
         rw [hi1] at hi1x; cases hi1x
         cases hor1 with
         | loop _ _ _ _ _ _ L1 N1 hn1 hwL1 hTL1 hN1 hp1 hps1 hasg1 hbody1 hst1 hpe1 hmm1 =>
           rw [hb1] at hwL1
           have hlt1:=(Qaj.1 hwL1).1
           obtain ⟨H2,t2⟩:=H1'.upd (w':=w1.putObj hh.blk (.loop { L1 with state:=.busy })) hob hi1 hn1 (by rw [hb1]; exact only_loop _ hwL1) (o':=.loop T' ps' asg' b' .busy p')
            (OR.loop T' ps' asg' b' .busy p' { L1 with state:=.busy } N1 hn1 (by rw [hb1]; exact World.putObj_heap_same hlt1) hTL1 hN1 hp1 hps1 hasg1 hbody1 rfl (by simp) hmm1)
           have H2w:=H2.wit hi1
           rw [hb1] at H2w
           obtain ⟨c3,a3,w3,H3,t3,hs3,hm3,land3⟩:=IH _ _ _ _ ho2 N L.body hbody 0 c1 a1 _ _ b H2w (by rw [hs1]; show N≤tm.size; rw [hsz]; exact hN) (hm1.tr t2) (fun l hl=>by cases hl; exact ⟨_,World.putObj_heap_same hlt1⟩) (Qcj _)
           obtain ⟨H3',⟨h3,hi3,hb3⟩,hO3⟩:=unwit_ok H3 hw2
           obtain ⟨h3x,hi3x,hor3⟩:=H3'.O id _ hob2
           rw [hi3] at hi3x; cases hi3x
           cases hor3 with
           | loop _ _ _ _ _ _ L3 N3 hn3 hwL3 hTL3 hN3 hp3 hps3 hasg3 hbody3 hst3 hpe3 hmm3 =>
             rw [hb3] at hwL3
             have hlt3:=(Qaj.1 hwL3).1
             let jump : Option Code:=match e with | .nrm=>none | .exit id=>some (.exit id) | .ret=>some .ret
             have hjn : jump.isNone = decide (e = .nrm):=by cases e <;> rfl
             obtain ⟨H4,t4⟩:=H3'.upd (w':=w3.putObj hh.blk (.loop { L3 with state:=if jump.isNone then .ready else .done,pending:=jump })) hob2 hi3 hn3 (by rw [hb3]; exact only_loop _ hwL3) (o':=.loop T2 ps2 asg2 b2 (if e = .nrm then .ready else .done) e)
              (OR.loop T2 ps2 asg2 b2 (if e = .nrm then .ready else .done) e { L3 with state:=if jump.isNone then .ready else .done,pending:=jump } N3 hn3 (by rw [hb3]; exact World.putObj_heap_same hlt3) hTL3 hN3 hp3 hps3 hasg3 hbody3 (by cases e <;> rfl) (fun _=>by cases e <;> rfl) hmm3)
             refine ⟨c3,.bool (decide (e = .nrm)),_,⟨fun t=>?_,H4.Fl,H4.F,H4.O,H4.dom,H4.inj,H4.mu,H4.lt⟩,((t1.trans t2).trans t3).trans t4,L.fn,tm,L.assign,L.body,?_,fun cf cs=>?_⟩
             ·simp only [tget]
              split
              ·rename_i e; subst e; exact .bool _
              ·exact .any _
             ·have hsz2 : vals.toArray.size = L.params.size:=by
               have e1 : L.params.size = ps.length:=by rw [← hp]; simp
               have e2:=ha.len
               simp only [Qcl]; omega
              rw [run_yield hwL hsz2]
              have e : (L.params.zip vals.toArray).foldl (fun tmps (x : Tmp × Value)=>tmps.setIfInBounds x.1 x.2) L.tmps = tm:=by
               show _ = (ps.zip vals).foldl _ _
               rw [← hp,← Array.foldl_toList]
               congr 1
               simp
              rw [← e]
             ·have hb0 : Frame.round hh.blk L.fn tm L.assign L.body .normal = b.atR ⟨tm,[]⟩ [.code L.assign,.beginRound,.code L.body]:=by simp [Frame.round,Frame.atR,b]
              rw [hb0]
              refine (land1 [.beginRound,.code L.body] (cf::cs)).trans (.head (stepR_beginRound (l:=hh.blk) rfl (run_beginRound hwL1 hst1)) ?_)
              have hend:=run_endRound (P:=P) jump hwL3
              rw [hjn] at hend
              cases e with
              | nrm=>exact (land3 [] (cf::cs)).trans (.one (stepR_round_end (l:=hh.blk) rfl rfl hend))
              | ret =>
                obtain ⟨k1,hs⟩:=land3 [] (cf::cs)
                exact hs.trans (.one (stepR_round_ret (l:=hh.blk) rfl rfl hend))
              | exit i =>
                obtain ⟨k1,hk,hs⟩:=land3 [] (cf::cs)
                exact hs.trans (.one (stepR_round_exit (l:=hh.blk) rfl rfl (by rw [hk]; rfl) hend))
      ·cases h
     ·cases h
    ·cases h
   ·cases h
  ·cases h
 ·cases h
end
end Go.Zv

/- The engine, part 23: functions; code; all of it. -/
namespace Go.Zv
section
variable {P : Program} {c : Cx} {w w' : World} {s : St} {tmps : Array Value} {Ts : List (Array Value)}

/-! a function's results -/
theorem rd_loadVar {t : TypeId} {ag : Bool} {n : Nat} {x v : LV} {u : Value} (ha : isAggT P t = some ag) (hn : tsize P t = some n) (hO : HR P c w s.O) (hM : MR c w) (hx : VR c x u) (h : rd s.O ag n x = some v) :
  Says P c w (do loadVar t (← asAddr u)) v:=by
 obtain ⟨q,h1,h2⟩:=rd_says ha hn hO hM hx h
 have : ∃ q,u = .pointer (some q):=by
  unfold rd at h
  split at h
  ·cases hx; exact ⟨_,rfl⟩
  ·cases hx; exact ⟨_,rfl⟩
  ·cases hx; exact ⟨_,rfl⟩
  ·cases h
 obtain ⟨q',rfl⟩:=this
 exact ⟨q,h1,h2⟩

def resSem (tmps : Array Value) : ResultVar → Sem Value
 | .tmp t=>pure (tmps.getD t undef)
 | .cell a t=>do loadVar t (← asAddr (tmps.getD a undef))
theorem results_eq (fn : Func) (tmps : Array Value) : results fn tmps = (do let vs ← fn.results.mapM (resSem tmps); pure (if h : vs.size = 1 then vs[0] else .tuple vs)):=by
 unfold results
 congr 1
theorem res1_ok (H : SR P c s tmps Ts w) {r : ResultVar} {x : ARes} {v : LV} (hr : toRes P r = some x) (h : res1 s x = some v) :
  Says P c w (resSem tmps r) v:=by
 cases r with
 | tmp t =>
   simp only [toRes,Option.some.injEq] at hr; subst hr
   simp only [res1,Option.some.injEq] at h; subst h
   exact ⟨_,rfl,H.T t⟩
 | cell a t =>
   simp only [toRes,bind,Qa,Option.some.injEq] at hr
   obtain ⟨ag,hag,n,hn,rfl⟩:=hr
   exact rd_loadVar hag hn H.O H.mu (H.T a) h

theorem results_ok (H : SR P c s tmps Ts w) {fn : Func} {rs : List ARes} {vs : List LV} (hr : fn.results.toList.mapM (toRes P) = some rs) (h : resultsL s rs = some vs) :
  ∃ u,(results fn tmps).run P w = .ok u w∧VR c (tuple1 vs) u:=by
 have gen : ∀ (l : List ResultVar) (rs : List ARes) (vs : List LV),l.mapM (toRes P) = some rs → resultsL s rs = some vs →
   ∃ us : List Value,(l.mapM (resSem tmps)).run P w = .ok us w∧VRs c vs us:=by
  intro l
  induction l with
  | nil =>
    intro rs vs h1 h2
    simp at h1; subst h1
    simp only [resultsL,Option.some.injEq] at h2; subst h2
    exact ⟨[],by simp,VRs.nil c⟩
  | cons r l ih =>
    intro rs vs h1 h2
    simp only [Qbq,bind,Qa,pure,Option.some.injEq] at h1
    obtain ⟨x,hx,xs,hxs,rfl⟩:=h1
    obtain ⟨v,hv,h3⟩:=Qa.1 (show (res1 s x).bind (resultsK (resultsL s xs)) = some vs from h2)
    obtain ⟨vs',hvs,h4⟩:=Qa.1 (show (resultsL s xs).bind (consV v) = some vs from h3)
    simp only [consV,Option.some.injEq] at h4; subst h4
    obtain ⟨u,hu,hvu⟩:=res1_ok H hx hv
    obtain ⟨us,hus,hvus⟩:=ih xs vs' hxs hvs
    refine ⟨u::us,?_,VRs.cons hvu hvus⟩
    rw [Qbq,Sem.run_bind,hu]
    simp only [Result.andThen_ok,Sem.run_bind,hus,Sem.run_pure]
 obtain ⟨us,hus,hv⟩:=gen _ _ _ hr h
 have hrun : (fn.results.mapM (resSem tmps)).run P w = .ok us.toArray w:=by
  rw [Array.mapM_eq_mapM_toList,Sem.run_map,hus]; rfl
 have hres : (results fn tmps).run P w = .ok (if h : us.toArray.size = 1 then us.toArray[0] else .tuple us.toArray) w:=by
  rw [results_eq,Sem.run_bind,hrun]; rfl
 refine ⟨_,hres,?_⟩
 cases vs with
 | nil =>
   cases us with
   | nil=>exact .tup [] [] rfl (by simp)
   | cons u us=>have:=hv.len; simp at this
 | cons v vs =>
   cases us with
   | nil=>have:=hv.len; simp at this
   | cons u us =>
     cases vs with
     | nil =>
       cases us with
       | nil=>exact hv.head
       | cons _ _=>have:=hv.len; simp at this
     | cons v2 vs =>
       cases us with
       | nil=>have:=hv.len; simp at this
       | cons u2 us =>
         have : ¬ (u::u2::us).toArray.size = 1:=by simp
         rw [dif_neg this]
         exact .tup _ _ hv.len hv.at_

/-! the marks go -/
theorem marks_go {c0 : Cx} {w0 : World} : ∀ {ds : List Deferred} {w : World} {c : Cx} {s : St},SR P c s tmps Ts w → Tr c0 w0 c w → Marks w0.heap.size c w ds →
  ∃ w',SR P c s tmps Ts w'∧Tr c0 w0 c w' ∧ ∀ (fr : Frame) cs,fr.mode = .returning → fr.defers = ds → Steps P (lone fr cs w) (lone { fr with defers:=[] } cs w')
 | [],w,c,s,H,t,_=>⟨w,H,t,fun fr cs hm hd=>by rw [show { fr with defers:=[] } = fr by rw [← hd]]; exact Steps.refl _ _⟩
 | d :: ds,w,c,s,H,t,⟨⟨r,h1,h2,h3,h4,h5⟩,h6⟩=>by
   have hmu : ∀ x,c.mu r x = none:=fun x=>by
    cases hv : c.mu r x with
    | none=>rfl
    | some v=>have:=H.mu r x v hv; simp [World.cell?,h3] at this
   have H1:=H.poke (ob:=.deferred none) h4 hmu
   have t1:=t.poke (ob:=.deferred none) (.inl h2) (fun _ _ _ e=>by rw [h3] at e; cases e) (fun _ _ _ e=>by cases e) (.inr fun _ e=>by rw [h3] at e; cases e)
   have hm1 : Marks w0.heap.size c (w.putObj r (.deferred none)) ds:=by
    have gen : ∀ {ds : List Deferred},(∀ d' ∈ ds,∀ r',d'.target = .collected r' → r' ≠ r) → Marks w0.heap.size c w ds → Marks w0.heap.size c (w.putObj r (.deferred none)) ds:=by
     intro ds
     induction ds with
     | nil=>exact fun _ _=>trivial
     | cons d ds ih =>
       rintro h ⟨⟨r',g1,g2,g3,g4,g5⟩,g6⟩
       exact ⟨⟨r',g1,g2,by rw [World.putObj_heap_other (h d (by simp) r' g1)]; exact g3,g4,g5⟩,ih (fun d' hd'=>h d' (by simp [hd'])) g6⟩
    exact gen h5 h6
   obtain ⟨w',H2,t2,st⟩:=marks_go H1 t1 hm1
   refine ⟨w',H2,t2,fun fr cs hm hd=>.head (step_collected (by rw [hm]; exact fun e=>by cases e) hd h1 (run_takeDeferred h3)) ?_⟩
   exact st { fr with defers:=[]++ds } cs hm rfl

theorem args_TR : ∀ {args : List LV} {vals : List Value} {tmps : Array Value} {i : Nat},VRs c args vals → (∀ (j : Nat) (v : Value),vals[j]? = some v → tmps.getD (i + j) undef = v) → TR c (numArgs i args) tmps
 | [],vals,tmps,i,_,_=>fun t=>by simp [numArgs,tget]; exact .any _
 | x::args,[],tmps,i,h,_=>by have:=h.len; simp at this
 | x::args,v::vals,tmps,i,h,hg=>fun t=>by
   simp only [numArgs,tget]
   split
   ·rename_i e; subst e
    have:=hg 0 v rfl
    simp only [Qdh] at this
    rw [this]; exact h.head
   ·exact args_TR (i:=i + 1) h.tail (fun j v hj=>by rw [show i + 1 + j = i + (j + 1) by omega]; exact hg (j + 1) v (by simpa using hj)) t

def FnIs (P : Program) (f : FuncId) : AFn → Prop
 | .code res body=>∃ fn,P.funcs[f]? = some fn∧toFn P fn = some (.code res (strip body))∧(fn.name == "runtime.NumGoroutine") = false
 | .two res body=>∃ fn,P.funcs[f]? = some fn∧toFn P fn = some (.code res (strip body))∧(fn.name == "runtime.NumGoroutine") = false
def EOK (P : Program) (E : FuncId → Option AFn) : Prop:=∀ f fn,E f = some fn → FnIs P f fn

theorem fnc_ok {R : Orc} (IH : CodeOK P R) {f : FuncId} {res : List ARes} {body : ACode} (hE1 : FnIs P f (.code res body)) {args : List LV} {lvl : Nat} {F : List Env} {O : Heap} {v : LV} {F' : List Env} {O' : Heap} (h : fnCode R res body args lvl F O = some (.res v F' O'))
  {vals : List Value} (H : SR P c ⟨[],F,O,lvl⟩ #[] Ts w) (ha : VRs c args vals) :
  ∃ c' u w',SR P c' ⟨[(0,v)],F',O',lvl⟩ #[u] Ts w'∧Tr c w c' w'∧CallsTo P f vals.toArray w u w':=by
 obtain ⟨func,hf,hto,hname⟩:=hE1
 obtain ⟨o,ho,h⟩:=Qa.1 (show (R (.code body { T:=numArgs 0 args,F,O,lvl })).bind (fnEnd res) = some _ from h)
 have hfin : ∃ e s,o = .ex e s∧(e = .nrm ∨ e = .ret)∧endFn res s = some (.res v F' O'):=by
  cases o with
  | res _ _ _=>cases h
  | ex e s=>cases e with
    | nrm=>exact ⟨_,s,rfl,.inl rfl,h⟩
    | ret=>exact ⟨_,s,rfl,.inr rfl,h⟩
    | exit=>cases h
 obtain ⟨e,s,rfl,he,hend⟩:=hfin
 obtain ⟨vs,hvs,hend⟩:=Qa.1 (show (resultsL s res).bind (outK s) = some _ from hend)
 simp only [outK,Option.some.injEq,Out.res.injEq] at hend
 obtain ⟨rfl,rfl,rfl⟩:=hend
 unfold toFn at hto
 split at hto
 ·cases hto
 ·rename_i mc hbody
  split at hto
  ·rename_i rs cd hrs hcd
   simp only [Option.some.injEq,AFn.code.injEq] at hto
   obtain ⟨rfl,rfl⟩:=hto
   let tm : Array Value:=vals.toArray++Array.replicate (func.ntmps - vals.toArray.size) undef
   let b : Frame:={ (default : Frame) with fn:=f,kind:=.normal,roundOf:=none }
   have henter : Frame.enter P f vals.toArray .normal = b.atR ⟨tm,[]⟩ [.code mc]:=by simp [Frame.enter,Frame.atR,hf,hbody,b,tm]
   have hT0 : TR c (numArgs 0 args) tm:=args_TR ha fun j v hj=>by
    have hlt : j < vals.length:=(Qe.1 hj).1
    simp only [tm,Qi,Qbe]
    rw [Array.getElem?_append_left (by simpa using hlt)]
    simp [hj]
   have H0 : SR P c { T:=numArgs 0 args,F:=F,O:=O,lvl:=lvl } tm Ts w:=⟨hT0,H.Fl,H.F,H.O,H.dom,H.inj,H.mu,H.lt⟩
   obtain ⟨c1,a1,w1,H1,t1,hs1,hm1,land⟩:=IH _ _ _ _ ho func.ntmps mc hcd w.heap.size c ⟨tm,[]⟩ Ts w b H0 (by simp [tm]; omega) trivial (fun l hl=>by cases hl) (Q8 _)
   -- the frame is on its way out
   have hout : ∃ todo : List Frame → List Item,∀ cs,Steps P (lone (Frame.enter P f vals.toArray .normal) cs w) (lone { b.atR a1 (todo cs) with mode:=.returning } cs w1):=by
    have : ∀ cs,∃ todo,Steps P (lone (Frame.enter P f vals.toArray .normal) cs w) (lone { b.atR a1 todo with mode:=.returning } cs w1):=by
     intro cs
     rw [henter]
     rcases he with rfl | rfl
     ·exact ⟨[],(land [] cs).trans (.one (stepR_end rfl))⟩
     ·obtain ⟨k1,hs⟩:=land [] cs
      exact ⟨_,hs.trans (.one (stepR_ret rfl))⟩
    exact ⟨fun cs=>Classical.choose (this cs),fun cs=>Qbw (this cs)⟩
   obtain ⟨todo,hsteps⟩:=hout
   obtain ⟨w2,H2,t2,hgo⟩:=marks_go H1 t1 hm1
   obtain ⟨u,hu,hvu⟩:=results_ok H2 hrs hvs
   refine ⟨c1,u,w2,⟨fun t=>?_,H2.Fl,H2.F,H2.O,H2.dom,H2.inj,H2.mu,H2.lt⟩,t2,⟨func,hf,by rw [hbody]; rfl,hname⟩,fun cs=>⟨_,(hsteps cs).trans (hgo _ cs rfl rfl),rfl,rfl,rfl,rfl,func,hf,hu⟩⟩
   simp only [tget]
   split
   ·rename_i e; subst e; exact hvu
   ·exact .any _
  ·cases hto
theorem two_back {H0 : SR P c ⟨[],[],[],0⟩ #[] Ts w} {c' : Cx} {u : Value} {w' : World} {v0 r : LV} {F0 : List Env} {O0 : Heap} (H1 : SR P c' ⟨[(0,v0)],F0,O0,0⟩ #[u] Ts w') (t : Tr c w c' w') (hr : exportV O0 v0 = some r) {v : LV} {F' : List Env} {O' : Heap} (e : twoS (import_ 0 ⟨[],[],[],0⟩ r) = .res v F' O') :
  ∃ c',SR P c' ⟨[(0,v)],F',O',0⟩ #[u] Ts w'∧Tr c w c' w':=by
 have hTs : Ts = []:=by have:=H0.Fl; simpa using this.symm
 subst hTs
 have hio : ∀ id,c.io id = none:=fun id=>by
  cases hi : c.io id with
  | none=>rfl
  | some h=>obtain ⟨o,e⟩:=H0.dom id h hi; simp [oget] at e
 have ec : c = c.bare:=by
  cases c with | mk mu io=>simp only [Cx.bare,Cx.mk.injEq,true_and]; funext id; exact hio id
 obtain ⟨c2,H2,t2,hv2⟩:=back_in H0 (by rw [← ec]; exact t) H1 (v:=v0) (u:=u) (by simpa [tget] using H1.T 0) hr 0
 simp only [twoS,Out.res.injEq] at e
 obtain ⟨rfl,rfl,rfl⟩:=e
 refine ⟨c2,⟨fun t=>?_,H2.Fl,H2.F,H2.O,H2.dom,H2.inj,H2.mu,H2.lt⟩,t2⟩
 simp only [tget]
 split
 ·rename_i e; subst e; exact hv2
 ·exact .any _
theorem fn_ok {R : Orc} (IH : CodeOK P R) {E : FuncId → Option AFn} (hE : EOK P E) {f : FuncId} {args : List LV} {lvl : Nat} {F : List Env} {O : Heap} {v : LV} {F' : List Env} {O' : Heap} (h : step E R (.fn f args lvl F O) = some (.res v F' O'))
  {vals : List Value} (H : SR P c ⟨[],F,O,lvl⟩ #[] Ts w) (ha : VRs c args vals) :
  ∃ c' u w',SR P c' ⟨[(0,v)],F',O',lvl⟩ #[u] Ts w'∧Tr c w c' w'∧CallsTo P f vals.toArray w u w':=by
 obtain ⟨fn,hfn,hg⟩:=Qa.1 (show (E f).bind (fnBeg R args lvl F O) = some _ from h)
 clear h
 have hE1:=hE f fn hfn
 cases fn with
 | code res body=>exact fnc_ok IH hE1 hg H ha
 | two res body =>
   simp only [fnBeg] at hg
   split at hg
   ·rename_i hisE
    split at hg
    ·rename_i hc
     obtain ⟨hl,hF,hO⟩:=hc
     have hF0 : F = []:=by simpa using hF
     have hO0 : O = []:=by simpa using hO
     subst hF0; subst hO0; subst hl
     obtain ⟨r1,h1,h⟩:=Qa.1 (show ((fnCode R res body [.nul] 0 [] []).bind resK).bind (twoK R res body) = some (.res v F' O') from hg)
     obtain ⟨o1,ho1,h1⟩:=Qa.1 h1
     obtain ⟨r2,h2,h⟩:=Qa.1 (show ((fnCode R res body [.emp] 0 [] []).bind resK).bind (twoI r1) = _ from h)
     obtain ⟨o2,ho2,h2⟩:=Qa.1 h2
     unfold twoI at h
     split at h
     ·rename_i hs
      have:=LV.same_eq _ _ hs
      subst this
      have e:=Option.some.inj h
      have ea : args = [.vs []]:=by
       unfold isE at hisE
       split at hisE
       ·rfl
       ·cases hisE
      subst ea
      obtain ⟨u0,hu0,hv0⟩:=ha.getSome (i:=0) rfl
      have hvals : vals = [u0]:=by
       cases vals with
       | nil=>simp at hu0
       | cons a l =>
         have hlen:=ha.len
         simp at hu0 hlen
         rw [hu0,hlen]
      subst hvals
      have go : ∀ (x : LV) (o : Out),VR c x u0 → fnCode R res body [x] 0 [] [] = some o → resK o = some r1 → ∃ c' u w',SR P c' ⟨[(0,v)],F',O',0⟩ #[u] Ts w'∧Tr c w c' w'∧CallsTo P f #[u0] w u w':=by
       intro x o hx ho hr
       cases o with
       | ex _ _=>cases hr
       | res v0 F0 O0 =>
         obtain ⟨c',u,w',H1,t1,hcall⟩:=fnc_ok IH (f:=f) (res:=res) (body:=body) hE1 ho H (VRs.cons hx (VRs.nil c))
         obtain ⟨c2,H2,t2⟩:=two_back (H0:=H) H1 t1 hr e
         exact ⟨c2,u,w',H2,t2,hcall⟩
      cases hv0 with
      | vs0 a cap hz =>
        cases a with
        | none=>rw [hz rfl] at go ⊢; exact go .nul o1 .nul ho1 h1
        | some a=>exact go .emp o2 (.emp a cap) ho2 h2
      | vs _ _ _ _ _ _ hne=>exact absurd rfl hne
     ·cases h
    ·cases hg
   ·exact fnc_ok IH (f:=f) (res:=res) (body:=body) hE1 hg H ha
end
end Go.Zv

/- The engine, part 24: code. -/
namespace Go.Zv
section
variable {P : Program} {c : Cx} {w w' : World} {s : St} {tmps : Array Value} {Ts : List (Array Value)}

theorem toReg_shape {N : Nat} {ops : Array Oper} {draw : Bool} {x : ACode} (h : toReg P N ops draw = some x) : x = .bad ∨ ∃ q l,x = .reg q l none []:=by
 unfold toReg at h
 split at h
 ·cases h
 ·split at h
  ·dsimp only at h
   split at h
   ·simp only [Option.some.injEq] at h; subst h; exact .inr ⟨_,_,rfl⟩
   ·split at h
    ·simp only [Option.some.injEq] at h; subst h; exact .inr ⟨_,_,rfl⟩
    ·split at h
     ·simp only [Option.some.injEq] at h; subst h; exact .inr ⟨_,_,rfl⟩
     ·split at h
      ·simp only [Option.some.injEq] at h; subst h; exact .inr ⟨_,_,rfl⟩
      ·simp only [Option.some.injEq] at h; subst h; exact .inl rfl
  ·simp only [Option.some.injEq] at h; subst h; exact .inr ⟨_,_,rfl⟩

inductive Shape (P : Program) (N : Nat) : Code → ACode → Prop
 | skip : Shape P N .skip .skip
 | label (l) : Shape P N (.label l) .skip
 | region (id ops draw q l) (h : toReg P N ops draw = some (.reg q l none [])) : Shape P N (.region id ops draw) (.reg q l none [])
 | seq (m1 m2 x y) (h1 : toCode P N m1 = some x) (h2 : toCode P N m2 = some y) : Shape P N (.seq m1 m2) (.seq x y)
 | cond (c c' m1 m2 x y) (h0 : toOpd c = some c') (h1 : toCode P N m1 = some x) (h2 : toCode P N m2 = some y) : Shape P N (.cond c m1 m2) (.cond c' x y)
 | block (id m x) (h : toCode P N m = some x) : Shape P N (.block id m) (.block id x none [])
 | loop (m x) (h : toCode P N m = some x) : Shape P N (.loop m) (.loop x none [])
 | rf (f f' ps m1 m2 x y) (h0 : toOpd f = some f') (hp : ∀ d ∈ ps.toList,d < N) (h1 : toCode P N m1 = some x) (h2 : toCode P N m2 = some y) : Shape P N (.rangeFunc f ps m1 m2) (.rf 0 f' ps.toList x y)
 | exit (id) : Shape P N (.exit id) (.exit id)
 | scope (m x) (h : toCode P N m = some x) : Shape P N (.scope m) (.scope x)
 | ret : Shape P N .ret .ret
 | bad (m) : Shape P N m .bad
theorem shape_of {N : Nat} {mc : Code} {x : ACode} (h : toCode P N mc = some x) : Shape P N mc x:=by
 cases mc with
 | skip=>simp only [toCode,Option.some.injEq] at h; subst h; exact .skip
 | region id ops draw =>
   simp only [toCode] at h
   rcases toReg_shape h with rfl | ⟨q,l,rfl⟩
   ·exact .bad _
   ·exact .region _ _ _ _ _ h
 | seq a b =>
   simp only [toCode] at h
   split at h
   ·rename_i x y h1 h2
    simp only [Option.some.injEq] at h; subst h; exact .seq _ _ _ _ h1 h2
   ·cases h
 | cond c a b =>
   simp only [toCode] at h
   split at h
   ·rename_i c' x y h0 h1 h2
    simp only [Option.some.injEq] at h; subst h; exact .cond _ _ _ _ _ _ h0 h1 h2
   ·cases h
 | block id b =>
   simp only [toCode] at h
   split at h
   ·rename_i x h1
    simp only [Option.some.injEq] at h; subst h; exact .block _ _ _ h1
   ·cases h
 | loop b =>
   simp only [toCode] at h
   split at h
   ·rename_i x h1
    simp only [Option.some.injEq] at h; subst h; exact .loop _ _ h1
   ·cases h
 | rangeFunc f ps a b =>
   simp only [toCode] at h
   split at h
   ·rename_i f' x y h0 h1 h2
    split at h
    ·rename_i hp
     simp only [Option.some.injEq] at h; subst h
     exact .rf _ _ _ _ _ _ _ h0 (fun d hd=>by simpa using Qj.1 hp d hd) h1 h2
    ·cases h
   ·cases h
 | exit id=>simp only [toCode,Option.some.injEq] at h; subst h; exact .exit _
 | scope b =>
   simp only [toCode] at h
   split at h
   ·rename_i x h1
    simp only [Option.some.injEq] at h; subst h; exact .scope _ _ h1
   ·cases h
 | ret=>simp only [toCode,Option.some.injEq] at h; subst h; exact .ret
 | label _=>simp only [toCode,Option.some.injEq] at h; subst h; exact .label _
 | goto _=>simp only [toCode,Option.some.injEq] at h; subst h; exact .bad _
 | refuse _=>simp only [toCode,Option.some.injEq] at h; subst h; exact .bad _

theorem steps_cases {m m' : Machine} (h : Steps P m m') : m = m' ∨ ∃ m1,Go.step P m = .next m1∧Steps P m1 m':=by
 obtain ⟨n,hn⟩:=h
 cases n with
 | zero=>left; simp [runN] at hn; exact hn
 | succ n =>
   simp only [runN] at hn
   cases hs : Go.step P m with
   | next m1=>rw [hs] at hn; exact .inr ⟨m1,rfl,n,hn⟩
   | ended o w=>rw [hs] at hn; cases hn
theorem lone_fr {fr fr' : Frame} {cs cs' : List Frame} (h : lone fr cs w = lone fr' cs' w') : fr = fr':=by
 simp only [lone,Machine.mk.injEq] at h
 have:=h.2.1
 simp at this
 exact this.1

theorem stepR_scope' {b : Frame} {a : Act} {k : List Item} {cs : List Frame} {x : Code} : Go.step P (lone (b.atR a (.code (.scope x)::k)) cs w) = .next (lone (b.atR a (.code x :: .inScope x::k)) cs w) :=
 step_lone_go (by simp [stepG,stepG.exec,Frame.atR])
theorem stepR_inScope' {b : Frame} {a : Act} {k : List Item} {cs : List Frame} {x : Code} : Go.step P (lone (b.atR a (.inScope x::k)) cs w) = .next (lone (b.atR a k) cs w) :=
 step_lone_go (by simp [stepG,stepG.exec,Frame.atR])

theorem relabel {b : Frame} {a : Act} {k td : List Item} {cs : List Frame} {m : Code} {a' : Act} (h : Steps P (lone (b.atR a (.code (.loop m)::k)) cs w) (lone (b.atR a' td) cs w')) (hne : td ≠ .code (.loop m)::k) :
  Steps P (lone (b.atR a (.inLoop m::k)) cs w) (lone (b.atR a' td) cs w'):=by
 rcases steps_cases h with e | ⟨m1,h1,h2⟩
 ·have:=lone_fr e
  simp only [Frame.atR,Frame.mk.injEq] at this
  exact absurd this.2.2.1.symm hne
 ·rw [stepR_loop] at h1
  cases h1
  exact .head stepR_inLoop h2

theorem stepR_rangeFunc_goes {b : Frame} {a : Act} {k : List Item} {cs : List Frame} {g : Operand} {ps : Array Tmp} {assign body : Code} {l : Nat} {mark : List Deferred} {w₁ w₂ : World} {d : Deferred} {nx : Next} {u : Value}
  (he : (Instr.enterLoop b.fn a.tmps ps assign body b.roundOf).run P w = .ok (l,mark) w₁)
  (hres : (Deferred.ofValue (a.eval g) #[.func (.yield l) #[] #[]]).run P w₁ = .ok d w₁) (hinv : (invoke d.target d.args).run P w₁ = .ok nx w₁) (hg : Goes P nx w₁ u w₂) :
  Steps P (lone (b.atR a (.code (.rangeFunc g ps assign body)::k)) cs w) (lone (b.atR { a with defers:=mark++a.defers } (.endRangeFunc l::k)) cs w₂):=by
 have hev : (Act.eval ({ tmps:=a.tmps,defers:=mark++a.defers } : Act)) = a.eval:=by funext x; cases x <;> rfl
 have hres' : Sem.run P (resolve ({ tmps:=a.tmps,defers:=mark++a.defers } : Act).eval { callee:=.value g,args:=#[.const (.func (.yield l) #[] #[])],argTypes:=#[] } 0) w₁ = .ok d w₁:=by
  rw [hev]
  simpa [resolve,Act.eval] using hres
 have hev2:=Frame.eval_atR b { a with defers:=mark++a.defers } (.inRangeFunc l::k)
 simp only [Frame.atR] at hev2
 rcases hg with ⟨f,args,rfl,hs⟩ | ⟨l',f,tm,asg,bd,rfl,hs⟩
 ·have:=hs (b.atR { a with defers:=mark++a.defers } (.inRangeFunc l::k)) cs
  rw [finish_atR_inRangeFunc] at this
  refine .head (step_lone_go ?_) this
  simp [stepG,stepG.exec,Frame.atR,Sem.runT_eq,he,GStep.bare_after,stepG.apply,hev2,Sem.run_bind,hres',hinv,Result.andThen]
 ·have:=hs (b.atR { a with defers:=mark++a.defers } (.inRangeFunc l::k)) cs
  rw [finish_atR_inRangeFunc] at this
  refine .head (step_lone_go ?_) this
  simp [stepG,stepG.exec,Frame.atR,Sem.runT_eq,he,GStep.bare_after,stepG.apply,hev2,Sem.run_bind,hres',hinv,Result.andThen]

theorem run_enterLoop_inner {fn : FuncId} {tmps : Array Value} {ps : Array Tmp} {assign body : Code} {l0 : Nat} {r : Loop} (h : w.heap[l0]? = some (Go.Obj.loop r)) :
  (Instr.enterLoop fn tmps ps assign body (some l0)).run P w = .ok (w.heap.size,[]) (w.alloc (.loop { state:=.ready,pending:=none,fn,tmps,params:=ps,assign,body,defers:=r.defers })):=by
 unfold Instr.enterLoop
 simp [Sem.run_bind,run_getLoop h,run_newObj_alloc,Result.andThen,Sem.run_pure]

theorem rf_ok {R : Orc} (IHf : FnOK P R) (IHr : RndOK P R) {id id2 : Nat} {f : Opd} {ps : List Nat} {asg body : ACode} {e : AEx} {s' : St} (h : rfK R id id2 f (begRf id ps asg body s) = some (.ex e s'))
  {N : Nat} {g : Operand} {psA : Array Tmp} {m1 m2 : Code} (hf : toOpd g = some f) (hps : psA.toList = ps) (hp : ∀ d ∈ ps,d < N) (h1 : toCode P N m1 = some (strip asg)) (h2 : toCode P N m2 = some (strip body))
  {lo : Nat} {a : Act} {b : Frame} (H : SR P c s a.tmps Ts w) (hN : N≤a.tmps.size) (hm : Marks lo c w a.defers) (hr : InRound b w) (hlo : lo≤w.heap.size) :
  ∃ c' a' w',SR P c' s' a'.tmps Ts w'∧Tr c w c' w'∧a'.tmps.size = a.tmps.size∧Marks lo c' w' a'.defers∧Lands P b a w (.rangeFunc g psA m1 m2) e a' w':=by
 obtain ⟨c0,H0,t0,hn0,hio0,_⟩:=H.free id
 -- the record is laid
 have enter : ∃ (l : Nat) (mark : List Deferred) (w1 : World) (df : Nat),(Instr.enterLoop b.fn a.tmps psA m1 m2 b.roundOf).run P w = .ok (l,mark) w1∧Grew w w1∧w.heap.size≤l∧l < w1.heap.size ∧
   w1.heap[l]? = some (Go.Obj.loop { state:=.ready,pending:=none,fn:=b.fn,tmps:=a.tmps,params:=psA,assign:=m1,body:=m2,defers:=df }) ∧
   ∀ c1 : Cx,Marks lo c1 w1 a.defers → (∀ j hh,c1.io j = some hh → hh.nul = false → hh.blk < w.heap.size ∨ hh.blk = l) → Marks lo c1 w1 (mark++a.defers):=by
  cases hro : b.roundOf with
  | none =>
    refine ⟨_,_,_,w.heap.size,run_enterLoop_outer ..,?_,Nat.le_succ _,by simp only [World.size_alloc]; omega,?_,fun c1 hm1 hio=>⟨⟨w.heap.size,rfl,hlo,?_,fun j hh hj hn e=>?_,fun d' hd' r' hr' e=>?_⟩,hm1⟩⟩
    ·exact (Grew.push w _ rfl).trans (Grew.push (w.alloc (.deferred (some []))) _ rfl)
    ·have:=World.alloc_heap_new (w.alloc (.deferred (some []))) (Go.Obj.loop { state:=.ready,pending:=none,fn:=b.fn,tmps:=a.tmps,params:=psA,assign:=m1,body:=m2,defers:=w.heap.size })
     rwa [World.size_alloc] at this
    ·show ((w.heap.push _).push _)[w.heap.size]? = _
     rw [Array.getElem?_push_lt (by simp)]
     simp
    ·rcases hio j hh hj hn with h3 | h3 <;> omega
    ·subst e
     have hold : ∀ {ds : List Deferred},Marks lo c w ds → d' ∈ ds → d'.target = .collected w.heap.size → False:=by
      intro ds
      induction ds with
      | nil=>intro _ h; cases h
      | cons x ds ih =>
        rintro ⟨⟨r,g1,g2,g3,g4,g5⟩,g6⟩ hmem ht
        cases hmem with
        | head =>
          rw [g1] at ht; cases ht
          have:=(Qaj.1 g3).1
          omega
        | tail _ hmem=>exact ih g6 hmem ht
     exact hold hm hd' hr'
  | some l0 =>
    obtain ⟨r,hr0⟩:=hr l0 hro
    exact ⟨_,_,_,r.defers,run_enterLoop_inner hr0,Grew.push w _ rfl,Q8 _,by simp only [World.size_alloc]; omega,World.alloc_heap_new _ _,fun c1 hm1 _=>hm1⟩
 obtain ⟨l,mark,w1,df,hent,hgrew,hle,hlt,hwl,hmarks⟩:=enter
 obtain ⟨c1,H1,t1,hi1,hio1,hmu1⟩:=H0.push (free_gone s id) (o:=.loop (St.free id s).T ps asg body .ready .nrm) (h:=⟨l,0,0,0,false,none,by simp⟩) hgrew (fun _=>⟨hle,hlt⟩) (fun c' hmu hio hmn =>
  OR.loop _ ps asg body .ready .nrm _ N rfl hwl (H0.T.mono hmu hio) hN hps hp h1 h2 rfl (fun _=>rfl) (hmn rfl))
 have H1 : SR P c1 (begRf id ps asg body s) a.tmps Ts w1:=H1
 have hm1 : Marks lo c1 w1 (mark++a.defers):=hmarks c1 (hm.tr (t0.trans t1)) fun j hh hj hn=>by
  by_cases e : j = id
  ·subst e; rw [hi1] at hj; cases hj; exact .inr rfl
  ·obtain ⟨o,ho⟩:=H1.dom j hh hj
   have ho' : oget (St.free id s).O j = some o:=by
    simp only [begRf,begRf2,St.push,oget,if_neg (Ne.symm e)] at ho; exact ho
   obtain ⟨h0,hi0,_⟩:=H0.O j o ho'
   have:=hio1 j h0 hi0
   rw [hj] at this; cases this
   exact .inl (H0.lt j hh hi0 hn)
 -- the call
 unfold rfK at h
 obtain ⟨⟨v,s2⟩,hcall,h⟩:=Qa.1 h
 have hargs : VRs c1 [LV.yl id] [yieldV l]:=VRs.cons (.yl id ⟨l,0,0,0,false,none,by simp⟩ hi1) (VRs.nil _)
 obtain ⟨c2,u,w2,H2,t2,_,d,nx,hd,hinv,hgo⟩:=callV_ok IHf IHr (H1.wit hi1) (opd_ok (a:=a) H1.T hf) hargs hcall
 obtain ⟨s3,hw3,h⟩:=Qa.1 (show (unwit id s2).bind (endRf id) = some _ from h)
 obtain ⟨H3,⟨h3,hi3,hb3⟩,hO3⟩:=unwit_ok H2 hw3
 have hb3 : h3.blk = l:=hb3
 simp only [endRf] at h
 unfold endRfK at h
 split at h
 ·rename_i T' ps' asg' b' st p hob
  split at h
  ·cases h
  ·rename_i hnb
   simp only [Option.some.injEq,Out.ex.injEq] at h
   obtain ⟨rfl,rfl⟩:=h
   obtain ⟨h3x,hi3x,hor⟩:=H3.O id _ hob
   rw [hi3] at hi3x; cases hi3x
   cases hor with
   | loop _ _ _ _ _ _ L N3 hn3 hwL hTL hN3 hp3 hps3 hasg3 hbody3 hst3 hpe3 hmm3 =>
     rw [hb3] at hwL
     obtain ⟨c4,H4,t4,hn4,hio4,hmu4⟩:=H3.free id
     have hun : ∀ j hh,c4.io j = some hh → hh.nul = false → hh.blk ≠ l:=fun j hh hj hn=>by
      by_cases e : j = id
      ·subst e; rw [hn4] at hj; cases hj
      ·rw [hio4 j e] at hj
       rw [← hb3]
       exact H3.inj j id hh h3 e hj hi3 hn hn3
     have H5:=H4.poke (ob:=.loop { L with state:=.exhausted }) hun (loop_mu H4 hwL)
     have t5:=(((t0.trans t1).trans t2).trans t4).poke (b:=l) (ob:=.loop { L with state:=.exhausted }) (.inl hle) (fun _ _ _ e=>by rw [hwL] at e; cases e) (fun _ _ _ e=>by cases e) (.inl ⟨_,rfl⟩)
     have hm5 : Marks lo c4 (w2.putObj l (.loop { L with state:=.exhausted })) (mark++a.defers):=Marks.poke (by rw [hwL]; exact fun e=>by cases e) ((hm1.tr t2).tr t4)
     have hbusy : L.state ≠ .busy:=by
      rw [hst3]
      cases st with
      | ready=>exact fun e=>by cases e
      | done=>exact fun e=>by cases e
      | busy=>exact absurd rfl hnb
     have hend:=run_endLoop (P:=P) hwL hbusy
     refine ⟨c4,{ a with defers:=mark++a.defers },_,H5,t5,rfl,hm5,fun k cs=>?_⟩
     have hst:=(stepR_rangeFunc_goes (k:=k) (cs:=cs) hent hd hinv hgo).trans (.one (stepR_endRangeFunc hend))
     have hpe:=hpe3 hnb
     cases p with
     | nrm =>
       rw [show (L.pending.map Item.code).toList++k = k by rw [show L.pending = none from hpe]; rfl] at hst
       exact hst
     | exit i =>
       rw [show (L.pending.map Item.code).toList++k = .code (.exit i)::k by rw [show L.pending = some (.exit i) from hpe]; rfl] at hst
       exact ⟨k,rfl,hst⟩
     | ret =>
       rw [show (L.pending.map Item.code).toList++k = .code .ret::k by rw [show L.pending = some .ret from hpe]; rfl] at hst
       exact ⟨k,hst⟩
 ·cases h

def DrawOK (P : Program) (R : Orc) : Prop:=∀ (q : List Chk) (l : List AOper) (s s2 : St),runQ R l s (some q) = some s2 →
 ∀ (N id : Nat) (ops : Array Oper) (draw : Bool),toReg P N ops draw = some (.reg (some q) (l.map fun o=>{ o with fz:=true }) none []) →
 ∀ (c : Cx) (a : Act) (Ts : List (Array Value)) (w : World) (b : Frame),SR P c s a.tmps Ts w → N≤a.tmps.size →
 ∃ c' a' w',SR P c' s2 a'.tmps Ts w'∧Tr c w c' w'∧a'.tmps.size = a.tmps.size∧a'.defers = a.defers ∧ ∀ k cs,Steps P (lone (b.atR a (.code (.region id ops draw)::k)) cs w) (lone (b.atR a' k) cs w')

theorem code_ok {R : Orc} (IH : CodeOK P R) (IHf : FnOK P R) (IHr : RndOK P R) (hD : DrawOK P R) {E : FuncId → Option AFn} {cd : ACode} {e : AEx} {s' : St} (h : step E R (.code cd s) = some (.ex e s')) : Code1 P cd s e s':=by
 intro N mc hmc lo c a Ts w b H hN hm hr hlo
 have hsh:=shape_of hmc
 cases cd with
 | skip =>
   simp only [step,Option.some.injEq,Out.ex.injEq] at h
   obtain ⟨rfl,rfl⟩:=h
   simp only [strip] at hsh
   cases hsh with
   | skip=>exact ⟨c,a,w,H,Tr.refl _ _,rfl,hm,fun k cs=>.one stepR_skip⟩
   | label l=>exact ⟨c,a,w,H,Tr.refl _ _,rfl,hm,fun k cs=>.one stepR_label⟩
 | reg q ops mask drop =>
   simp only [strip] at hsh
   obtain ⟨s2,hq,h⟩:=Qa.1 (show (runQ R ops s q).bind (regR mask drop) = some _ from h)
   simp only [regR,Option.some.injEq,Out.ex.injEq] at h
   obtain ⟨rfl,rfl⟩:=h
   cases hsh with
   | region id mops draw q l hreg =>
     have key : ∃ c' a' w',SR P c' s2 a'.tmps Ts w'∧Tr c w c' w'∧a'.tmps.size = a.tmps.size∧a'.defers = a.defers ∧ ∀ k cs,Steps P (lone (b.atR a (.code (.region id mops draw)::k)) cs w) (lone (b.atR a' k) cs w'):=by
      cases q with
      | some q=>exact hD q ops s s2 hq N id mops draw hreg c a Ts w b H hN
      | none =>
        unfold toReg at hreg
        split at hreg
        ·cases hreg
        ·rename_i l hl
         split at hreg
         ·dsimp only at hreg
          split at hreg
          ·simp only [Option.some.injEq,ACode.reg.injEq] at hreg
           cases hreg.1
          ·split at hreg
           ·simp only [Option.some.injEq,ACode.reg.injEq] at hreg
            cases hreg.1
           ·split at hreg
            ·simp only [Option.some.injEq,ACode.reg.injEq] at hreg
             cases hreg.1
            ·split at hreg
             ·simp only [Option.some.injEq,ACode.reg.injEq] at hreg
              cases hreg.1
             ·cases hreg
         ·rename_i hdr
          simp only [Option.some.injEq,ACode.reg.injEq,true_and,and_true] at hreg
          rw [hreg] at hl
          have hdr' : draw = false:=by simpa using hdr
          subst hdr'
          obtain ⟨c',a',w',H',t',hs',hd',st⟩:=ops_ok (b:=b) IHf IHr (corr_range hl) H hN hq
          exact ⟨c',a',w',H',t',hs',hd',fun k cs=>(Steps.one stepR_region).trans ((st k cs).trans (.one stepR_region_end))⟩
     obtain ⟨c1,a1,w1,H1,t1,hs1,hd1,st⟩:=key
     obtain ⟨c2,H2,t2⟩:=end_ok H1 mask drop
     exact ⟨c2,a1,w1,H2,t1.trans t2,hs1,by rw [hd1]; exact hm.tr (t1.trans t2),st⟩
 | seq x y =>
   simp only [strip] at hsh
   cases hsh with
   | seq m1 m2 _ _ h1 h2 =>
     obtain ⟨o,ho,h⟩:=Qa.1 (show (R (.code x s)).bind (seqR R y) = some _ from h)
     cases o with
     | res _ _ _=>cases h
     | ex e1 s1 =>
       obtain ⟨c1,a1,w1,H1,t1,hs1,hm1,land1⟩:=IH _ _ _ _ ho N m1 h1 lo c a Ts w b H hN hm hr hlo
       cases e1 with
       | nrm =>
         obtain ⟨c2,a2,w2,H2,t2,hs2,hm2,land2⟩:=IH _ _ _ _ h N m2 h2 lo c1 a1 Ts w1 b H1 (by omega) hm1 (hr.tr t1) (Qcv hlo t1.size)
         refine ⟨c2,a2,w2,H2,t1.trans t2,hs2.trans hs1,hm2,fun k cs=>?_⟩
         have hst:=(Steps.one (stepR_seq (P:=P) (b:=b) (a:=a) (k:=k) (cs:=cs) (w:=w) (x:=m1) (y:=m2))).trans (land1 (.code m2::k) cs)
         have l2:=land2 k cs
         cases e with
         | nrm=>exact hst.trans l2
         | exit i=>obtain ⟨k1,hk,hs⟩:=l2; exact ⟨k1,hk,hst.trans hs⟩
         | ret=>obtain ⟨k1,hs⟩:=l2; exact ⟨k1,hst.trans hs⟩
       | exit i =>
         simp only [seqR,Option.some.injEq,Out.ex.injEq] at h
         obtain ⟨rfl,rfl⟩:=h
         refine ⟨c1,a1,w1,H1,t1,hs1,hm1,fun k cs=>?_⟩
         obtain ⟨k1,hk,hs⟩:=land1 (.code m2::k) cs
         exact ⟨k1,by rw [hk]; rfl,(Steps.one stepR_seq).trans hs⟩
       | ret =>
         simp only [seqR,Option.some.injEq,Out.ex.injEq] at h
         obtain ⟨rfl,rfl⟩:=h
         refine ⟨c1,a1,w1,H1,t1,hs1,hm1,fun k cs=>?_⟩
         obtain ⟨k1,hs⟩:=land1 (.code m2::k) cs
         exact ⟨k1,(Steps.one stepR_seq).trans hs⟩
 | cond x y z =>
   simp only [strip] at hsh
   cases hsh with
   | cond c0 _ m1 m2 _ _ h0 h1 h2 =>
     have h : condR (R (.code y s)) (R (.code z s)) (x.ev s.T) = some (.ex e s'):=h
     have hv:=opd_ok H.T h0
     cases hx : x.ev s.T with
     | bool t =>
       rw [hx] at h hv
       have hev:=VR.of_bool hv
       simp only [condR] at h
       cases t with
       | true =>
         obtain ⟨c1,a1,w1,H1,t1,hs1,hm1,land1⟩:=IH _ _ _ _ h N m1 h1 lo c a Ts w b H hN hm hr hlo
         refine ⟨c1,a1,w1,H1,t1,hs1,hm1,fun k cs=>?_⟩
         have hst : Steps P (lone (b.atR a (.code (.cond c0 m1 m2)::k)) cs w) (lone (b.atR a (.code m1::k)) cs w):=.one (stepR_cond (t:=true) hev)
         have l2:=land1 k cs
         cases e with
         | nrm=>exact hst.trans l2
         | exit i=>obtain ⟨k1,hk,hs⟩:=l2; exact ⟨k1,hk,hst.trans hs⟩
         | ret=>obtain ⟨k1,hs⟩:=l2; exact ⟨k1,hst.trans hs⟩
       | false =>
         obtain ⟨c1,a1,w1,H1,t1,hs1,hm1,land1⟩:=IH _ _ _ _ h N m2 h2 lo c a Ts w b H hN hm hr hlo
         refine ⟨c1,a1,w1,H1,t1,hs1,hm1,fun k cs=>?_⟩
         have hst : Steps P (lone (b.atR a (.code (.cond c0 m1 m2)::k)) cs w) (lone (b.atR a (.code m2::k)) cs w):=.one (stepR_cond (t:=false) hev)
         have l2:=land1 k cs
         cases e with
         | nrm=>exact hst.trans l2
         | exit i=>obtain ⟨k1,hk,hs⟩:=l2; exact ⟨k1,hk,hst.trans hs⟩
         | ret=>obtain ⟨k1,hs⟩:=l2; exact ⟨k1,hst.trans hs⟩
     | _=>rw [hx] at h; cases h
 | block id x mask drop =>
   simp only [strip] at hsh
   cases hsh with
   | block _ m _ h1 =>
     obtain ⟨o,ho,h⟩:=Qa.1 (show (R (.code x s)).bind (blockR id mask drop) = some _ from h)
     cases o with
     | res _ _ _=>cases h
     | ex e1 s1 =>
       obtain ⟨c1,a1,w1,H1,t1,hs1,hm1,land1⟩:=IH _ _ _ _ ho N m h1 lo c a Ts w b H hN hm hr hlo
       have first_ : ∀ k cs,Steps P (lone (b.atR a (.code (.block id m)::k)) cs w) (lone (b.atR a (.code m :: .inBlock id::k)) cs w):=fun k cs=>.one stepR_block
       cases e1 with
       | nrm =>
         simp only [blockR,Option.some.injEq,Out.ex.injEq] at h
         obtain ⟨rfl,rfl⟩:=h
         obtain ⟨c2,H2,t2⟩:=end_ok H1 mask drop
         exact ⟨c2,a1,w1,H2,t1.trans t2,hs1,hm1.tr t2,fun k cs=>(first_ k cs).trans ((land1 (.inBlock id::k) cs).trans (.one stepR_inBlock))⟩
       | exit i =>
         replace h : (if i = id then some (Out.ex .nrm (endReg mask drop s1)) else some (.ex (.exit i) s1)) = some (.ex e s'):=h
         by_cases hid : i = id
         ·rw [if_pos hid] at h
          injection h with h
          injection h with h5 h6
          subst h5 h6 hid
          obtain ⟨c2,H2,t2⟩:=end_ok H1 mask drop
          refine ⟨c2,a1,w1,H2,t1.trans t2,hs1,hm1.tr t2,fun k cs=>?_⟩
          obtain ⟨k1,hk,hs⟩:=land1 (.inBlock i::k) cs
          exact (first_ k cs).trans (hs.trans (.one (stepR_exit (by rw [hk]; simp [exitTo]))))
         ·rw [if_neg hid] at h
          simp only [Option.some.injEq,Out.ex.injEq] at h
          obtain ⟨rfl,rfl⟩:=h
          refine ⟨c1,a1,w1,H1,t1,hs1,hm1,fun k cs=>?_⟩
          obtain ⟨k1,hk,hs⟩:=land1 (.inBlock id::k) cs
          exact ⟨k1,by rw [hk]; simp [exitTo,Ne.symm hid],(first_ k cs).trans hs⟩
       | ret =>
         simp only [blockR,Option.some.injEq,Out.ex.injEq] at h
         obtain ⟨rfl,rfl⟩:=h
         refine ⟨c1,a1,w1,H1,t1,hs1,hm1,fun k cs=>?_⟩
         obtain ⟨k1,hs⟩:=land1 (.inBlock id::k) cs
         exact ⟨k1,(first_ k cs).trans hs⟩
 | loop x mask drop =>
   simp only [strip] at hsh
   cases hsh with
   | loop m _ h1 =>
     obtain ⟨o,ho,h⟩:=Qa.1 (show (R (.code x s)).bind (loopR R x mask drop) = some _ from h)
     cases o with
     | res _ _ _=>cases h
     | ex e1 s1 =>
       obtain ⟨c1,a1,w1,H1,t1,hs1,hm1,land1⟩:=IH _ _ _ _ ho N m h1 lo c a Ts w b H hN hm hr hlo
       have first_ : ∀ k cs,Steps P (lone (b.atR a (.code (.loop m)::k)) cs w) (lone (b.atR a (.code m :: .inLoop m::k)) cs w):=fun k cs=>.one stepR_loop
       cases e1 with
       | nrm =>
         simp only [loopR] at h
         obtain ⟨c2,H2,t2⟩:=end_ok H1 mask drop
         obtain ⟨c3,a3,w3,H3,t3,hs3,hm3,land3⟩:=IH _ _ _ _ h N (.loop m) hmc lo c2 a1 Ts w1 b H2 (by omega) (hm1.tr t2) (hr.tr (t1.trans t2)) (Qcv hlo t1.size)
         refine ⟨c3,a3,w3,H3,(t1.trans t2).trans t3,hs3.trans hs1,hm3,fun k cs=>?_⟩
         have hst:=(first_ k cs).trans (land1 (.inLoop m::k) cs)
         have l2:=land3 k cs
         cases e with
         | nrm=>exact hst.trans (relabel l2 (fun e=>by have:=congrArg List.length e; simp at this))
         | exit i=>obtain ⟨k1,hk,hs⟩:=l2; exact ⟨k1,hk,hst.trans (relabel hs (fun e=>by simp at e))⟩
         | ret=>obtain ⟨k1,hs⟩:=l2; exact ⟨k1,hst.trans (relabel hs (fun e=>by simp at e))⟩
       | exit i =>
         simp only [loopR,Option.some.injEq,Out.ex.injEq] at h
         obtain ⟨rfl,rfl⟩:=h
         refine ⟨c1,a1,w1,H1,t1,hs1,hm1,fun k cs=>?_⟩
         obtain ⟨k1,hk,hs⟩:=land1 (.inLoop m::k) cs
         exact ⟨k1,by rw [hk]; rfl,(first_ k cs).trans hs⟩
       | ret =>
         simp only [loopR,Option.some.injEq,Out.ex.injEq] at h
         obtain ⟨rfl,rfl⟩:=h
         refine ⟨c1,a1,w1,H1,t1,hs1,hm1,fun k cs=>?_⟩
         obtain ⟨k1,hs⟩:=land1 (.inLoop m::k) cs
         exact ⟨k1,(first_ k cs).trans hs⟩
 | rf rid f ps x y =>
   simp only [strip] at hsh
   cases hps : ps with
   | _ =>
     generalize hst : ACode.rf 0 f ps (strip x) (strip y) = z at hsh
     cases hsh with
     | rf g f' psA m1 m2 _ _ h0 hp h1 h2 =>
       simp only [ACode.rf.injEq,true_and] at hst
       obtain ⟨rfl,rfl,rfl,rfl⟩:=hst
       exact rf_ok IHf IHr h h0 rfl hp h1 h2 H hN hm hr hlo
     | _=>cases hst
 | exit id =>
   simp only [step,Option.some.injEq,Out.ex.injEq] at h
   obtain ⟨rfl,rfl⟩:=h
   simp only [strip] at hsh
   cases hsh
   exact ⟨c,a,w,H,Tr.refl _ _,rfl,hm,fun k cs=>⟨k,rfl,Steps.refl _ _⟩⟩
 | scope x =>
   simp only [strip] at hsh
   cases hsh with
   | scope m _ h1 =>
     have h : R (.code x s) = some (.ex e s'):=h
     obtain ⟨c1,a1,w1,H1,t1,hs1,hm1,land1⟩:=IH _ _ _ _ h N m h1 lo c a Ts w b H hN hm hr hlo
     refine ⟨c1,a1,w1,H1,t1,hs1,hm1,fun k cs=>?_⟩
     have l2:=land1 (.inScope m::k) cs
     cases e with
     | nrm=>exact (Steps.one stepR_scope').trans (l2.trans (.one stepR_inScope'))
     | exit i=>obtain ⟨k1,hk,hs⟩:=l2; exact ⟨k1,by rw [hk]; rfl,(Steps.one stepR_scope').trans hs⟩
     | ret=>obtain ⟨k1,hs⟩:=l2; exact ⟨k1,(Steps.one stepR_scope').trans hs⟩
 | ret =>
   simp only [step,Option.some.injEq,Out.ex.injEq] at h
   obtain ⟨rfl,rfl⟩:=h
   simp only [strip] at hsh
   cases hsh
   exact ⟨c,a,w,H,Tr.refl _ _,rfl,hm,fun k cs=>⟨k,Steps.refl _ _⟩⟩
 | bad=>cases h

theorem all_ok {E : FuncId → Option AFn} (hE : EOK P E) (hD : ∀ R,FnOK P R → RndOK P R → DrawOK P R) : ∀ n,CodeOK P (run E n)∧FnOK P (run E n)∧RndOK P (run E n)
 | 0=>⟨fun _ _ _ _ h=>(by cases h),fun _ _ _ _ _ _ _ _ h=>(by cases h),fun _ _ _ _ _ _ _ _ h=>(by cases h)⟩
 | n + 1=>by
   obtain ⟨h1,h2,h3⟩:=all_ok hE hD n
   exact ⟨fun cd s e s' h=>code_ok h1 h2 h3 (hD _ h2 h3) h,fun f args lvl F O v F' O' h c vals Ts w H ha=>fn_ok h1 hE h H ha,fun id args lvl F O v F' O' h c vals Ts w H ha hh hi=>rnd_ok h1 h H ha hi⟩
theorem Run_ok {E : FuncId → Option AFn} (hE : EOK P E) (hD : ∀ R,FnOK P R → RndOK P R → DrawOK P R) : FnOK P (Run E):=fun f args lvl F O v F' O' h=>by
 obtain ⟨n,hn⟩:=Run_iff.1 h
 exact (all_ok hE hD n).2.1 f args lvl F O v F' O' hn
end
end Go.Zv

/- The engine, part 25: what an operation of a drawn region does: a value, new objects, one change. -/
namespace Go.Zv

theorem pushAll_append (l m : List (Nat × Obj)) (O : Heap) : pushAll (l++m) O = pushAll m (pushAll l O):=by
 induction l generalizing O with
 | nil=>rfl
 | cons p l ih=>exact ih (p::O)
theorem freshAll_append (l m : List (Nat × Obj)) (O : Heap) : freshAll (l++m) O = (freshAll l O && freshAll m (pushAll l O)):=by
 induction l generalizing O with
 | nil=>simp [freshAll,pushAll]
 | cons p l ih=>simp [freshAll,pushAll,ih,Qc3]

theorem dRows_ap : ∀ (z : List LV) (id : Nat) (s : St),dRows id z s = if freshAll (rowsN id z).2 s.O = true then some ((rowsN id z).1,{ s with O:=pushAll (rowsN id z).2 s.O }) else none
 | [],id,s=>by simp [dRows,rowsN,freshAll,pushAll]
 | v::l,id,s=>by
   simp only [dRows,rowsN]
   split
   ·cases ho : oget s.O id with
    | none =>
      simp only [dRowsK,dRows_ap l (id + 1),St.push,freshAll,ho,Option.isNone_none,Q1,pushAll]
      split <;> rfl
    | some o=>simp [dRowsK,freshAll,ho]
   ·simp only [dRows_ap l (id + 1)]
    split <;> rfl
theorem dNew_ap (id : Nat) (o : Obj) (v : LV) (s : St) : dNew id o v s = applyD s ⟨v,[(id,o)],none⟩:=by
 simp only [dNew,applyD,freshAll,Qax,pushAll,updO,St.push]
 cases oget s.O id <;> rfl
theorem dBox_ap (id : Nat) (z : List LV) (s : St) : dBox id z s = (deltaBox id z).bind (applyD s):=by
 unfold dBox deltaBox
 split
 ·rw [dRows_ap]
  simp only [Q5,applyD,freshAll_append,pushAll_append,updO]
  split
  ·rename_i h
   simp only [Q5,dBoxK,dNew_ap,applyD,h,Q1,updO]
  ·rename_i h
   simp [h]
 ·rfl
theorem dBsl_ap (id st n : Nat) (s : St) (xs : List (List LV)) : dBsl id st n s xs = (deltaBsl id st n xs).bind (applyD s):=by
 unfold dBsl deltaBsl
 split
 ·rw [dNew_ap]; rfl
 ·rfl
theorem dImp1_ap (id : Nat) (s : St) (v : LV) : dImp1 id s v = (imp1N id v).bind fun q=>applyD s ⟨q.1,q.2,none⟩:=by
 cases v <;> first | rfl | (simp only [dImp1,imp1N,dNew_ap,Q5])
theorem applyD_v (s : St) (v : LV) (l : List (Nat × Obj)) : applyD s ⟨v,l,none⟩ = if freshAll l s.O = true then some (v,{ s with O:=pushAll l s.O }) else none:=rfl
theorem dImps_ap : ∀ (l : List LV) (id : Nat) (s : St),dImps id l s = (impsN id l).bind fun q=>if freshAll q.2 s.O = true then some (q.1,{ s with O:=pushAll q.2 s.O }) else none
 | [],id,s=>by simp [dImps,impsN,freshAll,pushAll]
 | v :: l,id,s=>by
   simp only [dImps,impsN,dImp1_ap]
   cases h1 : imp1N id v with
   | none=>rfl
   | some q =>
     simp only [Q5,applyD_v,impsNK]
     by_cases hf : freshAll q.2 s.O = true
     ·simp only [hf,if_true,Q5,dImpsK,dImps_ap l (id + 1)]
      cases h2 : impsN (id + 1) l with
      | none=>rfl
      | some r =>
        simp only [Q5,Qay,freshAll_append,hf,Q1,pushAll_append]
        split <;> rfl
     ·rw [if_neg hf]
      cases h2 : impsN (id + 1) l with
      | none=>rfl
      | some r=>simp [freshAll_append,hf]
theorem imp_nt {id : Nat} {s : St} {v : LV} (h : ∀ vs,v ≠ .tup vs) : dImp id s v = dImp1 id s v∧impN id v = imp1N id v:=by
 cases v <;> first | exact ⟨rfl,rfl⟩ | exact absurd rfl (h _)
theorem dImp_ap (id : Nat) (s : St) (v : LV) : dImp id s v = (impN id v).bind fun q=>applyD s ⟨q.1,q.2,none⟩:=by
 by_cases ht : ∃ vs,v = .tup vs
 ·obtain ⟨vs,rfl⟩:=ht
  simp only [dImp,impN]
  split
  ·rw [dImps_ap]
   cases h : impsN id vs with
   | none=>rfl
   | some q =>
     simp only [Q5,Qay,applyD_v]
     split <;> rfl
  ·rfl
 ·obtain ⟨h1,h2⟩:=imp_nt (id:=id) (s:=s) (v:=v) fun vs e=>ht ⟨vs,e⟩
  rw [h1,h2]; exact dImp1_ap _ _ _
theorem dCall_ap (R : Orc) (id : Nat) (f : FuncId) (b : Bool) (s : St) (c : List LV) : dCall R id f b s c = (deltaCall R id f b c).bind (applyD s):=by
 unfold dCall deltaCall
 split
 ·cases pureCall R f c with
  | none=>rfl
  | some r =>
    simp only [Q5,dAfter,deltaAfter]
    split
    ·rw [dImp_ap]; cases impN id r <;> rfl
    ·rfl
 ·rfl
theorem dStore_ap (s : St) (V : Heap) (qs : List Nat) (cs : List LV) (x : LV) : dStore s V qs cs x = (deltaStore s.lvl V qs cs x).bind (applyD s):=by
 cases x <;> try rfl
 ·rename_i id off
  simp only [dStore,deltaStore]
  split
  ·cases oget V id with
   | none=>rfl
   | some o=>cases o with
     | box bs=>simp only [dSetBox,setBoxD]; split <;> rfl
     | _=>rfl
  ·rfl
 ·rename_i id i off
  simp only [dStore,deltaStore]
  split
  ·cases oget V id with
   | none=>rfl
   | some o=>cases o with
     | row st xs =>
       simp only [dSetRow,setRowD]
       cases xs[i]? with
       | none=>rfl
       | some y=>simp only [dSetElt,setEltD]; split <;> rfl
     | _=>rfl
  ·rfl
theorem dMks_ap (id : Nat) (z : List LV) (s : St) (x y : LV) : dMks id z s x y = (deltaMks id z x y).bind (applyD s):=by
 cases x <;> try rfl
 cases y <;> try rfl
 simp only [dMks,deltaMks]
 split
 ·rw [dNew_ap]; rfl
 ·rfl
theorem val_eq (s : St) (o : Option LV) : o.bind (ok1 s) = (o.bind dlV).bind (applyD s):=by cases o <;> rfl

theorem dOp_delta (R : Orc) (un qs : List Nat) (d : Nat) (op : AOp) (s : St) : dOp R un qs d op s = (delta R qs s.lvl d op s.T (filtO s.lvl un s.O)).bind (applyD s):=by
 cases op <;> first
  | rfl
  | exact dBox_ap ..
  | exact dCall_ap ..
  | exact dMks_ap ..
  | exact val_eq ..
  | skip
 case bsl st n z ps =>
  simp only [dOp,delta]
  split
  ·cases fillS st s.T ps (List.replicate n z) with
   | none=>rfl
   | some xs=>exact dBsl_ap ..
  ·rfl
 case load ag n x =>
  simp only [dOp,delta]
  split
  ·exact val_eq ..
  ·rfl
 case store n x v =>
  simp only [dOp,delta]
  split
  ·exact dStore_ap ..
  ·rfl
 case cal f args =>
  simp only [dOp,delta]
  cases h : f.ev s.T <;> try rfl
  rename_i fn first cap
  cases fn <;> first | rfl | exact dCall_ap ..
end Go.Zv

/- The engine, part 26: two operations of a drawn region that may come in either order. -/
namespace Go.Zv

/-! what it depends on -/
theorem ev_congr {T T' : Env} {x : Opd} (h : ∀ t ∈ opdT x,tget T t = tget T' t) : x.ev T = x.ev T':=by
 cases x with
 | t n=>exact h n (by simp [opdT])
 | c v=>rfl
 | fu f=>rfl
theorem evs_congr {T T' : Env} : ∀ {l : List Opd},(∀ t ∈ (l.map opdT).flatten,tget T t = tget T' t) → evs T l = evs T' l
 | [],_=>rfl
 | x::l,h=>by
   simp only [evs]
   rw [ev_congr (x:=x) fun t ht=>h t (by simp [ht]),evs_congr fun t ht=>h t (by simp only [Qk,Q9,Qs]; exact .inr ht)]
theorem fill_congr {T T' : Env} : ∀ {l : List (Nat × Nat × Opd)} {cs : List LV},(∀ t ∈ (l.map fun p=>opdT p.2.2).flatten,tget T t = tget T' t) → fill T l cs = fill T' l cs
 | [],_,_=>rfl
 | (off,n,x)::l,cs,h=>by
   simp only [fill]
   have e : fill T l = fill T' l:=funext fun cs=>fill_congr fun t ht=>h t (by simp only [Qk,Q9,Qs]; exact .inr ht)
   rw [ev_congr (x:=x) fun t ht=>h t (by simp [ht]),e]
theorem fillS_congr {T T' : Env} {st : Nat} : ∀ {l : List (Nat × Opd)} {cs : List (List LV)},(∀ t ∈ (l.map fun p=>opdT p.2).flatten,tget T t = tget T' t) → fillS st T l cs = fillS st T' l cs
 | [],_,_=>rfl
 | (i,x)::l,cs,h=>by
   simp only [fillS]
   have e : fillS st T l = fillS st T' l:=funext fun cs=>fillS_congr fun t ht=>h t (by simp only [Qk,Q9,Qs]; exact .inr ht)
   rw [ev_congr (x:=x) fun t ht=>h t (by simp [ht]),e]
theorem bnd_congr {T T' : Env} {x : Option Opd} (h : ∀ t ∈ ooT x,tget T t = tget T' t) (dflt lim : Nat) : bnd T dflt lim x = bnd T' dflt lim x:=by
 cases x with
 | none=>rfl
 | some x=>simp only [bnd]; rw [ev_congr h]
theorem cut_congr {T T' : Env} {lo hi : Option Opd} (h1 : ∀ t ∈ ooT lo,tget T t = tget T' t) (h2 : ∀ t ∈ ooT hi,tget T t = tget T' t) (n : Nat) (f : Nat → Nat → LV) : cut T n lo hi f = cut T' n lo hi f:=by
 unfold cut
 rw [bnd_congr h2]
 congr 1
 funext k
 simp only [cutK]
 rw [bnd_congr h1]
theorem apartQs_congr {T T' : Env} {id : Nat} : ∀ {qs : List Nat},(∀ t ∈ qs,tget T t = tget T' t) → apartQs T id qs = apartQs T' id qs
 | [],_=>rfl
 | q::l,h=>by simp only [apartQs]; rw [h q (by simp),apartQs_congr fun t ht=>h t (by simp [ht])]
theorem apartV_congr {T T' : Env} {qs : List Nat} (h : ∀ t ∈ qs,tget T t = tget T' t) (v : LV) : apartV T qs v = apartV T' qs v:=by
 cases v <;> first | rfl | exact apartQs_congr h

theorem delta_T {R : Orc} {qs : List Nat} {lvl d : Nat} {op : AOp} {T T' : Env} {V : Heap} (h : ∀ t ∈ opT op++qs,tget T t = tget T' t) : delta R qs lvl d op T V = delta R qs lvl d op T' V:=by
 have hq : ∀ t ∈ qs,tget T t = tget T' t:=fun t ht=>h t (by simp [ht])
 replace h : ∀ t ∈ opT op,tget T t = tget T' t:=fun t ht=>h t (by simp [ht])
 cases op with
 | mv x=>simp only [delta,valOp]; rw [ev_congr h]
 | as x=>simp only [delta]; rw [ev_congr h]
 | pick a b c =>
   simp only [delta,valOp]
   rw [ev_congr (x:=a) fun t ht=>h t (by simp [opT,ht]),ev_congr (x:=b) fun t ht=>h t (by simp [opT,ht]),ev_congr (x:=c) fun t ht=>h t (by simp [opT,ht])]
 | alloc z=>rfl
 | box x=>simp only [delta]; rw [ev_congr h]
 | build z ps=>simp only [delta,valOp]; rw [fill_congr h]
 | bsl st n z ps=>simp only [delta]; rw [fillS_congr h]
 | load ag n x=>simp only [delta]; rw [ev_congr h,apartV_congr hq]
 | store n x v=>simp only [delta]; rw [ev_congr (x:=x) fun t ht=>h t (by simp [opT,ht]),ev_congr (x:=v) fun t ht=>h t (by simp [opT,ht])]
 | nilc x=>simp only [delta,valOp]; rw [ev_congr h]
 | bin op x y=>simp only [delta,valOp]; rw [ev_congr (x:=x) fun t ht=>h t (by simp [opT,ht]),ev_congr (x:=y) fun t ht=>h t (by simp [opT,ht])]
 | bib op x y=>simp only [delta,valOp]; rw [ev_congr (x:=x) fun t ht=>h t (by simp [opT,ht]),ev_congr (x:=y) fun t ht=>h t (by simp [opT,ht])]
 | eqa n ks x y=>simp only [delta,valOp]; rw [ev_congr (x:=x) fun t ht=>h t (by simp [opT,ht]),ev_congr (x:=y) fun t ht=>h t (by simp [opT,ht])]
 | un op x=>simp only [delta,valOp]; rw [ev_congr h]
 | conv k x=>simp only [delta,valOp]; rw [ev_congr h]
 | b2s x=>simp only [delta,valOp]; rw [ev_congr h]
 | mkf f a b=>simp only [delta,valOp]; rw [evs_congr (l:=a) fun t ht=>h t (by simp only [opT,Qs]; exact .inl ht),evs_congr (l:=b) fun t ht=>h t (by simp only [opT,Qs]; exact .inr ht)]
 | mkm=>rfl
 | mks st z a b=>simp only [delta]; rw [ev_congr (x:=a) fun t ht=>h t (by simp [opT,ht]),ev_congr (x:=b) fun t ht=>h t (by simp [opT,ht])]
 | sls st x lo hi =>
   simp only [delta,valOp]
   rw [ev_congr (x:=x) fun t ht=>h t (by simp [opT,ht])]
   have hc:=fun n f=>cut_congr (lo:=lo) (hi:=hi) (T:=T) (T':=T') (fun t ht=>h t (by simp [opT,ht])) (fun t ht=>h t (by simp [opT,ht])) n f
   cases x.ev T' <;> simp only [slsV,hc]
   unfold slsRow
   split
   ·rw [hc]
   ·rfl
 | slt x lo hi =>
   simp only [delta,valOp]
   rw [ev_congr (x:=x) fun t ht=>h t (by simp [opT,ht])]
   have hc:=fun n f=>cut_congr (lo:=lo) (hi:=hi) (T:=T) (T':=T') (fun t ht=>h t (by simp [opT,ht])) (fun t ht=>h t (by simp [opT,ht])) n f
   cases x.ev T' <;> simp only [sltV,hc]
 | sla n st x lo hi =>
   simp only [delta,valOp]
   rw [ev_congr (x:=x) fun t ht=>h t (by simp [opT,ht])]
   have hc:=fun n f=>cut_congr (lo:=lo) (hi:=hi) (T:=T) (T':=T') (fun t ht=>h t (by simp [opT,ht])) (fun t ht=>h t (by simp [opT,ht])) n f
   cases x.ev T' <;> simp only [slaV,hc]
 | fad off x=>simp only [delta,valOp]; rw [ev_congr h]
 | fld ag off n x=>simp only [delta,valOp]; rw [ev_congr h]
 | ias st x y=>simp only [delta,valOp]; rw [ev_congr (x:=x) fun t ht=>h t (by simp [opT,ht]),ev_congr (x:=y) fun t ht=>h t (by simp [opT,ht])]
 | iaa l st x y=>simp only [delta,valOp]; rw [ev_congr (x:=x) fun t ht=>h t (by simp [opT,ht]),ev_congr (x:=y) fun t ht=>h t (by simp [opT,ht])]
 | ixa ag l st x y=>simp only [delta,valOp]; rw [ev_congr (x:=x) fun t ht=>h t (by simp [opT,ht]),ev_congr (x:=y) fun t ht=>h t (by simp [opT,ht])]
 | ixt x y=>simp only [delta,valOp]; rw [ev_congr (x:=x) fun t ht=>h t (by simp [opT,ht]),ev_congr (x:=y) fun t ht=>h t (by simp [opT,ht])]
 | lkp ks z ok x y=>simp only [delta,valOp]; rw [ev_congr (x:=x) fun t ht=>h t (by simp [opT,ht]),ev_congr (x:=y) fun t ht=>h t (by simp [opT,ht])]
 | mpu ks x k v=>rfl
 | zc st x=>simp only [delta,valOp]; rw [ev_congr h]
 | capn x=>simp only [delta,valOp]; rw [ev_congr h]
 | isn n x=>simp only [delta,valOp]; rw [ev_congr h]
 | bad=>rfl
 | ext x i=>simp only [delta,valOp]; rw [ev_congr h]
 | call f args=>simp only [delta]; rw [evs_congr h]
 | cal f args=>simp only [delta]; rw [ev_congr (x:=f) fun t ht=>h t (by simp only [opT,Qs]; exact .inl ht),evs_congr (l:=args) fun t ht=>h t (by simp only [opT,Qs]; exact .inr ht)]
 | len k x=>simp only [delta,valOp]; rw [ev_congr h]
 | lena n=>rfl
 | app st s x=>rfl
 | apz st z s x=>rfl
 | cpy st s x=>rfl
 | mn l=>simp only [delta,valOp]; rw [evs_congr h]
 | mx l=>simp only [delta,valOp]; rw [evs_congr h]

def VE (V V' : Heap) : Prop:=∀ id,oget V id = oget V' id
mutual
theorem cl_VE {V V' : Heap} (h : VE V V') : ∀ v : LV,LV.cl V v = LV.cl V' v
 | .agg cs=>by simp only [LV.cl]; rw [cls_VE h cs]
 | .tup cs=>by simp only [LV.cl]; rw [cls_VE h cs]
 | .fn f a b=>by simp only [LV.cl]; rw [cls_VE h a,cls_VE h b]
 | .bs id off len=>by simp only [LV.cl]; rw [h id]
 | .bb id off st len=>by simp only [LV.cl]; rw [h id]
 | .nils _ | .ptr .. | .ep .. | .mp _ | .yl _ | .any | .undef | .int .. | .bool _ | .str _ | .vs _ | .os .. | .nul | .emp | .fp _ | .nilp | .nilf | .om _ | .nilm=>by simp only [LV.cl]
theorem cls_VE {V V' : Heap} (h : VE V V') : ∀ l : List LV,LV.cls V l = LV.cls V' l
 | []=>rfl
 | v::l=>by simp only [LV.cls]; rw [cl_VE h v,cls_VE h l]
end
theorem rd_at {V V' : Heap} {ag : Bool} {n : Nat} {v : LV} (h : ∀ id,(∃ off,v = .ptr id off) ∨ (∃ i off,v = .ep id i off) → oget V id = oget V' id) : rd V ag n v = rd V' ag n v:=by
 cases v <;> simp only [rd]
 ·rw [h _ (.inl ⟨_,rfl⟩)]
 ·rw [h _ (.inr ⟨_,_,rfl⟩)]
theorem elems_VE {V V' : Heap} (h : VE V V') (v : LV) : elems V v = elems V' v:=by
 cases v <;> simp only [elems] <;> rw [h]
theorem len_VE {V V' : Heap} (h : VE V V') (k : Nat) (v : LV) : lenOf V k v = lenOf V' k v:=by
 unfold lenOf
 split <;> first | rfl | rw [h]
theorem lkp_VE {V V' : Heap} (h : VE V V') (ks : List Nat) (k v : LV) : lkpV V ks k v = lkpV V' ks k v:=by
 cases v <;> simp only [lkpV] <;> rw [h]
theorem store_VE {V V' : Heap} (h : VE V V') (lvl : Nat) (qs : List Nat) (cs : List LV) (v : LV) : deltaStore lvl V qs cs v = deltaStore lvl V' qs cs v:=by
 cases v <;> simp only [deltaStore] <;> rw [h]
def SameK : Option Obj → Option Obj → Prop
 | some (.row st _),some (.row st' _)=>st = st'
 | some (.row _ _),_=>False
 | _,some (.row _ _)=>False
 | _,_=>True
theorem SameK.refl (o : Option Obj) : SameK o o:=by
 cases o with
 | none=>trivial
 | some o=>cases o <;> first | trivial | rfl
theorem ias_K {V V' : Heap} (h : ∀ id,SameK (oget V id) (oget V' id)) (st : Nat) (x i : LV) : iasV V st x i = iasV V' st x i:=by
 cases i <;> try rfl
 simp only [iasV]
 cases x <;> try rfl
 rename_i k n id off len
 simp only [iasI]
 have:=h id
 cases h1 : oget V id with
 | none =>
   cases h2 : oget V' id with
   | none=>rfl
   | some o'=>cases o' <;> first | rfl | (rw [h1,h2] at this; exact this.elim)
 | some o =>
   cases h2 : oget V' id with
   | none=>cases o <;> first | rfl | (rw [h1,h2] at this; exact this.elim)
   | some o' =>
     cases o <;> cases o' <;> first
      | rfl
      | (rw [h1,h2] at this; exact this.elim)
      | (rw [h1,h2] at this; simp only [SameK] at this; subst this; rfl)
theorem sls_K {V V' : Heap} (h : ∀ id,SameK (oget V id) (oget V' id)) (T : Env) (st : Nat) (lo hi : Option Opd) (x : LV) : slsV T V st lo hi x = slsV T V' st lo hi x:=by
 cases x <;> try rfl
 rename_i id off len
 simp only [slsV]
 have:=h id
 cases h1 : oget V id with
 | none =>
   cases h2 : oget V' id with
   | none=>rfl
   | some o'=>cases o' <;> first | rfl | (rw [h1,h2] at this; exact this.elim)
 | some o =>
   cases h2 : oget V' id with
   | none=>cases o <;> first | rfl | (rw [h1,h2] at this; exact this.elim)
   | some o' =>
     cases o <;> cases o' <;> first
      | rfl
      | (rw [h1,h2] at this; exact this.elim)
      | (rw [h1,h2] at this; simp only [SameK] at this; subst this; rfl)

theorem delta_V {R : Orc} {qs : List Nat} {lvl d : Nat} {op : AOp} {T : Env} {V V' : Heap} (h : VE V V') : delta R qs lvl d op T V = delta R qs lvl d op T V':=by
 cases op <;> try rfl
 case load ag n x=>simp only [delta]; rw [rd_at fun id _=>h id]
 case store n x v=>simp only [delta,store_VE h]
 case b2s x=>simp only [delta,valOp]; rw [elems_VE h]
 case sls st x lo hi=>simp only [delta,valOp]; rw [sls_K (V:=V) (V':=V') fun id=>by rw [h id]; exact SameK.refl _]
 case ias st x i=>simp only [delta,valOp]; rw [ias_K (V:=V) (V':=V') fun id=>by rw [h id]; exact SameK.refl _]
 case lkp ks z ok x k=>simp only [delta,valOp]; rw [lkp_VE h]
 case call f args=>simp only [delta]; rw [cls_VE h]
 case cal f args =>
  simp only [delta]
  cases f.ev T <;> try rfl
  rename_i fn a b
  cases fn <;> simp only [deltaCal] <;> rw [cls_VE h]
 case len k x=>simp only [delta,valOp]; rw [len_VE h]

theorem delta_noV {R : Orc} {qs : List Nat} {lvl d : Nat} {op : AOp} {T : Env} {V V' : Heap} (h : kindOf op = .loc ∨ kindOf op = .cre) : delta R qs lvl d op T V = delta R qs lvl d op T V':=by
 cases op <;> first | rfl | (rcases h with h | h <;> cases h)

/-! what it brings about -/
theorem rowsN_ids : ∀ (l : List LV) (id : Nat),∀ p ∈ (rowsN id l).2,id≤p.1∧p.1 < id + l.length
 | [],id,p,h=>by simp [rowsN] at h
 | v::l,id,p,h=>by
   simp only [rowsN] at h
   split at h
   ·simp only [Q7] at h
    rcases h with rfl | h
    ·simp
    ·have:=rowsN_ids l (id + 1) p h; simp only [Q4]; omega
   ·have:=rowsN_ids l (id + 1) p h; simp only [Q4]; omega
theorem imp1N_ids {v : LV} {id : Nat} {q : LV × List (Nat × Obj)} (h : imp1N id v = some q) : ∀ p ∈ q.2,p.1 = id:=by
 cases v <;> simp only [imp1N,Option.some.injEq,reduceCtorEq] at h <;> subst h <;> simp
theorem impsN_ids : ∀ (l : List LV) (id : Nat) {q : List LV × List (Nat × Obj)},impsN id l = some q → ∀ p ∈ q.2,id≤p.1∧p.1 < id + l.length
 | [],id,q,h,p,hp=>by simp only [impsN,Option.some.injEq] at h; subst h; simp at hp
 | v::l,id,q,h,p,hp=>by
   obtain ⟨r,hr,h⟩:=Qa.1 (show (imp1N id v).bind (impsNK (impsN (id + 1) l)) = some q from h)
   obtain ⟨r2,hr2,rfl⟩:=Qc.1 h
   simp only [Qs] at hp
   rcases hp with hp | hp
   ·have:=imp1N_ids hr p hp; simp only [Q4]; omega
   ·have:=impsN_ids l (id + 1) hr2 p hp; simp only [Q4]; omega
theorem impN_ids {v : LV} {id : Nat} {q : LV × List (Nat × Obj)} (h : impN id v = some q) : ∀ p ∈ q.2,id≤p.1∧p.1 < id + 256:=by
 by_cases ht : ∃ vs,v = .tup vs
 ·obtain ⟨vs,rfl⟩:=ht
  simp only [impN] at h
  split at h
  ·obtain ⟨r,hr,rfl⟩:=Qc.1 h
   intro p hp
   have:=impsN_ids vs id hr p hp
   omega
  ·cases h
 ·have e : impN id v = imp1N id v:=by cases v <;> first | rfl | exact absurd ⟨_,rfl⟩ ht
  rw [e] at h
  intro p hp
  have:=imp1N_ids h p hp
  omega
theorem after_news {R : Orc} {id : Nat} {f : FuncId} {b : Bool} {c : List LV} {dl : Dl} (h : deltaCall R id f b c = some dl) : dl.upd = none ∧ ∀ p ∈ dl.news,id≤p.1∧p.1 < id + 256:=by
 unfold deltaCall at h
 split at h
 ·obtain ⟨r,hr,h⟩:=Qa.1 h
  unfold deltaAfter at h
  split at h
  ·obtain ⟨q,hq,rfl⟩:=Qc.1 h
   exact ⟨rfl,impN_ids hq⟩
  ·cases h
 ·cases h
theorem box_news {id : Nat} {z : List LV} {dl : Dl} (h : deltaBox id z = some dl) : dl.upd = none ∧ ∀ p ∈ dl.news,id≤p.1∧p.1 < id + 256:=by
 unfold deltaBox at h
 split at h
 ·rename_i hz
  simp only [Option.some.injEq] at h; subst h
  refine ⟨rfl,fun p hp=>?_⟩
  simp only [Qs,Qae] at hp
  rcases hp with hp | rfl
  ·have:=rowsN_ids z (id + 1) p hp; omega
  ·simp
 ·cases h
theorem val_news {o : Option LV} {dl : Dl} (h : o.bind dlV = some dl) : dl.upd = none∧dl.news = []:=by
 obtain ⟨v,_,h⟩:=Qa.1 h
 simp only [dlV,Option.some.injEq] at h; subst h; exact ⟨rfl,rfl⟩

structure IsSto (T : Env) (lvl : Nat) (qs : List Nat) (V : Heap) (op : AOp) (i : Nat) (o' : Obj) : Prop where
 st : ∃ n x v,op = .store n x v∧((∃ off,x.ev T = .ptr i off) ∨ ∃ j off,x.ev T = .ep i j off)
 slot : inSlot lvl qs i = true
 old : ∃ o,oget V i = some o∧SameK (some o) (some o')
theorem delta_out {R : Orc} {qs : List Nat} {lvl d : Nat} {op : AOp} {T : Env} {V : Heap} {dl : Dl} (h : delta R qs lvl d op T V = some dl) :
  (∀ p ∈ dl.news,p.1 / 256 - lvl * 4096 = d)∧(kindOf op = .loc ∨ kindOf op = .sto → dl.news = [])∧(kindOf op = .loc ∨ kindOf op = .cre ∨ kindOf op = .rdh → dl.upd = none)∧(∀ i o',dl.upd = some (i,o') → dl.news = []∧IsSto T lvl qs V op i o'):=by
 have slot : ∀ {p : Nat},oid lvl d≤p∧p < oid lvl d + 256 → p / 256 - lvl * 4096 = d:=by
  intro p hp
  unfold oid at hp
  omega
 have out : dl.upd = none → (∀ p ∈ dl.news,oid lvl d≤p.1∧p.1 < oid lvl d + 256) → (kindOf op = .loc ∨ kindOf op = .sto → dl.news = []) →
   (∀ p ∈ dl.news,p.1 / 256 - lvl * 4096 = d)∧(kindOf op = .loc ∨ kindOf op = .sto → dl.news = [])∧(kindOf op = .loc ∨ kindOf op = .cre ∨ kindOf op = .rdh → dl.upd = none)∧(∀ i o',dl.upd = some (i,o') → dl.news = []∧IsSto T lvl qs V op i o') :=
  fun hu hn hl=>⟨fun p hp=>slot (hn p hp),hl,fun _=>hu,fun i o' e=>by rw [hu] at e; cases e⟩
 have outV : dl.upd = none∧dl.news = [] → (∀ p ∈ dl.news,p.1 / 256 - lvl * 4096 = d)∧(kindOf op = .loc ∨ kindOf op = .sto → dl.news = [])∧(kindOf op = .loc ∨ kindOf op = .cre ∨ kindOf op = .rdh → dl.upd = none)∧(∀ i o',dl.upd = some (i,o') → dl.news = []∧IsSto T lvl qs V op i o') :=
  fun hv=>out hv.1 (by rw [hv.2]; simp) (fun _=>hv.2)
 cases op with
 | as x =>
   simp only [delta,dlV,Option.some.injEq] at h
   exact outV (by subst h; exact ⟨rfl,rfl⟩)
 | alloc z=>have:=box_news h; exact out this.1 this.2 (fun e=>by rcases e with e | e <;> cases e)
 | box x=>have:=box_news h; exact out this.1 this.2 (fun e=>by rcases e with e | e <;> cases e)
 | bsl st n z ps =>
   simp only [delta] at h
   split at h
   ·obtain ⟨xs,_,h⟩:=Qa.1 h
    unfold deltaBsl at h
    split at h
    ·simp only [Option.some.injEq] at h
     exact out (by subst h; rfl) (by subst h; simp) (fun e=>by rcases e with e | e <;> cases e)
    ·cases h
   ·cases h
 | mks st z a b =>
   simp only [delta] at h
   unfold deltaMks at h
   split at h
   ·split at h
    ·simp only [Option.some.injEq] at h
     exact out (by subst h; rfl) (by subst h; simp) (fun e=>by rcases e with e | e <;> cases e)
    ·cases h
   ·cases h
 | call f args=>have:=after_news h; exact out this.1 this.2 (fun e=>by rcases e with e | e <;> cases e)
 | cal f args =>
   simp only [delta] at h
   unfold deltaCal at h
   split at h
   ·have:=after_news h; exact out this.1 this.2 (fun e=>by rcases e with e | e <;> cases e)
   ·cases h
 | load ag n x =>
   simp only [delta] at h
   split at h
   ·exact outV (val_news h)
   ·cases h
 | store n x v =>
   simp only [delta] at h
   split at h
   ·have key : ∃ i o',dl = ⟨.undef,[],some (i,o')⟩∧IsSto T lvl qs V (.store n x v) i o':=by
     unfold deltaStore at h
     split at h
     ·rename_i i off hx
      split at h
      ·rename_i hs
       unfold setBoxD at h
       split at h
       ·rename_i bs ho
        split at h
        ·simp only [Option.some.injEq] at h
         exact ⟨_,_,h.symm,⟨_,_,_,rfl,.inl ⟨_,hx⟩⟩,hs,_,ho,trivial⟩
        ·cases h
       ·cases h
      ·cases h
     ·rename_i i j off hx
      split at h
      ·rename_i hs
       unfold setRowD at h
       split at h
       ·rename_i st xs ho
        unfold setEltD at h
        split at h
        ·split at h
         ·simp only [Option.some.injEq] at h
          exact ⟨_,_,h.symm,⟨_,_,_,rfl,.inr ⟨_,_,hx⟩⟩,hs,_,ho,rfl⟩
         ·cases h
        ·cases h
       ·cases h
      ·cases h
     ·cases h
    obtain ⟨i,o',rfl,hk⟩:=key
    exact ⟨by simp,fun e=>rfl,fun e=>(by rcases e with e | e | e <;> cases e),fun i2 o2 e=>by simp only [Option.some.injEq,Prod.mk.injEq] at e; obtain ⟨rfl,rfl⟩:=e; exact ⟨rfl,hk⟩⟩
   ·cases h
 | mkm=>cases h
 | mpu ks x k v=>cases h
 | bad=>cases h
 | app st s x=>cases h
 | apz st z s x=>cases h
 | cpy st s x=>cases h
 | mv x=>exact outV (val_news (show (valOp T V (.mv x)).bind dlV = some dl from h))
 | mkf f a b=>exact outV (val_news (show (valOp T V (.mkf f a b)).bind dlV = some dl from h))
 | lena n=>exact outV (val_news (show (valOp T V (.lena n)).bind dlV = some dl from h))
 | _=>exact outV (val_news h)
end Go.Zv

/- The engine, part 27: independent operations swap. -/
namespace Go.Zv

structure Sim (s t : St) : Prop where
 T : ∀ k,tget s.T k = tget t.T k
 O : VE s.O t.O
 F : s.F = t.F
 lvl : s.lvl = t.lvl
theorem Sim.refl (s : St) : Sim s s:=⟨fun _=>rfl,fun _=>rfl,rfl,rfl⟩
theorem Sim.symm {s t : St} (h : Sim s t) : Sim t s:=⟨fun k=>(h.T k).symm,fun k=>(h.O k).symm,h.F.symm,h.lvl.symm⟩
theorem Sim.trans {s t u : St} (h : Sim s t) (k : Sim t u) : Sim s u:=⟨fun i=>(h.T i).trans (k.T i),fun i=>(h.O i).trans (k.O i),h.F.trans k.F,h.lvl.trans k.lvl⟩

def eff (R : Orc) (qs : List Nat) (lvl : Nat) (o : AOper) (T : Env) (V : Heap) : Option Dl :=
 (wanted T o.grd).bind fun b=>if b = true then deltaZ R qs lvl (o.dst.getD 0) o.fz o.op T V else some ⟨.undef,[],none⟩
def apD (o : AOper) (dl : Dl) (s : St) : St:=putT o.dst dl.v { s with O:=updO dl.upd (pushAll dl.news s.O) }
def Step1 (R : Orc) (q : Chk) (o : AOper) (s t : St) : Prop :=
 ∃ bb,wanted s.T o.grd = some bb∧if bb = true then ∃ v s1,chkOp R q o.fz (o.dst.getD 0) o.op s = some (v,s1)∧t = putT o.dst v s1 else t = putT o.dst .undef s

theorem chkZ_delta (R : Orc) (un qs : List Nat) (fz : Bool) (d : Nat) (op : AOp) (s : St) : chkOp R (.dr un qs) fz d op s = (deltaZ R qs s.lvl d fz op s.T (filtO s.lvl un s.O)).bind (applyD s):=by
 cases fz with
 | true=>simp only [chkOp,if_true,dOp_delta,deltaZ]
 | false=>simp only [chkOp,Qh,if_false,dOpF]
theorem step1_dr {R : Orc} {un qs : List Nat} {o : AOper} {s t : St} : Step1 R (.dr un qs) o s t ↔ ∃ dl,eff R qs s.lvl o s.T (filtO s.lvl un s.O) = some dl∧freshAll dl.news s.O = true∧t = apD o dl s:=by
 unfold Step1 eff
 constructor
 ·rintro ⟨bb,hw,h⟩
  rw [hw]
  cases bb with
  | true =>
    simp only [if_true,Q5] at h ⊢
    obtain ⟨v,s1,h,rfl⟩:=h
    rw [chkZ_delta] at h
    obtain ⟨dl,hd,h⟩:=Qa.1 h
    unfold applyD at h
    split at h
    ·rename_i hf
     simp only [Option.some.injEq,Prod.mk.injEq] at h
     obtain ⟨rfl,rfl⟩:=h
     exact ⟨dl,hd,hf,rfl⟩
    ·cases h
  | false =>
    simp only [Qh,if_false,Q5] at h ⊢
    exact ⟨_,rfl,rfl,h⟩
 ·rintro ⟨dl,h,hf,rfl⟩
  obtain ⟨bb,hw,h⟩:=Qa.1 h
  refine ⟨bb,hw,?_⟩
  cases bb with
  | true =>
    simp only [if_true] at h ⊢
    refine ⟨dl.v,_,?_,rfl⟩
    rw [chkZ_delta,h]
    simp only [Q5,applyD,hf,if_true]
  | false =>
    simp only [Qh,if_false,Option.some.injEq] at h ⊢
    subst h; rfl

theorem oget_filt (lvl : Nat) (un : List Nat) (id : Nat) : ∀ O : Heap,oget (filtO lvl un O) id = if un.contains (id / 256 - lvl * 4096) = true then none else oget O id
 | []=>by simp [filtO,oget]
 | (k,v)::l=>by
   simp only [filtO]
   split
   ·rename_i h
    rw [oget_filt lvl un id l]
    split
    ·rfl
    ·rename_i h2
     simp only [oget]
     rw [if_neg fun e=>by subst e; exact h2 h]
   ·rename_i h
    simp only [oget]
    split
    ·rename_i e; subst e; rw [if_neg h]
    ·exact oget_filt lvl un id l

theorem oget_push (id : Nat) : ∀ (l : List (Nat × Obj)) (O : Heap),(∀ p ∈ l,p.1 ≠ id) → oget (pushAll l O) id = oget O id
 | [],O,_=>rfl
 | p::l,O,h=>by
   simp only [pushAll]
   rw [oget_push id l _ fun q hq=>h q (by simp [hq])]
   obtain ⟨k,v⟩:=p
   simp only [oget]
   rw [if_neg (h (k,v) (by simp))]
theorem oget_push_in (id : Nat) : ∀ (l : List (Nat × Obj)) (O O' : Heap),(∃ p ∈ l,p.1 = id) → oget (pushAll l O) id = oget (pushAll l O') id
 | [],O,O',h=>by simp at h
 | p::l,O,O',h=>by
   simp only [pushAll]
   by_cases hl : ∃ q ∈ l,q.1 = id
   ·exact oget_push_in id l _ _ hl
   ·have hn : ∀ q ∈ l,q.1 ≠ id:=fun q hq e=>hl ⟨q,hq,e⟩
    rw [oget_push id l _ hn,oget_push id l _ hn]
    obtain ⟨q,hq,e⟩:=h
    simp only [Q7] at hq
    rcases hq with rfl | hq
    ·obtain ⟨k,v⟩:=q; simp only at e; subst e; simp [oget]
    ·exact absurd e (hn q hq)
theorem upd_none (up : Option (Nat × Obj)) (id : Nat) (O : Heap) : oget (updO up O) id = none ↔ oget O id = none:=by
 cases up with
 | none=>rfl
 | some p =>
   obtain ⟨i,o⟩:=p
   simp only [updO,oget_oset]
   split
   ·rename_i e; subst e; simp
   ·rfl
theorem fresh_iff : ∀ (l : List (Nat × Obj)) (O : Heap),freshAll l O = true ↔ (∀ p ∈ l,oget O p.1 = none)∧l.Pairwise fun p q=>p.1 ≠ q.1
 | [],O=>by simp [freshAll]
 | p :: l,O=>by
   simp only [freshAll,Qg,Option.isNone_iff_eq_none,Q7,forall_eq_or_imp,Qbm]
   rw [fresh_iff l]
   obtain ⟨k,v⟩:=p
   constructor
   ·rintro ⟨h1,h2,h3⟩
    refine ⟨⟨h1,fun q hq=>?_⟩,fun q hq e=>?_,h3⟩
    ·have:=h2 q hq
     simp only [oget] at this
     split at this
     ·cases this
     ·exact this
    ·have:=h2 q hq
     simp only [oget] at this
     rw [if_pos e] at this; cases this
   ·rintro ⟨⟨h1,h2⟩,h3,h4⟩
    refine ⟨h1,fun q hq=>?_,h4⟩
    simp only [oget]
    rw [if_neg (h3 q hq)]
    exact h2 q hq
theorem fresh_congr {l : List (Nat × Obj)} {O O' : Heap} (h : ∀ p ∈ l,oget O p.1 = none ↔ oget O' p.1 = none) : freshAll l O = true ↔ freshAll l O' = true:=by
 rw [fresh_iff,fresh_iff]
 constructor
 ·exact fun ⟨h1,h2⟩=>⟨fun p hp=>(h p hp).1 (h1 p hp),h2⟩
 ·exact fun ⟨h1,h2⟩=>⟨fun p hp=>(h p hp).2 (h1 p hp),h2⟩

theorem wanted_T {T T' : Env} {g : Option (Nat × Bool)} (h : ∀ t ∈ grdT g,tget T t = tget T' t) : wanted T g = wanted T' g:=by
 cases g with
 | none=>rfl
 | some p=>obtain ⟨t,b⟩:=p; simp only [wanted]; rw [h t (by simp [grdT])]
theorem frzOk_T {T T' : Env} {op : AOp} (h : ∀ t ∈ opT op,tget T t = tget T' t) : frzOk T op = frzOk T' op:=by
 cases op <;> try rfl
 case bsl st n z ps =>
  simp only [frzOk,opT] at *
  induction ps with
  | nil=>rfl
  | cons p ps ih =>
    simp only [Qk,Q9,Qs] at h
    simp only [Qb1]
    rw [ev_congr fun t ht=>h t (.inl ht),ih fun t ht=>h t (.inr ht)]
 case call f args =>
  simp only [frzOk,opT] at *
  rw [evs_congr h]
theorem eff_T {R : Orc} {un qs : List Nat} {lvl : Nat} {o : AOper} {T T' : Env} {V : Heap} (h : ∀ t ∈ seesT (.dr un qs) o,tget T t = tget T' t) : eff R qs lvl o T V = eff R qs lvl o T' V:=by
 simp only [seesT,chkQs,Qs] at h
 unfold eff
 rw [wanted_T fun t ht=>h t (.inr (.inl ht))]
 congr 1
 funext b
 unfold deltaZ
 rw [frzOk_T fun t ht=>h t (.inl ht),delta_T fun t ht=>h t (by simp only [Qs] at ht; rcases ht with ht | ht; exact .inl ht; exact .inr (.inr ht))]
theorem eff_V {R : Orc} {qs : List Nat} {lvl : Nat} {o : AOper} {T : Env} {V V' : Heap} (h : delta R qs lvl (o.dst.getD 0) o.op T V = delta R qs lvl (o.dst.getD 0) o.op T V') : eff R qs lvl o T V = eff R qs lvl o T V':=by
 unfold eff deltaZ; rw [h]
theorem frz_out {dl dl' : Dl} (h : frzDl dl = some dl') : dl'.news = []∧dl'.upd = none∧dl.upd = none:=by
 unfold frzDl at h
 split at h
 ·rename_i hu
  split at h
  ·simp only [Option.some.injEq] at h; subst h; exact ⟨rfl,rfl,hu⟩
  ·cases h
 ·cases h
theorem eff_out {R : Orc} {qs : List Nat} {lvl : Nat} {o : AOper} {T : Env} {V : Heap} {dl : Dl} (h : eff R qs lvl o T V = some dl) :
  (∀ p ∈ dl.news,p.1 / 256 - lvl * 4096 = o.dst.getD 0)∧(kindOf o.op = .loc ∨ kindOf o.op = .sto → dl.news = [])∧(kindOf o.op = .loc ∨ kindOf o.op = .cre ∨ kindOf o.op = .rdh → dl.upd = none)∧(∀ i o',dl.upd = some (i,o') → dl.news = []∧IsSto T lvl qs V o.op i o'):=by
 obtain ⟨b,_,h⟩:=Qa.1 h
 cases b with
 | true =>
   simp only [if_true] at h
   unfold deltaZ at h
   split at h
   ·exact delta_out h
   ·split at h
    case isFalse=>cases h
    obtain ⟨dl0,h0,h⟩:=Qa.1 h
    obtain ⟨e1,e2,e3⟩:=frz_out h
    exact ⟨by rw [e1]; simp,fun _=>e1,fun _=>e2,fun i o' e=>by rw [e2] at e; cases e⟩
 | false =>
   simp only [Qh,if_false,Option.some.injEq] at h; subst h
   exact ⟨by simp,fun _=>rfl,fun _=>rfl,fun i o' e=>by cases e⟩

def putE (dst : Option Nat) (v : LV) (T : Env) : Env:=match dst with | some d=>(d,v)::T | none=>T
theorem putE_get {dst : Option Nat} {v : LV} {T : Env} {t : Nat} (h : dst ≠ some t) : tget (putE dst v T) t = tget T t:=by
 cases dst with
 | none=>rfl
 | some d=>simp only [putE,tget]; rw [if_neg fun e=>h (by rw [e])]
theorem apD_T (o : AOper) (dl : Dl) (s : St) : (apD o dl s).T = putE o.dst dl.v s.T:=by unfold apD putT putE; cases o.dst <;> rfl
theorem apD_O (o : AOper) (dl : Dl) (s : St) : (apD o dl s).O = updO dl.upd (pushAll dl.news s.O):=by unfold apD putT; cases o.dst <;> rfl
theorem apD_F (o : AOper) (dl : Dl) (s : St) : (apD o dl s).F = s.F:=by unfold apD putT; cases o.dst <;> rfl
theorem apD_lvl (o : AOper) (dl : Dl) (s : St) : (apD o dl s).lvl = s.lvl:=by unfold apD putT; cases o.dst <;> rfl

structure Ind (uo qo : List Nat) (o : AOper) (up qp : List Nat) (p : AOper) : Prop where
 see : ∀ d,o.dst = some d → d ∉ seesT (.dr up qp) p∧p.dst ≠ some d
 pair : pairOk (kindOf o.op) (kindOf p.op) o.op p.op = true
 uno : makes o = true → ∃ d,o.dst = some d∧up.contains d = true
 qs : ∀ (n t : Nat) (y : Opd) (ag : Bool) (m : Nat) (z : Opd),o.op = .store n (.t t) y → p.op = .load ag m z → qp.contains t = true ∨ (up.contains t = true∧qo = [t])
theorem indep_ind {uo qo up qp : List Nat} {o p : AOper} (h : indep (.dr uo qo,o) (.dr up qp,p) = true) : Ind uo qo o up qp p∧Ind up qp p uo qo o:=by
 simp only [indep,Qg,Qam] at h
 obtain ⟨⟨⟨⟨⟨⟨⟨⟨h1,h2⟩,h3⟩,h4⟩,h5⟩,h6⟩,h7⟩,_⟩,_⟩:=h
 have hsee : ∀ {o p : AOper} {q : Chk},dstApart o p q = true → ∀ d,o.dst = some d → d ∉ seesT q p∧p.dst ≠ some d:=by
  intro o p q h d hd
  simp only [dstApart,hd,Qg,Qam] at h
  refine ⟨fun hm=>?_,fun e=>?_⟩
  ·have:=h.1; simp [hm] at this
  ·rw [e] at h; simp at h
 have huno : ∀ {p : AOper} {u r : List Nat},unOk (.dr u r) p = true → makes p = true → ∃ d,p.dst = some d∧u.contains d = true:=by
  intro p u r h hm
  simp only [unOk,hm,Qai,Qah,chkUn] at h
  split at h
  ·rename_i d hd; exact ⟨d,hd,h⟩
  ·cases h
 have hqs : ∀ {uo qo up qp : List Nat} {o p : AOper},qsOk (.dr up qp) (.dr uo qo) p o = true → ∀ (n t : Nat) (y : Opd) (ag : Bool) (m : Nat) (z : Opd),o.op = .store n (.t t) y → p.op = .load ag m z → qp.contains t = true ∨ (up.contains t = true∧qo = [t]):=by
  intro uo qo up qp o p h n t y ag m z ho hp
  simp only [qsOk,ho,hp,chkQs,chkUn,Qau,Qg,beq_iff_eq] at h
  exact h
 have hsym : pairOk (kindOf p.op) (kindOf o.op) p.op o.op = true:=by
  have e : pairOk (kindOf p.op) (kindOf o.op) p.op o.op = pairOk (kindOf o.op) (kindOf p.op) o.op p.op:=by
   cases kindOf o.op <;> cases kindOf p.op <;> rfl
  rw [e]; exact h3
 exact ⟨⟨hsee h1,h3,huno h5,hqs h7⟩,⟨hsee h2,hsym,huno h4,hqs h6⟩⟩

theorem sto_kind {T : Env} {lvl : Nat} {qs : List Nat} {V : Heap} {op : AOp} {i : Nat} {o' : Obj} (h : IsSto T lvl qs V op i o') : kindOf op = .sto:=by
 obtain ⟨n,x,v,rfl,_⟩:=h.st; rfl

theorem insens {R : Orc} {uo qo up qp : List Nat} {o p : AOper} (hi : Ind uo qo o up qp p) {T : Env} {lvl : Nat} {O : Heap} {dl : Dl} (hd : eff R qo lvl o T (filtO lvl uo O) = some dl) :
  eff R qp lvl p (putE o.dst dl.v T) (filtO lvl up (updO dl.upd (pushAll dl.news O))) = eff R qp lvl p T (filtO lvl up O):=by
 rw [eff_T (un:=up) (T':=T) fun t ht=>putE_get fun e=>(hi.see t e).1 ht]
 obtain ⟨hslot,hn0,hu0,hup⟩:=eff_out hd
 -- the new objects are out of sight
 have hpush : VE (filtO lvl up (pushAll dl.news O)) (filtO lvl up O):=fun id=>by
  rw [oget_filt,oget_filt]
  split
  ·rfl
  ·rename_i hc
   refine oget_push id _ _ fun q hq e=>?_
   have hs:=hslot q hq
   by_cases hm : makes o = true
   ·obtain ⟨d,hd,hcon⟩:=hi.uno hm
    rw [hd,e] at hs
    simp only [Qa9] at hs
    rw [hs] at hc; exact hc hcon
   ·have : dl.news = []:=by
     refine hn0 ?_
     have hp:=hi.pair
     unfold makes at hm
     cases hk : kindOf o.op <;> rw [hk] at hm hp <;> first | exact .inl rfl | exact .inr rfl | (exact absurd rfl hm) | (cases kindOf p.op <;> simp [pairOk] at hp)
    rw [this] at hq; cases hq
 cases hu : dl.upd with
 | none=>exact eff_V (delta_V hpush)
 | some q =>
   obtain ⟨i,o'⟩:=q
   obtain ⟨hnews,hst⟩:=hup i o' hu
   rw [hnews]
   simp only [pushAll,updO]
   have hko:=sto_kind hst
   obtain ⟨n,x,y,hop,hx⟩:=hst.st
   obtain ⟨ob,hob,hsk⟩:=hst.old
   have hOi : oget O i = some ob:=by
    rw [oget_filt] at hob
    split at hob
    ·cases hob
    ·exact hob
   have hview : ∀ id,oget (filtO lvl up (oset O i o')) id = if id = i then (if up.contains (i / 256 - lvl * 4096) = true then none else some o') else oget (filtO lvl up O) id:=fun id=>by
    rw [oget_filt,oget_filt,oget_oset]
    by_cases e : id = i
    ·subst e; simp only [if_true,hOi,Qay]
    ·simp only [if_neg e]
   have hK : ∀ id,SameK (oget (filtO lvl up (oset O i o')) id) (oget (filtO lvl up O) id):=fun id=>by
    rw [hview]
    by_cases e : id = i
    ·subst e
     rw [if_pos rfl,oget_filt,hOi]
     split
     ·trivial
     ·cases ob <;> cases o' <;> first | trivial | exact hsk.elim | exact Eq.symm hsk
    ·rw [if_neg e]; exact SameK.refl _
   have hp:=hi.pair
   rw [hko] at hp
   cases hkp : kindOf p.op with
   | loc=>exact eff_V (delta_noV (.inl hkp))
   | cre=>exact eff_V (delta_noV (.inr hkp))
   | sto=>rw [hkp] at hp; cases hp
   | noi=>rw [hkp] at hp; cases hp
   | rdh =>
     rw [hkp,hop] at hp
     refine eff_V ?_
     cases hpo : p.op with
     | load ag m z =>
       rw [hpo] at hp
       have hxt : ∃ t,x = .t t:=by
        cases x with
        | t t=>exact ⟨t,rfl⟩
        | c v=>cases hp
        | fu f=>cases hp
       obtain ⟨t,rfl⟩:=hxt
       have hq:=hi.qs n t y ag m z hop hpo
       simp only [delta]
       by_cases hcond : qp.isEmpty = true ∨ apartV T qp (z.ev T) = true
       ·rw [if_pos hcond,if_pos hcond]
        congr 1
        refine rd_at fun id hid=>?_
        rw [hview]
        by_cases e : id = i
        ·subst e
         rw [if_pos rfl]
         rcases hq with hq | ⟨hq1,hq2⟩
         ·exfalso
          have hne : ¬ qp.isEmpty = true:=by
           intro h; rw [List.isEmpty_iff] at h; rw [h] at hq; cases hq
          have hap:=hcond.resolve_left hne
          have hmem : t ∈ qp:=by simpa using hq
          have apq : ∀ {l : List Nat},apartQs T id l = true → t ∈ l → apartId id (tget T t) = true:=by
           intro l
           induction l with
           | nil=>intro _ h; cases h
           | cons q l ih =>
             intro h hm
             simp only [apartQs,Qg] at h
             cases hm with
             | head=>exact h.1
             | tail _ hm=>exact ih h.2 hm
          have hap2 : apartQs T id qp = true:=by
           rcases hid with ⟨off,e⟩ | ⟨j,off,e⟩ <;> rw [e] at hap <;> exact hap
          have:=apq hap2 hmem
          simp only [Opd.ev] at hx
          rcases hx with ⟨off,e⟩ | ⟨j,off,e⟩ <;> rw [e] at this <;> simp [apartId] at this
         ·have hsl:=hst.slot
          rw [hq2] at hsl
          simp only [inSlot,List.isEmpty_cons,Qah,List.contains_cons,List.contains_nil,Qb0,beq_iff_eq] at hsl
          rw [hsl,if_pos hq1,oget_filt,hsl,if_pos hq1]
        ·rw [if_neg e]
       ·rw [if_neg hcond,if_neg hcond]
     | ias st a b=>simp only [delta,valOp]; rw [ias_K hK]
     | sls st a b c=>simp only [delta,valOp]; rw [sls_K hK]
     | _=>rw [hpo] at hp hkp; first | (cases hkp; done) | (cases hp; done)

theorem makes_or {R : Orc} {q : List Nat} {o : AOper} {lvl : Nat} {T : Env} {V : Heap} {dl : Dl} {p : AOper} (hpair : pairOk (kindOf o.op) (kindOf p.op) o.op p.op = true) (h : eff R q lvl o T V = some dl) (hm : ¬ makes o = true) : dl.news = []:=by
 obtain ⟨_,hn0,_,_⟩:=eff_out h
 refine hn0 ?_
 unfold makes at hm
 cases hk : kindOf o.op <;> rw [hk] at hm hpair <;> first | exact .inl rfl | exact .inr rfl | (exact absurd rfl hm) | (cases kindOf p.op <;> simp [pairOk] at hpair)

theorem swap1 {R : Orc} {q r : Chk} {o p : AOper} {s t t' u : St} (hi : indep (q,o) (r,p) = true) (h1 : Step1 R q o s t) (hs : Sim t t') (h2 : Step1 R r p t' u) :
  ∃ m m',Step1 R r p s m∧Step1 R q o m m'∧Sim m' u:=by
 have hq : ∃ uo qo,q = .dr uo qo:=by
  cases q with
  | dr a b=>exact ⟨a,b,rfl⟩
  | free=>simp [indep] at hi
  | loc=>simp [indep] at hi
  | alt _ _=>simp [indep] at hi
  | lit _ _ _=>simp [indep] at hi
 have hr : ∃ up qp,r = .dr up qp:=by
  cases r with
  | dr a b=>exact ⟨a,b,rfl⟩
  | free=>simp [indep] at hi
  | loc=>simp [indep] at hi
  | alt _ _=>simp [indep] at hi
  | lit _ _ _=>simp [indep] at hi
 obtain ⟨uo,qo,rfl⟩:=hq
 obtain ⟨up,qp,rfl⟩:=hr
 obtain ⟨ind1,ind2⟩:=indep_ind hi
 obtain ⟨d1,e1,f1,rfl⟩:=step1_dr.1 h1
 obtain ⟨d2,e2,f2,rfl⟩:=step1_dr.1 h2
 obtain ⟨sl1,n1,u1,up1⟩:=eff_out e1
 -- the second, seen from the beginning
 have e2' : eff R qp s.lvl p s.T (filtO s.lvl up s.O) = some d2:=by
  rw [← insens ind1 e1,← e2,← hs.lvl,apD_lvl]
  rw [eff_T (un:=up) (T':=t'.T) fun k _=>by rw [← hs.T k,apD_T]]
  refine eff_V (delta_V fun id=>?_)
  rw [oget_filt,oget_filt,← hs.O id,apD_O]
 obtain ⟨sl2,n2,u2,up2⟩:=eff_out e2'
 have hdist : ∀ x ∈ d1.news,∀ y ∈ d2.news,x.1 ≠ y.1:=by
  intro x hx y hy e
  have m1 : makes o = true:=Qu fun h=>by rw [makes_or ind1.pair e1 h] at hx; cases hx
  have m2 : makes p = true:=Qu fun h=>by rw [makes_or ind2.pair e2' h] at hy; cases hy
  obtain ⟨a,ha,_⟩:=ind1.uno m1
  obtain ⟨b,hb,_⟩:=ind2.uno m2
  have s1:=sl1 x hx
  have s2:=sl2 y hy
  rw [ha] at s1; rw [hb] at s2
  simp only [Qa9] at s1 s2
  rw [e,s2] at s1
  exact (ind1.see a ha).2 (by rw [hb,s1])
 have f1':=(fresh_iff _ _).1 f1
 have f2s : freshAll d2.news s.O = true:=by
  rw [← fresh_congr (O:=t'.O)]
  ·exact f2
  ·intro y hy
   rw [← hs.O y.1,apD_O,upd_none,oget_push _ _ _ fun x hx e=>hdist x hx y hy e]
 have f2':=(fresh_iff _ _).1 f2s
 have hm : Step1 R (.dr up qp) p s (apD p d2 s):=step1_dr.2 ⟨d2,e2',f2s,rfl⟩
 have e1' : eff R qo (apD p d2 s).lvl o (apD p d2 s).T (filtO (apD p d2 s).lvl uo (apD p d2 s).O) = some d1:=by
  rw [apD_lvl,apD_T,apD_O,insens ind2 e2']; exact e1
 have f1s : freshAll d1.news (apD p d2 s).O = true:=by
  rw [← fresh_congr (O:=s.O)]
  ·exact f1
  ·intro x hx
   rw [apD_O,upd_none,oget_push _ _ _ fun y hy e=>hdist x hx y hy e.symm]
 refine ⟨_,_,hm,step1_dr.2 ⟨d1,e1',f1s,rfl⟩,?_⟩
 refine ⟨fun k=>?_,fun id=>?_,?_,?_⟩
 ·rw [apD_T,apD_T,apD_T]
  by_cases ho : o.dst = some k
  ·have hp : p.dst ≠ some k:=(ind1.see k ho).2
   rw [putE_get hp,← hs.T k,apD_T]
   rw [ho]; simp [putE,tget]
  ·rw [putE_get ho]
   by_cases hp : p.dst = some k
   ·rw [hp]; simp [putE,tget]
   ·rw [putE_get hp,putE_get hp,← hs.T k,apD_T,putE_get ho]
 ·rw [apD_O,apD_O,apD_O]
  have hto : ∀ j,oget t'.O j = oget (updO d1.upd (pushAll d1.news s.O)) j:=fun j=>by rw [← hs.O j,apD_O]
  -- what is changed was there, what is new was not
  have was : ∀ {qz : List Nat} {z : AOper} {dz : Dl} {uz : List Nat},eff R qz s.lvl z s.T (filtO s.lvl uz s.O) = some dz → ∀ i ob,dz.upd = some (i,ob) → oget s.O i ≠ none∧dz.news = []∧kindOf z.op = .sto:=by
   intro qz z dz uz h i ob hu
   obtain ⟨_,_,_,hz⟩:=eff_out h
   obtain ⟨hn,hst⟩:=hz i ob hu
   obtain ⟨o',ho',_⟩:=hst.old
   rw [oget_filt] at ho'
   split at ho'
   ·cases ho'
   ·exact ⟨by rw [ho']; simp,hn,sto_kind hst⟩
  cases hu1 : d1.upd with
  | none =>
    have hto : ∀ j,oget t'.O j = oget (pushAll d1.news s.O) j:=fun j=>by rw [hto j,hu1]; rfl
    simp only [updO]
    cases hu2 : d2.upd with
    | none =>
      simp only [updO]
      by_cases hx : ∃ x ∈ d1.news,x.1 = id
      ·obtain ⟨x,hx,e⟩:=hx
       rw [oget_push id d2.news _ fun y hy e2=>hdist x hx y hy (e.trans e2.symm),hto]
       exact oget_push_in id _ _ _ ⟨x,hx,e⟩
      ·have hx' : ∀ x ∈ d1.news,x.1 ≠ id:=fun x h e=>hx ⟨x,h,e⟩
       rw [oget_push id d1.news _ hx']
       by_cases hy : ∃ y ∈ d2.news,y.1 = id
       ·exact oget_push_in id _ _ _ hy
       ·have hy' : ∀ y ∈ d2.news,y.1 ≠ id:=fun y h e=>hy ⟨y,h,e⟩
        rw [oget_push id d2.news _ hy',oget_push id d2.news _ hy',hto,oget_push id d1.news _ hx']
    | some q2 =>
      obtain ⟨i,ob⟩:=q2
      obtain ⟨hiO,hn2,_⟩:=was e2' i ob hu2
      rw [hn2]
      simp only [pushAll,updO]
      by_cases hx : ∃ x ∈ d1.news,x.1 = id
      ·obtain ⟨x,hx,e⟩:=hx
       have hne : id ≠ i:=fun e2=>hiO (by rw [← e2,← e]; exact f1'.1 x hx)
       rw [oget_oset,if_neg hne,hto]
       exact oget_push_in id _ _ _ ⟨x,hx,e⟩
      ·have hx' : ∀ x ∈ d1.news,x.1 ≠ id:=fun x h e=>hx ⟨x,h,e⟩
       rw [oget_push id d1.news _ hx',oget_oset,oget_oset]
       by_cases e : id = i
       ·subst e; rw [if_pos rfl,if_pos rfl,hto,oget_push id d1.news _ hx']
       ·rw [if_neg e,if_neg e,hto,oget_push id d1.news _ hx']
  | some q1 =>
    obtain ⟨i,ob⟩:=q1
    obtain ⟨hiO,hn1,hk1⟩:=was e1 i ob hu1
    have hto : ∀ j,oget t'.O j = oget (oset s.O i ob) j:=fun j=>by rw [hto j,hu1,hn1]; rfl
    have hu2 : d2.upd = none:=by
     cases hu2 : d2.upd with
     | none=>rfl
     | some q2 =>
       obtain ⟨_,_,hk2⟩:=was e2' q2.1 q2.2 hu2
       have:=ind1.pair
       rw [hk1,hk2] at this; cases this
    rw [hn1,hu2]
    simp only [pushAll,updO]
    by_cases hy : ∃ y ∈ d2.news,y.1 = id
    ·obtain ⟨y,hy,e⟩:=hy
     have hne : id ≠ i:=fun e2=>hiO (by rw [← e2,← e]; exact f2'.1 y hy)
     rw [oget_oset,if_neg hne]
     exact oget_push_in id _ _ _ ⟨y,hy,e⟩
    ·have hy' : ∀ y ∈ d2.news,y.1 ≠ id:=fun y h e=>hy ⟨y,h,e⟩
     rw [oget_push id d2.news _ hy',hto,oget_oset,oget_oset]
     by_cases e : id = i
     ·subst e; rw [if_pos rfl,if_pos rfl,oget_push id d2.news _ hy']
     ·rw [if_neg e,if_neg e,oget_push id d2.news _ hy']
 ·rw [apD_F,apD_F,apD_F,← hs.F,apD_F]
 ·rw [apD_lvl,apD_lvl,apD_lvl,← hs.lvl,apD_lvl]

inductive RD (R : Orc) : List (Chk × AOper) → St → St → Prop
 | nil {s s2 : St} (h : Sim s s2) : RD R [] s s2
 | cons {x : Chk × AOper} {l : List (Chk × AOper)} {s t t' s2 : St} (h : Sim s t) (hx : Step1 R x.1 x.2 t t') (hr : RD R l t' s2) : RD R (x::l) s s2
theorem RD.sim {R : Orc} {l : List (Chk × AOper)} {s s' s2 : St} (h : Sim s' s) (k : RD R l s s2) : RD R l s' s2:=by
 cases k with
 | nil h2=>exact .nil (h.trans h2)
 | cons h2 hx hr=>exact .cons (h.trans h2) hx hr
theorem RD.swap {R : Orc} {x y : Chk × AOper} {l : List (Chk × AOper)} {s s2 : St} (hi : indep x y = true) (k : RD R (x::y::l) s s2) : RD R (y::x::l) s s2:=by
 cases k with
 | cons h hx hr =>
   cases hr with
   | cons h2 hy hr2 =>
     obtain ⟨m,m',a,b,c⟩:=swap1 (q:=x.1) (r:=y.1) (o:=x.2) (p:=y.2) hi hx h2 hy
     exact .cons h a (.cons (Sim.refl _) b (hr2.sim c))
theorem RD.front {R : Orc} {x : Chk × AOper} {B : List (Chk × AOper)} {s2 : St} : ∀ {A : List (Chk × AOper)} {s : St},(∀ y ∈ A,indep y x = true) → RD R (A++x::B) s s2 → RD R (x::(A++B)) s s2
 | [],s,_,k=>k
 | y::A,s,h,k=>by
   cases k with
   | cons h1 hy hr=>exact RD.swap (h y (by simp)) (.cons h1 hy (RD.front (fun z hz=>h z (by simp [hz])) hr))
theorem RD.of_run {R : Orc} : ∀ {l : List (Chk × AOper)} {s s2 : St},runD R l s = some s2 → RD R l s s2
 | [],s,s2,h=>by simp only [runD,Option.some.injEq] at h; subst h; exact .nil (Sim.refl _)
 | x :: l,s,s2,h=>by
   obtain ⟨bb,hw,h⟩:=Qa.1 (show (wanted s.T x.2.grd).bind (grdD R x.1 x.2 (runD R l) s) = some s2 from h)
   unfold grdD at h
   cases bb with
   | true =>
     simp only [if_true] at h
     obtain ⟨⟨v,s1⟩,h1,h2⟩:=Qa.1 h
     exact .cons (Sim.refl _) ⟨true,hw,by simp only [if_true]; exact ⟨v,s1,h1,rfl⟩⟩ (RD.of_run h2)
   | false =>
     simp only [Qh,if_false] at h
     exact .cons (Sim.refl _) ⟨false,hw,by simp⟩ (RD.of_run h)
end Go.Zv

/- The engine, part 28: an operation of a drawn region is sound. -/
namespace Go.Zv
section
variable {P : Program} {c : Cx} {w w' : World} {s : St} {tmps : Array Value} {Ts : List (Array Value)}

def Sub (V O : Heap) : Prop:=∀ id o,oget V id = some o → oget O id = some o
theorem sub_filt (lvl : Nat) (un : List Nat) (O : Heap) : Sub (filtO lvl un O) O:=fun id o h=>by
 rw [oget_filt] at h
 split at h
 ·cases h
 ·exact h
theorem rd_sub {V O : Heap} (h : Sub V O) {ag : Bool} {n : Nat} {x v : LV} (hr : rd V ag n x = some v) : rd O ag n x = some v:=by
 cases x <;> simp only [rd] at hr ⊢
 all_goals first
  | exact hr
  | (cases ho : oget V _ with
     | none=>rw [ho] at hr; cases hr
     | some o=>rw [ho] at hr; rw [h _ _ ho]; exact hr)
theorem elems_sub {V O : Heap} (h : Sub V O) {x : LV} {v : List (List LV)} (hr : elems V x = some v) : elems O x = some v:=by
 cases x <;> simp only [elems] at hr ⊢
 all_goals first
  | exact hr
  | (cases ho : oget V _ with
     | none=>rw [ho] at hr; cases hr
     | some o=>rw [ho] at hr; rw [h _ _ ho]; exact hr)
theorem len_sub {V O : Heap} (h : Sub V O) {k : Nat} {x : LV} {v : Int} (hr : lenOf V k x = some v) : lenOf O k x = some v:=by
 by_cases hm : k = 2 ∧ ∃ id,x = .mp id
 ·obtain ⟨rfl,id,rfl⟩:=hm
  simp only [lenOf] at hr ⊢
  cases ho : oget V id with
  | none=>rw [ho] at hr; cases hr
  | some o=>rw [ho] at hr; rw [h _ _ ho]; exact hr
 ·have e : lenOf O k x = lenOf V k x:=by
   unfold lenOf
   split <;> first
    | rfl
    | exact absurd ⟨rfl,_,rfl⟩ hm
  rw [e]; exact hr
theorem lkp_sub {V O : Heap} (h : Sub V O) {ks : List Nat} {k x : LV} {v : Option LV} (hr : lkpV V ks k x = some v) : lkpV O ks k x = some v:=by
 cases x <;> simp only [lkpV] at hr ⊢
 all_goals first
  | exact hr
  | (obtain ⟨b,hb,hr⟩:=Qa.1 hr
     rw [hb]
     simp only [Q5]
     cases ho : oget V _ with
     | none=>rw [ho] at hr; cases hr
     | some o=>rw [ho] at hr; rw [h _ _ ho]; exact hr)
theorem ias_sub {V O : Heap} (h : Sub V O) {st : Nat} {x i v : LV} (hr : iasV V st x i = some v) : iasV O st x i = some v:=by
 cases i <;> simp only [iasV] at hr ⊢
 all_goals first
  | exact hr
  | skip
 cases x <;> simp only [iasI] at hr ⊢
 all_goals first
  | exact hr
  | (cases ho : oget V _ with
     | none=>rw [ho] at hr; cases hr
     | some o=>rw [ho] at hr; rw [h _ _ ho]; exact hr)
theorem sls_sub {V O : Heap} (h : Sub V O) {T : Env} {st : Nat} {lo hi : Option Opd} {x v : LV} (hr : slsV T V st lo hi x = some v) : slsV T O st lo hi x = some v:=by
 cases x <;> simp only [slsV] at hr ⊢
 all_goals first
  | exact hr
  | (cases ho : oget V _ with
     | none=>rw [ho] at hr; cases hr
     | some o=>rw [ho] at hr; rw [h _ _ ho]; exact hr)
theorem valOp_sub {V O : Heap} (h : Sub V O) {T : Env} {op : AOp} {v : LV} (hr : valOp T V op = some v) : valOp T O op = some v:=by
 cases op <;> simp only [valOp] at hr ⊢
 all_goals first
  | exact hr
  | exact rd_sub h hr
  | exact ias_sub h hr
  | exact sls_sub h hr
  | (obtain ⟨b,hb,hr⟩:=Qa.1 hr
     first
      | (rw [elems_sub h hb]; exact hr)
      | (rw [len_sub h hb]; exact hr)
      | (rw [lkp_sub h hb]; exact hr))

theorem io_none (H : SR P c s tmps Ts w) {id : Nat} (h : oget s.O id = none) : c.io id = none:=by
 cases hi : c.io id with
 | none=>rfl
 | some hh=>obtain ⟨o,e⟩:=H.dom id hh hi; rw [h] at e; cases e
theorem aparts_of {id : Nat} : ∀ {l : List LV},(∀ (i : Nat) (x : LV),l[i]? = some x → LV.apart id x = true) → LV.aparts id l = true
 | [],_=>rfl
 | v::l,h=>by
   simp only [LV.aparts,Qg]
   exact ⟨h 0 v rfl,aparts_of fun i x hx=>h (i + 1) x (by simpa using hx)⟩
theorem VR.apart_of {id : Nat} (hn : c.io id = none) {x : LV} {v : Value} (h : VR c x v) : LV.apart id x = true:=by
 have ne : ∀ {j : Nat} {hh : Home},c.io j = some hh → (j != id) = true:=fun {j hh} hj=>by
  simp only [bne_iff_ne,ne_eq]
  intro e; subst e; rw [hn] at hj; cases hj
 induction h with
 | agg cs vs hl h ih =>
   exact aparts_of fun i x hx=>by
    have hi : i < cs.length:=(Qe.1 hx).1
    exact ih i x _ hx (Qf (hl ▸ hi))
 | tup cs vs hl h ih =>
   exact aparts_of fun i x hx=>by
    have hi : i < cs.length:=(Qe.1 hx).1
    exact ih i x _ hx (Qf (hl ▸ hi))
 | fn f xs ys us vs hl hl2 h h2 ih ih2 =>
   simp only [LV.apart,Qg]
   exact ⟨aparts_of fun i x hx=>by
    have hi : i < xs.length:=(Qe.1 hx).1
    exact ih i x _ hx (Qf (hl ▸ hi)),aparts_of fun i x hx=>by
    have hi : i < ys.length:=(Qe.1 hx).1
    exact ih2 i x _ hx (Qf (hl2 ▸ hi))⟩
 | bs id off len h a cap hcap hi h0 h1 hoff=>exact ne hi
 | bb id off st len h a cap hcap hi h1=>exact ne hi
 | ptr id off h hi=>exact ne hi
 | ep id i off h hi hn=>exact ne hi
 | mp id h hi=>exact ne hi
 | yl id h hi=>exact ne hi
 | _=>rfl
theorem free_none {id : Nat} (h : oget s.O id = none) : St.free id s = s:=by unfold St.free; rw [h]; rfl
theorem new_push {id : Nat} (o : Obj) (h : oget s.O id = none) : St.new id o s = St.push id o s:=by unfold St.new; rw [free_none h]

theorem rows_d {all : List LV} {O0 : Heap} (hap : ∀ id,oget O0 id = none → LV.aparts id all = true) : ∀ {l : List LV} {id : Nat} {s : St} {r : List LV × St},(∀ j,oget s.O j = none → oget O0 j = none) → dRows id l s = some r → rowsOf all id l s = some r
 | [],id,s,r,_,h=>h
 | v::l,id,s,r,hs,h=>by
   simp only [dRows] at h
   simp only [rowsOf]
   split at h
   ·rename_i hn
    rw [if_pos hn]
    cases ho : oget s.O id with
    | some o=>rw [ho] at h; cases h
    | none =>
      rw [ho] at h
      simp only [dRowsK] at h
      rw [if_pos (hap id (hs id ho)),new_push _ ho]
      obtain ⟨q,hq,rfl⟩:=Qc.1 h
      rw [rows_d hap (fun j hj=>?_) hq]
      ·rfl
      ·refine hs j ?_
       simp only [St.push,oget] at hj
       split at hj
       ·cases hj
       ·exact hj
   ·rename_i hn
    rw [if_neg hn]
    obtain ⟨q,hq,rfl⟩:=Qc.1 h
    rw [rows_d hap hs hq]; rfl
theorem aparts_rowsN {id : Nat} : ∀ (l : List LV) (k : Nat),id < k → LV.aparts id l = true → LV.aparts id (rowsN k l).1 = true
 | [],_,_,_=>rfl
 | v::l,k,hk,h=>by
   simp only [LV.aparts,Qg] at h
   simp only [rowsN]
   split
   ·simp only [LV.aparts,LV.apart,Qg]
    exact ⟨by simp; omega,aparts_rowsN l (k + 1) (by omega) h.2⟩
   ·simp only [LV.aparts,Qg]
    exact ⟨h.1,aparts_rowsN l (k + 1) (by omega) h.2⟩
theorem box_d (H : SR P c s tmps Ts w) {z : List LV} {vals : List Value} (hv : VRs c z vals) {id : Nat} {r : LV × St} (h : dBox id z s = some r) : boxV id z s = some r:=by
 unfold dBox at h
 split at h
 ·rename_i hz
  obtain ⟨q,hq,h⟩:=Qa.1 h
  have hap : ∀ id,oget s.O id = none → LV.aparts id z = true:=fun id ho=>aparts_of fun i x hx=>by
   obtain ⟨v,_,hxv⟩:=hv.getSome hx
   exact hxv.apart_of (io_none H ho)
  unfold boxV
  rw [if_pos hz.1,rows_d hap (fun j hj=>hj) hq,Q5]
  simp only [dBoxK,dNew] at h
  cases ho : oget q.2.O id with
  | some o=>rw [ho] at h; cases h
  | none =>
    rw [ho] at h
    simp only [putO] at h
    have hq2:=hq
    rw [dRows_ap] at hq2
    split at hq2
    ·simp only [Option.some.injEq] at hq2
     have ho0 : oget s.O id = none:=by
      rw [← hq2] at ho
      have:=oget_push id (rowsN (id + 1) z).2 s.O fun p hp e=>by have:=rowsN_ids z (id + 1) p hp; omega
      rw [← this]; exact ho
     have : LV.aparts id q.1 = true:=by rw [← hq2]; exact aparts_rowsN z (id + 1) (by omega) (hap id ho0)
     simp only [boxK]
     rw [if_pos this,new_push _ ho]; exact h
    ·cases hq2
 ·cases h


end
mutual
theorem cl_closd : ∀ v : LV,LV.closed v = true → (∀ O : Heap,LV.cl O v = v)∧LV.ids v = []
 | .agg cs,h=>by
   have:=cls_closd cs (by simpa [LV.closed] using h)
   exact ⟨fun O=>by simp only [LV.cl,this.1 O],by simp only [LV.ids,this.2]⟩
 | .tup cs,h=>by
   have:=cls_closd cs (by simpa [LV.closed] using h)
   exact ⟨fun O=>by simp only [LV.cl,this.1 O],by simp only [LV.ids,this.2]⟩
 | .fn f a b,h=>by
   simp only [LV.closed,Qg] at h
   have h1:=cls_closd a h.1
   have h2:=cls_closd b h.2
   exact ⟨fun O=>by simp only [LV.cl,h1.1 O,h2.1 O],by simp [LV.ids,h1.2,h2.2]⟩
 | .bs ..,h | .bb ..,h | .ptr ..,h | .ep ..,h | .mp ..,h | .yl ..,h | .nils _,h | .os ..,h | .om ..,h=>by simp [LV.closed] at h
 | .any,_ | .undef,_ | .int ..,_ | .bool _,_ | .str _,_ | .vs _,_ | .nul,_ | .emp,_ | .fp _,_ | .nilp,_ | .nilf,_ | .nilm,_=>⟨fun _=>by simp only [LV.cl],by simp only [LV.ids]⟩
theorem cls_closd : ∀ l : List LV,LV.closeds l = true → (∀ O : Heap,LV.cls O l = l)∧LV.idss l = []
 | [],_=>⟨fun _=>rfl,rfl⟩
 | v::l,h=>by
   simp only [LV.closeds,Qg] at h
   have h1:=cl_closd v h.1
   have h2:=cls_closd l h.2
   exact ⟨fun O=>by simp only [LV.cls,h1.1 O,h2.1 O],by simp [LV.idss,h1.2,h2.2]⟩
end
section
variable {P : Program} {c : Cx} {w w' : World} {s : St} {tmps : Array Value} {Ts : List (Array Value)}

theorem closeCells_d {cs : List LV} (h : LV.closeds cs = true) (h1 : cs.all LV.one = true) : closeCells s cs = some (cs,s):=by
 obtain ⟨e1,e2⟩:=cls_closd cs h
 unfold closeCells closedK
 rw [e1,e2,if_pos ⟨h,h1⟩]; rfl
mutual
theorem cl_free {O : Heap} : ∀ v : LV,LV.closed (LV.cl [] v) = true → LV.cl O v = LV.cl [] v∧LV.ids v = []
 | .agg cs,h=>by
   simp only [LV.cl,LV.closed] at h
   obtain ⟨h1,h2⟩:=cls_free (O:=O) cs h
   simp only [LV.cl,LV.ids,h1,h2,and_self]
 | .tup cs,h=>by
   simp only [LV.cl,LV.closed] at h
   obtain ⟨h1,h2⟩:=cls_free (O:=O) cs h
   simp only [LV.cl,LV.ids,h1,h2,and_self]
 | .fn f a b,h=>by
   simp only [LV.cl,LV.closed,Qg] at h
   obtain ⟨h1,h2⟩:=cls_free (O:=O) a h.1
   obtain ⟨h3,h4⟩:=cls_free (O:=O) b h.2
   simp only [LV.cl,LV.ids,h1,h2,h3,h4,Qbc,and_self]
 | .bs ..,h=>by simp [LV.cl,rowElems,oget,vsK,LV.closed] at h
 | .bb ..,h=>by simp [LV.cl,boxElemsC,oget,vsK,LV.closed] at h
 | .ptr ..,h=>by simp [LV.cl,LV.closed] at h
 | .ep ..,h=>by simp [LV.cl,LV.closed] at h
 | .mp _,h=>by simp [LV.cl,LV.closed] at h
 | .yl _,h=>by simp [LV.cl,LV.closed] at h
 | .nils _,_ | .any,_ | .undef,_ | .int ..,_ | .bool _,_ | .str _,_ | .vs _,_ | .os ..,_ | .nul,_ | .emp,_ | .fp _,_ | .nilp,_ | .nilf,_ | .om _,_ | .nilm,_=>⟨rfl,rfl⟩
theorem cls_free {O : Heap} : ∀ l : List LV,LV.closeds (LV.cls [] l) = true → LV.cls O l = LV.cls [] l∧LV.idss l = []
 | [],_=>⟨rfl,rfl⟩
 | v::l,h=>by
   simp only [LV.cls,LV.closeds,Qg] at h
   obtain ⟨h1,h2⟩:=cl_free (O:=O) v h.1
   obtain ⟨h3,h4⟩:=cls_free (O:=O) l h.2
   simp only [LV.cls,LV.idss,h1,h2,h3,h4,Qbc,and_self]
end
theorem closeRows_n : ∀ {xs : List (List LV)},((fixR xs).all fun x=>LV.closeds x && x.all LV.one) = true → closeRows xs s = some (fixR xs,s)
 | [],_=>rfl
 | x::l,h=>by
   simp only [fixR,Qk,Qb1,Qg] at h
   simp only [closeRows]
   obtain ⟨e1,e2⟩:=cls_free (O:=s.O) x h.1.1
   have e3 : closeCells s x = some (LV.cls [] x,s):=by
    unfold closeCells closedK
    rw [e1,e2,if_pos ⟨h.1.1,h.1.2⟩]; rfl
   rw [e3]
   simp only [Q5,rowsK]
   rw [closeRows_n (xs:=l) (by simpa [fixR] using h.2)]
   rfl
theorem closed_nils {v : LV} (h : LV.closed v = true) : ¬ isNils v = true:=by
 cases v <;> first | (simp [isNils]; done) | (simp [LV.closed] at h)
theorem rowsOf_d {all : List LV} : ∀ {cs : List LV} {id : Nat},LV.closeds cs = true → rowsOf all id cs s = some (cs,s)
 | [],_,_=>rfl
 | v::l,id,h=>by
   simp only [LV.closeds,Qg] at h
   simp only [rowsOf]
   rw [if_neg (closed_nils h.1),rowsOf_d h.2]; rfl

theorem store_d {lvl : Nat} {un qs : List Nat} {n : Nat} {x v : Opd} {r : LV × St} (h : dOp (fun _=>none) un qs lvl (.store n x v) s = some r) : (wr s n (x.ev s.T) (v.ev s.T).cells).bind okU = some r:=by
 simp only [dOp] at h
 split at h
 ·rename_i hc
  obtain ⟨h1,h2,h3⟩:=hc
  unfold wr
  rw [if_pos ⟨h1,h2⟩]
  cases hx : x.ev s.T with
  | ptr id off =>
    rw [hx] at h
    simp only [dStore] at h
    split at h
    ·simp only [wrAt]
     rw [rowsOf_d h3]
     simp only [Q5,wrBox]
     cases ho : oget (filtO s.lvl un s.O) id with
     | none=>rw [ho] at h; cases h
     | some o =>
       rw [ho] at h
       rw [sub_filt _ _ _ _ _ ho]
       cases o with
       | box bs =>
         simp only [dSetBox] at h
         simp only [setBox]
         split at h
         ·rename_i hl; rw [if_pos hl]; exact h
         ·cases h
       | _=>cases h
    ·cases h
  | ep id i off =>
    rw [hx] at h
    simp only [dStore] at h
    split at h
    ·simp only [wrAt]
     rw [closeCells_d h3 h2]
     simp only [Q5,wrRow]
     cases ho : oget (filtO s.lvl un s.O) id with
     | none=>rw [ho] at h; cases h
     | some o =>
       rw [ho] at h
       rw [sub_filt _ _ _ _ _ ho]
       cases o with
       | row st xs =>
         simp only [dSetRow] at h
         simp only [setRow]
         cases hxi : xs[i]? with
         | none=>rw [hxi] at h; cases h
         | some y =>
           rw [hxi] at h
           simp only [dSetElt] at h
           simp only [setElt]
           split at h
           ·rename_i hl; rw [if_pos hl]; exact h
           ·cases h
       | _=>cases h
    ·cases h
  | _=>rw [hx] at h; cases h
 ·cases h

def AOp.mk3 : AOp → Nat
 | .alloc _=>1
 | .box _=>2
 | .as _=>3
 | .mks .. => 4
 | .bsl .. => 5
 | _=>0
def Op.mk3 : Op → Nat
 | .alloc _=>1
 | .box .. => 2
 | .assign _=>3
 | .makeSlice .. => 4
 | .buildSlice .. => 5
 | _=>0
theorem mk3_class {ty : TypeId} {op : Op} : (toOp1 P ty op).all (fun x=>x.mk3 == Op.mk3 op) = true:=by
 cases op <;> unfold toOp1 <;> simp only [bind] <;>
  repeat' (first | rfl | contradiction | (refine all_map fun _=>?_) | (refine all_bind fun _=>?_) | split)
theorem mk3_eq {ty : TypeId} {op : Op} {x : AOp} (h : toOp1 P ty op = some x) : x.mk3 = Op.mk3 op:=by
 have:=mk3_class (P:=P) (ty:=ty) (op:=op)
 rw [h] at this
 simpa using this

theorem dOp_step {a : Act} (H : SR P c s a.tmps Ts w) {R : Orc} {un qs : List Nat} {d : Nat} {o : Oper} {x : AOp} (hop : toOp1 P o.type o.op = some x) (hnc : x.isCall = false) (hnas : ∀ y,x ≠ .as y) {r : LV × St} (h : dOp R un qs d x s = some r) : stepOp R true d x s = some r:=by
 have hT:=H.T
 have val : ∀ {op : AOp},(valOp s.T (filtO s.lvl un s.O) op).bind (ok1 s) = some r → (valOp s.T s.O op).bind (ok1 s) = some r:=fun h=>by
  obtain ⟨v,hv,h⟩:=Qa.1 h
  rw [valOp_sub (sub_filt _ _ _) hv]; exact h
 cases x with
 | as y=>exact absurd rfl (hnas y)
 | alloc z =>
   have hk:=mk3_eq hop
   cases ho : o.op with
   | alloc e =>
     rw [ho] at hop
     simp only [toOp1,bind,Qa,Option.some.injEq] at hop
     obtain ⟨z',hz,e2⟩:=hop
     simp only [AOp.alloc.injEq] at e2
     obtain ⟨i,zv,hi,hzv,hzr⟩:=zeroLV_ok (c:=c) hz
     obtain ⟨hzc,_⟩:=cells_VRs hzr (zero_one hz)
     rw [e2] at hzc
     exact box_d H hzc h
   | _=>rw [ho] at hk; cases hk
 | box y =>
   have hk:=mk3_eq hop
   cases ho : o.op with
   | box e v =>
     rw [ho] at hop
     simp only [toOp1,bind,Qa,Option.some.injEq] at hop
     obtain ⟨y',hy,e2⟩:=hop
     simp only [AOp.box.injEq] at e2
     subst e2
     have h' : dBox (oid s.lvl d) (y'.ev s.T).cells s = some r:=h
     have hone : (y'.ev s.T).cells.all LV.one = true:=by
      unfold dBox at h'
      split at h'
      ·rename_i hz; exact hz.1
      ·cases h'
     obtain ⟨hc,_⟩:=cells_VRs (opdT_ok hT hy) hone
     exact box_d H hc h
   | _=>rw [ho] at hk; cases hk
 | bsl st n z ps =>
   simp only [dOp] at h
   show (if z.length = st then (fillS st s.T ps (List.replicate n z)).bind (bslK (oid s.lvl d) st n s) else none) = some r
   split at h
   ·rename_i hz
    rw [if_pos hz]
    obtain ⟨xs,hx,h⟩:=Qa.1 h
    rw [hx,Q5]
    unfold dBsl at h
    split at h
    ·rename_i hc
     unfold bslK
     rw [closeRows_n hc]
     simp only [bslJ,rowK]
     unfold dNew at h
     cases ho : oget s.O (oid s.lvl d) with
     | some o=>rw [ho] at h; cases h
     | none=>rw [ho] at h; rw [new_push _ ho]; exact h
    ·cases h
   ·cases h
 | store n y v=>exact store_d (un:=un) (qs:=qs) (lvl:=d) h
 | mks st z y v =>
   simp only [dOp] at h
   show mksV (oid s.lvl d) z s (y.ev s.T) (v.ev s.T) = some r
   cases h1 : y.ev s.T <;> (try (rw [h1] at h; cases h; done))
   cases h2 : v.ev s.T <;> (try (rw [h1,h2] at h; cases h; done))
   rw [h1,h2] at h
   simp only [dMks] at h
   simp only [mksV]
   split at h
   ·rename_i hc
    rw [if_pos ⟨hc.1,hc.2.1,hc.2.2.1,hc.2.2.2.1⟩]
    unfold dNew at h
    cases ho : oget s.O (oid s.lvl d) with
    | some o=>rw [ho] at h; cases h
    | none=>rw [ho] at h; rw [new_push _ ho]; exact h
   ·cases h
 | load ag n y =>
   simp only [dOp] at h
   split at h
   ·exact val (op:=.load ag n y) h
   ·cases h
 | call f l=>cases hnc
 | cal f l=>cases hnc
 | mkm=>cases h
 | mpu ks y k v=>cases h
 | bad=>cases h
 | app st y v=>cases h
 | apz st z y v=>cases h
 | cpy st y v=>cases h
 | mv y=>exact val (op:=.mv y) h
 | mkf f a b=>exact val (op:=.mkf f a b) h
 | lena n=>exact val (op:=.lena n) h
 | _=>exact val h

/-! calls -/
theorem imp1_d {id : Nat} {v : LV} {r : LV × St} (h : dImp1 id s v = some r) : import1 id s v = r:=by
 cases v <;> simp only [dImp1] at h
 all_goals first
  | (simp only [Option.some.injEq] at h; exact h)
  | (unfold dNew at h
     cases ho : oget s.O id with
     | some o=>rw [ho] at h; cases h
     | none =>
       rw [ho] at h
       simp only [putO,Option.some.injEq] at h
       simp only [import1]
       rw [new_push _ ho]; exact h)
  | cases h
theorem imps_d : ∀ {l : List LV} {id : Nat} {s : St} {r : List LV × St},dImps id l s = some r → imports id l s = r
 | [],id,s,r,h=>by simp only [dImps,Option.some.injEq] at h; exact h
 | v::l,id,s,r,h=>by
   obtain ⟨q,hq,h⟩:=Qa.1 (show (dImp1 id s v).bind (dImpsK (dImps (id + 1) l)) = some r from h)
   obtain ⟨q2,hq2,rfl⟩:=Qc.1 h
   simp only [imports,imp1_d hq,importsK,imps_d hq2]
theorem imp_d {id : Nat} {v : LV} {r : LV × St} (h : dImp id s v = some r) : import_ id s v = r:=by
 by_cases ht : ∃ vs,v = .tup vs
 ·obtain ⟨vs,rfl⟩:=ht
  simp only [dImp] at h
  split at h
  ·obtain ⟨q,hq,rfl⟩:=Qc.1 h
   simp only [import_,imps_d hq]; rfl
  ·cases h
 ·have hn : ∀ vs,v ≠ .tup vs:=fun vs e=>ht ⟨vs,e⟩
  rw [(imp_nt (s:=s) hn).1] at h
  have:=imp1_d h
  rw [← this]
  cases v <;> first | rfl | exact absurd rfl (hn _)

theorem dCall_ok {R : Orc} (IH : FnOK P R) (H : SR P c s tmps Ts w) {args : List LV} {vals : List Value} (ha : VRs c args vals) {V : Heap} (hV : Sub V s.O) {id : Nat} {f : FuncId} {v : LV} {s' : St} (h : dCall R id f (LV.idss args).isEmpty s (LV.cls V args) = some (v,s')) :
  ∃ c' u w',SR P c' s' tmps Ts w'∧Tr c w c' w'∧VR c' v u∧CallsTo P f vals.toArray w u w':=by
 unfold dCall at h
 split at h
 ·rename_i hcl
  obtain ⟨r,hr,h⟩:=Qa.1 h
  obtain ⟨o,ho,hr⟩:=Qa.1 hr
  cases o with
  | ex e s=>cases hr
  | res v0 F0 O0 =>
    unfold dAfter at h
    split at h
    ·rename_i hb
     have himp:=imp_d h
     have hOR : ∀ id o h,oget V id = some o → c.io id = some h → OR P c w h o:=fun id o h ho hi=>by
      obtain ⟨h',hi',hor⟩:=H.O id o (hV id o ho)
      rw [hi] at hi'; cases hi'; exact hor
     by_cases hemp : (LV.idss args).isEmpty = true
     ·have hnil : LV.idss args = []:=by simpa using hemp
      have hv1 : VRs c (LV.cls V args) vals:=cls_ok (c1:=c) hOR (fun _ _ _ h=>h) (fun _ _ _ h=>h) ha (fun id hid=>by rw [hnil] at hid; cases hid) hcl
      obtain ⟨d,u,w',Hd,td,hcall⟩:=IH _ _ _ _ _ _ _ _ ho c.bare vals [] w (SR.empty0 H.mu) (VRs.closed (c:=c) (c':=c.bare) (fun _ _ _ h=>h) hv1 hcl)
      obtain ⟨c',H2,t2,hv2⟩:=back_in H td Hd (v:=v0) (u:=u) (by simpa [tget] using Hd.T 0) hr id
      rw [himp] at H2 hv2
      exact ⟨c',u,w',H2,t2,hv2,hcall⟩
     ·have hno : LV.noVs r = true:=by simpa [hemp] using hb
      obtain ⟨c1,H1,t1,_,_,hcov⟩:=H.frees (LV.idss args)
      have hv1 : VRs c1 (LV.cls V args) vals:=cls_ok (c1:=c) hOR t1.mu t1.mu ha (fun id hid _ h hi hn y v hy=>hcov id hid h hi hn y v hy) hcl
      obtain ⟨d,u,w',Hd,td,hcall⟩:=IH _ _ _ _ _ _ _ _ ho c1.bare vals [] w (SR.empty0 H1.mu) (VRs.closed (c:=c1) (c':=c1.bare) (fun _ _ _ h=>h) hv1 hcl)
      obtain ⟨c',H2,t2,hv2⟩:=back_noVs H td Hd (v:=v0) (u:=u) (by simpa [tget] using Hd.T 0) hr hno id
      rw [himp] at H2 hv2
      exact ⟨c',u,w',H2,t2,hv2,hcall⟩
    ·cases h
 ·cases h

theorem dOp_ok {R : Orc} (IH : FnOK P R) (IHr : RndOK P R) {a : Act} (H : SR P c s a.tmps Ts w) {o : Oper} {d : Nat} {un qs : List Nat} {v : LV} {s' : St} (h : dOp R un qs d (toOp P o.type o.op) s = some (v,s')) :
  ∃ c' u w',SR P c' s' a.tmps Ts w'∧Tr c w c' w'∧VR c' v u∧(∀ c,o.op ≠ .defer c)∧Acts P a o w u w':=by
 have hop : toOp1 P o.type o.op = some (toOp P o.type o.op):=by
  cases hh : toOp1 P o.type o.op with
  | some x=>simp [toOp,hh]
  | none =>
    have e : toOp P o.type o.op = .bad:=by simp [toOp,hh]
    rw [e] at h; cases h
 have hnd:=not_defer hop
 have hT:=H.T
 have hsub:=sub_filt s.lvl un s.O
 generalize hx : toOp P o.type o.op = x at h hop
 by_cases hc : x.isCall = true
 ·obtain ⟨cl,ho,hsh⟩:=call_shape hop hc
  rcases hsh with ⟨f,l,rfl,hcal,hm⟩ | ⟨y,y',l,rfl,hcal,hy,hm⟩
  ·obtain ⟨c',u,w',H',t',hv,hc⟩:=dCall_ok IH H (args_ok hT hm) hsub h
   obtain ⟨hr,hg⟩:=hc.goes
   refine ⟨c',u,w',H',t',hv,hnd,.inr (.inr ⟨_,?_,hg⟩)⟩
   have e : ((#[] : Array Value)++cl.args.map a.eval) ++ #[] = (cl.args.map a.eval).toList.toArray:=by simp only [Qab,Qcx,Qdg]
   simp only [execOp,ho,resolve,hcal,Deferred.ofValue,Act.eval,pure_bind,invoke]
   have e2 : ((#[] : Array Value)++cl.args.map (fun x=>a.eval x)) ++ #[] = (cl.args.map a.eval).toList.toArray:=e
   first | (rw [e]; exact hr) | (rw [e2]; exact hr)
  ·have hvf:=opd_ok hT hy
   simp only [dOp] at h
   unfold dCal at h
   split at h
   ·rename_i f' first cap hfx
    rw [hfx] at hvf
    generalize hq : a.eval y = q at hvf
    cases hvf with
    | fn _ _ _ us vs hl hl2 h1 h2 =>
      obtain ⟨c',u,w',H',t',hv,hc⟩:=dCall_ok IH H (VRs.append ⟨hl,h1⟩ (VRs.append (args_ok hT hm) ⟨hl2,h2⟩)) hsub h
      obtain ⟨hr,hg⟩:=hc.goes
      refine ⟨c',u,w',H',t',hv,hnd,.inr (.inr ⟨_,?_,hg⟩)⟩
      simp only [execOp,ho,resolve,hcal]
      rw [Sem.run_bind,hq]
      simp only [Deferred.ofValue,Sem.run_pure,Result.andThen_ok,invoke]
      have e : us.toArray++cl.args.map a.eval++vs.toArray = (us++((cl.args.map a.eval).toList++vs)).toArray:=by
       have e1 : cl.args.map a.eval = (cl.args.map a.eval).toList.toArray:=Qab.symm
       rw [e1]; simp only [List.append_toArray,Qar]
      have e2 : us.toArray++cl.args.map (fun x=>a.eval x)++vs.toArray = (us++((cl.args.map a.eval).toList++vs)).toArray:=e
      first | (rw [e]; exact hr) | (rw [e2]; exact hr)
   ·cases h
 ·by_cases has : ∃ y,x = .as y
  ·obtain ⟨y,rfl⟩:=has
   have hk:=mk3_eq hop
   cases ho : o.op with
   | assign z =>
     rw [ho] at hop
     simp only [toOp1] at hop
     obtain ⟨y',hy,e⟩:=Qc.1 hop
     simp only [AOp.as.injEq] at e; subst e
     simp only [dOp,ok1,Option.some.injEq,Prod.mk.injEq] at h
     obtain ⟨rfl,rfl⟩:=h
     exact ⟨c,a.eval z,w,H,Tr.refl _ _,opdT_ok hT hy,by rw [← ho]; exact hnd,.inl (by simp [execOp,ho])⟩
   | _=>rw [ho] at hk; cases hk
  ·have hs:=dOp_step H hop (by simpa using hc) (fun y e=>has ⟨y,e⟩) h
   rw [← hx] at hs
   exact op_ok IH IHr H hs

theorem Does.frozen (H : SR P c s tmps Ts w) {m : Sem Value} {id st : Nat} {xs : List (List LV)} (hd : Does P c.bare #[] [] w m (.bs id 0 xs.length) ⟨[],[],[(id,.row st xs)],0⟩) : Does P c tmps Ts w m (.vs xs) s:=by
 obtain ⟨u,w',c1,hrun,H1,t1,hv⟩:=hd
 obtain ⟨c2,H2,t2,_,_,hcov⟩:=H1.frees [id]
 have e : LV.cl [(id,.row st xs)] (.bs id 0 xs.length) = .vs xs:=by
  simp [LV.cl,rowElems,oget,vsK]
 have hv2:=cl_ok (c1:=c1) (fun i o h ho hi=>by
  obtain ⟨h',hi',hor⟩:=H1.O i o ho
  rw [hi] at hi'; cases hi'; exact hor) t2.mu t2.mu hv (fun i hid _ h hi hn y v hy=>hcov i (by simpa [LV.ids] using hid) h hi hn y v hy) (by rw [e]; rfl)
 rw [e] at hv2
 obtain ⟨H3,t3⟩:=H.aside (t1.trans t2) H2.mu
 exact ⟨u,w',c.back c2,hrun,H3,t3,VR.closed (c:=c2) (c':=c.back c2) (fun _ _ _ h=>h) hv2 rfl⟩

theorem frz_inv {dl dl' : Dl} (h : frzDl dl = some dl') : ∃ id st xs,dl = ⟨.bs id 0 xs.length,[(id,.row st xs)],none⟩∧dl' = ⟨.vs xs,[],none⟩:=by
 obtain ⟨v,news,upd⟩:=dl
 unfold frzDl at h
 split at h
 ·rename_i id n j st xs h1 h2 h3
  simp only at h1 h2 h3
  subst h1; subst h2; subst h3
  split at h
  ·rename_i hc
   obtain ⟨rfl,rfl⟩:=hc
   simp only [Option.some.injEq] at h
   exact ⟨id,st,xs,rfl,h.symm⟩
  ·cases h
 ·cases h
theorem call_frozen {R : Orc} (IH : FnOK P R) (H : SR P c s tmps Ts w) {args : List LV} {vals : List Value} (ha : VRs c args vals) {V : Heap} (hV : Sub V s.O) {id0 id st : Nat} {f : FuncId} {xs : List (List LV)}
  (hemp : (LV.idss args).isEmpty = true) (h : deltaCall R id0 f (LV.idss args).isEmpty (LV.cls V args) = some ⟨.bs id 0 xs.length,[(id,.row st xs)],none⟩) :
  ∃ c' u w',SR P c' s tmps Ts w'∧Tr c w c' w'∧VR c' (.vs xs) u∧CallsTo P f vals.toArray w u w':=by
 unfold deltaCall at h
 split at h
 case isFalse=>cases h
 rename_i hcl
 obtain ⟨r,hr,h⟩:=Qa.1 h
 obtain ⟨o,ho,hr⟩:=Qa.1 hr
 cases o with
 | ex e s=>cases hr
 | res v0 F0 O0 =>
   have hr' : r = .os st xs:=by
    unfold deltaAfter at h
    rw [hemp] at h
    simp only [Qao,if_true] at h
    obtain ⟨q,hq,h⟩:=Qc.1 h
    simp only [Dl.mk.injEq] at h
    obtain ⟨h1,h2,_⟩:=h
    cases r with
    | os st' ys =>
      simp only [impN,imp1N,Option.some.injEq] at hq; subst hq
      simp only [List.cons.injEq,Prod.mk.injEq,Obj.row.injEq,and_true,true_and] at h2
      obtain ⟨rfl,rfl,rfl⟩:=h2
      rfl
    | tup vs =>
      simp only [impN] at hq
      split at hq
      ·obtain ⟨q2,hq2,rfl⟩:=Qc.1 hq
       cases h1
      ·cases hq
    | om es =>
      have hq:=Option.some.inj (show some (_,[(id0,Obj.map es)]) = some q from hq)
      subst hq; simp at h2
    | _ =>
      have hq:=Option.some.inj (show some (_,[]) = some q from hq)
      subst hq; cases h2
   subst hr'
   have hOR : ∀ id o h,oget V id = some o → c.io id = some h → OR P c w h o:=fun id o h ho hi=>by
    obtain ⟨h',hi',hor⟩:=H.O id o (hV id o ho)
    rw [hi] at hi'; cases hi'; exact hor
   have hnil : LV.idss args = []:=by simpa using hemp
   have hv1 : VRs c (LV.cls V args) vals:=cls_ok (c1:=c) hOR (fun _ _ _ h=>h) (fun _ _ _ h=>h) ha (fun id hid=>by rw [hnil] at hid; cases hid) hcl
   obtain ⟨d,u,w',Hd,td,hcall⟩:=IH _ _ _ _ _ _ _ _ ho c.bare vals [] w (SR.empty0 H.mu) (VRs.closed (c:=c) (c':=c.bare) (fun _ _ _ h=>h) hv1 hcl)
   have hv0 : VR d v0 u:=by simpa [tget] using Hd.T 0
   obtain ⟨d2,Hd2,t2,_,_,hcov⟩:=Hd.frees (LV.ids v0)
   have e : LV.cl O0 v0 = .vs xs:=by
    have hE : exportV O0 v0 = some (.os st xs):=hr
    clear hr
    unfold exportV chkR at hE
    split at hE
    ·simp only [Option.some.injEq] at hE
     cases v0 with
     | nils st'=>simp only [exportR,export1,LV.os.injEq] at hE; obtain ⟨rfl,rfl⟩:=hE; rfl
     | bs i off len =>
       simp only [exportR,export1] at hE
       cases hg : oget O0 i with
       | none=>rw [hg] at hE; simp [expBs] at hE
       | some o =>
         rw [hg] at hE
         cases o with
         | row st' ys =>
           simp only [expBs] at hE
           split at hE
           ·rename_i hle
            split at hE
            ·rename_i h0
             subst h0
             have hr2 : LV.os st' (ys.take len) = LV.os st xs:=hE
             injection hr2 with ha1 hb1
             subst ha1; subst hb1
             simp only [LV.cl,hg,rowElems,vsK]
             rw [if_pos (by omega)]; simp
            ·cases hE
           ·cases hE
         | _=>simp [expBs] at hE
     | os st' ys=>cases hv0
     | bb i2 off st2 len=>simp only [exportR,export1,LV.cl] at hE; unfold vsK at hE; split at hE <;> cases hE
     | _=>simp [exportR,export1,LV.cl,expMp] at hE <;> (try (split at hE <;> cases hE))
    ·cases hE
   have hv2:=cl_ok (c1:=d) (fun i o h ho hi=>by
    obtain ⟨h',hi',hor⟩:=Hd.O i o ho
    rw [hi] at hi'; cases hi'; exact hor) t2.mu t2.mu hv0 (fun i hid _ h hi hn y v hy=>hcov i hid h hi hn y v hy) (by rw [e]; rfl)
   rw [e] at hv2
   obtain ⟨H3,t3⟩:=H.aside (td.trans t2) Hd2.mu
   exact ⟨c.back d2,u,w',H3,t3,VR.closed (c:=d2) (c':=c.back d2) (fun _ _ _ h=>h) hv2 rfl,hcall⟩

set_option maxHeartbeats 2000000 in
theorem dOpF_ok {R : Orc} (IH : FnOK P R) {a : Act} (H : SR P c s a.tmps Ts w) {o : Oper} {d : Nat} {un qs : List Nat} {v : LV} {s' : St} (h : dOpF R un qs d (toOp P o.type o.op) s = some (v,s')) :
  ∃ c' u w',SR P c' s' a.tmps Ts w'∧Tr c w c' w'∧VR c' v u∧(∀ c,o.op ≠ .defer c)∧Acts P a o w u w':=by
 unfold dOpF deltaZ at h
 simp only [Qh,if_false] at h
 obtain ⟨dl',h,ha⟩:=Qa.1 h
 split at h
 case isFalse=>cases h
 rename_i hok
 obtain ⟨dl,hd,hf⟩:=Qa.1 h
 obtain ⟨id,st,xs,rfl,rfl⟩:=frz_inv hf
 have hs : v = .vs xs∧s' = s:=by
  simp only [applyD,freshAll,if_true,updO,pushAll,Option.some.injEq,Prod.mk.injEq] at ha
  exact ⟨ha.1.symm,ha.2.symm⟩
 obtain ⟨rfl,rfl⟩:=hs
 have hop : toOp1 P o.type o.op = some (toOp P o.type o.op):=by
  cases hh : toOp1 P o.type o.op with
  | some x=>simp [toOp,hh]
  | none =>
    have e : toOp P o.type o.op = .bad:=by simp [toOp,hh]
    rw [e] at hok; cases hok
 have hnd:=not_defer hop
 have hT:=H.T
 have hsub:=sub_filt s'.lvl un s'.O
 generalize hx : toOp P o.type o.op = x at hd hok hop
 cases x with
 | call f l =>
   obtain ⟨cl,ho,hsh⟩:=call_shape hop rfl
   rcases hsh with ⟨f',l',he,hcal,hm⟩ | ⟨y,y',l',he,hcal,hy,hm⟩
   ·cases he
    obtain ⟨c',u,w',H',t',hv,hc⟩:=call_frozen (id0:=oid s'.lvl d) IH H (args_ok hT hm) hsub hok hd
    obtain ⟨hr,hg⟩:=hc.goes
    refine ⟨c',u,w',H',t',hv,hnd,.inr (.inr ⟨_,?_,hg⟩)⟩
    have e : ((#[] : Array Value)++cl.args.map a.eval) ++ #[] = (cl.args.map a.eval).toList.toArray:=by simp only [Qab,Qcx,Qdg]
    simp only [execOp,ho,resolve,hcal,Deferred.ofValue,Act.eval,pure_bind,invoke]
    have e2 : ((#[] : Array Value)++cl.args.map (fun x=>a.eval x)) ++ #[] = (cl.args.map a.eval).toList.toArray:=e
    first | (rw [e]; exact hr) | (rw [e2]; exact hr)
   ·cases he
 | mks st' z y v =>
   have hk:=mk3_eq hop
   cases ho : o.op with
   | makeSlice t l cp =>
     rw [ho] at hop; simp only [toOp1] at hop
     split at hop
     ·rename_i e hu
      split at hop
      ·rename_i hsm
       simp only [bind,Qa,Option.some.injEq] at hop
       obtain ⟨st2,hst,z2,hz,x',hx',y',hy,hop⟩:=hop
       simp only [AOp.mks.injEq] at hop
       obtain ⟨rfl,rfl,rfl,rfl⟩:=hop
       have h1:=opd_ok hT hx'
       have h2:=opd_ok hT hy
       simp only [delta] at hd
       unfold deltaMks at hd
       split at hd
       ·rename_i k1 n k2 m e1 e2
        rw [e1] at h1; rw [e2] at h2
        split at hd
        ·rename_i hc
         simp only [Option.some.injEq,Dl.mk.injEq,List.cons.injEq,Prod.mk.injEq,and_true,Obj.row.injEq] at hd
         obtain ⟨_,rfl,rfl,rfl⟩:=hd
         have hm : mksV (oid s'.lvl d) z2.cells ⟨[],[],[],0⟩ (.int k1 n) (.int k2 m) = some (.bs (oid s'.lvl d) 0 (List.replicate n.toNat (LV.cls [] z2.cells)).length,⟨[],[],[(oid s'.lvl d,.row z2.cells.length (List.replicate n.toNat (LV.cls [] z2.cells)))],0⟩):=by
          show (if 0≤n∧n≤m∧m≤1000000000∧LV.closeds (LV.cls [] z2.cells) = true then _ else none) = _
          rw [if_pos ⟨hc.1,hc.2.1,hc.2.2.1,hc.2.2.2.1⟩,List.length_replicate]; rfl
         have hdo:=mks_does (tmps:=#[]) (Ts:=[]) (SR.empty0 (P:=P) H.mu) hu hsm hz hst (show VR c.bare (.int k1 n) (a.eval l) from VR.closed (c:=c) (c':=c.bare) (fun _ _ _ h=>h) h1 rfl) (show VR c.bare (.int k2 m) (a.eval cp) from VR.closed (c:=c) (c':=c.bare) (fun _ _ _ h=>h) h2 rfl) hm
         obtain ⟨n2,w',c',g1,g2,g3,g4⟩:=Works.of (o:=o) (Does.frozen H hdo) (by simp only [execOp,ho])
         rcases g4 with ⟨u,rfl,hu2⟩ | ⟨rfl,g⟩
         ·exact ⟨c',u,w',g2,g3,hu2,fun _=>by simp,.inl g1⟩
         ·cases g
        ·cases hd
       ·cases hd
      ·cases hop
     ·cases hop
   | _=>rw [ho] at hk; cases hk
 | bsl st' n z ps =>
   have hk:=mk3_eq hop
   cases ho : o.op with
   | buildSlice t n' ps' =>
     rw [ho] at hop; simp only [toOp1] at hop
     split at hop
     ·rename_i e hu
      simp only [bind,Qa,Option.some.injEq] at hop
      obtain ⟨st2,hst,hop⟩:=hop
      split at hop
      ·simp at hop
      ·rename_i hlim
       simp only [Qa,Option.some.injEq] at hop
       obtain ⟨l,hl,z2,hz,hop⟩:=hop
       simp only [AOp.bsl.injEq] at hop
       obtain ⟨rfl,rfl,rfl,rfl⟩:=hop
       obtain ⟨h1,h2⟩:=mapM_parts hl
       simp only [delta] at hd
       split at hd
       case isFalse=>cases hd
       rename_i hzl
       obtain ⟨xs1,hx1,hd⟩:=Qa.1 hd
       unfold deltaBsl at hd
       split at hd
       case isFalse=>cases hd
       rename_i hc
       simp only [Option.some.injEq,Dl.mk.injEq,List.cons.injEq,Prod.mk.injEq,and_true,Obj.row.injEq,LV.bs.injEq,true_and] at hd
       obtain ⟨⟨_,hn⟩,rfl,rfl,rfl⟩:=hd
       have hm : (fillS st2 s'.T l (List.replicate n' z2.cells)).bind (bslK (oid s'.lvl d) st2 n' ⟨[],[],[],0⟩) = some (.bs (oid s'.lvl d) 0 (fixR xs1).length,⟨[],[],[(oid s'.lvl d,.row st2 (fixR xs1))],0⟩):=by
        rw [hx1,Q5]
        unfold bslK
        rw [closeRows_n hc]
        simp only [bslJ,rowK]
        rw [← hn]; rfl
       have hdo:=bsl_does (tmps:=#[]) (Ts:=[]) (a:=a) (ps:=ps'.map fun (i,x)=>(i,a.eval x)) (SR.empty0 (P:=P) H.mu) hu hst hlim hz hzl (by simpa using h1.symm) (fun i p q hp hq=>by
        simp only [Qcc,Qc] at hq
        obtain ⟨q0,hq0,rfl⟩:=hq
        have:=h2 i q0 p (by simpa using hq0) hp
        simp only [Qa,Option.some.injEq] at this
        obtain ⟨y,hy,rfl⟩:=this
        have hcl:=Qj.1 hok _ (Qd hp)
        exact ⟨rfl,VR.closedN (c:=c) (c':=c.bare) (fun _ _ _ h=>h) (opdT_ok hT hy) hcl⟩) hm
       obtain ⟨n2,w',c',g1,g2,g3,g4⟩:=Works.of (o:=o) (m:=Instr.buildSlice t n' (ps'.map fun (i,x)=>(i,a.eval x))) (Does.frozen H hdo) (by simp only [execOp,ho])
       rcases g4 with ⟨u,rfl,hu2⟩ | ⟨rfl,g⟩
       ·exact ⟨c',u,w',g2,g3,hu2,fun _=>by simp,.inl g1⟩
       ·cases g
     ·cases hop
   | _=>rw [ho] at hk; cases hk
 | _=>cases hok
end
end Go.Zv

/- The engine, part 29: regions that draw their order; the whole. -/
namespace Go.Zv
section
variable {P : Program} {c : Cx} {w w' : World} {s : St} {tmps : Array Value} {Ts : List (Array Value)}

theorem SR.sim {t : St} (H : SR P c s tmps Ts w) (h : Sim s t) : SR P c t tmps Ts w :=
 ⟨fun k=>by rw [← h.T k]; exact H.T k,by rw [← h.F]; exact H.Fl,fun i F t' hF ht=>H.F i F t' (by rw [h.F]; exact hF) ht,fun id o ho=>H.O id o (by rw [h.O id]; exact ho),
  fun id hh hi=>by obtain ⟨o,ho⟩:=H.dom id hh hi; exact ⟨o,by rw [← h.O id]; exact ho⟩,H.inj,H.mu,H.lt⟩

theorem uniqK_some {v v' : LV} (h : uniqK v = some v') : v' = v∧uniqV v = true:=by
 unfold uniqK at h
 split at h
 ·cases h; rename_i hu; exact ⟨rfl,hu⟩
 ·cases h
theorem uniqAK_some {v v' : LV} (h : uniqAK v = some v') : v' = v∧uniqA v = true:=by
 unfold uniqAK at h
 split at h
 ·cases h; rename_i hu; exact ⟨rfl,hu⟩
 ·cases h
theorem loc_step {R : Orc} {d : Nat} {op : AOp} {v : LV} {s1 : St} (h : (locV s.T op).bind (ok1 s) = some (v,s1)) : stepOp R true d op s = some (v,s1):=by
 cases op with
 | mv x=>exact h
 | bin o x y =>
   obtain ⟨u,hu,h⟩:=Qa.1 h
   obtain ⟨u0,hu0,hu⟩:=Qa.1 hu
   obtain ⟨rfl,_⟩:=uniqK_some hu
   show ((bin o (x.ev s.T) (y.ev s.T))).bind (ok1 s) = _
   rw [hu0]; exact h
 | fad o x=>exact h
 | iaa l st x i=>exact h
 | build z ps =>
   obtain ⟨u,hu,h⟩:=Qa.1 h
   obtain ⟨u0,hu0,hu⟩:=Qa.1 hu
   obtain ⟨rfl,_⟩:=uniqAK_some hu
   show ((fill s.T ps z).bind aggK).bind (ok1 s) = _
   rw [hu0]; exact h
 | _=>cases h
theorem oper_step1 {R : Orc} (IH : FnOK P R) (IHr : RndOK P R) {N : Nat} {ops : Array Oper} {b : Frame} {a : Act} {i : Nat} {oo : Oper} {o : AOper} (hi : ops[i]? = some oo) (ho : toOper P N ops oo = some { o with fz:=true })
  (H : SR P c s a.tmps Ts w) (hN : N≤a.tmps.size) {s2 : St} {q : Chk} (h : Step1 R q o s s2) (rest : List Nat) :
  Moves P c a Ts w s2 b [.inRegion ops (i::rest)] [.inRegion ops rest]:=by
 obtain ⟨hdst,hd,hop,hg⟩:=toOper_inv ho
 simp only at hdst hop hg
 obtain ⟨bb,hw,h⟩:=h
 have hww:=wanted_ok H.T hg hw
 cases bb with
 | true =>
   simp only [if_true] at h
   obtain ⟨v,s1,h,rfl⟩:=h
   rw [hop] at h
   have key : ∃ c' u w',SR P c' s1 a.tmps Ts w'∧Tr c w c' w'∧VR c' v u∧(∀ c,oo.op ≠ .defer c)∧Acts P a oo w u w':=by
    cases q with
    | free=>exact op_okF IH IHr H h
    | dr un qs =>
      cases hfz : o.fz with
      | true=>rw [hfz] at h; exact dOp_ok IH IHr H h
      | false=>rw [hfz] at h; exact dOpF_ok IH H h
    | loc =>
      simp only [chkOp] at h
      split at h
      ·rename_i hfz
       refine op_okF (fz:=true) (d:=0) IH IHr H ?_
       rw [Qa]
       refine ⟨(v,s1),loc_step h,rfl⟩
      ·cases h
    | alt _ _=>cases h
    | lit _ _ _=>cases h
   obtain ⟨c',u,w',H',t',hv,hnd,hact⟩:=key
   refine ⟨c',a.put oo.dst u,w',?_,t',put_size ..,put_defers ..,fun k cs=>step_acts hi hww hnd hact rest k cs⟩
   rw [hdst]
   exact H'.put hv (fun d e=>Qaf (hd d e) hN) a.defers
 | false =>
   simp only [Qh,if_false] at h
   subst h
   refine ⟨c,a.put oo.dst undef,w,?_,Tr.refl _ _,put_size ..,put_defers ..,fun k cs=>?_⟩
   ·rw [hdst]
    exact H.put .undef (fun d e=>Qaf (hd d e) hN) a.defers
   ·have:=stepR_op_skip (P:=P) (b:=b) (a:=a) (k:=k) (cs:=cs) (w:=w) (ops:=ops) (i:=i) (rest:=rest) (by simp [hi,hww])
    rw [hi] at this
    exact .one this
end

/-! which operations come before which -/
def edgeF (acc : Array Nat) (s : Nat) (e : Edge) : Nat:=if Region.binds .any e then s ||| 2 ^ e.on ||| acc.getD e.on 0 else s
theorem before_eq (ops : Array Oper) : Region.before ops = ops.foldl (fun acc o=>acc.push (o.after.foldl (edgeF acc) 0)) #[]:=rfl
theorem edge_bit (acc : Array Nat) : ∀ (l : List Edge) (s j : Nat),(l.foldl (edgeF acc) s).testBit j = true ↔ s.testBit j = true ∨ ∃ e ∈ l,Region.binds .any e = true∧(j = e.on ∨ (acc.getD e.on 0).testBit j = true)
 | [],s,j=>by simp
 | e :: l,s,j=>by
   rw [Qa7,edge_bit acc l]
   unfold edgeF
   by_cases hb : Region.binds .any e = true
   ·rw [if_pos hb]
    simp only [Nat.testBit_or,Qau,Nat.testBit_two_pow,decide_eq_true_eq,Q7,exists_eq_or_imp,hb,true_and]
    constructor
    ·rintro ((((h | h) | h) | h))
     ·exact .inl h
     ·exact .inr (.inl (.inl h.symm))
     ·exact .inr (.inl (.inr h))
     ·exact .inr (.inr h)
    ·rintro (h | (h | h) | h)
     ·exact .inl (.inl (.inl h))
     ·exact .inl (.inl (.inr h.symm))
     ·exact .inl (.inr h)
     ·exact .inr h
   ·rw [if_neg hb]
    simp only [Q7,exists_eq_or_imp,hb,false_and,false_or,Qh]
theorem before_list : ∀ (l : List Oper) (acc : Array Nat),∃ r : List Nat,(l.foldl (fun acc o=>acc.push (o.after.foldl (edgeF acc) 0)) acc) = acc++r.toArray∧r.length = l.length ∧
  ∀ (i : Nat) (o : Oper),l[i]? = some o → r[i]? = some (o.after.foldl (edgeF (acc++(r.take i).toArray)) 0)
 | [],acc=>⟨[],by simp,rfl,by simp⟩
 | o::l,acc=>by
   obtain ⟨r,h1,h2,h3⟩:=before_list l (acc.push (o.after.foldl (edgeF acc) 0))
   refine ⟨o.after.foldl (edgeF acc) 0::r,?_,by simp [h2],fun i o' ho=>?_⟩
   ·rw [Qa7,h1]; simp
   ·cases i with
    | zero=>simp at ho; subst ho; simp
    | succ i =>
      have:=h3 i o' (by simpa using ho)
      simpa using this
theorem before_bit {ops : Array Oper} {i : Nat} {o : Oper} (ho : ops[i]? = some o) (j : Nat) :
  ((Region.before ops).getD i 0).testBit j = true ↔ ∃ e ∈ o.after.toList,Region.binds .any e = true∧(j = e.on ∨ (e.on < i∧((Region.before ops).getD e.on 0).testBit j = true)):=by
 obtain ⟨r,h1,h2,h3⟩:=before_list ops.toList #[]
 have hb : Region.before ops = r.toArray:=by rw [before_eq,← Array.foldl_toList,h1]; simp
 have hi : ops.toList[i]? = some o:=by simpa using ho
 have hri:=h3 i o hi
 have hlt : i < r.length:=by rw [h2]; exact (Qe.1 hi).1
 rw [hb]
 have e1 : r.toArray.getD i 0 = o.after.foldl (edgeF (#[]++(r.take i).toArray)) 0:=by
  simp only [Qi,List.getElem?_toArray,hri,Qa9]
 rw [e1,← Array.foldl_toList,edge_bit]
 simp only [Nat.zero_testBit,Qh,false_or]
 have acc : ∀ k,((#[]++(r.take i).toArray : Array Nat).getD k 0).testBit j = true ↔ (k < i∧(r.toArray.getD k 0).testBit j = true):=by
  intro k
  simp only [Qi,Qcx,List.getElem?_toArray,Qak]
  by_cases hk : k < i
  ·simp [hk]
  ·simp [hk]
 simp only [acc]

section
variable {P : Program} {c : Cx} {w w' : World} {s : St} {tmps : Array Value} {Ts : List (Array Value)}
variable {R : Orc} {N n : Nat} {ops : Array Oper} {items : List (Chk × AOper)} {s2 : St}

def remF (items : List (Chk × AOper)) (listed : Array Bool) (i : Nat) : Option (Chk × AOper):=if listed.getD i true = true then none else items[i]?
def rem (items : List (Chk × AOper)) (n : Nat) (listed : Array Bool) : List (Chk × AOper):=(List.range n).filterMap (remF items listed)
theorem range_split {i n : Nat} (h : i < n) : List.range n = List.range i++i::List.range' (i + 1) (n - (i + 1)):=by
 have e : n = i + ((n - (i + 1)) + 1):=by omega
 conv=>lhs; rw [e]
 rw [Qc5,← List.range'_append_1,List.range'_succ]
 simp [Qc5]
theorem fm_congr {α β : Type} {f g : α → Option β} : ∀ {l : List α},(∀ x ∈ l,f x = g x) → l.filterMap f = l.filterMap g
 | [],_=>rfl
 | x::l,h=>by
   rw [Qb9,Qb9,h x (by simp),fm_congr fun y hy=>h y (by simp [hy])]
theorem rem_split {i : Nat} {x : Chk × AOper} {listed : Array Bool} (hi : i < n) (hsz : listed.size = n) (hl : listed.getD i true = false) (hx : items[i]? = some x) :
  ∃ A B,rem items n listed = A++x::B∧rem items n (listed.setIfInBounds i true) = A++B ∧ ∀ y ∈ A,∃ j,j < i∧listed.getD j true = false∧items[j]? = some y:=by
 have hne : ∀ k,k ≠ i → remF items (listed.setIfInBounds i true) k = remF items listed k:=fun k hk=>by
  unfold remF
  have : (listed.setIfInBounds i true).getD k true = listed.getD k true:=by
   simp only [Qi,Qaw (Ne.symm hk)]
  rw [this]
 have hself : remF items (listed.setIfInBounds i true) i = none:=by
  unfold remF
  rw [if_pos]
  simp [Qi,Qav,hsz,hi]
 refine ⟨(List.range i).filterMap (remF items listed),(List.range' (i + 1) (n - (i + 1))).filterMap (remF items listed),?_,?_,fun y hy=>?_⟩
 ·unfold rem
  rw [range_split hi,List.filterMap_append,Qb9]
  have : remF items listed i = some x:=by unfold remF; rw [if_neg (by simp [hl])]; exact hx
  rw [this]
 ·unfold rem
  rw [range_split hi,List.filterMap_append,Qb9,hself]
  congr 1
  ·exact fm_congr fun k hk=>hne k (by have:=Qq.1 hk; omega)
  ·exact fm_congr fun k hk=>hne k (by have:=List.mem_range'_1.1 hk; omega)
 ·obtain ⟨j,hj,hjy⟩:=List.mem_filterMap.1 hy
  unfold remF at hjy
  split at hjy
  ·cases hjy
  ·rename_i h
   exact ⟨j,Qq.1 hj,by simpa using h,hjy⟩

structure Sched (P : Program) (N n : Nat) (ops : Array Oper) (items : List (Chk × AOper)) : Prop where
 size : ops.size = n
 len : items.length = n
 op : ∀ (i : Nat) (x : Chk × AOper),items[i]? = some x → ∃ oo,ops[i]? = some oo∧toOper P N ops oo = some { x.2 with fz:=true }
 lt : ∀ i,i < n → (Region.before ops).getD i 0 < 2 ^ i
 ind : ∀ (i j : Nat) (x y : Chk × AOper),items[i]? = some x → items[j]? = some y → i < j → ((Region.before ops).getD j 0).testBit i = true ∨ indep x y = true

def Closed (ops : Array Oper) (listed : Array Bool) : Prop:=∀ i,listed.getD i false = true → ∀ j,((Region.before ops).getD i 0).testBit j = true → listed.getD j false = true
def unl (n : Nat) (listed : Array Bool) : Nat:=((List.range n).filter fun i=>listed.getD i true == false).length

theorem ready_bits {listed : Array Bool} (hcl : Closed ops listed) {i : Nat} (h : i ∈ Region.ready .any ops listed) : i < ops.size∧listed.getD i true = false ∧ ∀ j,((Region.before ops).getD i 0).testBit j = true → listed.getD j false = true:=by
 unfold Region.ready at h
 simp only [Qad,Qq,Qg,Qam] at h
 obtain ⟨hi,hl,ha⟩:=h
 refine ⟨hi,hl,fun j hj=>?_⟩
 have ho : ops[i]? = some ops[i]:=Qaa hi
 rw [ho] at ha
 simp only [Qay,Qa9] at ha
 rw [before_bit ho] at hj
 obtain ⟨e,he,hb,hj⟩:=hj
 have hall:=(Qbf.1 ha) e (by simpa using he)
 simp only [hb,Qai,Qah] at hall
 rcases hj with rfl | ⟨_,hj⟩
 ·exact hall
 ·exact hcl _ hall j hj

theorem getD_ft {listed : Array Bool} {j : Nat} (h : listed.getD j false = true) : listed.getD j true = true:=by
 simp only [Qi] at h ⊢
 cases hh : listed[j]? with
 | none=>rfl
 | some x=>rw [hh] at h; simpa using h

theorem unl_pos {listed : Array Bool} (h : unl n listed ≠ 0) : ∃ i,i < n∧listed.getD i true = false ∧ ∀ j,j < i → listed.getD j true = true:=by
 have hex : ∃ i,i < n∧listed.getD i true = false:=by
  unfold unl at h
  obtain ⟨i,hi⟩:=List.exists_mem_of_length_pos (Nat.pos_of_ne_zero h)
  simp only [Qad,Qq,beq_iff_eq] at hi
  exact ⟨i,hi.1,hi.2⟩
 have key : ∀ k,(∃ i,i < k∧i < n∧listed.getD i true = false) → ∃ i,i < n∧listed.getD i true = false ∧ ∀ j,j < i → listed.getD j true = true:=by
  intro k
  induction k with
  | zero=>rintro ⟨i,hi,_⟩; omega
  | succ k ih =>
    rintro ⟨i,hi,hn,hf⟩
    by_cases hk : ∃ i,i < k∧i < n∧listed.getD i true = false
    ·exact ih hk
    ·refine ⟨i,hn,hf,fun j hj=>?_⟩
     cases hj2 : listed.getD j true with
     | true=>rfl
     | false=>exact absurd ⟨j,by omega,by omega,hj2⟩ hk
 obtain ⟨i,hi,hf⟩:=hex
 exact key (i + 1) ⟨i,by omega,hi,hf⟩

theorem rem_nil {listed : Array Bool} (h : unl n listed = 0) : rem items n listed = []:=by
 unfold rem
 rw [List.filterMap_eq_nil_iff]
 intro i hi
 unfold remF
 rw [if_pos]
 unfold unl at h
 have h0:=Qo h
 cases hl : listed.getD i true with
 | true=>rfl
 | false =>
   have : i ∈ (List.range n).filter fun i=>listed.getD i true == false:=Qad.2 ⟨hi,by simp [hl]⟩
   rw [h0] at this; cases this

theorem unl_set {listed : Array Bool} {i : Nat} (hi : i < n) (hsz : listed.size = n) (hl : listed.getD i true = false) : unl n listed = unl n (listed.setIfInBounds i true) + 1:=by
 unfold unl
 rw [range_split hi]
 have hne : ∀ k,k ≠ i → ((listed.setIfInBounds i true).getD k true == false) = (listed.getD k true == false):=fun k hk=>by
  simp only [Qi,Qaw (Ne.symm hk)]
 have hself : ((listed.setIfInBounds i true).getD i true == false) = false:=by
  simp [Qi,Qav,hsz,hi]
 simp only [List.filter_append,List.filter_cons,hl,hself,Qm,beq_self_eq_true,if_true,Qh,if_false,Q4]
 have e1 : (List.range i).filter (fun k=>(listed.setIfInBounds i true).getD k true == false) = (List.range i).filter (fun k=>listed.getD k true == false) :=
  Qc1 fun k hk=>hne k (by have:=Qq.1 hk; omega)
 have e2 : (List.range' (i + 1) (n - (i + 1))).filter (fun k=>(listed.setIfInBounds i true).getD k true == false) = (List.range' (i + 1) (n - (i + 1))).filter (fun k=>listed.getD k true == false) :=
  Qc1 fun k hk=>hne k (by have:=List.mem_range'_1.1 hk; omega)
 rw [e1,e2]; omega

theorem lin_ok (IH : FnOK P R) (IHr : RndOK P R) (S : Sched P N n ops items) {b : Frame} : ∀ (fuel t : Nat) (listed : Array Bool) {c : Cx} {a : Act} {w : World} {s : St},listed.size = n → Closed ops listed → unl n listed≤fuel → RD R (rem items n listed) s s2 → SR P c s a.tmps Ts w → N≤a.tmps.size →
  Moves P c a Ts w s2 b [.inRegion ops (Region.linearise.go .any ops fuel t listed [])] [.inRegion ops []]
 | 0,t,listed,c,a,w,s,hsz,hcl,hf,hr,H,hN=>by
   have h0 : unl n listed = 0:=by omega
   rw [rem_nil h0] at hr
   cases hr with
   | nil h =>
     simp only [Region.linearise.go,Qc7]
     exact .refl (H.sim h)
 | fuel + 1,t,listed,c,a,w,s,hsz,hcl,hf,hr,H,hN=>by
   simp only [Region.linearise.go]
   show Moves P c a Ts w s2 b [.inRegion ops (match (Region.ready .any ops listed)[t % (Region.ready .any ops listed).length]? with
    | some i=>Region.linearise.go .any ops fuel (t / (Region.ready .any ops listed).length) (listed.setIfInBounds i true) [i]
    | none=>[].reverse)] [.inRegion ops []]
   cases hi : (Region.ready .any ops listed)[t % (Region.ready .any ops listed).length]? with
   | none =>
     have hnil : Region.ready .any ops listed = []:=by
      cases hr : Region.ready .any ops listed with
      | nil=>rfl
      | cons x xs =>
        rw [hr] at hi
        have hlt : t % (x::xs).length < (x::xs).length:=Qdr _ (by simp)
        rw [Qbu] at hi
        omega
     have h0 : unl n listed = 0:=by
      refine Qu fun h=>?_
      obtain ⟨i,hin,hif,hmin⟩:=unl_pos h
      have : i ∈ Region.ready .any ops listed:=by
       unfold Region.ready
       have hio : i < ops.size:=by rw [S.size]; exact hin
       simp only [Qad,Qq,Qg,Qam]
       refine ⟨hio,hif,?_⟩
       have ho : ops[i]? = some ops[i]:=Qaa hio
       rw [ho]
       simp only [Qay,Qa9]
       refine Qbf.2 fun e he=>?_
       cases hb : Region.binds .any e with
       | false=>rfl
       | true =>
         simp only [Qai,Qah]
         have hbit : ((Region.before ops).getD i 0).testBit e.on = true:=(before_bit ho e.on).2 ⟨e,by simpa using he,hb,.inl rfl⟩
         have hlt : e.on < i:=by
          refine Qu fun hge=>?_
          have h1:=S.lt i hin
          have h2:=Qcw (x:=(Region.before ops).getD i 0) (i:=e.on) (Qaf h1 (Qc4 (by omega) (by omega)))
          rw [h2] at hbit; cases hbit
         have h3:=hmin e.on hlt
         have hlt2 : e.on < listed.size:=by omega
         simp only [Qi,Qaa hlt2,Qa9] at h3 ⊢
         exact h3
      rw [hnil] at this; cases this
     rw [rem_nil h0] at hr
     cases hr with
     | nil h =>
       simp only [Qc7]
       exact .refl (H.sim h)
   | some i =>
     simp only
     rw [linearise_go_acc,List.reverse_singleton,List.singleton_append]
     have hmem:=Qd hi
     obtain ⟨hio,hil,hbits⟩:=ready_bits hcl hmem
     have hin : i < n:=by rw [← S.size]; exact hio
     have hxi : items[i]? = some (items[i]'(by rw [S.len]; exact hin)):=Qf _
     obtain ⟨A,B,e1,e2,hA⟩:=rem_split hin hsz hil hxi
     rw [e1] at hr
     have hr2:=hr.front fun y hy=>by
      obtain ⟨j,hj,hjl,hjy⟩:=hA y hy
      rcases S.ind j i y _ hjy hxi hj with hb | hb
      ·have:=getD_ft (hbits j hb)
       rw [hjl] at this; cases this
      ·exact hb
     cases hr2 with
     | cons h1 hx hr3 =>
       obtain ⟨oo,hoo,hto⟩:=S.op i _ hxi
       obtain ⟨c1,a1,w1,H1,t1,hs1,hd1,st1⟩:=oper_step1 IH IHr (b:=b) hoo hto (H.sim h1) hN hx (Region.linearise.go .any ops fuel (t / (Region.ready .any ops listed).length) (listed.setIfInBounds i true) [])
       have hcl2 : Closed ops (listed.setIfInBounds i true):=by
        have up : ∀ j,listed.getD j false = true → (listed.setIfInBounds i true).getD j false = true:=fun j hj=>by
         simp only [Qi] at hj ⊢
         by_cases e : i = j
         ·subst e; simp [Qav,hsz,hin]
         ·rw [Qaw e]; exact hj
        intro k hk j hj
        by_cases e : i = k
        ·subst e; exact up j (hbits j hj)
        ·refine up j (hcl k ?_ j hj)
         simp only [Qi] at hk ⊢
         rwa [Qaw e] at hk
       rw [← e2] at hr3
       obtain ⟨c2,a2,w2,H2,t2,hs2,hd2,st2⟩:=lin_ok IH IHr S (b:=b) fuel (t / (Region.ready .any ops listed).length) (listed.setIfInBounds i true) (by simpa using hsz) hcl2 (by have:=unl_set hin hsz hil; omega) hr3 H1 (by omega)
       exact ⟨c2,a2,w2,H2,t1.trans t2,hs2.trans hs1,hd2.trans hd1,fun k cs=>(st1 k cs).trans (st2 k cs)⟩

theorem corr_len {N : Nat} {ops : Array Oper} : ∀ {is : List Nat} {l : List AOper},Corr P N ops is l → is.length = l.length
 | [],[],_=>rfl
 | _::_,_::_,⟨_,h⟩=>by simp [corr_len h]
 | [],_::_,h=>h.elim
 | _::_,[],h=>h.elim
theorem corr_at {N : Nat} {ops : Array Oper} : ∀ {is : List Nat} {l : List AOper} {i k : Nat} {o : AOper},Corr P N ops is l → l[i]? = some o → is[i]? = some k → ∃ oo,ops[k]? = some oo∧toOper P N ops oo = some { o with fz:=true }
 | k::is,o::l,0,_,_,⟨h,_⟩,h1,h2=>by simp at h1 h2; subst h1; subst h2; exact h
 | k::is,o::l,i + 1,_,_,⟨_,h⟩,h1,h2=>corr_at h (by simpa using h1) (by simpa using h2)
 | [],[],_,_,_,_,h1,_=>by simp at h1
 | [],_::_,_,_,_,h,_,_=>h.elim
 | _::_,[],_,_,_,h,_,_=>h.elim
theorem corr_get {N : Nat} {ops : Array Oper} {l : List AOper} (h : Corr P N ops (List.range ops.size) l) {i : Nat} {o : AOper} (ho : l[i]? = some o) : ∃ oo,ops[i]? = some oo∧toOper P N ops oo = some { o with fz:=true }:=by
 have hl:=corr_len h
 have hi : i < l.length:=(Qe.1 ho).1
 rw [Qx] at hl
 exact corr_at h ho (by rw [List.getElem?_range (by omega)])

end
end Go.Zv

/- The engine, part 29b: regions with a call that shares memory: what looks at temporaries alone goes first. -/
namespace Go.Zv
section
variable {P : Program} {c : Cx} {w w' : World} {s : St} {tmps : Array Value} {Ts : List (Array Value)}

theorem uniq_VR {v : LV} {u1 u2 : Value} (hu : uniqV v = true) (h1 : VR c v u1) (h2 : VR c v u2) : u1 = u2:=by
 cases v <;> simp only [uniqV,Qh] at hu
 case int=>rw [h1.of_int,h2.of_int]
 case bool=>rw [h1.of_bool,h2.of_bool]
 case str=>rw [h1.of_str,h2.of_str]
 case ptr =>
  cases h1 with
  | ptr _ _ hh hi=>cases h2 with
    | ptr _ _ hh2 hi2=>rw [hi] at hi2; cases hi2; rfl
 case ep =>
  cases h1 with
  | ep _ _ _ hh hi hn=>cases h2 with
    | ep _ _ _ hh2 hi2 hn2=>rw [hi] at hi2; cases hi2; rfl
theorem says_uni (w0 : World) {m : Sem Value} {v : LV} (hu : uniqV v = true) (h : ∀ w,Says P c w m v) : ∃ u,(∀ w,m.run P w = .ok u w)∧VR c v u:=by
 obtain ⟨u,h1,h2⟩:=h w0
 refine ⟨u,fun w=>?_,h2⟩
 obtain ⟨u2,h3,h4⟩:=h w
 rw [h3,uniq_VR hu h4 h2]
theorem uniqF_VR {v : LV} {u1 u2 : Value} (hu : uniqF v = true) (h1 : VR c v u1) (h2 : VR c v u2) : u1 = u2:=by
 unfold uniqF at hu
 split at hu
 ·rw [h1.of_int,h2.of_int]
 ·rw [h1.of_bool,h2.of_bool]
 ·rw [h1.of_str,h2.of_str]
 ·cases h1 with
  | fn _ _ _ us vs hl hl2 =>
    cases h2 with
    | fn _ _ _ us' vs' hl' hl2' =>
      have e1 : us = []:=Qo (by simpa using hl.symm)
      have e2 : vs = []:=Qo (by simpa using hl2.symm)
      have e3 : us' = []:=Qo (by simpa using hl'.symm)
      have e4 : vs' = []:=Qo (by simpa using hl2'.symm)
      rw [e1,e2,e3,e4]
 ·cases hu
theorem uniqA_VR {v : LV} {u1 u2 : Value} (hu : uniqA v = true) (h1 : VR c v u1) (h2 : VR c v u2) : u1 = u2:=by
 unfold uniqA at hu
 split at hu
 ·rename_i cs
  cases h1 with
  | agg cs vs hl h =>
    cases h2 with
    | agg _ vs' hl' h' =>
      congr 2
      refine Qc2 fun i=>?_
      cases hc : cs[i]? with
      | none =>
        have:=Qbu.1 hc
        rw [Qbu.2 (by omega),Qbu.2 (by omega)]
      | some x =>
        have hlt:=(Qe.1 hc).1
        have e1 : vs[i]? = some (vs[i]'(by omega)):=Qf _
        have e2 : vs'[i]? = some (vs'[i]'(by omega)):=Qf _
        rw [e1,e2,uniqF_VR (Qj.1 hu x (Qd hc)) (h i x _ hc e1) (h' i x _ hc e2)]
 ·cases hu
theorem says_uniA (w0 : World) {m : Sem Value} {v : LV} (hu : uniqA v = true) (h : ∀ w,Says P c w m v) : ∃ u,(∀ w,m.run P w = .ok u w)∧VR c v u:=by
 obtain ⟨u,h1,h2⟩:=h w0
 refine ⟨u,fun w=>?_,h2⟩
 obtain ⟨u2,h3,h4⟩:=h w
 rw [h3,uniqA_VR hu h4 h2]
def AOp.mkL : AOp → Nat
 | .mv _=>1
 | .bin .. => 2
 | .fad .. => 3
 | .iaa .. => 4
 | .build .. => 5
 | _=>0
def Op.mkL : Op → Nat
 | .move _=>1
 | .binOp .. => 2
 | .fieldAddr .. => 3
 | .indexAddr .. => 4
 | .build .. => 5
 | _=>0
theorem mkL_class {ty : TypeId} {op : Op} : (toOp1 P ty op).all (fun x=>x.mkL == 0 || x.mkL == Op.mkL op) = true:=by
 cases op <;> unfold toOp1 <;> simp only [bind] <;>
  repeat' (first | rfl | contradiction | (refine all_map fun _=>?_) | (refine all_bind fun _=>?_) | split)
theorem mkL_eq {ty : TypeId} {op : Op} {x : AOp} (h : toOp1 P ty op = some x) (h0 : x.mkL ≠ 0) : x.mkL = Op.mkL op:=by
 have:=mkL_class (P:=P) (ty:=ty) (op:=op)
 rw [h] at this
 simp only [Option.all_some,Qau,beq_iff_eq] at this
 exact this.resolve_left h0
theorem fad_uni {s : TypeId} {i off : Nat} {fs : Array Field} {f : Field} {x : LV} {a : Value} (hs : P.underlying s = some (.struct fs)) (hf : fs[i]? = some f) {n : Nat} (hz : tsize P f.type = some n) (hn : n ≠ 0) (ho : off = f.offset)
  (ha : VR c x a) {v : LV} (h : fadV off x = some v) : ∃ u,(∀ w,(Instr.fieldAt s a i).run P w = .ok u w)∧VR c v u:=by
 subst ho
 have key : ∀ q : Addr,q.spot = none → a = .pointer (some q) → ∀ w,(Instr.fieldAt s a i).run P w = .ok (.pointer (some ⟨q.block,q.off + f.offset,none⟩)) w:=by
  intro q hq e w; subst e
  have : q.add f.offset = ⟨q.block,q.off + f.offset,none⟩:=by
   obtain ⟨b,o,sp⟩:=q; simp only at hq; subst hq
   unfold Addr.add; split <;> simp_all
  simp [Instr.fieldAt,run_underlying hs,hf,Instr.sureAddr,fieldPlace,run_size hz,hn,this]
 unfold fadV at h
 split at h <;> simp only [Option.some.injEq,reduceCtorEq] at h <;> subst h
 ·cases ha with | ptr id o hh hi=>exact ⟨_,key _ rfl rfl,.ptr _ _ hh hi⟩
 ·cases ha with | ep _ _ _ hh hi hn=>exact ⟨_,key _ rfl rfl,by simpa [Qaz] using VR.ep _ _ _ hh hi hn⟩
 ·cases ha with
  | fp cs b o val hcl hm h1 hv =>
    refine ⟨_,key _ rfl rfl,.fp _ b (o + f.offset) (fun j=>val (f.offset + j)) ?_ ?_ ?_ ?_⟩
    ·exact closeds_of fun j y hy=>closeds_at hcl (i:=f.offset + j) (by simpa using hy)
    ·intro j y hy; have:=hm (f.offset + j) y (by simpa using hy); rwa [← Qaz] at this
    ·intro j y hy; exact h1 _ y (by simpa using hy)
    ·intro j y hy; exact hv _ y (by simpa using hy)
theorem iaa_uni {t e : TypeId} {len st : Nat} {x i v : LV} {a b : Value} (ht : P.underlying t = some (.array len e)) (hst : tsize P e = some st) (hx : VR c x a) (hi : VR c i b) (h : iaaV len st x i = some v) : ∃ u,(∀ w,(Instr.indexAt t a b).run P w = .ok u w)∧VR c v u:=by
 unfold iaaV at h
 split at h
 ·rename_i k n
  cases hi
  split at h
  ·rename_i hb
   have key : ∀ q : Addr,q.spot = none → a = .pointer (some q) → ∀ w,(Instr.indexAt t a (.int k n)).run P w = .ok (.pointer (some ⟨q.block,q.off + n.toNat * st,none⟩)) w:=by
    intro q hq e2 w; subst e2
    have : q.add (n.toNat * st) = ⟨q.block,q.off + n.toNat * st,none⟩:=by
     obtain ⟨bb,o,sp⟩:=q; simp only at hq; subst hq
     exact Addr.add_mid _ _ _
    simp [Instr.indexAt,asIntOf,run_underlying ht,Instr.sureAddr,hb.1,hb.2,run_size hst,this]
   unfold iaaI at h
   split at h <;> simp only [Option.some.injEq,reduceCtorEq] at h <;> subst h
   ·cases hx with | ptr _ _ hh hi=>exact ⟨_,key _ rfl rfl,.ptr _ _ hh hi⟩
   ·cases hx with | ep _ _ _ hh hi hn=>exact ⟨_,key _ rfl rfl,by simpa [Qaz] using VR.ep _ _ _ hh hi hn⟩
   ·cases hx with
    | fp cs b o val hcl hm h1 hv =>
      refine ⟨_,key _ rfl rfl,.fp _ b (o + n.toNat * st) (fun j=>val (n.toNat * st + j)) ?_ ?_ ?_ ?_⟩
      ·exact closeds_of fun j y hy=>closeds_at hcl (i:=n.toNat * st + j) (by simpa using hy)
      ·intro j y hy; have:=hm (n.toNat * st + j) y (by simpa using hy); rwa [← Qaz] at this
      ·intro j y hy; exact h1 _ y (by simpa using hy)
      ·intro j y hy; exact hv _ y (by simpa using hy)
  ·cases h
 ·cases h
theorem loc_uni {T : Env} {a : Act} (w0 : World) (hT : TR c T a.tmps) {o : Oper} {x : AOp} (hop : toOp1 P o.type o.op = some x) {v : LV} (h : locV T x = some v) :
  (∃ u,(∀ w,(execOp a.eval o).run P w = .ok (.value u) w)∧VR c v u)∧(∀ cs b,o.op ≠ .select cs b) ∧ ∀ c,o.op ≠ .defer c:=by
 have hnd:=not_defer hop
 have lift : ∀ {m : Sem Value},execOp a.eval o = (do pure (.value (← m))) → (∃ u,(∀ w,m.run P w = .ok u w)∧VR c v u) → ∃ u,(∀ w,(execOp a.eval o).run P w = .ok (.value u) w)∧VR c v u:=by
  rintro m he ⟨u,h1,h2⟩
  exact ⟨u,fun w=>by rw [he]; simp [h1 w],h2⟩
 cases x with
 | mv y =>
   have hk:=mkL_eq hop (by simp [AOp.mkL])
   cases ho : o.op <;> rw [ho] at hk hop <;> simp [AOp.mkL,Op.mkL] at hk
   rename_i z
   simp only [toOp1] at hop
   obtain ⟨y',hy,e⟩:=Qc.1 hop
   cases e
   simp only [locV,Option.some.injEq] at h; subst h
   refine ⟨⟨a.eval z,fun w=>by simp [execOp,ho],opd_ok hT hy⟩,fun cs b e=>(by cases e),fun c e=>(by cases e)⟩
 | bin op y z =>
   have hk:=mkL_eq hop (by simp [AOp.mkL])
   cases ho : o.op <;> rw [ho] at hk hop <;> simp [AOp.mkL,Op.mkL] at hk
   rename_i op' t y' z' hint
   refine ⟨?_,fun cs b e=>(by cases e),fun c e=>(by cases e)⟩
   simp only [locV] at h
   obtain ⟨v0,h0,h⟩:=Qa.1 h
   obtain ⟨rfl,hu⟩:=uniqK_some h
   have key : ∀ {yy zz : Opd},toOpd y' = some yy → toOpd z' = some zz → AOp.bin op' yy zz = .bin op y z → ∃ u,(∀ w,(execOp a.eval o).run P w = .ok (.value u) w)∧VR c v u:=by
    intro yy zz hy hz e
    cases e
    refine lift (m:=do eqGuard op t y' z' (a.eval y') (a.eval z'); binOp op t (a.eval y') (a.eval z')) (by simp only [execOp,ho]) (says_uni w0 hu fun w=>bin_says (opd_ok hT hy) (opd_ok hT hz) h0)
   simp only [toOp1] at hop
   split at hop
   ·simp only [bind,Qa,Option.some.injEq] at hop
    obtain ⟨yy,hy,zz,hz,e⟩:=hop
    exact key hy hz e
   ·simp only [bind,Qa,Option.some.injEq] at hop
    obtain ⟨yy,hy,zz,hz,e⟩:=hop
    exact key hy hz e
   ·split at hop
    ·simp only [bind,Qa,Option.some.injEq] at hop
     obtain ⟨yy,hy,zz,hz,e⟩:=hop
     cases e
    ·cases hop
   ·split at hop
    ·simp only [bind,Qa,Option.some.injEq] at hop
     obtain ⟨_,_,yy,hy,zz,hz,e⟩:=hop
     cases e
    ·cases hop
   ·split at hop
    ·simp only [bind,Qa,Option.some.injEq] at hop
     obtain ⟨_,_,yy,hy,zz,hz,e⟩:=hop
     cases e
    ·cases hop
   ·split at hop
    ·obtain ⟨_,_,e⟩:=Qc.1 hop; cases e
    ·obtain ⟨_,_,e⟩:=Qc.1 hop; cases e
    ·cases hop
   ·cases hop
 | fad off y =>
   have hk:=mkL_eq hop (by simp [AOp.mkL])
   cases ho : o.op <;> rw [ho] at hk hop <;> simp [AOp.mkL,Op.mkL] at hk
   rename_i t y' f
   refine ⟨?_,fun cs b e=>(by cases e),fun c e=>(by cases e)⟩
   have h0:=h
   simp only [locV] at h0
   simp only [toOp1] at hop
   split at hop
   ·rename_i fs hus
    simp only [bind,Qa,Option.some.injEq] at hop
    obtain ⟨fd,hf,n,hn,hop⟩:=hop
    split at hop
    ·simp at hop
    ·rename_i hne
     simp only [Qa,Option.some.injEq] at hop
     obtain ⟨yy,hy,e⟩:=hop
     cases e
     exact lift (by simp only [execOp,ho]) (fad_uni hus hf hn hne rfl (opd_ok hT hy) h0)
   ·cases hop
 | iaa len st y z =>
   have hk:=mkL_eq hop (by simp [AOp.mkL])
   cases ho : o.op <;> rw [ho] at hk hop <;> simp [AOp.mkL,Op.mkL] at hk
   rename_i t y' z'
   refine ⟨?_,fun cs b e=>(by cases e),fun c e=>(by cases e)⟩
   have h0:=h
   simp only [locV] at h0
   simp only [toOp1] at hop
   split at hop
   ·simp only [bind,Qa,Option.some.injEq] at hop
    obtain ⟨n,hn,hop⟩:=hop
    split at hop
    ·simp at hop
    ·simp only [Qa,Option.some.injEq] at hop
     obtain ⟨_,_,_,_,_,_,e⟩:=hop
     cases e
   ·rename_i n0 e hus
    simp only [bind,Qa,Option.some.injEq] at hop
    obtain ⟨n,hn,hop⟩:=hop
    split at hop
    ·simp at hop
    ·simp only [Qa,Option.some.injEq] at hop
     obtain ⟨n2,hn2,yy,hy,zz,hz,e⟩:=hop
     cases e
     exact lift (by simp only [execOp,ho]) (iaa_uni hus hn2 (opd_ok hT hy) (opd_ok hT hz) h0)
   ·cases hop
 | build z l =>
   have hk:=mkL_eq hop (by simp [AOp.mkL])
   cases ho : o.op <;> rw [ho] at hk hop <;> simp [AOp.mkL,Op.mkL] at hk
   rename_i t ps
   refine ⟨?_,fun cs b e=>(by cases e),fun c e=>(by cases e)⟩
   simp only [locV] at h
   obtain ⟨v0,h0,h⟩:=Qa.1 h
   obtain ⟨rfl,hu⟩:=uniqAK_some h
   refine lift (m:=Instr.build t (ps.map fun (i,x)=>(i,a.eval x))) (by simp only [execOp,ho]) (says_uniA w0 hu fun w=>?_)
   simp only [toOp1] at hop
   split at hop
   ·rename_i fs hu
    simp only [bind,Qa,Option.some.injEq] at hop
    split at hop
    ·rename_i hall
     simp only [Q5,Qa,Option.some.injEq] at hop
     obtain ⟨l,hl,z,hz,e⟩:=hop
     cases e
     obtain ⟨h1,h2⟩:=mapM_parts hl
     refine build_struct_says hu hz h0 (zero_one hz) (fun f hf=>?_) (by simpa using h1.symm) (fun i p q hp hq=>?_)
     ·have:=Qbf.1 hall f hf
      exact Qcn.1 this
     ·simp only [Qcc,Qc] at hq
      obtain ⟨q0,hq0,rfl⟩:=hq
      have:=h2 i q0 p (by simpa using hq0) hp
      simp only [Qa,Option.some.injEq] at this
      obtain ⟨f,hf,n,hn,y,hy,rfl⟩:=this
      exact ⟨⟨f,hf,rfl,hn⟩,opdT_ok hT hy⟩
    ·simp at hop
   ·rename_i n e hu
    simp only [bind,Qa,Option.some.injEq] at hop
    obtain ⟨m,hm,l,hl,z,hz,e⟩:=hop
    cases e
    obtain ⟨h1,h2⟩:=mapM_parts hl
    refine build_array_says hu hz hm h0 (zero_one hz) (by simpa using h1.symm) (fun i p q hp hq=>?_)
    simp only [Qcc,Qc] at hq
    obtain ⟨q0,hq0,rfl⟩:=hq
    have:=h2 i q0 p (by simpa using hq0) hp
    simp only [Qa,Option.some.injEq] at this
    obtain ⟨y,hy,rfl⟩:=this
    exact ⟨rfl,rfl,opdT_ok hT hy⟩
   ·cases hop
 | _=>simp [locV] at h

/-! runs of the machine through a region -/
def Do1 (P : Program) (ops : Array Oper) (i : Nat) (a : Act) (w : World) (a' : Act) (w' : World) : Prop :=
 ∃ oo,ops[i]? = some oo∧((Region.wanted oo (yielded ops a.tmps) = true∧(∀ c,oo.op ≠ .defer c) ∧ ∃ u,Acts P a oo w u w'∧a' = a.put oo.dst u) ∨
   (Region.wanted oo (yielded ops a.tmps) = false∧a' = a.put oo.dst undef∧w' = w))
inductive RL (P : Program) (ops : Array Oper) : List Nat → Act → World → Act → World → Prop
 | nil (a w) : RL P ops [] a w a w
 | cons {i is a w a1 w1 a2 w2} (h : Do1 P ops i a w a1 w1) (hr : RL P ops is a1 w1 a2 w2) : RL P ops (i::is) a w a2 w2
inductive RY (P : Program) (ops : Array Oper) : List Nat → Act → Act → Prop
 | nil (a) : RY P ops [] a a
 | cons {i is a a2 oo u} (ho : ops[i]? = some oo) (hs : ∀ cs b,oo.op ≠ .select cs b) (hd : ∀ c,oo.op ≠ .defer c) (h : Yields P ops oo u a) (hr : RY P ops is (a.put oo.dst u) a2) : RY P ops (i::is) a a2
theorem Do1.of_yields {ops : Array Oper} {i : Nat} {a : Act} {oo : Oper} {u : Value} (ho : ops[i]? = some oo) (hd : ∀ c,oo.op ≠ .defer c) (h : Yields P ops oo u a) (w : World) : Do1 P ops i a w (a.put oo.dst u) w:=by
 refine ⟨oo,ho,?_⟩
 rcases h with ⟨h1,h2⟩ | ⟨h1,rfl⟩
 ·exact .inl ⟨h1,hd,u,.inl (h2 w),rfl⟩
 ·exact .inr ⟨h1,rfl,rfl⟩
theorem RL.steps {ops : Array Oper} {b : Frame} : ∀ {is : List Nat} {a a2 : Act} {w w2 : World},RL P ops is a w a2 w2 → ∀ k cs,Steps P (lone (b.atR a (.inRegion ops is::k)) cs w) (lone (b.atR a2 (.inRegion ops []::k)) cs w2)
 | _,_,_,_,_,.nil _ _=>fun k cs=>Steps.refl _ _
 | i::is,a,a2,w,w2,.cons h hr=>fun k cs=>by
   refine Steps.trans ?_ (RL.steps hr k cs)
   obtain ⟨oo,ho,h⟩:=h
   rcases h with ⟨h1,h2,u,h3,rfl⟩ | ⟨h1,rfl,e⟩
   ·exact step_acts ho h1 h2 h3 is k cs
   ·rw [e]
    have:=stepR_op_skip (P:=P) (b:=b) (a:=a) (k:=k) (cs:=cs) (w:=w) (ops:=ops) (i:=i) (rest:=is) (by simp [ho,h1])
    rw [ho] at this
    exact .one this
theorem RL.put_size {ops : Array Oper} : ∀ {is : List Nat} {a a2 : Act} {w w2 : World},RL P ops is a w a2 w2 → a2.tmps.size = a.tmps.size∧a2.defers = a.defers
 | _,_,_,_,_,.nil _ _=>⟨rfl,rfl⟩
 | i::is,a,a2,w,w2,.cons h hr=>by
   obtain ⟨h1,h2⟩:=RL.put_size hr
   obtain ⟨oo,ho,h⟩:=h
   rcases h with ⟨_,_,u,_,rfl⟩ | ⟨_,rfl,rfl⟩
   ·exact ⟨h1.trans (Zv.put_size ..),h2.trans (put_defers ..)⟩
   ·exact ⟨h1.trans (Zv.put_size ..),h2.trans (put_defers ..)⟩

def ApartP (ops : Array Oper) (x y : Oper) : Prop:=(∀ d,x.dst = some d → d ∉ y.looksAt ops)∧(∀ d,x.dst = some d → y.dst ≠ some d)∧(∀ d,y.dst = some d → d ∉ x.looksAt ops)
theorem ApartP.symm {ops : Array Oper} {x y : Oper} (h : ApartP ops x y) : ApartP ops y x:=⟨h.2.2,fun d hd hx=>h.2.1 d hx hd,h.1⟩
theorem yields_put {ops : Array Oper} {oi oj : Oper} {v u : Value} {a : Act} (hs : ∀ cs b,oi.op ≠ .select cs b) (h : ApartP ops oi oj) (hy : Yields P ops oi v a) : Yields P ops oi v (a.put oj.dst u) :=
 hy.of_same (execOp_put oi hs a oj.dst u h.2.2) (wanted_put oi a oj.dst u h.2.2)
theorem yields_unput {ops : Array Oper} {oi oj : Oper} {v u : Value} {a : Act} (hs : ∀ cs b,oi.op ≠ .select cs b) (h : ApartP ops oi oj) (hy : Yields P ops oi v (a.put oj.dst u)) : Yields P ops oi v a :=
 hy.of_same (execOp_put oi hs a oj.dst u h.2.2).symm (wanted_put oi a oj.dst u h.2.2).symm
theorem RY.swap {ops : Array Oper} {i j : Nat} {is : List Nat} {a a2 : Act} (hap : ∀ x y,ops[i]? = some x → ops[j]? = some y → ApartP ops x y) (h : RY P ops (i::j::is) a a2) : RY P ops (j::i::is) a a2:=by
 cases h with
 | @cons _ _ _ _ oi ui ho hs hd h hr =>
   cases hr with
   | @cons _ _ _ _ oj uj ho2 hs2 hd2 h2 hr2 =>
     have ap:=hap _ _ ho ho2
     refine .cons ho2 hs2 hd2 (yields_unput hs2 ap.symm h2) (.cons ho hs hd (yields_put hs ap h) ?_)
     rw [Act.put_comm a uj ui (fun d hd hx=>ap.2.1 d hx hd)]
     exact hr2
theorem RY.front {ops : Array Oper} {i : Nat} {B : List Nat} : ∀ {A : List Nat} {a a2 : Act},(∀ j ∈ A,∀ x y,ops[j]? = some x → ops[i]? = some y → ApartP ops x y) → RY P ops (A++i::B) a a2 → RY P ops (i::(A++B)) a a2
 | [],a,a2,_,h=>h
 | j::A,a,a2,hap,h=>by
   cases h with
   | cons ho hs hd h hr=>exact RY.swap (hap j (by simp)) (.cons ho hs hd h (RY.front (fun k hk=>hap k (by simp [hk])) hr))
theorem RY.pass {ops : Array Oper} {i : Nat} {oo : Oper} (ho : ops[i]? = some oo) (hso : ∀ cs b,oo.op ≠ .select cs b) {w w2 : World} {a3 : Act} : ∀ {W : List Nat} {a a1 : Act},(∀ j ∈ W,∀ x,ops[j]? = some x → ApartP ops x oo) → RY P ops W a a1 → Do1 P ops i a1 w a3 w2 →
  ∃ a',Do1 P ops i a w a' w2∧RY P ops W a' a3
 | _,_,_,_,.nil a,hd=>⟨a3,hd,.nil a3⟩
 | j :: W,a,a1,hap,@RY.cons _ _ _ _ _ _ oj uj hj hs hdf hy hr,hd=>by
   obtain ⟨b',h1,h2⟩:=RY.pass ho hso (fun k hk=>hap k (by simp [hk])) hr hd
   have ap:=hap j (by simp) oj hj
   obtain ⟨o2,ho2,h1⟩:=h1
   rw [ho] at ho2; cases ho2
   have hw:=wanted_put (ops:=ops) oo a oj.dst uj ap.1
   have he:=execOp_put (ops:=ops) oo hso a oj.dst uj ap.1
   rcases h1 with ⟨k1,k2,u,k3,rfl⟩ | ⟨k1,rfl,rfl⟩
   ·refine ⟨a.put oo.dst u,⟨oo,ho,.inl ⟨by rw [← hw]; exact k1,k2,u,?_,rfl⟩⟩,.cons hj hs hdf (yields_put hs ap hy) ?_⟩
    ·unfold Acts at k3 ⊢
     rw [he] at k3
     exact k3
    ·rw [Act.put_comm a u uj (fun d hd hx=>ap.2.1 d hx hd)]; exact h2
   ·refine ⟨a.put oo.dst undef,⟨oo,ho,.inr ⟨by rw [← hw]; exact k1,rfl,rfl⟩⟩,.cons hj hs hdf (yields_put hs ap hy) ?_⟩
    rw [Act.put_comm a undef uj (fun d hd hx=>ap.2.1 d hx hd)]; exact h2
theorem RL.merge {ops : Array Oper} {Wp : Nat → Bool} : ∀ {L : List Nat} {a a1 a2 : Act} {w w2 : World},(∀ i ∈ L,∃ oo,ops[i]? = some oo ∧ ∀ cs b,oo.op ≠ .select cs b) →
  (∀ A i B,L = A++i::B → Wp i = false → ∀ j ∈ B,Wp j = true → ∀ x y,ops[j]? = some x → ops[i]? = some y → ApartP ops x y) →
  RY P ops (L.filter Wp) a a1 → RL P ops (L.filter fun i=>!Wp i) a1 w a2 w2 → RL P ops L a w a2 w2
 | [],a,a1,a2,w,w2,_,_,h1,h2=>by
   simp only [List.filter_nil] at h1 h2
   cases h1; exact h2
 | i :: L,a,a1,a2,w,w2,hs,hap,h1,h2=>by
   have hs' : ∀ j ∈ L,∃ oo,ops[j]? = some oo ∧ ∀ cs b,oo.op ≠ .select cs b:=fun j hj=>hs j (by simp [hj])
   have hap' : ∀ A k B,L = A++k::B → Wp k = false → ∀ j ∈ B,Wp j = true → ∀ x y,ops[j]? = some x → ops[k]? = some y → ApartP ops x y:=fun A k B e=>hap (i::A) k B (by rw [e]; rfl)
   cases hw : Wp i with
   | true =>
     rw [Qct hw] at h1
     rw [List.filter_cons_of_neg (by simp [hw])] at h2
     cases h1 with
     | cons ho hs1 hd hy hr=>exact .cons (Do1.of_yields ho hd hy w) (RL.merge hs' hap' hr h2)
   | false =>
     rw [List.filter_cons_of_neg (by simp [hw])] at h1
     rw [Qct (by simp [hw])] at h2
     cases h2 with
     | cons hd hr =>
       obtain ⟨oo,ho,hso⟩:=hs i (by simp)
       obtain ⟨a',k1,k2⟩:=RY.pass ho hso (fun j hj x hx=>by
        rw [Qad] at hj
        exact hap [] i L rfl hw j hj.1 hj.2 x oo hx ho) h1 hd
       exact .cons k1 (RL.merge hs' hap' k2 hr)
end
end Go.Zv

/- The engine, part 29c: regions with a call that shares memory; the whole. -/
namespace Go.Zv
section
variable {P : Program} {c : Cx} {w w' : World} {s s2 : St} {Ts : List (Array Value)} {R : Orc} {n : Nat} {ops : Array Oper} {N : Nat}

inductive LinArr (ops : Array Oper) (n : Nat) : Array Bool → List Nat → Prop
 | nil {listed} (h : ∀ i,i < n → listed.getD i true = true) : LinArr ops n listed []
 | cons {listed i L} (hi : i < n) (hl : listed.getD i true = false) (hb : ∀ j,((Region.before ops).getD i 0).testBit j = true → listed.getD j false = true) (hr : LinArr ops n (listed.setIfInBounds i true) L) : LinArr ops n listed (i::L)
theorem unl_zero {listed : Array Bool} (h : unl n listed = 0) : ∀ i,i < n → listed.getD i true = true:=fun i hi=>by
 cases hc : listed.getD i true with
 | true=>rfl
 | false =>
   have hm : i ∈ (List.range n).filter fun i=>listed.getD i true == false:=Qad.2 ⟨Qq.2 hi,by rw [hc]; rfl⟩
   have:=List.length_pos_of_mem hm
   unfold unl at h; omega
theorem go_lin (hsize : ops.size = n) (hlt : ∀ i,i < n → (Region.before ops).getD i 0 < 2 ^ i) : ∀ (fuel t : Nat) (listed : Array Bool),listed.size = n → Closed ops listed → unl n listed≤fuel → LinArr ops n listed (Region.linearise.go .any ops fuel t listed [])
 | 0,t,listed,hsz,hcl,hf=>by
   simp only [Region.linearise.go,Qc7]
   exact .nil (unl_zero (by omega))
 | fuel + 1,t,listed,hsz,hcl,hf=>by
   simp only [Region.linearise.go]
   show LinArr ops n listed (match (Region.ready .any ops listed)[t % (Region.ready .any ops listed).length]? with
    | some i=>Region.linearise.go .any ops fuel (t / (Region.ready .any ops listed).length) (listed.setIfInBounds i true) [i]
    | none=>[].reverse)
   cases hi : (Region.ready .any ops listed)[t % (Region.ready .any ops listed).length]? with
   | none =>
     have hnil : Region.ready .any ops listed = []:=by
      cases hr : Region.ready .any ops listed with
      | nil=>rfl
      | cons x xs =>
        rw [hr] at hi
        have hlt : t % (x::xs).length < (x::xs).length:=Qdr _ (by simp)
        rw [Qbu] at hi
        omega
     have h0 : unl n listed = 0:=by
      refine Qu fun h=>?_
      obtain ⟨i,hin,hif,hmin⟩:=unl_pos h
      have : i ∈ Region.ready .any ops listed:=by
       unfold Region.ready
       have hio : i < ops.size:=by rw [hsize]; exact hin
       simp only [Qad,Qq,Qg,Qam]
       refine ⟨hio,hif,?_⟩
       have ho : ops[i]? = some ops[i]:=Qaa hio
       rw [ho]
       simp only [Qay,Qa9]
       refine Qbf.2 fun e he=>?_
       cases hb : Region.binds .any e with
       | false=>rfl
       | true =>
         simp only [Qai,Qah]
         have hbit : ((Region.before ops).getD i 0).testBit e.on = true:=(before_bit ho e.on).2 ⟨e,by simpa using he,hb,.inl rfl⟩
         have hlt : e.on < i:=by
          refine Qu fun hge=>?_
          have h1:=hlt i hin
          have h2:=Qcw (x:=(Region.before ops).getD i 0) (i:=e.on) (Qaf h1 (Qc4 (by omega) (by omega)))
          rw [h2] at hbit; cases hbit
         have h3:=hmin e.on hlt
         have hlt2 : e.on < listed.size:=by omega
         simp only [Qi,Qaa hlt2,Qa9] at h3 ⊢
         exact h3
      rw [hnil] at this; cases this
     simp only [Qc7]
     exact .nil (unl_zero h0)
   | some i =>
     simp only
     rw [linearise_go_acc,List.reverse_singleton,List.singleton_append]
     have hmem:=Qd hi
     obtain ⟨hio,hil,hbits⟩:=ready_bits hcl hmem
     have hin : i < n:=by rw [← hsize]; exact hio
     have hcl2 : Closed ops (listed.setIfInBounds i true):=by
      have up : ∀ j,listed.getD j false = true → (listed.setIfInBounds i true).getD j false = true:=fun j hj=>by
       simp only [Qi] at hj ⊢
       by_cases e : i = j
       ·subst e; simp [Qav,hsz,hin]
       ·rw [Qaw e]; exact hj
      intro k hk j hj
      by_cases e : i = k
      ·subst e; exact up j (hbits j hj)
      ·refine up j (hcl k ?_ j hj)
       simp only [Qi] at hk ⊢
       rwa [Qaw e] at hk
     exact .cons hin hil hbits (go_lin hsize hlt fuel _ _ (by simpa using hsz) hcl2 (by have:=unl_set hin hsz hil; omega))

theorem set_getD {listed : Array Bool} {i j : Nat} (hi : i < listed.size) (d : Bool) : (listed.setIfInBounds i true).getD j d = if i = j then true else listed.getD j d:=by
 simp only [Qi]
 by_cases e : i = j
 ·subst e; simp [Qav,hi]
 ·rw [Qaw e,if_neg e]
theorem getD_in {listed : Array Bool} {i : Nat} (hi : i < listed.size) (a b : Bool) : listed.getD i a = listed.getD i b:=by
 simp [Qi,Qaa hi]
theorem LinArr.facts : ∀ {L : List Nat} {listed : Array Bool},listed.size = n → LinArr ops n listed L → (∀ i ∈ L,i < n∧listed.getD i true = false)∧L.Nodup∧(∀ i,i < n → listed.getD i true = false → i ∈ L) ∧
  ∀ A i B,L = A++i::B → ∀ j ∈ B,((Region.before ops).getD i 0).testBit j = false
 | [],listed,hsz,.nil h=>⟨by simp,by simp,fun i hi hf=>(by rw [h i hi] at hf; cases hf),fun A i B e=>(by simp at e)⟩
 | i :: L,listed,hsz,.cons hi hl hb hr=>by
   have hsz2 : (listed.setIfInBounds i true).size = n:=by simpa using hsz
   obtain ⟨h1,h2,h3,h4⟩:=LinArr.facts hsz2 hr
   have hx : ∀ j ∈ L,i ≠ j∧listed.getD j true = false:=fun j hj=>by
    have:=(h1 j hj).2
    rw [set_getD (by omega)] at this
    split at this
    ·cases this
    ·rename_i hne; exact ⟨hne,this⟩
   refine ⟨fun j hj=>?_,List.nodup_cons.2 ⟨fun h=>(hx i h).1 rfl,h2⟩,fun j hj hf=>?_,fun A k B e j hj=>?_⟩
   ·rcases Q7.1 hj with rfl | hj
    ·exact ⟨hi,hl⟩
    ·exact ⟨(h1 j hj).1,(hx j hj).2⟩
   ·by_cases e : i = j
    ·subst e; simp
    ·refine Qbo _ (h3 j hj ?_)
     rw [set_getD (by omega),if_neg e]; exact hf
   ·cases A with
    | nil =>
      simp only [Qw,List.cons.injEq] at e
      obtain ⟨rfl,rfl⟩:=e
      cases hbit : ((Region.before ops).getD i 0).testBit j with
      | false=>rfl
      | true =>
        have h5:=hb j hbit
        have h6:=(hx j hj).2
        rw [getD_in (by have:=(h1 j hj).1; omega) true false,h5] at h6; cases h6
    | cons a A =>
      simp only [Qy,List.cons.injEq] at e
      exact h4 A k B e.2 j hj
theorem LinArr.rest {Wp : Nat → Bool} : ∀ {L : List Nat} {listed listed' : Array Bool},listed.size = n → listed'.size = n → (∀ j,j < n → listed'.getD j true = (listed.getD j true || Wp j)) → LinArr ops n listed L → LinArr ops n listed' (L.filter fun i=>!Wp i)
 | [],listed,listed',hsz,hsz',he,.nil h=>.nil fun i hi=>by rw [he i hi,h i hi]; rfl
 | i :: L,listed,listed',hsz,hsz',he,.cons hi hl hb hr=>by
   have hsz2 : (listed.setIfInBounds i true).size = n:=by simpa using hsz
   cases hw : Wp i with
   | true =>
     rw [List.filter_cons_of_neg (by simp [hw])]
     refine LinArr.rest hsz2 hsz' (fun j hj=>?_) hr
     rw [set_getD (by omega),he j hj]
     split
     ·rename_i e; subst e; simp [hw]
     ·rfl
   | false =>
     rw [Qct (by simp [hw])]
     refine .cons hi (by rw [he i hi,hl,hw]; rfl) (fun j hj=>?_) (LinArr.rest hsz2 (by simpa using hsz') (fun j hj=>?_) hr)
     ·have h5:=hb j hj
      have hjn : j < n:=by
       refine Qu fun hge=>?_
       simp [Qi,Array.getElem?_eq_none (show listed.size≤j by omega)] at h5
      rw [getD_in (by omega) false true,he j hjn,getD_in (by omega) true false,h5]; rfl
     ·rw [set_getD (by omega),set_getD (by omega),he j hj]
      split <;> simp

theorem RD.append {A B : List (Chk × AOper)} : ∀ {s : St},RD R (A++B) s s2 → ∃ s1,RD R A s s1∧RD R B s1 s2:=by
 induction A with
 | nil=>exact fun h=>⟨_,.nil (Sim.refl _),h⟩
 | cons x A ih =>
   intro s h
   cases h with
   | cons h1 hx hr =>
     obtain ⟨s1,h2,h3⟩:=ih hr
     exact ⟨s1,.cons h1 hx h2,h3⟩

theorem oper_do1 (IH : FnOK P R) (IHr : RndOK P R) {a : Act} {i : Nat} {oo : Oper} {o : AOper} (hi : ops[i]? = some oo) (ho : toOper P N ops oo = some { o with fz:=true })
  (H : SR P c s a.tmps Ts w) (hN : N≤a.tmps.size) {q : Chk} (h : Step1 R q o s s2) : ∃ c' a' w',SR P c' s2 a'.tmps Ts w'∧Tr c w c' w'∧Do1 P ops i a w a' w'∧a'.tmps.size = a.tmps.size:=by
 obtain ⟨hdst,hd,hop,hg⟩:=toOper_inv ho
 simp only at hdst hop hg
 obtain ⟨bb,hw,h⟩:=h
 have hww:=wanted_ok H.T hg hw
 cases bb with
 | true =>
   simp only [if_true] at h
   obtain ⟨v,s1,h,rfl⟩:=h
   rw [hop] at h
   have key : ∃ c' u w',SR P c' s1 a.tmps Ts w'∧Tr c w c' w'∧VR c' v u∧(∀ c,oo.op ≠ .defer c)∧Acts P a oo w u w':=by
    cases q with
    | free=>exact op_okF IH IHr H h
    | dr un qs =>
      cases hfz : o.fz with
      | true=>rw [hfz] at h; exact dOp_ok IH IHr H h
      | false=>rw [hfz] at h; exact dOpF_ok IH H h
    | loc =>
      simp only [chkOp] at h
      split at h
      ·refine op_okF (fz:=true) (d:=0) IH IHr H ?_
       rw [Qa]
       exact ⟨(v,s1),loc_step h,rfl⟩
      ·cases h
    | alt _ _=>cases h
    | lit _ _ _=>cases h
   obtain ⟨c',u,w',H',t',hv,hnd,hact⟩:=key
   refine ⟨c',a.put oo.dst u,w',?_,t',⟨oo,hi,.inl ⟨hww,hnd,u,hact,rfl⟩⟩,put_size ..⟩
   rw [hdst]
   exact H'.put hv (fun d e=>Qaf (hd d e) hN) a.defers
 | false =>
   simp only [Qh,if_false] at h
   subst h
   refine ⟨c,a.put oo.dst undef,w,?_,Tr.refl _ _,⟨oo,hi,.inr ⟨hww,rfl,rfl⟩⟩,put_size ..⟩
   rw [hdst]
   exact H.put .undef (fun d e=>Qaf (hd d e) hN) a.defers
theorem locOp_2 {x : AOp} (h : locOp x = true) : locOp2 x = true:=by cases x <;> simp_all [locOp,locOp2]
theorem loc_ops {ty : TypeId} {op : Op} (h : locOp2 (toOp P ty op) = true) : toOp1 P ty op = some (toOp P ty op)∧(∀ cs b,op ≠ .select cs b) ∧ ∀ c,op ≠ .defer c:=by
 have h1 : toOp1 P ty op = some (toOp P ty op):=by
  cases hh : toOp1 P ty op with
  | some x=>simp [toOp,hh]
  | none =>
    have e : toOp P ty op = .bad:=by simp [toOp,hh]
    rw [e] at h; cases h
 refine ⟨h1,fun cs b e=>?_,not_defer h1⟩
 have h2 : (toOp P ty op).mkL ≠ 0:=by
  generalize toOp P ty op = x at h
  cases x <;> simp [locOp2] at h <;> simp [AOp.mkL]
 have:=mkL_eq h1 h2
 rw [e] at this
 simp only [Op.mkL] at this
 rw [← e] at this
 exact h2 this
theorem oper_loc {a : Act} {i : Nat} {oo : Oper} {o : AOper} (hi : ops[i]? = some oo) (ho : toOper P N ops oo = some { o with fz:=true }) (hl : locOp2 o.op = true)
  (H : SR P c s a.tmps Ts w) (hN : N≤a.tmps.size) (h : Step1 R .loc o s s2) : ∃ u,(∀ cs b,oo.op ≠ .select cs b)∧(∀ c,oo.op ≠ .defer c)∧Yields P ops oo u a∧SR P c s2 (a.put oo.dst u).tmps Ts w:=by
 obtain ⟨hdst,hd,hop,hg⟩:=toOper_inv ho
 simp only at hdst hop hg
 obtain ⟨bb,hw,h⟩:=h
 have hww:=wanted_ok H.T hg hw
 rw [hop] at hl
 obtain ⟨k1,k2,k3⟩:=loc_ops hl
 cases bb with
 | true =>
   simp only [if_true] at h
   obtain ⟨v,s1,h,rfl⟩:=h
   simp only [chkOp] at h
   split at h
   ·obtain ⟨v0,h0,h1⟩:=Qa.1 h
    simp only [ok1,Option.some.injEq,Prod.mk.injEq] at h1
    obtain ⟨rfl,rfl⟩:=h1
    rw [hop] at h0
    obtain ⟨⟨u,hu,hv⟩,_,_⟩:=loc_uni w H.T k1 h0
    refine ⟨u,k2,k3,.inl ⟨hww,hu⟩,?_⟩
    rw [hdst]
    exact H.put hv (fun d e=>Qaf (hd d e) hN) a.defers
   ·cases h
 | false =>
   simp only [Qh,if_false] at h
   subst h
   refine ⟨undef,k2,k3,.inr ⟨hww,rfl⟩,?_⟩
   rw [hdst]
   exact H.put .undef (fun d e=>Qaf (hd d e) hN) a.defers
theorem ph1 : ∀ {m : List (Nat × (Chk × AOper))} {a : Act} {s : St},(∀ p ∈ m,p.2.1 = .loc∧locOp2 p.2.2.op = true ∧ ∃ oo,ops[p.1]? = some oo∧toOper P N ops oo = some { p.2.2 with fz:=true }) →
  RD R (m.map (·.2)) s s2 → SR P c s a.tmps Ts w → N≤a.tmps.size → ∃ a1,SR P c s2 a1.tmps Ts w∧RY P ops (m.map (·.1)) a a1∧a1.tmps.size = a.tmps.size
 | [],a,s,_,.nil h,H,hN=>⟨a,H.sim h,.nil a,rfl⟩
 | (i,q,o)::m,a,s,hm,.cons h1 hx hr,H,hN=>by
   obtain ⟨e,hl,oo,hoo,hto⟩:=hm (i,q,o) (by simp)
   simp only at e hl hoo hto hx
   subst e
   obtain ⟨u,k1,k2,k3,H2⟩:=oper_loc hoo hto hl (H.sim h1) hN hx
   have hsz:=put_size a oo.dst u
   obtain ⟨a1,H3,hy,hs3⟩:=ph1 (fun p hp=>hm p (by simp [hp])) hr H2 (by omega)
   exact ⟨a1,H3,.cons hoo k1 k2 k3 hy,hs3.trans hsz⟩

theorem split_mem {α : Type} {m : List (Nat × α)} {i : Nat} {x : α} (h : (i,x) ∈ m) (hp : m.Pairwise fun p q=>p.1 < q.1) : ∃ A B,m = A++(i,x)::B∧(∀ p ∈ A,p.1 < i) ∧ ∀ p ∈ B,i < p.1:=by
 obtain ⟨A,B,rfl⟩:=Qdf h
 rw [Qci] at hp
 exact ⟨A,B,rfl,fun p hA=>hp.2.2 p hA (i,x) (by simp),fun p hB=>(Qbm.1 hp.2.1).1 p hB⟩
theorem lin2 (IH : FnOK P R) (IHr : RndOK P R) {M : List (Nat × (Chk × AOper))} (hop : ∀ p ∈ M,∃ oo,ops[p.1]? = some oo∧toOper P N ops oo = some { p.2.2 with fz:=true })
  (hind : ∀ p ∈ M,∀ r ∈ M,p.1 < r.1 → ((Region.before ops).getD r.1 0).testBit p.1 = true ∨ indep p.2 r.2 = true) :
  ∀ {L : List Nat} {listed : Array Bool} {m : List (Nat × (Chk × AOper))} {c : Cx} {a : Act} {w : World} {s : St},listed.size = n → LinArr ops n listed L → (∀ p ∈ m,p ∈ M) → m.Pairwise (fun p q=>p.1 < q.1) → (∀ i,(i < n∧listed.getD i true = false) ↔ ∃ x,(i,x) ∈ m) →
  RD R (m.map (·.2)) s s2 → SR P c s a.tmps Ts w → N≤a.tmps.size → ∃ c' a' w',SR P c' s2 a'.tmps Ts w'∧Tr c w c' w'∧RL P ops L a w a' w'
 | [],listed,m,c,a,w,s,hsz,.nil h,hm,hp,hiff,hr,H,hN=>by
   have : m = []:=by
    cases m with
    | nil=>rfl
    | cons p m =>
      obtain ⟨h1,h2⟩:=(hiff p.1).2 ⟨p.2,by simp⟩
      rw [h _ h1] at h2; cases h2
   subst this
   cases hr with
   | nil hs=>exact ⟨c,a,w,H.sim hs,Tr.refl _ _,.nil a w⟩
 | i :: L,listed,m,c,a,w,s,hsz,.cons hi hl hb hrest,hm,hp,hiff,hr,H,hN=>by
   obtain ⟨x,hx⟩:=(hiff i).1 ⟨hi,hl⟩
   obtain ⟨A,B,rfl,hA,hB⟩:=split_mem hx hp
   rw [Ql,Qk] at hr
   have hr2:=hr.front fun y hy=>by
    obtain ⟨p,hpA,rfl⟩:=Q6.1 hy
    rcases hind p (hm p (by simp [hpA])) (i,x) (hm _ (by simp)) (hA p hpA) with h | h
    ·have h5:=hb p.1 h
     obtain ⟨h6,h7⟩:=(hiff p.1).2 ⟨p.2,by simp [hpA]⟩
     rw [getD_in (by omega) true false,h5] at h7; cases h7
    ·exact h
   cases hr2 with
   | cons h1 hx1 hr3 =>
     obtain ⟨oo,hoo,hto⟩:=hop (i,x) (hm _ (by simp))
     obtain ⟨c1,a1,w1,H1,t1,d1,hs1⟩:=oper_do1 IH IHr hoo hto (H.sim h1) hN hx1
     obtain ⟨c2,a2,w2,H2,t2,r2⟩:=lin2 IH IHr hop hind (m:=A++B) (listed:=listed.setIfInBounds i true) (by simpa using hsz) hrest (fun p hpm=>hm p (by rcases Qs.1 hpm with h | h <;> simp [h])) (by
       rw [Qci] at hp ⊢
       exact ⟨hp.1,(Qbm.1 hp.2.1).2,fun p h1 q h2=>hp.2.2 p h1 q (by simp [h2])⟩) (fun j=>by
       rw [set_getD (by omega)]
       constructor
       ·rintro ⟨h3,h4⟩
        split at h4
        ·cases h4
        ·rename_i hne
         obtain ⟨y,hy⟩:=(hiff j).1 ⟨h3,h4⟩
         rcases Qs.1 hy with h | h
         ·exact ⟨y,by simp [h]⟩
         ·rcases Q7.1 h with h | h
          ·cases h; exact absurd rfl hne
          ·exact ⟨y,by simp [h]⟩
       ·rintro ⟨y,hy⟩
        obtain ⟨h3,h4⟩:=(hiff j).2 ⟨y,by rcases Qs.1 hy with h | h <;> simp [h]⟩
        refine ⟨h3,?_⟩
        rw [if_neg]; exact h4
        rintro rfl
        rcases Qs.1 hy with h | h
        ·have:=hA _ h; simp at this
        ·have:=hB _ h; simp at this) (by rw [Ql]; exact hr3) H1 (by omega)
     exact ⟨c2,a2,w2,H2,t1.trans t2,.cons d1 r2⟩
theorem RY.perm {Q : Nat → Prop} (hap : ∀ i j x y,Q i → Q j → i ≠ j → ((Region.before ops).getD i 0).testBit j = false → ((Region.before ops).getD j 0).testBit i = false → ops[i]? = some x → ops[j]? = some y → ApartP ops x y) :
  ∀ {L2 L1 : List Nat} {a a2 : Act},L1.Perm L2 → (∀ i ∈ L2,Q i) → L2.Nodup → (∀ A i B,L1 = A++i::B → ∀ j ∈ B,((Region.before ops).getD i 0).testBit j = false) → (∀ A i B,L2 = A++i::B → ∀ j ∈ B,((Region.before ops).getD i 0).testBit j = false) → RY P ops L1 a a2 → RY P ops L2 a a2
 | [],L1,a,a2,hp,_,_,_,_,h=>by
   rw [List.perm_nil] at hp; subst hp; exact h
 | x :: L2,L1,a,a2,hp,hQ,hnd,h1,h2,h=>by
   obtain ⟨A,B,rfl⟩:=Qdf (hp.mem_iff.2 (List.mem_cons_self (a:=x) (l:=L2)))
   have hp2 : (A++B).Perm L2:=(List.perm_middle.symm.trans hp).cons_inv
   have hn:=List.nodup_cons.1 hnd
   have hf:=RY.front (i:=x) (B:=B) (fun j hj u v hu hv=>by
    have hj2 : j ∈ L2:=hp2.mem_iff.1 (by simp [hj])
    have hne : j ≠ x:=fun e=>hn.1 (e ▸ hj2)
    refine hap j x u v (hQ j (by simp [hj2])) (hQ x (by simp)) hne ?_ (h2 [] x L2 rfl j hj2) hu hv
    obtain ⟨A1,A2,rfl⟩:=Qdf hj
    exact h1 A1 j (A2++x::B) (by simp) x (by simp)) h
   cases hf with
   | cons ho hs hd hy hr =>
     refine .cons ho hs hd hy (RY.perm hap hp2 (fun i hi=>hQ i (by simp [hi])) hn.2 (fun A' i B' e j hj=>?_) (fun A' i B' e=>h2 (x::A') i B' (by rw [e]; rfl)) hr)
     rcases List.append_eq_append_iff.1 e with ⟨C,e1,e2⟩ | ⟨C,e1,e2⟩
     ·exact h1 (A++x::C) i B' (by rw [e2]; simp) j hj
     ·cases C with
      | nil =>
        simp only [Qw] at e2
        simp only [Qbc] at e1
        subst e1; subst e2
        exact h1 (A++[x]) i B' (by simp) j hj
      | cons k C =>
        simp only [Qy,List.cons.injEq] at e2
        obtain ⟨rfl,rfl⟩:=e2
        subst e1
        refine h1 A' i (C++x::B) (by simp) j ?_
        rcases Qs.1 hj with h | h <;> simp [h]

theorem fzList : ∀ {m0 : List (Nat × (Chk × AOper))} {l : List AOper},m0.map (·.2.2) = (l.map fun o=>{ o with fz:=true }) → ∃ M : List (Nat × (Chk × AOper)),M.map (·.1) = m0.map (·.1)∧M.map (·.2) = (m0.map (·.2.1)).zip l ∧
  ∀ p ∈ M,∃ p0 ∈ m0,p0.1 = p.1∧p0.2.1 = p.2.1∧p0.2.2 = { p.2.2 with fz:=true }
 | [],[],_=>⟨[],rfl,rfl,by simp⟩
 | p0::m0,o::l,h=>by
   simp only [Qk,List.cons.injEq] at h
   obtain ⟨M,h1,h2,h3⟩:=fzList h.2
   refine ⟨(p0.1,(p0.2.1,o))::M,by simp [h1],by simp [h2],fun p hp=>?_⟩
   rcases Q7.1 hp with rfl | hp
   ·exact ⟨p0,by simp,rfl,rfl,h.1⟩
   ·obtain ⟨q,hq,k⟩:=h3 p hp; exact ⟨q,by simp [hq],k⟩
 | [],_::_,h=>by simp at h
 | _::_,[],h=>by simp at h
theorem filter_split {Wp : Nat → Bool} {L A B : List Nat} {i : Nat} (h : L.filter Wp = A++i::B) : ∃ A2 B2,L = A2++i::B2 ∧ ∀ j ∈ B,j ∈ B2:=by
 obtain ⟨L1,L2,rfl,h1,h2⟩:=List.filter_eq_append_iff.1 h
 obtain ⟨L3,L4,rfl,h3,h4,h5⟩:=List.filter_eq_cons_iff.1 h2
 exact ⟨L1++L3,L4,by simp,fun j hj=>by rw [← h5] at hj; exact (Qad.1 hj).1⟩
theorem indep_fz {q r : Chk} {o p o0 p0 : AOper} (ho : o0 = { o with fz:=true }) (hp : p0 = { p with fz:=true }) (h : indep (q,o0) (r,p0) = true) : indep (q,o) (r,p) = true:=by
 subst ho; subst hp; exact h
theorem mem_zip {l : List AOper} {o : AOper} {i : Nat} (h : (o,i) ∈ l.zipIdx) : l[i]? = some o:=by
 rw [Qb6] at h; exact h
theorem mapM_at {l' : List AOper} (h : ops.toList.mapM (toOper P N ops) = some l') : l'.length = ops.size ∧ ∀ (i : Nat) (o : AOper),l'[i]? = some o → ∃ oo,ops[i]? = some oo∧toOper P N ops oo = some o:=by
 have hl:=mapM_some_length h
 refine ⟨by simpa using hl,fun i o ho=>?_⟩
 have hi : i < ops.size:=by have:=(Qe.1 ho).1; simp at hl; omega
 have hoo : ops[i]? = some ops[i]:=Qaa hi
 have:=mapM_some_get h i ops[i] (by simp)
 exact ⟨_,hoo,by rw [this,ho]⟩
theorem zip_pw (l : List AOper) : l.zipIdx.Pairwise fun p q=>p.2 < q.2:=by
 have gen : ∀ (l : List AOper) (k : Nat),(l.zipIdx k).Pairwise fun p q=>p.2 < q.2:=by
  intro l
  induction l with
  | nil=>intro k; simp
  | cons o l ih =>
    intro k
    rw [List.zipIdx_cons,Qbm]
    refine ⟨fun p hp=>?_,ih _⟩
    have:=List.le_snd_of_mem_zipIdx hp
    omega
 exact gen l 0
theorem draw_perm (hm : P.follows .mixedOrders = true) (IH : FnOK P R) (IHr : RndOK P R) {q : List Chk} {l l' : List AOper} {id : Nat} {c : Cx} {a : Act} {w : World} {b : Frame} (hrun : runD R (q.zip l) (dropK (dsts l) s) = some s2) (hl' : ops.toList.mapM (toOper P N ops) = some l') (huse : useW ops l' = true)
  (hq : (regW ops l').map (fun p=>p.2.1) = q) (hl : (regW ops l').map (fun p=>p.2.2) = l.map fun o=>{ o with fz:=true }) (H : SR P c s a.tmps Ts w) (hN : N≤a.tmps.size) :
  ∃ c' a' w',SR P c' s2 a'.tmps Ts w'∧Tr c w c' w'∧a'.tmps.size = a.tmps.size∧a'.defers = a.defers ∧ ∀ k cs,Steps P (lone (b.atR a (.code (.region id ops true)::k)) cs w) (lone (b.atR a' k) cs w'):=by
 obtain ⟨hlen,hat⟩:=mapM_at hl'
 unfold useW at huse
 simp only [Qg] at huse
 have hok:=huse.2
 unfold okW at hok
 simp only [Qg,Qj,Qau,Qam,decide_eq_true_eq,decide_eq_false_iff_not] at hok
 obtain ⟨⟨hns,hok1⟩,hok2⟩:=hok
 generalize hW : wset (Region.before ops) l' = W at *
 have hreg : regW ops l' = permW (Region.before ops) l'.zipIdx W:=by unfold regW; rw [hW]
 rw [hreg] at hq hl
 generalize hb : Region.before ops = bf at *
 unfold permW at hq hl hok1 hok2
 generalize hA : ((l'.zipIdx.filter fun p=>W.getD p.2 false).map fun p=>(p.2,(Chk.loc,p.1))) = A at *
 generalize hB : ((l'.zipIdx.filter fun p=>!W.getD p.2 false).map fun p=>(p.2,(chkOf bf (l'.zipIdx.filter fun r=>!W.getD r.2 false) p.1 p.2,p.1))) = B at *
 rw [Ql] at hl
 obtain ⟨lA,lB,rfl,hlA,hlB⟩:=List.map_eq_append_iff.1 hl.symm
 obtain ⟨MA,a1,a2,a3⟩:=fzList hlA.symm
 obtain ⟨MB,b1,b2,b3⟩:=fzList hlB.symm
 have hzip : q.zip (lA++lB) = MA.map (·.2)++MB.map (·.2):=by
  rw [← hq,Ql,a2,b2]
  rw [List.zip_append (by have:=congrArg List.length hlA; simp at this; simp [this])]
 -- what stands where
 have inA : ∀ p ∈ A,p.2.1 = .loc∧W.getD p.1 false = true∧l'[p.1]? = some p.2.2:=fun p hp=>by
  rw [← hA] at hp
  obtain ⟨r,hr,rfl⟩:=Q6.1 hp
  rw [Qad] at hr
  exact ⟨rfl,hr.2,mem_zip hr.1⟩
 have inB : ∀ p ∈ B,W.getD p.1 false = false∧l'[p.1]? = some p.2.2:=fun p hp=>by
  rw [← hB] at hp
  obtain ⟨r,hr,rfl⟩:=Q6.1 hp
  rw [Qad] at hr
  exact ⟨by simpa using hr.2,mem_zip hr.1⟩
 have atA : ∀ i,i < ops.size → W.getD i false = true → ∃ p ∈ A,p.1 = i:=fun i hi hw=>by
  have hi2 : i < l'.length:=by omega
  refine ⟨(i,(.loc,l'[i])),?_,rfl⟩
  rw [← hA]
  exact Q6.2 ⟨(l'[i],i),Qad.2 ⟨by rw [Qb6]; exact Qf hi2,hw⟩,rfl⟩
 have atB : ∀ i,i < ops.size → W.getD i false = false → ∃ p ∈ B,p.1 = i:=fun i hi hw=>by
  have hi2 : i < l'.length:=by omega
  refine ⟨(i,(chkOf bf (l'.zipIdx.filter fun r=>!W.getD r.2 false) l'[i] i,l'[i])),?_,rfl⟩
  rw [← hB]
  exact Q6.2 ⟨(l'[i],i),Qad.2 ⟨by rw [Qb6]; exact Qf hi2,by rw [hw]; rfl⟩,rfl⟩
 have pwA : (A.map (·.1)).Pairwise (· < ·):=by
  rw [← hA,Qap,List.pairwise_map]
  exact ((zip_pw l').filter _).imp fun h=>h
 have pwB : (B.map (·.1)).Pairwise (· < ·):=by
  rw [← hB,Qap,List.pairwise_map]
  exact ((zip_pw l').filter _).imp fun h=>h
 have lt2 : ∀ i,i < ops.size → bf.getD i 0 < 2 ^ i:=fun i hi=>by
  cases hw : W.getD i false with
  | true=>obtain ⟨p,hp,rfl⟩:=atA i hi hw; exact (hok1 p (Qb3 _ hp)).1
  | false=>obtain ⟨p,hp,rfl⟩:=atB i hi hw; exact (hok1 p (Qc0 _ hp)).1
 have up : ∀ i j,i < ops.size → i≤j → (bf.getD i 0).testBit j = false:=fun i j hi hij=>by
  refine Qcw (Qaf (lt2 i hi) (Qc4 (by omega) hij))
 have anyM : ∀ i,i < ops.size → ∃ p ∈ A++B,p.1 = i:=fun i hi=>by
  cases hw : W.getD i false with
  | true=>obtain ⟨p,hp,e⟩:=atA i hi hw; exact ⟨p,Qb3 _ hp,e⟩
  | false=>obtain ⟨p,hp,e⟩:=atB i hi hw; exact ⟨p,Qc0 _ hp,e⟩
 have closed : ∀ i j,i < ops.size → j < ops.size → W.getD i false = true → (bf.getD i 0).testBit j = true → W.getD j false = true:=fun i j hi hj hw hbit=>by
  obtain ⟨p,hp,rfl⟩:=atA i hi hw
  obtain ⟨r,hr,rfl⟩:=anyM j hj
  rcases (hok1 p (Qb3 _ hp)).2 with h | h
  ·rw [hw] at h; cases h
  ·rcases h.2 r hr with h2 | h2
   ·rw [hbit] at h2; cases h2
   ·exact h2
 have apart1 : ∀ i j,i < ops.size → j < ops.size → i < j → (W.getD i false = true ∨ W.getD j false = true) → (bf.getD j 0).testBit i = false → ∀ x y,ops[i]? = some x → ops[j]? = some y → ApartP ops x y:=fun i j hi hj hij hw hbit x y hx hy=>by
  obtain ⟨p,hp,rfl⟩:=anyM i hi
  obtain ⟨r,hr,rfl⟩:=anyM j hj
  rcases hok2 p hp r hr with (h | h) | h
  ·exact absurd hij h
  ·rw [hbit] at h; cases h
  ·rw [if_pos (by simpa using hw)] at h
   unfold apartAt at h
   rw [hx,hy] at h
   exact Oper.apart_spec h
 have apart2 : ∀ i j,i < ops.size → j < ops.size → i ≠ j → (W.getD i false = true ∨ W.getD j false = true) → (bf.getD i 0).testBit j = false → (bf.getD j 0).testBit i = false → ∀ x y,ops[i]? = some x → ops[j]? = some y → ApartP ops x y:=fun i j hi hj hne hw h1 h2 x y hx hy=>by
  rcases Nat.lt_or_gt_of_ne hne with h | h
  ·exact apart1 i j hi hj h hw h2 x y hx hy
  ·exact (apart1 j i hj hi h hw.symm h1 y x hy hx).symm
 -- the evaluation
 obtain ⟨c0,H0,t0⟩:=end_ok H none (dsts (lA++lB))
 obtain ⟨H1,t1⟩:=H0.grew (Grew.drew w)
 have H1 : SR P c0 (dropK (dsts (lA++lB)) s) a.tmps Ts w.drew:=H1
 have hr:=RD.of_run hrun
 rw [hzip] at hr
 obtain ⟨s1,hr1,hr2⟩:=hr.append
 have sameA : ∀ p ∈ MA,∃ p0 ∈ A,p0.1 = p.1∧p0.2.1 = p.2.1∧p0.2.2 = { p.2.2 with fz:=true }:=a3
 obtain ⟨a1',H2,ry,hsz1⟩:=ph1 (P:=P) (N:=N) (ops:=ops) (m:=MA) (fun p hp=>by
  obtain ⟨p0,hp0,e1,e2,e3⟩:=sameA p hp
  obtain ⟨k1,k2,k3⟩:=inA p0 hp0
  obtain ⟨oo,hoo,hto⟩:=hat _ _ k3
  refine ⟨by rw [← e2]; exact k1,?_,oo,by rw [← e1]; exact hoo,by rw [← e3]; exact hto⟩
  rcases (hok1 p0 (Qb3 _ hp0)).2 with h | h
  ·rw [k2] at h; cases h
  ·have:=h.1; rw [e3] at this; exact locOp_2 this) hr1 H1 hN
 rw [a1] at ry
 have lin0:=go_lin (ops:=ops) (n:=ops.size) rfl (by rw [hb]; exact lt2) ops.size (w.tape w.drawn (.order b.fn id)) (Array.replicate ops.size false) (by simp) (fun i hi=>by
   simp only [Qi] at hi
   by_cases h : i < ops.size <;> simp [h] at hi) (by
   unfold unl
   have:=Qbv (fun i=>(Array.replicate ops.size false).getD i true == false) (List.range ops.size)
   rw [Qx] at this; omega)
 generalize hL : Region.linearise.go .any ops ops.size (w.tape w.drawn (.order b.fn id)) (Array.replicate ops.size false) [] = L at lin0
 obtain ⟨f1,f2,f3,f4⟩:=lin0.facts (by simp)
 rw [hb] at f4
 have f5 : ∀ i,i < ops.size → i ∈ L:=fun i hi=>f3 i hi (by simp [Qi,hi])
 -- what goes first, in the machine's order
 have ry2 : RY P ops (L.filter fun i=>W.getD i false) a a1':=by
  refine RY.perm (Q:=fun i=>i < ops.size∧W.getD i false = true) (fun i j x y hi hj hne h1 h2 hx hy=>?_) ?_ ?_ ?_ ?_ ?_ ry
  ·rw [hb] at h1 h2
   exact apart2 i j hi.1 hj.1 hne (.inl hi.2) h1 h2 x y hx hy
  ·refine (List.perm_ext_iff_of_nodup (pwA.imp fun h=>Nat.ne_of_lt h) (f2.filter _)).2 fun i=>?_
   rw [Qad,Q6]
   constructor
   ·rintro ⟨p,hp,rfl⟩
    obtain ⟨_,k2,k3⟩:=inA p hp
    have hi : p.1 < ops.size:=by have:=(Qe.1 k3).1; omega
    exact ⟨f5 _ hi,k2⟩
   ·rintro ⟨h1,h2⟩
    obtain ⟨p,hp,e⟩:=atA i (f1 i h1).1 h2
    exact ⟨p,hp,e⟩
  ·exact fun i hi=>by rw [Qad] at hi; exact ⟨(f1 i hi.1).1,hi.2⟩
  ·exact f2.filter _
  ·intro A' i B' e j hj
   rw [hb]
   rw [e] at pwA
   rw [Qci] at pwA
   have h1:=(Qbm.1 pwA.2.1).1 j hj
   have hi : i < ops.size:=by
    have : i ∈ A.map (·.1):=by rw [e]; simp
    obtain ⟨p,hp,rfl⟩:=Q6.1 this
    have:=(Qe.1 (inA p hp).2.2).1; omega
   exact up i j hi (by omega)
  ·intro A' i B' e j hj
   rw [hb]
   obtain ⟨A2,B2,e2,h3⟩:=filter_split e
   exact f4 A2 i B2 e2 j (h3 j hj)
 -- the others
 let listed : Array Bool:=(Array.range ops.size).map fun i=>W.getD i false
 have hls : listed.size = ops.size:=by simp [listed]
 have hlg : ∀ i,i < ops.size → listed.getD i true = W.getD i false:=fun i hi=>by
  simp [listed,Qi,hi]
 have lin1 : LinArr ops ops.size listed (L.filter fun i=>!W.getD i false) :=
  LinArr.rest (by simp) hls (fun j hj=>by rw [hlg j hj]; simp [Qi,hj]) lin0
 have memB : ∀ p ∈ MB,∃ p0 ∈ B,p0.1 = p.1∧p0.2.1 = p.2.1∧p0.2.2 = { p.2.2 with fz:=true }:=b3
 obtain ⟨c2,a2',w2,H3,t2,rl⟩:=lin2 (P:=P) (N:=N) (ops:=ops) (n:=ops.size) IH IHr (M:=MB) (fun p hp=>by
   obtain ⟨p0,hp0,e1,e2,e3⟩:=memB p hp
   obtain ⟨oo,hoo,hto⟩:=hat _ _ (inB p0 hp0).2
   exact ⟨oo,by rw [← e1]; exact hoo,by rw [← e3]; exact hto⟩) (fun p hp r hr hlt=>by
   obtain ⟨p0,hp0,e1,e2,e3⟩:=memB p hp
   obtain ⟨r0,hr0,d1,d2,d3⟩:=memB r hr
   rw [hb]
   rcases hok2 p0 (Qc0 _ hp0) r0 (Qc0 _ hr0) with (h | h) | h
   ·exact absurd (by rw [e1,d1]; exact hlt) h
   ·exact .inl (by rw [← e1,← d1]; exact h)
   ·rw [if_neg (by rw [(inB p0 hp0).1,(inB r0 hr0).1]; simp)] at h
    obtain ⟨pi,pq,po⟩:=p
    obtain ⟨ri,rq,ro⟩:=r
    obtain ⟨pi0,pq0,po0⟩:=p0
    obtain ⟨ri0,rq0,ro0⟩:=r0
    simp only at e1 e2 e3 d1 d2 d3
    subst e2; subst d2
    exact .inr (indep_fz e3 d3 h)) (m:=MB) hls lin1 (fun p hp=>hp) (by
   have:=pwB; rw [← b1,List.pairwise_map] at this; exact this) (fun i=>by
   constructor
   ·rintro ⟨hi,hf⟩
    rw [hlg i hi] at hf
    obtain ⟨p,hp,e⟩:=atB i hi hf
    have : i ∈ MB.map (·.1):=by rw [b1]; exact Q6.2 ⟨p,hp,e⟩
    obtain ⟨p2,hp2,e2⟩:=Q6.1 this
    exact ⟨p2.2,by rw [← e2]; exact hp2⟩
   ·rintro ⟨x,hx⟩
    obtain ⟨p0,hp0,e1,_⟩:=memB _ hx
    obtain ⟨k1,k2⟩:=inB p0 hp0
    simp only at e1
    have hi : i < ops.size:=by rw [← e1]; have:=(Qe.1 k2).1; omega
    refine ⟨hi,?_⟩
    rw [hlg i hi,← e1]; exact k1) hr2 H2 (by omega)
 have whole : RL P ops L a w.drew a2' w2:=by
  refine RL.merge (Wp:=fun i=>W.getD i false) (fun i hi=>?_) (fun A' i B' e hwi j hj hwj x y hx hy=>?_) ry2 rl
  ·have h1:=(f1 i hi).1
   exact ⟨ops[i],Qaa h1,fun cs bb=>Region.noSelect_spec hns i _ cs bb (Qaa h1)⟩
  ·have hiL : i ∈ L:=by rw [e]; simp
   have hjL : j ∈ L:=by rw [e]; simp [hj]
   have hi:=(f1 i hiL).1
   have hj2:=(f1 j hjL).1
   have hne : j ≠ i:=fun ee=>by
    subst ee
    rw [hwi] at hwj; cases hwj
   refine apart2 j i hj2 hi hne (.inl hwj) ?_ (f4 A' i B' e j hj) x y hx hy
   cases hbit : (bf.getD j 0).testBit i with
   | false=>rfl
   | true =>
     have:=closed j i hj2 hi hwj hbit
     rw [hwi] at this; cases this
 obtain ⟨z1,z2⟩:=whole.put_size
 refine ⟨c2,a2',w2,H3,(t0.trans t1).trans t2,z1,z2,fun k cs=>?_⟩
 have hsch : ∀ t,Region.schedule true ops t = Region.linearise.go .any ops ops.size t (Array.replicate ops.size false) []:=fun t=>by
  unfold Region.schedule Region.linearise; simp
 refine Steps.head stepR_region_draw ?_
 rw [hm,hsch,hL]
 exact (whole.steps k cs).trans (.one stepR_region_end)
/-! regions that are evaluated in every order -/
theorem lins_mem (b : Array Nat) : ∀ {L rem : List Nat},L.Perm rem → (∀ A i B,L = A++i::B → ∀ j ∈ B,(b.getD i 0).testBit j = false) → (∀ i ∈ L,(b.getD i 0).testBit i = false) → L ∈ lins b rem.length rem
 | [],rem,hp,_,_=>by
   have:=hp.length_eq
   rw [← this]; simp [lins]
 | i::L,rem,hp,h1,h2=>by
   have hlen:=hp.length_eq
   rw [← hlen]
   have hi : i ∈ rem:=hp.mem_iff.1 (by simp)
   have hpe : L.Perm (rem.erase i):=(hp.trans (List.perm_cons_erase hi)).cons_inv
   simp only [Q4,lins]
   refine Qc6.2 ⟨i,hi,?_⟩
   rw [if_pos]
   ·refine Q6.2 ⟨L,?_,rfl⟩
    have:=lins_mem b hpe (fun A k B e=>h1 (i::A) k B (by rw [e]; rfl)) (fun k hk=>h2 k (by simp [hk]))
    rwa [← hpe.length_eq] at this
   ·rw [Qj]
    intro j hj
    rcases Q7.1 (hp.mem_iff.2 hj) with rfl | hj
    ·rw [h2 j (by simp)]; rfl
    ·rw [h1 [] i L rfl j hj]; rfl
theorem nth_list (q : Chk) {l : List AOper} : ∀ {is : List Nat},(∀ i ∈ is,i < l.length) → ∃ M : List (Nat × (Chk × AOper)),M.map (·.1) = is∧M.map (·.2) = nthOps q l is ∧ ∀ p ∈ M,p.2.1 = q∧l[p.1]? = some p.2.2
 | [],_=>⟨[],rfl,rfl,by simp⟩
 | i::is,h=>by
   obtain ⟨M,h1,h2,h3⟩:=nth_list q (is:=is) fun j hj=>h j (by simp [hj])
   have hlt : i < l.length:=h i (by simp)
   have hi : l[i]? = some (l[i]'hlt):=Qf hlt
   refine ⟨(i,(q,l[i]'hlt))::M,by simp [h1],by simp [nthOps,h2,hi],fun p hp=>?_⟩
   rcases Q7.1 hp with rfl | hp
   ·exact ⟨rfl,hi⟩
   ·exact h3 p hp
theorem ph2 (IH : FnOK P R) (IHr : RndOK P R) : ∀ {m : List (Nat × (Chk × AOper))} {c : Cx} {a : Act} {w : World} {s : St},(∀ p ∈ m,∃ oo,ops[p.1]? = some oo∧toOper P N ops oo = some { p.2.2 with fz:=true }) →
  RD R (m.map (·.2)) s s2 → SR P c s a.tmps Ts w → N≤a.tmps.size → ∃ c' a' w',SR P c' s2 a'.tmps Ts w'∧Tr c w c' w'∧RL P ops (m.map (·.1)) a w a' w'
 | [],c,a,w,s,_,.nil h,H,hN=>⟨c,a,w,H.sim h,Tr.refl _ _,.nil a w⟩
 | (i,q,o)::m,c,a,w,s,hm,.cons h1 hx hr,H,hN=>by
   obtain ⟨oo,hoo,hto⟩:=hm (i,q,o) (by simp)
   obtain ⟨c1,a1,w1,H1,t1,d1,hs1⟩:=oper_do1 IH IHr hoo hto (H.sim h1) hN hx
   obtain ⟨c2,a2,w2,H2,t2,r2⟩:=ph2 IH IHr (fun p hp=>hm p (by simp [hp])) hr H1 (by omega)
   exact ⟨c2,a2,w2,H2,t1.trans t2,.cons d1 r2⟩
/-! a map made of its entries -/
theorem litPs_iff {ops : List AOper} {T : Env} {d : Nat} : ∀ {us : List Nat} {ps : List (List Nat × LV × LV)},litPs ops T d us = some ps ↔ us.map (fun u=>litOp T d ops[u]?) = ps.map some
 | [],ps=>by
   cases ps with
   | nil=>simp [litPs]
   | cons p ps=>simp [litPs]
 | u :: us,ps=>by
   simp only [litPs]
   cases hu : litOp T d ops[u]? with
   | none=>cases ps <;> simp [hu]
   | some p =>
     simp only [Q5]
     cases ps with
     | nil =>
       simp only [Qk,Q0,reduceCtorEq,iff_false]
       intro h
       obtain ⟨l,hl,h⟩:=Qa.1 h
       cases h
     | cons q qs =>
       rw [Qk,Qk,List.cons.injEq,hu,← litPs_iff]
       constructor
       ·intro h
        obtain ⟨l,hl,h⟩:=Qa.1 h
        cases h
        exact ⟨rfl,hl⟩
       ·rintro ⟨h1,h2⟩
        cases h1
        rw [h2]; rfl
theorem litPs_perm {ops : List AOper} {T : Env} {d : Nat} {us us' : List Nat} {ps : List (List Nat × LV × LV)} (hp : us'.Perm us) (h : litPs ops T d us = some ps) : ∃ ps',litPs ops T d us' = some ps'∧ps'.Perm ps:=by
 have h:=litPs_iff.1 h
 have h2 : (us'.map (fun u=>litOp T d ops[u]?)).Perm (ps.map some):=h ▸ hp.map _
 have h3:=h2.filterMap id
 have e : (ps.map some).filterMap id = ps:=by rw [List.filterMap_map]; simp
 rw [e] at h3
 refine ⟨_,litPs_iff.2 ?_,h3⟩
 have hall : ∀ x ∈ us'.map (fun u=>litOp T d ops[u]?),∃ y,x = some y:=fun x hx=>by
  obtain ⟨y,_,rfl⟩:=Q6.1 (h2.mem_iff.1 hx)
  exact ⟨y,rfl⟩
 generalize us'.map (fun u=>litOp T d ops[u]?) = m at hall
 clear h2 h3
 induction m with
 | nil=>rfl
 | cons x m ih =>
   obtain ⟨y,rfl⟩:=hall x (by simp)
   simp only [Qb9,id,Qk]
   rw [← ih fun z hz=>hall z (by simp [hz])]
def LitR (p q : List Nat × LV × LV) : Prop:=q.1 = p.1∧eqKey p.1 p.2.1 q.2.1 = some false∧eqKey p.1 q.2.1 p.2.1 = some false
theorem LitR.symm {p q : List Nat × LV × LV} (h : LitR p q) : LitR q p:=⟨h.1.symm,by rw [h.1]; exact h.2.2,by rw [h.1]; exact h.2.1⟩
theorem litOk_iff : ∀ {ps : List (List Nat × LV × LV)},litOk ps = true ↔ (∀ p ∈ ps,LV.closed p.2.1 = true∧LV.closed p.2.2 = true ∧ ∃ b,eqKey p.1 p.2.1 p.2.1 = some b)∧ps.Pairwise LitR
 | []=>by simp [litOk]
 | p::l=>by
   rw [litOk,Qbm]
   simp only [Qg,Qj,litOk_iff,Qcn,List.forall_mem_cons]
   have e : ∀ q,litApart p q = true ↔ LitR p q:=fun q=>by simp [litApart,LitR]
   simp only [e]
   constructor
   ·rintro ⟨⟨a,b⟩,c,d,f,g⟩
    exact ⟨⟨⟨a,b,c⟩,f⟩,d,g⟩
   ·rintro ⟨⟨⟨a,b,c⟩,f⟩,d,g⟩
    exact ⟨⟨a,b⟩,c,d,f,g⟩
theorem litOk_perm {ps ps' : List (List Nat × LV × LV)} (hp : ps'.Perm ps) (h : litOk ps = true) : litOk ps' = true:=by
 obtain ⟨h1,h2⟩:=litOk_iff.1 h
 exact litOk_iff.2 ⟨fun p hpp=>h1 p (hp.mem_iff.1 hpp),(hp.pairwise_iff fun h=>h.symm).2 h2⟩
theorem updE_new {ks : List Nat} {k v : LV} : ∀ {es : List (LV × LV)},(∀ e ∈ es,eqKey ks k e.1 = some false) → updE ks k v es = some (es++[(k,v)])
 | [],_=>rfl
 | (a,x)::l,h=>by
   have h1:=h (a,x) (by simp)
   simp only at h1
   show (eqKey ks k a).bind (updK k v a x l (updE ks k v l)) = _
   rw [h1,updE_new fun e he=>h e (by simp [he])]
   rfl
theorem lit_step {d : Nat} {s : St} {es : List (LV × LV)} {o : AOper} {ks : List Nat} {k v : LV} (ho : litOp (litS d s []).T d (some o) = some (ks,k,v)) (hk : LV.closed k = true) (hv : LV.closed v = true) (hkk : ∃ b,eqKey ks k k = some b)
  (hes : ∀ e ∈ es,eqKey ks k e.1 = some false) (rest : List (Chk × AOper)) : runD R ((.free,o)::rest) (litS d s es) = runD R rest (litS d s (es++[(k,v)])):=by
 unfold litOp at ho
 split at ho
 ·rename_i ks' e k' v' heq
  cases heq
  split at ho
  ·rename_i hed
   subst hed
   cases ho
   obtain ⟨b,hb⟩:=hkk
   have hT : (litS e s es).T = (litS e s []).T:=rfl
   have ht : (Opd.t e).ev (litS e s es).T = .mp (oid s.lvl e):=by
    show tget ((e,LV.mp (oid s.lvl e))::_) e = _
    simp [tget]
   have hst : stepOp R true 0 (.mpu ks (.t e) k' v') (litS e s es) = some (.undef,litS e s (es++[(k'.ev (litS e s []).T,v'.ev (litS e s []).T)])):=by
    show mpuV ks (k'.ev (litS e s es).T) (v'.ev (litS e s es).T) (litS e s es) ((Opd.t e).ev (litS e s es).T) = _
    rw [ht,hT]
    have hog : oget (litS e s es).O (oid s.lvl e) = some (.map es):=by
     show oget ((oid s.lvl e,Obj.map es)::_) _ = _
     simp [oget]
    show mpuO _ _ _ _ _ (oget (litS e s es).O (oid s.lvl e)) = _
    rw [hog]
    show (if _ then _ else _) = _
    rw [if_pos ⟨hk,hv⟩,hb]
    show (updE _ _ _ _).bind _ = _
    rw [updE_new hes]
    show okU _ = _
    have : oset (litS e s es).O (oid s.lvl e) (.map (es++[(k'.ev (litS e s []).T,v'.ev (litS e s []).T)])) = (litS e s (es++[(k'.ev (litS e s []).T,v'.ev (litS e s []).T)])).O:=by
     show oset ((oid s.lvl e,Obj.map es)::_) _ _ = _
     simp only [oset,if_true]
     rfl
    rw [this]
    rfl
   show ((wanted (litS e s es).T none).bind _) = _
   show (grdD R .free ⟨none,.mpu ks (.t e) k' v',none,true⟩ (runD R rest) (litS e s es) true) = _
   show ((((stepOp R true 0 (.mpu ks (.t e) k' v') (litS e s es)).bind (closeV true)).bind (putK (runD R rest) none))) = _
   rw [hst]
   rfl
  ·cases ho
 ·cases ho
theorem lit_run {d : Nat} {s : St} {l : List AOper} : ∀ {us : List Nat} {ps : List (List Nat × LV × LV)} {es : List (LV × LV)},litPs l (litS d s []).T d us = some ps → litOk ps = true → (∀ p ∈ ps,∀ e ∈ es,eqKey p.1 p.2.1 e.1 = some false) →
  runD R (nthOps .free l us) (litS d s es) = some (litS d s (es++ps.map (·.2)))
 | [],ps,es,h,_,_=>by
   have h : some [] = some ps:=h
   cases h
   simp [nthOps,runD]
 | u :: us,ps,es,h,hok,hes=>by
   simp only [litPs] at h
   obtain ⟨p,hp,h⟩:=Qa.1 h
   obtain ⟨q,hq,h⟩:=Qa.1 h
   cases h
   obtain ⟨ks,k,v⟩:=p
   cases ho : l[u]? with
   | none=>rw [ho] at hp; cases hp
   | some o =>
     rw [ho] at hp
     obtain ⟨h1,h2⟩:=litOk_iff.1 hok
     rw [Qbm] at h2
     obtain ⟨a1,a2,a3⟩:=h1 (ks,k,v) (by simp)
     have : nthOps .free l (u::us) = (.free,o)::nthOps .free l us:=by simp [nthOps,ho]
     rw [this,lit_step hp a1 a2 a3 (fun e he=>hes (ks,k,v) (by simp) e he),lit_run hq (litOk_iff.2 ⟨fun p hp=>h1 p (by simp [hp]),h2.2⟩) (fun p hp e he=>by
      rcases Qs.1 he with h | h
      ·exact hes p (by simp [hp]) e h
      ·rw [Qae] at h
       subst h
       have:=(h2.1 p hp)
       have h3:=this.2.2
       rw [← this.1] at h3
       exact h3)]
     simp
theorem lit_map {d : Nat} {es es' : List (LV × LV)} {tmps : Array Value} {w : World} {c : Cx} (hp : es'.Perm es) (H : SR P c (litS d s es') tmps Ts w) : SR P c (litS d s es) tmps Ts w:=by
 refine ⟨H.T,H.Fl,H.F,fun id o ho=>?_,fun id h hi=>?_,H.inj,H.mu,H.lt⟩
 ·have ho : oget ((oid s.lvl d,Obj.map es)::(St.free (oid s.lvl d) s).O) id = some o:=ho
  by_cases e : oid s.lvl d = id
  ·simp only [oget,if_pos e,Option.some.injEq] at ho
   subst ho
   obtain ⟨h,hi,hor⟩:=H.O id (.map es') (by
    show oget ((oid s.lvl d,Obj.map es')::(St.free (oid s.lvl d) s).O) id = _
    simp only [oget,if_pos e])
   refine ⟨h,hi,?_⟩
   cases hor with
   | map _ es0 en clock hn hw hl hv hm hp0 hd=>exact .map _ es0 en clock hn hw hl hv hm (hp0.trans hp) hd
  ·simp only [oget,if_neg e] at ho
   refine H.O id o ?_
   show oget ((oid s.lvl d,Obj.map es')::(St.free (oid s.lvl d) s).O) id = _
   simp only [oget,if_neg e]
   exact ho
 ·obtain ⟨o,ho⟩:=H.dom id h hi
  have ho : oget ((oid s.lvl d,Obj.map es')::(St.free (oid s.lvl d) s).O) id = some o:=ho
  by_cases e : oid s.lvl d = id
  ·refine ⟨.map es,?_⟩
   show oget ((oid s.lvl d,Obj.map es)::(St.free (oid s.lvl d) s).O) id = _
   simp only [oget,if_pos e]
  ·refine ⟨o,?_⟩
   show oget ((oid s.lvl d,Obj.map es)::(St.free (oid s.lvl d) s).O) id = _
   simp only [oget,if_neg e] at ho ⊢
   exact ho
theorem lit_perm {bf : Array Nat} {l : List AOper} {s1 : St} {B L : List Nat} (hhd : headB bf B = true) (h : litR l s1 B = some s2) (hp : L.Perm B) (hord : ∀ A i B',L = A++i::B' → ∀ j ∈ B',(bf.getD i 0).testBit j = false) :
  ∃ s4,runD R (nthOps .free l L) s1 = some s4 ∧ ∀ {c : Cx} {tmps : Array Value} {w : World},SR P c s4 tmps Ts w → SR P c s2 tmps Ts w:=by
 cases B with
 | nil=>cases h
 | cons m us =>
   have hmem : m ∈ L:=hp.mem_iff.2 (by simp)
   have hL : ∃ us',L = m::us'∧us'.Perm us:=by
    cases L with
    | nil=>cases hmem
    | cons x us' =>
      by_cases e : x = m
      ·subst e; exact ⟨us',rfl,(List.perm_cons _).1 hp⟩
      ·exfalso
       have hx : x ∈ us:=by
        have:=hp.mem_iff.1 (List.mem_cons_self (a:=x) (l:=us'))
        rcases Q7.1 this with h | h
        ·exact absurd h e
        ·exact h
       have hm2 : m ∈ us':=by
        rcases Q7.1 hmem with h | h
        ·exact absurd h.symm e
        ·exact h
       have h1:=hord [] x us' rfl m hm2
       have h2:=Qj.1 hhd x hx
       rw [h1] at h2; cases h2
   obtain ⟨us',rfl,hp'⟩:=hL
   have h : litM l s1 us l[m]? = some s2:=h
   unfold litM at h
   split at h
   ·rename_i d heq
    obtain ⟨ps,hps,h⟩:=Qa.1 h
    unfold litK at h
    split at h
    ·rename_i hok
     cases h
     obtain ⟨ps',hps',hpp⟩:=litPs_perm hp' hps
     refine ⟨litS d s1 (ps'.map (·.2)),?_,fun H=>lit_map (hpp.map _) H⟩
     have : nthOps .free l (m::us') = (.free,⟨some d,.mkm,none,true⟩)::nthOps .free l us':=by simp [nthOps,heq]
     rw [this]
     have:=lit_run (R:=R) (es:=[]) hps' (litOk_perm hpp hok) (fun p _ e he=>by cases he)
     rw [Qw] at this
     rw [← this]
     rfl
    ·cases h
   ·cases h
theorem RL.append {A B : List Nat} {a a1 a2 : Act} {w w1 w2 : World} (h : RL P ops A a w a1 w1) (k : RL P ops B a1 w1 a2 w2) : RL P ops (A++B) a w a2 w2:=by
 induction h with
 | nil=>exact k
 | cons h1 _ ih=>exact .cons h1 (ih k)
theorem tail_split {bf : Array Nat} : ∀ {t b L : List Nat},tailB bf b t = true → L.Nodup → L.Perm (b++t) → (∀ A i B',L = A++i::B' → ∀ j ∈ B',(bf.getD i 0).testBit j = false) → ∃ L1,L = L1++t∧L1.Perm b
 | [],b,L,_,_,hp,_=>⟨L,by simp,by simpa using hp⟩
 | x::r,b,L,h,hn,hp,ho=>by
   simp only [tailB,Qg,Qj] at h
   obtain ⟨L1,rfl,hp1⟩:=tail_split (b:=b++[x]) h.2 hn (by simpa using hp) ho
   have hx : x ∈ L1:=hp1.mem_iff.2 (by simp)
   obtain ⟨A,B',rfl⟩:=Qdf hx
   have hB : B' = []:=by
    cases B' with
    | nil=>rfl
    | cons j B' =>
      exfalso
      have h1:=ho A x (j::B'++r) (by simp) j (by simp)
      have hj : j ∈ b++[x]:=hp1.mem_iff.1 (by simp)
      rcases Qs.1 hj with h2 | h2
      ·rw [h.1 j h2] at h1; cases h1
      ·rw [Qae] at h2
       subst h2
       rw [Qar] at hn
       have:=(List.nodup_append.1 hn).2.1
       simp at this
   subst hB
   exact ⟨A,by simp,(List.perm_append_right_iff [x]).1 hp1⟩
theorem draw_lit (hm : P.follows .mixedOrders = true) (IH : FnOK P R) (IHr : RndOK P R) {W : List Bool} {l l' : List AOper} {id : Nat} {c : Cx} {a : Act} {w : World} {b : Frame} {bb tt : List Nat} (hrun : runQ R l s (some [.lit (altA ops.size W) bb tt]) = some s2) (hl' : ops.toList.mapM (toOper P N ops) = some l') (hok : okA2 ops (Region.before ops) W l' = true) (hsp : bb++tt = altB ops.size W) (hhd : headB (Region.before ops) bb = true) (htl : tailB (Region.before ops) bb tt = true)
  (hl : l' = l.map fun o=>{ o with fz:=true }) (H : SR P c s a.tmps Ts w) (hN : N≤a.tmps.size) :
  ∃ c' a' w',SR P c' s2 a'.tmps Ts w'∧Tr c w c' w'∧a'.tmps.size = a.tmps.size∧a'.defers = a.defers ∧ ∀ k cs,Steps P (lone (b.atR a (.code (.region id ops true)::k)) cs w) (lone (b.atR a' k) cs w'):=by
 obtain ⟨hlen,hat⟩:=mapM_at hl'
 have hll : l.length = ops.size:=by rw [← hlen,hl,Qb]
 unfold okA2 at hok
 simp only [Qg,Qj,Qq,Qau,Qam,decide_eq_true_eq,decide_eq_false_iff_not] at hok
 obtain ⟨⟨hns,hok1⟩,hok2⟩:=hok
 generalize hb : Region.before ops = bf at *
 have hto : ∀ (i : Nat) (o : AOper),l[i]? = some o → ∃ oo,ops[i]? = some oo∧toOper P N ops oo = some { o with fz:=true }:=fun i o ho=>hat i _ (by rw [hl,Qan,ho]; rfl)
 have up : ∀ i j,i < ops.size → i≤j → (bf.getD i 0).testBit j = false:=fun i j hi hij=>by
  refine Qcw (Qaf (hok1 i hi).1 (Qc4 (by omega) hij))
 have closed : ∀ i j,i < ops.size → j < ops.size → W.getD i false = true → (bf.getD i 0).testBit j = true → W.getD j false = true:=fun i j hi hj hw hbit=>by
  rcases (hok1 i hi).2 with h | h
  ·rw [hw] at h; cases h
  ·rcases h.2 j hj with h2 | h2
   ·rw [hbit] at h2; cases h2
   ·exact h2
 have apart1 : ∀ i j,i < ops.size → j < ops.size → i < j → (W.getD i false = true ∨ W.getD j false = true) → (bf.getD j 0).testBit i = false → ∀ x y,ops[i]? = some x → ops[j]? = some y → ApartP ops x y:=fun i j hi hj hij hw hbit x y hx hy=>by
  rcases hok2 i hi j hj with ((h | h) | h) | h
  ·exact absurd hij h
  ·rw [hbit] at h; cases h
  ·rw [Qba] at h
   rcases hw with k | k
   ·rw [k] at h; cases h.1
   ·rw [k] at h; cases h.2
  ·unfold apartAt at h
   rw [hx,hy] at h
   exact Oper.apart_spec h
 have apart2 : ∀ i j,i < ops.size → j < ops.size → i ≠ j → (W.getD i false = true ∨ W.getD j false = true) → (bf.getD i 0).testBit j = false → (bf.getD j 0).testBit i = false → ∀ x y,ops[i]? = some x → ops[j]? = some y → ApartP ops x y:=fun i j hi hj hne hw h1 h2 x y hx hy=>by
  rcases Nat.lt_or_gt_of_ne hne with h | h
  ·exact apart1 i j hi hj h hw h2 x y hx hy
  ·exact (apart1 j i hj hi h hw.symm h1 y x hy hx).symm
 -- the evaluation
 obtain ⟨c0,H0,t0⟩:=end_ok H none (dsts l)
 obtain ⟨H1,t1⟩:=H0.grew (Grew.drew w)
 have H1 : SR P c0 (dropK (dsts l) s) a.tmps Ts w.drew:=H1
 simp only [runQ] at hrun
 obtain ⟨s1,hr1,hr2⟩:=Qa.1 hrun
 have ltA : ∀ i ∈ altA ops.size W,i < l.length:=fun i hi=>by
  unfold altA at hi
  rw [Qad,Qq] at hi
  omega
 obtain ⟨MA,a1,a2,a3⟩:=nth_list .loc ltA
 obtain ⟨a1',H2,ry,hsz1⟩:=ph1 (P:=P) (N:=N) (ops:=ops) (m:=MA) (fun p hp=>by
  obtain ⟨k1,k2⟩:=a3 p hp
  obtain ⟨oo,hoo,htt⟩:=hto _ _ k2
  refine ⟨k1,?_,oo,hoo,htt⟩
  have hpA : p.1 ∈ altA ops.size W:=by rw [← a1]; exact Q6.2 ⟨p,hp,rfl⟩
  unfold altA at hpA
  rw [Qad,Qq] at hpA
  rcases (hok1 p.1 hpA.1).2 with h | h
  ·rw [hpA.2] at h; cases h
  ·have h:=h.1
   have e : l'[p.1]? = some { p.2.2 with fz:=true }:=by rw [hl,Qan,k2]; rfl
   rw [e] at h; exact h) (by rw [a2]; exact RD.of_run hr1) H1 hN
 rw [a1] at ry
 have lin0:=go_lin (ops:=ops) (n:=ops.size) rfl (by rw [hb]; exact fun i hi=>(hok1 i hi).1) ops.size (w.tape w.drawn (.order b.fn id)) (Array.replicate ops.size false) (by simp) (fun i hi=>by
   simp only [Qi] at hi
   by_cases h : i < ops.size <;> simp [h] at hi) (by
   unfold unl
   have:=Qbv (fun i=>(Array.replicate ops.size false).getD i true == false) (List.range ops.size)
   rw [Qx] at this; omega)
 generalize hL : Region.linearise.go .any ops ops.size (w.tape w.drawn (.order b.fn id)) (Array.replicate ops.size false) [] = L at lin0
 obtain ⟨f1,f2,f3,f4⟩:=lin0.facts (by simp)
 rw [hb] at f4
 have f5 : ∀ i,i < ops.size → i ∈ L:=fun i hi=>f3 i hi (by simp [Qi,hi])
 -- what goes first, in the machine's order
 have ry2 : RY P ops (L.filter fun i=>W.getD i false) a a1':=by
  refine RY.perm (Q:=fun i=>i < ops.size∧W.getD i false = true) (fun i j x y hi hj hne h1 h2 hx hy=>?_) ?_ ?_ ?_ ?_ ?_ ry
  ·rw [hb] at h1 h2
   exact apart2 i j hi.1 hj.1 hne (.inl hi.2) h1 h2 x y hx hy
  ·refine (List.perm_ext_iff_of_nodup (List.nodup_range.filter _) (f2.filter _)).2 fun i=>?_
   rw [Qad,Qad,Qq]
   exact ⟨fun h=>⟨f5 i h.1,h.2⟩,fun h=>⟨(f1 i h.1).1,h.2⟩⟩
  ·exact fun i hi=>by rw [Qad] at hi; exact ⟨(f1 i hi.1).1,hi.2⟩
  ·exact f2.filter _
  ·intro A' i B' e j hj
   rw [hb]
   have pwA : (altA ops.size W).Pairwise (· < ·):=List.pairwise_lt_range.filter _
   have hi : i ∈ altA ops.size W:=by rw [e]; simp
   rw [e] at pwA
   rw [Qci] at pwA
   have h1:=(Qbm.1 pwA.2.1).1 j hj
   exact up i j (by have:=ltA i hi; omega) (by omega)
  ·intro A' i B' e j hj
   rw [hb]
   obtain ⟨A2,B2,e2,h3⟩:=filter_split e
   exact f4 A2 i B2 e2 j (h3 j hj)
 -- the others
 have permB : (L.filter fun i=>!W.getD i false).Perm (altB ops.size W):=by
  refine (List.perm_ext_iff_of_nodup (f2.filter _) (List.nodup_range.filter _)).2 fun i=>?_
  rw [Qad,Qad,Qq]
  exact ⟨fun h=>⟨(f1 i h.1).1,h.2⟩,fun h=>⟨f5 i h.1,h.2⟩⟩
 have ordB : ∀ A' i B',(L.filter fun i=>!W.getD i false) = A'++i::B' → ∀ j ∈ B',(bf.getD i 0).testBit j = false:=fun A' i B' e j hj=>by
  obtain ⟨A2,B2,e2,h3⟩:=filter_split e
  exact f4 A2 i B2 e2 j (h3 j hj)
 rw [← hsp] at permB
 obtain ⟨L1,hL1,hp1⟩:=tail_split htl (f2.filter _) permB ordB
 obtain ⟨s3,hr2,hr5⟩:=Qa.1 hr2
 obtain ⟨s4,hr4,hs4⟩:=lit_perm (R:=R) hhd hr2 hp1 fun A' i B' e j hj=>ordB A' i (B'++tt) (by rw [hL1,e]; simp) j (by simp [hj])
 have memL : ∀ i ∈ L1++tt,i < l.length:=fun i hi=>by
  rw [← hL1,Qad] at hi
  have:=(f1 i hi.1).1; omega
 obtain ⟨MB,b1,b2,b3⟩:=nth_list (l:=l) .free (is:=L1) fun i hi=>memL i (by simp [hi])
 obtain ⟨c2,a2,w2,H3,t2,rl1⟩:=ph2 (P:=P) (N:=N) (ops:=ops) IH IHr (m:=MB) (fun p hp=>hto _ _ (b3 p hp).2) (by rw [b2]; exact RD.of_run hr4) H2 (by omega)
 rw [b1] at rl1
 have H4:=hs4 H3
 have hsz2:=rl1.put_size.1
 obtain ⟨MC,d1,d2,d3⟩:=nth_list (l:=l) .free (is:=tt) fun i hi=>memL i (by simp [hi])
 obtain ⟨c3,a2',w3,H5,t3,rl2⟩:=ph2 (P:=P) (N:=N) (ops:=ops) IH IHr (m:=MC) (fun p hp=>hto _ _ (d3 p hp).2) (by rw [d2]; exact RD.of_run hr5) H4 (by omega)
 rw [d1] at rl2
 have rl:=RL.append rl1 rl2
 rw [← hL1] at rl
 have whole : RL P ops L a w.drew a2' w3:=by
  refine RL.merge (Wp:=fun i=>W.getD i false) (fun i hi=>?_) (fun A' i B' e hwi j hj hwj x y hx hy=>?_) ry2 rl
  ·have h1:=(f1 i hi).1
   exact ⟨ops[i],Qaa h1,fun cs bb=>Region.noSelect_spec hns i _ cs bb (Qaa h1)⟩
  ·have hiL : i ∈ L:=by rw [e]; simp
   have hjL : j ∈ L:=by rw [e]; simp [hj]
   have hi:=(f1 i hiL).1
   have hj2:=(f1 j hjL).1
   have hne : j ≠ i:=fun ee=>by
    subst ee
    rw [hwi] at hwj; cases hwj
   refine apart2 j i hj2 hi hne (.inl hwj) ?_ (f4 A' i B' e j hj) x y hx hy
   cases hbit : (bf.getD j 0).testBit i with
   | false=>rfl
   | true =>
     have:=closed j i hj2 hi hwj hbit
     rw [hwi] at this; cases this
 obtain ⟨z1,z2⟩:=whole.put_size
 refine ⟨c3,a2',w3,H5,((t0.trans t1).trans t2).trans t3,z1,z2,fun k cs=>?_⟩
 have hsch : ∀ t,Region.schedule true ops t = Region.linearise.go .any ops ops.size t (Array.replicate ops.size false) []:=fun t=>by
  unfold Region.schedule Region.linearise; simp
 refine Steps.head stepR_region_draw ?_
 rw [hm,hsch,hL]
 exact (whole.steps k cs).trans (.one stepR_region_end)
theorem runQ_ne {l : List AOper} {q : List Chk} (h : ∀ x ∈ q,(∀ w ps,x ≠ .alt w ps) ∧ ∀ w b t,x ≠ .lit w b t) : runQ R l s (some q) = runD R (q.zip l) (dropK (dsts l) s):=by
 rcases q with _ | ⟨x,_ | ⟨y,q⟩⟩
 ·rfl
 ·cases x
  case alt w ps=>exact absurd rfl ((h _ (by simp)).1 w ps)
  case lit w b t=>exact absurd rfl ((h _ (by simp)).2 w b t)
  all_goals rfl
 ·cases x <;> rfl
theorem chkOf_ne (b : Array Nat) (l : List (AOper × Nat)) (o : AOper) (i : Nat) (w : List Nat) (ps : List (List Nat)) : chkOf b l o i ≠ .alt w ps:=by
 unfold chkOf
 dsimp only
 split <;> intro h <;> cases h
theorem chkOf_nl (b : Array Nat) (l : List (AOper × Nat)) (o : AOper) (i : Nat) (w ps t : List Nat) : chkOf b l o i ≠ .lit w ps t:=by
 unfold chkOf
 dsimp only
 split <;> intro h <;> cases h
theorem draw_ok (hm : P.follows .mixedOrders = true) (IH : FnOK P R) (IHr : RndOK P R) : DrawOK P R:=by
 intro q l s s2 hrun N id ops draw hreg c a Ts w b H hN
 unfold toReg at hreg
 split at hreg
 ·cases hreg
 ·rename_i l' hl'
  split at hreg
  ·rename_i hdr
   dsimp only at hreg
   split at hreg
   ·rename_i huse
    have hdraw : draw = true:=hdr
    subst hdraw
    simp only [Option.some.injEq,ACode.reg.injEq,and_true] at hreg
    rw [runQ_ne fun x hx=>by
     rw [← hreg.1] at hx
     obtain ⟨p,hp,rfl⟩:=Q6.1 hx
     unfold regW permW at hp
     rcases Qs.1 hp with h | h
     ·obtain ⟨r,_,rfl⟩:=Q6.1 h
      exact ⟨fun w ps e=>(by cases e),fun w ps t e=>(by cases e)⟩
     ·obtain ⟨r,_,rfl⟩:=Q6.1 h
      exact ⟨chkOf_ne _ _ _ _,chkOf_nl _ _ _ _⟩] at hrun
    exact draw_perm hm IH IHr hrun hl' huse hreg.1 hreg.2 H hN
   split at hreg
   ·rename_i hok
    have hok:=hok.2
    simp only [Option.some.injEq,ACode.reg.injEq,and_true] at hreg
    obtain ⟨hq,hl⟩:=hreg
    rw [runQ_ne fun x hx=>by
     rw [← hq] at hx
     obtain ⟨p,hp,rfl⟩:=Q6.1 hx
     exact ⟨chkOf_ne _ _ _ _,chkOf_nl _ _ _ _⟩] at hrun
    have hdraw : draw = true:=hdr
    subst hdraw
    rw [hl] at hl'
    have hcorr:=corr_range hl'
    have hsz : ops.size = l.length:=by have:=corr_len hcorr; simpa using this
    have hql : q.length = l.length:=by rw [← hq,hl]; simp
    have S : Sched P N l.length ops (q.zip l):=by
     rw [hq] at hok
     unfold regOk at hok
     simp only [Qg,Qj,Qau,Qam,decide_eq_true_eq,decide_eq_false_iff_not] at hok
     obtain ⟨ok1,ok2⟩:=hok
     have hz : ∀ (i : Nat) (x : Chk × AOper),(q.zip l)[i]? = some x → (((x.1,{ x.2 with fz:=true }),i) : (Chk × AOper) × Nat) ∈ (q.zip l').zipIdx:=fun i x hx=>by
      rw [Qb6]
      rw [Qcf] at hx
      show (q.zip l')[i]? = some (x.1,{ x.2 with fz:=true })
      rw [Qcf]
      exact ⟨hx.1,by rw [hl,Qan,hx.2]; rfl⟩
     refine ⟨hsz,by simp [hql],fun i x hx=>?_,fun i hi=>?_,fun i j x y hx hy hij=>?_⟩
     ·rw [Qcf] at hx
      exact corr_get hcorr hx.2
     ·have hx : (q.zip l)[i]? = some ((q.zip l)[i]'(by simp [hql]; exact hi)):=Qf _
      exact ok1 _ (hz i _ hx)
     ·rcases ok2 _ (hz i x hx) _ (hz j y hy) with (h | h) | h
      ·exact absurd hij h
      ·exact .inl h
      ·exact .inr h
    obtain ⟨c0,H0,t0⟩:=end_ok H none (dsts l)
    obtain ⟨H1,t1⟩:=H0.grew (Grew.drew w)
    have H1 : SR P c0 (dropK (dsts l) s) a.tmps Ts w.drew:=H1
    have hr : RD R (rem (q.zip l) l.length (Array.replicate ops.size false)) (dropK (dsts l) s) s2:=by
     have e : rem (q.zip l) l.length (Array.replicate ops.size false) = q.zip l:=by
      refine Qc2 fun i=>?_
      have hrem : rem (q.zip l) l.length (Array.replicate ops.size false) = (List.range l.length).filterMap fun i=>(q.zip l)[i]? :=
       fm_congr fun i hi=>by
        unfold remF
        rw [if_neg]
        have:=Qq.1 hi
        simp [Qi,hsz,this]
      rw [hrem]
      have hall : ∀ {α : Type} (m : List α) (k : Nat),m.length = k → (List.range k).filterMap (fun i=>m[i]?) = m:=by
       intro α m
       induction m with
       | nil=>intro k hk; simp at hk; subst hk; rfl
       | cons x m ih =>
         intro k hk
         cases k with
         | zero=>simp at hk
         | succ k =>
           rw [List.range_succ_eq_map,Qb9,List.filterMap_map]
           simp only [List.getElem?_cons_zero,Function.comp_def,Qcs]
           rw [ih k (by simpa using hk)]
      rw [hall (q.zip l) l.length (by simp [hql])]
     rw [e]; exact RD.of_run hrun
    obtain ⟨c2,a2,w2,H2,t2,hs2,hd2,st2⟩:=lin_ok IH IHr S (b:=b) ops.size (w.tape w.drawn (.order b.fn id)) (Array.replicate ops.size false) (by simp [hsz]) (fun i hi=>by
     simp only [Qi] at hi
     by_cases h : i < ops.size
     ·simp [h] at hi
     ·simp [h] at hi) (by
     unfold unl
     have:=Qbv (fun i=>(Array.replicate ops.size false).getD i true == false) (List.range l.length)
     rw [Qx] at this; omega) hr H1 hN
    refine ⟨c2,a2,w2,H2,(t0.trans t1).trans t2,hs2,hd2,fun k cs=>?_⟩
    have hsch : ∀ t,Region.schedule true ops t = Region.linearise.go .any ops ops.size t (Array.replicate ops.size false) []:=fun t=>by
     unfold Region.schedule Region.linearise; simp
    refine Steps.head stepR_region_draw ?_
    rw [hm,hsch]
    exact (st2 k cs).trans (.one stepR_region_end)
   ·split at hreg
    ·rename_i huse
     have hdraw : draw = true:=hdr
     subst hdraw
     simp only [Option.some.injEq,ACode.reg.injEq,and_true] at hreg
     obtain ⟨hq,hl⟩:=hreg
     subst hq
     unfold useA at huse
     simp only [Qg] at huse
     cases hrun
    ·split at hreg
     ·rename_i huse
      have hdraw : draw = true:=hdr
      subst hdraw
      simp only [Option.some.injEq,ACode.reg.injEq,and_true] at hreg
      obtain ⟨hq,hl⟩:=hreg
      subst hq
      unfold useL at huse
      simp only [Qg] at huse
      exact draw_lit hm IH IHr hrun hl' huse.1 (Qcz _ _) huse.2.1 huse.2.2 hl H hN
     ·cases hreg
  ·cases hreg

theorem Run_sound (hm : P.follows .mixedOrders = true) {E : FuncId → Option AFn} (hE : EOK P E) : FnOK P (Run E):=Run_ok hE fun R h1 h2=>draw_ok hm h1 h2
#print axioms Run_sound
end
end Go.Zv
