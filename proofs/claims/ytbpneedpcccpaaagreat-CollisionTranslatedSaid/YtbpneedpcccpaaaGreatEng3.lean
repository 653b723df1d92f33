/- Part of the proof: the evaluation of the program's code and its tie to the machine, or what functions of the program compute over it. -/
import Derived.Test.YtbpneedpcccpaaaGreatEng2
import Derived.Laws.AppendOwn
import Derived.RangeFuncIn
set_option autoImplicit false
set_option maxRecDepth 100000
set_option maxHeartbeats 4000000
set_option linter.unusedSimpArgs false
set_option linter.unusedVariables false
/- The engine, part 13: the operations that make memory or write it. -/
namespace Go.Zv
section
variable {P : Program} {c : Cx} {w : World} {s : St} {tmps : Array Value} {Ts : List (Array Value)}

def Does (P : Program) (c : Cx) (tmps : Array Value) (Ts : List (Array Value)) (w : World) (m : Sem Value) (v : LV) (s' : St) : Prop :=
 ∃ u w' c',m.run P w = .ok u w'∧SR P c' s' tmps Ts w'∧Tr c w c' w'∧VR c' v u

mutual
theorem apart_sub {r : Rep} {id : Nat} : ∀ (v : LV),LV.apart id v = true → LV.sub r id v = v
 | .agg cs,h=>by simp only [LV.apart] at h; simp only [LV.sub,aparts_subs cs h]
 | .tup cs,h=>by simp only [LV.apart] at h; simp only [LV.sub,aparts_subs cs h]
 | .fn f a b,h=>by simp only [LV.apart,Qg] at h; simp only [LV.sub,aparts_subs a h.1,aparts_subs b h.2]
 | .bs i o l,h=>by simp only [LV.apart,bne_iff_ne,ne_eq] at h; simp [LV.sub,h]
 | .bb i o st l,h=>by simp only [LV.apart,bne_iff_ne,ne_eq] at h; simp [LV.sub,h]
 | .ptr i o,h=>by simp only [LV.apart,bne_iff_ne,ne_eq] at h; simp [LV.sub,h]
 | .ep i j o,h=>by simp only [LV.apart,bne_iff_ne,ne_eq] at h; simp [LV.sub,h]
 | .mp i,h=>by simp only [LV.apart,bne_iff_ne,ne_eq] at h; simp [LV.sub,h]
 | .yl i,h=>by simp only [LV.apart,bne_iff_ne,ne_eq] at h; simp [LV.sub,h]
 | .any,_=>rfl
 | .undef,_=>rfl
 | .int ..,_=>rfl
 | .bool _,_=>rfl
 | .str _,_=>rfl
 | .vs _,_=>rfl
 | .os ..,_=>rfl
 | .nils _,_=>rfl
 | .nul,_=>rfl
 | .emp,_=>rfl
 | .fp _,_=>rfl
 | .nilp,_=>rfl
 | .nilf,_=>rfl
 | .om _,_=>rfl
 | .nilm,_=>rfl
theorem aparts_subs {r : Rep} {id : Nat} : ∀ (l : List LV),LV.aparts id l = true → LV.subs r id l = l
 | [],_=>rfl
 | v::l,h=>by
   simp only [LV.aparts,Qg] at h
   simp only [LV.subs,apart_sub v h.1,aparts_subs l h.2]
end
theorem aparts_at {id : Nat} : ∀ {l : List LV},LV.aparts id l = true → ∀ v ∈ l,LV.apart id v = true
 | [],_,v,hv=>by cases hv
 | u::l,h,v,hv=>by
   simp only [LV.aparts,Qg] at h
   cases hv with
   | head=>exact h.1
   | tail _ hv=>exact aparts_at h.2 v hv
theorem VR.apart {c' : Cx} {id : Nat} {v : LV} {u : Value} (h : VR c v u) (ha : LV.apart id v = true) (hmu : ∀ b o x,c.mu b o = some x → c'.mu b o = some x) (hio : ∀ j hh,j ≠ id → c.io j = some hh → c'.io j = some hh) : VR c' v u:=by
 have g : Goes_ c c' id .kill:=⟨hmu,hio,fun xs h=>by cases h⟩
 have:=h.sub g
 rwa [apart_sub v ha] at this
theorem VRs.apart {c' : Cx} {id : Nat} {l : List LV} {us : List Value} (h : VRs c l us) (ha : LV.aparts id l = true) (hmu : ∀ b o x,c.mu b o = some x → c'.mu b o = some x) (hio : ∀ j hh,j ≠ id → c.io j = some hh → c'.io j = some hh) : VRs c' l us :=
 ⟨h.len,fun i x v hx hv=>(h.at_ i x v hx hv).apart (aparts_at ha x (Qd hx)) hmu hio⟩

theorem nilRow (H : SR P c s tmps Ts w) (id st : Nat) (q : Option Addr) :
  ∃ c',SR P c' (St.new id (.row st []) s) tmps Ts w∧Tr c w c' w∧VR c' (.bs id 0 0) (.slice q 0 0)∧(∀ j hh,j ≠ id → c.io j = some hh → c'.io j = some hh):=by
 obtain ⟨c',h1,h2,h3,h4⟩:=H.new (w':=w) id (o:=.row st []) (h:=⟨0,0,st,0,true,q,by simp⟩) (Grew.refl w) (by simp) (fun c' _ _ _ =>
  OR.row [] (fun _ _=>undef) (by simp) (by simp) (Qcj _) (fun _=>rfl) (by simp) (by simp))
 exact ⟨c',h1,h2,.bs id 0 0 _ q 0 (Q8 _) h3 (fun _=>⟨by simp [Home.addr],rfl⟩) (by simp) (fun h=>absurd rfl h),h4⟩

theorem rowsOf_ok : ∀ {l all : List LV} {id : Nat} {c : Cx} {s : St} {vs : List Value} {l' : List LV} {s' : St},SR P c s tmps Ts w → VRs c l vs → (∀ x ∈ l,x ∈ all) → rowsOf all id l s = some (l',s') →
  ∃ c',SR P c' s' tmps Ts w∧Tr c w c' w∧VRs c' l' vs∧(∀ x ∈ all,∀ u,VR c x u → VR c' x u)∧(∀ j hh,j < id → c.io j = some hh → c'.io j = some hh)
 | [],all,id,c,s,vs,l',s',H,hl,_,h=>by
   simp only [rowsOf,Option.some.injEq,Prod.mk.injEq] at h
   obtain ⟨rfl,rfl⟩:=h
   exact ⟨c,H,Tr.refl _ _,hl,fun _ _ _ h=>h,fun _ _ _ h=>h⟩
 | v::l,all,id,c,s,[],l',s',H,hl,_,h=>by have:=hl.len; simp at this
 | v :: l,all,id,c,s,u::vs,l',s',H,hl,hsub,h=>by
   simp only [rowsOf] at h
   split at h
   ·rename_i hn
    split at h
    ·rename_i hap
     obtain ⟨r,hr,h⟩:=Qc.1 h
     obtain ⟨l2,s2⟩:=r
     simp only [consC,Prod.mk.injEq] at h
     obtain ⟨rfl,rfl⟩:=h
     have hv : ∃ q,u = .slice q 0 0:=by
      have:=hl.head
      cases v <;> simp [isNils] at hn
      cases this; exact ⟨_,rfl⟩
     obtain ⟨q,rfl⟩:=hv
     obtain ⟨c1,H1,t1,hv1,hio1⟩:=nilRow H id (nilSt v) q
     have tr : ∀ x ∈ all,∀ u,VR c x u → VR c1 x u:=fun x hx u hu=>hu.apart (aparts_at hap x hx) t1.mu hio1
     have hl1 : VRs c1 l vs:=⟨hl.tail.len,fun i x y hx hy=>tr x (hsub x (Qbo _ (Qd hx))) y (hl.tail.at_ i x y hx hy)⟩
     obtain ⟨c2,H2,t2,hl2,ha2,hio2⟩:=rowsOf_ok H1 hl1 (fun x hx=>hsub x (Qbo _ hx)) hr
     refine ⟨c2,H2,t1.trans t2,VRs.cons ?_ hl2,fun x hx u hu=>ha2 x hx u (tr x hx u hu),fun j hh hj hjj=>hio2 j hh (by omega) (hio1 j hh (by omega) hjj)⟩
     cases hv1 with
     | bs _ _ _ hh _ _ hcap hi h0 h1 h2=>exact .bs _ _ _ hh _ _ hcap (hio2 _ _ (by omega) hi) h0 h1 h2
    ·cases h
   ·obtain ⟨r,hr,h⟩:=Qc.1 h
    obtain ⟨l2,s2⟩:=r
    simp only [consC,Prod.mk.injEq] at h
    obtain ⟨rfl,rfl⟩:=h
    obtain ⟨c2,H2,t2,hl2,ha2,hio2⟩:=rowsOf_ok H hl.tail (fun x hx=>hsub x (Qbo _ hx)) hr
    exact ⟨c2,H2,t2,VRs.cons (ha2 v (hsub v (by simp)) u hl.head) hl2,ha2,fun j hh hj hjj=>hio2 j hh (by omega) hjj⟩

theorem rowsOf_one : ∀ {l all : List LV} {id : Nat} {s : St} {l' : List LV} {s' : St},rowsOf all id l s = some (l',s') → l.all LV.one = true → l'.all LV.one = true∧l'.length = l.length
 | [],all,id,s,l',s',h,_=>by
   simp only [rowsOf,Option.some.injEq,Prod.mk.injEq] at h
   obtain ⟨rfl,rfl⟩:=h; simp
 | v :: l,all,id,s,l',s',h,ho=>by
   simp only [Qb1,Qg] at ho
   simp only [rowsOf] at h
   split at h
   ·split at h
    ·obtain ⟨r,hr,h⟩:=Qc.1 h
     obtain ⟨l2,s2⟩:=r
     simp only [consC,Prod.mk.injEq] at h
     obtain ⟨rfl,rfl⟩:=h
     obtain ⟨h1,h2⟩:=rowsOf_one hr ho.2
     exact ⟨by simp only [Qb1,Qg]; exact ⟨rfl,h1⟩,by simp [h2]⟩
    ·cases h
   ·obtain ⟨r,hr,h⟩:=Qc.1 h
    obtain ⟨l2,s2⟩:=r
    simp only [consC,Prod.mk.injEq] at h
    obtain ⟨rfl,rfl⟩:=h
    obtain ⟨h1,h2⟩:=rowsOf_one hr ho.2
    exact ⟨by simp only [Qb1,Qg]; exact ⟨ho.1,h1⟩,by simp [h2]⟩

theorem one_all {c : Cx} {cs : List LV} {vs : List Value} (hv : VRs c cs vs) (h : cs.all LV.one = true) : ∀ u ∈ vs,u.oneCell' = true:=by
 intro u hu
 obtain ⟨i,hi⟩:=Qat.1 hu
 have hlt : i < vs.length:=(Qe.1 hi).1
 have hx : cs[i]? = some (cs[i]'(hv.len ▸ hlt)):=Qf _
 exact (hv.at_ i _ u hx hi).one (Qj.1 h _ (Qd hx))

theorem cell_push (w : World) (cs : Array Value) (e : TypeId) (i : Nat) : ({ w with heap:=w.heap.push (.cells cs e) } : World).cell? ⟨w.heap.size,i,none⟩ = cs[i]?:=by
 simp [World.cell?]
theorem frozen_push (w : World) (cs : Array Value) (e : TypeId) (i : Nat) : ({ w with heap:=w.heap.push (.cells cs e) } : World).frozen? ⟨w.heap.size,i,none⟩ = false:=by
 simp [World.frozen?]

theorem box_does (H : SR P c s tmps Ts w) {id : Nat} {z : List LV} {u : Value} (hv : VRs c z u.cells.toList) (elem : TypeId) {v : LV} {s' : St} (h : boxV id z s = some (v,s')) :
  Does P c tmps Ts w (do pure (.pointer (some (← newVar elem u)))) v s':=by
 unfold boxV at h
 split at h
 ·rename_i ho
  obtain ⟨r,hr,h⟩:=Qa.1 h
  obtain ⟨l',s1⟩:=r
  simp only [boxK] at h
  split at h
  ·rename_i hap
   simp only [Option.some.injEq,Prod.mk.injEq] at h
   obtain ⟨rfl,rfl⟩:=h
   obtain ⟨c1,H1,t1,hl1,_,_⟩:=rowsOf_ok H hv (fun x hx=>hx) hr
   have hone:=rowsOf_one hr ho
   have h1:=one_all hl1 hone.1
   let w' : World:={ w with heap:=w.heap.push (.cells u.cells elem) }
   obtain ⟨c2,H2,t2,hi,_⟩:=H1.new (w':=w') id (o:=.box l') (h:=⟨w.heap.size,0,0,0,false,none,by simp⟩) (Grew.push w _ (by simp [Go.Obj.soft])) (by simp [w']) (fun c' hmu hio hm =>
    OR.box l' u.cells.toList rfl (hl1.apart hap hmu hio) (fun i x hx=>⟨by rw [cell_push]; simpa using hx,frozen_push _ _ _ _,h1 x (Qd hx)⟩) (hm rfl))
   exact ⟨.pointer (some ⟨w.heap.size,0,none⟩),w',c2,by simp [newVar,newRow,w'],H2,t1.trans t2,.ptr id 0 _ hi⟩
  ·cases h
 ·cases h

theorem only_setCells (w : World) (b o : Nat) (vs : List Value) : Only w (w.setCells b o vs) b:=by
 refine ⟨?_,fun b' hb=>?_,fun a=>World.frozen?_setCells b vs o w a,⟨(World.keptBut_setCells b (may:=fun _=>True) vs o w (fun _ _=>trivial)).1,(World.keptBut_setCells b (may:=fun _=>True) vs o w (fun _ _=>trivial)).2.1⟩,fun r hr=>?_⟩
 ·induction vs generalizing o w with
  | nil=>rfl
  | cons v vs ih=>rw [World.setCells,ih]; simp [World.setCell]
 ·induction vs generalizing o w with
  | nil=>rfl
  | cons v vs ih=>rw [World.setCells,ih]; simp [World.setCell,Array.getElem?_modify,Ne.symm hb]
 ·induction vs generalizing o w r with
  | nil=>exact ⟨r,hr⟩
  | cons v vs ih=>rw [World.setCells]; exact ih (w:=w.setCell ⟨b,o,none⟩ v) (o:=o + 1) (r:=r) (by simp [World.setCell,Array.getElem?_modify,hr])
theorem run_store_ok {t : TypeId} {u : Value} {b o n : Nat} (hn : tsize P t = some n) (hl : u.cells.toList.length = n) (h1 : ∀ x ∈ u.cells.toList,x.oneCell' = true)
  (hc : ∀ j,j < n → (w.cell? ⟨b,o + j,none⟩).isSome = true∧w.frozen? ⟨b,o + j,none⟩ = false) :
  (Instr.storeAt t (.pointer (some ⟨b,o,none⟩)) u).run P w = .ok () (w.setCells b o u.cells.toList):=by
 have:=run_storeCells_cells (P:=P) b o u.cells.toList 0 w (fun j hj=>by simpa using (hc j (by omega)).1) (fun j hj=>by simpa using (hc j (by omega)).2) h1
 simp only [Qdh] at this
 have hsz : u.cells.size = n:=by simpa using hl
 simp [Instr.storeAt,Instr.sureAddr,storeVar,run_size hn,hsz,this]

theorem setV_get {us ws : List Value} {off : Nat} (hle : off + ws.length≤us.length) {i : Nat} {v : Value} (h : (setV us off ws)[i]? = some v) :
  (i < off∧us[i]? = some v) ∨ (off≤i∧i < off + ws.length∧ws[i - off]? = some v) ∨ (off + ws.length≤i∧us[i]? = some v):=by
 unfold setV at h
 rw [Qbj] at h
 split at h
 ·rename_i hlt
  simp at hlt
  left
  rw [Qak] at h
  split at h
  ·exact ⟨by omega,h⟩
  ·cases h
 ·rename_i hge
  simp only [Qbp] at hge h
  have hmin : min off us.length = off:=by omega
  rw [hmin] at hge h
  rw [Qbj] at h
  split at h
  ·exact .inr (.inl ⟨by omega,by omega,h⟩)
  ·right; right
   rw [Qbl] at h
   refine ⟨by omega,?_⟩
   rwa [show off + ws.length + (i - off - ws.length) = i by omega] at h

/-! by value -/
theorem clsO_get (O : Heap) : ∀ (l : List LV) (i : Nat),(LV.cls O l)[i]? = (l[i]?).map (LV.cl O)
 | [],i=>by simp [LV.cls]
 | v::l,0=>by simp [LV.cls]
 | v::l,i + 1=>by simp [LV.cls,clsO_get O l i]
theorem cls_length (O : Heap) : ∀ (l : List LV),(LV.cls O l).length = l.length
 | []=>rfl
 | v::l=>by simp [LV.cls,cls_length O l]
theorem idss_mem : ∀ {l : List LV} {i : Nat} {x : LV} {id : Nat},l[i]? = some x → id ∈ LV.ids x → id ∈ LV.idss l
 | [],i,x,id,h,_=>by simp at h
 | v::l,0,x,id,h,hm=>by simp at h; subst h; simp [LV.idss,hm]
 | v::l,i + 1,x,id,h,hm=>by simp at h; simp only [LV.idss,Qs]; exact .inr (idss_mem h hm)
theorem cl_ok {c1 c' : Cx} {O : Heap} (hO : ∀ id o h,oget O id = some o → c.io id = some h → OR P c1 w h o) (hmu : ∀ b o x,c.mu b o = some x → c'.mu b o = some x) (hmu1 : ∀ b o x,c1.mu b o = some x → c'.mu b o = some x)
  {x : LV} {u : Value} (hx : VR c x u) : (∀ id ∈ LV.ids x,oget O id ≠ none → ∀ h,c.io id = some h → h.nul = false → ∀ y v,w.cell? ⟨h.blk,y,none⟩ = some v → c'.mu h.blk y = some v) →
  LV.closed (LV.cl O x) = true → VR c' (LV.cl O x) u:=by
 induction hx with
 | any v=>exact fun _ _=>.any v
 | undef=>exact fun _ _=>.undef
 | int k n=>exact fun _ _=>.int k n
 | bool b=>exact fun _ _=>.bool b
 | str l=>exact fun _ _=>.str l
 | agg cs vs hl h ih =>
   intro hcov hc
   simp only [LV.cl] at hc ⊢
   refine .agg _ vs (by rw [cls_length,hl]) fun i x v hx hv=>?_
   have hcx:=closeds_at (by simpa [LV.closed] using hc) hx
   rw [clsO_get] at hx
   obtain ⟨y,hy,rfl⟩:=Qc.1 hx
   exact ih i y v hy hv (fun id hid=>hcov id (by simp only [LV.ids]; exact idss_mem hy hid)) hcx
 | tup cs vs hl h ih =>
   intro hcov hc
   simp only [LV.cl] at hc ⊢
   refine .tup _ vs (by rw [cls_length,hl]) fun i x v hx hv=>?_
   have hcx:=closeds_at (by simpa [LV.closed] using hc) hx
   rw [clsO_get] at hx
   obtain ⟨y,hy,rfl⟩:=Qc.1 hx
   exact ih i y v hy hv (fun id hid=>hcov id (by simp only [LV.ids]; exact idss_mem hy hid)) hcx
 | vs0 a cap hz=>exact fun _ _=>.vs0 a cap hz
 | vs xs b o s cap val hne hcap hs hm ho hv ih =>
   exact fun _ _=>(VR.vs xs b o s cap val hne hcap hs hm ho hv).closed hmu rfl
 | nils st a=>exact fun _ _=>.vs0 a 0 (fun _=>rfl)
 | nul=>exact fun _ _=>.nul
 | emp a cap=>exact fun _ _=>.emp a cap
 | bs id off len hh a cap hcap hi h0 h1 hoff =>
   intro hcov hc
   simp only [LV.cl] at hc ⊢
   cases ho : oget O id with
   | none=>rw [ho] at hc; simp [rowElems,vsK,LV.closed] at hc
   | some o =>
     rw [ho] at hc
     have hor:=hO id o hh ho hi
     cases hor with
     | row ys val hs hv hl h0' hsp hmm =>
       simp only [rowElems] at hc ⊢
       split
       ·rename_i hle
        simp only [vsK]
        have hlen : ((ys.drop off).take len).length = len:=by simp; omega
        by_cases hz : len = 0
        ·subst hz; simp only [Qcq]; exact .vs0 a cap (bs_none h0 hoff)
        ·obtain ⟨hn,rfl⟩:=h1 hz
         have hget : ∀ (k : Nat) (x : List LV),((ys.drop off).take len)[k]? = some x → ys[off + k]? = some x:=by
          intro k x hx
          rw [Qak] at hx
          split at hx
          ·simpa using hx
          ·cases hx
         have:=VR.vs (c:=c') ((ys.drop off).take len) hh.blk (hh.off + off * hh.st) hh.st cap (fun k j=>val (off + k) j)
          (by intro e; rw [e] at hlen; simp at hlen; omega) (by rw [hlen]; exact hcap)
          (fun k x hx=>hs _ _ (hget k x hx))
          (fun k x j y hx hy=>by
           have:=(hv _ _ j y (hget k x hx) hy).1
           refine hcov id (by simp [LV.ids]) (by rw [ho]; simp) hh hi hn _ _ ?_
           rw [show hh.off + off * hh.st + k * hh.st + j = hh.off + (off + k) * hh.st + j by rw [Qac]; omega]
           exact this)
          (fun k x j y hx hy=>(hv _ _ j y (hget k x hx) hy).2.1)
          (fun k x j y hx hy=>(hv _ _ j y (hget k x hx) hy).2.2.closed hmu1 (closeds_at (hs _ _ (hget k x hx)).2 hy))
         rwa [hlen] at this
       ·rename_i hle
        rw [if_neg hle] at hc
        simp [vsK,LV.closed] at hc
     | box=>simp [rowElems,vsK,LV.closed] at hc
     | map=>simp [rowElems,vsK,LV.closed] at hc
     | loop=>simp [rowElems,vsK,LV.closed] at hc
 | bb id off st len hh a cap hcap hi h1 hz0 =>
   intro hcov hc
   simp only [LV.cl] at hc ⊢
   cases ho : oget O id with
   | none=>rw [ho] at hc; simp [boxElemsC,vsK,LV.closed] at hc
   | some o =>
     rw [ho] at hc
     have hor:=hO id o hh ho hi
     cases hor with
     | box cs vals hn hv hcc hmm =>
       simp only [boxElemsC] at hc ⊢
       split
       ·rename_i hle
        simp only [vsK]
        have hlen:=chunk_len st len (cs.drop off)
        by_cases hz : len = 0
        ·subst hz; simp only [chunk]; exact .vs0 a cap hz0
        ·have:=h1 hz; subst this
         have hget : ∀ (k : Nat) (x : List LV),(chunk st len (cs.drop off))[k]? = some x → k < len∧x = (cs.drop (off + k * st)).take st:=by
          intro k x hx
          have h3:=(Qe.1 hx).1
          rw [hlen] at h3
          exact ⟨h3,by rw [chunk_get _ _ _ _ _ hx,Qbi]⟩
         have hin : ∀ (k : Nat) (x : List LV) (j : Nat) (y : LV),(chunk st len (cs.drop off))[k]? = some x → x[j]? = some y → cs[off + k * st + j]? = some y:=by
          intro k x j y hx hy
          rw [(hget k x hx).2,Qak] at hy
          split at hy
          ·simpa using hy
          ·cases hy
         have key : ∀ (k : Nat) (x : List LV) (j : Nat) (y : LV),(chunk st len (cs.drop off))[k]? = some x → x[j]? = some y → ∃ v,vals.getD (off + k * st + j) undef = v∧w.cell? ⟨hh.blk,off + k * st + j,none⟩ = some v∧v.oneCell' = true∧VR c1 y v∧LV.closed y = true:=by
          intro k x j y hx hy
          have hy2:=hin k x j y hx hy
          obtain ⟨v,hv1,hv2⟩:=hv.getSome hy2
          obtain ⟨a1,a2,a3⟩:=hcc _ v hv1
          exact ⟨v,by simp [List.getD,hv1],a1,a3,hv2,closeds_at hle.1 hy2⟩
         have:=VR.vs (c:=c') (chunk st len (cs.drop off)) hh.blk off st cap (fun k j=>vals.getD (off + k * st + j) undef)
          (by intro e; rw [e] at hlen; simp at hlen; omega) (by rw [hlen]; exact hcap)
          (fun k x hx=>by
           obtain ⟨hk,rfl⟩:=hget k x hx
           refine ⟨?_,closeds_of fun j y hy=>closeds_at hle.1 (hin k _ j y hx hy)⟩
           have : (k + 1) * st≤len * st:=Qa1 _ (by omega)
           rw [Qac,Qb4] at this
           simp; omega)
          (fun k x j y hx hy=>by
           obtain ⟨v,e,h1,_⟩:=key k x j y hx hy
           rw [e]
           exact hcov id (by simp [LV.ids]) (by rw [ho]; simp) hh hi hn _ _ h1)
          (fun k x j y hx hy=>by obtain ⟨v,e,_,h2,_⟩:=key k x j y hx hy; rw [e]; exact h2)
          (fun k x j y hx hy=>by obtain ⟨v,e,_,_,h3,h4⟩:=key k x j y hx hy; rw [e]; exact h3.closed hmu1 h4)
         rwa [hlen] at this
       ·rename_i hle
        rw [if_neg hle] at hc
        simp [vsK,LV.closed] at hc
     | row=>simp [boxElemsC,vsK,LV.closed] at hc
     | map=>simp [boxElemsC,vsK,LV.closed] at hc
     | loop=>simp [boxElemsC,vsK,LV.closed] at hc
 | ptr id off hh hi=>exact fun _ hc=>by simp [LV.cl,LV.closed] at hc
 | ep id i off hh hi hn=>exact fun _ hc=>by simp [LV.cl,LV.closed] at hc
 | fp cs b o val hcl hm ho hv ih=>exact fun _ _=>(VR.fp cs b o val hcl hm ho hv).closed hmu rfl
 | nilp=>exact fun _ _=>.nilp
 | fn f xs ys us vs hl hl2 h h2 ih ih2 =>
   intro hcov hc
   simp only [LV.cl] at hc ⊢
   simp only [LV.closed,Qg] at hc
   refine .fn f _ _ us vs (by rw [cls_length,hl]) (by rw [cls_length,hl2]) (fun i x v hx hv=>?_) (fun i x v hx hv=>?_)
   ·have hcx:=closeds_at hc.1 hx
    rw [clsO_get] at hx
    obtain ⟨y,hy,rfl⟩:=Qc.1 hx
    exact ih i y v hy hv (fun id hid=>hcov id (by simp only [LV.ids,Qs]; exact .inl (idss_mem hy hid))) hcx
   ·have hcx:=closeds_at hc.2 hx
    rw [clsO_get] at hx
    obtain ⟨y,hy,rfl⟩:=Qc.1 hx
    exact ih2 i y v hy hv (fun id hid=>hcov id (by simp only [LV.ids,Qs]; exact .inr (idss_mem hy hid))) hcx
 | nilf=>exact fun _ _=>.nilf
 | mp id hh hi=>exact fun _ hc=>by simp [LV.cl,LV.closed] at hc
 | nilm=>exact fun _ _=>.nilm
 | yl id hh hi=>exact fun _ hc=>by simp [LV.cl,LV.closed] at hc

theorem cls_ok {c1 c' : Cx} {O : Heap} (hO : ∀ id o h,oget O id = some o → c.io id = some h → OR P c1 w h o) (hmu : ∀ b o x,c.mu b o = some x → c'.mu b o = some x) (hmu1 : ∀ b o x,c1.mu b o = some x → c'.mu b o = some x)
  {xs : List LV} {us : List Value} (hx : VRs c xs us) (hcov : ∀ id ∈ LV.idss xs,oget O id ≠ none → ∀ h,c.io id = some h → h.nul = false → ∀ y v,w.cell? ⟨h.blk,y,none⟩ = some v → c'.mu h.blk y = some v)
  (hc : LV.closeds (LV.cls O xs) = true) : VRs c' (LV.cls O xs) us :=
 ⟨by rw [cls_length,hx.len],fun i x v hx' hv=>by
  have hcx:=closeds_at hc hx'
  rw [clsO_get] at hx'
  obtain ⟨y,hy,rfl⟩:=Qc.1 hx'
  exact cl_ok hO hmu hmu1 (hx.at_ i y v hy hv) (fun id hid=>hcov id (idss_mem hy hid)) hcx⟩
end
end Go.Zv

/- The engine, part 14: stores, literals of slices, make, maps. -/
namespace Go.Zv
section
variable {P : Program} {c : Cx} {w : World} {s : St} {tmps : Array Value} {Ts : List (Array Value)}

theorem closeCells_ok {c0 : Cx} (H : SR P c s tmps Ts w) (hio : ∀ j hh,c.io j = some hh → c0.io j = some hh) (hmu : ∀ b o x,c0.mu b o = some x → c.mu b o = some x) {xs cs : List LV} {us : List Value} {s' : St} (hx : VRs c0 xs us) (h : closeCells s xs = some (cs,s')) :
  ∃ c',SR P c' s' tmps Ts w∧Tr c w c' w∧VRs c' cs us∧LV.closeds cs = true∧cs.all LV.one = true∧(∀ j hh,c'.io j = some hh → c.io j = some hh):=by
 unfold closeCells closedK at h
 split at h
 ·rename_i hc
  simp only [Option.some.injEq,Prod.mk.injEq] at h
  obtain ⟨rfl,rfl⟩:=h
  obtain ⟨c',H',t',hio',hio2,hcov⟩:=H.frees (LV.idss xs)
  refine ⟨c',H',t',?_,hc.1,hc.2,hio'⟩
  refine cls_ok (c1:=c) (w:=w) (P:=P) (fun id o hh ho hi=>?_) (fun b o x hb=>t'.mu _ _ _ (hmu _ _ _ hb)) t'.mu hx (fun id hid hne hh hi hn y v hy=>?_) hc.1
  ·obtain ⟨h2,hi2,hor⟩:=H.O id o ho
   have:=hio id h2 hi2
   rw [hi] at this; cases this
   exact hor
  ·obtain ⟨o,ho⟩:=Option.ne_none_iff_exists'.1 hne
   obtain ⟨h2,hi2,hor⟩:=H.O id o ho
   have:=hio id h2 hi2
   rw [hi] at this; cases this
   exact hcov id hid hh hi2 hn y v hy
 ·cases h

theorem setV_len {us ws : List Value} {off : Nat} (h : off + ws.length≤us.length) : (setV us off ws).length = us.length:=by
 simp [setV]; omega
theorem cells_set {b o : Nat} {us ws : List Value} {off : Nat} (hle : off + ws.length≤us.length) (hc : ∀ i v,us[i]? = some v → w.cell? ⟨b,o + i,none⟩ = some v) {i : Nat} {v : Value} (h : (setV us off ws)[i]? = some v) :
  (w.setCells b (o + off) ws).cell? ⟨b,o + i,none⟩ = some v:=by
 have hin : ∀ j,j < ws.length → (w.cell? ⟨b,o + off + j,none⟩).isSome = true:=fun j hj=>by
  have hlt : off + j < us.length:=by omega
  have:=hc _ _ (Qf hlt)
  rw [show o + off + j = o + (off + j) by omega,this]; rfl
 rcases setV_get hle h with ⟨h1,h2⟩ | ⟨h1,h2,h3⟩ | ⟨h1,h2⟩
 ·rw [World.cell?_setCells_out b ws (o + off) w _ (fun _ _=>.inl (show o + i < o + off by omega))]
  exact hc i v h2
 ·have hlt : i - off < ws.length:=by omega
  have:=World.cell?_setCells_in b ws (o + off) w hin (i - off) hlt
  rw [show o + off + (i - off) = o + i by omega] at this
  rw [this,← h3,Qf hlt]
 ·rw [World.cell?_setCells_out b ws (o + off) w _ (fun _ _=>.inr (show o + off + ws.length≤o + i by omega))]
  exact hc i v h2

theorem store_does (H : SR P c s tmps Ts w) {t : TypeId} {n : Nat} (hn : tsize P t = some n) {x y : LV} {ua uv : Value} (hx : VR c x ua) (hy : VR c y uv) {s' : St} (h : wr s n x y.cells = some s') :
  ∃ w' c',(Instr.storeAt t ua uv).run P w = .ok () w'∧SR P c' s' tmps Ts w'∧Tr c w c' w':=by
 unfold wr at h
 split at h
 ·rename_i hcond
  obtain ⟨hv,h1⟩:=cells_VRs hy hcond.2
  have hlen : uv.cells.toList.length = n:=by rw [← hv.len]; exact hcond.1
  unfold wrAt at h
  split at h
  ·rename_i id off
   obtain ⟨r,hr,h⟩:=Qa.1 h
   obtain ⟨l',s1⟩:=r
   obtain ⟨c1,H1,t1,hl1,_,hio1⟩:=rowsOf_ok H hv (fun x hx=>hx) hr
   have hone:=rowsOf_one hr hcond.2
   simp only [wrBox] at h
   cases hx with
   | ptr _ _ hh hi =>
     have hi1:=hio1 id hh (by omega) hi
     unfold setBox at h
     split at h
     ·rename_i bs ho
      split at h
      ·rename_i hle
       simp only [Option.some.injEq] at h; subst h
       obtain ⟨h2,hi2,hor⟩:=H1.O id _ ho
       rw [hi1] at hi2; cases hi2
       cases hor with
       | box _ vals hn' hvb hc hm =>
         have hll : l'.length = uv.cells.toList.length:=hl1.len
         have hlb:=hvb.len
         have hle2 : off + uv.cells.toList.length≤vals.length:=by omega
         have hcell : ∀ i v,vals[i]? = some v → w.cell? ⟨hh.blk,0 + i,none⟩ = some v:=fun i v hi=>by rw [Qbe]; exact (hc i v hi).1
         have hrun:=run_store_ok (P:=P) (w:=w) (b:=hh.blk) (o:=off) hn hlen h1 (fun j hj=>by
          have hlt : off + j < vals.length:=by omega
          obtain ⟨a1,a2,_⟩:=hc _ _ (Qf hlt)
          exact ⟨by rw [a1]; rfl,a2⟩)
         have hone2:=one_all hl1 hone.1
         obtain ⟨H2,t2⟩:=H1.upd ho hi1 hn' (only_setCells w hh.blk off uv.cells.toList) (o':=.box (setAt bs off l')) (OR.box _ (setV vals off uv.cells.toList) hn' (setAt_VRs hvb hl1) (fun i v hi=>by
          have e:=cells_set (w:=w) (b:=hh.blk) (o:=0) hle2 hcell hi
          simp only [Qbe] at e
          refine ⟨e,?_,?_⟩
          ·rw [World.frozen?_setCells]
           have hlt : i < vals.length:=by
            have:=(Qe.1 hi).1
            rwa [setV_len hle2] at this
           exact (hc _ _ (Qf hlt)).2.1
          ·rcases setV_get hle2 hi with ⟨_,h3⟩ | ⟨_,_,h3⟩ | ⟨_,h3⟩
           ·exact (hc _ _ h3).2.2
           ·exact hone2 v (Qd h3)
           ·exact (hc _ _ h3).2.2) hm)
         exact ⟨_,c1,hrun,H2,t1.trans t2⟩
      ·cases h
     ·cases h
  ·rename_i id i off
   obtain ⟨r,hr,h⟩:=Qa.1 h
   obtain ⟨cs,s1⟩:=r
   obtain ⟨c1,H1,t1,hl1,hcl,hone,hio1⟩:=closeCells_ok H (fun _ _ h=>h) (fun _ _ _ h=>h) hv hr
   simp only [wrRow] at h
   cases hx with
   | ep _ _ _ hh hi hnn =>
     unfold setRow at h
     split at h
     ·rename_i st xs ho
      unfold setElt at h
      split at h
      ·rename_i e hxi
       split at h
       ·rename_i hle
        simp only [Option.some.injEq] at h; subst h
        obtain ⟨h2,hi2,hor⟩:=H1.O id _ ho
        have:=hio1 _ _ hi2
        rw [hi] at this; cases this
        cases hor with
        | row _ val hs hvr hl h0 hsp hm =>
          have hlt:=(Qe.1 hxi).1
          have hel:=(hs i e hxi).1
          have hws:=hl1.len
          have hsp':=hsp hnn
          have hrun:=run_store_ok (P:=P) (w:=w) (b:=hh.blk) (o:=hh.off + i * hh.st + off) hn hlen h1 (fun j hj=>by
           have hk : i * hh.st + off + j < hh.cap * hh.st:=by
            have : (i + 1) * hh.st≤hh.cap * hh.st:=Qa1 _ (by omega)
            rw [Qac,Qb4] at this; omega
           have:=hsp' _ hk
           rwa [show hh.off + (i * hh.st + off + j) = hh.off + i * hh.st + off + j by omega] at this)
          have hone2:=one_all hl1 hone
          let vals : List Value:=(List.range e.length).map (val i)
          have hvals : VRs c1 e vals:=VRs.ofFun fun j y hy=>(hvr i e j y hxi hy).2.2
          have hvl : vals.length = e.length:=by simp [vals]
          have hcellv : ∀ j v,vals[j]? = some v → w.cell? ⟨hh.blk,hh.off + i * hh.st + j,none⟩ = some v∧v.oneCell' = true:=fun j v hj=>by
           have hjl : j < e.length:=by have:=(Qe.1 hj).1; simpa [vals] using this
           simp [vals,hjl] at hj
           subst hj
           obtain ⟨a1,a2,_⟩:=hvr i e j _ hxi (Qf hjl)
           exact ⟨a1,a2⟩
          have hle2 : off + uv.cells.toList.length≤vals.length:=by omega
          have hnew:=setAt_VRs (off:=off) hvals hl1
          obtain ⟨H2,t2⟩:=H1.upd ho hi2 hnn (only_setCells w hh.blk (hh.off + i * hh.st + off) uv.cells.toList) (o':=.row hh.st (xs.set i (setAt e off cs)))
           (OR.row _ (fun k j=>if k = i then (setV vals off uv.cells.toList).getD j undef else val k j) (fun k x hk=>by
            rw [Qcm] at hk
            split at hk
            ·rename_i e1
             simp only [Option.some.injEq] at hk; subst hk
             refine ⟨by rw [setAt_len (by omega)]; exact hel,closeds_of fun j y hy=>?_⟩
             have hcE:=(hs i e hxi).2
             unfold setAt at hy
             rw [Qbj] at hy
             split at hy
             ·rw [Qak] at hy
              split at hy
              ·exact closeds_at hcE hy
              ·cases hy
             ·rw [Qbj] at hy
              split at hy
              ·exact closeds_at hcl hy
              ·rw [Qbl] at hy; exact closeds_at hcE hy
            ·exact hs k x hk) (fun k x j y hk hj=>by
            rw [Qcm] at hk
            split at hk
            ·rename_i e1; subst e1
             simp only [Option.some.injEq] at hk; subst hk
             obtain ⟨v,hv1,hv2⟩:=hnew.getSome hj
             have e2 : (setV vals off uv.cells.toList).getD j undef = v:=by simp [List.getD,hv1]
             simp only [if_true,e2]
             refine ⟨cells_set (w:=w) (b:=hh.blk) (o:=hh.off + i * hh.st) hle2 (fun j v hj=>(hcellv j v hj).1) hv1,?_,hv2⟩
             rcases setV_get hle2 hv1 with ⟨_,h3⟩ | ⟨_,_,h3⟩ | ⟨_,h3⟩
             ·exact (hcellv _ _ h3).2
             ·exact hone2 v (Qd h3)
             ·exact (hcellv _ _ h3).2
            ·rename_i e1
             have e3 : ¬ k = i:=fun e=>e1 e.symm
             simp only [if_neg e3]
             obtain ⟨a1,a2,a3⟩:=hvr k x j y hk hj
             refine ⟨?_,a2,a3⟩
             have hjl : j < hh.st:=by have:=(Qe.1 hj).1; rw [(hs k x hk).1] at this; exact this
             rw [World.cell?_setCells_out hh.blk _ _ w _ (fun _ _=>?_)]
             ·exact a1
             ·show hh.off + k * hh.st + j < hh.off + i * hh.st + off ∨ hh.off + i * hh.st + off + uv.cells.toList.length≤hh.off + k * hh.st + j
              rcases Nat.lt_or_gt_of_ne e3 with hlt2 | hgt
              ·left
               have : (k + 1) * hh.st≤i * hh.st:=Qa1 _ hlt2
               rw [Qac,Qb4] at this; omega
              ·right
               have : (i + 1) * hh.st≤k * hh.st:=Qa1 _ hgt
               rw [Qac,Qb4] at this; omega) (by simpa using hl) h0 (fun hn3 k hk=>by
            obtain ⟨a1,a2⟩:=hsp' k hk
            refine ⟨World.isSome_setCells _ _ _ _ _ a1,by rw [World.frozen?_setCells]; exact a2⟩) hm)
          exact ⟨_,c1,hrun,H2,t1.trans t2⟩
       ·cases h
      ·cases h
     ·cases h
  ·cases h
 ·cases h

/-! rows -/
theorem flat_len {st : Nat} : ∀ {xs : List (List LV)},(∀ x ∈ xs,x.length = st) → xs.flatten.length = xs.length * st
 | [],_=>by simp
 | x::xs,h=>by
   rw [Q9,Qm,flat_len fun y hy=>h y (by simp [hy]),h x (by simp),Q4,Qac]; omega
theorem flat_get {st : Nat} : ∀ {xs : List (List LV)} {i : Nat} {x : List LV} {j : Nat} {y : LV},(∀ x ∈ xs,x.length = st) → xs[i]? = some x → x[j]? = some y → xs.flatten[i * st + j]? = some y
 | [],i,x,j,y,_,h,_=>by simp at h
 | z::xs,0,x,j,y,hl,h,hy=>by
   simp at h; subst h
   rw [Q9,Nat.zero_mul,Qbe,Qbt (Qe.1 hy).1]; exact hy
 | z::xs,i + 1,x,j,y,hl,h,hy=>by
   simp at h
   have hz:=hl z (by simp)
   rw [Q9,Qbg (by rw [hz,Qac]; omega),hz]
   have:=flat_get (st:=st) (fun y hy=>hl y (by simp [hy])) h hy
   rwa [show (i + 1) * st + j - st = i * st + j by rw [Qac]; omega]

theorem OR.fresh {c' : Cx} {w' : World} {blk st cap : Nat} {ad : Option Addr} {xs : List (List LV)} {vals : List Value} (hl : ∀ x ∈ xs,x.length = st) (hcl : ∀ x ∈ xs,LV.closeds x = true) (hv : VRs c' xs.flatten vals) (hcap : xs.length≤cap)
  (hc : ∀ (j : Nat) (v : Value),vals[j]? = some v → w'.cell? ⟨blk,j,none⟩ = some v∧v.oneCell' = true) (hsp : ∀ k,k < cap * st → (w'.cell? ⟨blk,k,none⟩).isSome = true∧w'.frozen? ⟨blk,k,none⟩ = false) (hm : ∀ x,c'.mu blk x = none) :
  OR P c' w' ⟨blk,0,st,cap,false,ad,by simp⟩ (.row st xs):=by
 refine OR.row (h:=⟨blk,0,st,cap,false,ad,by simp⟩) xs (fun i j=>vals.getD (i * st + j) undef) (fun i x hx=>⟨hl x (Qd hx),hcl x (Qd hx)⟩) (fun i x j y hx hy=>?_) hcap (by simp) (fun _ k hk=>?_) (fun _=>hm)
 ·obtain ⟨v,hv1,hv2⟩:=hv.getSome (flat_get hl hx hy)
  have e : vals.getD (i * st + j) undef = v:=by simp [List.getD,hv1]
  rw [e]
  obtain ⟨a1,a2⟩:=hc _ v hv1
  exact ⟨by simpa using a1,a2,hv2⟩
 ·simpa using hsp k hk

theorem newRow_ok (H : SR P c s tmps Ts w) (id : Nat) {st cap : Nat} {e : TypeId} {xs : List (List LV)} {vals : List Value} {cells : Array Value} (hl : ∀ x ∈ xs,x.length = st) (hcl : ∀ x ∈ xs,LV.closeds x = true) (hv : VRs c xs.flatten vals) (hcap : xs.length≤cap)
  (h1 : ∀ v ∈ vals,v.oneCell' = true) (hc : ∀ (j : Nat) (v : Value),vals[j]? = some v → cells[j]? = some v) (hsz : cap * st≤cells.size) :
  ∃ c',SR P c' (St.new id (.row st xs) s) tmps Ts { w with heap:=w.heap.push (.cells cells e) }∧Tr c w c' { w with heap:=w.heap.push (.cells cells e) }∧VR c' (.bs id 0 xs.length) (.slice (some ⟨w.heap.size,0,none⟩) xs.length cap):=by
 obtain ⟨c2,H2,t2,hi,_⟩:=H.new (w':={ w with heap:=w.heap.push (.cells cells e) }) id (o:=.row st xs) (h:=⟨w.heap.size,0,st,cap,false,none,by simp⟩) (Grew.push w _ (by simp [Go.Obj.soft])) (by simp) (fun c' hmu hio hm =>
  OR.fresh hl hcl ⟨hv.len,fun i x v hx hv'=>(hv.at_ i x v hx hv').closed hmu (by
   have:=Qd hx
   obtain ⟨y,hy,hxy⟩:=Qcu.1 this
   obtain ⟨k,hk⟩:=Qat.1 hxy
   exact closeds_at (hcl y hy) hk)⟩ hcap (fun j v hj=>⟨by rw [cell_push]; exact hc j v hj,h1 v (Qd hj)⟩) (fun k hk=>⟨by rw [cell_push,Qaa (by omega)]; rfl,frozen_push _ _ _ _⟩) (hm rfl))
 exact ⟨c2,H2,t2,.bs id 0 xs.length _ _ cap hcap hi (fun _=>⟨rfl,rfl⟩) (fun hz=>⟨rfl,by simp⟩) (fun h=>absurd rfl h)⟩

theorem asV_does (H : SR P c s tmps Ts w) {id : Nat} {x v : LV} {u : Value} {s' : St} (hx : VR c x u) (h : asV id s x = some (v,s')) : Does P c tmps Ts w (pure u) v s':=by
 unfold asV at h
 split at h
 ·rename_i hn
  simp only [Option.some.injEq,Prod.mk.injEq] at h
  obtain ⟨rfl,rfl⟩:=h
  have : ∃ q,u = .slice q 0 0:=by
   cases x <;> simp [isNils] at hn
   cases hx; exact ⟨_,rfl⟩
  obtain ⟨q,rfl⟩:=this
  obtain ⟨c',h1,h2,h3,_⟩:=nilRow H id (nilSt x) q
  exact ⟨_,w,c',rfl,h1,h2,h3⟩
 ·simp only [Option.some.injEq,Prod.mk.injEq] at h
  obtain ⟨rfl,rfl⟩:=h
  exact ⟨u,w,c,rfl,H,Tr.refl _ _,hx⟩

theorem mkm_does (H : SR P c s tmps Ts w) (id : Nat) : Does P c tmps Ts w (do pure (.map (some (← newObj (.map #[] 0))))) (.mp id) (St.new id (.map []) s):=by
 obtain ⟨c2,H2,t2,hi,_⟩:=H.new (w':={ w with heap:=w.heap.push (.map #[] 0) }) id (o:=.map []) (h:=⟨w.heap.size,0,0,0,false,none,by simp⟩) (Grew.push w _ rfl) (by simp) (fun c' hmu hio hm =>
  OR.map [] [] #[] 0 rfl (by simp) rfl (by simp) (hm rfl) (List.Perm.refl _) (by simp))
 exact ⟨_,_,c2,by simp,H2,t2,.mp id _ hi⟩

theorem zeros_get (z : Array Value) (n j : Nat) (hj : j < n * z.size) : ((Array.range (n * z.size)).map (z[· % z.size]!))[j]? = z[j % z.size]?:=by
 have hk : 0 < z.size:=by
  rcases Nat.eq_zero_or_pos z.size with h | h
  ·rw [h] at hj; simp at hj
  ·exact h
 have : j % z.size < z.size:=Qdr _ hk
 rw [Qaa this]
 simp [hj,getElem!_pos,this]

theorem rep_vals {c : Cx} {z : List LV} {vs : List Value} (hv : VRs c z vs) (n : Nat) : VRs c (List.replicate n z).flatten (List.replicate n vs).flatten:=by
 induction n with
 | zero=>exact VRs.nil c
 | succ n ih=>rw [Qcp,Qcp,Q9,Q9]; exact hv.append ih
theorem flat_rep' (z : List Value) : ∀ (n : Nat) (j : Nat),j < n * z.length → (List.replicate n z).flatten[j]? = z[j % z.length]?
 | 0,j,h=>by simp at h
 | n + 1,j,h=>by
   rw [Qcp,Q9]
   by_cases hj : j < z.length
   ·rw [Qbt hj,Qc8 hj]
   ·rw [Qbg (by omega),flat_rep' z n _ (by rw [Qac] at h; omega)]
    rw [← Nat.mod_eq_sub_mod (by omega)]

theorem zero_cls {c c' : Cx} (hmu : ∀ b o x,c.mu b o = some x → c'.mu b o = some x) {xs : List LV} {us : List Value} (hx : VRs c xs us) (hc : LV.closeds (LV.cls [] xs) = true) : VRs c' (LV.cls [] xs) us :=
 cls_ok (P:={ (default : Program) with }) (w:=default) (c1:=c) (fun id o h ho=>by simp [oget] at ho) hmu hmu hx (fun id _ hne=>absurd rfl hne) hc

theorem mks_does (H : SR P c s tmps Ts w) {id : Nat} {t e : TypeId} {z : LV} {x y v : LV} {ux uy : Value} {s' : St} (ht : P.underlying t = some (.slice e)) (hsm : smallB P e = true) (hz : zeroLV P e = some z) {st : Nat} (hst : tsize P e = some st)
  (hx : VR c x ux) (hy : VR c y uy) (h : mksV id z.cells s x y = some (v,s')) : Does P c tmps Ts w (Instr.makeSlice t ux uy) v s':=by
 unfold mksV at h
 split at h
 ·rename_i k n k2 m
  split at h
  ·rename_i hb
   obtain ⟨h0,hnm,hm,hcl⟩:=hb
   simp only [Option.some.injEq,Prod.mk.injEq] at h
   obtain ⟨rfl,rfl⟩:=h
   cases hx; cases hy
   obtain ⟨i,zv,hi,hzv,hzr⟩:=zeroLV_ok (c:=c) hz
   obtain ⟨hzc,hz1⟩:=cells_VRs hzr (zero_one hz)
   have hzc':=zero_cls (fun _ _ _ h=>h) hzc hcl
   unfold smallB at hsm
   rw [hi,hz] at hsm
   simp only [Qg,decide_eq_true_eq] at hsm
   have hsize : i.size = st:=by
    unfold tsize at hst; rw [hi] at hst; simpa using hst
   have hzl : zv.cells.size = st:=by
    have:=hzc.len
    simp only [Array.length_toList] at this
    omega
   obtain ⟨N,rfl⟩ : ∃ N : Nat,n = N:=⟨n.toNat,by omega⟩
   obtain ⟨M,rfl⟩ : ∃ M : Nat,m = M:=⟨m.toNat,by omega⟩
   have hNM : N≤M:=by omega
   have hst0 : 0 < st:=by omega
   let cells : Array Value:=(Array.range (M * st)).map (zv.cells[· % zv.cells.size]!)
   have hrun : (Instr.makeSlice t (.int k N) (.int k2 M)).run P w = .ok (.slice (some ⟨w.heap.size,0,none⟩) N M) { w with heap:=w.heap.push (.cells cells e) }:=by
    have wl : IntKind.i64.wrap N = N:=by rw [IntKind.wrap_i64]; omega
    have wc : IntKind.i64.wrap M = M:=by rw [IntKind.wrap_i64]; omega
    have n2 : ¬ (281474976710656 < (i.bytes : Int) * M):=by
     have h1 : i.bytes * M≤16384 * 1000000000:=Qdq hsm.1.1 (by omega)
     have : ((i.bytes * M : Nat) : Int)≤16384 * 1000000000:=by omega
     rw [Int.natCast_mul] at this; omega
    have n4 : ¬ ((M : Int) < N):=by omega
    have n5 : ¬ ((M : Int) < 0):=by omega
    have n6 : ¬ ((N : Int) < 0):=by omega
    by_cases hz0 : M = 0
    ·have hN0 : N = 0:=by omega
     have w0 : IntKind.i64.wrap 0 = 0:=by rw [IntKind.wrap_i64]; omega
     simp [Instr.makeSlice,run_underlying ht,asInt,asIntOf,typeInfo,sizeOf,hi,newRow,cells,hz0,hN0,w0]
     congr 2
     apply Array.ext <;> simp
    ·have hs0 : ¬ st = 0:=by omega
     simp [Instr.makeSlice,run_underlying ht,asInt,asIntOf,typeInfo,sizeOf,hi,wl,wc,n2,n4,n5,n6,newRow,cells,hsize,hz0,hs0,zeroValue,hzv]
     exact fun h0=>absurd h0 (Nat.mul_ne_zero hz0 hs0)
   have hrep:=rep_vals hzc' N
   obtain ⟨c2,H2,t2,hv2⟩:=newRow_ok H id (st:=st) (cap:=M) (e:=e) (xs:=List.replicate N (LV.cls [] z.cells)) (vals:=(List.replicate N zv.cells.toList).flatten) (cells:=cells)
    (fun x hx=>by rw [Qco hx,cls_length]; omega) (fun x hx=>by rw [Qco hx]; exact hcl) hrep (by simpa using hNM)
    (fun v hv=>by
     obtain ⟨l,hl,hvl⟩:=Qcu.1 hv
     rw [Qco hl] at hvl
     exact hz1 v hvl)
    (fun j v hj=>by
     have hlt:=(Qe.1 hj).1
     have hl2 : ((List.replicate N zv.cells.toList).flatten).length = N * st:=by simp [hzl]
     rw [hl2] at hlt
     rw [flat_rep' _ _ _ (by simpa [hzl] using hlt)] at hj
     have : j < M * zv.cells.size:=by rw [hzl]; exact Qaf hlt (Qa1 _ hNM)
     have:=zeros_get zv.cells M j this
     rw [hzl] at this
     simp only [cells,hzl]
     rw [this]
     simpa [hzl] using hj)
    (by simp [cells])
   rw [List.length_replicate] at hv2
   have hzlen : z.cells.length = st:=by omega
   exact ⟨_,_,c2,hrun,by simpa [hzlen] using H2,t2,by simpa using hv2⟩
  ·cases h
 ·cases h

/-! literals of slices -/
theorem closeRows_ok {c0 : Cx} : ∀ {xs : List (List LV)} {uss : List (List Value)} {c : Cx} {s : St} {ys : List (List LV)} {s' : St},SR P c s tmps Ts w → (∀ j hh,c.io j = some hh → c0.io j = some hh) → (∀ b o x,c0.mu b o = some x → c.mu b o = some x) →
  xs.length = uss.length → (∀ (i : Nat) (x : List LV) (u : List Value),xs[i]? = some x → uss[i]? = some u → VRs c0 x u) → closeRows xs s = some (ys,s') →
  ∃ c',SR P c' s' tmps Ts w∧Tr c w c' w∧VRs c' ys.flatten uss.flatten∧(∀ y ∈ ys,LV.closeds y = true∧y.all LV.one = true)∧ys.map List.length = xs.map List.length
 | [],[],c,s,ys,s',H,_,_,_,_,h=>by
   simp only [closeRows,Option.some.injEq,Prod.mk.injEq] at h
   obtain ⟨rfl,rfl⟩:=h
   exact ⟨c,H,Tr.refl _ _,VRs.nil c,by simp,rfl⟩
 | [],_::_,_,_,_,_,_,_,_,hl,_,_=>by simp at hl
 | _::_,[],_,_,_,_,_,_,_,hl,_,_=>by simp at hl
 | x :: xs,u::uss,c,s,ys,s',H,hio,hmu,hl,hx,h=>by
   obtain ⟨r,hr,h⟩:=Qa.1 h
   obtain ⟨cs,s1⟩:=r
   obtain ⟨r2,hr2,h⟩:=Qa.1 h
   obtain ⟨ys2,s2⟩:=r2
   simp only [rowsK1,Option.some.injEq,Prod.mk.injEq] at h
   obtain ⟨rfl,rfl⟩:=h
   obtain ⟨c1,H1,t1,hl1,hcl,hone,hio1⟩:=closeCells_ok H hio hmu (hx 0 x u rfl rfl) hr
   obtain ⟨c2,H2,t2,hl2,hcl2,hlen⟩:=closeRows_ok H1 (fun j hh hj=>hio j hh (hio1 j hh hj)) (fun b o x hb=>t1.mu _ _ _ (hmu _ _ _ hb)) (by simpa using hl) (fun i x u h1 h2=>hx (i + 1) x u (by simpa using h1) (by simpa using h2)) hr2
   refine ⟨c2,H2,t1.trans t2,?_,fun y hy=>?_,?_⟩
   ·rw [Q9,Q9]
    exact VRs.append ⟨hl1.len,fun i x v hx hv=>(hl1.at_ i x v hx hv).closed t2.mu (closeds_at hcl hx)⟩ hl2
   ·rcases Q7.1 hy with rfl | hy
    ·exact ⟨hcl,hone⟩
    ·exact hcl2 y hy
   ·have e : cs.length = x.length:=by
     have h1:=hl1.len; have h2:=(hx 0 x u rfl rfl).len; omega
    simp [e,hlen]

theorem setV_mid {l : List Value} {st : Nat} {uss : List (List Value)} {i : Nat} (hu : ∀ u ∈ uss,u.length = st) (hi : i < uss.length) (hl : l.length = st) : setV uss.flatten (i * st) l = (uss.set i l).flatten:=by
 have fl : ∀ (L : List (List Value)),(∀ u ∈ L,u.length = st) → L.flatten.length = L.length * st:=by
  intro L
  induction L with
  | nil=>simp
  | cons x L ih=>intro h; rw [Q9,Qm,ih fun y hy=>h y (by simp [hy]),h x (by simp),Q4,Qac]; omega
 have e1 : uss.flatten = (uss.take i).flatten++(uss[i]++(uss.drop (i + 1)).flatten):=by
  conv=>lhs; rw [← Qcz i uss]
  rw [List.flatten_append,Qcd hi,Q9]
 have e2 : (uss.set i l).flatten = (uss.take i).flatten++(l++(uss.drop (i + 1)).flatten):=by
  rw [List.set_eq_take_append_cons_drop,if_pos hi,List.flatten_append,Q9]
 have e3 : (uss.take i).flatten.length = i * st:=by
  rw [fl _ fun u h=>hu u (List.mem_of_mem_take h),Qbp,Nat.min_eq_left (by omega)]
 have e4 : uss[i].length = st:=hu _ (Qdk _)
 rw [e2,e1]
 unfold setV
 rw [List.take_append_of_le_length (by omega),Qr (by omega)]
 congr 2
 rw [List.drop_append,e3,List.drop_eq_nil_of_le (by omega),Qw,List.drop_append,e4]
 rw [show i * st + l.length - i * st = l.length by omega,hl,List.drop_eq_nil_of_le (by omega),Qw,Nat.sub_self,Qdp]

theorem fillS_ok {T : Env} {a : Act} {st : Nat} : ∀ {l : List (Nat × Opd)} {xs xs' : List (List LV)} {uss : List (List Value)} {ps : List (Nat × Value)},
  xs.length = uss.length → (∀ (i : Nat) (x : List LV) (u : List Value),xs[i]? = some x → uss[i]? = some u → VRs c x u) → (∀ u ∈ uss,u.length = st) → fillS st T l xs = some xs' →
  l.length = ps.length → (∀ (i : Nat) (p : Nat × Opd) (q : Nat × Value),l[i]? = some p → ps[i]? = some q → q.1 = p.1∧VR c (p.2.ev T) q.2) →
  ∃ uss' : List (List Value),Instr.fill (fun i=>some (i * st,st)) uss.flatten.toArray ps = some uss'.flatten.toArray∧xs'.length = uss'.length∧xs'.length = xs.length∧(∀ (i : Nat) (x : List LV) (u : List Value),xs'[i]? = some x → uss'[i]? = some u → VRs c x u)∧(∀ u ∈ uss',u.length = st)
 | [],xs,xs',uss,[],hl,hx,hu,h,_,_=>by
   simp only [fillS,Option.some.injEq] at h; subst h; exact ⟨uss,rfl,hl,rfl,hx,hu⟩
 | [],_,_,_,_::_,_,_,_,_,hl,_=>by simp at hl
 | _::_,_,_,_,[],_,_,_,_,hl,_=>by simp at hl
 | (i,x)::l,xs,xs',uss,q::ps,hl,hx,hu,h,hlp,hp=>by
   simp only [fillS,fillSK] at h
   split at h
   ·rename_i hc
    obtain ⟨pl,pv⟩:=hp 0 _ q rfl rfl
    obtain ⟨h1,_⟩:=cells_VRs pv hc.2.2
    have hle : q.2.cells.toList.length = st:=by rw [← h1.len]; exact hc.1
    have hi : i < uss.length:=by omega
    obtain ⟨uss',e1,e2,e3,e4,e5⟩:=fillS_ok (a:=a) (xs:=xs.set i (x.ev T).cells) (uss:=uss.set i q.2.cells.toList) (by simpa using hl) (fun k y u hy huu=>by
     rw [Qcm] at hy huu
     by_cases e : i = k
     ·subst e
      rw [if_pos rfl,if_pos (by omega)] at hy huu
      simp only [Option.some.injEq] at hy huu
      subst hy; subst huu; exact h1
     ·rw [if_neg e] at hy huu; exact hx k y u hy huu) (fun u hm=>by
     rcases List.mem_or_eq_of_mem_set hm with hm | rfl
     ·exact hu u hm
     ·exact hle) h (by simpa using hlp) (fun k p r hp1 hr=>hp (k + 1) p r (by simpa using hp1) (by simpa using hr))
    refine ⟨uss',?_,e2,by simpa using e3,e4,e5⟩
    obtain ⟨qi,qv⟩:=q
    simp only at pl hle e1
    subst pl
    have fl : uss.flatten.length = uss.length * st:=by
     have : ∀ (L : List (List Value)),(∀ u ∈ L,u.length = st) → L.flatten.length = L.length * st:=by
      intro L
      induction L with
      | nil=>simp
      | cons x L ih=>intro h; rw [Q9,Qm,ih fun y hy=>h y (by simp [hy]),h x (by simp),Q4,Qac]; omega
     exact this uss hu
    have hsz : qv.cells.size = st:=by simpa using hle
    have hbound : qi * st + st≤uss.flatten.length:=by
     rw [fl]
     have : (qi + 1) * st≤uss.length * st:=Qa1 _ hi
     rw [Qac,Qb4] at this; omega
    simp only [Instr.fill]
    have hcond : (decide (qv.cells.size ≠ st) || decide (qi * st + qv.cells.size > uss.flatten.toArray.size)) = false:=by
     rw [hsz]; simp only [ne_eq,not_true_eq_false,decide_false,Qah,decide_eq_false_iff_not,Qcl]; omega
    rw [if_neg (by rw [hcond]; simp)]
    have h6:=foldl_set0 qv.cells.toList (qi * st) uss.flatten.toArray (by rw [hle]; simpa using hbound)
    simp only [Qab] at h6
    rw [h6,setV_mid hu hi hle]
    exact e1
   ·cases h

theorem flat_lenV {st : Nat} : ∀ {xs : List (List Value)},(∀ x ∈ xs,x.length = st) → xs.flatten.length = xs.length * st
 | [],_=>by simp
 | x::xs,h=>by
   rw [Q9,Qm,h x (by simp),flat_lenV fun y hy=>h y (by simp [hy]),Q4,Qac,Qb4,Nat.add_comm]
theorem VRs_flatten {c : Cx} : ∀ {xs : List (List LV)} {uss : List (List Value)},xs.length = uss.length → (∀ (i : Nat) (x : List LV) (u : List Value),xs[i]? = some x → uss[i]? = some u → VRs c x u) → VRs c xs.flatten uss.flatten
 | [],[],_,_=>VRs.nil c
 | x::xs,[],h,_=>by simp at h
 | [],u::uss,h,_=>by simp at h
 | x::xs,u::uss,h,k=>by
   rw [Q9,Q9]
   exact VRs.append (k 0 x u rfl rfl) (VRs_flatten (by simpa using h) fun i x' u' hx hu=>k (i + 1) x' u' (by simpa using hx) (by simpa using hu))
theorem bsl_does (H : SR P c s tmps Ts w) {T : Env} {a : Act} {id : Nat} {t e : TypeId} {st n : Nat} {z : LV} {l : List (Nat × Opd)} {ps : Array (Nat × Value)} {v : LV} {s' : St}
  (ht : P.underlying t = some (.slice e)) (hst : tsize P e = some st) (hlim : ¬ (st = 0 ∨ n * st > 16777216)) (hz : zeroLV P e = some z) (hzl : z.cells.length = st) (hl : l.length = ps.size)
  (hp : ∀ (i : Nat) (p : Nat × Opd) (q : Nat × Value),l[i]? = some p → ps[i]? = some q → q.1 = p.1∧VR c (p.2.ev T) q.2) (h : (fillS st T l (List.replicate n z.cells)).bind (bslK id st n s) = some (v,s')) :
  Does P c tmps Ts w (Instr.buildSlice t n ps) v s':=by
 obtain ⟨xs',hf,h⟩:=Qa.1 h
 obtain ⟨i,zv,hi,hzv,hzr⟩:=zeroLV_ok (c:=c) hz
 obtain ⟨hzc,hz1⟩:=cells_VRs hzr (zero_one hz)
 have hzs : zv.cells.size = st:=by have:=hzc.len; simp only [Array.length_toList] at this; omega
 have hsize : i.size = st:=by unfold tsize at hst; rw [hi] at hst; simpa using hst
 simp only [not_or,Nat.not_lt] at hlim
 obtain ⟨uss',e1,e2,e3,e4,e5⟩:=fillS_ok (a:=a) (c:=c) (uss:=List.replicate n zv.cells.toList) (ps:=ps.toList) (by simp) (fun k x u hx hu=>by
  rw [List.getElem?_replicate] at hx hu
  split at hx
  ·rename_i hk
   rw [if_pos hk] at hu
   simp only [Option.some.injEq] at hx hu
   subst hx; subst hu; exact hzc
  ·cases hx) (fun u hu=>by rw [Qco hu]; simpa using hzs) hf (by simpa using hl) (fun i p q hpi hqi=>hp i p q hpi (by simpa using hqi))
 have hul : uss'.flatten.length = n * st:=by
  rw [flat_lenV e5,← e2,e3]; simp
 have hrun : (Instr.buildSlice t n ps).run P w = .ok (.slice (some ⟨w.heap.size,0,none⟩) n n) { w with heap:=w.heap.push (.cells uss'.flatten.toArray e) }:=by
  have hz0 : ((Array.range (n * st)).map (zv.cells[· % zv.cells.size]!)) = (List.replicate n zv.cells.toList).flatten.toArray:=by
   apply Array.ext
   ·simp [hzs]
   ·intro j h1 h2
    have hj : j < n * zv.cells.size:=by rw [hzs]; simpa using h1
    have a1:=zeros_get zv.cells n j hj
    have a2:=flat_rep' zv.cells.toList n j (by simpa using hj)
    rw [hzs] at a1
    have b1 : ((Array.range (n * st)).map (zv.cells[· % st]!))[j]? = (List.replicate n zv.cells.toList).flatten[j]?:=by
     rw [a1,a2]; simp [hzs]
    simp only [hzs] at h1 ⊢
    rw [Qaa (by simpa using h1),Qf (by simpa using h2)] at b1
    simpa using b1
  by_cases hn0 : n * st = 0
  ·have hn : n = 0:=by
    rcases Nat.mul_eq_zero.1 hn0 with h | h
    ·exact h
    ·omega
   subst hn
   have h7 : Instr.fill (fun i=>some (i * st,st)) #[] ps.toList = some uss'.flatten.toArray:=by simpa using e1
   have hr0 : (Array.range (0 * st)).map ((#[] : Array Value)[· % (#[] : Array Value).size]!) = #[]:=by apply Array.ext <;> simp
   simp only [Instr.buildSlice,Sem.run_bind,run_underlying ht,Result.andThen_ok,run_size hst]
   rw [if_neg (by omega),if_pos hn0]
   simp only [Sem.run_bind,Sem.run_pure,Result.andThen_ok,hr0,h7,newRow,run_newObj]
  ·have hlim2 : ¬ (16777216 < n * st):=by omega
   rw [← hz0] at e1
   simp only [Instr.buildSlice,Sem.run_bind,run_underlying ht,Result.andThen_ok,run_size hst]
   rw [if_neg (by omega),if_neg hn0]
   simp only [Sem.run_bind,run_zero hi hzv,Sem.run_pure,Result.andThen_ok,e1,newRow,run_newObj]
 unfold bslK at h
 cases hr : closeRows xs' s with
 | some r =>
   rw [hr] at h
   obtain ⟨ys,s1⟩:=r
   simp only [bslJ,rowK,Option.some.injEq,Prod.mk.injEq] at h
   obtain ⟨rfl,rfl⟩:=h
   obtain ⟨c1,H1,t1,hv1,hcl,hlen⟩:=closeRows_ok H (fun _ _ h=>h) (fun _ _ _ h=>h) e2 e4 hr
   have hyl : ys.length = n:=by
    have:=congrArg List.length hlen
    simp only [Qb] at this
    rw [this,e3]; simp
   have hyst : ∀ y ∈ ys,y.length = st:=by
    intro y hy
    obtain ⟨k,hk⟩:=Qat.1 hy
    have h1 : (ys.map List.length)[k]? = some y.length:=by simp [hk]
    rw [hlen] at h1
    simp only [Qan,Qc] at h1
    obtain ⟨x,hx,hxl⟩:=h1
    have hlt : k < uss'.length:=by rw [← e2]; exact (Qe.1 hx).1
    have:=(e4 k x _ hx (Qf hlt)).len
    rw [e5 _ (Qdk _)] at this
    omega
   have hone:=one_all hv1 (by
    rw [Qj]
    intro x hx
    obtain ⟨y,hy,hxy⟩:=Qcu.1 hx
    exact Qj.1 (hcl y hy).2 x hxy)
   obtain ⟨c2,H2,t2,hv2⟩:=newRow_ok H1 id (cap:=n) (e:=e) (cells:=uss'.flatten.toArray) hyst (fun y hy=>(hcl y hy).1) hv1 (by omega) hone (fun j v hj=>by simpa using hj) (by simp [hul] : n * st≤uss'.flatten.toArray.size)
   exact ⟨.slice (some ⟨w.heap.size,0,none⟩) n n,_,c2,hrun,H2,t1.trans t2,by rw [hyl] at hv2; exact hv2⟩
 | none =>
   rw [hr] at h
   simp only [bslJ,bslB] at h
   split at h
   ·rename_i hc
    simp only [Qg] at hc
    simp only [Option.some.injEq,Prod.mk.injEq] at h
    obtain ⟨rfl,rfl⟩:=h
    have hv1 : VRs c xs'.flatten uss'.flatten:=VRs_flatten e2 e4
    have h1:=one_all hv1 hc.1
    obtain ⟨c2,H2,t2,hi,_⟩:=H.new (w':={ w with heap:=w.heap.push (.cells uss'.flatten.toArray e) }) id (o:=.box xs'.flatten) (h:=⟨w.heap.size,0,0,0,false,none,by simp⟩) (Grew.push w _ (by simp [Go.Obj.soft])) (by simp) (fun c' hmu hio hm =>
     OR.box xs'.flatten uss'.flatten rfl (hv1.apart hc.2 hmu hio) (fun i x hx=>⟨by rw [cell_push]; simpa using hx,frozen_push _ _ _ _,h1 x (Qd hx)⟩) (hm rfl))
    exact ⟨.slice (some ⟨w.heap.size,0,none⟩) n n,_,c2,hrun,H2,t2,.bb id 0 st n _ _ n (Q8 _) hi (fun _=>rfl) (fun e=>by cases e)⟩
   ·cases h
end
end Go.Zv

/- The engine, part 15: maps are written; slices grow; copy. -/
namespace Go.Zv
section
variable {P : Program} {c : Cx} {w : World} {s : St} {tmps : Array Value} {Ts : List (Array Value)}

/-! maps -/
theorem updE_look {ks : List Nat} {k v : LV} : ∀ {es es' : List (LV × LV)},updE ks k v es = some es' →
  (lookupE ks k es = some none∧es' = es++[(k,v)]) ∨ ∃ i x,i < es.length∧lookupE ks k es = some (some x)∧es' = es.set i (k,v)∧(∀ j a y,j < i → es[j]? = some (a,y) → eqKey ks k a = some false) ∧ ∃ a y,es[i]? = some (a,y)∧eqKey ks k a = some true
 | [],es',h=>by simp only [updE,Option.some.injEq] at h; subst h; exact .inl ⟨rfl,rfl⟩
 | (a,y)::es,es',h=>by
   obtain ⟨b,hb,h⟩:=Qa.1 (show (eqKey ks k a).bind _ = some es' from h)
   obtain ⟨m,hm,h⟩:=Qa.1 h
   have hlk : ∃ r,lookupE ks k es = some r:=by
    rcases updE_look hm with ⟨h1,_⟩ | ⟨_,x,_,h2,_⟩
    ·exact ⟨_,h1⟩
    ·exact ⟨_,h2⟩
   obtain ⟨r0,hr0⟩:=hlk
   cases b with
   | true =>
     simp only [if_true,Option.some.injEq] at h; subst h
     exact .inr ⟨0,y,by simp,by simp [lookupE,hb,lookK,hr0],by simp,by simp,a,y,by simp,hb⟩
   | false =>
     simp only [Qh,if_false] at h
     simp only [consE,Option.some.injEq] at h; subst h
     rcases updE_look hm with ⟨h1,rfl⟩ | ⟨i,x,h1,h2,rfl,h3,a',y',h4,h5⟩
     ·exact .inl ⟨by simp [lookupE,hb,lookK,h1],by simp⟩
     ·refine .inr ⟨i + 1,x,by simpa using h1,by simp [lookupE,hb,lookK,h2],by simp,fun j a2 y2 hj hy=>?_,a',y',by simpa using h4,h5⟩
      cases j with
      | zero=>simp at hy; obtain ⟨rfl,rfl⟩:=hy; exact hb
      | succ j=>exact h3 j a2 y2 (by omega) (by simpa using hy)
theorem updE_of {ks : List Nat} {k v : LV} : ∀ {es : List (LV × LV)},(∀ e ∈ es,∃ b,eqKey ks k e.1 = some b) → ∃ m,updE ks k v es = some m
 | [],_=>⟨_,rfl⟩
 | (a,x)::l,h=>by
   obtain ⟨b,hb⟩:=h (a,x) (by simp)
   obtain ⟨m,hm⟩:=updE_of (es:=l) fun e he=>h e (by simp [he])
   simp only at hb
   refine ⟨if b = true then (k,v)::l else (a,x)::m,?_⟩
   show (eqKey ks k a).bind (updK k v a x l (updE ks k v l)) = _
   rw [hb,hm]
   cases b <;> rfl
theorem keys_set {es : List (LV × LV)} {i : Nat} {k v y : LV} (h : es[i]? = some (k,y)) : (es.set i (k,v)).map Prod.fst = es.map Prod.fst:=by
 refine Qc2 fun j=>?_
 rw [Qan,Qan,Qcm]
 split
 ·rename_i e; subst e
  have h1:=(Qe.1 h).1
  rw [if_pos h1,h]; rfl
 ·rfl
theorem set_perm {α : Type} {es : List α} {i : Nat} {q : α} (h : i < es.length) : (es.set i q).Perm (q::es.eraseIdx i):=by
 induction es generalizing i with
 | nil=>simp at h
 | cons e es ih =>
   cases i with
   | zero=>simp
   | succ i =>
     simp only [Q4,Nat.add_lt_add_iff_right] at h
     simp only [List.set_cons_succ,List.eraseIdx_cons_succ]
     exact ((ih h).cons e).trans (List.Perm.swap q e _)
theorem get_perm {α : Type} {es : List α} {i : Nat} {q : α} (h : es[i]? = some q) : es.Perm (q::es.eraseIdx i):=by
 obtain ⟨h1,h2⟩:=Qe.1 h
 have:=set_perm (q:=q) h1
 subst h2
 rwa [List.set_getElem_self] at this

theorem updE_perm {ks : List Nat} {k v : LV} {es es0 es' : List (LV × LV)} (hp : es0.Perm es) (hd : (es0.map Prod.fst).Nodup) (h : updE ks k v es = some es') :
  ∃ es1,updE ks k v es0 = some es1∧es1.Perm es'∧(es1.map Prod.fst).Nodup:=by
 have hcmp : ∀ e ∈ es,∃ b,eqKey ks k e.1 = some b:=by
  rcases updE_look h with ⟨h1,_⟩ | ⟨_,x,_,h2,_⟩
  ·exact lookupE_cmp h1
  ·exact lookupE_cmp h2
 obtain ⟨m,hm⟩:=updE_of (v:=v) (es:=es0) fun e he=>hcmp e (hp.mem_iff.1 he)
 refine ⟨m,hm,?_⟩
 rcases updE_look h with ⟨h1,rfl⟩ | ⟨i,x,h1,h2,rfl,h3,a,y,h4,h5⟩
 ·rcases updE_look hm with ⟨k1,rfl⟩ | ⟨j,z,k1,k2,rfl,k3,a',y',k4,k5⟩
  ·refine ⟨hp.append_right _,?_⟩
   rw [Ql,List.nodup_append]
   refine ⟨hd,by simp,fun a ha b hb=>?_⟩
   simp only [Qk,Q0,Qae] at hb
   subst hb
   intro e; subst e
   obtain ⟨q,hq,rfl⟩:=Q6.1 ha
   exact (lookupE_mem k1).2 rfl q.2 (by simpa using hq)
  ·rw [lookupE_perm hp hd h1] at k2; cases k2
 ·rcases updE_look hm with ⟨k1,rfl⟩ | ⟨j,z,k1,k2,rfl,k3,a',y',k4,k5⟩
  ·rw [lookupE_perm hp hd h2] at k1; cases k1
  ·have e1:=(eqKey_iff h5).1 rfl
   have e2:=(eqKey_iff k5).1 rfl
   subst e1; subst e2
   have hy : y' = y:=nodup_key hd (Qd k4) (hp.mem_iff.2 (Qd h4))
   subst hy
   have hq:=(get_perm k4).symm.trans (hp.trans (get_perm h4))
   rw [List.perm_cons] at hq
   refine ⟨(set_perm k1).trans ((hq.cons _).trans (set_perm h1).symm),?_⟩
   rw [keys_set k4]; exact hd

theorem findNow_at {t : TypeId} {ks : List Nat} (hK : KeyT P t ks) {d : TypeDesc} (hd : P.underlying t = some d) {k : LV} {u : Value} (hk : VR c k u) : ∀ {es : List (LV × LV)} {en : List MapEntry} {i : Nat},ER c es en → (∀ j a y,j < i → es[j]? = some (a,y) → eqKey ks k a = some false) → (∃ a y,es[i]? = some (a,y)∧eqKey ks k a = some true) → ∀ i0,
  (∃ m,en[i]? = some m∧Instr.findNow d u en i0 = some (some (i0 + i,m.val))) ∨ Instr.findNow d u en i0 = none
 | [],en,i,hE,_,⟨a,y,h,_⟩,i0=>by simp at h
 | e::es,[],i,hE,_,_,i0=>by have:=hE.len; simp at this
 | e::es,m::en,0,hE,_,⟨a,y,h,hb⟩,i0=>by
   simp at h; subst h
   obtain ⟨_,_,_,hnow⟩:=eqKey_ok (w:=default) hK hb hk hE.head.1
   simp only [Instr.findNow]
   rcases hnow d hd with h1 | h1
   ·rw [h1]; exact .inl ⟨m,by simp,rfl⟩
   ·rw [h1]; exact .inr rfl
 | e::es,m::en,i + 1,hE,hf,⟨a,y,h,hb⟩,i0=>by
   obtain ⟨_,_,_,hnow⟩:=eqKey_ok (w:=default) hK (hf 0 e.1 e.2 (by omega) rfl) hk hE.head.1
   simp only [Instr.findNow]
   rcases hnow d hd with h1 | h1
   ·rw [h1]
    rcases findNow_at (i:=i) hK hd hk hE.tail (fun j a y hj hy=>hf (j + 1) a y (by omega) (by simpa using hy)) ⟨a,y,by simpa using h,hb⟩ (i0 + 1) with ⟨m',h2,h3⟩ | h3
    ·exact .inl ⟨m',by simpa using h2,by rw [show i0 + (i + 1) = i0 + 1 + i by omega]; exact h3⟩
    ·exact .inr h3
   ·rw [h1]; exact .inr rfl
theorem findAsking_at {t : TypeId} {ks : List Nat} (hK : KeyT P t ks) {k : LV} {u : Value} (hk : VR c k u) : ∀ {es : List (LV × LV)} {en : List MapEntry} {i : Nat},ER c es en → (∀ j a y,j < i → es[j]? = some (a,y) → eqKey ks k a = some false) → (∃ a y,es[i]? = some (a,y)∧eqKey ks k a = some true) → ∀ i0,
  ∃ m,en[i]? = some m∧(Instr.findAsking t u en i0).run P w = .ok (some (i0 + i,m.val)) w
 | [],en,i,hE,_,⟨a,y,h,_⟩,i0=>by simp at h
 | e::es,[],i,hE,_,_,i0=>by have:=hE.len; simp at this
 | e::es,m::en,0,hE,_,⟨a,y,h,hb⟩,i0=>by
   simp at h; subst h
   obtain ⟨heq,_,_,_⟩:=eqKey_ok (w:=w) hK hb hk hE.head.1
   exact ⟨m,by simp,by simp [Instr.findAsking,heq]⟩
 | e::es,m::en,i + 1,hE,hf,⟨a,y,h,hb⟩,i0=>by
   obtain ⟨heq,_,_,_⟩:=eqKey_ok (w:=w) hK (hf 0 e.1 e.2 (by omega) rfl) hk hE.head.1
   obtain ⟨m',h2,h3⟩:=findAsking_at (i:=i) hK hk hE.tail (fun j a y hj hy=>hf (j + 1) a y (by omega) (by simpa using hy)) ⟨a,y,by simpa using h,hb⟩ (i0 + 1)
   exact ⟨m',by simpa using h2,by simp only [Instr.findAsking,Sem.run_bind,heq,Result.andThen_ok]; rw [show i0 + (i + 1) = i0 + 1 + i by omega]; simpa using h3⟩
theorem findKey_at {t : TypeId} {ks : List Nat} (hK : KeyT P t ks) {k : LV} {u : Value} (hk : VR c k u) {es : List (LV × LV)} {en : List MapEntry} {i : Nat} (hE : ER c es en) (hf : ∀ j a y,j < i → es[j]? = some (a,y) → eqKey ks k a = some false) (hi : ∃ a y,es[i]? = some (a,y)∧eqKey ks k a = some true) :
  ∃ m,en[i]? = some m∧(Instr.findKey t u en).run P w = .ok (some (i,m.val)) w:=by
 obtain ⟨ag,l,hag,hfl,e⟩:=hK.ex
 obtain ⟨d,hd,_⟩:=isAgg_cases hag
 unfold Instr.findKey
 simp only [Sem.run_bind,run_underlying hd,Result.andThen_ok]
 rcases findNow_at hK hd hk hE hf hi 0 with ⟨m,h1,h2⟩ | hn
 ·rw [h2]; exact ⟨m,h1,by simp⟩
 ·rw [hn]
  obtain ⟨m,h1,h2⟩:=findAsking_at (w:=w) hK hk hE hf hi 0
  exact ⟨m,h1,by simpa using h2⟩

theorem mpu_does (H : SR P c s tmps Ts w) {t kt e : TypeId} {ks : List Nat} (ht : P.underlying t = some (.map kt e)) (hK : KeyT P kt ks) {x k y v : LV} {ux uk uy : Value} {s' : St} (hx : VR c x ux) (hk : VR c k uk) (hy : VR c y uy) (h : mpuV ks k y s x = some (v,s')) :
  v = .undef ∧ ∃ w' c',(Instr.mapUpdate t ux uk uy).run P w = .ok () w'∧SR P c' s' tmps Ts w'∧Tr c w c' w':=by
 unfold mpuV at h
 split at h
 ·rename_i id
  unfold mpuO at h
  split at h
  ·rename_i es ho
   split at h
   ·rename_i hcl
    obtain ⟨b,hb,h⟩:=Qa.1 h
    obtain ⟨es',he,h⟩:=Qa.1 h
    simp only [mpuK,okU,Option.some.injEq,Prod.mk.injEq] at h
    obtain ⟨rfl,rfl⟩:=h
    refine ⟨rfl,?_⟩
    cases hx with
    | mp _ hh hi =>
      obtain ⟨h2,hi2,hor⟩:=H.O _ _ ho
      rw [hi] at hi2; cases hi2
      cases hor with
      | map _ es0 en clock hn hw hl hv hm hp hd =>
        obtain ⟨es1,he0,hp1,hd1⟩:=updE_perm hp hd he
        have hE : ER c es0 en.toList:=⟨by simp [hl],fun i e m he hm=>hv i e m he (by simpa using hm)⟩
        obtain ⟨_,hck,_,_⟩:=eqKey_ok (w:=w) hK hb hk hk
        have only : ∀ ob : Go.Obj,(∀ cc e fr,ob ≠ .cells cc e fr) → Only w { w with heap:=w.heap.setIfInBounds hh.blk ob } hh.blk:=fun ob hob=>by
         refine ⟨by simp,fun b' hb'=>by simp [Qav,Ne.symm hb'],fun a=>?_,⟨rfl,rfl⟩,fun r hr=>by rw [hw] at hr; cases hr⟩
         simp only [World.frozen?]
         by_cases e : a.block = hh.blk
         ·rw [e,hw]
          have hlt:=(Qaj.1 hw).1
          simp only [Array.getElem?_setIfInBounds_self_of_lt hlt]
          cases ob with
          | cells cc e fr=>exact absurd rfl (hob cc e fr)
          | _=>rfl
         ·simp [Qav,Ne.symm e]
        have hlt:=(Qaj.1 hw).1
        rcases updE_look he0 with ⟨h1,rfl⟩ | ⟨i,x0,h1,h2,rfl,h3,h4⟩
        ·obtain ⟨q,hq,hF⟩:=findKey_ok (w:=w) hK hk hE h1
         cases q with
         | some p=>exact hF.elim
         | none =>
           let w' : World:={ w with heap:=w.heap.setIfInBounds hh.blk (.map (en.push { key:=uk,val:=uy,born:=clock }) (clock + 1)) }
           obtain ⟨H2,t2⟩:=H.upd (w':=w') ho hi hn (only _ (by simp)) (o':=.map es') (OR.map _ _ (en.push { key:=uk,val:=uy,born:=clock }) (clock + 1) hn (by simp [w',hlt]) (by simp [hl]) (fun j ee m hj hmj=>by
            rw [Qbj] at hj
            rw [Array.getElem?_push] at hmj
            split at hj
            ·rename_i hlt2
             rw [if_neg (by omega)] at hmj
             exact hv j ee m hj hmj
            ·rename_i hge
             have : j = en.size:=by
              have:=(Qe.1 hj).1
              simp at this; omega
             subst this
             simp [hl] at hj hmj
             subst hj; subst hmj
             exact ⟨hk,hy,hcl.1,hcl.2⟩) hm hp1 hd1)
           refine ⟨w',c,?_,H2,t2⟩
           simp [Instr.mapUpdate,run_underlying ht,getObj,setObj,Sem.run,hw,hck,hq,w']
        ·obtain ⟨m,hm1,hq⟩:=findKey_at (w:=w) hK hk hE h3 h4
         have hm1' : en[i]? = some m:=by simpa using hm1
         obtain ⟨a,y0,h5,h6⟩:=h4
         obtain ⟨_,_,hbits,_⟩:=eqKey_ok (w:=w) hK h6 hk (hE.at_ i _ m h5 hm1).1
         let w' : World:={ w with heap:=w.heap.setIfInBounds hh.blk (.map (en.modify i fun e=>{ e with key:=uk,val:=uy }) clock) }
         obtain ⟨H2,t2⟩:=H.upd (w':=w') ho hi hn (only _ (by simp)) (o':=.map es') (OR.map _ _ (en.modify i fun e=>{ e with key:=uk,val:=uy }) clock hn (by simp [w',hlt]) (by simp [hl]) (fun j ee m2 hj hmj=>by
          rw [Qcm] at hj
          rw [Array.getElem?_modify] at hmj
          by_cases e : i = j
          ·subst e
           rw [if_pos rfl,if_pos h1] at hj
           simp only [if_true,hm1',Qay,Option.some.injEq] at hj hmj
           subst hj; subst hmj
           exact ⟨hk,hy,hcl.1,hcl.2⟩
          ·rw [if_neg e] at hj
           simp only [if_neg e] at hmj
           exact hv j ee m2 hj hmj) hm hp1 hd1)
         refine ⟨w',c,?_,H2,t2⟩
         have hks : Instr.sameBits 10000 m.key uk = true:=hbits rfl
         simp [Instr.mapUpdate,run_underlying ht,getObj,setObj,Sem.run,hw,hck,hq,hm1',Instr.keyThatStays,hks,w']
   ·cases h
  ·cases h
 ·cases h
end
end Go.Zv

/- The engine, part 16: slices grow; copy. -/
namespace Go.Zv
section
variable {P : Program} {c : Cx} {w : World} {s : St} {tmps : Array Value} {Ts : List (Array Value)}

theorem growBy_le (n : Nat) : ∀ (r c : Nat),c≤2 * n + 768 → Builtin.growBy n r c≤2 * n + 768
 | 0,c,h=>by simpa [Builtin.growBy] using h
 | r + 1,c,h=>by
   simp only [Builtin.growBy]
   split
   ·exact h
   ·exact growBy_le n r _ (by omega)
theorem nextcap_le {n c : Nat} (h : c < n) : Builtin.nextslicecap n c≤2 * n + 768:=by
 unfold Builtin.nextslicecap
 split
 ·omega
 ·split
  ·omega
  ·exact growBy_le n 4 c (by omega)

theorem lies_first {st : Nat} {xs : List (List LV)} {u : Value} (h : Lies c w st xs u) (hal : allLen st xs = true) :
  ∃ vals : List Value,vals.length = xs.length * st∧VRs c xs.flatten vals∧(∀ v ∈ vals,v.oneCell' = true)∧Builtin.lenOf u = Sem.pure xs.length ∧
    ∀ (m : Nat) (w1 : World),m≤xs.length → w1.heap = w.heap → (Builtin.firstCells st m u).run P w1 = .ok (vals.take (m * st)).toArray w1:=by
 rcases h.ex with ⟨l,rfl,rfl⟩ | ⟨q,cap,rfl,hcap,hne⟩
 ·have hl : (u8s l).length = l.length:=by simp [u8s]
  refine ⟨l.map fun b=>.int .u8 b.toNat,?_,?_,?_,?_,?_⟩
  ·rw [Qb,hl]
   cases l with
   | nil=>simp
   | cons b l =>
     have:=allLen_at hal (i:=0) (x:=[u8 b]) (by simp [u8s])
     simp at this; subst this; simp
  ·have : (u8s l).flatten = l.map u8:=by
    unfold u8s
    clear hal h hl
    induction l with
    | nil=>rfl
    | cons b l ih=>simp [ih]
   rw [this]
   exact ⟨by simp,fun i x v hx hv=>by
    simp only [Qan,Qc] at hx hv
    obtain ⟨b,hb,rfl⟩:=hx
    obtain ⟨b2,hb2,rfl⟩:=hv
    rw [hb] at hb2; cases hb2
    exact .int _ _⟩
  ·intro v hv
   obtain ⟨b,_,rfl⟩:=Q6.1 hv
   rfl
  ·show Sem.pure _ = _
   rw [hl]; simp [ByteArray.size_mk']
  ·intro m w1 hm hw
   rw [hl] at hm
   simp only [Builtin.firstCells,Sem.run_pure]
   congr 1
   cases l with
   | nil =>
     apply Array.ext'
     simp
   | cons b l =>
     have:=allLen_at hal (i:=0) (x:=[u8 b]) (by simp [u8s])
     simp at this; subst this
     apply Array.ext'
     simp [ByteArray.data_extract,List.map_take]
 ·by_cases hx : xs = []
  ·subst hx
   refine ⟨[],by simp,VRs.nil c,by simp,rfl,fun m w1 hm hw=>?_⟩
   have hm0 : m = 0:=by simpa using hm
   subst hm0
   cases q with
   | none=>simp [Builtin.firstCells]
   | some q=>simp [Builtin.firstCells,loadCells,loadCellsFrom]
  ·obtain ⟨b,o,vals,rfl,h1,h2,h3⟩:=hne hx
   refine ⟨vals,h1,h2,fun v hv=>?_,rfl,fun m w1 hm hw=>?_⟩
   ·obtain ⟨i,hi⟩:=Qat.1 hv
    exact (h3 i v hi).2
   ·have hl:=run_loadCells_list (P:=P) w1 ⟨b,o,none⟩ (vals.take (m * st)) (fun j v hj=>by
     rw [Qak] at hj
     split at hj
     ·rw [Addr.add_mid]
      have:=(h3 j v hj).1
      simpa [World.cell?,hw] using this
     ·cases hj)
    have hmin : (vals.take (m * st)).length = m * st:=by
     rw [Qbp,h1,Nat.min_eq_left (Qa1 _ hm)]
    rw [hmin] at hl
    simpa [Builtin.firstCells] using hl

theorem zeroCells_size (z : Array Value) (n : Nat) : (Builtin.zeroCells z n).size = n * z.size:=by simp [Builtin.zeroCells]

theorem run_append_room' {ts : Array TypeId} {t tx ty e : TypeId} (hts0 : ts[0]? = some t) (hts1 : ts[1]? = some tx) {i : TypeInfo} {d : TypeDesc} (ht : P.underlying t = some (.slice e)) (hi : P.info? e = some i) (htx : P.underlying tx = some d) (hd : ∀ k,d ≠ .int k)
  {base : Option Addr} {sLen sCap n : Nat} {x : Value} {news : Array Value} (hlen : Builtin.lenOf x = Sem.pure n) (hnews : (Builtin.firstCells i.size n x).run P w = .ok news w) (hroom : sLen + n≤sCap) :
  (Builtin.append_ ts ty #[.slice base sLen sCap,x]).run P w =
   match base with
   | some a=>((storeCells (a.add (sLen * i.size)) news.toList).run P w).andThen fun _ w'=>.ok (.slice base (sLen + n) sCap) w'
   | none=>.ok (.slice none (sLen + n) sCap) w:=by
 have hz : (match d with | .int _=>true | _=>false) = false:=by cases d <;> first | rfl | exact absurd rfl (hd _)
 have hl : (Builtin.lenOf x).run P w = .ok n w:=by rw [hlen]; rfl
 cases base <;> simp [Builtin.append_,hts0,hts1,run_underlying ht,run_underlying htx,sizeOf,typeInfo,hi,hz,hl,hnews,hroom]
theorem run_append_grow' {ts : Array TypeId} {t tx ty e : TypeId} (hts0 : ts[0]? = some t) (hts1 : ts[1]? = some tx) {i : TypeInfo} {z : Value} {d : TypeDesc} (ht : P.underlying t = some (.slice e)) (hi : P.info? e = some i) (hzv : i.zero = some z) (htx : P.underlying tx = some d) (hd : ∀ k,d ≠ .int k) (hb : i.bytes≤16384)
  {base : Option Addr} {sLen sCap n : Nat} {x : Value} {news olds : Array Value} (hlen : Builtin.lenOf x = Sem.pure n) (hnews : (Builtin.firstCells i.size n x).run P w.drew = .ok news w.drew) (hold : (Builtin.firstCells i.size sLen (.slice base sLen sCap)).run P w.drew = .ok olds w.drew)
  (hroom : ¬ sLen + n≤sCap) (hlim : sLen + n≤1000000000) :
  ∃ cap,sLen + n≤cap∧(Builtin.append_ ts ty #[.slice base sLen sCap,x]).run P w =
    .ok (.slice (some ⟨w.heap.size,0,none⟩) (sLen + n) cap) { w.drew with heap:=w.heap.push (.cells (olds++news++Builtin.zeroCells z.cells (cap - (sLen + n))) e) }:=by
 have hz : (match d with | .int _=>true | _=>false) = false:=by cases d <;> first | rfl | exact absurd rfl (hd _)
 have hl : (Builtin.lenOf x).run P w = .ok n w:=by rw [hlen]; rfl
 have h63 : ¬ (9223372036854775807 < ((sLen : Int) + (n : Int))):=by omega
 have h48 : ¬ (281474976710656 < Builtin.nextslicecap (sLen + n) sCap * i.bytes):=by
  have h1:=nextcap_le (n:=sLen + n) (c:=sCap) (by omega)
  have : Builtin.nextslicecap (sLen + n) sCap * i.bytes≤(2 * 1000000000 + 768) * 16384:=Qdq (by omega) hb
  omega
 have hq : (Question.appendCap (sLen + n) sCap e).forced = false:=rfl
 refine ⟨(Question.appendCap (sLen + n) sCap e).cut (w.tape w.drawn (Question.appendCap (sLen + n) sCap e)),by simp [Question.cut],?_⟩
 have hnews' : (Builtin.firstCells i.size n x).run P { w with drawn:=w.drawn + 1 } = .ok news { w with drawn:=w.drawn + 1 }:=hnews
 have hold' : (Builtin.firstCells i.size sLen (.slice base sLen sCap)).run P { w with drawn:=w.drawn + 1 } = .ok olds { w with drawn:=w.drawn + 1 }:=hold
 simp [Builtin.append_,hts0,hts1,run_underlying ht,run_underlying htx,sizeOf,typeInfo,hi,hz,hl,hroom,h63,h48,hq,hnews,hold,zeroValue,hzv,newRow]
 rfl

theorem bs_slice {id off len : Nat} {u : Value} (h : VR c (.bs id off len) u) : ∃ h a cap,c.io id = some h∧u = .slice a len cap∧len≤cap∧(off = 0 → a = h.addr∧cap = h.cap)∧(len ≠ 0 → h.nul = false∧a = some ⟨h.blk,h.off + off * h.st,none⟩)∧(off ≠ 0 → (cap = 0∧h.cap≤off) ∨ (h.nul = false∧a = some ⟨h.blk,h.off + off * h.st,none⟩∧off + cap = h.cap)):=by
 cases h with | bs _ _ _ h a cap hcap hi h0 h1 h2=>exact ⟨h,a,cap,hi,rfl,hcap,h0,h1,h2⟩

theorem row_vals {h : Home} {xs : List (List LV)} {val : Nat → Nat → Value} {len : Nat} (hle : len≤xs.length) (hs : ∀ (i : Nat) (x : List LV),xs[i]? = some x → x.length = h.st∧LV.closeds x = true)
  (hv : ∀ (i : Nat) (x : List LV) (j : Nat) (y : LV),xs[i]? = some x → x[j]? = some y → w.cell? ⟨h.blk,h.off + i * h.st + j,none⟩ = some (val i j)∧(val i j).oneCell' = true∧VR c y (val i j)) :
  ∃ vals : List Value,vals.length = len * h.st∧VRs c (xs.take len).flatten vals ∧ ∀ j v,vals[j]? = some v → w.cell? ⟨h.blk,h.off + j,none⟩ = some v∧v.oneCell' = true:=by
 have hget : ∀ (k : Nat) (x : List LV),(xs.take len)[k]? = some x → xs[k]? = some x:=by
  intro k x hx
  rw [Qak] at hx
  split at hx
  ·exact hx
  ·cases hx
 obtain ⟨vals,k1,k2,k3⟩:=rows_flat (w:=w) (c:=c) (b:=h.blk) (st:=h.st) (R:=fun v=>v.oneCell' = true) (xs.take len) h.off val (fun x hx=>by
  obtain ⟨k,hk⟩:=Qat.1 hx
  exact (hs k x (hget k x hk)).1) (fun i x j y hx hy=>hv i x j y (hget i x hx) hy)
 exact ⟨vals,by rw [k1,Qbp,Nat.min_eq_left hle],k2,k3⟩

theorem OR.flat {c' : Cx} {w' : World} {h : Home} (hn : h.nul = false) {xs : List (List LV)} {vals : List Value} (hl : ∀ x ∈ xs,x.length = h.st) (hcl : ∀ x ∈ xs,LV.closeds x = true) (hv : VRs c' xs.flatten vals) (hcap : xs.length≤h.cap)
  (hc : ∀ j v,vals[j]? = some v → w'.cell? ⟨h.blk,h.off + j,none⟩ = some v∧v.oneCell' = true) (hsp : ∀ k,k < h.cap * h.st → (w'.cell? ⟨h.blk,h.off + k,none⟩).isSome = true∧w'.frozen? ⟨h.blk,h.off + k,none⟩ = false) (hm : ∀ x,c'.mu h.blk x = none) :
  OR P c' w' h (.row h.st xs):=by
 refine OR.row xs (fun i j=>vals.getD (i * h.st + j) undef) (fun i x hx=>⟨hl x (Qd hx),hcl x (Qd hx)⟩) (fun i x j y hx hy=>?_) hcap (by simp [hn]) (fun _=>hsp) (fun _=>hm)
 obtain ⟨v,hv1,hv2⟩:=hv.getSome (flat_get hl hx hy)
 have e : vals.getD (i * h.st + j) undef = v:=by simp [List.getD,hv1]
 rw [e,Qaz]
 obtain ⟨a1,a2⟩:=hc _ v hv1
 exact ⟨a1,a2,hv2⟩

theorem app_room {e : TypeId} {st : Nat} {ys : List (List LV)} {news : List Value} (H : SR P c s tmps Ts w) {id len : Nat} {ub : Value} (hb : VR c (.bs id 0 len) ub) {xs : List (List LV)} (ho : oget s.O id = some (.row st xs)) (hle : len≤xs.length)
  (hyl : ∀ y ∈ ys,y.length = st) (hyc : ∀ y ∈ ys,LV.closeds y = true) (hnv : VRs c ys.flatten news) (hn1 : ∀ v ∈ news,v.oneCell' = true) {m : Sem Value}
  (hroom : ∀ base sCap,ub = .slice base len sCap → len + ys.length≤sCap → m.run P w = match base with
   | some a=>((storeCells (a.add (len * st)) news).run P w).andThen fun _ w'=>.ok (.slice base (len + ys.length) sCap) w'
   | none=>.ok (.slice none (len + ys.length) sCap) w)
  (hgrow : ∀ base sCap olds,ub = .slice base len sCap → ¬ len + ys.length≤sCap → (∀ w1 : World,w1.heap = w.heap → (Builtin.firstCells st len (.slice base len sCap)).run P w1 = .ok olds w1) → ∃ cap z,len + ys.length≤cap∧z.size = (cap - (len + ys.length)) * st ∧
   m.run P w = .ok (.slice (some ⟨w.heap.size,0,none⟩) (len + ys.length) cap) { w.drew with heap:=w.heap.push (.cells (olds++news.toArray++z) e) }) :
  Does P c tmps Ts w m (.bs id 0 (len + ys.length)) (St.sub .kill id { s with O:=oset s.O id (.row st (xs.take len++ys)) }):=by
 obtain ⟨h,a,cap,hi,rfl,hcap,h0,h1,_⟩:=bs_slice hb
 obtain ⟨rfl,rfl⟩:=h0 rfl
 obtain ⟨h2,hi2,hor⟩:=H.O id _ ho
 rw [hi] at hi2; cases hi2
 cases hor with
 | row _ val hs hv hl h0' hsp hm =>
   obtain ⟨vals,k1,k2,k3⟩:=row_vals hle hs hv
   have hfl : (xs.take len++ys).flatten = (xs.take len).flatten++ys.flatten:=by rw [List.flatten_append]
   have hall : ∀ x ∈ xs.take len++ys,x.length = h.st∧LV.closeds x = true:=fun x hx=>by
    rcases Qs.1 hx with hx | hx
    ·obtain ⟨k,hk⟩:=Qat.1 (List.mem_of_mem_take hx)
     exact hs k x hk
    ·exact ⟨hyl x hx,hyc x hx⟩
   have hlen : (xs.take len++ys).length = len + ys.length:=by simp; omega
   have hnl : news.length = ys.length * h.st:=by rw [← hnv.len,flat_len hyl]
   by_cases hr : len + ys.length≤h.cap
   ·-- in place
    have hrun:=hroom h.addr h.cap rfl hr
    cases hnul : h.nul with
    | true =>
      have hc0:=h0' hnul
      have e1 : len = 0:=by omega
      have e2 : ys = []:=Qo (by omega)
      have e3 : xs = []:=Qo (by omega)
      subst e1; subst e2; subst e3
      have e4 : news = []:=Qo (by simpa using hnl)
      subst e4
      have hrun' : m.run P w = .ok (.slice h.addr 0 h.cap) w:=by
       rw [hrun]
       cases hq : h.addr <;> simp [storeCells]
      obtain ⟨c',H',t',hi',hmu'⟩:=H.move (w':=w) (h':=h) (ys:=[]) ho hi (Q8 _) (fun _ _ _=>rfl) (by simp [hnul]) (fun _=>rfl) ⟨rfl,rfl⟩ (by simp [hnul]) (fun _ r h=>⟨r,h⟩) (fun c' _ _ =>
       OR.row [] (fun _ _=>undef) (by simp) (by simp) (Qcj _) h0' (by simp [hnul]) (by simp [hnul]))
      refine ⟨_,w,c',hrun',by simpa using H',t',?_⟩
      exact .bs id 0 0 h _ _ (Qcj _) hi' (fun _=>⟨rfl,rfl⟩) (by simp) (fun h=>absurd rfl h)
    | false =>
      have hsp':=hsp hnul
      have haddr : h.addr = some ⟨h.blk,h.off,none⟩:=by simp [Home.addr,hnul]
      have hcapst : len * h.st + news.length≤h.cap * h.st:=by
       rw [hnl,← Qac]; exact Qa1 _ hr
      have hst : (storeCells ((⟨h.blk,h.off,none⟩ : Addr).add (len * h.st)) news).run P w = .ok () (w.setCells h.blk (h.off + len * h.st) news):=by
       rw [Addr.add_mid]
       have:=run_storeCells_cells (P:=P) h.blk (h.off + len * h.st) news 0 w (fun j hj=>by
        have:=(hsp' (len * h.st + j) (by omega)).1
        rwa [← Qaz] at this) (fun j hj=>by
        have:=(hsp' (len * h.st + j) (by omega)).2
        rwa [← Qaz] at this) hn1
       simpa using this
      have hrun' : m.run P w = .ok (.slice h.addr (len + ys.length) h.cap) (w.setCells h.blk (h.off + len * h.st) news):=by
       rw [hrun,haddr]; simp only [hst,Result.andThen_ok]
      have only:=only_setCells w h.blk (h.off + len * h.st) news
      obtain ⟨c',H',t',hi',hmu'⟩:=H.move (w':=w.setCells h.blk (h.off + len * h.st) news) (h':=h) (st:=h.st) (ys:=xs.take len++ys) ho hi (by rw [only.size]; exact Q8 _) (fun b hb hne=>only.same b (hne hnul)) (fun _=>⟨by rw [only.size]; exact H.lt id h hi hnul,.inl ⟨hnul,rfl⟩⟩) only.frz only.env (fun hn=>hm hn) only.loops (fun c' hcm hx =>
       OR.flat hnul (vals:=vals++news) (fun x hx=>(hall x hx).1) (fun x hx=>(hall x hx).2) (by
        rw [hfl]
        have hcl : ∀ (i : Nat) (x : LV) (L : List (List LV)),(∀ y ∈ L,LV.closeds y = true) → L.flatten[i]? = some x → LV.closed x = true:=by
         intro i x L hL hx
         obtain ⟨y,hy,hxy⟩:=Qcu.1 (Qd hx)
         obtain ⟨k,hk⟩:=Qat.1 hxy
         exact closeds_at (hL y hy) hk
        have hmm : ∀ b o v,c.mu b o = some v → c'.mu b o = some v:=fun b o v hv=>by rw [hcm]; exact hv
        exact VRs.append ⟨k2.len,fun i x v hx hv=>(k2.at_ i x v hx hv).closed hmm (hcl i x _ (fun y hy=>(hall y (Qb3 _ hy)).2) hx)⟩
         ⟨hnv.len,fun i x v hx hv=>(hnv.at_ i x v hx hv).closed hmm (hcl i x _ hyc hx)⟩) (by rw [hlen]; exact hr) (fun j v hj=>by
        rw [Qbj] at hj
        split at hj
        ·rename_i hlt
         obtain ⟨a1,a2⟩:=k3 j v hj
         refine ⟨?_,a2⟩
         rw [World.cell?_setCells_out _ _ _ _ _ (fun _ _=>.inl (show h.off + j < h.off + len * h.st by omega))]
         exact a1
        ·rename_i hge
         have hlt : j - vals.length < news.length:=(Qe.1 hj).1
         have:=World.cell?_setCells_in h.blk news (h.off + len * h.st) w (fun i hi=>by
          have:=(hsp' (len * h.st + i) (by omega)).1
          rwa [← Qaz] at this) (j - vals.length) hlt
         rw [show h.off + len * h.st + (j - vals.length) = h.off + j by omega] at this
         rw [this,← hj,Qf hlt]
         exact ⟨rfl,hn1 v (Qd hj)⟩) (fun k hk=>by
        obtain ⟨a1,a2⟩:=hsp' k hk
        exact ⟨World.isSome_setCells _ _ _ _ _ a1,by rw [World.frozen?_setCells]; exact a2⟩) (hx hnul))
      refine ⟨_,_,c',hrun',H',t',?_⟩
      exact .bs id 0 _ h _ _ hr hi' (fun _=>⟨rfl,rfl⟩) (fun _=>⟨hnul,by simp [haddr]⟩) (fun h=>absurd rfl h)
   ·-- it moves
    have hold : ∀ w1 : World,w1.heap = w.heap → (Builtin.firstCells h.st len (.slice h.addr len h.cap)).run P w1 = .ok vals.toArray w1:=by
     intro w1 hw1
     by_cases hz : len = 0
     ·subst hz
      have : vals = []:=Qo (by simpa using k1)
      subst this
      cases h.addr <;> simp [Builtin.firstCells,loadCells,loadCellsFrom]
     ·obtain ⟨hnn,ha⟩:=h1 hz
      rw [ha]
      have hl:=run_loadCells_list (P:=P) w1 ⟨h.blk,h.off,none⟩ vals (fun j v hj=>by
       rw [Addr.add_mid]
       have:=(k3 j v hj).1
       simpa [World.cell?,hw1] using this)
      rw [k1] at hl
      simpa [Builtin.firstCells] using hl
    obtain ⟨cap,z,hcap2,hz,hrun⟩:=hgrow h.addr h.cap vals.toArray rfl hr hold
    let w' : World:={ w.drew with heap:=w.heap.push (.cells (vals.toArray++news.toArray++z) e) }
    have g : Grew w w':=(Grew.drew w).trans (Grew.push w.drew _ (by simp [Go.Obj.soft]))
    have hcellp : ∀ i,w'.cell? ⟨w.heap.size,i,none⟩ = (vals.toArray++news.toArray++z)[i]?:=fun i=>cell_push w _ e i
    obtain ⟨c',H',t',hi',hmu'⟩:=H.move (w':=w') (h':=⟨w.heap.size,0,h.st,cap,false,none,by simp⟩) (st:=h.st) (ys:=xs.take len++ys) ho hi g.size (fun b hb _=>g.same b hb) (fun _=>⟨by simp [w'],.inr (Q8 _)⟩) g.frz g.env (fun hn=>hm hn) g.loop (fun c' hcm hx =>
     OR.flat (h:=⟨w.heap.size,0,h.st,cap,false,none,by simp⟩) rfl (vals:=vals++news) (fun x hx=>(hall x hx).1) (fun x hx=>(hall x hx).2) (by
      rw [hfl]
      have hcl : ∀ (i : Nat) (x : LV) (L : List (List LV)),(∀ y ∈ L,LV.closeds y = true) → L.flatten[i]? = some x → LV.closed x = true:=by
       intro i x L hL hx
       obtain ⟨y,hy,hxy⟩:=Qcu.1 (Qd hx)
       obtain ⟨k,hk⟩:=Qat.1 hxy
       exact closeds_at (hL y hy) hk
      have hmm : ∀ b o v,c.mu b o = some v → c'.mu b o = some v:=fun b o v hv=>by rw [hcm]; exact hv
      exact VRs.append ⟨k2.len,fun i x v hx hv=>(k2.at_ i x v hx hv).closed hmm (hcl i x _ (fun y hy=>(hall y (Qb3 _ hy)).2) hx)⟩
       ⟨hnv.len,fun i x v hx hv=>(hnv.at_ i x v hx hv).closed hmm (hcl i x _ hyc hx)⟩) (by rw [hlen]; exact hcap2) (fun j v hj=>by
      have hlt:=(Qe.1 hj).1
      refine ⟨?_,?_⟩
      ·show w'.cell? ⟨w.heap.size,0 + j,none⟩ = some v
       rw [Qbe,hcellp,← hj,Array.getElem?_append_left (by simpa using hlt)]
       simp
      ·rw [Qbj] at hj
       split at hj
       ·exact (k3 j v hj).2
       ·exact hn1 v (Qd hj)) (fun k hk=>by
      refine ⟨?_,?_⟩
      ·show (w'.cell? ⟨w.heap.size,0 + k,none⟩).isSome = true
       rw [Qbe,hcellp,Qaa]
       ·rfl
       ·have : (vals.toArray++news.toArray++z).size = cap * h.st:=by
         simp only [Array.size_append,Qcl,k1,hnl,hz,← Qac]
         congr 1; omega
        rw [this]; exact hk
      ·exact frozen_push w _ e _) (hx rfl))
    refine ⟨_,w',c',hrun,H',t',?_⟩
    exact .bs id 0 _ _ _ cap hcap2 hi' (fun _=>⟨rfl,rfl⟩) (fun _=>⟨rfl,by simp⟩) (fun h=>absurd rfl h)

theorem nil_slice {st : Nat} {u : Value} (h : VR c (.nils st) u) : ∃ q,u = .slice q 0 0:=by cases h; exact ⟨_,rfl⟩

theorem nul_slice {u : Value} (h : VR c .nul u) : u = .slice none 0 0:=by cases h; rfl

/-! a slice that does not begin its row: the row begins there from now on -/
mutual
theorem kill_kill (id : Nat) : ∀ v : LV,LV.sub .kill id (LV.sub .kill id v) = LV.sub .kill id v
 | .agg cs=>by simp only [LV.sub,kills_kills id cs]
 | .tup cs=>by simp only [LV.sub,kills_kills id cs]
 | .fn f a b=>by simp only [LV.sub,kills_kills id a,kills_kills id b]
 | .bs i off len=>by
   by_cases h : i = id
   ·simp [LV.sub,h,Rep.bs]
   ·simp [LV.sub,h]
 | .bb i off st len=>by
   by_cases h : i = id
   ·simp [LV.sub,h]
   ·simp [LV.sub,h]
 | .ptr i off=>by
   by_cases h : i = id
   ·simp [LV.sub,h]
   ·simp [LV.sub,h]
 | .ep i j off=>by
   by_cases h : i = id
   ·simp [LV.sub,h,Rep.ep]
   ·simp [LV.sub,h]
 | .mp i=>by
   by_cases h : i = id
   ·simp [LV.sub,h]
   ·simp [LV.sub,h]
 | .yl i=>by
   by_cases h : i = id
   ·simp [LV.sub,h]
   ·simp [LV.sub,h]
 | .any | .undef | .int .. | .bool _ | .str _ | .vs _ | .os .. | .nils _ | .nul | .emp | .fp _ | .nilp | .nilf | .om _ | .nilm=>by simp only [LV.sub]
theorem kills_kills (id : Nat) : ∀ l : List LV,LV.subs .kill id (LV.subs .kill id l) = LV.subs .kill id l
 | []=>rfl
 | v::l=>by simp only [LV.subs,kill_kill id v,kills_kills id l]
end
theorem ekill (id : Nat) : ∀ T : Env,Env.sub .kill id (Env.sub .kill id T) = Env.sub .kill id T
 | []=>rfl
 | (k,v)::T=>by simp only [Env.sub,kill_kill,ekill id T]
theorem eskill (id : Nat) : ∀ T : List Env,Envs.sub .kill id (Envs.sub .kill id T) = Envs.sub .kill id T
 | []=>rfl
 | v::T=>by simp only [Envs.sub,ekill,eskill id T]
theorem okill (id : Nat) (o : Obj) : Obj.sub .kill id (Obj.sub .kill id o) = Obj.sub .kill id o:=by
 cases o <;> simp only [Obj.sub,kills_kills,ekill]
theorem hkill (id : Nat) : ∀ O : Heap,Heap.sub .kill id (Heap.sub .kill id O) = Heap.sub .kill id O
 | []=>rfl
 | (k,v)::T=>by simp only [Heap.sub,okill,hkill id T]
theorem hkill_oset (id st : Nat) (a b : List (List LV)) : ∀ O : Heap,Heap.sub .kill id (oset (Heap.sub .kill id (oset O id (.row st a))) id (.row st b)) = Heap.sub .kill id (oset O id (.row st b))
 | []=>rfl
 | (k,v)::T=>by
   by_cases h : k = id
   ·simp only [oset,if_pos h,Heap.sub,Obj.sub,hkill]
   ·simp only [oset,if_neg h,Heap.sub,okill,hkill_oset id st a b T]
theorem kill_twice (s : St) (id st : Nat) (a b : List (List LV)) : St.sub .kill id { St.sub .kill id { s with O:=oset s.O id (.row st a) } with O:=oset (St.sub .kill id { s with O:=oset s.O id (.row st a) }).O id (.row st b) } = St.sub .kill id { s with O:=oset s.O id (.row st b) }:=by
 simp only [St.sub,ekill,eskill,hkill_oset]
theorem oget_kill {O : Heap} {id st : Nat} {o : Obj} {a : List (List LV)} (h : oget O id = some o) : oget (Heap.sub .kill id (oset O id (.row st a))) id = some (.row st a):=by
 induction O with
 | nil=>cases h
 | cons p O ih =>
   obtain ⟨k,v⟩:=p
   by_cases e : k = id
   ·simp only [oset,if_pos e,Heap.sub,Obj.sub,oget]
   ·simp only [oget,if_neg e] at h
    simp only [oset,if_neg e,Heap.sub,oget]
    exact ih h
theorem rebase (H : SR P c s tmps Ts w) {id off len st : Nat} {ub : Value} {xs : List (List LV)} (ho : oget s.O id = some (.row st xs)) (hb : VR c (.bs id off len) ub) (hle : off + len≤xs.length) :
  ∃ c1,SR P c1 (St.sub .kill id { s with O:=oset s.O id (.row st ((xs.drop off).take len)) }) tmps Ts w∧Tr c w c1 w∧VR c1 (.bs id 0 len) ub∧c1.mu = c.mu:=by
 obtain ⟨h,a,cap,hi,rfl,hcap,h0,h1,h2⟩:=bs_slice hb
 obtain ⟨h3,hi2,hor⟩:=H.O id _ ho
 rw [hi] at hi2; cases hi2
 cases hor with
 | row _ val hs hv hl h0' hsp hm =>
   have hlen : ((xs.drop off).take len).length = len:=by simp; omega
   have hget : ∀ (k : Nat) (x : List LV),((xs.drop off).take len)[k]? = some x → xs[off + k]? = some x:=fun k x hx=>by
    rw [Qak] at hx
    split at hx
    ·rwa [Qbl] at hx
    ·cases hx
   by_cases hempty : off ≠ 0∧cap = 0∧h.cap≤off
   ·obtain ⟨hne,hc0,hc1⟩:=hempty
    have hl0 : len = 0:=by omega
    subst hl0; subst hc0
    obtain ⟨c',H',t',hi',hmu'⟩:=H.move (w':=w) (h':=⟨0,0,h.st,0,true,a,by simp⟩) (st:=h.st) (ys:=[]) ho hi (Q8 _) (fun _ _ _=>rfl) (by simp) (fun _=>rfl) ⟨rfl,rfl⟩ (fun hn=>hm hn) (fun _ r h=>⟨r,h⟩) (fun c' _ _ =>
     OR.row (h:=⟨0,0,h.st,0,true,a,by simp⟩) [] (fun _ _=>undef) (by simp) (by simp) (Qcj _) (by simp) (by simp) (by simp))
    refine ⟨c',by simpa using H',t',?_,hmu'⟩
    exact .bs id 0 0 _ _ _ (Qcj _) hi' (fun _=>⟨by simp [Home.addr],rfl⟩) (by simp) (fun h=>absurd rfl h)
   ·obtain ⟨hnul,ha,hc⟩ : (h.nul = true → off = 0)∧(h.nul = false → a = some ⟨h.blk,h.off + off * h.st,none⟩)∧off + cap = h.cap:=by
     by_cases e0 : off = 0
     ·obtain ⟨rfl,rfl⟩:=h0 e0
      subst e0
      exact ⟨fun _=>rfl,fun hn=>by simp [Home.addr,hn],by omega⟩
     ·rcases h2 e0 with ⟨k1,k2⟩ | ⟨k1,k2,k3⟩
      ·exact absurd ⟨e0,k1,k2⟩ hempty
      ·exact ⟨fun hn=>(by rw [k1] at hn; cases hn),fun _=>k2,k3⟩
    obtain ⟨c',H',t',hi',hmu'⟩:=H.move (w':=w) (h':=⟨h.blk,h.off + off * h.st,h.st,cap,h.nul,h.ad,fun hn=>by have:=h.cz hn; omega⟩) (st:=h.st) (ys:=(xs.drop off).take len) ho hi (Q8 _) (fun _ _ _=>rfl) (fun hn=>⟨H.lt id h hi hn,.inl ⟨hn,rfl⟩⟩) (fun _=>rfl) ⟨rfl,rfl⟩ (fun hn=>hm hn) (fun _ r h=>⟨r,h⟩) (fun c' hcm hx =>
     OR.row (h:=⟨h.blk,h.off + off * h.st,h.st,cap,h.nul,h.ad,fun hn=>by have:=h.cz hn; omega⟩) _ (fun i j=>val (off + i) j) (fun i x hx=>hs _ x (hget i x hx)) (fun i x j y hx hy=>by
      obtain ⟨k1,k2,k3⟩:=hv _ x j y (hget i x hx) hy
      refine ⟨?_,k2,k3.closed (fun b o v hv=>by rw [hcm]; exact hv) (closeds_at (hs _ x (hget i x hx)).2 hy)⟩
      rw [← k1]
      show w.cell? ⟨h.blk,h.off + off * h.st + i * h.st + j,none⟩ = _
      rw [Qac,Qaz h.off]) (by rw [hlen]; exact hcap) (fun hn=>by have:=h0' hn; show cap = 0; omega) (fun hn k hk=>by
      have hk : k < cap * h.st:=hk
      have:=hsp hn (off * h.st + k) (by
       have : off * h.st + cap * h.st = h.cap * h.st:=by rw [← Qac,hc]
       omega)
      show (w.cell? ⟨h.blk,h.off + off * h.st + k,none⟩).isSome = true∧w.frozen? ⟨h.blk,h.off + off * h.st + k,none⟩ = false
      rwa [← Qaz] at this) hx)
    refine ⟨c',H',t',?_,hmu'⟩
    refine .bs id 0 len _ _ _ hcap hi' (fun _=>⟨?_,rfl⟩) (fun hz=>?_) (fun h=>absurd rfl h)
    ·by_cases hn : h.nul = true
     ·have e0:=hnul hn
      rw [(h0 e0).1]; simp [Home.addr,hn]
     ·rw [ha (by simpa using hn)]; simp [Home.addr,hn]
    ·obtain ⟨k1,k2⟩:=h1 hz
     exact ⟨k1,by rw [k2]; simp⟩

theorem app_off {e : TypeId} {st : Nat} {ys : List (List LV)} {news : List Value} (H : SR P c s tmps Ts w) {id off len : Nat} {ub : Value} (hb : VR c (.bs id off len) ub) {xs : List (List LV)} (ho : oget s.O id = some (.row st xs)) (hle : off + len≤xs.length)
  (hyl : ∀ y ∈ ys,y.length = st) (hyc : ∀ y ∈ ys,LV.closeds y = true) (hnv : VRs c ys.flatten news) (hn1 : ∀ v ∈ news,v.oneCell' = true) {m : Sem Value}
  (hroom : ∀ base sCap,ub = .slice base len sCap → len + ys.length≤sCap → m.run P w = match base with
   | some a=>((storeCells (a.add (len * st)) news).run P w).andThen fun _ w'=>.ok (.slice base (len + ys.length) sCap) w'
   | none=>.ok (.slice none (len + ys.length) sCap) w)
  (hgrow : ∀ base sCap olds,ub = .slice base len sCap → ¬ len + ys.length≤sCap → (∀ w1 : World,w1.heap = w.heap → (Builtin.firstCells st len (.slice base len sCap)).run P w1 = .ok olds w1) → ∃ cap z,len + ys.length≤cap∧z.size = (cap - (len + ys.length)) * st ∧
   m.run P w = .ok (.slice (some ⟨w.heap.size,0,none⟩) (len + ys.length) cap) { w.drew with heap:=w.heap.push (.cells (olds++news.toArray++z) e) }) :
  Does P c tmps Ts w m (.bs id 0 (len + ys.length)) (St.sub .kill id { s with O:=oset s.O id (.row st ((xs.drop off).take len++ys)) }):=by
 obtain ⟨c1,H1,t1,hb1,hmu⟩:=rebase H ho hb hle
 have hlen : ((xs.drop off).take len).length = len:=by simp; omega
 have hmm : ∀ b o v,c.mu b o = some v → c1.mu b o = some v:=fun b o v hv=>by rw [hmu]; exact hv
 have hcl : ∀ (i : Nat) (x : LV),ys.flatten[i]? = some x → LV.closed x = true:=fun i x hx=>by
  obtain ⟨y,hy,hxy⟩:=Qcu.1 (Qd hx)
  obtain ⟨k,hk⟩:=Qat.1 hxy
  exact closeds_at (hyc y hy) hk
 obtain ⟨u,w',c',hr,H',t',hv⟩:=app_room (e:=e) H1 hb1 (xs:=(xs.drop off).take len) (oget_kill ho) (by omega) hyl hyc ⟨hnv.len,fun i x v hx hv=>(hnv.at_ i x v hx hv).closed hmm (hcl i x hx)⟩ hn1 hroom hgrow
 rw [Qr (Nat.le_of_eq hlen),kill_twice] at H'
 exact ⟨u,w',c',hr,H',t1.trans t',hv⟩

theorem app_nil {e : TypeId} {st : Nat} {ys : List (List LV)} {news : List Value} (H : SR P c s tmps Ts w) (d : Nat) (q : Option Addr)
  (hyl : ∀ y ∈ ys,y.length = st) (hyc : ∀ y ∈ ys,LV.closeds y = true) (hnv : VRs c ys.flatten news) (hn1 : ∀ v ∈ news,v.oneCell' = true) {m : Sem Value}
  (hroom : ys.length≤0 → m.run P w = match q with
   | some a=>((storeCells (a.add (0 * st)) news).run P w).andThen fun _ w'=>.ok (.slice q (0 + ys.length) 0) w'
   | none=>.ok (.slice none (0 + ys.length) 0) w)
  (hgrow : ¬ ys.length≤0 → ∃ cap z,ys.length≤cap∧z.size = (cap - ys.length) * st∧m.run P w = .ok (.slice (some ⟨w.heap.size,0,none⟩) ys.length cap) { w.drew with heap:=w.heap.push (.cells (news.toArray++z) e) }) :
  Does P c tmps Ts w m (.bs d 0 ys.length) (St.new d (.row st ys) s):=by
 have hnl : news.length = ys.length * st:=by rw [← hnv.len,flat_len hyl]
 by_cases hr : ys.length≤0
 ·have e2 : ys = []:=Qo (by omega)
  subst e2
  have e4 : news = []:=Qo (by simpa using hnl)
  subst e4
  have hrun:=hroom hr
  have hrun' : m.run P w = .ok (.slice q 0 0) w:=by
   rw [hrun]; cases q <;> simp [storeCells]
  obtain ⟨c',h1,h2,h3,_⟩:=nilRow H d st q
  exact ⟨_,w,c',hrun',h1,h2,h3⟩
 ·obtain ⟨cap,z,hcap,hz,hrun⟩:=hgrow hr
  obtain ⟨H1,t1⟩:=H.grew (Grew.drew w)
  obtain ⟨c2,H2,t2,hv2⟩:=newRow_ok H1 d (st:=st) (cap:=cap) (e:=e) (cells:=news.toArray++z) hyl hyc hnv hcap hn1 (fun j v hj=>by
   have hlt:=(Qe.1 hj).1
   rw [Array.getElem?_append_left (by simpa using hlt)]; simpa using hj) (by
   simp only [Array.size_append,Qcl,hnl,hz,← Qac]
   exact Qa1 _ (by omega))
  exact ⟨_,_,c2,hrun,H2,t1.trans t2,hv2⟩

theorem app_does (H : SR P c s tmps Ts w) {ts : Array TypeId} {t tx ty e : TypeId} (hts0 : ts[0]? = some t) (hts1 : ts[1]? = some tx) {d : TypeDesc} {st id : Nat} {b x v : LV} {ub ux : Value} {s' : St} (ht : P.underlying t = some (.slice e)) (hst : tsize P e = some st) (hsm : smallB P e = true) (htx : P.underlying tx = some d) (hd : ∀ k,d ≠ .int k)
  (hb : VR c b ub) (hx : VR c x ux) (h : (elems s.O x).bind (appK st id b s) = some (v,s')) : Does P c tmps Ts w (Builtin.append_ ts ty #[ub,ux]) v s':=by
 have hO : HR P c w s.O:=H.O
 have h9:=h
 clear h
 obtain ⟨ys,hys,h⟩:=Qa.1 h9
 clear h9
 unfold appK at h
 split at h
 ·rename_i hal
  obtain ⟨news,n1,n2,n3,n4,n5⟩:=lies_first (P:=P) (elems_ok hO H.mu hx hys hal) hal
  have hyc:=elems_closed hO hx hys
  have hyl:=allLen_mem hal
  obtain ⟨i,hi⟩ : ∃ i,P.info? e = some i:=by
   unfold tsize at hst; obtain ⟨i,hi,_⟩:=Qc.1 hst; exact ⟨i,hi⟩
  have hsize : i.size = st:=by unfold tsize at hst; rw [hi] at hst; simpa using hst
  obtain ⟨z,hz⟩ : ∃ z,zeroLV P e = some z:=by
   unfold smallB at hsm; rw [hi] at hsm
   cases hzz : zeroLV P e with
   | none=>rw [hzz] at hsm; simp at hsm
   | some z=>exact ⟨z,rfl⟩
  unfold smallB at hsm
  rw [hi,hz] at hsm
  simp only [Qg,decide_eq_true_eq] at hsm
  obtain ⟨i2,zv,hi2,hzv,hzr⟩:=zeroLV_ok (c:=c) hz
  rw [hi] at hi2; cases hi2
  obtain ⟨hzc,hz1⟩:=cells_VRs hzr (zero_one hz)
  have hzs : zv.cells.size = st:=by have:=hzc.len; simp only [Array.length_toList] at this; omega
  have hfull : (news.take (ys.length * st)) = news:=Qr (by omega)
  have hnews : ∀ w1 : World,w1.heap = w.heap → (Builtin.firstCells i.size ys.length ux).run P w1 = .ok news.toArray w1:=fun w1 hw1=>by
   have:=n5 ys.length w1 (Q8 _) hw1
   rwa [hfull,← hsize] at this
  unfold appV at h
  split at h
  ·split at h
   ·rename_i hlim
    simp only [Option.some.injEq,Prod.mk.injEq] at h
    obtain ⟨rfl,rfl⟩:=h
    obtain ⟨q,rfl⟩:=nil_slice hb
    refine app_nil (e:=e) H id q hyl hyc n2 n3 (fun hr=>?_) (fun hr=>?_)
    ·have:=run_append_room' (P:=P) (w:=w) (ty:=ty) (base:=q) (sLen:=0) (sCap:=0) hts0 hts1 ht hi htx hd n4 (hnews w rfl) (by omega)
     rw [hsize] at this
     simpa using this
    ·obtain ⟨cap,h1,h2⟩:=run_append_grow' (P:=P) (w:=w) (ty:=ty) (base:=q) (sLen:=0) (sCap:=0) (olds:=#[]) hts0 hts1 ht hi hzv htx hd hsm.1.1 n4 (hnews _ rfl) (by cases q <;> simp [Builtin.firstCells,loadCells,loadCellsFrom]) (by omega) (by omega)
     refine ⟨cap,Builtin.zeroCells zv.cells (cap - ys.length),by omega,by rw [zeroCells_size,hzs],?_⟩
     simpa using h2
   ·cases h
  ·split at h
   ·rename_i hlim
    simp only [Option.some.injEq,Prod.mk.injEq] at h
    obtain ⟨rfl,rfl⟩:=h
    have hb2:=nul_slice hb
    subst hb2
    refine app_nil (e:=e) H id none hyl hyc n2 n3 (fun hr=>?_) (fun hr=>?_)
    ·have:=run_append_room' (P:=P) (w:=w) (ty:=ty) (base:=none) (sLen:=0) (sCap:=0) hts0 hts1 ht hi htx hd n4 (hnews w rfl) (by omega)
     rw [hsize] at this
     simpa using this
    ·obtain ⟨cap,h1,h2⟩:=run_append_grow' (P:=P) (w:=w) (ty:=ty) (base:=none) (sLen:=0) (sCap:=0) (olds:=#[]) hts0 hts1 ht hi hzv htx hd hsm.1.1 n4 (hnews _ rfl) (by simp [Builtin.firstCells,loadCells,loadCellsFrom]) (by omega) (by omega)
     refine ⟨cap,Builtin.zeroCells zv.cells (cap - ys.length),by omega,by rw [zeroCells_size,hzs],?_⟩
     simpa using h2
   ·cases h
  ·rename_i id2 off len
   unfold appO at h
   split at h
   ·rename_i st' xs ho
    split at h
    ·rename_i hcond
     obtain ⟨hle,rfl,hlim⟩:=hcond
     simp only [Option.some.injEq,Prod.mk.injEq] at h
     obtain ⟨rfl,rfl⟩:=h
     refine app_off (e:=e) H hb ho hle hyl hyc n2 n3 (fun base sCap he hr=>?_) (fun base sCap olds he hr hold=>?_)
     ·subst he
      have:=run_append_room' (P:=P) (w:=w) (ty:=ty) (base:=base) (sLen:=len) (sCap:=sCap) hts0 hts1 ht hi htx hd n4 (hnews w rfl) hr
      rw [hsize] at this
      simpa using this
     ·subst he
      obtain ⟨cap,h1,h2⟩:=run_append_grow' (P:=P) (w:=w) (ty:=ty) (base:=base) (sLen:=len) (sCap:=sCap) (olds:=olds) hts0 hts1 ht hi hzv htx hd hsm.1.1 n4 (hnews _ rfl) (by rw [hsize]; exact hold _ rfl) hr hlim
      exact ⟨cap,Builtin.zeroCells zv.cells (cap - (len + ys.length)),h1,by rw [zeroCells_size,hzs],h2⟩
    ·cases h
   ·cases h
  ·cases h
 ·cases h

end
end Go.Zv

/- The engine, part 17: an operation that calls nobody. -/
namespace Go.Zv
section
variable {P : Program} {c : Cx} {w : World} {s : St} {a : Act} {Ts : List (Array Value)}

def Works (P : Program) (c : Cx) (a : Act) (Ts : List (Array Value)) (w : World) (o : Oper) (v : LV) (s' : St) : Prop :=
 ∃ n w' c',(execOp a.eval o).run P w = .ok n w'∧SR P c' s' a.tmps Ts w'∧Tr c w c' w'∧((∃ u,n = .value u∧VR c' v u) ∨ (n = .skip∧v = .undef))

theorem Works.of {o : Oper} {m : Sem Value} {v : LV} {s' : St} (h : Does P c a.tmps Ts w m v s') (he : execOp a.eval o = (do pure (.value (← m)))) : Works P c a Ts w o v s':=by
 obtain ⟨u,w',c',h1,h2,h3,h4⟩:=h
 exact ⟨.value u,w',c',by rw [he]; simp [h1],h2,h3,.inl ⟨u,rfl,h4⟩⟩
theorem Works.skip {o : Oper} {m : Sem Unit} {s' : St} {w' : World} {c' : Cx} (h1 : m.run P w = .ok () w') (h2 : SR P c' s' a.tmps Ts w') (h3 : Tr c w c' w') (he : execOp a.eval o = (do m; pure .skip)) : Works P c a Ts w o .undef s' :=
 ⟨.skip,w',c',by rw [he]; simp [h1],h2,h3,.inr ⟨rfl,rfl⟩⟩

def AOp.isVal : AOp → Bool
 | .as _ | .alloc _ | .box _ | .bsl .. | .store .. | .mkm | .mks .. | .mpu .. | .bad | .call .. | .cal .. | .app .. | .apz .. | .cpy .. => false
 | _=>true
theorem step_val {R : Orc} {d : Nat} {op : AOp} (h : op.isVal = true) : stepOp R true d op s = (valOp s.T s.O op).bind (ok1 s):=by
 cases op <;> first | rfl | (cases h)

theorem all_bind {α β : Type} {p : β → Bool} {x : Option α} {f : α → Option β} (h : ∀ a,(f a).all p = true) : (x.bind f).all p = true:=by
 cases x with
 | none=>rfl
 | some a=>exact h a
theorem all_map {α β : Type} {p : β → Bool} {x : Option α} {f : α → β} (h : ∀ a,p (f a) = true) : (x.map f).all p = true:=by
 cases x with
 | none=>rfl
 | some a=>exact h a
def Op.eff : Op → Bool
 | .assign _ | .alloc _ | .box .. | .buildSlice .. | .store .. | .makeMap .. | .makeSlice .. | .mapUpdate .. | .insert .. | .call _=>true
 | _=>false
theorem val_class {ty : TypeId} {op : Op} (h : Op.eff op = false) : (toOp1 P ty op).all AOp.isVal = true:=by
 cases op <;> simp only [Op.eff,reduceCtorEq,Bool.true_eq_false] at h <;> unfold toOp1 <;> simp only [bind] <;>
  repeat' (first | rfl | contradiction | (refine all_map fun _=>?_) | (refine all_bind fun _=>?_) | split)

theorem step_ok (H : SR P c s a.tmps Ts w) {R : Orc} {d : Nat} {o : Oper} {op : AOp} (hop : toOp1 P o.type o.op = some op) (hnc : ∀ f l,op ≠ .call f l) (hnc2 : ∀ f l,op ≠ .cal f l) {v : LV} {s' : St} (h : stepOp R true d op s = some (v,s')) : Works P c a Ts w o v s':=by
 have hT:=H.T
 have val : (valOp s.T s.O op).bind (ok1 s) = some (v,s') → Works P c a Ts w o v s':=by
  intro h
  obtain ⟨x,hx,h⟩:=Qa.1 h
  simp only [ok1,Option.some.injEq,Prod.mk.injEq] at h
  obtain ⟨rfl,rfl⟩:=h
  obtain ⟨u,h1,h2⟩:=val_ok hT H.O H.mu hop hx
  exact ⟨.value u,w,c,h1,H,Tr.refl _ _,.inl ⟨u,rfl,h2⟩⟩
 have isv : op.isVal = true → Works P c a Ts w o v s':=fun hv=>val (by rw [← step_val (R:=R) (d:=d) hv]; exact h)
 by_cases he : Op.eff o.op = false
 ·have:=val_class (P:=P) (ty:=o.type) he
  rw [hop] at this
  exact isv this
 cases ho : o.op with
 | assign x =>
   rw [ho] at hop; simp only [toOp1] at hop
   obtain ⟨y,hy,rfl⟩:=Qc.1 hop
   exact Works.of (asV_does H (opdT_ok hT hy) h) (by simp [execOp,ho])
 | alloc e =>
   rw [ho] at hop; simp only [toOp1,bind,Qa,Option.some.injEq] at hop
   obtain ⟨z,hz,rfl⟩:=hop
   obtain ⟨i,zv,hi,hzv,hzr⟩:=zeroLV_ok (c:=c) hz
   obtain ⟨hzc,_⟩:=cells_VRs hzr (zero_one hz)
   obtain ⟨u,w',c',h1,h2,h3,h4⟩:=box_does H hzc e h
   refine Works.of (m:=Instr.alloc e true (.tuple #[])) ⟨u,w',c',?_,h2,h3,h4⟩ (by simp only [execOp,ho])
   simp only [Instr.alloc,Sem.run_bind,run_zero hi hzv,Result.andThen_ok]
   exact h1
 | box e x =>
   rw [ho] at hop; simp only [toOp1,bind,Qa,Option.some.injEq] at hop
   obtain ⟨y,hy,rfl⟩:=hop
   have hone : (y.ev s.T).cells.all LV.one = true:=by
    have h' : boxV _ (y.ev s.T).cells s = some (v,s'):=h
    unfold boxV at h'
    split at h'
    ·assumption
    ·cases h'
   obtain ⟨hc,_⟩:=cells_VRs (opdT_ok hT hy) hone
   exact Works.of (m:=Instr.box e (a.eval x)) (box_does H hc e h) (by simp only [execOp,ho])
 | buildSlice t n ps =>
   rw [ho] at hop; simp only [toOp1] at hop
   split at hop
   ·rename_i e hu
    simp only [bind,Qa,Option.some.injEq] at hop
    obtain ⟨st,hst,hop⟩:=hop
    split at hop
    ·simp at hop
    ·rename_i hlim
     simp only [Qa,Option.some.injEq] at hop
     obtain ⟨l,hl,z,hz,rfl⟩:=hop
     obtain ⟨h1,h2⟩:=mapM_parts hl
     have h' : (if z.cells.length = st then (fillS st s.T l (List.replicate n z.cells)).bind (bslK (oid s.lvl d) st n s) else none) = some (v,s'):=h
     split at h'
     ·rename_i hzl
      refine Works.of (m:=Instr.buildSlice t n (ps.map fun (i,x)=>(i,a.eval x))) (bsl_does (a:=a) H hu hst hlim hz hzl (by simpa using h1.symm) (fun i p q hp hq=>?_) h') (by simp only [execOp,ho])
      simp only [Qcc,Qc] at hq
      obtain ⟨q0,hq0,rfl⟩:=hq
      have:=h2 i q0 p (by simpa using hq0) hp
      simp only [Qa,Option.some.injEq] at this
      obtain ⟨y,hy,rfl⟩:=this
      exact ⟨rfl,opdT_ok hT hy⟩
     ·cases h'
   ·cases hop
 | store t x y =>
   rw [ho] at hop; simp only [toOp1,bind,Qa,Option.some.injEq] at hop
   obtain ⟨n,hn,x',hx,y',hy,rfl⟩:=hop
   obtain ⟨s2,hs2,h⟩:=Qa.1 (show (wr s n _ _).bind okU = some (v,s') from h)
   simp only [okU,Option.some.injEq,Prod.mk.injEq] at h
   obtain ⟨rfl,rfl⟩:=h
   obtain ⟨w',c',h1,h2,h3⟩:=store_does H hn (opd_ok hT hx) (opdT_ok hT hy) hs2
   exact Works.skip h1 h2 h3 (by simp only [execOp,ho])
 | makeMap t r =>
   rw [ho] at hop
   cases r with
   | none =>
     simp only [toOp1,Option.some.injEq] at hop; subst hop
     have h' : some (LV.mp (oid s.lvl d),St.new (oid s.lvl d) (.map []) s) = some (v,s'):=h
     simp only [Option.some.injEq,Prod.mk.injEq] at h'
     obtain ⟨rfl,rfl⟩:=h'
     exact Works.of (m:=Instr.makeMap t none) (mkm_does H _) (by simp only [execOp,ho,Option.map_none])
   | some r =>
     cases r with
     | const vv =>
       cases vv <;> simp only [toOp1,reduceCtorEq] at hop
       rename_i k n
       split at hop
       ·rename_i hm
        simp only [if_true,Option.some.injEq] at hop; subst hop
        have h' : some (LV.mp (oid s.lvl d),St.new (oid s.lvl d) (.map []) s) = some (v,s'):=h
        simp only [Option.some.injEq,Prod.mk.injEq] at h'
        obtain ⟨rfl,rfl⟩:=h'
        obtain ⟨u,w',c',h1,h2,h3,h4⟩:=mkm_does (P:=P) H (oid s.lvl d)
        refine Works.of (m:=Instr.makeMap t (some (.int k n))) ⟨u,w',c',?_,h2,h3,h4⟩ (by simp only [execOp,ho,Qay]; rfl)
        simp only [Instr.makeMap,Sem.run_bind,run_underlying hm,Result.andThen_ok,asInt,asIntOf,Sem.run_pure]
        exact h1
       ·simp at hop
     | _=>simp [toOp1] at hop
 | makeSlice t l cp =>
   rw [ho] at hop; simp only [toOp1] at hop
   split at hop
   ·rename_i e hu
    split at hop
    ·rename_i hsm
     simp only [bind,Qa,Option.some.injEq] at hop
     obtain ⟨st,hst,z,hz,x',hx,y',hy,rfl⟩:=hop
     exact Works.of (mks_does H hu hsm hz hst (opd_ok hT hx) (opd_ok hT hy) h) (by simp only [execOp,ho])
    ·cases hop
   ·cases hop
 | mapUpdate t m k x =>
   rw [ho] at hop; simp only [toOp1] at hop
   split at hop
   ·rename_i kt e hu
    simp only [bind,Qa,Option.some.injEq] at hop
    obtain ⟨ag,hag,ks,hks,y,hy,k',hk,x',hx,rfl⟩:=hop
    obtain ⟨rfl,w',c',h1,h2,h3⟩:=mpu_does H hu ⟨ag,ks,hag,hks,rfl⟩ (opd_ok hT hy) (opd_ok hT hk) (opd_ok hT hx) h
    exact Works.skip h1 h2 h3 (by simp only [execOp,ho])
   ·cases hop
 | insert t m k x =>
   rw [ho] at hop; simp only [toOp1] at hop
   split at hop
   ·rename_i kt e hu
    simp only [bind,Qa,Option.some.injEq] at hop
    obtain ⟨ag,hag,ks,hks,y,hy,k',hk,x',hx,rfl⟩:=hop
    obtain ⟨rfl,w',c',h1,h2,h3⟩:=mpu_does H hu ⟨ag,ks,hag,hks,rfl⟩ (opd_ok hT hy) (opd_ok hT hk) (opd_ok hT hx) h
    exact Works.skip h1 h2 h3 (by simp only [execOp,ho])
   ·cases hop
 | call cl =>
   rw [ho] at hop; simp only [toOp1] at hop
   split at hop
   ·obtain ⟨m,hm,rfl⟩:=Qc.1 hop
    exact absurd rfl (hnc _ _)
   ·simp only [bind,Qa,Option.some.injEq] at hop
    obtain ⟨f,hf,m,hm,rfl⟩:=hop
    exact absurd rfl (hnc2 _ _)
   ·split at hop
    ·obtain ⟨y,hy,rfl⟩:=Qc.1 hop; exact isv rfl
    ·obtain ⟨y,hy,rfl⟩:=Qc.1 hop; exact isv rfl
    ·obtain ⟨y,hy,rfl⟩:=Qc.1 hop; exact isv rfl
    ·simp only [Option.some.injEq] at hop; subst hop; exact isv rfl
    ·cases hop
   ·rename_i hb
    split at hop
    ·rename_i e k0 x y h1 h2 hargs
     split at hop
     ·rename_i hsm
      simp only [bind,Qa,Option.some.injEq] at hop
      obtain ⟨st,hst,z,hz,x',hx,y',hy,rfl⟩:=hop
      obtain ⟨t,ht,hu⟩:=Qa.1 h1
      obtain ⟨t2,ht2,hu2⟩:=Qa.1 h2
      have hcl : cl.args.map a.eval = #[a.eval x,a.eval y]:=by
       have : cl.args = #[x,y]:=by rw [← Qab (xs:=cl.args),hargs]
       rw [this]; simp
      refine Works.of (m:=Builtin.append_ cl.argTypes o.type (cl.args.map a.eval)) ?_ (by simp only [execOp,ho,resolve,hb,pure_bind,invoke]; rfl)
      rw [hcl]
      cases h
     ·cases hop
    ·rename_i e dx x y hni h1 h2 hargs
     split at hop
     ·rename_i hsm
      simp only [bind,Qa,Option.some.injEq] at hop
      obtain ⟨st,hst,x',hx,y',hy,rfl⟩:=hop
      obtain ⟨t,ht,hu⟩:=Qa.1 h1
      obtain ⟨t2,ht2,hu2⟩:=Qa.1 h2
      have hcl : cl.args.map a.eval = #[a.eval x,a.eval y]:=by
       have : cl.args = #[x,y]:=by rw [← Qab (xs:=cl.args),hargs]
       rw [this]; simp
      refine Works.of (m:=Builtin.append_ cl.argTypes o.type (cl.args.map a.eval)) ?_ (by simp only [execOp,ho,resolve,hb,pure_bind,invoke]; rfl)
      rw [hcl]
      exact app_does H ht ht2 hu hst hsm hu2 (fun k e2=>hni k e2) (opd_ok hT hx) (opd_ok hT hy) h
     ·cases hop
    ·cases hop
   ·rename_i hb
    split at hop
    ·rename_i e x y h1 hargs
     simp only [bind,Qa,Option.some.injEq] at hop
     obtain ⟨st,hst,x',hx,y',hy,rfl⟩:=hop
     obtain ⟨t,ht,hu⟩:=Qa.1 h1
     have hcl : cl.args.map a.eval = #[a.eval x,a.eval y]:=by
      have : cl.args = #[x,y]:=by rw [← Qab (xs:=cl.args),hargs]
      rw [this]; simp
     refine Works.of (m:=Builtin.copy_ cl.argTypes o.type (cl.args.map a.eval)) ?_ (by simp only [execOp,ho,resolve,hb,pure_bind,invoke]; rfl)
     rw [hcl]
     cases h
    ·cases hop
   ·split at hop
    ·obtain ⟨y,hy,rfl⟩:=Qc.1 hop; exact isv rfl
    ·simp only [Option.some.injEq] at hop; subst hop; exact isv rfl
    ·cases hop
   ·obtain ⟨y,hy,rfl⟩:=Qc.1 hop; exact isv rfl
   ·obtain ⟨y,hy,rfl⟩:=Qc.1 hop; exact isv rfl
   ·cases hop
 | _=>rw [ho] at he; simp [Op.eff] at he
end
end Go.Zv

/- The engine, part 18: what a call by value leaves behind. -/
namespace Go.Zv
section
variable {P : Program} {c : Cx} {w w' : World} {s : St} {tmps : Array Value} {Ts : List (Array Value)}

def Cx.bare (c : Cx) : Cx:=⟨c.mu,fun _=>none⟩
def Cx.back (c : Cx) (d : Cx) : Cx:=⟨d.mu,c.io⟩

theorem SR.aside (H : SR P c s tmps Ts w) {d : Cx} (t : Tr c.bare w d w') (hM : MR d w') : SR P (c.back d) s tmps Ts w'∧Tr c w (c.back d) w':=by
 have hmu : ∀ b o v,c.mu b o = some v → (c.back d).mu b o = some v:=t.mu
 have hio : ∀ j h,c.io j = some h → (c.back d).io j = some h:=fun _ _ h=>h
 have keep : ∀ b,b < w.heap.size → w'.heap[b]? = w.heap[b]?:=fun b hb=>t.keep b hb (fun id h hi=>by simp [Cx.bare] at hi)
 have hmn : ∀ id h o,c.io id = some h → h.nul = false → OR P c w h o → ∀ x,(c.back d).mu h.blk x = none:=fun id h o hi hn hor x=>by
  cases hv : (c.back d).mu h.blk x with
  | none=>rfl
  | some v =>
    rcases t.muN _ _ _ hv with h1 | ⟨_,_,h2,_⟩ | hle
    ·have:=hor.mu hn x; rw [show c.mu h.blk x = some v from h1] at this; cases this
    ·simp [Cx.bare] at h2
    ·have:=H.lt id h hi hn; omega
 refine ⟨⟨H.T.mono hmu hio,H.Fl,fun i F t hF ht=>(H.F i F t hF ht).mono hmu hio,fun id o ho=>?_,H.dom,H.inj,hM,fun id h hi hn=>Qaf (H.lt id h hi hn) t.size⟩,
  ⟨t.size,fun b hb _=>keep b hb,hmu,fun id h hi hn=>.inl ⟨id,h,hi,hn,rfl⟩,t.frz,t.env,fun b o v hv=>?_,t.loop⟩⟩
 ·obtain ⟨h,hi,hor⟩:=H.O id o ho
  exact ⟨h,hi,hor.mono hmu hio (fun hn=>keep _ (H.lt id h hi hn)) (fun hn=>hmn id h o hi hn hor)⟩
 ·rcases t.muN _ _ _ hv with h1 | ⟨_,_,h2,_⟩ | hle
  ·exact .inl h1
  ·simp [Cx.bare] at h2
  ·exact .inr (.inr hle)

inductive Own1 (P : Program) (c : Cx) (w : World) : LV → Value → Option Home → Prop
 | cl (r : LV) (v : Value) (hc : LV.closed r = true) (h : VR c r v) : Own1 P c w r v none
 | os (xs : List (List LV)) (h : Home) (ho : OR P c w h (.row h.st xs)) (hlt : h.nul = false → h.blk < w.heap.size) : Own1 P c w (.os h.st xs) (.slice h.addr xs.length h.cap) (some h)
 | om (es : List (LV × LV)) (h : Home) (ho : OR P c w h (.map es)) (hn : h.nul = false) (hlt : h.blk < w.heap.size) : Own1 P c w (.om es) (.map (some h.blk)) (some h)

theorem SR.adopt {c0 : Cx} {w0 : World} (t : Tr c0 w0 c w) (H : SR P c s tmps Ts w) (id : Nat) {o : Obj} {h : Home} (hlt : h.nul = false → h.blk < w.heap.size) (hnew : h.nul = false → w0.heap.size≤h.blk∧(∀ x,c.mu h.blk x = none) ∧ ∀ j hh,c.io j = some hh → hh.nul = false → hh.blk ≠ h.blk)
  (ho : ∀ c' : Cx,(∀ b o v,c.mu b o = some v → c'.mu b o = some v) → (h.nul = false → ∀ x,c'.mu h.blk x = none) → OR P c' w h o) :
  ∃ c',SR P c' (St.new id o s) tmps Ts w∧Tr c0 w0 c' w∧c'.io id = some h∧(∀ j hh,j ≠ id → c.io j = some hh → c'.io j = some hh)∧(∀ j hh,j ≠ id → c'.io j = some hh → c.io j = some hh)∧(∀ b o x,c.mu b o = some x → c'.mu b o = some x) ∧
    (∀ b,(∀ x,c.mu b x = none) → (∀ j hh,c.io j = some hh → hh.nul = false → hh.blk ≠ b) → ∀ x,c'.mu b x = none):=by
 obtain ⟨c1,H1,t1,hn1,hio1,_⟩:=H.free id
 have t01:=t.trans t1
 have hmu1 : ∀ b,(∀ x,c.mu b x = none) → (∀ j hh,c.io j = some hh → hh.nul = false → hh.blk ≠ b) → (b < w.heap.size) → ∀ x,c1.mu b x = none:=fun b hb hj hlt x=>by
  cases hv : c1.mu b x with
  | none=>rfl
  | some v =>
    rcases t1.muN b x v hv with h1 | ⟨j,hh,h2,h3,h4⟩ | hle
    ·rw [hb x] at h1; cases h1
    ·exact absurd h4 (hj j hh h2 h3)
    ·omega
 let c' : Cx:=⟨c1.mu,fun j=>if j = id then some h else c1.io j⟩
 have hid : c'.io id = some h:=by simp [c']
 have hio : ∀ j hh,c1.io j = some hh → c'.io j = some hh:=fun j hh hj=>by
  by_cases e : j = id
  ·subst e; rw [hn1] at hj; cases hj
  ·simp only [c',if_neg e]; exact hj
 have hback : ∀ j hh,j ≠ id → c'.io j = some hh → c1.io j = some hh:=fun j hh e hj=>by simpa only [c',if_neg e] using hj
 have hmn : h.nul = false → ∀ x,c'.mu h.blk x = none:=fun hn=>hmu1 h.blk (hnew hn).2.1 (hnew hn).2.2 (hlt hn)
 have hgone:=free_gone s id
 have hsm : ∀ b o v,c1.mu b o = some v → c'.mu b o = some v:=fun _ _ _ h=>h
 have hT : TR c' (St.new id o s).T tmps:=(TR.mono (c':=c') hsm hio H1.T)
 refine ⟨c',⟨hT,H1.Fl,fun i F t hF ht=>TR.mono (c':=c') hsm hio (H1.F i F t hF ht),fun j oo hj=>?_,fun j hh hj=>?_,fun i j h1 h2 hij hi1 hi2 hm1 hm2=>?_,H1.mu,fun j hh hj hn=>?_⟩,⟨t01.size,t01.keep,t01.mu,fun j hh hj hn=>?_,t01.frz,t01.env,t01.muN,t01.loop⟩,hid,fun j hh hj hjj=>hio j hh (by rw [hio1 j hj]; exact hjj),fun j hh hj hjj=>by rw [← hio1 j hj]; exact hback j hh hj hjj,t1.mu,fun b hb hj x=>?_⟩
 ·simp only [St.new,St.push,oget] at hj
  split at hj
  ·rename_i e; subst e
   simp only [Option.some.injEq] at hj; subst hj
   exact ⟨h,hid,ho c' t1.mu hmn⟩
  ·obtain ⟨hh,hi,hor⟩:=H1.O j oo hj
   exact ⟨hh,hio _ _ hi,OR.mono (c':=c') hsm hio (fun _=>rfl) (fun hn=>hor.mu hn) hor⟩
 ·by_cases e : j = id
  ·subst e; exact ⟨o,by simp [St.new,St.push,oget]⟩
  ·obtain ⟨o',ho'⟩:=H1.dom j hh (hback j hh e hj)
   exact ⟨o',by simp [St.new,St.push,oget,Ne.symm e,ho']⟩
 ·by_cases e1 : i = id
  ·subst e1
   have : h1 = h:=by rw [hid] at hi1; exact (Option.some.inj hi1).symm
   subst this
   have hj2:=hback j h2 (Ne.symm hij) hi2
   rw [hio1 j (Ne.symm hij)] at hj2
   exact fun e=>(hnew hm1).2.2 j h2 hj2 hm2 e.symm
  ·by_cases e2 : j = id
   ·subst e2
    have : h2 = h:=by rw [hid] at hi2; exact (Option.some.inj hi2).symm
    subst this
    have hj2:=hback i h1 hij hi1
    rw [hio1 i hij] at hj2
    exact (hnew hm2).2.2 i h1 hj2 hm1
   ·exact H1.inj i j h1 h2 hij (hback i h1 e1 hi1) (hback j h2 e2 hi2) hm1 hm2
 ·by_cases e : j = id
  ·subst e
   have : hh = h:=by rw [hid] at hj; exact (Option.some.inj hj).symm
   subst this; exact hlt hn
  ·exact H1.lt j hh (hback j hh e hj) hn
 ·by_cases e : j = id
  ·subst e
   have : hh = h:=by rw [hid] at hj; exact (Option.some.inj hj).symm
   subst this; exact .inr (hnew hn).1
  ·exact t01.io j hh (hback j hh e hj) hn
 ·cases hv : c'.mu b x with
  | none=>rfl
  | some v =>
    rcases t1.muN b x v hv with h1 | ⟨j,hh,h2,h3,h4⟩ | hle
    ·rw [hb x] at h1; cases h1
    ·exact absurd h4 (hj j hh h2 h3)
    ·have:=lt_of_cell (H1.mu b x v hv); omega

theorem OR.closed {c' : Cx} {h : Home} {o : Obj} (hk : (∃ st xs,o = .row st xs) ∨ ∃ es,o = .map es) (hmu : ∀ b o v,c.mu b o = some v → c'.mu b o = some v) (hn : h.nul = false → ∀ x,c'.mu h.blk x = none) (H : OR P c w h o) : OR P c' w h o:=by
 cases H with
 | box=>rcases hk with ⟨_,_,h⟩ | ⟨_,h⟩ <;> cases h
 | loop=>rcases hk with ⟨_,_,h⟩ | ⟨_,h⟩ <;> cases h
 | row xs val hs hv hl h0 hsp hm =>
   exact .row xs val hs (fun i x j y hx hy=>by
    obtain ⟨h1,h2,h3⟩:=hv i x j y hx hy
    exact ⟨h1,h2,h3.closed hmu (closeds_at (hs i x hx).2 hy)⟩) hl h0 hsp hn
 | map es es0 en clock hn' hw hl hv hm hp hd =>
   exact .map es es0 en clock hn' hw hl (fun i e m he hm'=>by obtain ⟨a,b,c1,d⟩:=hv i e m he hm'; exact ⟨a.closed hmu c1,b.closed hmu d,c1,d⟩) (hn hn') hp hd

theorem Own1.mono {c' : Cx} {r : LV} {v : Value} {ho : Option Home} (H : Own1 P c w r v ho) (hmu : ∀ b o v,c.mu b o = some v → c'.mu b o = some v) (hn : ∀ h,ho = some h → h.nul = false → ∀ x,c'.mu h.blk x = none) : Own1 P c' w r v ho:=by
 cases H with
 | cl r v hc h=>exact .cl r v hc (h.closed hmu hc)
 | os xs h ho hlt=>exact .os xs h (ho.closed (.inl ⟨_,_,rfl⟩) hmu (hn h rfl)) hlt
 | om es h ho hnn hlt=>exact .om es h (ho.closed (.inr ⟨_,rfl⟩) hmu (hn h rfl)) hnn hlt

theorem take1 {c0 : Cx} {w0 : World} (t : Tr c0 w0 c w) (H : SR P c s tmps Ts w) (id : Nat) {r : LV} {v : Value} {ho : Option Home} (hr : Own1 P c w r v ho)
  (hnew : ∀ h,ho = some h → h.nul = false → w0.heap.size≤h.blk∧(∀ x,c.mu h.blk x = none) ∧ ∀ j hh,c.io j = some hh → hh.nul = false → hh.blk ≠ h.blk) :
  ∃ c',SR P c' (import1 id s r).2 tmps Ts w∧Tr c0 w0 c' w∧VR c' (import1 id s r).1 v∧(∀ j hh,j ≠ id → c.io j = some hh → c'.io j = some hh)∧(∀ b o x,c.mu b o = some x → c'.mu b o = some x) ∧
    (∀ b,(∀ x,c.mu b x = none) → (∀ j hh,c.io j = some hh → hh.nul = false → hh.blk ≠ b) → (∀ h,ho = some h → h.nul = false → h.blk ≠ b) → (∀ x,c'.mu b x = none) ∧ ∀ j hh,c'.io j = some hh → hh.nul = false → hh.blk ≠ b):=by
 cases hr with
 | cl r v hc h =>
   have e : import1 id s r = (r,s):=by cases r <;> first | rfl | (simp [LV.closed] at hc)
   rw [e]
   exact ⟨c,H,t,h,fun _ _ _ h=>h,fun _ _ _ h=>h,fun b h1 h2 _=>⟨h1,h2⟩⟩
 | os xs h ho hlt =>
   obtain ⟨c',H',t',hid,hio,hback,hmu,hb⟩:=H.adopt t id (o:=.row h.st xs) hlt (hnew h rfl) (fun c' hmu hm=>ho.closed (.inl ⟨_,_,rfl⟩) hmu hm)
   have hcap : xs.length≤h.cap∧(h.nul = true → h.cap = 0):=by cases ho with | row _ _ _ _ hl h0 _ _=>exact ⟨hl,h0⟩
   refine ⟨c',H',t',.bs id 0 xs.length h _ _ hcap.1 hid (fun _=>⟨rfl,rfl⟩) (fun hz=>?_) (fun h=>absurd rfl h),hio,hmu,fun b h1 h2 h3=>⟨hb b h1 h2,fun j hh hj hn=>?_⟩⟩
   ·have hn : h.nul = false:=by
     cases hnn : h.nul with
     | false=>rfl
     | true=>have:=hcap.2 hnn; omega
    exact ⟨hn,by simp [Home.addr,hn]⟩
   ·by_cases e : j = id
    ·subst e; rw [hid] at hj; cases hj; exact h3 h rfl hn
    ·exact h2 j hh (hback j hh e hj) hn
 | om es h ho hnn hlt =>
   obtain ⟨c',H',t',hid,hio,hback,hmu,hb⟩:=H.adopt t id (o:=.map es) (fun _=>hlt) (hnew h rfl) (fun c' hmu hm=>ho.closed (.inr ⟨_,rfl⟩) hmu hm)
   refine ⟨c',H',t',.mp id h hid,hio,hmu,fun b h1 h2 h3=>⟨hb b h1 h2,fun j hh hj hn=>?_⟩⟩
   by_cases e : j = id
   ·subst e; rw [hid] at hj; cases hj; exact h3 h rfl hn
   ·exact h2 j hh (hback j hh e hj) hn

inductive Owns (P : Program) (c : Cx) (w : World) : List LV → List Value → List (Option Home) → Prop
 | nil : Owns P c w [] [] []
 | cons {r : LV} {v : Value} {ho : Option Home} {rs : List LV} {vs : List Value} {hs : List (Option Home)} (h : Own1 P c w r v ho) (hr : Owns P c w rs vs hs)
   (ha : ∀ h,ho = some h → h.nul = false → ∀ h',some h' ∈ hs → h'.nul = false → h.blk ≠ h'.blk) : Owns P c w (r::rs) (v::vs) (ho::hs)
theorem Owns.mono {c' : Cx} {rs : List LV} {vs : List Value} {hs : List (Option Home)} (H : Owns P c w rs vs hs) (hmu : ∀ b o v,c.mu b o = some v → c'.mu b o = some v) (hn : ∀ h,some h ∈ hs → h.nul = false → ∀ x,c'.mu h.blk x = none) : Owns P c' w rs vs hs:=by
 induction H with
 | nil=>exact .nil
 | cons h hr ha ih=>exact .cons (h.mono hmu fun hh e=>hn hh (by simp [e])) (ih fun hh e=>hn hh (by simp [e])) ha

theorem VR.of_mp {id : Nat} {v : Value} (h : VR c (.mp id) v) : ∃ hh,c.io id = some hh∧v = .map (some hh.blk):=by
 cases h with | mp _ hh hi=>exact ⟨hh,hi,rfl⟩
theorem takes {c0 : Cx} {w0 : World} : ∀ {rs : List LV} {vs : List Value} {hs : List (Option Home)} {id : Nat} {c : Cx} {s : St},Tr c0 w0 c w → SR P c s tmps Ts w → Owns P c w rs vs hs →
  (∀ h,some h ∈ hs → h.nul = false → w0.heap.size≤h.blk∧(∀ x,c.mu h.blk x = none) ∧ ∀ j hh,c.io j = some hh → hh.nul = false → hh.blk ≠ h.blk) →
  ∃ c',SR P c' (imports id rs s).2 tmps Ts w∧Tr c0 w0 c' w∧VRs c' (imports id rs s).1 vs∧(∀ j hh,j < id → c.io j = some hh → c'.io j = some hh)∧(∀ b o x,c.mu b o = some x → c'.mu b o = some x)
 | [],_,_,id,c,s,t,H,.nil,_=>⟨c,H,t,VRs.nil c,fun _ _ _ h=>h,fun _ _ _ h=>h⟩
 | r :: rs,v::vs,ho::hs,id,c,s,t,H,.cons h hr ha,hnew=>by
   obtain ⟨c1,H1,t1,hv1,hio1,hmu1,hb1⟩:=take1 t H id h (fun hh e=>hnew hh (by simp [e]))
   have hnew1 : ∀ h',some h' ∈ hs → h'.nul = false → w0.heap.size≤h'.blk∧(∀ x,c1.mu h'.blk x = none) ∧ ∀ j hh,c1.io j = some hh → hh.nul = false → hh.blk ≠ h'.blk:=fun h' hm hn=>by
    obtain ⟨a1,a2,a3⟩:=hnew h' (by simp [hm]) hn
    obtain ⟨b1,b2⟩:=hb1 h'.blk a2 a3 (fun h0 e hn0=>ha h0 e hn0 h' hm hn)
    exact ⟨a1,b1,b2⟩
   obtain ⟨c2,H2,t2,hv2,hio2,hmu2⟩:=takes (id:=id + 1) t1 H1 (hr.mono hmu1 fun h' hm hn=>(hnew1 h' hm hn).2.1) hnew1
   refine ⟨c2,H2,t2,VRs.cons ?_ hv2,fun j hh hj hjj=>hio2 j hh (by omega) (hio1 j hh (by omega) hjj),fun b o x hx=>hmu2 _ _ _ (hmu1 _ _ _ hx)⟩
   cases h with
   | cl r v hc hvr =>
     have e : import1 id s r = (r,s):=by cases r <;> first | rfl | (simp [LV.closed] at hc)
     rw [e] at hv1
     have e2 : (importsK (imports (id + 1) rs) (import1 id s r)).1.head? = some r:=by rw [e]; rfl
     show VR c2 (import1 id s r).1 v
     rw [e]
     exact hv1.closed hmu2 hc
   | os xs h ho hlt =>
     show VR c2 (.bs id 0 xs.length) _
     cases hv1 with
     | bs _ _ _ hh _ _ hcap hi h0 h1 h2=>exact .bs _ _ _ hh _ _ hcap (hio2 _ _ (by omega) hi) h0 h1 h2
   | om es h ho hnn hlt =>
     show VR c2 (.mp id) _
     obtain ⟨hh,hi,e⟩:=VR.of_mp hv1
     rw [e]; exact .mp _ hh (hio2 _ _ (by omega) hi)
end
end Go.Zv

/- The engine, part 19: what a function hands back, by value. -/
namespace Go.Zv
section
variable {P : Program} {c : Cx} {w w' : World} {s : St} {tmps : Array Value} {Ts : List (Array Value)}

def rowAtZero (off len : Nat) : Option Obj → Bool
 | some (.row _ xs)=>decide (off = 0∧off + len≤xs.length)
 | _=>false
def isMap : Option Obj → Bool
 | some (.map _)=>true
 | _=>false
def expId1 (O : Heap) : LV → List Nat
 | .bs id off len=>if rowAtZero off len (oget O id) = true then [id] else []
 | .mp id=>if isMap (oget O id) = true then [id] else []
 | _=>[]
def expIds : List LV → Heap → List Nat
 | [],_=>[]
 | v::l,O=>expId1 O v++expIds l (export1 O v).2

theorem oget_delIds (j : Nat) : ∀ (l : List Nat) (O : Heap),oget (delIds l O) j = if j ∈ l then none else oget O j
 | [],O=>by simp [delIds]
 | i::l,O=>by
   rw [delIds,oget_delIds j l]
   by_cases h : j ∈ l
   ·simp [h]
   ·simp only [if_neg h,Q7,oget_odel]
    by_cases e : j = i <;> simp [e,h]

theorem export_heap (O : Heap) (v : LV) (j : Nat) : oget (export1 O v).2 j = none ∨ (oget (export1 O v).2 j = oget O j∧j ∉ expId1 O v):=by
 have oth : ∀ l,expId1 O v = [] → (export1 O v).2 = delIds l O → oget (export1 O v).2 j = none ∨ (oget (export1 O v).2 j = oget O j∧j ∉ expId1 O v):=by
  intro l h1 h2
  rw [h1,h2,oget_delIds]
  by_cases h : j ∈ l
  ·left; simp [h]
  ·right; simp [h]
 cases v with
 | nils st=>right; exact ⟨rfl,by simp [expId1]⟩
 | bs id off len =>
   simp only [export1,expId1]
   cases ho : oget O id with
   | none=>right; simp [expBs,rowAtZero]
   | some o =>
     cases o with
     | row st xs =>
       simp only [expBs,rowAtZero]
       by_cases hle : off + len≤xs.length
       ·simp only [hle,if_true,and_true,decide_eq_true_eq]
        rw [oget_odel]
        by_cases e : j = id
        ·left; simp [e]
        ·right; simp only [if_neg e,true_and]; split <;> simp [e]
       ·right; simp [hle]
     | box=>right; simp [expBs,rowAtZero]
     | map=>right; simp [expBs,rowAtZero]
     | loop=>right; simp [expBs,rowAtZero]
 | mp id =>
   simp only [export1,expId1]
   cases ho : oget O id with
   | none=>right; simp [expMp,isMap]
   | some o =>
     cases o with
     | map es =>
       simp only [expMp,isMap,if_true]
       rw [oget_odel]
       by_cases e : j = id
       ·left; simp [e]
       ·right; simp [e]
     | box=>right; simp [expMp,isMap]
     | row=>right; simp [expMp,isMap]
     | loop=>right; simp [expMp,isMap]
 | _=>exact oth _ rfl rfl

theorem expId1_some {O : Heap} {v : LV} {j : Nat} (h : j ∈ expId1 O v) : oget O j ≠ none:=by
 cases v with
 | bs id off len =>
   simp only [expId1] at h
   split at h
   ·rename_i hr
    simp only [Qae] at h; subst h
    intro e; rw [e] at hr; simp [rowAtZero] at hr
   ·simp at h
 | mp id =>
   simp only [expId1] at h
   split at h
   ·rename_i hr
    simp only [Qae] at h; subst h
    intro e; rw [e] at hr; simp [isMap] at hr
   ·simp at h
 | _=>simp [expId1] at h
theorem expIds_some : ∀ {l : List LV} {O : Heap} {j : Nat},j ∈ expIds l O → oget O j ≠ none
 | [],O,j,h=>by simp [expIds] at h
 | v::l,O,j,h=>by
   simp only [expIds,Qs] at h
   rcases h with h | h
   ·exact expId1_some h
   ·have:=expIds_some h
    rcases export_heap O v j with e | ⟨e,_⟩
    ·exact absurd e this
    ·rwa [e] at this

theorem OR.take {h : Home} {st : Nat} {xs : List (List LV)} (n : Nat) (H : OR P c w h (.row st xs)) : st = h.st∧OR P c w h (.row h.st (xs.take n)):=by
 cases H with
 | row xs val hs hv hl h0 hsp hm =>
   have get : ∀ (i : Nat) (x : List LV),(xs.take n)[i]? = some x → xs[i]? = some x:=fun i x hx=>by
    rw [Qak] at hx
    split at hx
    ·exact hx
    ·cases hx
   exact ⟨rfl,.row (xs.take n) val (fun i x hx=>hs i x (get i x hx)) (fun i x j y hx hy=>hv i x j y (get i x hx) hy) (by simp only [Qbp]; omega) h0 hsp hm⟩

structure Ex (P : Program) (d d' : Cx) (w : World) (O Oi : Heap) (l : List LV) : Prop where
 sub : ∀ j o,oget Oi j = some o → oget O j = some o
 cov : ∀ j,oget Oi j ≠ none → j ∉ expIds l Oi → ∀ h,d.io j = some h → h.nul = false → ∀ x v,w.cell? ⟨h.blk,x,none⟩ = some v → d'.mu h.blk x = some v
 own : ∀ j ∈ expIds l Oi,∀ h o,d.io j = some h → oget O j = some o → OR P d' w h o

theorem expPs_length (O : Heap) : ∀ l,(expPs O l).length = l.length
 | []=>rfl
 | v::l=>by simp [expPs,expPs_length O l]
theorem expPs_get (O : Heap) : ∀ (l : List LV) (i : Nat),(expPs O l)[i]? = (l[i]?).map (expP O)
 | [],i=>by simp [expPs]
 | v::l,0=>by simp [expPs]
 | v::l,i + 1=>by simp only [expPs,Qcs]; exact expPs_get O l i
theorem idPs_mem {id : Nat} : ∀ {l : List LV} {i : Nat} {v : LV},l[i]? = some v → id ∈ LV.idP v → id ∈ LV.idPs l
 | [],i,v,h,_=>by simp at h
 | w::l,0,v,h,hm=>by simp only [List.getElem?_cons_zero,Option.some.injEq] at h; subst h; simp only [LV.idPs,Qs]; exact .inl hm
 | w::l,i + 1,v,h,hm=>by simp only [Qcs] at h; simp only [LV.idPs,Qs]; exact .inr (idPs_mem h hm)
theorem expP_ok {d d' : Cx} {O : Heap} (hO : ∀ id o h,oget O id = some o → d.io id = some h → OR P d w h o) (hmu : ∀ b o x,d.mu b o = some x → d'.mu b o = some x)
  {x : LV} {u : Value} (hx : VR d x u) (hcov : ∀ id ∈ LV.idP x,oget O id ≠ none → ∀ h,d.io id = some h → h.nul = false → ∀ y v,w.cell? ⟨h.blk,y,none⟩ = some v → d'.mu h.blk y = some v)
  (hc : LV.closed (expP O x) = true) : VR d' (expP O x) u:=by
 have oth : expP O x = LV.cl O x → LV.idP x = LV.ids x → VR d' (expP O x) u:=fun h1 h2=>by
  rw [h1] at hc ⊢
  rw [h2] at hcov
  exact cl_ok hO hmu hmu hx hcov hc
 cases x with
 | ptr id off =>
   cases hx with
   | ptr _ _ h hi =>
     simp only [expP] at hc ⊢
     cases ho : oget O id with
     | none=>rw [ho] at hc; simp [fpK,LV.closed] at hc
     | some o =>
       rw [ho] at hc
       have hor:=hO id o h ho hi
       cases hor with
       | box cs vals hn hv hcc hm =>
         simp only [fpK] at hc ⊢
         split
         ·rename_i hcl
          have key : ∀ (j : Nat) (y : LV),(cs.drop off)[j]? = some y → ∃ v,vals.getD (off + j) undef = v∧w.cell? ⟨h.blk,off + j,none⟩ = some v∧v.oneCell' = true∧VR d y v∧LV.closed y = true:=by
           intro j y hy
           have hy2 : cs[off + j]? = some y:=by simpa using hy
           obtain ⟨v,hv1,hv2⟩:=hv.getSome hy2
           obtain ⟨a1,a2,a3⟩:=hcc _ v hv1
           exact ⟨v,by simp [List.getD,hv1],a1,a3,hv2,closeds_at hcl hy2⟩
          refine .fp _ _ _ (fun j=>vals.getD (off + j) undef) (closeds_of fun j y hy=>?_) (fun j y hy=>?_) (fun j y hy=>?_) (fun j y hy=>?_)
          ·obtain ⟨v,_,_,_,_,h5⟩:=key j y hy; exact h5
          ·obtain ⟨v,e,h1,_⟩:=key j y hy
           rw [e]
           exact hcov id (by simp [LV.idP]) (by rw [ho]; simp) h hi hn _ _ h1
          ·obtain ⟨v,e,_,h2,_⟩:=key j y hy; rw [e]; exact h2
          ·obtain ⟨v,e,_,_,h3,h4⟩:=key j y hy; rw [e]; exact h3.closed hmu h4
         ·rename_i hcl
          rw [if_neg hcl] at hc
          simp [LV.closed] at hc
       | row=>simp [fpK,LV.closed] at hc
       | map=>simp [fpK,LV.closed] at hc
       | loop=>simp [fpK,LV.closed] at hc
 | _=>exact oth rfl rfl

theorem exports_ok {d d' : Cx} {O : Heap} (hmu : ∀ b o x,d.mu b o = some x → d'.mu b o = some x) (hO : ∀ id o,oget O id = some o → ∃ h,d.io id = some h∧OR P d w h o)
  (hinj : ∀ i j h h',i ≠ j → d.io i = some h → d.io j = some h' → h.nul = false → h'.nul = false → h.blk ≠ h'.blk) (hlt : ∀ id h,d.io id = some h → h.nul = false → h.blk < w.heap.size) :
  ∀ {l : List LV} {us : List Value} {Oi : Heap},Ex P d d' w O Oi l → VRs d l us → LV.closedRs (exports l Oi) = true →
  ∃ hs,Owns P d' w (exports l Oi) us hs ∧ ∀ h,some h ∈ hs → h.nul = false → ∃ j ∈ expIds l Oi,d.io j = some h
 | [],[],Oi,_,_,_=>⟨[],.nil,by simp⟩
 | [],u::us,Oi,_,hv,_=>by have:=hv.len; simp at this
 | v::l,[],Oi,_,hv,_=>by have:=hv.len; simp at this
 | v :: l, u :: us,Oi,hE,hv,hc=>by
   have hc2 : LV.closedC (export1 Oi v).1 = true∧LV.closedRs (exports l (export1 Oi v).2) = true:=by
    have : LV.closedRs ((export1 Oi v).1::exports l (export1 Oi v).2) = true:=hc
    simpa [LV.closedRs] using this
   obtain ⟨hs,hO2,hh2⟩:=exports_ok (l:=l) (us:=us) (Oi:=(export1 Oi v).2) hmu hO hinj hlt
    ⟨fun j o hj=>by
     rcases export_heap Oi v j with e | ⟨e,_⟩
     ·rw [e] at hj; cases hj
     ·rw [e] at hj; exact hE.sub j o hj,
     fun j hj hn=>by
      rcases export_heap Oi v j with e | ⟨e,hn1⟩
      ·exact absurd e hj
      ·rw [e] at hj
       exact hE.cov j hj (by simp only [expIds,Qs,not_or]; exact ⟨hn1,hn⟩),
     fun j hj=>hE.own j (by simp only [expIds,Qs]; exact .inr hj)⟩ hv.tail hc2.2
   have hO1 : ∀ id o h,oget Oi id = some o → d.io id = some h → OR P d w h o:=fun id o h ho hi=>by
    obtain ⟨h',hi',hor⟩:=hO id o (hE.sub id o ho)
    rw [hi] at hi'; cases hi'; exact hor
   have head : ∃ ho,Own1 P d' w (export1 Oi v).1 u ho ∧ ∀ h,ho = some h → h.nul = false → ∃ j ∈ expId1 Oi v,d.io j = some h:=by
    have hvv:=hv.head
    have closed : expId1 Oi v = [] → (∀ id ∈ LV.ids v,oget (export1 Oi v).2 id = none) → (export1 Oi v).1 = LV.cl Oi v → ∃ ho,Own1 P d' w (export1 Oi v).1 u ho ∧ ∀ h,ho = some h → h.nul = false → ∃ j ∈ expId1 Oi v,d.io j = some h:=by
     intro he hd hr
     refine ⟨none,?_,by simp⟩
     have hcl : LV.closed (LV.cl Oi v) = true:=by
      have h1:=hc2.1
      rw [hr] at h1
      cases hx : LV.cl Oi v with
      | os st xs=>cases hvv <;> simp only [LV.cl] at hx <;> first | cases hx | (unfold vsK at hx; split at hx <;> cases hx)
      | om es=>cases hvv <;> simp only [LV.cl] at hx <;> first | cases hx | (unfold vsK at hx; split at hx <;> cases hx)
      | tup l=>rw [hx] at h1; simp [LV.closedC] at h1
      | _=>rw [hx] at h1; exact h1
     rw [hr]
     refine .cl _ _ hcl (cl_ok hO1 hmu hmu hvv (fun id hid hne h hi hn x y hxy=>hE.cov id hne ?_ h hi hn x y hxy) hcl)
     simp only [expIds,he,Qw]
     exact fun hm=>expIds_some hm (hd id hid)
    have oth : expId1 Oi v = [] → export1 Oi v = (LV.cl Oi v,delIds (LV.ids v) Oi) → ∃ ho,Own1 P d' w (export1 Oi v).1 u ho ∧ ∀ h,ho = some h → h.nul = false → ∃ j ∈ expId1 Oi v,d.io j = some h:=fun he hx =>
     closed he (fun id hid=>by rw [hx]; simp only [oget_delIds,if_pos hid]) (by rw [hx])
    cases v with
    | nils st =>
      cases hvv with
      | nils _ a =>
        exact ⟨some ⟨0,0,st,0,true,a,by simp⟩,Own1.os [] ⟨0,0,st,0,true,a,by simp⟩ (OR.row [] (fun _ _=>undef) (by simp) (by simp) (by simp) (by simp) (by simp) (by simp)) (by simp),by simp⟩
    | bs id off len =>
      cases ho : oget Oi id with
      | none=>simp [export1,ho,expBs,LV.closedC,LV.closed] at hc2
      | some o =>
        cases o with
        | row st xs =>
          by_cases hle : off + len≤xs.length
          ·by_cases hz : off = 0
           ·subst hz
            have hex : export1 Oi (.bs id 0 len) = (.os st (xs.take len),odel Oi id):=by simp only [export1,ho,expBs,if_pos hle,if_true]
            have hid1 : expId1 Oi (.bs id 0 len) = [id]:=by simp only [expId1,ho,rowAtZero]; rw [if_pos (by simpa using hle)]
            cases hvv with
            | bs _ _ _ h a cap hcap hi h0 h1 hoff =>
              obtain ⟨rfl,rfl⟩:=h0 rfl
              have hor:=hE.own id (by simp [expIds,hid1]) h _ hi (hE.sub id _ ho)
              obtain ⟨rfl,hor2⟩:=hor.take len
              rw [hex,hid1]
              refine ⟨some h,?_,fun h' e hn=>⟨id,by simp,by cases e; exact hi⟩⟩
              have:=Own1.os (xs.take len) h hor2 (hlt id h hi)
              rwa [show (xs.take len).length = len by simp; omega] at this
           ·have hex : export1 Oi (.bs id off len) = (.vs ((xs.drop off).take len),odel Oi id):=by simp only [export1,ho,expBs,if_pos hle,if_neg hz]
            refine closed ?_ (fun j hj=>?_) ?_
            ·simp only [expId1,ho,rowAtZero]; rw [if_neg (by simp [hz])]
            ·simp only [LV.ids,Qae] at hj; subst hj
             rw [hex]; simp [oget_odel]
            ·rw [hex]; simp only [LV.cl,ho,rowElems,if_pos hle,vsK]
          ·simp [export1,ho,expBs,hle,LV.closedC,LV.closed] at hc2
        | box=>simp [export1,ho,expBs,LV.closedC,LV.closed] at hc2
        | map=>simp [export1,ho,expBs,LV.closedC,LV.closed] at hc2
        | loop=>simp [export1,ho,expBs,LV.closedC,LV.closed] at hc2
    | mp id =>
      cases ho : oget Oi id with
      | none=>simp [export1,ho,expMp,LV.closedC,LV.closed] at hc2
      | some o =>
        cases o with
        | map es =>
          obtain ⟨h,hi,rfl⟩:=VR.of_mp hvv
          have hid1 : expId1 Oi (.mp id) = [id]:=by simp [expId1,ho,isMap]
          have hex : export1 Oi (.mp id) = (.om es,odel Oi id):=by simp only [export1,ho,expMp]
          have hor:=hE.own id (by simp [expIds,hid1]) h _ hi (hE.sub id _ ho)
          have hn : h.nul = false:=by cases hor with | map _ _ _ _ hn _ _ _ _=>exact hn
          rw [hex,hid1]
          exact ⟨some h,.om es h hor hn (hlt id h hi hn),fun h' e hn=>⟨id,by simp,by cases e; exact hi⟩⟩
        | box=>simp [export1,ho,expMp,LV.closedC,LV.closed] at hc2
        | row=>simp [export1,ho,expMp,LV.closedC,LV.closed] at hc2
        | loop=>simp [export1,ho,expMp,LV.closedC,LV.closed] at hc2
    | fn f a b =>
      refine ⟨none,?_,by simp⟩
      have h1:=hc2.1
      have hcl : LV.closeds (LV.cls Oi a) = true∧LV.closeds (expPs Oi b) = true:=by
       simpa only [export1,LV.closedC,LV.closed,Qg] using h1
      cases hvv with
      | fn _ _ _ us vs hl hl2 g g2 =>
        refine .cl _ _ (by simpa only [export1,LV.closedC] using h1) ?_
        have cov : ∀ id ∈ LV.idss a++LV.idPs b,oget Oi id ≠ none → ∀ h,d.io id = some h → h.nul = false → ∀ y v,w.cell? ⟨h.blk,y,none⟩ = some v → d'.mu h.blk y = some v:=fun id hid hne h hi hn x y hxy=>by
         refine hE.cov id hne ?_ h hi hn x y hxy
         simp only [expIds,expId1,Qw]
         refine fun hm=>expIds_some hm ?_
         simp only [export1,oget_delIds,if_pos hid]
        refine .fn f _ _ us vs (by rw [cls_length,hl]) (by rw [expPs_length,hl2]) (fun i x v hx hv=>?_) (fun i x v hx hv=>?_)
        ·have hcx:=closeds_at hcl.1 hx
         rw [clsO_get] at hx
         obtain ⟨y,hy,rfl⟩:=Qc.1 hx
         exact cl_ok hO1 hmu hmu (g i y v hy hv) (fun id hid=>cov id (Qs.2 (.inl (idss_mem hy hid)))) hcx
        ·have hcx:=closeds_at hcl.2 hx
         rw [expPs_get] at hx
         obtain ⟨y,hy,rfl⟩:=Qc.1 hx
         exact expP_ok hO1 hmu (g2 i y v hy hv) (fun id hid=>cov id (Qs.2 (.inr (idPs_mem hy hid)))) hcx
    | _=>exact oth rfl rfl
   obtain ⟨ho,h1,h2⟩:=head
   refine ⟨ho::hs,?_,fun h hm hn=>?_⟩
   ·show Owns P d' w ((export1 Oi v).1::exports l (export1 Oi v).2) (u::us) (ho::hs)
    refine .cons h1 hO2 fun h e hn h' hm hn'=>?_
    obtain ⟨j,hj,hij⟩:=h2 h e hn
    obtain ⟨j',hj',hij'⟩:=hh2 h' hm hn'
    refine hinj j j' h h' (fun e=>?_) hij hij' hn hn'
    subst e
    rcases export_heap Oi v j with e | ⟨_,hn1⟩
    ·exact expIds_some hj' e
    ·exact hn1 hj
   ·simp only [Q7] at hm
    rcases hm with e | hm
    ·obtain ⟨j,hj,hij⟩:=h2 h e.symm hn
     exact ⟨j,by simp only [expIds,Qs]; exact .inl hj,hij⟩
    ·obtain ⟨j,hj,hij⟩:=hh2 h hm hn
     exact ⟨j,by simp only [expIds,Qs]; exact .inr hj,hij⟩

def keysBut (l : List Nat) : Heap → List Nat
 | []=>[]
 | (k,_)::O=>if k ∈ l then keysBut l O else k::keysBut l O
theorem mem_keysBut {l : List Nat} {j : Nat} : ∀ {O : Heap},j ∈ keysBut l O ↔ j ∉ l∧oget O j ≠ none
 | []=>by simp [keysBut,oget]
 | (k,v)::O=>by
   simp only [keysBut,oget]
   split
   ·rename_i h
    rw [mem_keysBut]
    by_cases e : k = j
    ·subst e; simp [h]
    ·simp [e]
   ·rename_i h
    simp only [Q7]
    rw [mem_keysBut]
    by_cases e : k = j
    ·subst e; simp [h]
    ·simp [e,Ne.symm e]

theorem frees_keep {j : Nat} {o : Obj} (hk : (∃ st xs,o = .row st xs) ∨ ∃ es,o = .map es) : ∀ {ids : List Nat} {s : St},j ∉ ids → oget s.O j = some o → oget (St.frees ids s).O j = some o
 | [],s,_,h=>h
 | i :: l,s,hn,h=>by
   simp only [Q7,not_or] at hn
   show oget (St.frees l (St.free i s)).O j = some o
   refine frees_keep hk hn.2 ?_
   unfold St.free
   cases ho : oget s.O i with
   | none=>exact h
   | some oo =>
     simp only [freeO,St.sub,oget_hsub,oget_odel,if_neg hn.1,h,Qay]
     rcases hk with ⟨st,xs,rfl⟩ | ⟨es,rfl⟩ <;> rfl

theorem expId1_kind {O : Heap} {v : LV} {j : Nat} (h : j ∈ expId1 O v) : ∃ o,oget O j = some o∧((∃ st xs,o = .row st xs) ∨ ∃ es,o = .map es):=by
 cases v with
 | bs id off len =>
   simp only [expId1] at h
   split at h
   ·rename_i hr
    simp only [Qae] at h; subst h
    cases ho : oget O j with
    | none=>rw [ho] at hr; simp [rowAtZero] at hr
    | some o=>cases o with
      | row st xs=>exact ⟨_,rfl,.inl ⟨_,_,rfl⟩⟩
      | _=>rw [ho] at hr; simp [rowAtZero] at hr
   ·simp at h
 | mp id =>
   simp only [expId1] at h
   split at h
   ·rename_i hr
    simp only [Qae] at h; subst h
    cases ho : oget O j with
    | none=>rw [ho] at hr; simp [isMap] at hr
    | some o=>cases o with
      | map es=>exact ⟨_,rfl,.inr ⟨_,rfl⟩⟩
      | _=>rw [ho] at hr; simp [isMap] at hr
   ·simp at h
 | _=>simp [expId1] at h
theorem expIds_kind : ∀ {l : List LV} {O : Heap} {j : Nat},j ∈ expIds l O → ∃ o,oget O j = some o∧((∃ st xs,o = .row st xs) ∨ ∃ es,o = .map es)
 | [],O,j,h=>by simp [expIds] at h
 | v::l,O,j,h=>by
   simp only [expIds,Qs] at h
   rcases h with h | h
   ·exact expId1_kind h
   ·obtain ⟨o,ho,hk⟩:=expIds_kind h
    rcases export_heap O v j with e | ⟨e,_⟩
    ·rw [e] at ho; cases ho
    ·exact ⟨o,by rw [← e]; exact ho,hk⟩

theorem export_out {d : Cx} (H : SR P d s tmps Ts w) {l : List LV} {us : List Value} (hv : VRs d l us) (hc : LV.closedRs (exports l s.O) = true) :
  ∃ d' hs,Tr d w d' w∧MR d' w∧Owns P d' w (exports l s.O) us hs ∧ ∀ h,some h ∈ hs → h.nul = false → ∃ j,d.io j = some h:=by
 obtain ⟨d',H',t,_,hio,hcov⟩:=H.frees (keysBut (expIds l s.O) s.O)
 obtain ⟨hs,hO,hh⟩:=exports_ok (d':=d') (Oi:=s.O) t.mu H.O H.inj H.lt ⟨fun _ _ h=>h,fun j hj hn=>hcov j (mem_keysBut.2 ⟨hn,hj⟩),fun j hj h o hi ho=>by
  obtain ⟨o',ho',hk⟩:=expIds_kind hj
  rw [ho] at ho'; cases ho'
  have hnm : j ∉ keysBut (expIds l s.O) s.O:=fun hm=>(mem_keysBut.1 hm).1 hj
  obtain ⟨h2,hi2,hor⟩:=H'.O j o (frees_keep hk hnm ho)
  rw [hio j hnm,hi] at hi2; cases hi2
  exact hor⟩ hv hc
 exact ⟨d',hs,t,H'.mu,hO,fun h hm hn=>by obtain ⟨j,_,hj⟩:=hh h hm hn; exact ⟨j,hj⟩⟩

theorem Owns.mem {rs : List LV} {vs : List Value} {hs : List (Option Home)} (H : Owns P c w rs vs hs) {h : Home} (hm : some h ∈ hs) : h.nul = false → ∀ x,c.mu h.blk x = none:=by
 induction H with
 | nil=>simp at hm
 | cons h1 hr ha ih =>
   simp only [Q7] at hm
   rcases hm with e | hm
   ·subst e
    cases h1 with
    | os xs _ ho hlt=>exact fun hn=>ho.mu hn
    | om es _ ho hn hlt=>exact fun hn=>ho.mu hn
   ·exact ih hm

theorem back_in (H : SR P c s tmps Ts w) {d : Cx} (t : Tr c.bare w d w') {sd : St} {tmps' : Array Value} {Ts' : List (Array Value)} (Hd : SR P d sd tmps' Ts' w') {v r : LV} {u : Value} (hv : VR d v u) (hr : exportV sd.O v = some r) (id : Nat) :
  ∃ c',SR P c' (import_ id s r).2 tmps Ts w'∧Tr c w c' w'∧VR c' (import_ id s r).1 u:=by
 have main : ∀ {l : List LV} {us : List Value},VRs d l us → LV.closedRs (exports l sd.O) = true →
   ∃ c',SR P c' (imports id (exports l sd.O) s).2 tmps Ts w'∧Tr c w c' w'∧VRs c' (imports id (exports l sd.O) s).1 us:=by
  intro l us hl hcl
  obtain ⟨d',hs,t2,hM,hOw,hh⟩:=export_out Hd hl hcl
  obtain ⟨H2,t3⟩:=H.aside (t.trans t2) hM
  have hO2 : Owns P (c.back d') w' (exports l sd.O) us hs:=hOw.mono (fun _ _ _ h=>h) (fun h hm=>hOw.mem hm)
  obtain ⟨c',H3,t4,hv4,_,_⟩:=takes (id:=id) t3 H2 hO2 fun h hm hn=>by
   obtain ⟨j,hj⟩:=hh h hm hn
   have hle : w.heap.size≤h.blk:=by
    rcases t.io j h hj hn with ⟨_,_,e,_⟩ | hle
    ·simp [Cx.bare] at e
    ·exact hle
   exact ⟨hle,hOw.mem hm hn,fun j hh hj hnn=>by have:=H.lt j hh hj hnn; omega⟩
  exact ⟨c',H3,t4,hv4⟩
 unfold exportV chkR at hr
 split at hr
 ·rename_i hcl
  simp only [Option.some.injEq] at hr; subst hr
  by_cases htup : ∃ cs,v = .tup cs
  ·obtain ⟨cs,rfl⟩:=htup
   obtain ⟨us,rfl,hus⟩:=VRs.of_tup hv
   obtain ⟨c',H3,t4,hv4⟩:=main hus hcl
   exact ⟨c',H3,t4,.tup _ us hv4.len hv4.at_⟩
  ·have hnt : ∀ cs,v ≠ .tup cs:=fun cs e=>htup ⟨cs,e⟩
   have hx : exportR sd.O v = (export1 sd.O v).1:=by cases v <;> first | rfl | exact absurd rfl (hnt _)
   rw [hx] at hcl ⊢
   have hnt2 : ∀ cs,(export1 sd.O v).1 ≠ .tup cs:=by
    intro cs e
    cases v with
    | tup cs=>exact hnt _ rfl
    | bs i o l=>simp only [export1] at e; unfold expBs at e; split at e <;> (try split at e) <;> (try split at e) <;> cases e
    | mp i=>simp only [export1] at e; unfold expMp at e; split at e <;> cases e
    | bb i o st l=>simp only [export1,LV.cl] at e; unfold vsK at e; split at e <;> cases e
    | _=>cases e
   have hcc : LV.closedC (export1 sd.O v).1 = true:=by
    cases hh : (export1 sd.O v).1 <;> rw [hh] at hcl <;> first | exact hcl | exact absurd hh (hnt2 _)
   obtain ⟨c',H3,t4,hv4⟩:=main (l:=[v]) (us:=[u]) (VRs.cons hv (VRs.nil d)) (by
    show LV.closedRs [(export1 sd.O v).1] = true
    simp [LV.closedRs,hcc])
   have himp : ∀ r : LV,(∀ cs,r ≠ .tup cs) → import_ id s r = import1 id s r:=fun r hn=>by cases r <;> first | rfl | exact absurd rfl (hn _)
   rw [himp _ hnt2]
   exact ⟨c',H3,t4,hv4.head⟩
 ·cases hr
end
end Go.Zv

/- The engine, part 28: an operation of a drawn region is sound. -/
namespace Go.Zv
section
variable {P : Program} {c : Cx} {w w' : World} {s : St} {tmps : Array Value} {Ts : List (Array Value)}

theorem noVs_VR {c' : Cx} {x : LV} {v : Value} (h : VR c x v) : LV.noVs x = true → LV.closed x = true → VR c' x v:=by
 have at_ : ∀ {l : List LV} {i : Nat} {x : LV},LV.noVss l = true → l[i]? = some x → LV.noVs x = true:=by
  intro l
  induction l with
  | nil=>intro i x _ h; simp at h
  | cons y l ih =>
    intro i x hl hx
    simp only [LV.noVss,Qg] at hl
    cases i with
    | zero=>simp at hx; subst hx; exact hl.1
    | succ i=>exact ih hl.2 (by simpa using hx)
 induction h with
 | any v=>intro h; simp [LV.noVs] at h
 | undef=>exact fun _ _=>.undef
 | int k n=>exact fun _ _=>.int k n
 | bool b=>exact fun _ _=>.bool b
 | str l=>exact fun _ _=>.str l
 | agg cs vs hl h ih=>exact fun hn hc=>.agg cs vs hl fun i x v hx hv=>ih i x v hx hv (at_ (by simpa [LV.noVs] using hn) hx) (closeds_at (by simpa [LV.closed] using hc) hx)
 | tup cs vs hl h ih=>exact fun hn hc=>.tup cs vs hl fun i x v hx hv=>ih i x v hx hv (at_ (by simpa [LV.noVs] using hn) hx) (closeds_at (by simpa [LV.closed] using hc) hx)
 | vs0 a cap hz=>exact fun _ _=>.vs0 a cap hz
 | vs xs b o s cap val hne=>intro hn; exfalso; simp only [LV.noVs,List.isEmpty_iff] at hn; exact hne hn
 | nils st a=>intro _ hc; simp [LV.closed] at hc
 | nul=>exact fun _ _=>.nul
 | emp a cap=>exact fun _ _=>.emp a cap
 | bs=>intro _ hc; simp [LV.closed] at hc
 | bb=>intro _ hc; simp [LV.closed] at hc
 | ptr=>intro _ hc; simp [LV.closed] at hc
 | ep=>intro _ hc; simp [LV.closed] at hc
 | fp=>intro hn; simp [LV.noVs] at hn
 | nilp=>exact fun _ _=>.nilp
 | fn f xs ys us vs hl hl2 h h2 ih ih2 =>
   intro hn hc
   simp only [LV.noVs,LV.closed,Qg] at hn hc
   exact .fn f xs ys us vs hl hl2 (fun i x v hx hv=>ih i x v hx hv (at_ hn.1 hx) (closeds_at hc.1 hx)) (fun i x v hx hv=>ih2 i x v hx hv (at_ hn.2 hx) (closeds_at hc.2 hx))
 | nilf=>exact fun _ _=>.nilf
 | mp=>intro _ hc; simp [LV.closed] at hc
 | nilm=>exact fun _ _=>.nilm
 | yl=>intro _ hc; simp [LV.closed] at hc
theorem scal_VR {c' : Cx} {x : LV} {v : Value} (h : VR c x v) (hs : LV.scal x = true) : VR c' x v:=by
 cases h <;> first | (simp [LV.scal] at hs; done) | constructor

theorem take_in {c0 : Cx} {w0 : World} (t : Tr c0 w0 c w) (H : SR P c s tmps Ts w) {rs : List LV} {us : List Value} {hs : List (Option Home)} (hO : Owns P c w rs us hs) (id : Nat)
  (hnew : ∀ h,some h ∈ hs → h.nul = false → w0.heap.size≤h.blk∧(∀ x,c.mu h.blk x = none) ∧ ∀ j hh,c.io j = some hh → hh.nul = false → hh.blk ≠ h.blk) :
  ∃ c',SR P c' (imports id rs s).2 tmps Ts w∧Tr c0 w0 c' w∧VRs c' (imports id rs s).1 us:=by
 obtain ⟨c',H3,t4,hv4,_,_⟩:=takes (id:=id) t H hO hnew
 exact ⟨c',H3,t4,hv4⟩

theorem owns_noVs {c' : Cx} {rs : List LV} {us : List Value} {hs : List (Option Home)} (H : Owns P c w rs us hs) (hn : LV.noVss rs = true) (hm : ∀ h,some h ∈ hs → h.nul = false → ∀ x,c'.mu h.blk x = none) : Owns P c' w rs us hs:=by
 induction H with
 | nil=>exact .nil
 | cons h hr ha ih =>
   simp only [LV.noVss,Qg] at hn
   refine .cons ?_ (ih hn.2 fun hh e=>hm hh (by simp [e])) ha
   cases h with
   | cl _ _ hc hv=>exact .cl _ _ hc (noVs_VR hv hn.1 hc)
   | os xs hh ho hlt =>
     refine .os xs hh ?_ hlt
     cases ho with
     | row xs val hs hv hl h0 hsp hm2 =>
       refine .row xs val hs (fun i x j y hx hy=>?_) hl h0 hsp (fun hnn=>hm hh (by simp) hnn)
       obtain ⟨h1,h2,h3⟩:=hv i x j y hx hy
       refine ⟨h1,h2,scal_VR h3 ?_⟩
       have hall:=hn.1
       simp only [LV.noVs] at hall
       have hx2:=Qj.1 hall x (Qd hx)
       exact Qj.1 hx2 y (Qd hy)
   | om es hh ho hnn hlt=>simp [LV.noVs] at hn

theorem back_noVs (H : SR P c s tmps Ts w) {c1 d : Cx} (t : Tr c1.bare w d w') {sd : St} {tmps' : Array Value} {Ts' : List (Array Value)} (Hd : SR P d sd tmps' Ts' w') {v r : LV} {u : Value} (hv : VR d v u) (hr : exportV sd.O v = some r) (hn : LV.noVs r = true) (id : Nat) :
  ∃ c',SR P c' (import_ id s r).2 tmps Ts w'∧Tr c w c' w'∧VR c' (import_ id s r).1 u:=by
 have hg : Grew w w':=⟨t.size,fun b hb=>t.keep b hb fun j h hi=>by simp [Cx.bare] at hi,t.frz,t.env⟩
 obtain ⟨H1,t1⟩:=H.grew hg
 have main : ∀ {l : List LV} {us : List Value},VRs d l us → LV.closedRs (exports l sd.O) = true → LV.noVss (exports l sd.O) = true →
   ∃ c',SR P c' (imports id (exports l sd.O) s).2 tmps Ts w'∧Tr c w c' w'∧VRs c' (imports id (exports l sd.O) s).1 us:=by
  intro l us hl hcl hno
  obtain ⟨d',hs,t2,hM,hOw,hh⟩:=export_out Hd hl hcl
  have hle : ∀ h,some h ∈ hs → h.nul = false → w.heap.size≤h.blk:=fun h hm hn=>by
   obtain ⟨j,hj⟩:=hh h hm hn
   rcases t.io j h hj hn with ⟨_,_,e,_⟩ | hle
   ·simp [Cx.bare] at e
   ·exact hle
  have hmu : ∀ h,some h ∈ hs → h.nul = false → ∀ x,c.mu h.blk x = none:=fun h hm hn x=>by
   cases hx : c.mu h.blk x with
   | none=>rfl
   | some y=>have:=lt_of_cell (H.mu _ _ _ hx); have:=hle h hm hn; omega
  exact take_in t1 H1 (owns_noVs hOw hno hmu) id fun h hm hn=>⟨hle h hm hn,hmu h hm hn,fun j hh hj hnn=>by have:=H.lt j hh hj hnn; have:=hle h hm hn; omega⟩
 unfold exportV chkR at hr
 split at hr
 ·rename_i hcl
  simp only [Option.some.injEq] at hr; subst hr
  by_cases htup : ∃ cs,v = .tup cs
  ·obtain ⟨cs,rfl⟩:=htup
   obtain ⟨us,rfl,hus⟩:=VRs.of_tup hv
   obtain ⟨c',H3,t4,hv4⟩:=main hus hcl (by simpa [exportR,LV.noVs] using hn)
   exact ⟨c',H3,t4,.tup _ us hv4.len hv4.at_⟩
  ·have hnt : ∀ cs,v ≠ .tup cs:=fun cs e=>htup ⟨cs,e⟩
   have hx : exportR sd.O v = (export1 sd.O v).1:=by cases v <;> first | rfl | exact absurd rfl (hnt _)
   rw [hx] at hcl hn ⊢
   have hnt2 : ∀ cs,(export1 sd.O v).1 ≠ .tup cs:=by
    intro cs e
    cases v with
    | tup cs=>exact hnt _ rfl
    | bs i o l=>simp only [export1] at e; unfold expBs at e; split at e <;> (try split at e) <;> (try split at e) <;> cases e
    | mp i=>simp only [export1] at e; unfold expMp at e; split at e <;> cases e
    | bb i o st l=>simp only [export1,LV.cl] at e; unfold vsK at e; split at e <;> cases e
    | _=>cases e
   have hcc : LV.closedC (export1 sd.O v).1 = true:=by
    cases hh : (export1 sd.O v).1 <;> rw [hh] at hcl <;> first | exact hcl | exact absurd hh (hnt2 _)
   obtain ⟨c',H3,t4,hv4⟩:=main (l:=[v]) (us:=[u]) (VRs.cons hv (VRs.nil d)) (by
    show LV.closedRs [(export1 sd.O v).1] = true
    simp [LV.closedRs,hcc]) (by
    show LV.noVss [(export1 sd.O v).1] = true
    simp [LV.noVss,hn])
   have himp : ∀ r : LV,(∀ cs,r ≠ .tup cs) → import_ id s r = import1 id s r:=fun r hn=>by cases r <;> first | rfl | exact absurd rfl (hn _)
   rw [himp _ hnt2]
   exact ⟨c',H3,t4,hv4.head⟩
 ·cases hr

end
end Go.Zv

/- The engine, part 20: calls. -/
namespace Go.Zv
section
variable {P : Program} {c : Cx} {w w' : World} {s : St} {tmps : Array Value} {Ts : List (Array Value)}

def Marks (lo : Nat) (c : Cx) (w : World) : List Deferred → Prop
 | []=>True
 | d::ds=>(∃ r,d.target = .collected r∧lo≤r∧w.heap[r]? = some (Go.Obj.deferred (some []))∧(∀ id h,c.io id = some h → h.nul = false → h.blk ≠ r) ∧ ∀ d' ∈ ds,∀ r',d'.target = .collected r' → r' ≠ r)∧Marks lo c w ds
theorem Marks.tr {lo : Nat} {c' : Cx} (t : Tr c w c' w') : ∀ {ds : List Deferred},Marks lo c w ds → Marks lo c' w' ds
 | [],_=>trivial
 | d::ds,⟨⟨r,h1,h2,h3,h4,h5⟩,h6⟩=>by
   have hlt : r < w.heap.size:=(Qaj.1 h3).1
   refine ⟨⟨r,h1,h2,by rw [t.keep r hlt h4]; exact h3,fun id h hi hn e=>?_,h5⟩,Marks.tr t h6⟩
   rcases t.io id h hi hn with ⟨id0,h0,hi0,hn0,e0⟩ | hle
   ·exact h4 id0 h0 hi0 hn0 (e0.trans e)
   ·omega
def InRound (b : Frame) (w : World) : Prop:=∀ l,b.roundOf = some l → ∃ r : Loop,w.heap[l]? = some (Go.Obj.loop r)
theorem InRound.tr {b : Frame} {c' : Cx} (t : Tr c w c' w') (h : InRound b w) : InRound b w':=fun l hl=>by obtain ⟨r,hr⟩:=h l hl; exact t.loop l r hr

def CallsTo (P : Program) (f : FuncId) (vals : Array Value) (w : World) (u : Value) (w' : World) : Prop :=
 (∃ fn,P.funcs[f]? = some fn∧fn.body.isNone = false∧(fn.name == "runtime.NumGoroutine") = false) ∧
 ∀ cs,∃ fr,Steps P (lone (Frame.enter P f vals .normal) cs w) (lone fr cs w')∧fr.fn = f∧fr.leaving P w' (.returned u)
def FnOK (P : Program) (R : Orc) : Prop:=∀ f args lvl F O v F' O',R (.fn f args lvl F O) = some (.res v F' O') →
 ∀ (c : Cx) (vals : List Value) (Ts : List (Array Value)) (w : World),SR P c ⟨[],F,O,lvl⟩ #[] Ts w → VRs c args vals →
 ∃ c' u w',SR P c' ⟨[(0,v)],F',O',lvl⟩ #[u] Ts w'∧Tr c w c' w'∧CallsTo P f vals.toArray w u w'
def RndOK (P : Program) (R : Orc) : Prop:=∀ id args lvl F O v F' O',R (.rnd id args lvl F O) = some (.res v F' O') →
 ∀ (c : Cx) (vals : List Value) (Ts : List (Array Value)) (w : World),SR P c ⟨[],F,O,lvl⟩ #[] Ts w → VRs c args vals → ∀ h,c.io id = some h →
 ∃ c' u w',SR P c' ⟨[(0,v)],F',O',lvl⟩ #[u] Ts w'∧Tr c w c' w' ∧ ∃ f tmps asg body,(Instr.yield h.blk vals.toArray).run P w = .ok (.round h.blk f tmps asg body) w ∧
   ∀ (cf : Frame) (cs : List Frame),Steps P (lone (Frame.round h.blk f tmps asg body .normal) (cf::cs) w) (lone (cf.finish u) cs w')

theorem SR.empty0 (hM : MR c w) : SR P c.bare ⟨[],[],[],0⟩ #[] [] w :=
 ⟨fun t=>by simp [tget]; exact .any _,rfl,fun i F t h=>by simp at h,fun id o h=>by simp [oget] at h,fun id h hi=>by simp [Cx.bare] at hi,fun i j h h' _ hi=>by simp [Cx.bare] at hi,hM,fun id h hi=>by simp [Cx.bare] at hi⟩

theorem VRs.closed {c' : Cx} (hmu : ∀ b o v,c.mu b o = some v → c'.mu b o = some v) {xs : List LV} {us : List Value} (h : VRs c xs us) (hc : LV.closeds xs = true) : VRs c' xs us :=
 ⟨h.len,fun i x v hx hv=>(h.at_ i x v hx hv).closed hmu (closeds_at hc hx)⟩

theorem popK_ok {X : St} {s' : St} {v : LV} {u : Value} {lvl : Nat} (H : SR P c X tmps (#[u]::Ts) w) (h : popK X = some (v,s')) : SR P c s' tmps Ts w∧VR c v u:=by
 unfold popK at h
 split at h
 ·rename_i V F hF
  simp only [Option.some.injEq,Prod.mk.injEq] at h
  obtain ⟨rfl,rfl⟩:=h
  have h0:=H.F 0 V #[u] (by simp [hF]) rfl 0
  refine ⟨⟨H.T,by have:=H.Fl; rw [hF] at this; simpa using this,fun i F' t hF' ht=>H.F (i + 1) F' t (by rw [hF]; simpa using hF') (by simpa using ht),H.O,H.dom,H.inj,H.mu,H.lt⟩,by simpa using h0⟩
 ·cases h

theorem afterIn_ok {lvl : Nat} {v0 : LV} {F0 : List Env} {O0 : Heap} {u : Value} {v : LV} {s' : St} {l : Nat} (H : SR P c ⟨[(0,v0)],F0,O0,l⟩ #[u] (tmps::Ts) w) (h : afterIn lvl (.res v0 F0 O0) = some (v,s')) :
  ∃ c',SR P c' s' tmps Ts w∧Tr c w c' w∧VR c' v u:=by
 cases F0 with
 | nil=>cases h
 | cons T F =>
   have HX : SR P c { T:=T,F:=[(0,v0)]::F,O:=O0,lvl:=lvl } tmps (#[u]::Ts) w:=by
    refine ⟨H.F 0 T tmps rfl rfl,by have:=H.Fl; simpa using this,fun i F' t hF' ht=>?_,H.O,H.dom,H.inj,H.mu,H.lt⟩
    cases i with
    | zero=>simp at hF' ht; subst hF'; subst ht; exact H.T
    | succ i=>exact H.F (i + 1) F' t (by simpa using hF') (by simpa using ht)
   obtain ⟨c',H',t',_⟩:=HX.frees (idsFrom (lvl + 1) O0)
   obtain ⟨h1,h2⟩:=popK_ok (lvl:=0) H' h
   exact ⟨c',h1,t',h2⟩

theorem callFn_ok {R : Orc} (IH : FnOK P R) (H : SR P c s tmps Ts w) {args : List LV} {vals : List Value} (ha : VRs c args vals) {id : Nat} {f : FuncId} {v : LV} {s' : St} (h : callFn R true id f args s = some (v,s')) :
  ∃ c' u w',SR P c' s' tmps Ts w'∧Tr c w c' w'∧VR c' v u∧CallsTo P f vals.toArray w u w':=by
 unfold callFn callClosed at h
 split at h
 ·rename_i hcl
  obtain ⟨r,hr,h⟩:=Qa.1 h
  obtain ⟨o,ho,hr⟩:=Qa.1 hr
  cases o with
  | ex e s=>cases hr
  | res v0 F0 O0 =>
    obtain ⟨c1,H1,t1,_,_,hcov⟩:=H.frees (LV.idss args)
    have hOR : ∀ id o h,oget s.O id = some o → c.io id = some h → OR P c w h o:=fun id o h ho hi=>by
     obtain ⟨h',hi',hor⟩:=H.O id o ho
     rw [hi] at hi'; cases hi'; exact hor
    have hv1 : VRs c1 (LV.cls s.O args) vals:=cls_ok (c1:=c) hOR t1.mu t1.mu ha (fun id hid _ h hi hn y v hy=>hcov id hid h hi hn y v hy) hcl
    unfold afterPure at h
    by_cases hemp : (LV.idss args).isEmpty = true
    ·have hnil : LV.idss args = []:=by simpa using hemp
     rw [if_pos (by rw [hemp]; rfl)] at h
     simp only [Option.some.injEq] at h
     have hv1 : VRs c (LV.cls s.O args) vals:=cls_ok (c1:=c) hOR (fun _ _ _ h=>h) (fun _ _ _ h=>h) ha (fun id hid=>by rw [hnil] at hid; cases hid) hcl
     obtain ⟨d,u,w',Hd,td,hcall⟩:=IH _ _ _ _ _ _ _ _ ho c.bare vals [] w (SR.empty0 H.mu) (VRs.closed (c:=c) (c':=c.bare) (fun _ _ _ h=>h) hv1 hcl)
     obtain ⟨c',H2,t2,hv2⟩:=back_in H td Hd (v:=v0) (u:=u) (by simpa [tget] using Hd.T 0) hr id
     rw [h] at H2 hv2
     exact ⟨c',u,w',H2,t2,hv2,hcall⟩
    ·obtain ⟨d,u,w',Hd,td,hcall⟩:=IH _ _ _ _ _ _ _ _ ho c1.bare vals [] w (SR.empty0 H1.mu) (VRs.closed (c:=c1) (c':=c1.bare) (fun _ _ _ h=>h) hv1 hcl)
     by_cases hno : LV.noVs r = true
     ·rw [if_pos (by rw [hno,Qaq])] at h
      simp only [Option.some.injEq] at h
      obtain ⟨c',H2,t2,hv2⟩:=back_noVs H td Hd (v:=v0) (u:=u) (by simpa [tget] using Hd.T 0) hr hno id
      rw [h] at H2 hv2
      exact ⟨c',u,w',H2,t2,hv2,hcall⟩
     ·rw [if_neg (by simp [hemp,hno])] at h
      simp only [Option.some.injEq] at h
      obtain ⟨c',H2,t2,hv2⟩:=back_in H1 td Hd (v:=v0) (u:=u) (by simpa [tget] using Hd.T 0) hr id
      rw [h] at H2 hv2
      exact ⟨c',u,w',H2,t1.trans t2,hv2,hcall⟩
 ·obtain ⟨o,ho,h⟩:=Qa.1 h
  cases o with
  | ex e s=>cases h
  | res v0 F0 O0 =>
    have H0 : SR P c ⟨[],s.T::s.F,s.O,s.lvl + 1⟩ #[] (tmps::Ts) w:=by
     refine ⟨fun t=>by simp [tget]; exact .any _,by simpa using H.Fl,fun i F t hF ht=>?_,H.O,H.dom,H.inj,H.mu,H.lt⟩
     cases i with
     | zero=>simp at hF ht; subst hF; subst ht; exact H.T
     | succ i=>exact H.F i F t (by simpa using hF) (by simpa using ht)
    obtain ⟨c1,u,w',H1,t1,hcall⟩:=IH _ _ _ _ _ _ _ _ ho c vals (tmps::Ts) w H0 ha
    obtain ⟨c2,H2,t2,hv⟩:=afterIn_ok H1 h
    exact ⟨c2,u,w',H2,t1.trans t2,hv,hcall⟩

def Goes (P : Program) (nx : Next) (w : World) (u : Value) (w' : World) : Prop :=
 (∃ f args,nx = .enter f args ∧ ∀ (cf : Frame) (cs : List Frame),Steps P (lone (Frame.enter P f args .normal) (cf::cs) w) (lone (cf.finish u) cs w')) ∨
 (∃ l f tmps asg body,nx = .round l f tmps asg body ∧ ∀ (cf : Frame) (cs : List Frame),Steps P (lone (Frame.round l f tmps asg body .normal) (cf::cs) w) (lone (cf.finish u) cs w'))

theorem CallsTo.goes {f : FuncId} {vals : Array Value} {u : Value} (h : CallsTo P f vals w u w') : (callFunc f vals).run P w = .ok (.enter f vals) w∧Goes P (.enter f vals) w u w':=by
 obtain ⟨⟨fn,hf,hb,hn⟩,h⟩:=h
 have hn' : fn.name ≠ "runtime.NumGoroutine" := by simpa using hn
 have hb' : fn.body ≠ none:=by intro e; rw [e] at hb; cases hb
 refine ⟨?_,.inl ⟨f,vals,rfl,fun cf cs=>?_⟩⟩
 ·simp [callFunc,go_sem,hf,hb',hn']
 ·obtain ⟨fr,h1,h2,h3⟩:=h (cf::cs)
  exact h1.trans (.one (step_leave_returned h3))

theorem callV_ok {R : Orc} (IH : FnOK P R) (IHr : RndOK P R) (H : SR P c s tmps Ts w) {f : LV} {uf : Value} (hf : VR c f uf) {args : List LV} {vals : List Value} (ha : VRs c args vals) {id : Nat} {v : LV} {s' : St} (h : callV R true id f args s = some (v,s')) :
  ∃ c' u w',SR P c' s' tmps Ts w'∧Tr c w c' w'∧VR c' v u ∧ ∃ d nx,(Deferred.ofValue uf vals.toArray).run P w = .ok d w∧(invoke d.target d.args).run P w = .ok nx w∧Goes P nx w u w':=by
 unfold callV at h
 split at h
 ·rename_i f' first cap
  cases hf with
  | fn _ _ _ us vs hl hl2 h1 h2 =>
    obtain ⟨c',u,w',H',t',hv,hc⟩:=callFn_ok IH H (VRs.append ⟨hl,h1⟩ (VRs.append ha ⟨hl2,h2⟩)) h
    obtain ⟨hr,hg⟩:=hc.goes
    refine ⟨c',u,w',H',t',hv,⟨.fn (.func f') vs.toArray,us.toArray++vals.toArray⟩,_,rfl,?_,hg⟩
    simp only [invoke]
    have e : us.toArray++vals.toArray++vs.toArray = (us++(vals++vs)).toArray:=by simp
    rw [e]; exact hr
 ·rename_i l
  cases hf with
  | yl _ hh hi =>
    obtain ⟨o,ho,h⟩:=Qa.1 h
    cases o with
    | ex e s=>cases h
    | res v0 F0 O0 =>
      have H0 : SR P c ⟨[],s.T::s.F,s.O,s.lvl + 1⟩ #[] (tmps::Ts) w:=by
       refine ⟨fun t=>by simp [tget]; exact .any _,by simpa using H.Fl,fun i F t hF ht=>?_,H.O,H.dom,H.inj,H.mu,H.lt⟩
       cases i with
       | zero=>simp at hF ht; subst hF; subst ht; exact H.T
       | succ i=>exact H.F i F t (by simpa using hF) (by simpa using ht)
      obtain ⟨c1,u,w',H1,t1,f',tm,asg,body,hy,hs⟩:=IHr _ _ _ _ _ _ _ _ ho c vals (tmps::Ts) w H0 ha hh hi
      obtain ⟨c2,H2,t2,hv⟩:=afterIn_ok H1 h
      refine ⟨c2,u,w',H2,t1.trans t2,hv,⟨.fn (.yield hh.blk) #[],#[]++vals.toArray⟩,_,rfl,?_,.inr ⟨_,_,_,_,_,rfl,hs⟩⟩
      simp only [invoke]
      have e : (#[] : Array Value)++vals.toArray = vals.toArray:=by simp
      rw [e]; exact hy
 ·cases h

def Acts (P : Program) (a : Act) (o : Oper) (w : World) (u : Value) (w' : World) : Prop :=
 (execOp a.eval o).run P w = .ok (.value u) w' ∨ ((execOp a.eval o).run P w = .ok .skip w'∧u = undef) ∨ ∃ nx,(execOp a.eval o).run P w = .ok nx w∧Goes P nx w u w'

theorem toOp_some {ty : TypeId} {op : Op} {R : Orc} {d : Nat} {r : LV × St} (h : stepOp R true d (toOp P ty op) s = some r) : toOp1 P ty op = some (toOp P ty op):=by
 cases hh : toOp1 P ty op with
 | some x=>simp [toOp,hh]
 | none =>
   have e : toOp P ty op = .bad:=by simp [toOp,hh]
   rw [e] at h; cases h
theorem not_defer {ty : TypeId} {op : Op} {x : AOp} (h : toOp1 P ty op = some x) : ∀ c,op ≠ .defer c:=by
 rintro c rfl
 simp [toOp1] at h

def AOp.isCall : AOp → Bool
 | .call .. | .cal .. => true
 | _=>false
theorem nocall {ty : TypeId} {op : Op} (h : ∀ c,op ≠ .call c) : (toOp1 P ty op).all (fun x=>!x.isCall) = true:=by
 cases op <;> first
  | exact absurd rfl (h _)
  | (unfold toOp1
     simp only [bind]
     repeat' (first | rfl | contradiction | (refine all_map fun _=>?_) | (refine all_bind fun _=>?_) | split))
theorem nocall_builtin {ty : TypeId} {cl : Call} {b : Builtin} (h : cl.callee = .builtin b) : (toOp1 P ty (.call cl)).all (fun x=>!x.isCall) = true:=by
 unfold toOp1
 simp only [h,bind]
 repeat' (first | rfl | contradiction | (refine all_map fun _=>?_) | (refine all_bind fun _=>?_) | split)
theorem call_shape {ty : TypeId} {op : Op} {x : AOp} (h : toOp1 P ty op = some x) (hc : x.isCall = true) : ∃ cl,op = .call cl ∧
  ((∃ f l,x = .call f l∧cl.callee = .value (.func f)∧toArgs P cl.argTypes cl.args = some l) ∨ ∃ y y' l,x = .cal y' l∧cl.callee = .value y∧toOpd y = some y'∧toArgs P cl.argTypes cl.args = some l):=by
 by_cases hop : ∃ cl,op = .call cl
 ·obtain ⟨cl,rfl⟩:=hop
  refine ⟨cl,rfl,?_⟩
  cases hcal : cl.callee with
  | builtin b =>
    have:=nocall_builtin (P:=P) (ty:=ty) hcal
    rw [h] at this; simp [hc] at this
  | invoke a b=>simp [toOp1,hcal] at h
  | value y =>
    cases y with
    | func f =>
      simp only [toOp1,hcal] at h
      obtain ⟨m,hm,rfl⟩:=Qc.1 h
      exact .inl ⟨f,m,rfl,rfl,hm⟩
    | _ =>
      simp only [toOp1,hcal,bind,Qa,Option.some.injEq] at h
      obtain ⟨y',hy,m,hm,rfl⟩:=h
      exact .inr ⟨_,_,_,rfl,rfl,hy,hm⟩
 ·have:=nocall (P:=P) (ty:=ty) (op:=op) fun c e=>hop ⟨c,e⟩
  rw [h] at this; simp [hc] at this

theorem op_ok {R : Orc} (IH : FnOK P R) (IHr : RndOK P R) {a : Act} (H : SR P c s a.tmps Ts w) {o : Oper} {d : Nat} {v : LV} {s' : St} (h : stepOp R true d (toOp P o.type o.op) s = some (v,s')) :
  ∃ c' u w',SR P c' s' a.tmps Ts w'∧Tr c w c' w'∧VR c' v u∧(∀ c,o.op ≠ .defer c)∧Acts P a o w u w':=by
 have hop:=toOp_some h
 have hnd:=not_defer hop
 have hT:=H.T
 generalize hx : toOp P o.type o.op = x at h hop
 by_cases hc : x.isCall = true
 ·obtain ⟨cl,ho,hsh⟩:=call_shape hop hc
  rcases hsh with ⟨f,l,rfl,hcal,hm⟩ | ⟨y,y',l,rfl,hcal,hy,hm⟩
  ·obtain ⟨c',u,w',H',t',hv,hc⟩:=callFn_ok IH H (args_ok hT hm) h
   obtain ⟨hr,hg⟩:=hc.goes
   refine ⟨c',u,w',H',t',hv,hnd,.inr (.inr ⟨_,?_,hg⟩)⟩
   have e : ((#[] : Array Value)++cl.args.map a.eval) ++ #[] = (cl.args.map a.eval).toList.toArray:=by simp only [Qab,Qcx,Qdg]
   simp only [execOp,ho,resolve,hcal,Deferred.ofValue,Act.eval,pure_bind,invoke]
   have e2 : ((#[] : Array Value)++cl.args.map (fun x=>a.eval x)) ++ #[] = (cl.args.map a.eval).toList.toArray:=e
   first | (rw [e]; exact hr) | (rw [e2]; exact hr)
  ·obtain ⟨c',u,w',H',t',hv,d',nx,h1,h2,hg⟩:=callV_ok IH IHr H (opd_ok hT hy) (args_ok hT hm) h
   refine ⟨c',u,w',H',t',hv,hnd,.inr (.inr ⟨_,?_,hg⟩)⟩
   simp only [execOp,ho,resolve,hcal]
   have e : cl.args.map a.eval = (cl.args.map a.eval).toList.toArray:=Qab.symm
   rw [Sem.run_bind,e,h1]
   exact h2
 ·have hn : ∀ f l,x ≠ .call f l:=fun f l e=>hc (by rw [e]; rfl)
  have hn2 : ∀ f l,x ≠ .cal f l:=fun f l e=>hc (by rw [e]; rfl)
  obtain ⟨n,w',c',h1,h2,h3,h4⟩:=step_ok H hop hn hn2 h
  rcases h4 with ⟨u,rfl,hu⟩ | ⟨rfl,rfl⟩
  ·exact ⟨c',u,w',h2,h3,hu,hnd,.inl h1⟩
  ·exact ⟨c',undef,w',h2,h3,.undef,hnd,.inr (.inl ⟨h1,rfl⟩)⟩
theorem closeV_ok (H : SR P c s tmps Ts w) {fz : Bool} {v v' : LV} {s' : St} {u : Value} (hv : VR c v u) (h : closeV fz (v,s) = some (v',s')) : ∃ c',SR P c' s' tmps Ts w∧Tr c w c' w∧VR c' v' u:=by
 unfold closeV at h
 cases fz with
 | true =>
   simp only [if_true,Option.some.injEq,Prod.mk.injEq] at h
   obtain ⟨rfl,rfl⟩:=h
   exact ⟨c,H,Tr.refl _ _,hv⟩
 | false =>
   simp only [Qh,if_false,closeV1] at h
   split at h
   ·rename_i hcl
    simp only [Option.some.injEq,Prod.mk.injEq] at h
    obtain ⟨rfl,rfl⟩:=h
    obtain ⟨c1,H1,t1,_,_,hcov⟩:=H.frees (LV.ids v)
    exact ⟨c1,H1,t1,cl_ok (c1:=c) (fun id o h ho hi=>by
     obtain ⟨h',hi',hor⟩:=H.O id o ho
     rw [hi] at hi'; cases hi'; exact hor) t1.mu t1.mu hv (fun id hid _ h hi hn y v hy=>hcov id hid h hi hn y v hy) hcl⟩
   ·cases h
theorem op_okF {R : Orc} (IH : FnOK P R) (IHr : RndOK P R) {a : Act} {fz : Bool} (H : SR P c s a.tmps Ts w) {o : Oper} {d : Nat} {v : LV} {s' : St} (h : (stepOp R true d (toOp P o.type o.op) s).bind (closeV fz) = some (v,s')) :
  ∃ c' u w',SR P c' s' a.tmps Ts w'∧Tr c w c' w'∧VR c' v u∧(∀ c,o.op ≠ .defer c)∧Acts P a o w u w':=by
 obtain ⟨⟨v0,s0⟩,h0,h⟩:=Qa.1 h
 obtain ⟨c1,u,w',H1,t1,hv,hnd,hact⟩:=op_ok IH IHr H h0
 obtain ⟨c2,H2,t2,hv2⟩:=closeV_ok H1 hv h
 exact ⟨c2,u,w',H2,t1.trans t2,hv2,hnd,hact⟩
theorem stepF_ok {R : Orc} (IH : FnOK P R) (IHr : RndOK P R) {a : Act} {fz : Bool} (H : SR P c s a.tmps Ts w) {o : Oper} {d : Nat} {v : LV} {s' : St} (h : stepF R fz d (toOp P o.type o.op) s = some (v,s')) :
  ∃ c' u w',SR P c' s' a.tmps Ts w'∧Tr c w c' w'∧VR c' v u∧(∀ c,o.op ≠ .defer c)∧Acts P a o w u w':=by
 generalize hx : toOp P o.type o.op = x at h
 unfold stepF at h
 split at h
 ·rename_i f args
  have hop : toOp1 P o.type o.op = some (.call f args):=by
   unfold toOp at hx
   cases h1 : toOp1 P o.type o.op with
   | none=>rw [h1] at hx; cases hx
   | some y=>rw [h1] at hx; rw [← hx]; rfl
  have hnd:=not_defer hop
  obtain ⟨cl,ho,hsh⟩:=call_shape hop rfl
  rcases hsh with ⟨f',l,e,hcal,hm⟩ | ⟨y,y',l,e,hcal,hy,hm⟩
  ·cases e
   obtain ⟨q,hq,h⟩:=Qa.1 h
   cases q with
   | ex e s=>cases h
   | res v0 F0 O0 =>
     have H0 : SR P c ⟨[],s.T::s.F,s.O,s.lvl + 1⟩ #[] (a.tmps::Ts) w:=by
      refine ⟨fun t=>by simp [tget]; exact .any _,by simpa using H.Fl,fun i F t hF ht=>?_,H.O,H.dom,H.inj,H.mu,H.lt⟩
      cases i with
      | zero=>simp at hF ht; subst hF; subst ht; exact H.T
      | succ i=>exact H.F i F t (by simpa using hF) (by simpa using ht)
     obtain ⟨c1,u,w',H1,t1,hc⟩:=IH _ _ _ _ _ _ _ _ hq c _ (a.tmps::Ts) w H0 (args_ok H.T hm)
     obtain ⟨c2,H2,t2,hv⟩:=afterIn_ok H1 h
     obtain ⟨hr,hg⟩:=hc.goes
     refine ⟨c2,u,w',H2,t1.trans t2,hv,hnd,.inr (.inr ⟨_,?_,hg⟩)⟩
     have e : ((#[] : Array Value)++cl.args.map a.eval) ++ #[] = (cl.args.map a.eval).toList.toArray:=by simp only [Qab,Qcx,Qdg]
     simp only [execOp,ho,resolve,hcal,Deferred.ofValue,Act.eval,pure_bind,invoke]
     have e2 : ((#[] : Array Value)++cl.args.map (fun x=>a.eval x)) ++ #[] = (cl.args.map a.eval).toList.toArray:=e
     first | (rw [e]; exact hr) | (rw [e2]; exact hr)
  ·cases e
 ·subst hx
  exact op_okF IH IHr H h
end
end Go.Zv

/- The engine, part 21: regions in their order. -/
namespace Go.Zv
section
variable {P : Program} {c : Cx} {w w' : World} {s : St} {tmps : Array Value} {Ts : List (Array Value)}

theorem toOper_inv {N : Nat} {ops : Array Oper} {oo : Oper} {o : AOper} (h : toOper P N ops oo = some o) : o.dst = oo.dst∧(∀ d,oo.dst = some d → d < N)∧o.op = toOp P oo.type oo.op ∧
  ((oo.guard = none∧o.grd = none) ∨ ∃ j b d oj,oo.guard = some (j,b)∧ops[j]? = some oj∧oj.dst = some d∧o.grd = some (d,b)):=by
 unfold toOper at h
 have hd' : ∀ d,oo.dst = some d → d < N:=fun d e=>by
  rw [e] at h
  simp only [decide_eq_true_eq] at h
  by_cases hd : d < N
  ·exact hd
  ·rw [if_neg hd] at h; cases h
 have h2 : (match oo.guard with
  | none=>some { dst:=oo.dst,op:=toOp P oo.type oo.op,grd:=none }
  | some (j,b)=>match (ops[j]?).bind (·.dst) with
    | some d=>some { dst:=oo.dst,op:=toOp P oo.type oo.op,grd:=some (d,b) }
    | none=>none) = some o:=by
  cases hdst : oo.dst with
  | none=>rw [hdst] at h; exact h
  | some d=>rw [hdst] at h; simp only [decide_eq_true_eq,if_pos (hd' d hdst)] at h; exact h
 cases hg : oo.guard with
 | none =>
   rw [hg] at h2
   simp only [Option.some.injEq] at h2; subst h2
   exact ⟨rfl,hd',rfl,.inl ⟨rfl,rfl⟩⟩
 | some jb =>
   obtain ⟨j,b⟩:=jb
   rw [hg] at h2
   simp only at h2
   cases hj : (ops[j]?).bind (·.dst) with
   | none=>rw [hj] at h2; cases h2
   | some d =>
     rw [hj] at h2
     simp only [Option.some.injEq] at h2; subst h2
     obtain ⟨oj,h1,h3⟩:=Qa.1 hj
     exact ⟨rfl,hd',rfl,.inr ⟨j,b,d,oj,rfl,h1,h3,rfl⟩⟩

theorem wanted_ok {T : Env} (hT : TR c T tmps) {ops : Array Oper} {oo : Oper} {g : Option (Nat × Bool)} (hg : (oo.guard = none∧g = none) ∨ ∃ j b d oj,oo.guard = some (j,b)∧ops[j]? = some oj∧oj.dst = some d∧g = some (d,b))
  {bb : Bool} (h : wanted T g = some bb) : Region.wanted oo (yielded ops tmps) = bb:=by
 rcases hg with ⟨h1,rfl⟩ | ⟨j,b,d,oj,h1,h2,h3,rfl⟩
 ·simp only [wanted,Option.some.injEq] at h; subst h
  simp [Region.wanted,h1]
 ·have hv:=hT d
  simp only [wanted] at h
  simp only [Region.wanted,h1,yielded,h2,Q5,h3]
  cases hx : tget T d with
  | bool t =>
    rw [hx] at hv h
    simp only [wantV,Option.some.injEq] at h; subst h
    have:=VR.of_bool hv
    have e : tmps[d]? = some (.bool t):=by
     simp only [Qi] at this
     cases hh : tmps[d]? with
     | none=>rw [hh] at this; simp [undef] at this
     | some x=>rw [hh] at this; simpa using this
    rw [e]
    cases t <;> cases b <;> rfl
  | undef =>
    rw [hx] at hv h
    simp only [wantV,Option.some.injEq] at h; subst h
    have hu : tmps.getD d undef = undef:=by
     generalize hq : tmps.getD d undef = q at hv
     cases hv; rfl
    cases hh : tmps[d]? with
    | none=>rfl
    | some x =>
      have : x = undef:=by simpa [Qi,hh] using hu
      rw [this]; rfl
  | _=>rw [hx] at h; simp [wantV] at h

section
variable {b : Frame} {a : Act} {ops : Array Oper} {i : Nat} {oo : Oper} {u : Value}
theorem step_acts (hi : ops[i]? = some oo) (hw : Region.wanted oo (yielded ops a.tmps) = true) (hnd : ∀ c,oo.op ≠ .defer c) (h : Acts P a oo w u w') (rest : List Nat) (k : List Item) (cs : List Frame) :
  Steps P (lone (b.atR a (.inRegion ops (i::rest)::k)) cs w) (lone (b.atR (a.put oo.dst u) (.inRegion ops rest::k)) cs w'):=by
 have hf : (b.atR a (.inRegion ops (i::rest)::k)).finish u = b.atR (a.put oo.dst u) (.inRegion ops rest::k):=by rw [Frame.finish_atR,hi]; rfl
 have hf2 : (b.atR a (.inRegion ops (i::rest)::k)).finish undef = b.atR (a.put oo.dst undef) (.inRegion ops rest::k):=by rw [Frame.finish_atR,hi]; rfl
 have hs : oo.semAt b.roundOf a.eval = execOp a.eval oo:=Oper.semAt_eq _ _ _ hnd
 rcases h with h | ⟨h,rfl⟩ | ⟨nx,h,hg⟩
 ·exact .one (step_lone_go (by
   rw [stepGR_op hi hw,hs]
   simp [stepG.apply,Sem.runT_eq,h,GStep.bare_after,hf]))
 ·exact .one (step_lone_go (by
   rw [stepGR_op hi hw,hs]
   simp [stepG.apply,Sem.runT_eq,h,GStep.bare_after,hf2]))
 ·rcases hg with ⟨f,args,rfl,hsteps⟩ | ⟨l,f,tm,asg,body,rfl,hsteps⟩
  ·have:=hsteps (b.atR a (.inRegion ops (i::rest)::k)) cs
   rw [hf] at this
   refine .head (step_lone_go ?_) this
   rw [stepGR_op hi hw,hs]
   simp [stepG.apply,Sem.runT_eq,h,GStep.bare_after,Frame.atR]
  ·have:=hsteps (b.atR a (.inRegion ops (i::rest)::k)) cs
   rw [hf] at this
   refine .head (step_lone_go ?_) this
   rw [stepGR_op hi hw,hs]
   simp [stepG.apply,Sem.runT_eq,h,GStep.bare_after,Frame.atR]
end

theorem SR.put (H : SR P c s tmps Ts w) {v : LV} {u : Value} (hv : VR c v u) {dst : Option Nat} (hd : ∀ d,dst = some d → d < tmps.size) (ds : List Deferred) :
  SR P c (putT dst v s) (Act.put ⟨tmps,ds⟩ dst u).tmps Ts w:=by
 cases dst with
 | none=>exact H
 | some d=>exact ⟨H.T.put (hd d rfl) hv,H.Fl,H.F,H.O,H.dom,H.inj,H.mu,H.lt⟩
theorem put_size (a : Act) (dst : Option Nat) (u : Value) : (a.put dst u).tmps.size = a.tmps.size:=by cases dst <;> simp [Act.put]
theorem put_defers (a : Act) (dst : Option Nat) (u : Value) : (a.put dst u).defers = a.defers:=by cases dst <;> rfl

def Moves (P : Program) (c : Cx) (a : Act) (Ts : List (Array Value)) (w : World) (s2 : St) (b : Frame) (from_ to_ : List Item) : Prop :=
 ∃ c' a' w',SR P c' s2 a'.tmps Ts w'∧Tr c w c' w'∧a'.tmps.size = a.tmps.size∧a'.defers = a.defers ∧ ∀ k cs,Steps P (lone (b.atR a (from_++k)) cs w) (lone (b.atR a' (to_++k)) cs w')

theorem oper_step {R : Orc} (IH : FnOK P R) (IHr : RndOK P R) {N : Nat} {ops : Array Oper} {b : Frame} {a : Act} {i : Nat} {oo : Oper} {o : AOper} (hi : ops[i]? = some oo) (ho : toOper P N ops oo = some { o with fz:=true })
  (H : SR P c s a.tmps Ts w) (hN : N≤a.tmps.size) {s2 : St} {bb : Bool} (hw : wanted s.T o.grd = some bb) (h : if bb = true then ∃ v s1,stepF R o.fz (o.dst.getD 0) o.op s = some (v,s1)∧s2 = putT o.dst v s1 else s2 = putT o.dst .undef s) (rest : List Nat) :
  Moves P c a Ts w s2 b [.inRegion ops (i::rest)] [.inRegion ops rest]:=by
 obtain ⟨hdst,hd,hop,hg⟩:=toOper_inv ho
 simp only at hdst hop hg
 have hww:=wanted_ok H.T hg hw
 cases bb with
 | true =>
   simp only [if_true] at h
   obtain ⟨v,s1,h,rfl⟩:=h
   rw [hop] at h
   obtain ⟨c',u,w',H',t',hv,hnd,hact⟩:=stepF_ok IH IHr H h
   refine ⟨c',a.put oo.dst u,w',?_,t',put_size ..,put_defers ..,fun k cs=>step_acts hi hww hnd hact rest k cs⟩
   rw [hdst]
   exact H'.put hv (fun d e=>Qaf (hd d e) hN) a.defers
 | false =>
   simp only [Qh,if_false] at h
   subst h
   refine ⟨c,a.put oo.dst undef,w,?_,Tr.refl _ _,put_size ..,put_defers ..,fun k cs=>?_⟩
   ·rw [hdst]
    exact H.put .undef (fun d e=>Qaf (hd d e) hN) a.defers
   ·have:=stepR_op_skip (P:=P) (b:=b) (a:=a) (k:=k) (cs:=cs) (w:=w) (ops:=ops) (i:=i) (rest:=rest) (by simp [hi,hww])
    rw [hi] at this
    exact .one this

theorem Moves.refl {a : Act} (H : SR P c s a.tmps Ts w) {b : Frame} {l : List Item} : Moves P c a Ts w s b l l:=⟨c,a,w,H,Tr.refl _ _,rfl,rfl,fun k cs=>Steps.refl _ _⟩

def Corr (P : Program) (N : Nat) (ops : Array Oper) : List Nat → List AOper → Prop
 | [],[]=>True
 | i::is,o::l=>(∃ oo,ops[i]? = some oo∧toOper P N ops oo = some { o with fz:=true })∧Corr P N ops is l
 | _,_=>False

theorem ops_ok {R : Orc} (IH : FnOK P R) (IHr : RndOK P R) {N : Nat} {ops : Array Oper} {b : Frame} : ∀ {is : List Nat} {l : List AOper} {c : Cx} {a : Act} {w : World} {s s2 : St},Corr P N ops is l → SR P c s a.tmps Ts w → N≤a.tmps.size → runOps R l s = some s2 →
  Moves P c a Ts w s2 b [.inRegion ops is] [.inRegion ops []]
 | [],[],c,a,w,s,s2,_,H,hN,h=>by
   simp only [runOps,Option.some.injEq] at h; subst h
   exact .refl H
 | [],_::_,_,_,_,_,_,hc,_,_,_=>hc.elim
 | _::_,[],_,_,_,_,_,hc,_,_,_=>hc.elim
 | i::is,o::l,c,a,w,s,s2,⟨⟨oo,hi,ho⟩,hc⟩,H,hN,h=>by
   obtain ⟨bb,hbb,h⟩:=Qa.1 (show (wanted s.T o.grd).bind (grdK R o (runOps R l) s) = some s2 from h)
   have key : ∃ sm,(if bb = true then ∃ v s1,stepF R o.fz (o.dst.getD 0) o.op s = some (v,s1)∧sm = putT o.dst v s1 else sm = putT o.dst .undef s)∧runOps R l sm = some s2:=by
    unfold grdK at h
    cases bb with
    | true =>
      simp only [if_true] at h ⊢
      obtain ⟨⟨v,s1⟩,h1,h2⟩:=Qa.1 h
      exact ⟨_,⟨v,s1,h1,rfl⟩,h2⟩
    | false =>
      simp only [Qh,if_false] at h ⊢
      exact ⟨_,rfl,h⟩
   obtain ⟨sm,h1,h2⟩:=key
   obtain ⟨c1,a1,w1,H1,t1,hs1,hd1,st1⟩:=oper_step IH IHr (b:=b) hi ho H hN hbb h1 is
   obtain ⟨c2,a2,w2,H2,t2,hs2,hd2,st2⟩:=ops_ok (b:=b) IH IHr hc H1 (by omega) h2
   exact ⟨c2,a2,w2,H2,t1.trans t2,hs2.trans hs1,hd2.trans hd1,fun k cs=>(st1 k cs).trans (st2 k cs)⟩

theorem keep_get : ∀ (T : Env) (ks : List Nat) (t : Nat),tget (keep T ks) t = tget T t ∨ tget (keep T ks) t = .any
 | T,[],t=>.inr rfl
 | T,k::l,t=>by
   simp only [keep,tget]
   split
   ·rename_i e; subst e; exact .inl rfl
   ·exact keep_get T l t

theorem end_ok (H : SR P c s tmps Ts w) (mask : Option (List Nat)) (drop : List Nat) : ∃ c',SR P c' (endReg mask drop s) tmps Ts w∧Tr c w c' w:=by
 have H1 : SR P c (maskK mask s) tmps Ts w:=by
  cases mask with
  | none=>exact H
  | some ks=>exact ⟨fun t=>by
    rcases keep_get s.T ks t with e | e
    ·show VR c (tget (keep s.T ks) t) _; rw [e]; exact H.T t
    ·show VR c (tget (keep s.T ks) t) _; rw [e]; exact .any _,H.Fl,H.F,H.O,H.dom,H.inj,H.mu,H.lt⟩
 unfold endReg dropK
 cases drop with
 | nil=>exact ⟨c,H1,Tr.refl _ _⟩
 | cons d l =>
   obtain ⟨c',H',t',_⟩:=H1.frees (slotIds (maskK mask s).lvl (d::l) (maskK mask s).O)
   exact ⟨c',H',t'⟩

theorem corr_range {N : Nat} {ops : Array Oper} {l : List AOper} (h : ops.toList.mapM (toOper P N ops) = some (l.map fun o=>{ o with fz:=true })) : Corr P N ops (List.range ops.size) l:=by
 have gen : ∀ (xs : List Oper) (l : List AOper) (k : Nat),(∀ (i : Nat) (o : Oper),xs[i]? = some o → ops[k + i]? = some o) → xs.mapM (toOper P N ops) = some (l.map fun o=>{ o with fz:=true }) → Corr P N ops (List.range' k xs.length) l:=by
  intro xs
  induction xs with
  | nil =>
    intro l k _ h
    simp at h
    subst h; trivial
  | cons x xs ih =>
    intro l k hx h
    simp only [Qbq,bind,Qa,pure,Option.some.injEq] at h
    obtain ⟨y,hy,ys,hys,e⟩:=h
    cases l with
    | nil=>simp at e
    | cons o l =>
      simp only [Qk,List.cons.injEq] at e
      obtain ⟨rfl,rfl⟩:=e
      exact ⟨⟨x,hx 0 x rfl,hy⟩,ih l (k + 1) (fun i o ho=>by rw [show k + 1 + i = k + (i + 1) by omega]; exact hx (i + 1) o (by simpa using ho)) hys⟩
 rw [Qc5]
 exact gen ops.toList l 0 (fun i o h=>by simpa using h) h
end
end Go.Zv
