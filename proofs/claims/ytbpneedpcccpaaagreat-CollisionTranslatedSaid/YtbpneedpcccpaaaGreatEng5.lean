/- Part of the proof: the evaluation of the program's code and its tie to the machine, or what functions of the program compute over it. -/
import Derived.Test.YtbpneedpcccpaaaGreatEng4
import Derived.WalkKit
import Derived.ProofKit
import Derived.OpenShut
set_option autoImplicit false
set_option maxRecDepth 100000
set_option maxHeartbeats 4000000
set_option linter.unusedSimpArgs false
set_option linter.unusedVariables false
/- The engine, part 30: a law's row: what is read of the arguments; the call. -/
namespace Go.Zv

inductive Ty where
 | int (k : IntKind)
 | bool
 | str
 | slice (e : Ty)
 | cat (l : List Ty)
mutual
def Has : Ty → List LV → Prop
 | .int k,cs=>∃ n,cs = [.int k n]∧k.min≤n∧n≤k.max
 | .bool,cs=>∃ b,cs = [.bool b]
 | .str,cs=>∃ s,cs = [.str s]∧s.length≤maxLen
 | .slice e,cs=>∃ xs,cs = [.vs xs]∧xs.length≤maxLen ∧ ∀ x ∈ xs,Has e x
 | .cat l,cs=>HasL l cs
def HasL : List Ty → List LV → Prop
 | [],cs=>cs = []
 | t::ts,cs=>∃ a b,cs = a++b∧Has t a∧HasL ts b
end
def structTy (k : TypeId → Option Ty) (sz : TypeId → Nat) : Nat → List Field → Option (List Ty)
 | _,[]=>some []
 | off,f::l=>if f.offset = off then (k f.type).bind fun x=>(structTy k sz (off + sz f.type) l).map (x :: ·) else none
def sizes (sz : TypeId → Nat) : List Field → Nat
 | []=>0
 | f::l=>sz f.type + sizes sz l
def tyOf (P : Program) : Nat → TypeId → Option Ty
 | 0,_=>none
 | d + 1,t=>match P.underlying t with
   | some (.int k)=>some (.int k)
   | some .bool=>some .bool
   | some .string=>some .str
   | some (.slice e)=>if P.cellsOf e = 0 then none else (tyOf P d e).map .slice
   | some (.struct fs)=>if sizes P.cellsOf fs.toList = P.cellsOf t then (structTy (tyOf P d) P.cellsOf 0 fs.toList).map .cat else none
   | some (.array n e)=>if n * P.cellsOf e = P.cellsOf t then (tyOf P d e).map fun x=>.cat (List.replicate n x) else none
   | _=>none
def argTy (P : Program) (t : TypeId) : Option (Bool × Ty):=match isAggT P t,tyOf P 20 t with
 | some b,some x=>some (b,x)
 | _,_=>none
def HasArg : Bool × Ty → LV → Prop
 | (true,ty),x=>∃ xs,x = .agg xs∧Has ty xs
 | (false,ty),x=>Has ty [x]
def HasAll : List (Bool × Ty) → List LV → Prop
 | [],l=>l = []
 | t::ts,l=>∃ x r,l = x::r∧HasArg t x∧HasAll ts r

theorem closeds_append {a b : List LV} : LV.closeds (a++b) = (LV.closeds a && LV.closeds b):=by
 induction a with
 | nil=>rfl
 | cons x a ih=>simp [LV.closeds,ih,Qc3]
mutual
theorem has_closed : ∀ (ty : Ty) (xs : List LV),Has ty xs → LV.closeds xs = true∧xs.all LV.one = true
 | .int k,xs,h=>by obtain ⟨n,rfl,_⟩:=h; exact ⟨rfl,rfl⟩
 | .bool,xs,h=>by obtain ⟨n,rfl⟩:=h; exact ⟨rfl,rfl⟩
 | .str,xs,h=>by obtain ⟨n,rfl,_⟩:=h; exact ⟨rfl,rfl⟩
 | .slice e,xs,h=>by obtain ⟨n,rfl,_⟩:=h; exact ⟨rfl,rfl⟩
 | .cat l,xs,h=>has_closedL l xs h
theorem has_closedL : ∀ (l : List Ty) (xs : List LV),HasL l xs → LV.closeds xs = true∧xs.all LV.one = true
 | [],xs,h=>by have e : xs = []:=h; subst e; exact ⟨rfl,rfl⟩
 | t::ts,xs,h=>by
   obtain ⟨a,b,rfl,h1,h2⟩:=h
   obtain ⟨a1,a2⟩:=has_closed t a h1
   obtain ⟨b1,b2⟩:=has_closedL ts b h2
   exact ⟨by rw [closeds_append,a1,b1]; rfl,by rw [List.all_append,a2,b2]; rfl⟩
end

section
variable {H : Type} {enc : TypeId × Value → H} {P : Program} {w : World} {base : Nat} {spare : Nat → Bool} {held : Bool} {c : Cx}

theorem spot_none {a : Addr} {v : Value} (h : w.cell? a = some v) : a.spot = none:=by
 unfold World.cell? at h
 cases hs : a.spot with
 | none=>rfl
 | some y=>rw [hs] at h; split at h <;> simp at h
theorem add_none {a : Addr} (h : a.spot = none) (i : Nat) : a.add i = ⟨a.block,a.off + i,none⟩:=by
 obtain ⟨b,o,s⟩:=a
 simp only at h; subst h
 unfold Addr.add
 split
 ·rename_i e; subst e; rfl
 ·rfl
theorem cells_get {a : Addr} {n : Nat} {cs : List Value} (h : w.cells? base a n = some cs) : cs.length = n ∧ ∀ (i : Nat) (v : Value),cs[i]? = some v → w.cell? (a.add i) = some v:=by
 unfold World.cells? at h
 split at h
 ·have hl:=mapM_some_length h
  rw [Qx] at hl
  refine ⟨hl,fun i v hv=>?_⟩
  have hi : i < n:=by rw [← hl]; exact (Qe.1 hv).1
  have:=mapM_some_get h i i (by rw [List.getElem?_range hi])
  rw [this,hv]
 ·cases h

theorem exists_list {α : Type} {Q : Nat → α → Prop} : ∀ (n : Nat),(∀ i,i < n → ∃ x,Q i x) → ∃ xs : List α,xs.length = n ∧ ∀ (i : Nat) (x : α),xs[i]? = some x → Q i x
 | 0,_=>⟨[],rfl,by simp⟩
 | n + 1,h=>by
   obtain ⟨xs,h1,h2⟩:=exists_list n fun i hi=>h i (by omega)
   obtain ⟨x,hx⟩:=h n (by omega)
   refine ⟨xs++[x],by simp [h1],fun i y hy=>?_⟩
   by_cases hi : i < xs.length
   ·rw [Qbt hi] at hy; exact h2 i y hy
   ·rw [Qbg (by omega)] at hy
    have e : i - xs.length = 0:=by
     have:=(Qe.1 hy).1; simp at this; omega
    rw [e] at hy; simp at hy; subst hy
    rw [show i = n by omega]; exact hx

theorem hasL_list {e : Ty} : ∀ {n : Nat} {xss : List (List LV)},xss.length = n → (∀ x ∈ xss,Has e x) → HasL (List.replicate n e) xss.flatten
 | 0,xss,h,_=>by have e : xss = []:=Qo h; subst e; rfl
 | n + 1,[],h,_=>by simp at h
 | n + 1,x::xss,h,hh=>⟨x,xss.flatten,by simp,hh x (by simp),hasL_list (by simpa using h) fun y hy=>hh y (by simp [hy])⟩

theorem read_fields {k : TypeId → Option Ty} {fuel : Nat} (IH : ∀ {t : TypeId} {cs : List Value} {x : DataW H × List MemPlace} {ty : Ty},DataW.trod enc P w base spare held fuel t cs = some x → k t = some ty → ∃ xs,Has ty xs∧VRs c xs cs)
  {cs : List Value} : ∀ {fs : List Field} {off : Nat} {tys : List Ty},(∀ (i : Nat) (f : Field),fs[i]? = some f → ∃ x,DataW.trod enc P w base spare held fuel f.type ((cs.drop f.offset).take (P.cellsOf f.type)) = some x) →
  structTy k P.cellsOf off fs = some tys → off + sizes P.cellsOf fs = cs.length → ∃ ys,HasL tys ys∧VRs c ys (cs.drop off)
 | [],off,tys,h1,h2,h3=>by
   simp only [structTy,Option.some.injEq] at h2; subst h2
   simp only [sizes] at h3
   exact ⟨[],rfl,by rw [Qbk (by omega)]; exact VRs.nil c⟩
 | f :: fs,off,tys,h1,h2,h3=>by
   simp only [structTy] at h2
   split at h2
   ·rename_i hoff
    obtain ⟨ty,hty,h2⟩:=Qa.1 h2
    obtain ⟨tys',htys,rfl⟩:=Qc.1 h2
    obtain ⟨x,hx⟩:=h1 0 f rfl
    obtain ⟨ys,a1,a2⟩:=IH hx hty
    obtain ⟨zs,b1,b2⟩:=read_fields IH (fs:=fs) (fun i g hg=>h1 (i + 1) g (by simpa using hg)) htys (by simp only [sizes] at h3; omega)
    refine ⟨ys++zs,⟨ys,zs,rfl,a1,b1⟩,?_⟩
    have e : cs.drop off = (cs.drop f.offset).take (P.cellsOf f.type)++cs.drop (off + P.cellsOf f.type):=by
     rw [hoff,← Qbi,Qcz]
    rw [e]
    exact VRs.append a2 b2
   ·cases h2

theorem chunks {m s : Nat} {cs : List Value} : ∀ {n : Nat} {off : Nat} {xss : List (List LV)},xss.length = n → off + n * s = cs.length → (∀ (i : Nat) (x : List LV),xss[i]? = some x → VRs c x ((cs.drop (off + i * s)).take s)) → VRs c xss.flatten (cs.drop off)
 | 0,off,xss,h,hl,_=>by
   have e : xss = []:=Qo h
   subst e
   rw [Qbk (by omega)]; exact VRs.nil c
 | n + 1,off,[],h,_,_=>by simp at h
 | n + 1,off,x::xss,h,hl,hh=>by
   have e : cs.drop off = (cs.drop off).take s++cs.drop (off + s):=by rw [← Qbi,Qcz]
   rw [e,Q9]
   refine VRs.append (by simpa using hh 0 x rfl) (chunks (m:=m) (s:=s) (n:=n) (by simpa using h) (by rw [Qac] at hl; omega) fun i y hy=>?_)
   have:=hh (i + 1) y (by simpa using hy)
   rwa [show off + s + i * s = off + (i + 1) * s by rw [Qac]; omega]

theorem read_data (hmu : ∀ b o,c.mu b o = w.cell? ⟨b,o,none⟩) : ∀ (n : Nat) {fuel : Nat} {t : TypeId} {cs : List Value} {x : DataW H × List MemPlace} {ty : Ty},DataW.trod enc P w base spare held fuel t cs = some x → tyOf P n t = some ty → ∃ xs,Has ty xs∧VRs c xs cs
 | 0,fuel,t,cs,x,ty,_,h2=>by cases h2
 | n + 1, fuel,t,cs,x,ty,h,h2=>by
   simp only [tyOf] at h2
   cases ht : P.underlying t with
   | none=>rw [ht] at h2; cases h2
   | some d =>
     rw [ht] at h2
     cases d with
     | int k =>
       simp only [Option.some.injEq] at h2; subst h2
       obtain ⟨m,rfl,rfl,hwf⟩:=DataW.trod_int ht h
       have hb : k.min≤m∧m≤k.max:=by simpa [Lit.wf] using hwf
       exact ⟨[.int k m],⟨m,rfl,hb⟩,VRs.cons (.int _ _) (VRs.nil c)⟩
     | bool =>
       simp only [Option.some.injEq] at h2; subst h2
       obtain ⟨b,rfl,rfl⟩:=DataW.trod_bool ht h
       exact ⟨[.bool b],⟨b,rfl⟩,VRs.cons (.bool _) (VRs.nil c)⟩
     | string =>
       simp only [Option.some.injEq] at h2; subst h2
       obtain ⟨s,rfl,rfl,hs⟩:=DataW.trod_string ht h
       refine ⟨[.str s.data.toList],⟨s.data.toList,rfl,by simpa using hs⟩,VRs.cons ?_ (VRs.nil c)⟩
       have:=VR.str (c:=c) s.data.toList
       simpa using this
     | slice e =>
       simp only at h2
       split at h2
       ·cases h2
       ·rename_i hne
        obtain ⟨te,hte,rfl⟩:=Qc.1 h2
        rcases DataW.trod_slice ht h with ⟨rfl,rfl⟩ | ⟨a,len,cap,elems,rest,m,rfl,rfl,rfl,hb,hlc,hcm,hel,hget,_,_⟩
        ·exact ⟨[.vs []],⟨[],rfl,by simp,by simp⟩,VRs.cons (.vs0 _ _ (fun _=>rfl)) (VRs.nil c)⟩
        ·have ex : ∀ i,i < len → ∃ (y : List LV),Has te y ∧ ∃ ci,w.cells? base (a.add (i * P.cellsOf e)) (P.cellsOf e) = some ci∧VRs c y ci:=fun i hi=>by
          have hg:=hget i hi
          have hsome : ∃ z,elems[i]? = some z:=⟨_,Qf (by omega)⟩
          obtain ⟨z,hz⟩:=hsome
          rw [hz] at hg
          obtain ⟨ci,hci,hz2⟩:=Qa.1 hg
          obtain ⟨y,hy1,hy2⟩:=read_data hmu n hz2 hte
          exact ⟨y,hy1,ci,hci,hy2⟩
         obtain ⟨xs,hxl,hxs⟩:=exists_list len ex
         refine ⟨[.vs xs],⟨xs,rfl,by omega,fun x hx=>?_⟩,VRs.cons ?_ (VRs.nil c)⟩
         ·obtain ⟨i,hi⟩:=Qck hx
          exact (hxs i x hi).1
         ·by_cases h0 : len = 0
          ·have e0 : xs = []:=Qo (by omega)
           subst e0
           rw [h0]; exact .vs0 _ _ (fun e=>by cases e)
          ·have lens : ∀ (i : Nat) (x : List LV),xs[i]? = some x → x.length = P.cellsOf e:=fun i x hx=>by
            obtain ⟨_,ci,hci,hv⟩:=hxs i x hx
            rw [hv.len,(cells_get hci).1]
           have hspot : a.spot = none:=by
            have hx0 : xs[0]? = some (xs[0]'(by omega)):=Qf _
            obtain ⟨_,ci,hci,hv⟩:=hxs 0 _ hx0
            obtain ⟨hl,hc⟩:=cells_get hci
            have:=hc 0 (ci[0]'(by omega)) (Qf _)
            rw [show (a.add (0 * P.cellsOf e)).add 0 = a by simp [Addr.add]] at this
            exact spot_none this
           have key : ∀ (i : Nat) (x : List LV) (j : Nat) (y : LV),xs[i]? = some x → x[j]? = some y → ∃ v,w.cell? ⟨a.block,a.off + i * P.cellsOf e + j,none⟩ = some v∧VR c y v:=fun i x j y hx hy=>by
            obtain ⟨_,ci,hci,hv⟩:=hxs i x hx
            obtain ⟨v,hv1,hv2⟩:=hv.getSome hy
            refine ⟨v,?_,hv2⟩
            have:=(cells_get hci).2 j v hv1
            rwa [add_none hspot,add_none rfl] at this
           obtain ⟨ab,ao,asp⟩:=a
           simp only at hspot key; subst hspot
           have hr:=VR.vs (c:=c) xs ab ao (P.cellsOf e) cap (fun i j=>(w.cell? ⟨ab,ao + i * P.cellsOf e + j,none⟩).getD undef) (by intro e0; rw [e0] at hxl; simp at hxl; omega) (by omega)
            (fun i x hx=>⟨lens i x hx,(has_closed te x (hxs i x hx).1).1⟩)
            (fun i x j y hx hy=>by obtain ⟨v,h1,_⟩:=key i x j y hx hy; rw [hmu,h1]; rfl)
            (fun i x j y hx hy=>by
             obtain ⟨v,h1,h2⟩:=key i x j y hx hy
             simp only [h1,Qa9]
             exact h2.one (Qj.1 (has_closed te x (hxs i x hx).1).2 y (Qd hy)))
            (fun i x j y hx hy=>by
             obtain ⟨v,h1,h2⟩:=key i x j y hx hy
             simp only [h1,Qa9]; exact h2)
           rwa [hxl] at hr
     | struct fs =>
       simp only at h2
       split at h2
       ·rename_i hsz
        obtain ⟨tys,htys,rfl⟩:=Qc.1 h2
        obtain ⟨xs,m,rfl,rfl,hcl,hxl,hget⟩:=DataW.trod_struct ht h
        obtain ⟨ys,a1,a2⟩:=read_fields (k:=tyOf P n) (fuel:=m) (fun h1 h2=>read_data hmu n h1 h2) (cs:=cs) (fs:=fs.toList) (off:=0) (tys:=tys) (fun i f hf=>by
         have hf' : fs[i]? = some f:=by simpa using hf
         have:=hget i f hf'
         have hi : i < xs.length:=by rw [hxl]; exact (Qaj.1 hf').1
         exact ⟨_,this.trans (Qf hi)⟩) htys (by omega)
        exact ⟨ys,a1,by simpa using a2⟩
       ·cases h2
     | array k e =>
       simp only at h2
       split at h2
       ·rename_i hsz
        obtain ⟨te,hte,rfl⟩:=Qc.1 h2
        obtain ⟨xs,m,rfl,rfl,hcl,hxl,hget⟩:=DataW.trod_array ht h
        have ex : ∀ i,i < k → ∃ (y : List LV),Has te y∧VRs c y ((cs.drop (i * P.cellsOf e)).take (P.cellsOf e)):=fun i hi=>by
         have:=hget i hi
         exact read_data hmu n (this.trans (Qf (by omega))) hte
        obtain ⟨yss,hyl,hys⟩:=exists_list k ex
        refine ⟨yss.flatten,hasL_list hyl fun y hy=>?_,?_⟩
        ·obtain ⟨i,hi⟩:=Qck hy
         exact (hys i y hi).1
        ·have:=chunks (m:=0) (s:=P.cellsOf e) (cs:=cs) (n:=k) (off:=0) hyl (by omega) fun i y hy=>by simpa using (hys i y hy).2
         simpa using this
       ·cases h2
     | _=>cases h2

theorem read_args (hmu : ∀ b o,c.mu b o = w.cell? ⟨b,o,none⟩) {r : Reach} {b2 : Nat} : ∀ {ts : List TypeId} {vs : List Value} {ds : List (DataW H)} {ps : List MemPlace} {tys : List (Bool × Ty)},DataW.TrodAll enc P w base spare held ts vs ds ps →
  (∀ (j : Nat) t v,ts[j]? = some t → vs[j]? = some v → Value.okWide P w r b2 t v) → ts.mapM (argTy P) = some tys → ∃ args,HasAll tys args∧VRs c args vs
 | [],[],[],ps,tys,_,_,h=>by simp at h; subst h; exact ⟨[],rfl,VRs.nil c⟩
 | t :: ts,v::vs,d::ds,ps,tys,ht,hok,h=>by
   obtain ⟨p,q,⟨fuel,h1⟩,h2,_⟩:=ht
   simp only [Qbq,bind,Qa,pure,Option.some.injEq] at h
   obtain ⟨ty,hty,tys',htys,rfl⟩:=h
   obtain ⟨args,a1,a2⟩:=read_args hmu h2 (fun j t v hj hv=>hok (j + 1) t v (by simpa using hj) (by simpa using hv)) htys
   have key : ∃ x,HasArg ty x∧VR c x v:=by
    unfold argTy at hty
    split at hty
    ·rename_i b tyy hag hty2
     simp only [Option.some.injEq] at hty; subst hty
     obtain ⟨xs,x1,x2⟩:=read_data hmu 20 h1 hty2
     have hv:=hok 0 t v rfl rfl
     unfold isAggT at hag
     unfold Value.okWide at hv
     cases hu : P.underlying t with
     | none=>rw [hu] at hag; cases hag
     | some dd =>
       have agg : b = true → (∃ cs,v = .agg cs) → ∃ x,HasArg (b,tyy) x∧VR c x v:=by
        rintro rfl ⟨cs,rfl⟩
        have x2' : VRs c xs cs.toList:=x2
        have:=VR.agg (c:=c) xs cs.toList x2'.len x2'.at_
        exact ⟨.agg xs,⟨xs,rfl,x1⟩,by simpa using this⟩
       have plain : b = false → v.cells = #[v] → ∃ x,HasArg (b,tyy) x∧VR c x v:=by
        rintro rfl hcells
        rw [hcells] at x2
        have hl:=x2.len
        simp at hl
        match xs,hl,x1,x2 with
        | [x],_,x1,x2=>exact ⟨x,x1,x2.head⟩
       rw [hu] at hag hv
       have nag : (∀ cs,v ≠ .agg cs) → v.cells = #[v]:=fun h=>by cases v <;> first | rfl | exact absurd rfl (h _)
       cases dd with
       | struct fs =>
         simp only [Option.some.injEq] at hag
         obtain ⟨cs,rfl,_⟩:=hv
         exact agg hag.symm ⟨cs,rfl⟩
       | array k e =>
         simp only [Option.some.injEq] at hag
         obtain ⟨cs,rfl,_⟩:=hv
         exact agg hag.symm ⟨cs,rfl⟩
       | _ =>
         simp only [Option.some.injEq] at hag
         refine plain hag.symm (nag fun cs e=>?_)
         subst e
         simp only [Cell.okWide,Cell.ok,hu] at hv
    ·cases hty
   obtain ⟨x,x1,x2⟩:=key
   exact ⟨x::args,⟨x,args,rfl,x1,a1⟩,VRs.cons x2 a2⟩
 | [],_::_,_,_,_,h,_,_=>h.elim
 | _::_,[],_,_,_,h,_,_=>h.elim
 | [],[],_::_,_,_,h,_,_=>h.elim
 | _::_,_::_,[],_,_,h,_,_=>h.elim

theorem trodAll_stays (hl : laidOutB P = true) {W W' : World} {sp' : Nat → Bool} : ∀ {ts : List TypeId} {vs : List Value} {ds : List (DataW H)} {ps : List MemPlace},(ts.all fun t=>P.readableRec t && decide (t < P.types.size)) = true →
  DataW.TrodAll enc P W 0 (fun _=>true) true ts vs ds ps → (∀ p ∈ ps,W.sameAt W' p) → (∀ p ∈ ps,sp' p.block = true) → DataW.TrodAll enc P W' 0 sp' true ts vs ds ps
 | [],[],[],ps,_,h,_,_=>h
 | t::ts,v::vs,d::ds,ps,hr,ht,hs,hsp=>by
   obtain ⟨p,q,h1,h2,rfl⟩:=ht
   simp only [Qb1,Qg,decide_eq_true_eq] at hr
   exact ⟨p,q,WideElems.Trod_stays hl hr.1.1 hr.1.2 h1 (fun x hx=>hs x (by simp [hx])) (fun x hx=>hsp x (by simp [hx])),trodAll_stays hl (by simpa using hr.2) h2 (fun x hx=>hs x (by simp [hx])) (fun x hx=>hsp x (by simp [hx])),rfl⟩
 | [],_::_,_,_,_,h,_,_=>h.elim
 | _::_,[],_,_,_,h,_,_=>h.elim
 | [],[],_::_,_,_,h,_,_=>h.elim
 | _::_,_::_,[],_,_,h,_,_=>h.elim

theorem export_true {O : Heap} {v : LV} {b : Bool} (h : exportV O v = some (.bool b)) : v = .bool b:=by
 unfold exportV chkR at h
 split at h
 ·simp only [Option.some.injEq] at h
  cases v with
  | tup cs=>cases h
  | bs i o l =>
    simp only [exportR,export1] at h
    unfold expBs at h
    split at h
    ·split at h
     ·split at h <;> cases h
     ·cases h
    ·cases h
  | mp i =>
    simp only [exportR,export1] at h
    unfold expMp at h
    split at h <;> cases h
  | bb i o st l=>simp only [exportR,export1,LV.cl] at h; unfold vsK at h; split at h <;> cases h
  | bool b'=>exact h
  | _=>cases h
 ·cases h

theorem law_calls (hm : P.follows .mixedOrders = true) {E : FuncId → Option AFn} (hE : EOK P E) {f : FuncId} {args : List LV} {vals : List Value} {W : World} (hv : VRs ⟨fun b o=>W.cell? ⟨b,o,none⟩,fun _=>none⟩ args vals) (hl : pc E f args = some (.bool true)) :
  ∃ W',CallsTo P f vals.toArray W (.bool true) W'∧(W'.os = W.os∧W'.output = W.output)∧(∀ b,b < W.heap.size → W'.heap[b]? = W.heap[b]?) ∧ ∀ a,W'.frozen? a = W.frozen? a:=by
 obtain ⟨o,ho,hr⟩:=Qa.1 (show (Run E (.fn f args 0 [] [])).bind resK = some _ from hl)
 cases o with
 | ex e s=>cases hr
 | res v F O =>
   have hv0:=export_true hr
   subst hv0
   have H0:=SR.empty0 (P:=P) (c:=⟨fun b o=>W.cell? ⟨b,o,none⟩,fun _=>none⟩) (w:=W) (fun b o v h=>h)
   obtain ⟨c',u,W',H',t,hcall⟩:=Run_sound hm hE _ _ _ _ _ _ _ _ ho _ vals [] W H0 hv
   have hu:=VR.of_bool (by simpa [tget] using H'.T 0 : VR c' (.bool true) u)
   subst hu
   exact ⟨W',hcall,t.env,fun b hb=>t.keep b hb fun id h hi=>by simp [Cx.bare] at hi,t.frz⟩

theorem same_kept {W W' : World} (henv : W'.os = W.os∧W'.output = W.output) (hk : ∀ b,b < W.heap.size → W'.heap[b]? = W.heap[b]?) (may : MemPlace → Prop) : W.keptBut W' may:=by
 refine ⟨henv.1,henv.2,fun i hi=>?_⟩
 rw [hk i hi]
 cases hh : W.heap[i]? with
 | none=>trivial
 | some o =>
   cases o <;> first
    | exact ⟨rfl,rfl,rfl,fun _ _=>rfl⟩
    | exact .inr ⟨rfl,rfl⟩
    | rfl

theorem law_contract {C : Checked} {f : FuncId} {fn : Func} {s : ChangeSpec} {tb : TypeId} (hm : C.prog.follows .mixedOrders = true) {E : FuncId → Option AFn} (hE : EOK C.prog E) (hlaid : laidOutB C.prog = true)
  (hread : (fn.params.toList.all fun t=>C.prog.readableRec t && decide (t < C.prog.types.size)) = true) (hres : fn.resultTypes = #[tb]) (htb : C.prog.underlying tb = some .bool)
  {tys : List (Bool × Ty)} (htys : fn.params.toList.mapM (argTy C.prog) = some tys) (hlaw : ∀ args,HasAll tys args → pc E f args = some (.bool true))
  (hvars : s.vars = []) (hspec : ∀ ds : List (DataW H),ds.length = fn.params.toList.length → s.fn H ds = { results:=[.lit (.bool true)],args:=ds })
  (W : World) (base : Nat) (args : Array Value) (ds gs : List (DataW H)) (before : List MemPlace)
  (hval : ∀ (j : Nat) t v,fn.params[j]? = some t → args[j]? = some v → Value.okWide C.prog W .any base t v)
  (hW : DataW.Whole enc C.prog fn.params.toList s.vars false W args.toList ds gs before) :
  Calls C.prog f args W fun e W'=>∃ v,e = .returned v∧s.post enc C.prog fn false true false false W args v W':=by
 have hW':=hW
 obtain ⟨p,q,hA,hV,rfl,hfz,hnd⟩:=hW
 rw [hvars] at hV
 have hgs : gs = []∧q = []:=by
  cases gs with
  | nil=>exact ⟨rfl,hV⟩
  | cons g gs=>exact hV.elim
 obtain ⟨rfl,rfl⟩:=hgs
 obtain ⟨as,ha,hv⟩:=read_args (c:=⟨fun b o=>W.cell? ⟨b,o,none⟩,fun _=>none⟩) (fun _ _=>rfl) hA (fun j t v hj hv=>hval j t v (by simpa using hj) (by simpa using hv)) htys
 obtain ⟨W',hcall,henv,hk,hfr⟩:=law_calls hm hE hv (hlaw as ha)
 intro cs
 obtain ⟨_,hcs⟩:=hcall
 obtain ⟨fr,h1,h2,h3⟩:=hcs cs
 have hlen : ds.length = fn.params.toList.length:=by
  have gen : ∀ {ts : List TypeId} {vs : List Value} {ds : List (DataW H)} {ps : List MemPlace},DataW.TrodAll enc C.prog W 0 (fun _=>true) true ts vs ds ps → ds.length = ts.length:=by
   intro ts
   induction ts with
   | nil=>intro vs ds ps h; cases vs <;> cases ds <;> first | rfl | exact h.elim
   | cons t ts ih =>
     intro vs ds ps h
     cases vs with
     | nil=>cases ds <;> exact h.elim
     | cons v vs =>
       cases ds with
       | nil=>exact h.elim
       | cons d ds =>
         obtain ⟨p,q,_,h,_⟩:=h
         simp [ih h]
  exact gen hA
 have hlt : ∀ x ∈ p,x.block < W.heap.size:=fun x hx=>hW'.lt x (by simp [hx])
 have hA2 : ∀ sp : Nat → Bool,(∀ x ∈ p,sp x.block = true) → DataW.TrodAll enc C.prog W' 0 sp true fn.params.toList args.toList ds p:=fun sp hsp =>
  trodAll_stays hlaid hread hA (fun x hx=>by
   cases x with
   | cell b o=>exact cell_of_heap (hk b (hlt _ hx)) o
   | map b=>exact hk b (hlt _ hx)) hsp
 have hst : Steps C.prog (lone (Frame.enter C.prog f args .normal) cs W) (lone fr cs W'):=by
  have e : args.toList.toArray = args:=Qab
  rw [e] at h1; exact h1
 refine ⟨.returned (.bool true),W',fr,⟨.bool true,rfl,?_⟩,hst,h2,h3⟩
 rw [Qbc] at hW'
 have hfn : s.fn H (ds++[]) = { results:=[.lit (.bool true)],args:=ds }:=by rw [Qbc]; exact hspec ds hlen
 refine Go.ChangeShapes.post_of_same (pa:=p) (pv:=[]) hW' (fun b sp hd=>?_) (fun sp hsp=>?_) (fun sp _=>?_) (by simp) (same_kept henv hk _) hfr ?_
 ·rw [hfn,hres]
  exact ⟨[],[],⟨1,by simp [DataW.trod,htb,Value.cells]⟩,rfl,rfl⟩
 ·rw [hfn]; exact hA2 sp hsp
 ·rw [hfn,hvars]; rfl
 ·intro j t r hj hr
  rw [hres] at hj hr
  cases j with
  | zero =>
    simp [Value.resultList] at hj hr
    subst hj; subst hr
    simp [Value.okWide,htb,Cell.okWide,Cell.ok]
  | succ j=>simp at hj
end
end Go.Zv
