/- Part of the proof: the evaluation of the program's code and its tie to the machine, or what functions of the program compute over it. -/
import Derived.Test.YtbpneedpcccpaaaGreatEng1
import Derived.Deep.MidRow
import Derived.AtR
import Derived.Laws.Concat
import Derived.Laws.Strings
import Derived.Laws.Cells
import Derived.ChangeKeysEq
import Derived.Laws.StructEq
import Derived.Laws.BytesString
import Derived.Laws.BytesArg
set_option autoImplicit false
set_option maxRecDepth 100000
set_option maxHeartbeats 4000000
set_option linter.unusedSimpArgs false
set_option linter.unusedVariables false
/- The engine, part 5: what the values and states of the evaluation say of the machine's. -/
namespace Go.Zv

structure Home where
 blk : Nat
 off : Nat
 st : Nat
 cap : Nat
 nul : Bool
 ad : Option Addr
 cz : nul = true → cap = 0:=by simp
def Home.addr (h : Home) : Option Addr:=if h.nul = true then h.ad else some ⟨h.blk,h.off,none⟩
structure Cx where
 mu : Nat → Nat → Option Value
 io : Nat → Option Home

inductive VR (c : Cx) : LV → Value → Prop
 | any (v : Value) : VR c .any v
 | undef : VR c .undef undef
 | int (k : IntKind) (n : Int) : VR c (.int k n) (.int k n)
 | bool (b : Bool) : VR c (.bool b) (.bool b)
 | str (l : List UInt8) : VR c (.str l) (.string ⟨l.toArray⟩)
 | agg (cs : List LV) (vs : List Value) (hl : cs.length = vs.length) (h : ∀ (i : Nat) (x : LV) (v : Value),cs[i]? = some x → vs[i]? = some v → VR c x v) : VR c (.agg cs) (.agg vs.toArray)
 | tup (cs : List LV) (vs : List Value) (hl : cs.length = vs.length) (h : ∀ (i : Nat) (x : LV) (v : Value),cs[i]? = some x → vs[i]? = some v → VR c x v) : VR c (.tup cs) (.tuple vs.toArray)
 | vs0 (a : Option Addr) (cap : Nat) (hz : a = none → cap = 0) : VR c (.vs []) (.slice a 0 cap)
 | vs (xs : List (List LV)) (b o s cap : Nat) (val : Nat → Nat → Value) (hne : xs ≠ []) (hcap : xs.length≤cap)
   (hs : ∀ (i : Nat) (x : List LV),xs[i]? = some x → x.length = s∧LV.closeds x = true)
   (hm : ∀ (i : Nat) (x : List LV) (j : Nat) (y : LV),xs[i]? = some x → x[j]? = some y → c.mu b (o + i * s + j) = some (val i j))
   (ho : ∀ (i : Nat) (x : List LV) (j : Nat) (y : LV),xs[i]? = some x → x[j]? = some y → (val i j).oneCell' = true)
   (hv : ∀ (i : Nat) (x : List LV) (j : Nat) (y : LV),xs[i]? = some x → x[j]? = some y → VR c y (val i j)) : VR c (.vs xs) (.slice (some ⟨b,o,none⟩) xs.length cap)
 | nils (st : Nat) (a : Option Addr) : VR c (.nils st) (.slice a 0 0)
 | nul : VR c .nul (.slice none 0 0)
 | emp (a : Addr) (cap : Nat) : VR c .emp (.slice (some a) 0 cap)
 | bs (id off len : Nat) (h : Home) (a : Option Addr) (cap : Nat) (hcap : len≤cap) (hi : c.io id = some h) (h0 : off = 0 → a = h.addr∧cap = h.cap)
   (h1 : len ≠ 0 → h.nul = false∧a = some ⟨h.blk,h.off + off * h.st,none⟩)
   (h2 : off ≠ 0 → (cap = 0∧h.cap≤off) ∨ (h.nul = false∧a = some ⟨h.blk,h.off + off * h.st,none⟩∧off + cap = h.cap)) : VR c (.bs id off len) (.slice a len cap)
 | bb (id off st len : Nat) (h : Home) (a : Option Addr) (cap : Nat) (hcap : len≤cap) (hi : c.io id = some h) (h1 : len ≠ 0 → a = some ⟨h.blk,off,none⟩) (hz : a = none → cap = 0) : VR c (.bb id off st len) (.slice a len cap)
 | ptr (id off : Nat) (h : Home) (hi : c.io id = some h) : VR c (.ptr id off) (.pointer (some ⟨h.blk,off,none⟩))
 | ep (id i off : Nat) (h : Home) (hi : c.io id = some h) (hn : h.nul = false) : VR c (.ep id i off) (.pointer (some ⟨h.blk,h.off + i * h.st + off,none⟩))
 | fp (cs : List LV) (b o : Nat) (val : Nat → Value) (hcl : LV.closeds cs = true) (hm : ∀ (j : Nat) (y : LV),cs[j]? = some y → c.mu b (o + j) = some (val j))
   (ho : ∀ (j : Nat) (y : LV),cs[j]? = some y → (val j).oneCell' = true)
   (hv : ∀ (j : Nat) (y : LV),cs[j]? = some y → VR c y (val j)) : VR c (.fp cs) (.pointer (some ⟨b,o,none⟩))
 | nilp : VR c .nilp (.pointer none)
 | fn (f : Fn) (xs ys : List LV) (us vs : List Value) (hl : xs.length = us.length) (hl2 : ys.length = vs.length)
   (h : ∀ (i : Nat) (x : LV) (v : Value),xs[i]? = some x → us[i]? = some v → VR c x v)
   (h2 : ∀ (i : Nat) (x : LV) (v : Value),ys[i]? = some x → vs[i]? = some v → VR c x v) : VR c (.fn f xs ys) (.func f us.toArray vs.toArray)
 | nilf : VR c .nilf .nilFunc
 | mp (id : Nat) (h : Home) (hi : c.io id = some h) : VR c (.mp id) (.map (some h.blk))
 | nilm : VR c .nilm (.map none)
 | yl (id : Nat) (h : Home) (hi : c.io id = some h) : VR c (.yl id) (.func (.yield h.blk) #[] #[])

theorem bs_none {h : Home} {off : Nat} {a : Option Addr} {cap : Nat} (h0 : off = 0 → a = h.addr∧cap = h.cap) (h2 : off ≠ 0 → (cap = 0∧h.cap≤off) ∨ (h.nul = false∧a = some ⟨h.blk,h.off + off * h.st,none⟩∧off + cap = h.cap)) (hn : a = none) : cap = 0:=by
 by_cases e : off = 0
 ·obtain ⟨h3,h4⟩:=h0 e
  rw [hn] at h3
  unfold Home.addr at h3
  cases hu : h.nul with
  | true=>rw [h4]; exact h.cz hu
  | false=>rw [hu] at h3; simp at h3
 ·rcases h2 e with h3 | h3
  ·exact h3.1
  ·rw [hn] at h3; simp at h3
structure VRs (c : Cx) (xs : List LV) (vs : List Value) : Prop where
 len : xs.length = vs.length
 at_ : ∀ (i : Nat) (x : LV) (v : Value),xs[i]? = some x → vs[i]? = some v → VR c x v

theorem VRs.nil (c : Cx) : VRs c [] []:=⟨rfl,fun i x v h=>by simp at h⟩
theorem VRs.cons {c : Cx} {x : LV} {v : Value} {xs : List LV} {vs : List Value} (h : VR c x v) (hs : VRs c xs vs) : VRs c (x::xs) (v::vs) :=
 ⟨by simp [hs.len],fun i y u hy hu=>by
  cases i with
  | zero=>simp at hy hu; subst hy; subst hu; exact h
  | succ i=>simp at hy hu; exact hs.at_ i y u hy hu⟩
theorem VRs.tail {c : Cx} {x : LV} {v : Value} {xs : List LV} {vs : List Value} (h : VRs c (x::xs) (v::vs)) : VRs c xs vs :=
 ⟨by simpa using h.len,fun i y u hy hu=>h.at_ (i + 1) y u (by simpa using hy) (by simpa using hu)⟩
theorem VRs.head {c : Cx} {x : LV} {v : Value} {xs : List LV} {vs : List Value} (h : VRs c (x::xs) (v::vs)) : VR c x v:=h.at_ 0 x v rfl rfl
theorem VRs.append {c : Cx} {xs ys : List LV} {us vs : List Value} (h : VRs c xs us) (h2 : VRs c ys vs) : VRs c (xs++ys) (us++vs):=by
 induction xs generalizing us with
 | nil=>cases us with
   | nil=>exact h2
   | cons u us=>have:=h.len; simp at this
 | cons x xs ih=>cases us with
   | nil=>have:=h.len; simp at this
   | cons u us=>exact VRs.cons h.head (ih h.tail)
theorem VRs.getSome {c : Cx} {xs : List LV} {vs : List Value} (h : VRs c xs vs) {i : Nat} {x : LV} (hx : xs[i]? = some x) : ∃ v,vs[i]? = some v∧VR c x v:=by
 have hi : i < xs.length:=(Qe.1 hx).1
 have hv : vs[i]? = some (vs[i]'(h.len ▸ hi)):=Qf _
 exact ⟨_,hv,h.at_ i x _ hx hv⟩
theorem VRs.drop {c : Cx} {xs : List LV} {vs : List Value} (h : VRs c xs vs) (n : Nat) : VRs c (xs.drop n) (vs.drop n) :=
 ⟨by simp [h.len],fun i x v hx hv=>h.at_ (n + i) x v (by simpa using hx) (by simpa using hv)⟩
theorem VRs.take {c : Cx} {xs : List LV} {vs : List Value} (h : VRs c xs vs) (n : Nat) : VRs c (xs.take n) (vs.take n) :=
 ⟨by simp [h.len],fun i x v hx hv=>by
  rw [Qak] at hx hv
  split at hx
  ·rename_i hlt; rw [if_pos hlt] at hv; exact h.at_ i x v hx hv
  ·cases hx⟩

theorem VRs.of_agg {c : Cx} {cs : List LV} {v : Value} (h : VR c (.agg cs) v) : ∃ vs : List Value,v = .agg vs.toArray∧VRs c cs vs:=by
 cases h with | agg _ vs hl h=>exact ⟨vs,rfl,hl,h⟩
theorem VRs.of_tup {c : Cx} {cs : List LV} {v : Value} (h : VR c (.tup cs) v) : ∃ vs : List Value,v = .tuple vs.toArray∧VRs c cs vs:=by
 cases h with | tup _ vs hl h=>exact ⟨vs,rfl,hl,h⟩

theorem closeds_at : ∀ {cs : List LV} {i : Nat} {x : LV},LV.closeds cs = true → cs[i]? = some x → LV.closed x = true
 | [],i,x,_,h=>by simp at h
 | y::l,0,x,hc,h=>by simp [LV.closeds] at hc h; subst h; exact hc.1
 | y::l,i + 1,x,hc,h=>by simp [LV.closeds] at hc h; exact closeds_at hc.2 h
theorem closeds_of : ∀ {cs : List LV},(∀ (i : Nat) (x : LV),cs[i]? = some x → LV.closed x = true) → LV.closeds cs = true
 | [],_=>rfl
 | y::l,h=>by
   simp only [LV.closeds,Qg]
   exact ⟨h 0 y rfl,closeds_of fun i x hx=>h (i + 1) x (by simpa using hx)⟩

theorem VR.closed {c c' : Cx} (hmu : ∀ b o v,c.mu b o = some v → c'.mu b o = some v) {x : LV} {v : Value} (h : VR c x v) : LV.closed x = true → VR c' x v:=by
 induction h with
 | any v=>exact fun _=>.any v
 | undef=>exact fun _=>.undef
 | int k n=>exact fun _=>.int k n
 | bool b=>exact fun _=>.bool b
 | str l=>exact fun _=>.str l
 | agg cs vs hl h ih=>exact fun hc=>.agg cs vs hl fun i x v hx hv=>ih i x v hx hv (closeds_at (by simpa [LV.closed] using hc) hx)
 | tup cs vs hl h ih=>exact fun hc=>.tup cs vs hl fun i x v hx hv=>ih i x v hx hv (closeds_at (by simpa [LV.closed] using hc) hx)
 | vs0 a cap hz=>exact fun _=>.vs0 a cap hz
 | vs xs b o s cap val hne hcap hs hm ho hv ih=>exact fun _=>.vs xs b o s cap val hne hcap hs (fun i x j y hx hy=>hmu _ _ _ (hm i x j y hx hy)) ho (fun i x j y hx hy=>ih i x j y hx hy (closeds_at (hs i x hx).2 hy))
 | nils st a=>exact fun hc=>by simp [LV.closed] at hc
 | nul=>exact fun _=>.nul
 | emp a cap=>exact fun _=>.emp a cap
 | bs=>exact fun hc=>by simp [LV.closed] at hc
 | bb=>exact fun hc=>by simp [LV.closed] at hc
 | ptr=>exact fun hc=>by simp [LV.closed] at hc
 | ep=>exact fun hc=>by simp [LV.closed] at hc
 | fp cs b o val hcl hm ho hv ih=>exact fun _=>.fp cs b o val hcl (fun j y hy=>hmu _ _ _ (hm j y hy)) ho (fun j y hy=>ih j y hy (closeds_at hcl hy))
 | nilp=>exact fun _=>.nilp
 | fn f xs ys us vs hl hl2 h h2 ih ih2 =>
   intro hc
   simp only [LV.closed,Qg] at hc
   exact .fn f xs ys us vs hl hl2 (fun i x v hx hv=>ih i x v hx hv (closeds_at hc.1 hx)) (fun i x v hx hv=>ih2 i x v hx hv (closeds_at hc.2 hx))
 | nilf=>exact fun _=>.nilf
 | mp=>exact fun hc=>by simp [LV.closed] at hc
 | nilm=>exact fun _=>.nilm
 | yl=>exact fun hc=>by simp [LV.closed] at hc

theorem cls_get : ∀ (l : List LV) (i : Nat),(LV.cls [] l)[i]? = (l[i]?).map (LV.cl [])
 | [],i=>by simp [LV.cls]
 | v::l,0=>by simp [LV.cls]
 | v::l,i + 1=>by simp [LV.cls,cls_get l i]
theorem closeds_cls {cs : List LV} {i : Nat} {x : LV} (h : LV.closeds (LV.cls [] cs) = true) (hx : cs[i]? = some x) : LV.closed (LV.cl [] x) = true:=closeds_at h (i:=i) (by rw [cls_get,hx]; rfl)
theorem VR.closedN {c c' : Cx} (hmu : ∀ b o v,c.mu b o = some v → c'.mu b o = some v) {x : LV} {v : Value} (h : VR c x v) : LV.closed (LV.cl [] x) = true → VR c' x v:=by
 induction h with
 | any v=>exact fun _=>.any v
 | undef=>exact fun _=>.undef
 | int k n=>exact fun _=>.int k n
 | bool b=>exact fun _=>.bool b
 | str l=>exact fun _=>.str l
 | agg cs vs hl h ih=>exact fun hc=>.agg cs vs hl fun i x v hx hv=>ih i x v hx hv (closeds_cls (by simpa [LV.cl,LV.closed] using hc) hx)
 | tup cs vs hl h ih=>exact fun hc=>.tup cs vs hl fun i x v hx hv=>ih i x v hx hv (closeds_cls (by simpa [LV.cl,LV.closed] using hc) hx)
 | vs0 a cap hz=>exact fun _=>.vs0 a cap hz
 | vs xs b o s cap val hne hcap hs hm ho hv ih=>exact fun hc=>(VR.vs xs b o s cap val hne hcap hs hm ho hv).closed hmu hc
 | nils st a=>exact fun _=>.nils st a
 | nul=>exact fun _=>.nul
 | emp a cap=>exact fun _=>.emp a cap
 | bs=>exact fun hc=>by simp [LV.cl,rowElems,oget,vsK,LV.closed] at hc
 | bb=>exact fun hc=>by simp [LV.cl,boxElemsC,oget,vsK,LV.closed] at hc
 | ptr=>exact fun hc=>by simp [LV.cl,LV.closed] at hc
 | ep=>exact fun hc=>by simp [LV.cl,LV.closed] at hc
 | fp cs b o val hcl hm ho hv ih=>exact fun hc=>(VR.fp cs b o val hcl hm ho hv).closed hmu hc
 | nilp=>exact fun _=>.nilp
 | fn f xs ys us vs hl hl2 h h2 ih ih2 =>
   intro hc
   simp only [LV.cl,LV.closed,Qg] at hc
   exact .fn f xs ys us vs hl hl2 (fun i x v hx hv=>ih i x v hx hv (closeds_cls hc.1 hx)) (fun i x v hx hv=>ih2 i x v hx hv (closeds_cls hc.2 hx))
 | nilf=>exact fun _=>.nilf
 | mp=>exact fun hc=>by simp [LV.cl,LV.closed] at hc
 | nilm=>exact fun _=>.nilm
 | yl=>exact fun hc=>by simp [LV.cl,LV.closed] at hc

theorem subs_get (r : Rep) (id : Nat) : ∀ (l : List LV) (i : Nat),(LV.subs r id l)[i]? = (l[i]?).map (LV.sub r id)
 | [],i=>by simp [LV.subs]
 | v::l,0=>by simp [LV.subs]
 | v::l,i + 1=>by simp [LV.subs,subs_get r id l i]
theorem subs_length (r : Rep) (id : Nat) : ∀ (l : List LV),(LV.subs r id l).length = l.length
 | []=>rfl
 | v::l=>by simp [LV.subs,subs_length r id l]

structure Goes_ (c c' : Cx) (id : Nat) (r : Rep) : Prop where
 mu : ∀ b o v,c.mu b o = some v → c'.mu b o = some v
 io : ∀ j h,j ≠ id → c.io j = some h → c'.io j = some h
 frz : ∀ xs,r = .frz xs → ∀ h,c.io id = some h → h.nul = false → ∃ val : Nat → Nat → Value,
  (∀ (i : Nat) (x : List LV),xs[i]? = some x → x.length = h.st∧LV.closeds x = true) ∧
  (∀ (i : Nat) (x : List LV) (j : Nat) (y : LV),xs[i]? = some x → x[j]? = some y → c'.mu h.blk (h.off + i * h.st + j) = some (val i j)∧(val i j).oneCell' = true∧VR c' y (val i j))

theorem VR.sub {c c' : Cx} {id : Nat} {r : Rep} (g : Goes_ c c' id r) {x : LV} {v : Value} (h : VR c x v) : VR c' (LV.sub r id x) v:=by
 induction h with
 | any v=>exact .any v
 | undef=>exact .undef
 | int k n=>exact .int k n
 | bool b=>exact .bool b
 | str l=>exact .str l
 | agg cs vs hl h ih =>
   simp only [LV.sub]
   refine .agg _ vs (by rw [subs_length,hl]) fun i x v hx hv=>?_
   rw [subs_get] at hx
   obtain ⟨y,hy,rfl⟩:=Qc.1 hx
   exact ih i y v hy hv
 | tup cs vs hl h ih =>
   simp only [LV.sub]
   refine .tup _ vs (by rw [subs_length,hl]) fun i x v hx hv=>?_
   rw [subs_get] at hx
   obtain ⟨y,hy,rfl⟩:=Qc.1 hx
   exact ih i y v hy hv
 | vs0 a cap hz=>exact .vs0 a cap hz
 | vs xs b o s cap val hne hcap hs hm ho hv ih =>
   exact .vs xs b o s cap val hne hcap hs (fun i x j y hx hy=>g.mu _ _ _ (hm i x j y hx hy)) ho (fun i x j y hx hy=>(hv i x j y hx hy).closed g.mu (closeds_at (hs i x hx).2 hy))
 | nils st a=>exact .nils st a
 | nul=>exact .nul
 | emp a cap=>exact .emp a cap
 | bs i off len h a cap hcap hi h0 h1 h2 =>
   simp only [LV.sub]
   split
   ·rename_i e; subst e
    cases r with
    | kill=>exact .any _
    | frz xs =>
      simp only [Rep.bs]
      split
      ·rename_i hle
       have hlen : (List.take len (List.drop off xs)).length = len:=by simp; omega
       by_cases hz : len = 0
       ·subst hz; simp only [Qcq]; exact .vs0 a cap (bs_none h0 h2)
       ·obtain ⟨hn,ha⟩:=h1 hz
        obtain ⟨val,hs,hm⟩:=g.frz xs rfl h hi hn
        subst ha
        have hget : ∀ (k : Nat) (x : List LV),(List.take len (List.drop off xs))[k]? = some x → xs[off + k]? = some x:=by
         intro k x hx
         rw [Qak] at hx
         split at hx
         ·simpa using hx
         ·cases hx
        have:=VR.vs (c:=c') (List.take len (List.drop off xs)) h.blk (h.off + off * h.st) h.st cap (fun k j=>val (off + k) j)
         (by intro e; rw [e] at hlen; simp at hlen; omega) (by rw [hlen]; exact hcap)
         (fun k x hx=>hs _ _ (hget k x hx))
         (fun k x j y hx hy=>by
          have:=(hm _ _ j y (hget k x hx) hy).1
          rw [show h.off + off * h.st + k * h.st + j = h.off + (off + k) * h.st + j by rw [Qac]; omega]
          exact this)
         (fun k x j y hx hy=>(hm _ _ j y (hget k x hx) hy).2.1)
         (fun k x j y hx hy=>(hm _ _ j y (hget k x hx) hy).2.2)
        rwa [hlen] at this
      ·exact .any _
   ·rename_i e; exact .bs i off len h a cap hcap (g.io i h e hi) h0 h1 h2
 | bb i off st len h a cap hcap hi h1 hz =>
   simp only [LV.sub]
   split
   ·exact .any _
   ·rename_i e; exact .bb i off st len h a cap hcap (g.io i h e hi) h1 hz
 | ptr i off h hi =>
   simp only [LV.sub]
   split
   ·exact .any _
   ·rename_i e; exact .ptr i off h (g.io i h e hi)
 | ep i j off h hi hn =>
   simp only [LV.sub]
   split
   ·rename_i e; subst e
    cases r with
    | kill=>exact .any _
    | frz xs =>
      simp only [Rep.ep]
      cases hx : xs[j]? with
      | none=>exact .any _
      | some x =>
        obtain ⟨val,hs,hm⟩:=g.frz xs rfl h hi hn
        simp only [fpAt]
        refine .fp _ _ _ (fun k=>val j (off + k)) ?_ ?_ ?_ ?_
        ·exact closeds_of fun k y hy=>closeds_at (hs j x hx).2 (i:=off + k) (by simpa using hy)
        ·intro k y hy
         have:=(hm j x (off + k) y hx (by simpa using hy)).1
         rwa [← Qaz] at this
        ·intro k y hy
         exact (hm j x (off + k) y hx (by simpa using hy)).2.1
        ·intro k y hy
         exact (hm j x (off + k) y hx (by simpa using hy)).2.2
   ·rename_i e; exact .ep i j off h (g.io i h e hi) hn
 | fp cs b o val hcl hm ho hv ih =>
   exact .fp cs b o val hcl (fun j y hy=>g.mu _ _ _ (hm j y hy)) ho (fun j y hy=>(hv j y hy).closed g.mu (closeds_at hcl hy))
 | nilp=>exact .nilp
 | fn f xs ys us vs hl hl2 h h2 ih ih2 =>
   simp only [LV.sub]
   refine .fn f _ _ us vs (by rw [subs_length,hl]) (by rw [subs_length,hl2]) (fun i x v hx hv=>?_) (fun i x v hx hv=>?_)
   ·rw [subs_get] at hx
    obtain ⟨y,hy,rfl⟩:=Qc.1 hx
    exact ih i y v hy hv
   ·rw [subs_get] at hx
    obtain ⟨y,hy,rfl⟩:=Qc.1 hx
    exact ih2 i y v hy hv
 | nilf=>exact .nilf
 | mp i h hi =>
   simp only [LV.sub]
   split
   ·exact .any _
   ·rename_i e; exact .mp i h (g.io i h e hi)
 | nilm=>exact .nilm
 | yl i h hi =>
   simp only [LV.sub]
   split
   ·exact .any _
   ·rename_i e; exact .yl i h (g.io i h e hi)

theorem VR.mono {c c' : Cx} (hmu : ∀ b o v,c.mu b o = some v → c'.mu b o = some v) (hio : ∀ j h,c.io j = some h → c'.io j = some h) {x : LV} {v : Value} (h : VR c x v) : VR c' x v:=by
 induction h with
 | any v=>exact .any v
 | undef=>exact .undef
 | int k n=>exact .int k n
 | bool b=>exact .bool b
 | str l=>exact .str l
 | agg cs vs hl h ih=>exact .agg cs vs hl ih
 | tup cs vs hl h ih=>exact .tup cs vs hl ih
 | vs0 a cap hz=>exact .vs0 a cap hz
 | vs xs b o s cap val hne hcap hs hm ho hv ih=>exact .vs xs b o s cap val hne hcap hs (fun i x j y hx hy=>hmu _ _ _ (hm i x j y hx hy)) ho ih
 | nils st a=>exact .nils st a
 | nul=>exact .nul
 | emp a cap=>exact .emp a cap
 | bs id off len h a cap hcap hi h0 h1 h2=>exact .bs id off len h a cap hcap (hio _ _ hi) h0 h1 h2
 | bb id off st len h a cap hcap hi h1 hz=>exact .bb id off st len h a cap hcap (hio _ _ hi) h1 hz
 | ptr id off h hi=>exact .ptr id off h (hio _ _ hi)
 | ep id i off h hi hn=>exact .ep id i off h (hio _ _ hi) hn
 | fp cs b o val hcl hm ho hv ih=>exact .fp cs b o val hcl (fun j y hy=>hmu _ _ _ (hm j y hy)) ho ih
 | nilp=>exact .nilp
 | fn f xs ys us vs hl hl2 h h2 ih ih2=>exact .fn f xs ys us vs hl hl2 ih ih2
 | nilf=>exact .nilf
 | mp id h hi=>exact .mp id h (hio _ _ hi)
 | nilm=>exact .nilm
 | yl id h hi=>exact .yl id h (hio _ _ hi)

theorem VR.one {c : Cx} {x : LV} {v : Value} (h : VR c x v) (h1 : LV.one x = true) : v.oneCell' = true:=by
 cases h <;> first | rfl | (simp [LV.one] at h1)

def TR (c : Cx) (T : Env) (tmps : Array Value) : Prop:=∀ t,VR c (tget T t) (tmps.getD t undef)
theorem TR.mono {c c' : Cx} (hmu : ∀ b o v,c.mu b o = some v → c'.mu b o = some v) (hio : ∀ j h,c.io j = some h → c'.io j = some h) {T : Env} {tmps : Array Value} (h : TR c T tmps) : TR c' T tmps :=
 fun t=>(h t).mono hmu hio
theorem esub_get (r : Rep) (id : Nat) : ∀ (T : Env) (t : Nat),tget (Env.sub r id T) t = LV.sub r id (tget T t)
 | [],t=>by simp [Env.sub,tget,LV.sub]
 | (k,v)::T,t=>by
   simp only [Env.sub,tget]
   split
   ·rfl
   ·exact esub_get r id T t
theorem TR.sub {c c' : Cx} {id : Nat} {r : Rep} (g : Goes_ c c' id r) {T : Env} {tmps : Array Value} (h : TR c T tmps) : TR c' (Env.sub r id T) tmps :=
 fun t=>by rw [esub_get]; exact (h t).sub g
theorem TR.put {c : Cx} {T : Env} {tmps : Array Value} (h : TR c T tmps) {d : Nat} {x : LV} {v : Value} (hd : d < tmps.size) (hv : VR c x v) : TR c ((d,x)::T) (tmps.setIfInBounds d v):=by
 intro t
 simp only [tget]
 split
 ·rename_i e; subst e; simpa [Array.getD,hd] using hv
 ·rename_i e
  have:=h t
  simp only [Qi] at this ⊢
  rwa [Qaw e]

inductive OR (P : Program) (c : Cx) (w : World) (h : Home) : Obj → Prop
 | box (cs : List LV) (vals : List Value) (hn : h.nul = false) (hv : VRs c cs vals) (hc : ∀ i v,vals[i]? = some v → w.cell? ⟨h.blk,i,none⟩ = some v∧w.frozen? ⟨h.blk,i,none⟩ = false∧v.oneCell' = true)
   (hm : ∀ o,c.mu h.blk o = none) : OR P c w h (.box cs)
 | row (xs : List (List LV)) (val : Nat → Nat → Value) (hs : ∀ (i : Nat) (x : List LV),xs[i]? = some x → x.length = h.st∧LV.closeds x = true)
   (hv : ∀ (i : Nat) (x : List LV) (j : Nat) (y : LV),xs[i]? = some x → x[j]? = some y → w.cell? ⟨h.blk,h.off + i * h.st + j,none⟩ = some (val i j)∧(val i j).oneCell' = true∧VR c y (val i j))
   (hl : xs.length≤h.cap) (h0 : h.nul = true → h.cap = 0) (hsp : h.nul = false → ∀ k,k < h.cap * h.st → (w.cell? ⟨h.blk,h.off + k,none⟩).isSome = true∧w.frozen? ⟨h.blk,h.off + k,none⟩ = false)
   (hm : h.nul = false → ∀ o,c.mu h.blk o = none) : OR P c w h (.row h.st xs)
 | map (es es0 : List (LV × LV)) (en : Array MapEntry) (clock : Nat) (hn : h.nul = false) (hw : w.heap[h.blk]? = some (.map en clock)) (hl : es0.length = en.size)
   (hv : ∀ (i : Nat) (e : LV × LV) (m : MapEntry),es0[i]? = some e → en[i]? = some m → VR c e.1 m.key∧VR c e.2 m.val∧LV.closed e.1 = true∧LV.closed e.2 = true)
   (hm : ∀ o,c.mu h.blk o = none) (hp : es0.Perm es) (hd : (es0.map Prod.fst).Nodup) : OR P c w h (.map es)
 | loop (T : Env) (ps : List Nat) (asg body : ACode) (st : LSt) (pend : AEx) (L : Loop) (N : Nat) (hn : h.nul = false) (hw : w.heap[h.blk]? = some (.loop L))
   (hT : TR c T L.tmps) (hN : N≤L.tmps.size) (hp : L.params.toList = ps) (hps : ∀ d ∈ ps,d < N) (ha : toCode P N L.assign = some (strip asg)) (hb : toCode P N L.body = some (strip body))
   (hst : L.state = match st with | .ready=>.ready | .busy=>.busy | .done=>.done)
   (hpe : st ≠ .busy → L.pending = match pend with | .nrm=>none | .exit id=>some (.exit id) | .ret=>some .ret)
   (hm : ∀ o,c.mu h.blk o = none) : OR P c w h (.loop T ps asg body st pend)

structure SR (P : Program) (c : Cx) (s : St) (tmps : Array Value) (Ts : List (Array Value)) (w : World) : Prop where
 T : TR c s.T tmps
 Fl : s.F.length = Ts.length
 F : ∀ (i : Nat) (F : Env) (t : Array Value),s.F[i]? = some F → Ts[i]? = some t → TR c F t
 O : ∀ id o,oget s.O id = some o → ∃ h,c.io id = some h∧OR P c w h o
 dom : ∀ id h,c.io id = some h → ∃ o,oget s.O id = some o
 inj : ∀ i j h h',i ≠ j → c.io i = some h → c.io j = some h' → h.nul = false → h'.nul = false → h.blk ≠ h'.blk
 mu : ∀ b o v,c.mu b o = some v → w.cell? ⟨b,o,none⟩ = some v
 lt : ∀ id h,c.io id = some h → h.nul = false → h.blk < w.heap.size

structure Tr (c : Cx) (w : World) (c' : Cx) (w' : World) : Prop where
 size : w.heap.size≤w'.heap.size
 keep : ∀ b,b < w.heap.size → (∀ id h,c.io id = some h → h.nul = false → h.blk ≠ b) → w'.heap[b]? = w.heap[b]?
 mu : ∀ b o v,c.mu b o = some v → c'.mu b o = some v
 io : ∀ id h,c'.io id = some h → h.nul = false → (∃ id0 h0,c.io id0 = some h0∧h0.nul = false∧h0.blk = h.blk) ∨ w.heap.size≤h.blk
 frz : ∀ a,w'.frozen? a = w.frozen? a
 env : w'.os = w.os∧w'.output = w.output
 muN : ∀ b o v,c'.mu b o = some v → c.mu b o = some v ∨ (∃ id h,c.io id = some h∧h.nul = false∧h.blk = b) ∨ w.heap.size≤b
 loop : ∀ (b : Nat) (r : Loop),w.heap[b]? = some (Go.Obj.loop r) → ∃ r',w'.heap[b]? = some (Go.Obj.loop r')
theorem Tr.refl (c : Cx) (w : World) : Tr c w c w:=⟨Q8 _,fun _ _ _=>rfl,fun _ _ _ h=>h,fun id h hi hn=>.inl ⟨id,h,hi,hn,rfl⟩,fun _=>rfl,⟨rfl,rfl⟩,fun _ _ _ h=>.inl h,fun _ r h=>⟨r,h⟩⟩
theorem Tr.trans {c c' c'' : Cx} {w w' w'' : World} (h : Tr c w c' w') (k : Tr c' w' c'' w'') : Tr c w c'' w'' :=
 ⟨Qcv h.size k.size,fun b hb hf=>by
  rw [k.keep b (Qaf hb h.size) fun id hh hi hn e=>by
   rcases h.io id hh hi hn with ⟨id0,h0,hi0,hn0,e0⟩ | hle
   ·exact hf id0 h0 hi0 hn0 (e0.trans e)
   ·omega,h.keep b hb hf],
  fun b o v hv=>k.mu b o v (h.mu b o v hv),fun id hh hi hn=>by
   rcases k.io id hh hi hn with ⟨id0,h0,hi0,hn0,e0⟩ | hle
   ·rcases h.io id0 h0 hi0 hn0 with ⟨id1,h1,hi1,hn1,e1⟩ | hle
    ·exact .inl ⟨id1,h1,hi1,hn1,e1.trans e0⟩
    ·exact .inr (by omega)
   ·exact .inr (Qcv h.size hle),fun a=>(k.frz a).trans (h.frz a),⟨k.env.1.trans h.env.1,k.env.2.trans h.env.2⟩,fun b o v hv=>by
   rcases k.muN b o v hv with h1 | ⟨id,hh,hi,hn,e⟩ | hle
   ·exact h.muN b o v h1
   ·rcases h.io id hh hi hn with ⟨id0,h0,hi0,hn0,e0⟩ | hle
    ·exact .inr (.inl ⟨id0,h0,hi0,hn0,e0.trans e⟩)
    ·exact .inr (.inr (by omega))
   ·exact .inr (.inr (Qcv h.size hle)),fun b r hb=>by obtain ⟨r',hb'⟩:=h.loop b r hb; exact k.loop b r' hb'⟩

theorem cell_of_heap {w w' : World} {b : Nat} (h : w'.heap[b]? = w.heap[b]?) (o : Nat) : w'.cell? ⟨b,o,none⟩ = w.cell? ⟨b,o,none⟩:=by simp only [World.cell?,h]
theorem frozen_of_heap {w w' : World} {b : Nat} (h : w'.heap[b]? = w.heap[b]?) (o : Nat) : w'.frozen? ⟨b,o,none⟩ = w.frozen? ⟨b,o,none⟩:=by simp only [World.frozen?,h]
theorem lt_of_cell {w : World} {b o : Nat} {v : Value} (h : w.cell? ⟨b,o,none⟩ = some v) : b < w.heap.size:=by
 unfold World.cell? at h
 cases hb : w.heap[b]? with
 | none=>simp [hb] at h
 | some x=>exact (Qaj.1 hb).1

theorem OR.mono {P : Program} {c c' : Cx} {w w' : World} {h : Home} {o : Obj} (hmu : ∀ b o v,c.mu b o = some v → c'.mu b o = some v) (hio : ∀ j h,c.io j = some h → c'.io j = some h)
  (hb : h.nul = false → w'.heap[h.blk]? = w.heap[h.blk]?) (hn : h.nul = false → ∀ o,c'.mu h.blk o = none) (H : OR P c w h o) : OR P c' w' h o:=by
 cases H with
 | box cs vals hn' hv hc hm =>
   exact .box cs vals hn' ⟨hv.len,fun i x v hx hv'=>(hv.at_ i x v hx hv').mono hmu hio⟩ (fun i v hi=>by rw [cell_of_heap (hb hn'),frozen_of_heap (hb hn')]; exact hc i v hi) (hn hn')
 | row xs val hs hv hl h0 hsp hm =>
   refine .row xs val hs (fun i x j y hx hy=>?_) hl h0 (fun hf k hk=>?_) hn
   ·have hf : h.nul = false:=by
     cases hnn : h.nul with
     | false=>rfl
     | true=>have:=h0 hnn; have:=(Qe.1 hx).1; omega
    obtain ⟨h1,h2,h3⟩:=hv i x j y hx hy
    exact ⟨by rw [cell_of_heap (hb hf)]; exact h1,h2,h3.mono hmu hio⟩
   ·rw [cell_of_heap (hb hf),frozen_of_heap (hb hf)]; exact hsp hf k hk
 | map es es0 en clock hn' hw hl hv hm hp hd =>
   exact .map es es0 en clock hn' ((hb hn').trans hw) hl (fun i e m he hm'=>by obtain ⟨a,b,c1,d⟩:=hv i e m he hm'; exact ⟨a.mono hmu hio,b.mono hmu hio,c1,d⟩) (hn hn') hp hd
 | loop T ps asg body st pend L N hn' hw hT hN hp hps ha hb' hst hpe hm =>
   exact .loop T ps asg body st pend L N hn' ((hb hn').trans hw) (hT.mono hmu hio) hN hp hps ha hb' hst hpe (hn hn')

theorem OR.sub {P : Program} {c c' : Cx} {w : World} {id : Nat} {r : Rep} (g : Goes_ c c' id r) {h : Home} {o : Obj} (hn : h.nul = false → ∀ o,c'.mu h.blk o = none) (H : OR P c w h o) : OR P c' w h (Obj.sub r id o):=by
 cases H with
 | box cs vals hn' hv hc hm =>
   exact .box _ vals hn' ⟨by rw [subs_length,hv.len],fun i x v hx hv'=>by
    rw [subs_get] at hx
    obtain ⟨y,hy,rfl⟩:=Qc.1 hx
    exact (hv.at_ i y v hy hv').sub g⟩ hc (hn hn')
 | row xs val hs hv hl h0 hsp hm =>
   exact .row xs val hs (fun i x j y hx hy=>by
    obtain ⟨h1,h2,h3⟩:=hv i x j y hx hy
    exact ⟨h1,h2,h3.closed g.mu (closeds_at (hs i x hx).2 hy)⟩) hl h0 hsp hn
 | map es es0 en clock hn' hw hl hv hm hp hd =>
   exact .map es es0 en clock hn' hw hl (fun i e m he hm'=>by obtain ⟨a,b,c1,d⟩:=hv i e m he hm'; exact ⟨a.closed g.mu c1,b.closed g.mu d,c1,d⟩) (hn hn') hp hd
 | loop T ps asg body st pend L N hn' hw hT hN hp hps ha hb' hst hpe hm =>
   exact .loop _ ps asg body st pend L N hn' hw (hT.sub g) hN hp hps ha hb' hst hpe (hn hn')

theorem oget_odel (id j : Nat) : ∀ O : Heap,oget (odel O id) j = if j = id then none else oget O j
 | []=>by simp [odel,oget]
 | (k,v)::l=>by
   simp only [odel]
   split
   ·rename_i e; subst e
    rw [oget_odel k j l]
    split
    ·rfl
    ·rename_i hne; simp [oget,Ne.symm hne]
   ·rename_i e
    simp only [oget]
    rw [oget_odel id j l]
    by_cases h1 : k = j
    ·subst h1; simp [e]
    ·simp [h1]
theorem oget_hsub (r : Rep) (id j : Nat) : ∀ O : Heap,oget (Heap.sub r id O) j = (oget O j).map (Obj.sub r id)
 | []=>by simp [Heap.sub,oget]
 | (k,v)::l=>by
   simp only [Heap.sub,oget]
   split
   ·rfl
   ·exact oget_hsub r id j l
theorem oget_oset (id j : Nat) (o : Obj) : ∀ O : Heap,oget (oset O id o) j = if j = id then (oget O id).map (fun _=>o) else oget O j
 | []=>by simp [oset,oget]
 | (k,v)::l=>by
   simp only [oset]
   by_cases h1 : k = id
   ·subst h1
    simp only [if_true,oget]
    by_cases h2 : j = k
    ·subst h2; simp
    ·simp [h2,Ne.symm h2]
   ·rw [if_neg h1]
    simp only [oget]
    rw [oget_oset id j o l]
    by_cases h2 : j = id
    ·subst h2; simp [h1]
    ·simp [h2]
theorem essub_get (r : Rep) (id : Nat) : ∀ (F : List Env) (i : Nat),(Envs.sub r id F)[i]? = (F[i]?).map (Env.sub r id)
 | [],i=>by simp [Envs.sub]
 | v::l,0=>by simp [Envs.sub]
 | v::l,i + 1=>by simp [Envs.sub,essub_get r id l i]
theorem essub_length (r : Rep) (id : Nat) : ∀ (F : List Env),(Envs.sub r id F).length = F.length
 | []=>rfl
 | v::l=>by simp [Envs.sub,essub_length r id l]

theorem SR.free {P : Program} {c : Cx} {s : St} {tmps : Array Value} {Ts : List (Array Value)} {w : World} (H : SR P c s tmps Ts w) (id : Nat) :
  ∃ c',SR P c' (St.free id s) tmps Ts w∧Tr c w c' w∧c'.io id = none∧(∀ j,j ≠ id → c'.io j = c.io j)∧(∀ h,c.io id = some h → h.nul = false → ∀ x,c'.mu h.blk x = w.cell? ⟨h.blk,x,none⟩):=by
 unfold St.free
 cases ho : oget s.O id with
 | none =>
   have hnone : c.io id = none:=by
    cases hi : c.io id with
    | none=>rfl
    | some h=>obtain ⟨o,e⟩:=H.dom id h hi; rw [ho] at e; cases e
   exact ⟨c,H,Tr.refl _ _,hnone,fun _ _=>rfl,fun h hi=>by rw [hnone] at hi; cases hi⟩
 | some o =>
   obtain ⟨h,hi,hor⟩:=H.O id o ho
   let c' : Cx:=⟨fun b o=>if h.nul = false∧b = h.blk then w.cell? ⟨b,o,none⟩ else c.mu b o,fun j=>if j = id then none else c.io j⟩
   have hmnone : h.nul = false → ∀ o,c.mu h.blk o = none:=fun hn=>by
    cases hor with
    | box _ _ _ _ _ hm=>exact hm
    | row _ _ _ _ _ _ _ hm=>exact hm hn
    | map _ _ _ _ _ _ _ _ hm=>exact hm
    | loop _ _ _ _ _ _ _ _ _ _ _ _ _ _ _ _ _ _ hm=>exact hm
   have hmu : ∀ b o v,c.mu b o = some v → c'.mu b o = some v:=fun b o v hv=>by
    by_cases e : h.nul = false∧b = h.blk
    ·obtain ⟨e1,e2⟩:=e; subst e2; rw [hmnone e1] at hv; cases hv
    ·simp only [c',if_neg e]; exact hv
   have hio : ∀ j hh,j ≠ id → c.io j = some hh → c'.io j = some hh:=fun j hh hj hh'=>by simp only [c',if_neg hj]; exact hh'
   have g : Goes_ c c' id (repOf o):=⟨hmu,hio,fun xs hx h2 hi2 hn2=>by
    rw [hi] at hi2; cases hi2
    cases hor with
    | row ys val hs hv hl h0 hsp hm =>
      simp only [repOf] at hx; cases hx
      refine ⟨val,hs,fun i x j y hx hy=>?_⟩
      obtain ⟨h1,h2,h3⟩:=hv i x j y hx hy
      refine ⟨?_,h2,h3.closed hmu (closeds_at (hs i x hx).2 hy)⟩
      simp only [c',hn2,true_and,if_true]; exact h1
    | box=>simp [repOf] at hx
    | map=>simp [repOf] at hx
    | loop=>simp [repOf] at hx⟩
   have hne : ∀ j hh,j ≠ id → c.io j = some hh → hh.nul = false → ∀ o,c.mu hh.blk o = none → c'.mu hh.blk o = none:=fun j hh hj hh' hn o hm=>by
    simp only [c']
    rw [if_neg]
    ·exact hm
    ·rintro ⟨e1,e2⟩
     exact H.inj j id hh h hj hh' hi hn e1 e2
   refine ⟨c',?_,?_,by simp [c'],fun j hj=>by simp [c',hj],fun h2 hi2 hn2 x=>by rw [hi] at hi2; cases hi2; simp [c',hn2]⟩
   ·refine ⟨H.T.sub g,by simp only [freeO,St.sub,essub_length]; exact H.Fl,fun i F t hF ht=>?_,fun j oo hj=>?_,fun j hh hj=>?_,fun i j h1 h2 hij hi1 hi2=>?_,fun b o v hv=>?_,fun j hh hj hn=>?_⟩
    ·simp only [freeO,St.sub,essub_get] at hF
     obtain ⟨F0,hF0,rfl⟩:=Qc.1 hF
     exact (H.F i F0 t hF0 ht).sub g
    ·simp only [freeO,St.sub,oget_hsub,oget_odel] at hj
     obtain ⟨o0,ho0,rfl⟩:=Qc.1 hj
     split at ho0
     ·cases ho0
     ·rename_i hjne
      obtain ⟨hh,hhi,hhor⟩:=H.O j o0 ho0
      refine ⟨hh,hio j hh hjne hhi,hhor.sub g fun hn o=>hne j hh hjne hhi hn o ?_⟩
      cases hhor with
      | box _ _ _ _ _ hm=>exact hm o
      | row _ _ _ _ _ _ _ hm=>exact hm hn o
      | map _ _ _ _ _ _ _ _ hm=>exact hm o
      | loop _ _ _ _ _ _ _ _ _ _ _ _ _ _ _ _ _ _ hm=>exact hm o
    ·by_cases hjne : j = id
     ·subst hjne; simp [c'] at hj
     ·simp only [c',if_neg hjne] at hj
      obtain ⟨o0,ho0⟩:=H.dom j hh hj
      exact ⟨Obj.sub (repOf o) id o0,by simp only [freeO,St.sub,oget_hsub,oget_odel,if_neg hjne,ho0,Qay]⟩
    ·by_cases h1e : i = id
     ·subst h1e; simp [c'] at hi1
     ·by_cases h2e : j = id
      ·subst h2e; simp [c'] at hi2
      ·simp only [c',if_neg h1e] at hi1
       simp only [c',if_neg h2e] at hi2
       exact H.inj i j h1 h2 hij hi1 hi2
    ·by_cases e : h.nul = false∧b = h.blk
     ·simp only [c',if_pos e] at hv; exact hv
     ·simp only [c',if_neg e] at hv; exact H.mu b o v hv
    ·by_cases hjne : j = id
     ·subst hjne; simp [c'] at hj
     ·simp only [c',if_neg hjne] at hj
      exact H.lt j hh hj hn
   ·exact ⟨Q8 _,fun _ _ _=>rfl,hmu,fun j hh hj hn=>by
     by_cases hjne : j = id
     ·subst hjne; simp [c'] at hj
     ·simp only [c',if_neg hjne] at hj
      exact .inl ⟨j,hh,hj,hn,rfl⟩,fun _=>rfl,⟨rfl,rfl⟩,fun b o v hv=>by
     by_cases e : h.nul = false∧b = h.blk
     ·exact .inr (.inl ⟨id,h,hi,e.1,e.2.symm⟩)
     ·simp only [c',if_neg e] at hv; exact .inl hv,fun _ r h=>⟨r,h⟩⟩

theorem SR.frees {P : Program} {tmps : Array Value} {Ts : List (Array Value)} {w : World} : ∀ (ids : List Nat) {c : Cx} {s : St},SR P c s tmps Ts w →
  ∃ c',SR P c' (St.frees ids s) tmps Ts w∧Tr c w c' w∧(∀ j hh,c'.io j = some hh → c.io j = some hh)∧(∀ j,j ∉ ids → c'.io j = c.io j) ∧
    (∀ id ∈ ids,∀ h,c.io id = some h → h.nul = false → ∀ x v,w.cell? ⟨h.blk,x,none⟩ = some v → c'.mu h.blk x = some v)
 | [],c,s,H=>⟨c,H,Tr.refl _ _,fun _ _ h=>h,fun _ _=>rfl,by simp⟩
 | i :: l,c,s,H=>by
   obtain ⟨c1,H1,t1,hn1,hio1,hcov1⟩:=H.free i
   obtain ⟨c2,H2,t2,hio2,hio2',hcov2⟩:=SR.frees l H1
   refine ⟨c2,H2,t1.trans t2,fun j hh hj=>?_,fun j hj=>?_,fun id hid h hi hn x v hv=>?_⟩
   ·have:=hio2 j hh hj
    by_cases e : j = i
    ·subst e; rw [hn1] at this; cases this
    ·rwa [hio1 j e] at this
   ·simp only [Q7,not_or] at hj
    rw [hio2' j hj.2,hio1 j hj.1]
   ·by_cases e : id = i
    ·subst e; exact t2.mu _ _ _ (by rw [hcov1 h hi hn x]; exact hv)
    ·cases hid with
     | head=>exact absurd rfl e
     | tail _ hid=>exact hcov2 id hid h (by rw [hio1 id e]; exact hi) hn x v hv
end Go.Zv

/- The engine, part 6: operands; the operations that touch no memory. -/
namespace Go.Zv
section
variable {P : Program} {c : Cx} {w : World}

def Says (P : Program) (c : Cx) (w : World) (m : Sem Value) (x : LV) : Prop:=∃ v,m.run P w = .ok v w∧VR c x v
def HR (P : Program) (c : Cx) (w : World) (O : Heap) : Prop:=∀ id o,oget O id = some o → ∃ h,c.io id = some h∧OR P c w h o
def MR (c : Cx) (w : World) : Prop:=∀ b o v,c.mu b o = some v → w.cell? ⟨b,o,none⟩ = some v

theorem VR.of_int {k : IntKind} {n : Int} {v : Value} (h : VR c (.int k n) v) : v = .int k n:=by cases h; rfl
theorem VR.of_bool {b : Bool} {v : Value} (h : VR c (.bool b) v) : v = .bool b:=by cases h; rfl
theorem VR.of_str {l : List UInt8} {v : Value} (h : VR c (.str l) v) : v = .string ⟨l.toArray⟩:=by cases h; rfl

theorem bytes_toList (l : List UInt8) : (⟨l.toArray⟩ : ByteArray).toList = l:=by
 rw [ByteArray.toList_eq]

/-! operands -/
theorem cellLV_ok {v : Value} {x : LV} (h : cellLV v = some x) : VR c x v:=by
 unfold cellLV at h
 split at h <;> simp only [Option.some.injEq,reduceCtorEq] at h <;> subst h
 ·exact .bool _
 ·exact .int _ _
 ·rename_i s
  have : s = ⟨s.data.toList.toArray⟩:=by simp
  conv=>rhs; rw [this]
  exact .str _
 ·exact .nilp
 ·exact .nils _ _
 ·exact .nilm
 ·exact .nilf
theorem mapM_cell : ∀ {l : List Value} {m : List LV},l.mapM cellLV = some m → VRs c m l
 | [],m,h=>by simp only [Qdl,pure,Option.some.injEq] at h; subst h; exact VRs.nil c
 | v::l,m,h=>by
   simp only [Qbq,bind,pure,Qa,Option.some.injEq] at h
   obtain ⟨x,hx,m',hm,rfl⟩:=h
   exact VRs.cons (cellLV_ok hx) (mapM_cell hm)
theorem constLV_ok {v : Value} {x : LV} (h : constLV v = some x) : VR c x v:=by
 unfold constLV at h
 split at h
 ·rename_i cs
  obtain ⟨m,hm,rfl⟩:=Qc.1 h
  have:=mapM_cell (c:=c) hm
  have e : cs = cs.toList.toArray:=by simp
  conv=>rhs; rw [e]
  exact .agg _ _ this.len this.at_
 ·exact cellLV_ok h
theorem withSt_ok : ∀ {l : List LV} {s : List Nat} {vs : List Value},VRs c l vs → VRs c (withSt l s) vs
 | [],s,vs,h=>by cases s <;> simpa [withSt] using h
 | v::l,[],vs,h=>by cases v <;> simpa [withSt] using h
 | v::l,k::s,[],h=>by have:=h.len; simp at this
 | v::l,k::s,u::vs,h=>by
   have h2:=withSt_ok (s:=s) h.tail
   have h1:=h.head
   cases v with
   | nils st=>cases h1; exact VRs.cons (.nils _ _) h2
   | _=>exact VRs.cons h1 h2
theorem typed_ok {t : TypeId} {x : LV} {v : Value} (h : VR c x v) : VR c (typed P t x) v:=by
 unfold typed
 split
 ·obtain ⟨vs,rfl,hv⟩:=VRs.of_agg h
  have:=withSt_ok (s:=strides P 20 t) hv
  exact .agg _ _ this.len this.at_
 ·cases h; exact .nils _ _
 ·exact h
variable {T : Env} {a : Act}
theorem opd_ok (hT : TR c T a.tmps) {x : Operand} {y : Opd} (h : toOpd x = some y) : VR c (y.ev T) (a.eval x):=by
 cases x with
 | tmp t=>simp only [toOpd,Option.some.injEq] at h; subst h; exact hT t
 | const v =>
   simp only [toOpd] at h
   obtain ⟨z,hz,rfl⟩:=Qc.1 h
   exact constLV_ok hz
 | global g=>simp [toOpd] at h
 | func f =>
   simp only [toOpd,Option.some.injEq] at h; subst h
   exact .fn (.func f) [] [] [] [] rfl rfl (by simp) (by simp)
theorem opdT_ok (hT : TR c T a.tmps) {t : TypeId} {x : Operand} {y : Opd} (h : toOpdT P t x = some y) : VR c (y.ev T) (a.eval x):=by
 unfold toOpdT at h
 split at h
 ·obtain ⟨z,hz,rfl⟩:=Qc.1 h
  exact typed_ok (constLV_ok hz)
 ·exact opd_ok hT h
theorem cellLV_nils {v : Value} {st : Nat} (h : cellLV v = some (.nils st)) : v = .slice none 0 0:=by
 unfold cellLV at h
 split at h <;> simp at h
 rfl
theorem constLV_nils {v : Value} {st : Nat} (h : constLV v = some (.nils st)) : v = .slice none 0 0:=by
 unfold constLV at h
 split at h
 ·obtain ⟨m,hm,e⟩:=Qc.1 h
  cases e
 ·exact cellLV_nils h
theorem argNul_ok (hT : TR c T a.tmps) {t : TypeId} {x : Operand} {y : Opd} (h : toOpdT P t x = some y) : VR c ((argNul y).ev T) (a.eval x):=by
 have h0:=opdT_ok hT h
 unfold argNul
 split
 ·rename_i st
  unfold toOpdT at h
  split at h
  ·rename_i v
   obtain ⟨z,hz,e⟩:=Qc.1 h
   simp only [Opd.c.injEq] at e
   have hz2 : ∃ s,z = .nils s:=by
    unfold typed at e
    split at e
    ·cases e
    ·exact ⟨_,rfl⟩
    ·exact ⟨_,e⟩
   obtain ⟨s,rfl⟩:=hz2
   have:=constLV_nils hz
   subst this
   exact .nul
  ·rename_i hx
   cases x with
   | const v=>exact absurd rfl (hx v)
   | tmp t=>simp [toOpd] at h
   | func f=>simp [toOpd] at h
   | global g=>simp [toOpd] at h
 ·exact h0
theorem opds_ok (hT : TR c T a.tmps) : ∀ {l : List Operand} {m : List Opd},l.mapM toOpd = some m → VRs c (evs T m) (l.map a.eval)
 | [],m,h=>by simp only [Qdl,pure,Option.some.injEq] at h; subst h; exact VRs.nil c
 | v::l,m,h=>by
   simp only [Qbq,bind,pure,Qa,Option.some.injEq] at h
   obtain ⟨x,hx,m',hm,rfl⟩:=h
   exact VRs.cons (opd_ok hT hx) (opds_ok hT hm)
theorem opdTs_ok (hT : TR c T a.tmps) {ts : Array TypeId} : ∀ {l : List Operand} {k : Nat} {m : List Opd},(l.zipIdx k).mapM (fun p=>(toOpdT P (ts.getD p.2 0) p.1).map argNul) = some m → VRs c (evs T m) (l.map a.eval)
 | [],k,m,h=>by simp only [List.zipIdx_nil,Qdl,pure,Option.some.injEq] at h; subst h; exact VRs.nil c
 | v::l,k,m,h=>by
   simp only [List.zipIdx_cons,Qbq,bind,pure,Qa,Option.some.injEq] at h
   obtain ⟨x,hx,m',hm,rfl⟩:=h
   obtain ⟨y,hy,rfl⟩:=Qc.1 hx
   exact VRs.cons (argNul_ok hT hy) (opdTs_ok hT hm)
theorem args_ok (hT : TR c T a.tmps) {ts : Array TypeId} {l : Array Operand} {m : List Opd} (h : toArgs P ts l = some m) : VRs c (evs T m) (l.map a.eval).toList:=by
 rw [Array.toList_map]
 exact opdTs_ok hT h
theorem toOpds_ok (hT : TR c T a.tmps) {l : Array Operand} {m : List Opd} (h : toOpds l = some m) : VRs c (evs T m) (l.map a.eval).toList:=by
 rw [Array.toList_map]
 exact opds_ok hT h

/-! the zero of a type -/
theorem zeroLV_ok {t : TypeId} {x : LV} (h : zeroLV P t = some x) : ∃ i z,P.info? t = some i∧i.zero = some z∧VR c x z:=by
 unfold zeroLV at h
 split at h
 ·rename_i i hi
  split at h
  ·rename_i z hz
   obtain ⟨y,hy,rfl⟩:=Qc.1 h
   exact ⟨i,z,hi,hz,typed_ok (constLV_ok hy)⟩
  ·cases h
 ·cases h
theorem run_zero {t : TypeId} {i : TypeInfo} {z : Value} (hi : P.info? t = some i) (hz : i.zero = some z) : (zeroValue t).run P w = .ok z w:=by
 simp [zeroValue,typeInfo,hi,hz]
theorem run_size {t : TypeId} {n : Nat} (h : tsize P t = some n) : (sizeOf t).run P w = .ok n w:=by
 unfold tsize at h
 obtain ⟨i,hi,rfl⟩:=Qc.1 h
 simp [sizeOf,typeInfo,hi]
theorem run_isAgg {t : TypeId} {b : Bool} (h : isAggT P t = some b) : (isAgg t).run P w = .ok b w:=by
 unfold isAggT at h
 split at h
 ·rename_i hu; simp only [Option.some.injEq] at h; subst h; simp [isAgg,run_underlying hu]
 ·rename_i hu; simp only [Option.some.injEq] at h; subst h; simp [isAgg,run_underlying hu]
 ·rename_i d hd1 hd2 hu
  simp only [Option.some.injEq] at h; subst h
  simp only [isAgg,Sem.run_bind,run_underlying hu,Result.andThen_ok]
  cases d <;> first | rfl | (exact absurd hu (hd1 _)) | (exact absurd hu (hd2 _ _))
 ·cases h

/-! cells -/
theorem cells_VRs {x : LV} {v : Value} (h : VR c x v) (h1 : x.cells.all LV.one = true) : VRs c x.cells v.cells.toList ∧ ∀ u ∈ v.cells.toList,u.oneCell' = true:=by
 have aux : ∀ {cs : List LV} {vs : List Value},VRs c cs vs → cs.all LV.one = true → ∀ u ∈ vs,u.oneCell' = true:=by
  intro cs vs hv ha u hu
  obtain ⟨i,hi⟩:=Qat.1 hu
  have hlt : i < vs.length:=(Qe.1 hi).1
  have hx : cs[i]? = some (cs[i]'(hv.len ▸ hlt)):=Qf _
  exact (hv.at_ i _ u hx hi).one (Qj.1 ha _ (Qd hx))
 cases x with
 | agg cs =>
   obtain ⟨vs,rfl,hv⟩:=VRs.of_agg h
   exact ⟨by simpa [LV.cells,Value.cells] using hv,by simpa [Value.cells] using aux hv h1⟩
 | _ =>
   have ho : v.oneCell' = true:=h.one (by simpa [LV.cells] using h1)
   have hc : v.cells = #[v]:=by cases v <;> first | rfl | (simp [Value.oneCell'] at ho)
   rw [hc]
   exact ⟨VRs.cons h (VRs.nil c),by simp [ho]⟩

theorem part_says {t : TypeId} {ag : Bool} {off n : Nat} {cs : List LV} {vs : List Value} {x : LV} (ha : isAggT P t = some ag) (hn : tsize P t = some n) (hv : VRs c cs vs) (h : part ag off n cs = some x) :
  Says P c w (Go.part t vs.toArray off) x:=by
 unfold part at h
 unfold Go.part
 split at h
 ·rename_i e; subst e
  split at h
  ·rename_i hle
   simp only [Option.some.injEq] at h; subst h
   have:=(hv.drop off).take n
   exact ⟨_,by simp [run_isAgg ha,run_size hn],.agg _ _ this.len this.at_⟩
  ·cases h
 ·rename_i e
  have e : ag = false:=by simpa using e
  subst e
  obtain ⟨v,hv1,hv2⟩:=hv.getSome h
  exact ⟨v,by simp [run_isAgg ha,hv1],hv2⟩

/-! the operations -/
theorem eqGuard_plain (op : BinOp) (t : TypeId) (x y : Operand) {a b : Value} (h : ¬ (a = .nilIface∧b = .nilIface)) (h2 : ∀ cs ds,¬ (a = .agg cs∧b = .agg ds)) : eqGuard op t x y a b = pure ():=by
 unfold eqGuard
 cases op <;> (try rfl) <;> (cases a <;> cases b <;> first | rfl | (exact absurd ⟨rfl,rfl⟩ h) | (exact absurd ⟨rfl,rfl⟩ (h2 _ _)))

theorem bin_says {op : BinOp} {t : TypeId} {ox oy : Operand} {x y : LV} {a b : Value} (ha : VR c x a) (hb : VR c y b) {v : LV} (h : bin op x y = some v) : Says P c w (do eqGuard op t ox oy a b; binOp op t a b) v:=by
 unfold bin at h
 split at h
 ·cases ha; cases hb
  rename_i k n k' m
  rw [eqGuard_plain _ _ _ _ (by simp) (by simp)]
  split at h
  ·rename_i hs
   unfold shf at h
   split at h
   ·cases h
   ·rename_i hy
    cases op <;> simp only [isShf,Qh] at hs <;> simp only [Option.some.injEq] at h <;> subst h <;> exact ⟨_,by simp only [binOp,Op.shift,hy,if_false]; rfl,.int _ _⟩
  ·rename_i hs
   split at h
   ·rename_i hk
    subst hk
    unfold binI at h
    cases op <;> (try (simp [isShf] at hs; done)) <;> simp only [Option.some.injEq,Option.ite_none_left_eq_some] at h
    case quo=>obtain ⟨hy,h⟩:=h; subst h; exact ⟨_,by simp only [binOp,ne_eq,not_true_eq_false,if_false,Op.intDiv,hy]; rfl,.int _ _⟩
    case rem=>obtain ⟨hy,h⟩:=h; subst h; exact ⟨_,by simp only [binOp,ne_eq,not_true_eq_false,if_false,Op.intDiv,hy]; rfl,.int _ _⟩
    all_goals subst h; first | exact ⟨_,by simp only [binOp,ne_eq,not_true_eq_false,if_false]; rfl,.int _ _⟩ | exact ⟨_,by simp only [binOp,ne_eq,not_true_eq_false,if_false]; rfl,.bool _⟩
   ·cases h
 ·cases ha; cases hb
  rename_i a b
  rw [eqGuard_plain _ _ _ _ (by simp) (by simp)]
  unfold binT at h
  split at h
  ·simp only [Option.some.injEq] at h; subst h
   exact ⟨.bool (a == b),by simp [binOp,Op.stringOp],.bool _⟩
  ·simp only [Option.some.injEq] at h; subst h
   exact ⟨.bool (a != b),by simp [binOp,Op.stringOp,bne],.bool _⟩
  ·split at h
   ·rename_i hl
    simp only [Option.some.injEq] at h; subst h
    refine ⟨_,?_,.str _⟩
    rw [← ByteArray.mk_append_mk]
    show (Op.stringOp .add _ _).run P w = _
    refine run_string_add_sum _ _ _ ?_
    simp only [ByteArray.size_mk',Qcl]; omega
   ·cases h
  ·cases h
 ·cases h

theorem equal_bool {t : TypeId} (ht : P.underlying t = some .bool) (a b : Bool) : (Op.equal t (.bool a) (.bool b)).run P w = .ok (a == b) w:=by
 unfold Op.equal Op.maxDepth Op.equalIn
 simp only [Sem.run_bind,run_underlying ht,Result.andThen_ok,Sem.run_pure]
theorem bib_says {op : BinOp} (hop : op = .eql ∨ op = .neq) {t : TypeId} {ox oy : Operand} {x y : LV} {a b : Value} (ht : P.underlying t = some .bool) (ha : VR c x a) (hb : VR c y b) {v : LV} (h : bibV (decide (op = .neq)) x y = some v) :
  Says P c w (do eqGuard op t ox oy a b; binOp op t a b) v:=by
 unfold bibV at h
 split at h
 ·cases ha; cases hb
  rename_i a b
  rw [eqGuard_plain _ _ _ _ (by simp) (by simp)]
  simp only [Option.some.injEq] at h; subst h
  rcases hop with rfl | rfl
  ·refine ⟨.bool ((a == b) != decide (BinOp.eql = BinOp.neq)),?_,.bool _⟩
   simp only [binOp,Sem.run_bind,Sem.run_pure,Result.andThen_ok,equal_bool ht]
   simp
  ·refine ⟨.bool ((a == b) != decide (BinOp.neq = BinOp.neq)),?_,.bool _⟩
   simp only [binOp,Sem.run_bind,Sem.run_pure,Result.andThen_ok,equal_bool ht]
   simp
 ·cases h

theorem un_says {op : UnOp} {x : LV} {a : Value} (ha : VR c x a) {v : LV} (h : unV op x = some v) : Says P c w (Op.unary op a) v:=by
 unfold unV at h
 split at h
 ·cases ha; simp only [Option.some.injEq] at h; subst h; exact ⟨_,rfl,.int _ _⟩
 ·cases ha; simp only [Option.some.injEq] at h; subst h; exact ⟨_,rfl,.bool _⟩
 ·cases h

theorem ext_says {i : Nat} {x : LV} {a : Value} (ha : VR c x a) {v : LV} (h : extV i x = some v) : Says P c w (Instr.extract a i) v:=by
 unfold extV at h
 split at h
 ·obtain ⟨vs,rfl,hv⟩:=VRs.of_tup ha
  obtain ⟨u,hu,hr⟩:=hv.getSome h
  exact ⟨u,by simp [Instr.extract,hu],hr⟩
 ·cases h

theorem nilc_says {x : LV} {a : Value} (ha : VR c x a) {v : LV} (h : nilcV x = some v) : v = x∧((∃ q,a = .pointer (some q)) ∨ ∃ f us vs,a = .func (.func f) us vs):=by
 unfold nilcV at h
 split at h <;> simp only [Option.some.injEq,reduceCtorEq] at h <;> subst h <;> cases ha
 ·exact ⟨rfl,.inl ⟨_,rfl⟩⟩
 ·exact ⟨rfl,.inl ⟨_,rfl⟩⟩
 ·exact ⟨rfl,.inl ⟨_,rfl⟩⟩
 ·exact ⟨rfl,.inr ⟨_,_,_,rfl⟩⟩

theorem fad_says {s : TypeId} {i off : Nat} {fs : Array Field} {f : Field} {x : LV} {a : Value} (hs : P.underlying s = some (.struct fs)) (hf : fs[i]? = some f) {n : Nat} (hz : tsize P f.type = some n) (hn : n ≠ 0) (ho : off = f.offset)
  (ha : VR c x a) {v : LV} (h : fadV off x = some v) : Says P c w (Instr.fieldAt s a i) v:=by
 subst ho
 have key : ∀ q : Addr,q.spot = none → a = .pointer (some q) → (Instr.fieldAt s a i).run P w = .ok (.pointer (some ⟨q.block,q.off + f.offset,none⟩)) w:=by
  intro q hq e; subst e
  have : q.add f.offset = ⟨q.block,q.off + f.offset,none⟩:=by
   obtain ⟨b,o,sp⟩:=q; simp only at hq; subst hq
   unfold Addr.add; split <;> simp_all
  simp [Instr.fieldAt,run_underlying hs,hf,Instr.sureAddr,fieldPlace,run_size hz,hn,this]
 unfold fadV at h
 split at h <;> simp only [Option.some.injEq,reduceCtorEq] at h <;> subst h
 ·cases ha with | ptr id o hh hi=>exact ⟨_,key _ rfl rfl,.ptr _ _ hh hi⟩
 ·cases ha with | ep _ _ _ hh hi hn=>exact ⟨_,key _ rfl rfl,by simpa [Qaz] using VR.ep _ _ _ hh hi hn⟩
 ·cases ha with
  | fp cs b o val hcl hm h1 hv =>
    refine ⟨_,key _ rfl rfl,.fp _ b (o + f.offset) (fun j=>val (f.offset + j)) ?_ ?_ ?_ ?_⟩
    ·exact closeds_of fun j y hy=>closeds_at hcl (i:=f.offset + j) (by simpa using hy)
    ·intro j y hy; have:=hm (f.offset + j) y (by simpa using hy); rwa [← Qaz] at this
    ·intro j y hy; exact h1 _ y (by simpa using hy)
    ·intro j y hy; exact hv _ y (by simpa using hy)

theorem fld_says {t : TypeId} {i off n : Nat} {ag : Bool} {fs : Array Field} {f : Field} {x : LV} {a : Value} (hs : P.underlying t = some (.struct fs)) (hf : fs[i]? = some f) (hag : isAggT P f.type = some ag) (hz : tsize P f.type = some n) (ho : off = f.offset)
  (ha : VR c x a) {v : LV} (h : fldV ag off n x = some v) : Says P c w (Instr.field t a i) v:=by
 subst ho
 unfold fldV at h
 split at h
 ·obtain ⟨vs,rfl,hv⟩:=VRs.of_agg ha
  obtain ⟨u,hu,hr⟩:=part_says (w:=w) hag hz hv h
  exact ⟨u,by simp [Instr.field,run_underlying hs,hf,asAgg,hu],hr⟩
 ·cases h

theorem pick_says {x y z : LV} {a b d : Value} (ha : VR c x a) (hb : VR c y b) (hd : VR c z d) {v : LV} (h : pickV x y z = some v) :
  ∃ t,d = .bool t∧VR c v (if t = true then a else b):=by
 unfold pickV at h
 split at h
 ·cases hd; simp only [Option.some.injEq] at h; subst h
  rename_i t
  exact ⟨t,rfl,by split <;> assumption⟩
 ·cases h
end
end Go.Zv

/- The engine, part 7: the operations that read memory. -/
namespace Go.Zv
section
variable {P : Program} {c : Cx} {w : World} {O : Heap}

theorem load_says {t : TypeId} {ag : Bool} {off n : Nat} {cs : List LV} {vs : List Value} {x : LV} (ha : isAggT P t = some ag) (hn : tsize P t = some n) (hv : VRs c cs vs) (h : part ag off n cs = some x)
  {b o : Nat} (hm : ∀ i v,vs[i]? = some v → w.cell? ⟨b,o + i,none⟩ = some v) : Says P c w (loadVar t ⟨b,o + off,none⟩) x:=by
 unfold part at h
 unfold loadVar
 split at h
 ·rename_i e; subst e
  split at h
  ·rename_i hle
   simp only [Option.some.injEq] at h; subst h
   have h2:=(hv.drop off).take n
   have hlen : ((vs.drop off).take n).length = n:=by rw [← h2.len]; simp; omega
   have hl:=run_loadCells_list (P:=P) w ⟨b,o + off,none⟩ ((vs.drop off).take n) (fun j v hj=>by
    have hj2 : vs[off + j]? = some v:=by
     rw [Qak] at hj
     split at hj
     ·simpa using hj
     ·cases hj
    have:=hm _ _ hj2
    rw [Addr.add_mid,Qaz]; exact this)
   rw [hlen] at hl
   exact ⟨_,by simp [run_isAgg ha,run_size hn,hl],.agg _ _ h2.len h2.at_⟩
  ·cases h
 ·rename_i e
  have e : ag = false:=by simpa using e
  subst e
  obtain ⟨v,hv1,hv2⟩:=hv.getSome h
  exact ⟨v,by simp [run_isAgg ha,hm _ _ hv1],hv2⟩

theorem VRs.ofFun {cs : List LV} {val : Nat → Value} (h : ∀ (j : Nat) (y : LV),cs[j]? = some y → VR c y (val j)) : VRs c cs ((List.range cs.length).map val) :=
 ⟨by simp,fun i x v hx hv=>by
  have hi : i < cs.length:=(Qe.1 hx).1
  simp [hi] at hv
  subst hv; exact h i x hx⟩

theorem OR.row_cells {h : Home} {st : Nat} {xs : List (List LV)} (H : OR P c w h (.row st xs)) {i : Nat} {x : List LV} (hx : xs[i]? = some x) :
  st = h.st∧x.length = st∧LV.closeds x = true∧h.nul = false ∧ ∃ vs,VRs c x vs ∧ ∀ j v,vs[j]? = some v → w.cell? ⟨h.blk,h.off + i * h.st + j,none⟩ = some v:=by
 cases H with
 | row xs val hs hv hl h0 hsp hm =>
   refine ⟨rfl,(hs i x hx).1,(hs i x hx).2,?_,(List.range x.length).map (val i),VRs.ofFun fun j y hy=>(hv i x j y hx hy).2.2,fun j v hj=>?_⟩
   ·cases hn : h.nul with
    | false=>rfl
    | true=>have:=h0 hn; have:=(Qe.1 hx).1; omega
   ·have hlt : j < x.length:=by
     have:=(Qe.1 hj).1; simpa using this
    simp [hlt] at hj
    subst hj
    exact (hv i x j _ hx (Qf hlt)).1

theorem rd_says {t : TypeId} {ag : Bool} {n : Nat} {x v : LV} {a : Value} (ha : isAggT P t = some ag) (hn : tsize P t = some n) (hO : HR P c w O) (hM : MR c w) (hx : VR c x a) (h : rd O ag n x = some v) : Says P c w (Instr.loadAt t a) v:=by
 unfold rd at h
 split at h
 ·cases hx with
  | ptr id off hh hi =>
    unfold boxPart at h
    split at h
    ·rename_i cs ho
     obtain ⟨h2,hi2,hor⟩:=hO _ _ ho
     rw [hi] at hi2; cases hi2
     cases hor with
     | box _ vals hn' hv hc hm =>
       obtain ⟨u,hu,hr⟩:=load_says ha hn hv h (b:=hh.blk) (o:=0) (fun i v hi=>by rw [Qbe]; exact (hc i v hi).1)
       rw [Qbe] at hu
       exact ⟨u,by simpa [Instr.loadAt,Instr.sureAddr] using hu,hr⟩
    ·cases h
 ·cases hx with
  | ep id i off hh hi hnn =>
    unfold rowPart at h
    split at h
    ·rename_i st xs ho
     obtain ⟨h2,hi2,hor⟩:=hO _ _ ho
     rw [hi] at hi2; cases hi2
     unfold optPart at h
     split at h
     ·rename_i y hy
      obtain ⟨_,_,_,_,vs,hvs,hc⟩:=hor.row_cells hy
      obtain ⟨u,hu,hr⟩:=load_says ha hn hvs h hc
      exact ⟨u,by simpa [Instr.loadAt,Instr.sureAddr] using hu,hr⟩
     ·cases h
    ·cases h
 ·rename_i cs
  cases hx with
  | fp _ b o val hcl hm ho hv =>
    obtain ⟨u,hu,hr⟩:=load_says ha hn (VRs.ofFun hv) h (b:=b) (o:=o) (fun j v hj=>by
     have hlt : j < cs.length:=by have:=(Qe.1 hj).1; simpa using this
     simp [hlt] at hj; subst hj
     exact hM _ _ _ (hm j _ (Qf hlt)))
    rw [Qdh] at hu
    exact ⟨u,by simpa [Instr.loadAt,Instr.sureAddr] using hu,hr⟩
 ·cases h

theorem iaa_says {t e : TypeId} {len st : Nat} {x i v : LV} {a b : Value} (ht : P.underlying t = some (.array len e)) (hst : tsize P e = some st) (hx : VR c x a) (hi : VR c i b) (h : iaaV len st x i = some v) : Says P c w (Instr.indexAt t a b) v:=by
 unfold iaaV at h
 split at h
 ·rename_i k n
  cases hi
  split at h
  ·rename_i hb
   have key : ∀ q : Addr,q.spot = none → a = .pointer (some q) → (Instr.indexAt t a (.int k n)).run P w = .ok (.pointer (some ⟨q.block,q.off + n.toNat * st,none⟩)) w:=by
    intro q hq e2; subst e2
    have : q.add (n.toNat * st) = ⟨q.block,q.off + n.toNat * st,none⟩:=by
     obtain ⟨bb,o,sp⟩:=q; simp only at hq; subst hq
     exact Addr.add_mid _ _ _
    simp [Instr.indexAt,asIntOf,run_underlying ht,Instr.sureAddr,hb.1,hb.2,run_size hst,this]
   unfold iaaI at h
   split at h <;> simp only [Option.some.injEq,reduceCtorEq] at h <;> subst h
   ·cases hx with | ptr _ _ hh hi=>exact ⟨_,key _ rfl rfl,.ptr _ _ hh hi⟩
   ·cases hx with | ep _ _ _ hh hi hn=>exact ⟨_,key _ rfl rfl,by simpa [Qaz] using VR.ep _ _ _ hh hi hn⟩
   ·cases hx with
    | fp cs b o val hcl hm h1 hv =>
      refine ⟨_,key _ rfl rfl,.fp _ b (o + n.toNat * st) (fun j=>val (n.toNat * st + j)) ?_ ?_ ?_ ?_⟩
      ·exact closeds_of fun j y hy=>closeds_at hcl (i:=n.toNat * st + j) (by simpa using hy)
      ·intro j y hy; have:=hm (n.toNat * st + j) y (by simpa using hy); rwa [← Qaz] at this
      ·intro j y hy; exact h1 _ y (by simpa using hy)
      ·intro j y hy; exact hv _ y (by simpa using hy)
  ·cases h
 ·cases h

theorem ias_says {t e : TypeId} {st : Nat} {x i v : LV} {a b : Value} (ht : P.underlying t = some (.slice e)) (hst : tsize P e = some st) (hO : HR P c w O) (hx : VR c x a) (hi : VR c i b) (h : iasV O st x i = some v) : Says P c w (Instr.indexAt t a b) v:=by
 unfold iasV at h
 split at h
 ·rename_i k n
  cases hi
  have key : ∀ (q : Addr) (len cap : Nat),q.spot = none → 0≤n → n < len → a = .slice (some q) len cap → (Instr.indexAt t a (.int k n)).run P w = .ok (.pointer (some ⟨q.block,q.off + n.toNat * st,none⟩)) w:=by
   intro q len cap hq h0 h1 e2; subst e2
   have : q.add (n.toNat * st) = ⟨q.block,q.off + n.toNat * st,none⟩:=by
    obtain ⟨bb,o,sp⟩:=q; simp only at hq; subst hq
    exact Addr.add_mid _ _ _
   simp [Instr.indexAt,asIntOf,run_underlying ht,h0,h1,run_size hst,this]
  unfold iasI at h
  split at h
  ·rename_i xs
   split at h
   ·rename_i h0
    obtain ⟨y,hy,h⟩:=Qa.1 h
    unfold eltK at h
    split at h
    ·rename_i hyl
     simp only [Option.some.injEq] at h; subst h
     have hlt:=(Qe.1 hy).1
     cases hx with
     | vs0=>simp at hy
     | vs _ b o s cap val hne hcap hs hm ho hv =>
       have hs' : s = st:=by have:=(hs _ _ hy).1; omega
       subst hs'
       refine ⟨_,key ⟨b,o,none⟩ _ cap rfl h0 (by omega) rfl,.fp _ b (o + n.toNat * s) (fun j=>val n.toNat j) (hs _ _ hy).2 ?_ ?_ ?_⟩
       ·intro j z hz; exact hm _ _ j z hy hz
       ·intro j z hz; exact ho _ _ j z hy hz
       ·intro j z hz; exact hv _ _ j z hy hz
    ·cases h
   ·cases h
  ·rename_i id off len
   unfold iasRow at h
   split at h
   ·rename_i st' xs ho
    split at h
    ·rename_i hb
     simp only [Option.some.injEq] at h; subst h
     cases hx with
     | bs _ _ _ hh a cap hcap hi h0 h1 hoff =>
       obtain ⟨hn,rfl⟩:=h1 (by omega)
       obtain ⟨h2,hi2,hor⟩:=hO _ _ ho
       rw [hi] at hi2; cases hi2
       have hst' : st' = hh.st:=by cases hor; rfl
       have e1 : hh.st = st:=by rw [← hst',hb.2.2]
       refine ⟨_,key _ _ cap rfl hb.1 hb.2.1 rfl,?_⟩
       have:=VR.ep id (off + n.toNat) 0 hh hi hn
       rw [e1] at this ⊢
       simpa [Qac,Qaz] using this
    ·cases h
   ·cases h
  ·rename_i id off st' len
   split at h
   ·rename_i hb
    simp only [Option.some.injEq] at h; subst h
    cases hx with
    | bb _ _ _ _ hh a cap hcap hi h1 =>
      have:=h1 (by omega); subst this
      exact ⟨_,key _ _ cap rfl hb.1 hb.2.1 rfl,.ptr _ _ hh hi⟩
   ·cases h
  ·cases h
 ·cases h

theorem ixa_says {t e : TypeId} {ag : Bool} {len st : Nat} {x i v : LV} {a b : Value} (ht : P.underlying t = some (.array len e)) (hag : isAggT P e = some ag) (hst : tsize P e = some st) (hx : VR c x a) (hi : VR c i b) (h : ixaV ag len st x i = some v) :
  Says P c w (Instr.index t a b) v:=by
 unfold ixaV at h
 split at h
 ·rename_i k n
  cases hi
  split at h
  ·rename_i hb
   unfold fldV at h
   split at h
   ·obtain ⟨vs,rfl,hv⟩:=VRs.of_agg hx
    obtain ⟨u,hu,hr⟩:=part_says (w:=w) hag hst hv h
    exact ⟨u,by simp [Instr.index,asIntOf,run_underlying ht,hb.1,hb.2,run_size hst,hu],hr⟩
   ·cases h
  ·cases h
 ·cases h

theorem ixt_says {t : TypeId} {x i v : LV} {a b : Value} (ht : P.underlying t = some .string) (hx : VR c x a) (hi : VR c i b) (h : ixtV x i = some v) : Says P c w (Instr.index t a b) v:=by
 unfold ixtV at h
 split at h
 ·rename_i k n
  cases hi
  unfold ixtI at h
  split at h
  ·rename_i l
   cases hx
   split at h
   ·rename_i h0
    obtain ⟨y,hy,h⟩:=Qa.1 h
    simp only [u8K,Option.some.injEq] at h; subst h
    have e : (⟨l.toArray⟩ : ByteArray)[n.toNat]? = some y:=by
     have hlt:=(Qe.1 hy).1
     have hlt2 : n.toNat < (⟨l.toArray⟩ : ByteArray).size:=by simpa [ByteArray.size] using hlt
     have h3:=(Qe.1 hy).2
     rw [getElem?_pos (⟨l.toArray⟩ : ByteArray) n.toNat hlt2]
     show some (l.toArray[n.toNat]'_) = some y
     simpa using h3
    exact ⟨_,by simp [Instr.index,asIntOf,run_underlying ht,h0,e],.int _ _⟩
   ·cases h
  ·cases h
 ·cases h

theorem len_says {t : TypeId} {k : Nat} (hk : (k = 0 ∧ ∃ e,P.underlying t = some (.slice e)) ∨ (k = 1∧P.underlying t = some .string) ∨ (k = 2 ∧ ∃ a b,P.underlying t = some (.map a b)))
  {ty : TypeId} {ts : Array TypeId} (hts : ts[0]? = some t) (hO : HR P c w O) {x v : LV} {a : Value} (hx : VR c x a) (h : (lenOf O k x).bind intK = some v) : Says P c w (Builtin.len_ ts ty #[a]) v:=by
 obtain ⟨n,hn,h⟩:=Qa.1 h
 simp only [intK,Option.some.injEq] at h; subst h
 refine ⟨.int .i64 n,?_,.int _ _⟩
 rcases hk with ⟨rfl,e,he⟩ | ⟨rfl,he⟩ | ⟨rfl,e,e2,he⟩
 ·cases x <;> simp only [lenOf,Option.some.injEq,reduceCtorEq] at hn <;> subst hn <;> cases hx <;> simp [Builtin.len_,hts,run_underlying he,goInt]
 ·cases x <;> simp only [lenOf,Option.some.injEq,reduceCtorEq] at hn
  subst hn; cases hx
  simp [Builtin.len_,hts,run_underlying he,goInt,ByteArray.size_mk']
 ·cases x <;> simp only [lenOf,Option.some.injEq,reduceCtorEq] at hn
  ·rename_i id
   unfold lenMp at hn
   split at hn
   ·rename_i es ho
    simp only [Option.some.injEq] at hn; subst hn
    cases hx with
    | mp _ hh hi =>
      obtain ⟨h2,hi2,hor⟩:=hO _ _ ho
      rw [hi] at hi2; cases hi2
      cases hor with
      | map _ es0 en clock hn hw hl0 hv hm hp hd =>
        have hl:=hp.length_eq.symm.trans hl0
        simp [Builtin.len_,hts,run_underlying he,goInt,getObj,Sem.run,hw,hl]
   ·cases hn
  ·subst hn; cases hx
   simp [Builtin.len_,hts,run_underlying he,goInt]

theorem zc_says {st : Nat} {x v : LV} {a : Value} (hx : VR c x a) (h : zcV st x = some v) : v = .nils st ∧ ∃ q l k,a = .slice q l k:=by
 unfold zcV at h
 split at h <;> simp only [Option.some.injEq,reduceCtorEq] at h <;> subst h <;> cases hx <;> exact ⟨rfl,_,_,_,rfl⟩

theorem cap_says {t ty e : TypeId} {ts : Array TypeId} (hts : ts[0]? = some t) (he : P.underlying t = some (.slice e)) {x v : LV} {a : Value} (hx : VR c x a) (h : capV x = some v) : Says P c w (Builtin.cap_ ts ty #[a]) v:=by
 unfold capV at h
 split at h
 ·cases hx; simp only [Option.some.injEq] at h; subst h
  exact ⟨_,by simp [Builtin.cap_,hts,run_underlying he,goInt],.int _ _⟩
 ·cases hx; simp only [Option.some.injEq] at h; subst h
  exact ⟨_,by simp [Builtin.cap_,hts,run_underlying he,goInt],.int _ _⟩
 ·cases h

theorem isn_says {t e : TypeId} {op : BinOp} (hop : op = .eql ∨ op = .neq) (ht : P.underlying t = some (.slice e)) {ox : Operand} {x v : LV} {a : Value} (hx : VR c x a) (h : isnV (decide (op = .neq)) x = some v) :
  Says P c w (do eqGuard op t ox (.const (.slice none 0 0)) a (.slice none 0 0); binOp op t a (.slice none 0 0)) v:=by
 have hs : ∃ q l k,a = .slice q l k∧v = .bool (q.isNone != decide (op = .neq)):=by
  unfold isnV at h
  split at h
  ·cases hx; simp only [Option.some.injEq] at h; subst h; exact ⟨_,_,_,rfl,rfl⟩
  ·cases hx; simp only [Option.some.injEq] at h; subst h; exact ⟨_,_,_,rfl,rfl⟩
  ·split at h
   ·cases h
   ·rename_i hne
    simp only [Option.some.injEq] at h; subst h
    cases hx with
    | vs0=>simp at hne
    | vs=>exact ⟨_,_,_,rfl,rfl⟩
  ·cases h
 obtain ⟨q,l,k,rfl,rfl⟩:=hs
 have eq : (Op.equal t (.slice q l k) (.slice none 0 0)).run P w = .ok q.isNone w:=by
  unfold Op.equal Op.maxDepth Op.equalIn
  cases q <;> simp [run_underlying ht]
 rw [eqGuard_plain _ _ _ _ (by simp) (by simp)]
 rcases hop with rfl | rfl
 ·exact ⟨.bool (q.isNone != decide (BinOp.eql = BinOp.neq)),by simp only [binOp,Sem.run_bind,Sem.run_pure,Result.andThen_ok,eq]; simp,.bool _⟩
 ·exact ⟨.bool (q.isNone != decide (BinOp.neq = BinOp.neq)),by simp only [binOp,Sem.run_bind,Sem.run_pure,Result.andThen_ok,eq]; simp,.bool _⟩
end
end Go.Zv

/- The engine, part 8: slices of slices; the least, the greatest; values put together. -/
namespace Go.Zv
section
variable {P : Program} {c : Cx} {w : World} {O : Heap} {T : Env} {a : Act}

theorem optOpd_ok (hT : TR c T a.tmps) {x : Option Operand} {y : Option Opd} (h : optOpd x = some y) :
  (x = none∧y = none) ∨ ∃ x' y',x = some x'∧y = some y'∧VR c (y'.ev T) (a.eval x'):=by
 cases x with
 | none=>simp only [optOpd,Option.some.injEq] at h; exact .inl ⟨rfl,h.symm⟩
 | some x =>
   simp only [optOpd] at h
   obtain ⟨z,hz,rfl⟩:=Qc.1 h
   exact .inr ⟨x,z,rfl,rfl,opd_ok hT hz⟩
theorem bnd_ok (hT : TR c T a.tmps) {x : Option Operand} {y : Option Opd} (h : optOpd x = some y) {dflt lim l : Nat} (hb : bnd T dflt lim y = some l) :
  (x = none∧l = dflt) ∨ ∃ x' k,x = some x'∧a.eval x' = .int k l∧l≤lim:=by
 rcases optOpd_ok hT h with ⟨rfl,rfl⟩ | ⟨x',y',rfl,rfl,hv⟩
 ·simp only [bnd,Option.some.injEq] at hb; exact .inl ⟨rfl,hb.symm⟩
 ·simp only [bnd] at hb
  unfold bndV at hb
  split at hb
  ·rename_i k n heq
   rw [heq] at hv
   have he2:=hv.of_int
   split at hb
   ·rename_i hle
    simp only [Option.some.injEq] at hb; subst hb
    refine .inr ⟨x',k,rfl,?_,by omega⟩
    have : ((n.toNat : Nat) : Int) = n:=by omega
    rw [this]; exact he2
   ·cases hb
  ·cases hb
theorem cut_ok (hT : TR c T a.tmps) {lo hi : Option Operand} {lo' hi' : Option Opd} (h1 : optOpd lo = some lo') (h2 : optOpd hi = some hi') {n : Nat} {f : Nat → Nat → LV} {v : LV} (h : cut T n lo' hi' f = some v) :
  ∃ l hh,l≤hh∧hh≤n∧v = f hh l ∧ ∀ (s : Bool) (cap : Nat),n≤cap → (Instr.sliceBounds s n cap (lo.map a.eval) (hi.map a.eval) none).run P w = .ok (l,hh,cap) w:=by
 obtain ⟨hh,e1,h⟩:=Qa.1 h
 obtain ⟨l,e2,h⟩:=Qa.1 h
 simp only [cutK2,Option.some.injEq] at h; subst h
 have hle : hh≤n:=by rcases bnd_ok hT h2 e1 with ⟨_,rfl⟩ | ⟨_,_,_,_,hle⟩ <;> omega
 have hl : l≤hh:=by rcases bnd_ok hT h1 e2 with ⟨_,rfl⟩ | ⟨_,_,_,_,hle⟩ <;> omega
 refine ⟨l,hh,hl,hle,rfl,fun s cap hcap=>?_⟩
 rcases bnd_ok hT h2 e1 with ⟨rfl,rfl⟩ | ⟨hi,k,rfl,ehi,_⟩ <;> rcases bnd_ok hT h1 e2 with ⟨rfl,rfl⟩ | ⟨lo,k2,rfl,elo,_⟩
 ·simp [Instr.sliceBounds]
 ·simp [Instr.sliceBounds,Instr.sliceBound,asIntOf,elo,hl]
 ·have : (hh : Int)≤cap:=by omega
  simp [Instr.sliceBounds,Instr.sliceBound,asIntOf,ehi,show hh≤cap by omega]
 ·simp [Instr.sliceBounds,Instr.sliceBound,asIntOf,ehi,elo,hl,show hh≤cap by omega]

theorem allLen_at {st : Nat} {xs : List (List LV)} (h : allLen st xs = true) {i : Nat} {x : List LV} (hx : xs[i]? = some x) : x.length = st:=by
 have:=Qj.1 h x (Qd hx)
 simpa using this

theorem sls_says (hT : TR c T a.tmps) {t e : TypeId} {st : Nat} (ht : P.underlying t = some (.slice e)) (hst : tsize P e = some st) (hO : HR P c w O) {lo hi : Option Operand} {lo' hi' : Option Opd} (h1 : optOpd lo = some lo') (h2 : optOpd hi = some hi')
  {x v : LV} {u : Value} (hx : VR c x u) (h : slsV T O st lo' hi' x = some v) : Says P c w (Instr.sliceAt t u (lo.map a.eval) (hi.map a.eval) none) v:=by
 have key : ∀ (q : Option Addr) (len cap l hh : Nat),l≤hh → hh≤len → len≤cap → (Instr.sliceBounds true len cap (lo.map a.eval) (hi.map a.eval) none).run P w = .ok (l,hh,cap) w → u = .slice q len cap →
   (Instr.sliceAt t u (lo.map a.eval) (hi.map a.eval) none).run P w = .ok (.slice (if cap = l then q else q.map (·.add (l * st))) (hh - l) (cap - l)) w:=by
  intro q len cap l hh a1 a2 a3 hb e2; subst e2
  simp [Instr.sliceAt,Instr.slice,run_underlying ht,hb,run_size hst]
 unfold slsV at h
 split at h
 ·rename_i xs
  split at h
  ·rename_i hal
   obtain ⟨l,hh,hl,hle,rfl,hb⟩:=cut_ok (P:=P) (w:=w) hT h1 h2 h
   cases hx with
   | vs0 q cap hz =>
     have e1 : hh = 0:=by simpa using hle
     have e2 : l = 0:=by omega
     subst e1; subst e2
     refine ⟨_,key q 0 cap 0 0 (by simp) (by simp) (by simp) (hb true cap (by simp)) rfl,?_⟩
     have:=VR.vs0 (c:=c) (if cap = 0 then q else q.map fun x=>x.add 0) cap (fun e=>by
      split at e
      ·assumption
      ·exact hz (by simpa using e))
     simpa [cutVs] using this
   | vs _ b o s cap val hne hcap hs hm ho hv =>
     refine ⟨_,key _ _ cap l hh hl hle hcap (hb true cap hcap) rfl,?_⟩
     have hss : s = st:=by
      cases xs with
      | nil=>exact absurd rfl hne
      | cons y ys=>rw [← (hs 0 y rfl).1,allLen_at hal (i:=0) rfl]
     subst hss
     by_cases hz : hh - l = 0
     ·rw [hz]
      have : cutVs xs hh l = .vs []:=by simp [cutVs]; omega
      rw [this]; exact .vs0 _ _ (fun e=>by split at e <;> simp at e)
     ·have hne2 : ¬ cap = l:=by omega
      rw [if_neg hne2]
      simp only [Qay,Addr.add_mid]
      have hlen : ((xs.take hh).drop l).length = hh - l:=by simp; omega
      have hget : ∀ (k : Nat) (x : List LV),((xs.take hh).drop l)[k]? = some x → xs[l + k]? = some x:=by
       intro k x hx
       rw [Qbl,Qak] at hx
       split at hx
       ·exact hx
       ·cases hx
      have:=VR.vs (c:=c) ((xs.take hh).drop l) b (o + l * s) s (cap - l) (fun i j=>val (l + i) j) (by intro e; rw [e] at hlen; simp at hlen; omega) (by rw [hlen]; omega)
       (fun i x hx=>hs _ x (hget i x hx))
       (fun i x j y hx hy=>by
        have:=hm _ x j y (hget i x hx) hy
        rwa [Qac,← Qaz] at this)
       (fun i x j y hx hy=>ho _ x j y (hget i x hx) hy)
       (fun i x j y hx hy=>hv _ x j y (hget i x hx) hy)
      rw [hlen] at this
      exact this
  ·cases h
 ·rename_i id off len
  unfold slsRow at h
  split at h
  ·rename_i st' xs hor
   split at h
   ·rename_i hst'
    obtain ⟨l,hh,hl,hle,rfl,hb⟩:=cut_ok (P:=P) (w:=w) hT h1 h2 h
    cases hx with
    | bs _ _ _ hm q cap hcap hi h0 hn hoff =>
      refine ⟨_,key _ _ cap l hh hl hle hcap (hb true cap hcap) rfl,?_⟩
      obtain ⟨h2,hi2,ho⟩:=hO _ _ hor
      rw [hi] at hi2; cases hi2
      have hs : st' = hm.st:=by cases ho; rfl
      have hs2 : hm.st = st:=by omega
      have hlc : l≤cap:=by omega
      have hnc : hm.nul = true → hm.cap = 0:=by cases ho with | row _ _ _ _ _ h0 _ _=>exact h0
      refine .bs _ _ _ hm _ _ (by omega) hi ?_ ?_ (fun hne=>?_)
      ·intro hz
       have e1 : off = 0:=by omega
       have e2 : l = 0:=by omega
       subst e1; subst e2
       obtain ⟨rfl,rfl⟩:=h0 rfl
       refine ⟨?_,by simp⟩
       split
       ·rfl
       ·simp [Addr.add]
      ·intro hz
       obtain ⟨hnn,rfl⟩:=hn (by omega)
       refine ⟨hnn,?_⟩
       rw [if_neg (by omega)]
       simp [Addr.add_mid,hs2,Qac,Qaz]
      ·by_cases e0 : off = 0
       ·obtain ⟨rfl,rfl⟩:=h0 e0
        subst e0
        by_cases ec : hm.cap = l
        ·exact .inl ⟨by omega,by omega⟩
        ·have hnn : hm.nul = false:=by
          cases hq : hm.nul with
          | false=>rfl
          | true=>have:=hnc hq; omega
         refine .inr ⟨hnn,?_,by omega⟩
         rw [if_neg ec]
         simp [Home.addr,hnn,Addr.add_mid,hs2]
       ·rcases hoff e0 with ⟨e1,e2⟩ | ⟨hnn,rfl,e2⟩
        ·exact .inl ⟨by omega,by omega⟩
        ·by_cases ec : cap = l
         ·exact .inl ⟨by omega,by omega⟩
         ·refine .inr ⟨hnn,?_,by omega⟩
          rw [if_neg ec]
          simp [Addr.add_mid,hs2,Qac,Qaz]
   ·cases h
  ·cases h
 ·rename_i id off st' len
  split at h
  ·rename_i hst'
   subst hst'
   obtain ⟨l,hh,hl,hle,rfl,hb⟩:=cut_ok (P:=P) (w:=w) hT h1 h2 h
   cases hx with
   | bb _ _ _ _ hm q cap hcap hi h1 hz0 =>
     refine ⟨_,key _ _ cap l hh hl hle hcap (hb true cap hcap) rfl,?_⟩
     refine .bb _ _ _ _ hm _ _ (by omega) hi (fun hz=>?_) (fun e=>by
      split at e
      ·omega
      ·have:=hz0 (by simpa using e); omega)
     have:=h1 (by omega); subst this
     rw [if_neg (by omega)]
     simp [Addr.add_mid]
  ·cases h
 ·obtain ⟨l,hh,hl,hle,rfl,hb⟩:=cut_ok (P:=P) (w:=w) hT h1 h2 h
  cases hx with
  | nils _ q =>
    have e1 : hh = 0:=by omega
    have e2 : l = 0:=by omega
    subst e1; subst e2
    exact ⟨_,key q 0 0 0 0 (by simp) (by simp) (by simp) (hb true 0 (by simp)) rfl,by simpa [cutNil] using VR.nils (c:=c) _ _⟩
 ·obtain ⟨l,hh,hl,hle,rfl,hb⟩:=cut_ok (P:=P) (w:=w) hT h1 h2 h
  cases hx with
  | nul =>
    have e1 : hh = 0:=by omega
    have e2 : l = 0:=by omega
    subst e1; subst e2
    exact ⟨_,key none 0 0 0 0 (by simp) (by simp) (by simp) (hb true 0 (by simp)) rfl,by simpa [cutNil] using VR.nils (c:=c) _ _⟩
 ·cases h

theorem slt_says (hT : TR c T a.tmps) {t : TypeId} (ht : P.underlying t = some .string) {lo hi : Option Operand} {lo' hi' : Option Opd} (h1 : optOpd lo = some lo') (h2 : optOpd hi = some hi')
  {x v : LV} {u : Value} (hx : VR c x u) (h : sltV T lo' hi' x = some v) : Says P c w (Instr.sliceAt t u (lo.map a.eval) (hi.map a.eval) none) v:=by
 unfold sltV at h
 split at h
 ·rename_i xs
  obtain ⟨l,hh,hl,hle,rfl,hb⟩:=cut_ok (P:=P) (w:=w) hT h1 h2 h
  cases hx
  have hb2:=hb false xs.length (Q8 _)
  refine ⟨.string ⟨((xs.take hh).drop l).toArray⟩,?_,.str _⟩
  have e : (⟨xs.toArray⟩ : ByteArray).size = xs.length:=by simp [ByteArray.size_mk']
  have e2 : (⟨xs.toArray⟩ : ByteArray).extract l hh = ⟨((xs.take hh).drop l).toArray⟩:=by
   apply ByteArray.ext
   simp [ByteArray.data_extract,List.take_drop,show l + (hh - l) = hh by omega]
  simp [Instr.sliceAt,Instr.slice,run_underlying ht,e,hb2,e2]
 ·cases h

theorem chunk_len (st : Nat) : ∀ (n : Nat) (cs : List LV),(chunk st n cs).length = n
 | 0,_=>rfl
 | n + 1,cs=>by simp [chunk,chunk_len st n]
theorem chunk_get (st : Nat) : ∀ (n : Nat) (cs : List LV) (i : Nat) (x : List LV),(chunk st n cs)[i]? = some x → x = (cs.drop (i * st)).take st
 | 0,_,i,x,h=>by simp [chunk] at h
 | n + 1,cs,0,x,h=>by simp [chunk] at h; simp [h]
 | n + 1,cs,i + 1,x,h=>by
   simp [chunk] at h
   rw [chunk_get st n _ i x h,Qbi,Qac,Qb4,Nat.add_comm st]

theorem sla_says (hT : TR c T a.tmps) {t e : TypeId} {n st : Nat} (ht : P.underlying t = some (.array n e)) (hst : tsize P e = some st) {lo hi : Option Operand} {lo' hi' : Option Opd} (h1 : optOpd lo = some lo') (h2 : optOpd hi = some hi')
  {x v : LV} {u : Value} (hx : VR c x u) (h : slaV T n st lo' hi' x = some v) : Says P c w (Instr.sliceAt t u (lo.map a.eval) (hi.map a.eval) none) v:=by
 have key : ∀ (q : Addr) (l hh : Nat),(Instr.sliceBounds false n n (lo.map a.eval) (hi.map a.eval) none).run P w = .ok (l,hh,n) w → u = .pointer (some q) →
   (Instr.sliceAt t u (lo.map a.eval) (hi.map a.eval) none).run P w = .ok (.slice (some (if n = l then q else q.add (l * st))) (hh - l) (n - l)) w:=by
  intro q l hh hb e2; subst e2
  simp [Instr.sliceAt,Instr.sureAddr,run_underlying ht,hb,run_size hst]
 unfold slaV at h
 split at h
 ·obtain ⟨l,hh,hl,hle,rfl,hb⟩:=cut_ok (P:=P) (w:=w) hT h1 h2 h
  cases hx with
  | ptr _ _ hm hi =>
    refine ⟨_,key _ l hh (hb false n (Q8 _)) rfl,.bb _ _ _ _ hm _ _ (by omega) hi (fun hz=>?_) (fun e=>by simp at e)⟩
    rw [if_neg (by omega),Addr.add_mid]
 ·rename_i cs
  split at h
  ·rename_i hcs
   obtain ⟨l,hh,hl,hle,rfl,hb⟩:=cut_ok (P:=P) (w:=w) hT h1 h2 h
   cases hx with
   | fp _ b o val hcl hm ho hv =>
     refine ⟨_,key _ l hh (hb false n (Q8 _)) rfl,?_⟩
     by_cases hz : hh - l = 0
     ·rw [hz]; simp only [cutFp,hz,chunk]; exact .vs0 _ _ (fun e=>by simp at e)
     ·rw [if_neg (by omega),Addr.add_mid]
      have hget : ∀ (i : Nat) (x : List LV),(chunk st (hh - l) (cs.drop (l * st)))[i]? = some x → i < hh - l∧x = (cs.drop ((l + i) * st)).take st:=by
       intro i x hx
       have h3:=(Qe.1 hx).1
       rw [chunk_len] at h3
       refine ⟨h3,?_⟩
       rw [chunk_get _ _ _ _ _ hx,Qbi,← Qac]
      have hin : ∀ (i : Nat) (x : List LV) (j : Nat) (y : LV),(chunk st (hh - l) (cs.drop (l * st)))[i]? = some x → x[j]? = some y → cs[(l + i) * st + j]? = some y:=by
       intro i x j y hx hy
       rw [(hget i x hx).2,Qak] at hy
       split at hy
       ·simpa using hy
       ·cases hy
      have:=VR.vs (c:=c) (chunk st (hh - l) (cs.drop (l * st))) b (o + l * st) st (n - l) (fun i j=>val ((l + i) * st + j)) (by intro e; have:=chunk_len st (hh - l) (cs.drop (l * st)); rw [e] at this; simp at this; omega) (by rw [chunk_len]; omega)
       (fun i x hx=>by
        obtain ⟨hi,rfl⟩:=hget i x hx
        refine ⟨?_,closeds_of fun k y hy=>?_⟩
        ·have : (l + i) * st + st≤cs.length:=by
          have : (l + i + 1) * st≤n * st:=Qa1 _ (by omega)
          rw [Qac,Qb4] at this; omega
         simp; omega
        ·exact closeds_at hcl (hin i _ k y hx hy))
       (fun i x j y hx hy=>by
        have:=hm _ y (hin i x j y hx hy)
        rwa [show o + ((l + i) * st + j) = o + l * st + i * st + j by rw [Qac]; omega] at this)
       (fun i x j y hx hy=>ho _ y (hin i x j y hx hy))
       (fun i x j y hx hy=>hv _ y (hin i x j y hx hy))
      rw [chunk_len] at this
      exact this
  ·cases h
 ·cases h

/-! the least, the greatest -/
theorem mn_fold : ∀ {xs : List LV} {vs : List Value} {x v : LV} {u : Value},VR c x u → VRs c xs vs → fold2 mnI x xs = some v → Says P c w (vs.foldlM Builtin.min2 u) v
 | [],vs,x,v,u,hx,hv,h=>by
   cases vs with
   | nil=>simp only [fold2,Option.some.injEq] at h; subst h; exact ⟨u,by simp,hx⟩
   | cons=>have:=hv.len; simp at this
 | y :: xs,vs,x,v,u,hx,hv,h=>by
   cases vs with
   | nil=>have:=hv.len; simp at this
   | cons b vs =>
     have hy:=hv.head
     unfold fold2 at h
     split at h
     ·rename_i heq; cases heq
     ·rename_i heq
      cases heq
      split at h
      ·rename_i hk; subst hk
       cases hx; cases hy
       obtain ⟨z,hz,hr⟩:=mn_fold (.int _ _) hv.tail h
       exact ⟨z,by simpa [Builtin.min2,mnI] using hz,hr⟩
      ·cases h
     ·cases h
theorem mx_fold : ∀ {xs : List LV} {vs : List Value} {x v : LV} {u : Value},VR c x u → VRs c xs vs → fold2 mxI x xs = some v → Says P c w (vs.foldlM Builtin.max2 u) v
 | [],vs,x,v,u,hx,hv,h=>by
   cases vs with
   | nil=>simp only [fold2,Option.some.injEq] at h; subst h; exact ⟨u,by simp,hx⟩
   | cons=>have:=hv.len; simp at this
 | y :: xs,vs,x,v,u,hx,hv,h=>by
   cases vs with
   | nil=>have:=hv.len; simp at this
   | cons b vs =>
     have hy:=hv.head
     unfold fold2 at h
     split at h
     ·rename_i heq; cases heq
     ·rename_i heq
      cases heq
      split at h
      ·rename_i hk; subst hk
       cases hx; cases hy
       obtain ⟨z,hz,hr⟩:=mx_fold (.int _ _) hv.tail h
       exact ⟨z,by simpa [Builtin.max2,mxI] using hz,hr⟩
      ·cases h
     ·cases h
theorem mn_says {ty : TypeId} {ts : Array TypeId} {xs : List LV} {vs : Array Value} {v : LV} (hv : VRs c xs vs.toList) (h : foldV mnI xs = some v) : Says P c w (Builtin.min_ ts ty vs) v:=by
 cases xs with
 | nil=>cases h
 | cons x xs =>
   unfold Builtin.min_
   cases hvs : vs.toList with
   | nil=>rw [hvs] at hv; have:=hv.len; simp at this
   | cons u us=>rw [hvs] at hv; exact mn_fold hv.head hv.tail h
theorem mx_says {ty : TypeId} {ts : Array TypeId} {xs : List LV} {vs : Array Value} {v : LV} (hv : VRs c xs vs.toList) (h : foldV mxI xs = some v) : Says P c w (Builtin.max_ ts ty vs) v:=by
 cases xs with
 | nil=>cases h
 | cons x xs =>
   unfold Builtin.max_
   cases hvs : vs.toList with
   | nil=>rw [hvs] at hv; have:=hv.len; simp at this
   | cons u us=>rw [hvs] at hv; exact mx_fold hv.head hv.tail h
end
end Go.Zv

/- The engine, part 9: values that are the same; maps; values put together; bytes. -/
namespace Go.Zv
section
variable {P : Program} {c : Cx} {w : World} {O : Heap} {T : Env} {a : Act}

def mkv (P : Program) (t : TypeId) (vs : List Value) : Value:=match P.underlying t with
 | some (.struct _) | some (.array _ _)=>.agg vs.toArray
 | _=>vs.headD undef

theorem flat_size : ∀ {d : Nat} {t : TypeId} {ks : List Nat},flatT P d t = some ks → tsize P t = some ks.length
 | 0,t,ks,h=>by simp [flatT] at h
 | d + 1,t,ks,h=>by
   unfold flatT at h
   split at h
   ·split at h
    ·rename_i hs; simp only [Option.some.injEq] at h; subst h; exact hs
    ·cases h
   ·split at h
    ·rename_i hs; simp only [Option.some.injEq] at h; subst h; exact hs
    ·cases h
   ·split at h
    ·rename_i hs; simp only [Option.some.injEq] at h; subst h; exact hs
    ·cases h
   ·split at h
    ·cases h
    ·obtain ⟨l,hl,h⟩:=Qa.1 h
     split at h
     ·rename_i hs; simp only [Option.some.injEq] at h; subst h; exact hs
     ·cases h
   ·obtain ⟨l,hl,h⟩:=Qa.1 h
    split at h
    ·rename_i hs; simp only [Option.some.injEq] at h; subst h; simpa using hs
    ·cases h
   ·cases h

theorem run_part_mkv {d : Nat} {e : TypeId} {ks : List Nat} (h : flatT P d e = some ks) {vs : List Value} {off : Nat} (hle : off + ks.length≤vs.length) :
  (Go.part e vs.toArray off).run P w = .ok (mkv P e ((vs.drop off).take ks.length)) w:=by
 have hs:=flat_size h
 unfold Go.part mkv
 cases d with
 | zero=>simp [flatT] at h
 | succ d =>
   unfold flatT at h
   have leaf : isAggT P e = some false → ks.length = 1 → (do if ← isAgg e then pure (.agg (vs.toArray.extract off (off + (← sizeOf e)))) else match vs.toArray[off]? with | some v=>pure v | none=>stuck "part: no such cell" : Sem Value).run P w = .ok (((vs.drop off).take ks.length).headD undef) w:=by
    intro ha hk
    have hlt : off < vs.length:=by omega
    simp [run_isAgg ha,hk,hlt]
    rw [List.head?_take]
    simp [List.head?_drop,hlt]
   split at h
   ·rename_i k hu
    split at h
    ·simp only [Option.some.injEq] at h; subst h
     rw [hu]; exact leaf (by simp [isAggT,hu]) rfl
    ·cases h
   ·rename_i hu
    split at h
    ·simp only [Option.some.injEq] at h; subst h
     rw [hu]; exact leaf (by simp [isAggT,hu]) rfl
    ·cases h
   ·rename_i hu
    split at h
    ·simp only [Option.some.injEq] at h; subst h
     rw [hu]; exact leaf (by simp [isAggT,hu]) rfl
    ·cases h
   ·rename_i fs hu
    rw [hu]
    have ha : isAggT P e = some true:=by simp [isAggT,hu]
    simp [run_isAgg ha,run_size hs]
   ·rename_i n f hu
    rw [hu]
    have ha : isAggT P e = some true:=by simp [isAggT,hu]
    simp [run_isAgg ha,run_size hs]
   ·cases h

theorem eqs_len : ∀ {ks : List Nat} {xs ys : List LV} {b : Bool},eqs ks xs ys = some b → xs.length = ks.length∧ys.length = ks.length
 | [],[],[],_,_=>⟨rfl,rfl⟩
 | t::ts,x::l,y::m,b,h=>by
   simp only [eqs] at h
   obtain ⟨b1,_,h⟩:=Qa.1 h
   simp only [andK] at h
   obtain ⟨b2,h2,_⟩:=Qc.1 h
   have:=eqs_len h2
   simp [this.1,this.2]
 | [],_::_,_,_,h=>by simp [eqs] at h
 | [],[],_::_,_,h=>by simp [eqs] at h
 | _::_,[],_,_,h=>by simp [eqs] at h
 | _::_,_::_,[],_,h=>by simp [eqs] at h
theorem eqs_append : ∀ {m r : List Nat} {xs ys : List LV} {b : Bool},eqs (m++r) xs ys = some b →
  ∃ b1 b2,eqs m (xs.take m.length) (ys.take m.length) = some b1∧eqs r (xs.drop m.length) (ys.drop m.length) = some b2∧b = (b1 && b2)
 | [],r,xs,ys,b,h=>⟨true,b,by simp [eqs],by simpa using h,by simp⟩
 | t::ts,r,[],_,b,h=>by simp [eqs] at h
 | t::ts,r,_::_,[],b,h=>by simp [eqs] at h
 | t::ts,r,x::l,y::k,b,h=>by
   simp only [Qy,eqs] at h
   obtain ⟨b1,h1,h⟩:=Qa.1 h
   simp only [andK] at h
   obtain ⟨b2,h2,rfl⟩:=Qc.1 h
   obtain ⟨c1,c2,e1,e2,rfl⟩:=eqs_append h2
   exact ⟨b1 && c1,c2,by simp [eqs,h1,andK,e1],by simpa using e2,by rw [Qc3]⟩

theorem eq_leaf {k : Nat} {x y : LV} {u v : Value} {b : Bool} (h : eq1 k x y = some b) (hx : VR c x u) (hy : VR c y v) :
  (k = 0 ∧ ∃ q n m,u = .int q n∧v = .int q m∧b = (n == m)) ∨ (k = 1 ∧ ∃ n m,u = .bool n∧v = .bool m∧b = (n == m)) ∨ (k = 2 ∧ ∃ n m,u = .string n∧v = .string m∧b = (n == m)):=by
 unfold eq1 at h
 split at h
 ·split at h
  ·rename_i hk; subst hk
   simp only [Option.some.injEq] at h; subst h
   cases hx; cases hy; exact .inl ⟨rfl,_,_,_,rfl,rfl,rfl⟩
  ·cases h
 ·simp only [Option.some.injEq] at h; subst h
  cases hx; cases hy; exact .inr (.inl ⟨rfl,_,_,rfl,rfl,rfl⟩)
 ·simp only [Option.some.injEq] at h; subst h
  cases hx; cases hy
  refine .inr (.inr ⟨rfl,_,_,rfl,rfl,?_⟩)
  rename_i l m
  rw [beq_toListBytes,bytes_toList,bytes_toList]
 ·cases h

theorem eqs_one {k : Nat} {xs ys : List LV} {b : Bool} (h : eqs [k] xs ys = some b) : ∃ x y,xs = [x]∧ys = [y]∧eq1 k x y = some b:=by
 obtain ⟨h1,h2⟩:=eqs_len h
 match xs,ys,h1,h2 with
 | [x],[y],_,_ =>
   refine ⟨x,y,rfl,rfl,?_⟩
   simp only [eqs] at h
   obtain ⟨b1,e,h⟩:=Qa.1 h
   simp only [andK,Qay,Option.some.injEq,Qax] at h
   rw [e,h]
theorem VRs.one_ {x : LV} {vs : List Value} (h : VRs c [x] vs) : ∃ v,vs = [v]∧VR c x v:=by
 match vs,h with
 | [],h=>have:=h.len; simp at this
 | [v],h=>exact ⟨v,rfl,h.head⟩
 | _::_::_,h=>have:=h.len; simp at this

theorem eq_flat : ∀ (d : Nat) (t : TypeId) (ks : List Nat),flatT P d t = some ks → ∀ (xs ys : List LV) (va vb : List Value) (b : Bool),eqs ks xs ys = some b → VRs c xs va → VRs c ys vb →
  ∀ D,d≤D → (Op.equalIn D t (mkv P t va) (mkv P t vb)).run P w = .ok b w
 | 0,t,ks,h=>by simp [flatT] at h
 | d + 1, t,ks,h=>by
   intro xs ys va vb b he hx hy D hD
   obtain ⟨D,rfl⟩ : ∃ D',D = D' + 1:=⟨D - 1,by omega⟩
   unfold flatT at h
   split at h
   ·rename_i k hu
    split at h
    ·simp only [Option.some.injEq] at h; subst h
     obtain ⟨x,y,rfl,rfl,he1⟩:=eqs_one he
     obtain ⟨u,rfl,hu1⟩:=hx.one_
     obtain ⟨v,rfl,hv1⟩:=hy.one_
     rcases eq_leaf he1 hu1 hv1 with ⟨_,q,n,m,rfl,rfl,rfl⟩ | ⟨h0,_⟩ | ⟨h0,_⟩
     ·simp [mkv,hu,Op.equalIn,run_underlying hu]
     ·cases h0
     ·cases h0
    ·cases h
   ·rename_i hu
    split at h
    ·simp only [Option.some.injEq] at h; subst h
     obtain ⟨x,y,rfl,rfl,he1⟩:=eqs_one he
     obtain ⟨u,rfl,hu1⟩:=hx.one_
     obtain ⟨v,rfl,hv1⟩:=hy.one_
     rcases eq_leaf he1 hu1 hv1 with ⟨h0,_⟩ | ⟨_,n,m,rfl,rfl,rfl⟩ | ⟨h0,_⟩
     ·cases h0
     ·simp [mkv,hu,Op.equalIn,run_underlying hu]
     ·cases h0
    ·cases h
   ·rename_i hu
    split at h
    ·simp only [Option.some.injEq] at h; subst h
     obtain ⟨x,y,rfl,rfl,he1⟩:=eqs_one he
     obtain ⟨u,rfl,hu1⟩:=hx.one_
     obtain ⟨v,rfl,hv1⟩:=hy.one_
     rcases eq_leaf he1 hu1 hv1 with ⟨h0,_⟩ | ⟨h0,_⟩ | ⟨_,n,m,rfl,rfl,rfl⟩
     ·cases h0
     ·cases h0
     ·simp [mkv,hu,Op.equalIn,run_underlying hu]
    ·cases h
   ·rename_i fs hu
    split at h
    ·cases h
    ·rename_i hst
     have hst : P.stoodInHeld t = false:=by simpa using hst
     obtain ⟨l,hl,h⟩:=Qa.1 h
     split at h
     ·simp only [Option.some.injEq] at h; subst h
      have key : ∀ (L : List Field) (off : Nat) (ks : List Nat),flatF (flatT P d) off L = some ks → off≤xs.length → off≤ys.length → ∀ (b : Bool),eqs ks (xs.drop off) (ys.drop off) = some b → (Op.eqFields D va.toArray vb.toArray L).run P w = .ok b w:=by
       intro L
       induction L with
       | nil =>
         intro off ks h ho1 ho2 b he
         simp only [flatF,Option.some.injEq] at h; subst h
         have:=eqs_len he
         have e1 : xs.drop off = []:=Qo this.1
         have e2 : ys.drop off = []:=Qo this.2
         rw [e1,e2] at he
         simp only [eqs,Option.some.injEq] at he; subst he
         simp [Op.eqFields]
       | cons f L ih =>
         intro off ks h ho1 ho2 b he
         simp only [flatF] at h
         split at h
         ·cases h
         ·rename_i hn
          simp only [not_or,Decidable.not_not] at hn
          obtain ⟨m,hm,h⟩:=Qa.1 h
          obtain ⟨r,hr,rfl⟩:=Qc.1 h
          obtain ⟨b1,b2,e1,e2,rfl⟩:=eqs_append he
          have hl:=eqs_len he
          simp only [Qbx,Qm] at hl
          have la:=hx.len
          have lb:=hy.len
          have p1:=run_part_mkv (P:=P) (w:=w) hm (vs:=va) (off:=off) (by omega)
          have p2:=run_part_mkv (P:=P) (w:=w) hm (vs:=vb) (off:=off) (by omega)
          have p3:=eq_flat d f.type m hm _ _ _ _ _ e1 ((hx.drop off).take m.length) ((hy.drop off).take m.length) D (by omega)
          have p4:=ih (off + m.length) r hr (by omega) (by omega) b2 (by simpa [Qbi] using e2)
          rw [← hn.2] at p1 p2
          simp only [Op.eqFields,hn.1,ne_eq,not_false_eq_true,if_true,Sem.run_bind,p1,p2,Result.andThen_ok]
          rw [hn.2,p3]
          cases b1
          ·simp
          ·simpa using p4
      have:=key fs.toList 0 l hl (by simp) (by simp) b (by simpa using he)
      have e : mkv P t va = .agg va.toArray:=by simp [mkv,hu]
      have e2 : mkv P t vb = .agg vb.toArray:=by simp [mkv,hu]
      rw [e,e2]
      have hf : (P.fieldsOf t).toList = fs.toList:=by simp [Program.fieldsOf,hu]
      rw [run_equalIn_struct w D t va.toArray vb.toArray (by rw [hu]; simp [Program.fieldsOf,hu]) hst]
      rw [hf]; exact this
     ·cases h
   ·rename_i n e hu
    obtain ⟨l,hl,h⟩:=Qa.1 h
    split at h
    ·simp only [Option.some.injEq] at h; subst h
     have hsz:=flat_size hl
     obtain ⟨i,hi,hii⟩:=Qc.1 (show (P.info? e).map (·.size) = some l.length from hsz)
     have hc : P.cellsOf e = l.length:=by simp [Program.cellsOf,hi,hii]
     have key : ∀ (k j : Nat) (b : Bool),eqs (List.replicate k l).flatten (xs.drop (j * l.length)) (ys.drop (j * l.length)) = some b → (Op.eqItems D e l.length va.toArray vb.toArray (List.range' j k)).run P w = .ok b w:=by
      intro k
      induction k with
      | zero =>
        intro j b he
        have:=eqs_len he
        simp only [List.replicate_zero,List.flatten_nil,Qa0] at this
        have e1 : xs.drop (j * l.length) = []:=Qo this.1
        have e2 : ys.drop (j * l.length) = []:=Qo this.2
        rw [e1,e2] at he
        simp [eqs] at he; subst he
        simp [Op.eqItems]
      | succ k ih =>
        intro j b he
        rw [Qcp,Q9] at he
        obtain ⟨b1,b2,e1,e2,rfl⟩:=eqs_append he
        have hl2:=eqs_len he
        simp only [Qbx,Qm] at hl2
        have la:=hx.len
        have lb:=hy.len
        rw [List.range'_succ]
        by_cases hz : l.length = 0
        ·have p1:=run_part_mkv (P:=P) (w:=w) hl (vs:=va) (off:=j * l.length) (by rw [hz]; simp)
         have p2:=run_part_mkv (P:=P) (w:=w) hl (vs:=vb) (off:=j * l.length) (by rw [hz]; simp)
         have p3:=eq_flat d e l hl _ _ _ _ _ e1 ((hx.drop (j * l.length)).take l.length) ((hy.drop (j * l.length)).take l.length) D (by omega)
         have p4:=ih (j + 1) b2 (by rw [Qac,Qb4,← Qbi,← Qbi]; exact e2)
         simp only [Op.eqItems,Sem.run_bind,p1,p2,p3,Result.andThen_ok]
         cases b1
         ·simp
         ·simpa using p4
        ·have p1:=run_part_mkv (P:=P) (w:=w) hl (vs:=va) (off:=j * l.length) (by omega)
         have p2:=run_part_mkv (P:=P) (w:=w) hl (vs:=vb) (off:=j * l.length) (by omega)
         have p3:=eq_flat d e l hl _ _ _ _ _ e1 ((hx.drop (j * l.length)).take l.length) ((hy.drop (j * l.length)).take l.length) D (by omega)
         have p4:=ih (j + 1) b2 (by rw [Qac,Qb4,← Qbi,← Qbi]; exact e2)
         simp only [Op.eqItems,Sem.run_bind,p1,p2,p3,Result.andThen_ok]
         cases b1
         ·simp
         ·simpa using p4
     have:=key n 0 b (by simpa using he)
     have e1 : mkv P t va = .agg va.toArray:=by simp [mkv,hu]
     have e2 : mkv P t vb = .agg vb.toArray:=by simp [mkv,hu]
     rw [e1,e2,run_equalIn_array w D va.toArray vb.toArray hu hi,hc,Qc5]
     exact this
    ·cases h
   ·cases h

theorem eqa_says {op : BinOp} (hop : op = .eql ∨ op = .neq) {t : TypeId} (hg : P.eqGuardType P.depth t = false) {ks : List Nat} (hf : flatT P 20 t = some ks) (hr : isAggT P t = some true) {ox oy : Operand} {x y v : LV} {u u' : Value} (hx : VR c x u) (hy : VR c y u')
  (h : eqaV (decide (op = .neq)) ks x y = some v) : Says P c w (do eqGuard op t ox oy u u'; binOp op t u u') v:=by
 unfold eqaV at h
 split at h
 ·obtain ⟨b,hb,h⟩:=Qa.1 h
  simp only [eqaK,Option.some.injEq] at h; subst h
  obtain ⟨va,rfl,ha⟩:=VRs.of_agg hx
  obtain ⟨vb,rfl,hb2⟩:=VRs.of_agg hy
  have e : ∀ vs : List Value,mkv P t vs = .agg vs.toArray:=by
   intro vs
   unfold isAggT at hr
   unfold mkv
   split at hr
   ·rename_i hu; rw [hu]
   ·rename_i hu; rw [hu]
   ·simp at hr
   ·cases hr
  have key:=eq_flat 20 t ks hf _ _ _ _ b hb ha hb2 10000 (by omega) (w:=w)
  rw [e,e] at key
  have eq : (Op.equal t (.agg va.toArray) (.agg vb.toArray)).run P w = .ok b w:=key
  rcases hop with rfl | rfl
  ·refine ⟨.bool (b != decide (BinOp.eql = BinOp.neq)),?_,.bool _⟩
   simp only [Sem.run_bind,run_eqGuard_agg w _ _ _ _ _ _ hg,Result.andThen_ok,binOp,eq,Sem.run_pure]
   simp
  ·refine ⟨.bool (b != decide (BinOp.neq = BinOp.neq)),?_,.bool _⟩
   simp only [Sem.run_bind,run_eqGuard_agg w _ _ _ _ _ _ hg,Result.andThen_ok,binOp,eq,Sem.run_pure]
   simp
 ·cases h

/-! keys -/
theorem check_flat (em : Bool) : ∀ (d : Nat) (t : TypeId) (ks : List Nat),flatT P d t = some ks → ∀ (va : List Value),va.length = ks.length → ∀ D,d≤D → (Instr.checkKey em D t (mkv P t va)).run P w = .ok () w
 | 0,t,ks,h=>by simp [flatT] at h
 | d + 1, t,ks,h=>by
   intro va hl D hD
   obtain ⟨D,rfl⟩ : ∃ D',D = D' + 1:=⟨D - 1,by omega⟩
   unfold flatT at h
   split at h
   ·rename_i k hu; simp [Instr.checkKey,run_underlying hu]
   ·rename_i hu; simp [Instr.checkKey,run_underlying hu]
   ·rename_i hu; simp [Instr.checkKey,run_underlying hu]
   ·rename_i fs hu
    split at h
    ·cases h
    ·obtain ⟨l,hl2,h⟩:=Qa.1 h
     split at h
     ·simp only [Option.some.injEq] at h; subst h
      have e : mkv P t va = .agg va.toArray:=by simp [mkv,hu]
      rw [e,Instr.checkKey]
      simp only [Sem.run_bind,run_underlying hu,Result.andThen_ok]
      rw [← Array.forIn_toList]
      have key : ∀ (L : List Field) (off : Nat) (ks : List Nat),flatF (flatT P d) off L = some ks → off + ks.length≤va.length → (forIn L PUnit.unit fun f r=>(do
        if f.name ≠ "_" then do
         Instr.checkKey em D f.type (← Go.part f.type va.toArray f.offset)
         pure (ForInStep.yield PUnit.unit)
        else pure (ForInStep.yield PUnit.unit) : Sem (ForInStep PUnit))).run P w = .ok PUnit.unit w:=by
       intro L
       induction L with
       | nil=>intro off ks _ _; simp
       | cons f L ih =>
         intro off ks h ho
         simp only [flatF] at h
         split at h
         ·cases h
         ·rename_i hn
          simp only [not_or,Decidable.not_not] at hn
          obtain ⟨m,hm,h⟩:=Qa.1 h
          obtain ⟨r,hr,rfl⟩:=Qc.1 h
          simp only [Qm] at ho
          have p1:=run_part_mkv (P:=P) (w:=w) hm (vs:=va) (off:=off) (by omega)
          have p2:=check_flat em d f.type m hm ((va.drop off).take m.length) (by simp; omega) D (by omega)
          have p3:=ih (off + m.length) r hr (by omega)
          rw [← hn.2] at p1 p2
          simp only [List.forIn_cons,Sem.run_bind,hn.1,ne_eq,not_false_eq_true,if_true,Result.andThen_ok,p1,p2,Sem.run_pure]
          exact p3
      have:=key fs.toList 0 l hl2 (by omega)
      simp at this ⊢
      rw [this]; rfl
     ·cases h
   ·rename_i n e hu
    obtain ⟨l,hl2,h⟩:=Qa.1 h
    split at h
    ·simp only [Option.some.injEq] at h; subst h
     have hsz:=flat_size hl2
     have e1 : mkv P t va = .agg va.toArray:=by simp [mkv,hu]
     rw [e1,Instr.checkKey]
     simp only [Sem.run_bind,run_underlying hu,Result.andThen_ok]
     simp only [Std.Legacy.Range.forIn_eq_forIn_range',Std.Legacy.Range.size,Nat.sub_zero,Nat.add_one_sub_one,Nat.div_one]
     have key : ∀ (k j : Nat),(j + k) * l.length≤va.length → (forIn (List.range' j k) PUnit.unit fun i r=>(do
       Instr.checkKey em D e (← Go.part e va.toArray (i * (← sizeOf e)))
       pure (ForInStep.yield PUnit.unit) : Sem (ForInStep PUnit))).run P w = .ok PUnit.unit w:=by
      intro k
      induction k with
      | zero=>intro j _; simp
      | succ k ih =>
        intro j hj
        have hj2 : j * l.length + l.length≤va.length:=by
         have : (j + 1) * l.length≤(j + (k + 1)) * l.length:=Qa1 _ (by omega)
         rw [Qac,Qb4] at this; omega
        have p1:=run_part_mkv (P:=P) (w:=w) hl2 (vs:=va) (off:=j * l.length) hj2
        have p2:=check_flat em d e l hl2 ((va.drop (j * l.length)).take l.length) (by simp; omega) D (by omega)
        have p3:=ih (j + 1) (by rw [show j + 1 + k = j + (k + 1) by omega]; exact hj)
        rw [List.range'_succ]
        simp only [List.forIn_cons,Sem.run_bind,run_size hsz,Result.andThen_ok,p1,p2,Sem.run_pure]
        exact p3
     have:=key n 0 (by simp at hl; simp [hl])
     simp at this ⊢
     rw [this]; rfl
    ·cases h
   ·cases h

theorem mkv_of {t : TypeId} {ag : Bool} (hag : isAggT P t = some ag) {k : LV} {u : Value} (hk : VR c k u) (hfo : isAg k = ag) : ∃ va,VRs c k.cells va∧u = mkv P t va:=by
 subst hfo
 cases k with
 | agg cs =>
   obtain ⟨vs,rfl,hv⟩:=VRs.of_agg hk
   refine ⟨vs,hv,?_⟩
   unfold isAggT at hag
   unfold mkv
   split at hag
   ·rename_i hu; rw [hu]
   ·rename_i hu; rw [hu]
   ·simp [isAg] at hag
   ·cases hag
 | _ =>
   refine ⟨[u],VRs.cons hk (VRs.nil c),?_⟩
   unfold isAggT at hag
   unfold mkv
   split at hag
   ·simp [isAg] at hag
   ·simp [isAg] at hag
   ·rename_i d h1 h2 hu
    rw [hu]
    cases d <;> first | rfl | (exact (h1 _ rfl).elim) | (exact (h2 _ _ rfl).elim)
   ·cases hag

structure KeyT (P : Program) (t : TypeId) (ks : List Nat) : Prop where
 ex : ∃ ag l,isAggT P t = some ag∧flatT P 20 t = some l∧ks = (if ag = true then 1 else 0)::l

theorem bits_cells : ∀ {l : List Nat} {xs ys : List LV} {us vs : List Value},eqs l xs ys = some true → VRs c xs us → VRs c ys vs → us.length = vs.length ∧ ∀ (n : Nat),∀ p ∈ vs.zip us,Instr.sameBits n p.1 p.2 = true
 | [],[],[],us,vs,h,h1,h2=>by
   have e1:=h1.len; have e2:=h2.len
   have : us = []:=Qo e1.symm
   have : vs = []:=Qo e2.symm
   subst us; subst vs; simp
 | t::ts,x::l,y::m,[],vs,h,h1,h2=>by have:=h1.len; simp at this
 | t::ts,x::l,y::m,u::us,[],h,h1,h2=>by have:=h2.len; simp at this
 | t :: ts,x::l,y::m,u::us,v::vs,h,h1,h2=>by
   simp only [eqs] at h
   obtain ⟨b1,e1,h⟩:=Qa.1 h
   simp only [andK] at h
   obtain ⟨b2,e2,hb⟩:=Qc.1 h
   simp only [Qg] at hb
   obtain ⟨rfl,rfl⟩:=hb
   obtain ⟨i1,i2⟩:=bits_cells e2 h1.tail h2.tail
   refine ⟨by simp [i1],fun n p hp=>?_⟩
   simp only [List.zip_cons_cons,Q7] at hp
   rcases hp with rfl | hp
   ·rcases eq_leaf e1 h1.head h2.head with ⟨_,q,a,b,rfl,rfl,e⟩ | ⟨_,a,b,rfl,rfl,e⟩ | ⟨_,a,b,rfl,rfl,e⟩
    ·have : a = b:=by simpa using e.symm
     subst this; cases n <;> simp [Instr.sameBits]
    ·have : a = b:=by simpa using e.symm
     subst this; cases n <;> simp [Instr.sameBits]
    ·rw [beq_toListBytes] at e
     have : a.toList = b.toList:=by simpa using e.symm
     cases n <;> simp [Instr.sameBits,beq_toListBytes,this]
   ·exact i2 n p hp
 | [],_::_,_,_,_,h,_,_=>by simp [eqs] at h
 | [],[],_::_,_,_,h,_,_=>by simp [eqs] at h
 | _::_,[],_,_,_,h,_,_=>by simp [eqs] at h
 | _::_,_::_,[],_,_,h,_,_=>by simp [eqs] at h

theorem isAgg_cases {t : TypeId} {ag : Bool} (h : isAggT P t = some ag) : ∃ d,P.underlying t = some d∧(ag = true → ∀ vs,mkv P t vs = .agg vs.toArray):=by
 unfold isAggT at h
 unfold mkv
 split at h
 ·rename_i hu; exact ⟨_,hu,fun _ vs=>by rw [hu]⟩
 ·rename_i hu; exact ⟨_,hu,fun _ vs=>by rw [hu]⟩
 ·rename_i hu; simp only [Option.some.injEq] at h; subst h; exact ⟨_,hu,by simp⟩
 ·cases h

theorem eqKey_ok {t : TypeId} {ks : List Nat} (hK : KeyT P t ks) {k x : LV} {u v : Value} {b : Bool} (h : eqKey ks k x = some b) (hk : VR c k u) (hx : VR c x v) :
  (Op.equal t u v).run P w = .ok b w∧(∀ em,(Instr.checkKey em 10000 t u).run P w = .ok () w)∧(b = true → Instr.sameBits 10000 v u = true) ∧
  ∀ d,P.underlying t = some d → Instr.sameNow d u v = some b ∨ Instr.sameNow d u v = none:=by
 obtain ⟨ag,l,hag,hf,rfl⟩:=hK.ex
 have e : (((if ag = true then 1 else 0 : Nat)) == 1) = ag:=by cases ag <;> rfl
 simp only [eqKey,e] at h
 split at h
 ·rename_i hc
  obtain ⟨va,hva,rfl⟩:=mkv_of hag hk hc.1
  obtain ⟨vb,hvb,rfl⟩:=mkv_of hag hx hc.2
  have hl:=eqs_len h
  refine ⟨eq_flat 20 t l hf _ _ _ _ b h hva hvb 10000 (by omega),fun em=>check_flat em 20 t l hf va (by rw [← hva.len]; exact hl.1) 10000 (by omega),?_,?_⟩
  ·intro hb; subst hb
   obtain ⟨e1,e2⟩:=bits_cells h hva hvb
   cases ag with
   | true =>
     obtain ⟨d,hd,hm⟩:=isAgg_cases hag
     rw [hm rfl,hm rfl]
     show Instr.sameBits (9999 + 1) _ _ = true
     simp only [Instr.sameBits,Qcl,e1,beq_self_eq_true,Q1,Qj]
     exact fun p hp=>e2 9999 p hp
   | false =>
     obtain ⟨x0,hx0⟩ : ∃ z,k.cells = [z]:=by cases k <;> first | exact ⟨_,rfl⟩ | (simp [isAg] at hc)
     obtain ⟨y0,hy0⟩ : ∃ z,x.cells = [z]:=by cases x <;> first | exact ⟨_,rfl⟩ | (simp [isAg] at hc)
     rw [hx0] at hva; rw [hy0] at hvb
     obtain ⟨u0,rfl,_⟩:=hva.one_
     obtain ⟨v0,rfl,_⟩:=hvb.one_
     have:=e2 10000 (v0,u0) (by simp)
     obtain ⟨d,hd,hm⟩:=isAgg_cases hag
     have e3 : ∀ z,mkv P t [z] = z:=by
      intro z
      unfold mkv
      unfold isAggT at hag
      split at hag <;> simp at hag
      rename_i d2 h1 h2 hu
      rw [hu]
      cases d2 <;> first | rfl | (exact (h1 _ rfl).elim) | (exact (h2 _ _ rfl).elim)
     rw [e3,e3]; exact this
  ·intro d hd
   cases ag with
   | true =>
     obtain ⟨d2,hd2,hm⟩:=isAgg_cases hag
     rw [hm rfl,hm rfl]
     right; cases d <;> rfl
   | false =>
     unfold flatT at hf
     rw [hd] at hf
     cases d <;> simp only [reduceCtorEq] at hf
     case int q =>
      split at hf
      ·simp only [Option.some.injEq] at hf; subst hf
       obtain ⟨x,y,e1,e2,he1⟩:=eqs_one h
       rw [e1] at hva; rw [e2] at hvb
       obtain ⟨u0,rfl,hu1⟩:=hva.one_
       obtain ⟨v0,rfl,hv1⟩:=hvb.one_
       rcases eq_leaf he1 hu1 hv1 with ⟨_,q,a,b,rfl,rfl,e⟩ | ⟨h0,_⟩ | ⟨h0,_⟩
       ·left; simp [mkv,hd,Instr.sameNow,e]
       ·cases h0
       ·cases h0
      ·cases hf
     case bool =>
      split at hf
      ·simp only [Option.some.injEq] at hf; subst hf
       obtain ⟨x,y,e1,e2,he1⟩:=eqs_one h
       rw [e1] at hva; rw [e2] at hvb
       obtain ⟨u0,rfl,hu1⟩:=hva.one_
       obtain ⟨v0,rfl,hv1⟩:=hvb.one_
       rcases eq_leaf he1 hu1 hv1 with ⟨h0,_⟩ | ⟨_,a,b,rfl,rfl,e⟩ | ⟨h0,_⟩
       ·cases h0
       ·left; simp [mkv,hd,Instr.sameNow,e]
       ·cases h0
      ·cases hf
     case string =>
      split at hf
      ·simp only [Option.some.injEq] at hf; subst hf
       obtain ⟨x,y,e1,e2,he1⟩:=eqs_one h
       rw [e1] at hva; rw [e2] at hvb
       obtain ⟨u0,rfl,hu1⟩:=hva.one_
       obtain ⟨v0,rfl,hv1⟩:=hvb.one_
       rcases eq_leaf he1 hu1 hv1 with ⟨h0,_⟩ | ⟨h0,_⟩ | ⟨_,a,b,rfl,rfl,e⟩
       ·cases h0
       ·cases h0
       ·left; simp [mkv,hd,Instr.sameNow,e]
      ·cases hf
     case struct fs=>simp [isAggT,hd] at hag
     case array n e=>simp [isAggT,hd] at hag
 ·cases h

structure ER (c : Cx) (es : List (LV × LV)) (en : List MapEntry) : Prop where
 len : es.length = en.length
 at_ : ∀ (i : Nat) (e : LV × LV) (m : MapEntry),es[i]? = some e → en[i]? = some m → VR c e.1 m.key∧VR c e.2 m.val∧LV.closed e.1 = true∧LV.closed e.2 = true
theorem ER.tail {e : LV × LV} {m : MapEntry} {es : List (LV × LV)} {en : List MapEntry} (h : ER c (e::es) (m::en)) : ER c es en :=
 ⟨by simpa using h.len,fun i x y hx hy=>h.at_ (i + 1) x y (by simpa using hx) (by simpa using hy)⟩
theorem ER.head {e : LV × LV} {m : MapEntry} {es : List (LV × LV)} {en : List MapEntry} (h : ER c (e::es) (m::en)) : VR c e.1 m.key∧VR c e.2 m.val∧LV.closed e.1 = true∧LV.closed e.2 = true:=h.at_ 0 e m rfl rfl

def Found (c : Cx) (en : List MapEntry) (i0 : Nat) : Option LV → Option (Nat × Value) → Prop
 | none,none=>True
 | some x,some (i,v)=>i0≤i ∧ ∃ m,en[i - i0]? = some m∧m.val = v∧VR c x v
 | _,_=>False
theorem Found.skip {m : MapEntry} {en : List MapEntry} {i0 : Nat} {r : Option LV} {q : Option (Nat × Value)} (h : Found c en (i0 + 1) r q) : Found c (m::en) i0 r q:=by
 cases r <;> cases q <;> simp only [Found] at h ⊢
 obtain ⟨h1,m',h2,h3,h4⟩:=h
 refine ⟨by omega,m',?_,h3,h4⟩
 rename_i p
 rw [show p.1 - i0 = (p.1 - (i0 + 1)) + 1 by omega]
 simpa using h2

theorem findNow_ok {t : TypeId} {ks : List Nat} (hK : KeyT P t ks) {d : TypeDesc} (hd : P.underlying t = some d) {k : LV} {u : Value} (hk : VR c k u) : ∀ {es : List (LV × LV)} {en : List MapEntry} {r : Option LV},ER c es en → lookupE ks k es = some r → ∀ i0,
  (∃ q,Instr.findNow d u en i0 = some q∧Found c en i0 r q) ∨ Instr.findNow d u en i0 = none
 | [],[],r,_,h,i0=>by simp only [lookupE,Option.some.injEq] at h; subst h; exact .inl ⟨none,rfl,trivial⟩
 | [],_::_,_,hE,_,_=>by have:=hE.len; simp at this
 | _::_,[],_,hE,_,_=>by have:=hE.len; simp at this
 | e::es,m::en,r,hE,h,i0=>by
   obtain ⟨b,hb,h⟩:=Qa.1 (show (eqKey ks k e.1).bind _ = some r from h)
   obtain ⟨_,_,_,hnow⟩:=eqKey_ok (w:=default) hK hb hk hE.head.1
   simp only [Instr.findNow]
   rcases hnow d hd with h1 | h1
   ·rw [h1]
    obtain ⟨q0,hq0,h⟩:=Qa.1 h
    cases b with
    | true =>
      simp only [if_true,Option.some.injEq] at h; subst h
      exact .inl ⟨_,rfl,by simp only [Found]; exact ⟨Q8 _,m,by simp,rfl,hE.head.2.1⟩⟩
    | false =>
      simp only [Qh,if_false] at h
      have h:=hq0.trans h
      rcases findNow_ok hK hd hk hE.tail h (i0 + 1) with ⟨q,hq,hF⟩ | hn
      ·exact .inl ⟨q,hq,hF.skip⟩
      ·exact .inr hn
   ·rw [h1]; exact .inr rfl
theorem findAsking_ok {t : TypeId} {ks : List Nat} (hK : KeyT P t ks) {k : LV} {u : Value} (hk : VR c k u) : ∀ {es : List (LV × LV)} {en : List MapEntry} {r : Option LV},ER c es en → lookupE ks k es = some r → ∀ i0,
  ∃ q,(Instr.findAsking t u en i0).run P w = .ok q w∧Found c en i0 r q
 | [],[],r,_,h,i0=>by simp only [lookupE,Option.some.injEq] at h; subst h; exact ⟨none,rfl,trivial⟩
 | [],_::_,_,hE,_,_=>by have:=hE.len; simp at this
 | _::_,[],_,hE,_,_=>by have:=hE.len; simp at this
 | e :: es,m::en,r,hE,h,i0=>by
   obtain ⟨b,hb,h⟩:=Qa.1 (show (eqKey ks k e.1).bind _ = some r from h)
   obtain ⟨heq,_,_,_⟩:=eqKey_ok (w:=w) hK hb hk hE.head.1
   simp only [Instr.findAsking,Sem.run_bind,heq,Result.andThen_ok]
   obtain ⟨q0,hq0,h⟩:=Qa.1 h
   cases b with
   | true =>
     simp only [if_true,Option.some.injEq] at h; subst h
     exact ⟨_,rfl,by simp only [Found]; exact ⟨Q8 _,m,by simp,rfl,hE.head.2.1⟩⟩
   | false =>
     simp only [Qh,if_false] at h ⊢
     have h:=hq0.trans h
     obtain ⟨q,hq,hF⟩:=findAsking_ok hK hk hE.tail h (i0 + 1)
     exact ⟨q,hq,hF.skip⟩
theorem findKey_ok {t : TypeId} {ks : List Nat} (hK : KeyT P t ks) {k : LV} {u : Value} (hk : VR c k u) {es : List (LV × LV)} {en : List MapEntry} {r : Option LV} (hE : ER c es en) (h : lookupE ks k es = some r) :
  ∃ q,(Instr.findKey t u en).run P w = .ok q w∧Found c en 0 r q:=by
 obtain ⟨ag,l,hag,hf,e⟩:=hK.ex
 obtain ⟨d,hd,_⟩:=isAgg_cases hag
 unfold Instr.findKey
 simp only [Sem.run_bind,run_underlying hd,Result.andThen_ok]
 rcases findNow_ok hK hd hk hE h 0 with ⟨q,hq,hF⟩ | hn
 ·rw [hq]; exact ⟨q,rfl,hF⟩
 ·rw [hn]; exact findAsking_ok hK hk hE h 0

theorem eq1_eq {t : Nat} {x y : LV} {b : Bool} (h : eq1 t x y = some b) : (b = true ↔ x = y):=by
 unfold eq1 at h
 split at h
 ·split at h
  ·rename_i hk
   simp only [Option.some.injEq] at h; subst h; subst hk
   simp
  ·cases h
 ·simp only [Option.some.injEq] at h; subst h; simp
 ·simp only [Option.some.injEq] at h; subst h; simp
 ·cases h
theorem eqs_eq : ∀ {ks : List Nat} {l m : List LV} {b : Bool},eqs ks l m = some b → (b = true ↔ l = m)
 | [],[],[],b,h=>by simp only [eqs,Option.some.injEq] at h; subst h; simp
 | t::ts,x::l,y::m,b,h=>by
   obtain ⟨a,ha,h⟩:=Qa.1 (show (eq1 t x y).bind (andK (eqs ts l m)) = some b from h)
   unfold andK at h
   obtain ⟨q,hq,rfl⟩:=Qc.1 h
   rw [Qg,eq1_eq ha,eqs_eq hq,List.cons.injEq]
 | [],[],_::_,_,h=>by cases h
 | [],_::_,[],_,h=>by cases h
 | [],_::_,_::_,_,h=>by cases h
 | _::_,[],[],_,h=>by cases h
 | _::_,[],_::_,_,h=>by cases h
 | _::_,_::_,[],_,h=>by cases h
theorem cells_inj {k a : LV} (h : isAg k = isAg a) (hc : k.cells = a.cells) : k = a:=by
 cases k <;> cases a <;> simp_all [isAg,LV.cells]
theorem eqKey_iff {ks : List Nat} {k a : LV} {b : Bool} (h : eqKey ks k a = some b) : (b = true ↔ k = a):=by
 unfold eqKey at h
 split at h
 ·split at h
  ·rename_i hh
   rw [eqs_eq h]
   refine ⟨fun e=>cells_inj ?_ e,fun e=>by rw [e]⟩
   have:=hh.1.trans hh.2.symm
   exact this
  ·cases h
 ·cases h
theorem lookupE_cmp {ks : List Nat} {k : LV} : ∀ {es : List (LV × LV)} {r : Option LV},lookupE ks k es = some r → ∀ e ∈ es,∃ b,eqKey ks k e.1 = some b
 | [],_,_,e,he=>by cases he
 | (a,v)::l,r,h,e,he=>by
   obtain ⟨b,hb,h⟩:=Qa.1 (show (eqKey ks k a).bind (lookK v (lookupE ks k l)) = some r from h)
   obtain ⟨q,hq,h⟩:=Qa.1 h
   rcases Q7.1 he with rfl | he
   ·exact ⟨b,hb⟩
   ·exact lookupE_cmp hq e he
theorem lookupE_of {ks : List Nat} {k : LV} : ∀ {es : List (LV × LV)},(∀ e ∈ es,∃ b,eqKey ks k e.1 = some b) → ∃ r,lookupE ks k es = some r
 | [],_=>⟨none,rfl⟩
 | (a,v)::l,h=>by
   obtain ⟨b,hb⟩:=h (a,v) (by simp)
   obtain ⟨r,hr⟩:=lookupE_of (es:=l) fun e he=>h e (by simp [he])
   refine ⟨if b = true then some v else r,?_⟩
   show (eqKey ks k a).bind (lookK v (lookupE ks k l)) = _
   rw [hb,hr]
   cases b <;> rfl
theorem lookupE_mem {ks : List Nat} {k : LV} : ∀ {es : List (LV × LV)} {r : Option LV},lookupE ks k es = some r → (∀ v,r = some v → (k,v) ∈ es)∧(r = none → ∀ v,(k,v) ∉ es)
 | [],r,h=>by
   have h : some none = some r:=h
   cases h
   exact ⟨fun v hv=>(by cases hv),fun _ v hv=>(by cases hv)⟩
 | (a,x)::l,r,h0=>by
   obtain ⟨b,hb,h⟩:=Qa.1 (show (eqKey ks k a).bind (lookK x (lookupE ks k l)) = some r from h0)
   obtain ⟨q,hq,hh⟩:=Qa.1 h
   clear h h0
   have e:=eqKey_iff hb
   obtain ⟨h1,h2⟩:=lookupE_mem hq
   cases b with
   | true =>
     have e:=e.1 rfl
     subst e
     have hh : some (some x) = some r:=hh
     cases hh
     exact ⟨fun v hv=>(by cases hv; simp),fun hv=>(by cases hv)⟩
   | false =>
     have e : k ≠ a:=fun he=>by have:=e.2 he; cases this
     have hh : some q = some r:=hh
     cases hh
     refine ⟨fun v hv=>by simp [h1 v hv],fun hv v hm=>?_⟩
     rcases Q7.1 hm with hm | hm
     ·cases hm; exact e rfl
     ·exact h2 hv v hm
theorem nodup_key {es : List (LV × LV)} (hd : (es.map Prod.fst).Nodup) {k v v' : LV} (h : (k,v) ∈ es) (h' : (k,v') ∈ es) : v = v':=by
 induction es with
 | nil=>cases h
 | cons e es ih =>
   rw [Qk,List.nodup_cons] at hd
   rcases Q7.1 h with rfl | h1
   ·rcases Q7.1 h' with h2 | h2
    ·cases h2; rfl
    ·exact absurd (Q6.2 ⟨_,h2,rfl⟩) hd.1
   ·rcases Q7.1 h' with rfl | h2
    ·exact absurd (Q6.2 ⟨_,h1,rfl⟩) hd.1
    ·exact ih hd.2 h1 h2
theorem lookupE_perm {ks : List Nat} {k : LV} {es es0 : List (LV × LV)} {r : Option LV} (hp : es0.Perm es) (hd : (es0.map Prod.fst).Nodup) (h : lookupE ks k es = some r) : lookupE ks k es0 = some r:=by
 obtain ⟨r0,h0⟩:=lookupE_of (ks:=ks) (k:=k) (es:=es0) fun e he=>lookupE_cmp h e (hp.mem_iff.1 he)
 obtain ⟨a1,a2⟩:=lookupE_mem h
 obtain ⟨b1,b2⟩:=lookupE_mem h0
 rw [h0]
 cases r with
 | some v =>
   have hv:=hp.mem_iff.2 (a1 v rfl)
   cases r0 with
   | some v0=>rw [nodup_key hd (b1 v0 rfl) hv]
   | none=>exact absurd hv (b2 rfl v)
 | none =>
   cases r0 with
   | some v0=>exact absurd (hp.mem_iff.1 (b1 v0 rfl)) (a2 rfl v0)
   | none=>rfl

theorem lkp_says {t kt e : TypeId} {ks : List Nat} {z : LV} {ok : Bool} (ht : P.underlying t = some (.map kt e)) (hK : KeyT P kt ks) (hz : zeroLV P e = some z) (hO : HR P c w O) {x k v : LV} {u uk : Value} (hx : VR c x u) (hk : VR c k uk)
  (h : (lkpV O ks k x).bind (lkpK z ok) = some v) : Says P c w (Instr.lookup t u uk ok) v:=by
 obtain ⟨r,hr,h⟩:=Qa.1 h
 have key : ∀ (es : List (LV × LV)) (en : List MapEntry),ER c es en → lookupE ks k es = some r → eqKey ks k k ≠ none →
   (∀ em,(Instr.checkKey em 10000 kt uk).run P w = .ok () w)∧((∃ i v0,(Instr.findKey kt uk en).run P w = .ok (some (i,v0)) w∧VR c v (if ok = true then .tuple #[v0,.bool true] else v0)) ∨
    ((Instr.findKey kt uk en).run P w = .ok none w ∧ ∃ zv,(zeroValue e).run P w = .ok zv w∧VR c v (if ok = true then .tuple #[zv,.bool false] else zv))):=by
  intro es en hE hl hkk
  obtain ⟨b,hb⟩:=Option.ne_none_iff_exists'.1 hkk
  obtain ⟨_,hck,_,_⟩:=eqKey_ok (w:=w) hK hb hk hk
  obtain ⟨q,hq,hF⟩:=findKey_ok (w:=w) hK hk hE hl
  refine ⟨hck,?_⟩
  cases r with
  | some y =>
    cases q with
    | none=>exact hF.elim
    | some p =>
      obtain ⟨i,v0⟩:=p
      simp only [Found] at hF
      obtain ⟨_,m,_,hm,hv⟩:=hF
      simp only [lkpK,Option.some.injEq] at h
      refine .inl ⟨i,v0,hq,?_⟩
      cases ok
      ·simp only [Qh,if_false] at h ⊢; subst h; exact hv
      ·simp only [if_true] at h ⊢; subst h
       exact .tup [y,.bool true] [v0,.bool true] rfl (VRs.cons hv (VRs.cons (.bool _) (VRs.nil c))).at_
  | none =>
    cases q with
    | some p=>exact hF.elim
    | none =>
      obtain ⟨i,zv,hi,hzv,hzr⟩:=zeroLV_ok (c:=c) hz
      simp only [lkpK,Option.some.injEq] at h
      refine .inr ⟨hq,zv,run_zero hi hzv,?_⟩
      cases ok
      ·simp only [Qh,if_false] at h ⊢; subst h; exact hzr
      ·simp only [if_true] at h ⊢; subst h
       exact .tup [z,.bool false] [zv,.bool false] rfl (VRs.cons hzr (VRs.cons (.bool _) (VRs.nil c))).at_
 unfold lkpV at hr
 split at hr
 ·cases hx
  obtain ⟨b,hb,hr⟩:=Qa.1 hr
  simp only [Option.some.injEq] at hr; subst hr
  obtain ⟨hck,⟨i,v0,hf,hv⟩ | ⟨hf,zv,hz2,hv⟩⟩:=key [] [] ⟨rfl,by simp⟩ rfl (by rw [hb]; simp)
  ·exact ⟨_,by simp [Instr.lookup,run_underlying ht,hck,hf],hv⟩
  ·exact ⟨_,by simp [Instr.lookup,run_underlying ht,hck,hf,hz2],hv⟩
 ·obtain ⟨b,hb,hr⟩:=Qa.1 hr
  unfold lkpO at hr
  split at hr
  ·rename_i id es ho
   cases hx with
   | mp _ hh hi =>
     obtain ⟨h2,hi2,hor⟩:=hO _ _ ho
     rw [hi] at hi2; cases hi2
     cases hor with
     | map _ es0 en clock hn hw hl hv hm hp hd =>
       obtain ⟨hck,⟨i,v0,hf,hv⟩ | ⟨hf,zv,hz2,hv⟩⟩:=key es0 en.toList ⟨by simp [hl],fun i e m he hm=>hv i e m he (by simpa using hm)⟩ (lookupE_perm hp hd hr) (by rw [hb]; simp)
       ·exact ⟨_,by simp [Instr.lookup,run_underlying ht,getObj,Sem.run,hw,hck,hf],hv⟩
       ·exact ⟨_,by simp [Instr.lookup,run_underlying ht,getObj,Sem.run,hw,hck,hf,hz2],hv⟩
  ·cases hr
 ·cases hr
end
end Go.Zv

/- The engine, part 10: values put together; the elements of a slice; bytes. -/
namespace Go.Zv
section
variable {P : Program} {c : Cx} {w : World} {O : Heap} {T : Env} {a : Act}

/-! put together -/
theorem setAt_len {cs vs : List LV} {off : Nat} (h : off + vs.length≤cs.length) : (setAt cs off vs).length = cs.length:=by
 simp [setAt]; omega
def setV (cs : List Value) (off : Nat) (vs : List Value) : List Value:=cs.take off++(vs++cs.drop (off + vs.length))
theorem setAt_VRs {cs vs : List LV} {us ws : List Value} {off : Nat} (h : VRs c cs us) (h2 : VRs c vs ws) : VRs c (setAt cs off vs) (setV us off ws):=by
 unfold setAt setV
 rw [h2.len]
 exact (h.take off).append (h2.append (h.drop _))
theorem foldl_set : ∀ (ws : List Value) (k off : Nat) (A : Array Value),off + k + ws.length≤A.size →
  (ws.zipIdx k).foldl (fun cs (p : Value × Nat)=>cs.setIfInBounds (off + p.2) p.1) A = (setV A.toList (off + k) ws).toArray
 | [],k,off,A,h=>by simp [setV]
 | v::ws,k,off,A,h=>by
   simp only [List.zipIdx_cons,Qa7]
   rw [foldl_set ws (k + 1) off _ (by simp at h ⊢; omega)]
   simp only [Q4] at h
   have hlt : off + k < A.toList.length:=by simp; omega
   congr 1
   simp only [setV,Array.toList_setIfInBounds,Q4]
   rw [List.take_set,List.drop_set]
   apply Qc2
   intro i
   simp only [Qbj,Qbp,Qak,Qcm,List.getElem?_cons,Qb5,Q4,Qbl]
   grind
theorem foldl_set0 (ws : List Value) (off : Nat) (A : Array Value) (h : off + ws.length≤A.size) :
  ws.toArray.zipIdx.foldl (fun cs (p : Value × Nat)=>cs.setIfInBounds (off + p.2) p.1) A = (setV A.toList off ws).toArray:=by
 have:=foldl_set ws 0 off A (by simpa using h)
 simp only [Qdh] at this
 rw [← this,Array.zipIdx_toArray,List.foldl_toArray]

theorem fill_ok {place : Nat → Option (Nat × Nat)} : ∀ {l : List (Nat × Nat × Opd)} {cs cs' : List LV} {us : List Value} {ps : List (Nat × Value)},VRs c cs us → fill T l cs = some cs' →
  l.length = ps.length → (∀ (i : Nat) (p : Nat × Nat × Opd) (q : Nat × Value),l[i]? = some p → ps[i]? = some q → place q.1 = some (p.1,p.2.1)∧VR c (p.2.2.ev T) q.2) →
  ∃ us',Instr.fill place us.toArray ps = some us'.toArray∧VRs c cs' us'
 | [],cs,cs',us,[],hv,h,_,_=>by simp only [fill,Option.some.injEq] at h; subst h; exact ⟨us,rfl,hv⟩
 | [],_,_,_,_::_,_,_,hl,_=>by simp at hl
 | _::_,_,_,_,[],_,_,hl,_=>by simp at hl
 | (off,n,x)::l,cs,cs',us,q::ps,hv,h,hl,hp=>by
   simp only [fill,fillK] at h
   split at h
   ·rename_i hc
    obtain ⟨pl,pv⟩:=hp 0 _ q rfl rfl
    obtain ⟨h1,_⟩:=cells_VRs pv hc.2.2
    have hle : q.2.cells.toList.length = n:=by rw [← h1.len]; exact hc.1
    have hlu:=hv.len
    obtain ⟨us',e1,e2⟩:=fill_ok (setAt_VRs (off:=off) hv h1) h (by simpa using hl) (fun i p r hp1 hr=>hp (i + 1) p r (by simpa using hp1) (by simpa using hr))
    refine ⟨us',?_,e2⟩
    obtain ⟨qi,qv⟩:=q
    simp only [Instr.fill]
    simp only at pl hle e1
    rw [pl]
    simp only
    have hsz : qv.cells.size = n:=by simpa using hle
    rw [if_neg (by simp [hsz]; omega)]
    have:=foldl_set0 qv.cells.toList off us.toArray (by rw [hle]; simp; omega)
    simp only [Qab] at this
    rw [this]
    exact e1
   ·cases h

theorem build_struct_says {t : TypeId} {fs : Array Field} {z : LV} {l : List (Nat × Nat × Opd)} {ps : Array (Nat × Value)} (ht : P.underlying t = some (.struct fs)) (hz : zeroLV P t = some z) {v : LV} (h : (fill T l z.cells).bind aggK = some v)
  (hzc : z.cells.all LV.one = true) (hall : ∀ f ∈ fs,∃ n,tsize P f.type = some n)
  (hl : l.length = ps.size) (hp : ∀ (i : Nat) (p : Nat × Nat × Opd) (q : Nat × Value),l[i]? = some p → ps[i]? = some q → (∃ f,fs[q.1]? = some f∧p.1 = f.offset∧tsize P f.type = some p.2.1)∧VR c (p.2.2.ev T) q.2) :
  Says P c w (Instr.build t ps) v:=by
 obtain ⟨cs',hf,h⟩:=Qa.1 h
 simp only [aggK,Option.some.injEq] at h; subst h
 obtain ⟨i,zv,hi,hzv,hzr⟩:=zeroLV_ok (c:=c) hz
 obtain ⟨h1,_⟩:=cells_VRs hzr hzc
 have hm : ∀ (L : List Field),(∀ f ∈ L,∃ n,tsize P f.type = some n) → (L.mapM fun f=>do pure (f.offset,← sizeOf f.type) : Sem (List (Nat × Nat))).run P w = .ok (L.map fun f=>(f.offset,(tsize P f.type).getD 0)) w:=by
  intro L
  induction L with
  | nil=>intro _; simp
  | cons f L ih =>
    intro hL
    obtain ⟨n,hn⟩:=hL f (by simp)
    have h3:=ih fun g hg=>hL g (by simp [hg])
    rw [Qbq]
    simp only [Sem.run_bind,run_size hn,Result.andThen_ok,Sem.run_pure,h3,Qk,hn,Qa9]
 have hm2 : (fs.mapM fun f=>do pure (f.offset,← sizeOf f.type) : Sem (Array (Nat × Nat))).run P w = .ok (fs.map fun f=>(f.offset,(tsize P f.type).getD 0)) w:=by
  rw [Array.mapM_eq_mapM_toList]
  have:=hm fs.toList fun f hf=>hall f (by simpa using hf)
  simp only [Sem.run_map,this,Result.andThen_ok]
  congr 1
  apply Array.ext'
  simp
 obtain ⟨us',e1,e2⟩:=fill_ok (place:=fun i=>(fs.map fun f=>(f.offset,(tsize P f.type).getD 0))[i]?) h1 hf (by simpa using hl) (ps:=ps.toList) (fun i p q hpi hqi=>by
  obtain ⟨⟨f,hf1,hf2,hf3⟩,hv⟩:=hp i p q hpi (by simpa using hqi)
  exact ⟨by simp [hf1,hf2,hf3],hv⟩)
 refine ⟨.agg us'.toArray,?_,.agg _ _ e2.len e2.at_⟩
 unfold Instr.build
 simp only [Sem.run_bind,run_zero hi hzv,Result.andThen_ok,run_underlying ht,hm2]
 simp only [Qab] at e1
 rw [e1]
 rfl
theorem build_array_says {t e : TypeId} {n m : Nat} {z : LV} {l : List (Nat × Nat × Opd)} {ps : Array (Nat × Value)} (ht : P.underlying t = some (.array n e)) (hz : zeroLV P t = some z) (hm : tsize P e = some m) {v : LV} (h : (fill T l z.cells).bind aggK = some v)
  (hzc : z.cells.all LV.one = true)
  (hl : l.length = ps.size) (hp : ∀ (i : Nat) (p : Nat × Nat × Opd) (q : Nat × Value),l[i]? = some p → ps[i]? = some q → p.1 = q.1 * m∧p.2.1 = m∧VR c (p.2.2.ev T) q.2) :
  Says P c w (Instr.build t ps) v:=by
 obtain ⟨cs',hf,h⟩:=Qa.1 h
 simp only [aggK,Option.some.injEq] at h; subst h
 obtain ⟨i,zv,hi,hzv,hzr⟩:=zeroLV_ok (c:=c) hz
 obtain ⟨h1,_⟩:=cells_VRs hzr hzc
 obtain ⟨us',e1,e2⟩:=fill_ok (place:=fun i=>some (i * m,m)) h1 hf (by simpa using hl) (ps:=ps.toList) (fun i p q hpi hqi=>by
  obtain ⟨a1,a2,hv⟩:=hp i p q hpi (by simpa using hqi)
  exact ⟨by simp [a1,a2],hv⟩)
 refine ⟨.agg us'.toArray,?_,.agg _ _ e2.len e2.at_⟩
 unfold Instr.build
 simp only [Sem.run_bind,run_zero hi hzv,Result.andThen_ok,run_underlying ht,run_size hm]
 simp only [Qab] at e1
 rw [e1]
 rfl

/-! the elements of a slice -/
theorem rows_flat {b st : Nat} {R : Value → Prop} : ∀ (xs : List (List LV)) (o : Nat) (val : Nat → Nat → Value),(∀ x ∈ xs,x.length = st) →
  (∀ (i : Nat) (x : List LV) (j : Nat) (y : LV),xs[i]? = some x → x[j]? = some y → w.cell? ⟨b,o + i * st + j,none⟩ = some (val i j)∧R (val i j)∧VR c y (val i j)) →
  ∃ vals : List Value,vals.length = xs.length * st∧VRs c xs.flatten vals ∧ ∀ j v,vals[j]? = some v → w.cell? ⟨b,o + j,none⟩ = some v∧R v
 | [],o,val,_,_=>⟨[],by simp,VRs.nil c,by simp⟩
 | x :: xs,o,val,hl,h=>by
   have hx : x.length = st:=hl x (by simp)
   obtain ⟨vals,h1,h2,h3⟩:=rows_flat xs (o + st) (fun i j=>val (i + 1) j) (fun y hy=>hl y (by simp [hy])) (fun i y j z hy hz=>by
    have:=h (i + 1) y j z (by simpa using hy) hz
    rw [Qac,Qb4] at this
    rwa [show o + (i * st + st) + j = o + st + i * st + j by omega] at this)
   have hv:=VRs.ofFun (c:=c) (cs:=x) (val:=val 0) fun j y hy=>(h 0 x j y rfl hy).2.2
   refine ⟨(List.range x.length).map (val 0)++vals,by simp [h1,hx,Qac]; omega,?_,?_⟩
   ·rw [Q9]; exact hv.append h2
   ·intro j v hj
    by_cases hlt : j < st
    ·rw [Qbt (by simpa [hx] using hlt)] at hj
     simp [hx,hlt] at hj
     subst hj
     obtain ⟨a1,a2,_⟩:=h 0 x j _ rfl (Qf (by omega))
     exact ⟨by simpa using a1,a2⟩
    ·rw [Qbg (by simp [hx]; omega)] at hj
     simp only [Qb,Qx,hx] at hj
     obtain ⟨a1,a2⟩:=h3 _ _ hj
     exact ⟨by rwa [show o + st + (j - st) = o + j by omega] at a1,a2⟩

structure Lies (c : Cx) (w : World) (st : Nat) (xs : List (List LV)) (u : Value) : Prop where
 ex : (∃ l,u = .string ⟨l.toArray⟩∧xs = u8s l) ∨ ∃ q cap,u = .slice q xs.length cap∧xs.length≤cap∧(xs ≠ [] → ∃ b o vals,q = some ⟨b,o,none⟩∧vals.length = xs.length * st∧VRs c xs.flatten vals ∧ ∀ j v,vals[j]? = some v → w.cell? ⟨b,o + j,none⟩ = some v∧v.oneCell' = true)

theorem allLen_mem {st : Nat} {xs : List (List LV)} (h : allLen st xs = true) : ∀ x ∈ xs,x.length = st:=fun x hx=>by
 have:=Qj.1 h x hx; simpa using this

theorem elems_ok (hO : HR P c w O) (hM : MR c w) {st : Nat} {x : LV} {u : Value} {xs : List (List LV)} (hx : VR c x u) (h : elems O x = some xs) (hal : allLen st xs = true) : Lies c w st xs u:=by
 unfold elems at h
 split at h
 ·rename_i ys
  simp only [Option.some.injEq] at h; subst h
  cases hx with
  | vs0 q cap=>exact ⟨.inr ⟨q,cap,rfl,by simp,by simp⟩⟩
  | vs _ b o s cap val hne hcap hs hm ho hv =>
    refine ⟨.inr ⟨_,cap,rfl,hcap,fun _=>?_⟩⟩
    have hss : s = st:=by
     cases ys with
     | nil=>exact absurd rfl hne
     | cons y ys=>rw [← (hs 0 y rfl).1,allLen_at hal (i:=0) rfl]
    subst hss
    obtain ⟨vals,h1,h2,h3⟩:=rows_flat (R:=fun v=>v.oneCell' = true) _ o val (allLen_mem hal) (fun i x j y hx hy=>⟨hM _ _ _ (hm i x j y hx hy),ho i x j y hx hy,hv i x j y hx hy⟩)
    exact ⟨b,o,vals,rfl,h1,h2,h3⟩
 ·simp only [Option.some.injEq] at h; subst h; cases hx; exact ⟨.inr ⟨_,_,rfl,by simp,by simp⟩⟩
 ·simp only [Option.some.injEq] at h; subst h; cases hx; exact ⟨.inr ⟨_,_,rfl,by simp,by simp⟩⟩
 ·simp only [Option.some.injEq] at h; subst h; cases hx; exact ⟨.inr ⟨_,_,rfl,by simp,by simp⟩⟩
 ·rename_i id off len
  unfold rowElems at h
  split at h
  ·rename_i st' ys ho
   split at h
   ·rename_i hle
    simp only [Option.some.injEq] at h; subst h
    have hlen : ((ys.drop off).take len).length = len:=by simp; omega
    cases hx with
    | bs _ _ _ hm q cap hcap hi h0 h1 hoff =>
      refine ⟨.inr ⟨q,cap,by rw [hlen],by rw [hlen]; exact hcap,fun hne=>?_⟩⟩
      have hz : len ≠ 0:=by intro e; subst e; simp at hne
      obtain ⟨hn,rfl⟩:=h1 hz
      obtain ⟨h2,hi2,hor⟩:=hO _ _ ho
      rw [hi] at hi2; cases hi2
      have hget : ∀ (k : Nat) (x : List LV),((ys.drop off).take len)[k]? = some x → ys[off + k]? = some x:=by
       intro k x hx
       rw [Qak] at hx
       split at hx
       ·simpa using hx
       ·cases hx
      cases hor with
      | row _ val hs hv hl h0 hsp hmm =>
        have hst : hm.st = st:=by
         have hlt : 0 < ((ys.drop off).take len).length:=by rw [hlen]; omega
         have e:=Qf hlt
         rw [← allLen_at hal e,(hs _ _ (hget 0 _ e)).1]
        obtain ⟨vals,k1,k2,k3⟩:=rows_flat (w:=w) (c:=c) (b:=hm.blk) (st:=st) (R:=fun v=>v.oneCell' = true) ((ys.drop off).take len) (hm.off + off * hm.st) (fun i j=>val (off + i) j) (allLen_mem hal) (fun i x j y hx hy=>by
         obtain ⟨a1,a2,a3⟩:=hv _ x j y (hget i x hx) hy
         refine ⟨?_,a2,a3⟩
         rw [Qac] at a1
         rwa [show hm.off + off * hm.st + i * st + j = hm.off + (off * hm.st + i * hm.st) + j by rw [hst]; omega])
        exact ⟨_,_,vals,rfl,k1,k2,k3⟩
   ·cases h
  ·cases h
 ·rename_i id off st' len
  unfold boxElemsC at h
  split at h
  ·rename_i cs ho
   split at h
   ·rename_i hle
    obtain ⟨hclo,hle⟩:=hle
    simp only [Option.some.injEq] at h; subst h
    have hlen:=chunk_len st' len (cs.drop off)
    cases hx with
    | bb _ _ _ _ hm q cap hcap hi h1 =>
      refine ⟨.inr ⟨q,cap,by rw [hlen],by rw [hlen]; exact hcap,fun hne=>?_⟩⟩
      have hz : len ≠ 0:=by intro e; subst e; simp [chunk] at hne
      have:=h1 hz; subst this
      obtain ⟨h2,hi2,hor⟩:=hO _ _ ho
      rw [hi] at hi2; cases hi2
      cases hor with
      | box _ vals hn hv hc hmm =>
        have hget : ∀ (k : Nat) (x : List LV),(chunk st' len (cs.drop off))[k]? = some x → k < len∧x = (cs.drop (off + k * st')).take st':=by
         intro k x hx
         have h3:=(Qe.1 hx).1
         rw [hlen] at h3
         exact ⟨h3,by rw [chunk_get _ _ _ _ _ hx,Qbi]⟩
        have hst : st' = st:=by
         have hlt : 0 < (chunk st' len (cs.drop off)).length:=by rw [hlen]; omega
         have e:=Qf hlt
         have e2:=allLen_at hal e
         rw [(hget 0 _ e).2] at e2
         have : st'≤len * st':=Nat.le_mul_of_pos_left _ (by omega)
         simp at e2; omega
        subst hst
        obtain ⟨vs,k1,k2,k3⟩:=rows_flat (w:=w) (c:=c) (b:=hm.blk) (st:=st') (R:=fun v=>v.oneCell' = true) (chunk st' len (cs.drop off)) off (fun i j=>vals.getD (off + i * st' + j) undef) (allLen_mem hal) (fun i x j y hx hy=>by
         obtain ⟨hi,rfl⟩:=hget i x hx
         have hy2 : cs[off + i * st' + j]? = some y:=by
          rw [Qak] at hy
          split at hy
          ·simpa using hy
          ·cases hy
         obtain ⟨v,hv1,hv2⟩:=hv.getSome hy2
         obtain ⟨a1,a2,a3⟩:=hc _ v hv1
         have e : vals.getD (off + i * st' + j) undef = v:=by simp [List.getD,hv1]
         rw [e]
         exact ⟨a1,a3,hv2⟩)
        exact ⟨_,_,vs,rfl,k1,k2,k3⟩
   ·cases h
  ·cases h
 ·simp only [Option.some.injEq] at h; subst h
  cases hx
  exact ⟨.inl ⟨_,rfl,rfl⟩⟩
 ·cases h

theorem elems_closed (hO : HR P c w O) {x : LV} {u : Value} {xs : List (List LV)} (hx : VR c x u) (h : elems O x = some xs) : ∀ y ∈ xs,LV.closeds y = true:=by
 unfold elems at h
 split at h
 ·simp only [Option.some.injEq] at h; subst h
  cases hx with
  | vs0=>simp
  | vs _ b o s cap val hne hcap hs hm ho hv =>
    intro y hy
    obtain ⟨i,hi⟩:=Qat.1 hy
    exact (hs i y hi).2
 ·simp only [Option.some.injEq] at h; subst h; simp
 ·simp only [Option.some.injEq] at h; subst h; simp
 ·simp only [Option.some.injEq] at h; subst h; simp
 ·rename_i id off len
  unfold rowElems at h
  split at h
  ·rename_i st' ys ho
   split at h
   ·simp only [Option.some.injEq] at h; subst h
    obtain ⟨hh,hi,hor⟩:=hO _ _ ho
    intro y hy
    obtain ⟨i,hi⟩:=Qat.1 (List.mem_of_mem_drop (List.mem_of_mem_take hy))
    cases hor with
    | row _ val hs hv hl h0 hsp hmm=>exact (hs i y hi).2
   ·cases h
  ·cases h
 ·unfold boxElemsC at h
  split at h
  ·rename_i cs ho
   split at h
   ·rename_i hle
    simp only [Option.some.injEq] at h; subst h
    intro y hy
    obtain ⟨i,hi⟩:=Qat.1 hy
    rw [chunk_get _ _ _ _ _ hi]
    refine closeds_of fun k z hz=>?_
    rw [Qak] at hz
    split at hz
    ·rw [Qbi] at hz
     exact closeds_at hle.1 (by simpa using hz)
    ·cases hz
   ·cases h
  ·cases h
 ·simp only [Option.some.injEq] at h; subst h
  intro y hy
  simp only [u8s,Q6] at hy
  obtain ⟨b,_,rfl⟩:=hy
  rfl
 ·cases h
theorem bytes_ok : ∀ {xs : List (List LV)} {l : List UInt8},bytesOf xs = some l → ∃ ns : List Int,xs = ns.map (fun n=>[LV.int .u8 n])∧l = ns.map (fun n=>UInt8.ofNat n.toNat)
 | [],l,h=>by simp only [bytesOf,Option.some.injEq] at h; subst h; exact ⟨[],rfl,rfl⟩
 | x::xs,l,h=>by
   simp only [bytesOf] at h
   obtain ⟨b,hb,h⟩:=Qa.1 h
   obtain ⟨m,hm,h⟩:=Qa.1 h
   simp only [bytesK,Option.some.injEq] at h; subst h
   obtain ⟨ns,rfl,rfl⟩:=bytes_ok hm
   unfold byte1 at hb
   split at hb
   ·rename_i n
    simp only [Option.some.injEq] at hb; subst hb
    exact ⟨n::ns,rfl,rfl⟩
   ·cases hb
theorem ints_of : ∀ {ns : List Int} {vals : List Value},VRs c (ns.map (fun n=>LV.int .u8 n)) vals → vals = ns.map (Value.int .u8)
 | [],[],_=>rfl
 | [],_::_,h=>by have:=h.len; simp at this
 | _::_,[],h=>by have:=h.len; simp at this
 | n::ns,v::vals,h=>by
   have h1:=h.head.of_int
   have h2:=ints_of (ns:=ns) h.tail
   rw [h1,h2]; rfl
theorem b2s_says {src dst e : TypeId} (hs : P.underlying src = some (.slice e)) (he : P.underlying e = some (.int .u8)) (hd : P.underlying dst = some .string) (hO : HR P c w O) (hM : MR c w) {x v : LV} {u : Value} (hx : VR c x u)
  (h : (elems O x).bind b2sK = some v) : Says P c w (convert src dst u) v:=by
 obtain ⟨xs,hxs,h⟩:=Qa.1 h
 obtain ⟨l,hl,h⟩:=Qa.1 h
 simp only [strK,Option.some.injEq] at h; subst h
 obtain ⟨ns,rfl,rfl⟩:=bytes_ok hl
 have hal : allLen 1 (ns.map fun n=>[LV.int .u8 n]) = true:=by simp [allLen]
 rcases (elems_ok hO hM hx hxs hal).ex with ⟨l,rfl,e⟩ | ⟨q,cap,rfl,hcap,hne⟩
 ·refine ⟨.string ⟨l.toArray⟩,by simp [convert,run_underlying hs,run_underlying hd],?_⟩
  have : (ns.map fun n=>UInt8.ofNat n.toNat) = l:=by
   have e2 : ns = l.map fun b=>(b.toNat : Int):=by
    have : (ns.map fun n=>[LV.int .u8 n]) = (l.map fun b=>(b.toNat : Int)).map fun n=>[LV.int .u8 n]:=by
     rw [e]; simp [u8s,u8]
    exact (List.map_inj_right (fun a b h=>by simpa using h)).1 this
   rw [e2,Qap]
   conv=>rhs; rw [← List.map_id l]
   exact Qal fun b _=>by simp
  rw [this]; exact .str _
 ·have hc:=fun q n=>run_convert_bytes_string (P:=P) w src dst e q n cap hs he hd
  cases ns with
  | nil =>
    refine ⟨.string ⟨#[]⟩,(hc _ _).trans ?_,.str []⟩
    cases q with
    | none=>simp [Conv.bytesToString]; rfl
    | some q =>
      have:=run_bytesToString (P:=P) w q 0 cap [] (by simp [loadCells,loadCellsFrom])
      exact this
  | cons n ns =>
    obtain ⟨b,o,vals,rfl,h1,h2,h3⟩:=hne (by simp)
    have e1 : ((n::ns).map fun n=>[LV.int .u8 n]).flatten = (n::ns).map fun n=>LV.int .u8 n:=by
     generalize n::ns = L
     induction L with
     | nil=>rfl
     | cons a L ih=>simp [ih]
    rw [e1] at h2
    have e2:=ints_of h2
    have hl:=run_loadCells_list (P:=P) w ⟨b,o,none⟩ vals (fun j v hj=>by rw [Addr.add_mid]; exact (h3 j v hj).1)
    have e3 : vals.length = ((n::ns).map fun n=>[LV.int .u8 n]).length:=by rw [h1]; simp
    rw [e3,e2] at hl
    have:=run_bytesToString (P:=P) w ⟨b,o,none⟩ _ cap (n::ns) hl
    refine ⟨_,(hc _ _).trans this,?_⟩
    rw [foldl_push_bytes]
    have : (⟨ByteArray.empty.data++((n::ns).map fun n=>UInt8.ofNat n.toNat).toArray⟩ : ByteArray) = ⟨((n::ns).map fun n=>UInt8.ofNat n.toNat).toArray⟩:=by
     congr 1
     show #[]++_ = _
     simp
    rw [this]; exact .str _
end
end Go.Zv

/- The engine, part 11: an operation that changes nothing answers what the evaluation says. -/
namespace Go.Zv
section
variable {P : Program} {c : Cx} {w : World} {O : Heap} {T : Env} {a : Act}

def Answers (P : Program) (c : Cx) (w : World) (a : Act) (o : Oper) (x : LV) : Prop:=∃ v,(execOp a.eval o).run P w = .ok (.value v) w∧VR c x v

theorem Answers.of {o : Oper} {m : Sem Value} {x : LV} (h : Says P c w m x) (he : execOp a.eval o = (do pure (.value (← m)))) : Answers P c w a o x:=by
 obtain ⟨v,h1,h2⟩:=h
 exact ⟨v,by rw [he]; simp [h1],h2⟩

theorem mapM_parts {α β : Type} {f : α → Option β} : ∀ {l : List α} {m : List β},l.mapM f = some m → l.length = m.length ∧ ∀ (i : Nat) (x : α) (y : β),l[i]? = some x → m[i]? = some y → f x = some y
 | [],m,h=>by simp only [Qdl,pure,Option.some.injEq] at h; subst h; simp
 | x::l,m,h=>by
   simp only [Qbq,bind,pure,Qa,Option.some.injEq] at h
   obtain ⟨y,hy,m',hm,rfl⟩:=h
   obtain ⟨h1,h2⟩:=mapM_parts hm
   refine ⟨by simp [h1],fun i a b ha hb=>?_⟩
   cases i with
   | zero=>simp at ha hb; subst ha; subst hb; exact hy
   | succ i=>simp at ha hb; exact h2 i a b ha hb

theorem cellLV_one {v : Value} {x : LV} (h : cellLV v = some x) : LV.one x = true:=by
 unfold cellLV at h
 split at h <;> simp only [Option.some.injEq,reduceCtorEq] at h <;> subst h <;> rfl
theorem mapM_one : ∀ {l : List Value} {m : List LV},l.mapM cellLV = some m → m.all LV.one = true
 | [],m,h=>by simp only [Qdl,pure,Option.some.injEq] at h; subst h; rfl
 | v::l,m,h=>by
   simp only [Qbq,bind,pure,Qa,Option.some.injEq] at h
   obtain ⟨x,hx,m',hm,rfl⟩:=h
   simp [cellLV_one hx]
   simpa using mapM_one hm
theorem withSt_one : ∀ {l : List LV} {s : List Nat},l.all LV.one = true → (withSt l s).all LV.one = true
 | [],s,h=>by cases s <;> simp [withSt]
 | v::l,[],h=>by cases v <;> simpa [withSt] using h
 | v::l,k::s,h=>by
   simp only [Qb1,Qg] at h
   have h2:=withSt_one (s:=s) h.2
   cases v <;> simp only [withSt,Qb1,Qg] <;> exact ⟨by first | exact h.1 | rfl,h2⟩
theorem zero_one {t : TypeId} {x : LV} (h : zeroLV P t = some x) : x.cells.all LV.one = true:=by
 unfold zeroLV at h
 split at h
 ·split at h
  ·obtain ⟨y,hy,rfl⟩:=Qc.1 h
   unfold constLV at hy
   split at hy
   ·obtain ⟨m,hm,rfl⟩:=Qc.1 hy
    exact withSt_one (mapM_one hm)
   ·have h1:=cellLV_one hy
    unfold typed
    split
    ·simp [LV.one] at h1
    ·rfl
    ·cases y <;> first | (simp [LV.one] at h1; done) | (simp [LV.cells,LV.one]; done)
  ·cases h
 ·cases h

theorem isAgg_struct {t : TypeId} {fs : Array Field} (h : P.underlying t = some (.struct fs)) : isAggT P t = some true:=by simp [isAggT,h]
theorem isAgg_array {t e : TypeId} {n : Nat} (h : P.underlying t = some (.array n e)) : isAggT P t = some true:=by simp [isAggT,h]

theorem val_ok (hT : TR c T a.tmps) (hO : HR P c w O) (hM : MR c w) {o : Oper} {op : AOp} (hop : toOp1 P o.type o.op = some op) {v : LV} (h : valOp T O op = some v) : Answers P c w a o v:=by
 cases ho : o.op with
 | move x =>
   rw [ho] at hop; simp only [toOp1] at hop
   obtain ⟨y,hy,rfl⟩:=Qc.1 hop
   simp only [valOp,Option.some.injEq] at h; subst h
   exact ⟨_,by simp [execOp,ho],opd_ok hT hy⟩
 | assign x =>
   rw [ho] at hop; simp only [toOp1] at hop
   obtain ⟨y,hy,rfl⟩:=Qc.1 hop
   simp [valOp] at h
 | pick cc x y =>
   rw [ho] at hop; simp only [toOp1,bind,Qa,Option.some.injEq] at hop
   obtain ⟨c',hc,a',ha,b',hb,rfl⟩:=hop
   obtain ⟨t,ht,hv⟩:=pick_says (opd_ok hT ha) (opd_ok hT hb) (opd_ok hT hc) (show pickV _ _ _ = some v from h)
   exact ⟨_,by simp [execOp,ho,ht,asBool],hv⟩
 | alloc e =>
   rw [ho] at hop; simp only [toOp1,bind,Qa,Option.some.injEq] at hop
   obtain ⟨z,hz,rfl⟩:=hop
   simp [valOp] at h
 | box e x =>
   rw [ho] at hop; simp only [toOp1,bind,Qa,Option.some.injEq] at hop
   obtain ⟨z,hz,rfl⟩:=hop
   simp [valOp] at h
 | build t ps =>
   rw [ho] at hop; simp only [toOp1] at hop
   refine Answers.of (m:=Instr.build t (ps.map fun (i,x)=>(i,a.eval x))) ?_ (by simp only [execOp,ho])
   split at hop
   ·rename_i fs hu
    simp only [bind,Qa,Option.some.injEq] at hop
    split at hop
    ·rename_i hall
     simp only [Q5,Qa,Option.some.injEq] at hop
     obtain ⟨l,hl,z,hz,rfl⟩:=hop
     obtain ⟨h1,h2⟩:=mapM_parts hl
     refine build_struct_says hu hz (show (fill T l z.cells).bind aggK = some v from h) (zero_one hz) (fun f hf=>?_) (by simpa using h1.symm) (fun i p q hp hq=>?_)
     ·have:=Qbf.1 hall f hf
      exact Qcn.1 this
     ·simp only [Qcc,Qc] at hq
      obtain ⟨q0,hq0,rfl⟩:=hq
      have:=h2 i q0 p (by simpa using hq0) hp
      simp only [Qa,Option.some.injEq] at this
      obtain ⟨f,hf,n,hn,y,hy,rfl⟩:=this
      exact ⟨⟨f,hf,rfl,hn⟩,opdT_ok hT hy⟩
    ·simp at hop
   ·rename_i n e hu
    simp only [bind,Qa,Option.some.injEq] at hop
    obtain ⟨m,hm,l,hl,z,hz,rfl⟩:=hop
    obtain ⟨h1,h2⟩:=mapM_parts hl
    refine build_array_says hu hz hm (show (fill T l z.cells).bind aggK = some v from h) (zero_one hz) (by simpa using h1.symm) (fun i p q hp hq=>?_)
    simp only [Qcc,Qc] at hq
    obtain ⟨q0,hq0,rfl⟩:=hq
    have:=h2 i q0 p (by simpa using hq0) hp
    simp only [Qa,Option.some.injEq] at this
    obtain ⟨y,hy,rfl⟩:=this
    exact ⟨rfl,rfl,opdT_ok hT hy⟩
   ·cases hop
 | buildSlice t n ps =>
   rw [ho] at hop; simp only [toOp1] at hop
   split at hop
   ·simp only [bind,Qa,Option.some.injEq] at hop
    obtain ⟨st,hst,hop⟩:=hop
    split at hop
    ·simp at hop
    ·simp only [Qa,Option.some.injEq] at hop
     obtain ⟨l,hl,z,hz,rfl⟩:=hop
     simp [valOp] at h
   ·cases hop
 | load t x =>
   rw [ho] at hop; simp only [toOp1,bind,Qa,Option.some.injEq] at hop
   obtain ⟨ag,hag,n,hn,y,hy,rfl⟩:=hop
   exact Answers.of (rd_says hag hn hO hM (opd_ok hT hy) (show rd O ag n _ = some v from h)) (by simp only [execOp,ho])
 | store t x y =>
   rw [ho] at hop; simp only [toOp1,bind,Qa,Option.some.injEq] at hop
   obtain ⟨n,hn,x',hx,y',hy,rfl⟩:=hop
   simp [valOp] at h
 | nilCheck x =>
   rw [ho] at hop; simp only [toOp1] at hop
   obtain ⟨y,hy,rfl⟩:=Qc.1 hop
   have hv:=opd_ok hT hy
   obtain ⟨rfl,⟨q,hq⟩ | ⟨f,us,vs,hq⟩⟩:=nilc_says hv (show nilcV _ = some v from h)
   ·exact ⟨a.eval x,by simp [execOp,ho,hq],hv⟩
   ·exact ⟨a.eval x,by simp [execOp,ho,hq],hv⟩
 | binOp op0 t x y yt =>
   rw [ho] at hop; simp only [toOp1] at hop
   refine Answers.of (m:=do eqGuard op0 t x y (a.eval x) (a.eval y); binOp op0 t (a.eval x) (a.eval y)) ?_ (by simp only [execOp,ho])
   split at hop
   ·simp only [bind,Qa,Option.some.injEq] at hop
    obtain ⟨x',hx,y',hy,rfl⟩:=hop
    exact bin_says (opd_ok hT hx) (opd_ok hT hy) h
   ·simp only [bind,Qa,Option.some.injEq] at hop
    obtain ⟨x',hx,y',hy,rfl⟩:=hop
    exact bin_says (opd_ok hT hx) (opd_ok hT hy) h
   ·rename_i hu
    split at hop
    ·rename_i hcmp
     simp only [bind,Qa,Option.some.injEq] at hop
     obtain ⟨x',hx,y',hy,rfl⟩:=hop
     exact bib_says hcmp hu (opd_ok hT hx) (opd_ok hT hy) h
    ·cases hop
   ·rename_i fs hu
    split at hop
    ·rename_i hcmp
     simp only [bind,Qa,Option.some.injEq] at hop
     obtain ⟨ks,hks,x',hx,y',hy,rfl⟩:=hop
     exact eqa_says hcmp.1 hcmp.2 hks (isAgg_struct hu) (opd_ok hT hx) (opd_ok hT hy) h
    ·cases hop
   ·rename_i n e hu
    split at hop
    ·rename_i hcmp
     simp only [bind,Qa,Option.some.injEq] at hop
     obtain ⟨ks,hks,x',hx,y',hy,rfl⟩:=hop
     exact eqa_says hcmp.1 hcmp.2 hks (isAgg_array hu) (opd_ok hT hx) (opd_ok hT hy) h
    ·cases hop
   ·rename_i e hu
    split at hop
    ·obtain ⟨x',hx,rfl⟩:=Qc.1 hop
     exact isn_says (.inl rfl) hu (opd_ok hT hx) h
    ·obtain ⟨x',hx,rfl⟩:=Qc.1 hop
     exact isn_says (.inr rfl) hu (opd_ok hT hx) h
    ·cases hop
   ·cases hop
 | unOp op0 t x =>
   rw [ho] at hop; simp only [toOp1] at hop
   obtain ⟨y,hy,rfl⟩:=Qc.1 hop
   exact Answers.of (un_says (opd_ok hT hy) (show unV op0 _ = some v from h)) (by simp only [execOp,ho])
 | convert src dst x =>
   rw [ho] at hop; simp only [toOp1] at hop
   refine Answers.of (m:=convert src dst (a.eval x)) ?_ (by simp only [execOp,ho])
   split at hop
   ·rename_i k k2 hs hd
    obtain ⟨y,hy,rfl⟩:=Qc.1 hop
    have hv:=opd_ok hT hy
    simp only [valOp] at h
    unfold convV at h
    split at h
    ·rename_i heq
     rw [heq] at hv
     simp only [Option.some.injEq] at h; subst h
     rw [hv.of_int]
     exact ⟨_,by simp [convert,run_underlying hs,run_underlying hd,Conv.intToInt],.int _ _⟩
    ·cases h
   ·rename_i hs hd
    obtain ⟨y,hy,rfl⟩:=Qc.1 hop
    have hv:=opd_ok hT hy
    simp only [valOp] at h
    unfold sltV at h
    split at h
    ·rename_i xs heq
     rw [heq] at hv
     simp only [cut,bnd,cutK,cutK2,Q5,Option.some.injEq] at h
     subst h
     rw [hv.of_str]
     exact ⟨.string ⟨xs.toArray⟩,by simp [convert,run_underlying hs,run_underlying hd],by simpa [cutStr] using VR.str (c:=c) xs⟩
    ·cases h
   ·rename_i e hs hd
    split at hop
    ·rename_i he
     simp only [if_true] at hop
     obtain ⟨y,hy,rfl⟩:=Qc.1 hop
     exact b2s_says hs he hd hO hM (opd_ok hT hy) h
    ·simp at hop
   ·cases hop
 | makeFunc f x y =>
   rw [ho] at hop; simp only [toOp1,bind,Qa,Option.some.injEq] at hop
   obtain ⟨x',hx,y',hy,rfl⟩:=hop
   simp only [valOp,Option.some.injEq] at h; subst h
   have h1:=toOpds_ok hT hx
   have h2:=toOpds_ok hT hy
   refine ⟨.func f (x.map a.eval) (y.map a.eval),by simp [execOp,ho,Instr.makeFunc],?_⟩
   have:=VR.fn (c:=c) f (evs T x') (evs T y') (x.map a.eval).toList (y.map a.eval).toList h1.len h2.len h1.at_ h2.at_
   rwa [Qab,Qab] at this
 | makeMap t r =>
   rw [ho] at hop
   cases r with
   | none=>simp only [toOp1,Option.some.injEq] at hop; subst hop; simp [valOp] at h
   | some r =>
     cases r with
     | const vv =>
       cases vv <;> simp only [toOp1,reduceCtorEq] at hop
       split at hop
       ·simp only [if_true,Option.some.injEq] at hop; subst hop; simp [valOp] at h
       ·simp at hop
     | _=>simp [toOp1] at hop
 | makeSlice t l cp =>
   rw [ho] at hop; simp only [toOp1] at hop
   split at hop
   ·split at hop
    ·simp only [bind,Qa,Option.some.injEq] at hop
     obtain ⟨_,_,_,_,_,_,_,_,rfl⟩:=hop
     simp [valOp] at h
    ·cases hop
   ·cases hop
 | slice t x lo hi mx =>
   rw [ho] at hop
   refine Answers.of (m:=Instr.sliceAt t (a.eval x) (lo.map a.eval) (hi.map a.eval) (mx.map a.eval)) ?_ (by simp only [execOp,ho])
   have zc : ∀ {e : TypeId} {st : Nat} {y : Opd} {k2 k3 : IntKind} (hlo : lo = none ∨ ∃ k,lo = some (.const (.int k 0))),P.underlying t = some (.slice e) → tsize P e = some st → toOpd x = some y → hi = some (.const (.int k2 0)) → mx = some (.const (.int k3 0)) → zcV st (y.ev T) = some v →
     Says P c w (Instr.sliceAt t (a.eval x) (lo.map a.eval) (hi.map a.eval) (mx.map a.eval)) v:=by
    intro e st y k2 k3 hlo hu hst hy h1 h2 hz
    obtain ⟨rfl,q,l,k,hq⟩:=zc_says (opd_ok hT hy) hz
    subst h1; subst h2
    refine ⟨.slice q 0 0,?_,.nils _ _⟩
    have ev : ∀ z,a.eval (.const z) = z:=fun _=>rfl
    rw [hq]
    rcases hlo with rfl | ⟨k,rfl⟩
    ·simp [Instr.sliceAt,Instr.slice,run_underlying hu,Instr.sliceBounds,Instr.sliceBound,asIntOf,ev,run_size hst]
    ·simp [Instr.sliceAt,Instr.slice,run_underlying hu,Instr.sliceBounds,Instr.sliceBound,asIntOf,ev,run_size hst]
   cases mx with
   | none =>
     simp only [toOp1] at hop
     split at hop
     ·rename_i e hu
      simp only [bind,Qa,Option.some.injEq] at hop
      obtain ⟨st,hst,y,hy,lo',hlo,hi',hhi,rfl⟩:=hop
      exact sls_says hT hu hst hO hlo hhi (opd_ok hT hy) h
     ·rename_i hu
      simp only [bind,Qa,Option.some.injEq] at hop
      obtain ⟨y,hy,lo',hlo,hi',hhi,rfl⟩:=hop
      exact slt_says hT hu hlo hhi (opd_ok hT hy) h
     ·rename_i n e hu
      simp only [bind,Qa,Option.some.injEq] at hop
      obtain ⟨st,hst,y,hy,lo',hlo,hi',hhi,rfl⟩:=hop
      exact sla_says hT hu hst hlo hhi (opd_ok hT hy) h
     ·cases hop
   | some m =>
     have fin : ∀ (hlo : lo = none ∨ ∃ k,lo = some (.const (.int k 0))) (k2 k3 : IntKind),hi = some (.const (.int k2 0)) → some m = some (.const (.int k3 0)) → (match P.underlying t with
       | some (.slice e)=>do some (AOp.zc (← tsize P e) (← toOpd x))
       | _=>none) = some op → Says P c w (Instr.sliceAt t (a.eval x) (lo.map a.eval) (hi.map a.eval) ((some m).map a.eval)) v:=by
      intro hlo k2 k3 e1 e2 hop
      split at hop
      ·rename_i e hu
       simp only [bind,Qa,Option.some.injEq] at hop
       obtain ⟨st,hst,y,hy,rfl⟩:=hop
       exact zc hlo hu hst hy e1 e2 h
      ·cases hop
     unfold toOp1 at hop
     split at hop
     all_goals try (rename_i heq; cases heq; done)
     all_goals try (cases hop; done)
     all_goals try (rename_i heq; injection heq with e1 e2 e3 e4 e5; subst e1; subst e2; exact fin (.inl e3) _ _ e4 e5 hop)
     all_goals try (rename_i heq; injection heq with e1 e2 e3 e4 e5; subst e1; subst e2; exact fin (.inr ⟨_,e3⟩) _ _ e4 e5 hop)
 | fieldAddr t x f =>
   rw [ho] at hop; simp only [toOp1] at hop
   split at hop
   ·rename_i fs hu
    simp only [bind,Qa,Option.some.injEq] at hop
    obtain ⟨fd,hf,n,hn,hop⟩:=hop
    split at hop
    ·simp at hop
    ·rename_i hne
     simp only [Qa,Option.some.injEq] at hop
     obtain ⟨y,hy,rfl⟩:=hop
     exact Answers.of (fad_says hu hf hn hne rfl (opd_ok hT hy) (show fadV _ _ = some v from h)) (by simp only [execOp,ho])
   ·cases hop
 | field t x f =>
   rw [ho] at hop; simp only [toOp1] at hop
   split at hop
   ·rename_i fs hu
    simp only [bind,Qa,Option.some.injEq] at hop
    obtain ⟨fd,hf,ag,hag,n,hn,y,hy,rfl⟩:=hop
    exact Answers.of (fld_says hu hf hag hn rfl (opd_ok hT hy) (show fldV _ _ _ _ = some v from h)) (by simp only [execOp,ho])
   ·cases hop
 | indexAddr t x i =>
   rw [ho] at hop; simp only [toOp1] at hop
   split at hop
   ·rename_i e hu
    simp only [bind,Qa,Option.some.injEq] at hop
    obtain ⟨n,hn,hop⟩:=hop
    split at hop
    ·simp at hop
    simp only [Qa,Option.some.injEq] at hop
    obtain ⟨n2,hn2,y,hy,z,hz2,rfl⟩:=hop
    exact Answers.of (ias_says hu hn2 hO (opd_ok hT hy) (opd_ok hT hz2) (show iasV _ _ _ _ = some v from h)) (by simp only [execOp,ho])
   ·rename_i n0 e hu
    simp only [bind,Qa,Option.some.injEq] at hop
    obtain ⟨n,hn,hop⟩:=hop
    split at hop
    ·simp at hop
    simp only [Qa,Option.some.injEq] at hop
    obtain ⟨n2,hn2,y,hy,z,hz2,rfl⟩:=hop
    exact Answers.of (iaa_says hu hn2 (opd_ok hT hy) (opd_ok hT hz2) (show iaaV _ _ _ _ = some v from h)) (by simp only [execOp,ho])
   ·cases hop
 | index t x i =>
   rw [ho] at hop; simp only [toOp1] at hop
   split at hop
   ·rename_i n0 e hu
    simp only [bind,Qa,Option.some.injEq] at hop
    obtain ⟨ag,hag,n2,hn2,y,hy,z,hz2,rfl⟩:=hop
    exact Answers.of (ixa_says hu hag hn2 (opd_ok hT hy) (opd_ok hT hz2) (show ixaV _ _ _ _ _ = some v from h)) (by simp only [execOp,ho])
   ·rename_i hu
    simp only [bind,Qa,Option.some.injEq] at hop
    obtain ⟨y,hy,z,hz2,rfl⟩:=hop
    exact Answers.of (ixt_says hu (opd_ok hT hy) (opd_ok hT hz2) (show ixtV _ _ = some v from h)) (by simp only [execOp,ho])
   ·cases hop
 | lookup t x k ok =>
   rw [ho] at hop; simp only [toOp1] at hop
   split at hop
   ·rename_i kt e hu
    simp only [bind,Qa,Option.some.injEq] at hop
    obtain ⟨ag,hag,ks,hks,z,hz,y,hy,k',hk,rfl⟩:=hop
    exact Answers.of (lkp_says hu ⟨ag,ks,hag,hks,rfl⟩ hz hO (opd_ok hT hy) (opd_ok hT hk) (show (lkpV _ _ _ _).bind _ = some v from h)) (by simp only [execOp,ho])
   ·cases hop
 | mapUpdate t m k x =>
   rw [ho] at hop; simp only [toOp1] at hop
   split at hop
   ·simp only [bind,Qa,Option.some.injEq] at hop
    obtain ⟨ag,hag,ks,hks,y,hy,k',hk,x',hx,rfl⟩:=hop
    simp [valOp] at h
   ·cases hop
 | insert t m k x =>
   rw [ho] at hop; simp only [toOp1] at hop
   split at hop
   ·simp only [bind,Qa,Option.some.injEq] at hop
    obtain ⟨ag,hag,ks,hks,y,hy,k',hk,x',hx,rfl⟩:=hop
    simp [valOp] at h
   ·cases hop
 | extract x i =>
   rw [ho] at hop; simp only [toOp1,bind,Qa,Option.some.injEq] at hop
   obtain ⟨y,hy,rfl⟩:=hop
   exact Answers.of (ext_says (opd_ok hT hy) (show extV i _ = some v from h)) (by simp only [execOp,ho])
 | call cl =>
   rw [ho] at hop; simp only [toOp1] at hop
   have fin : ∀ (b : Builtin) (m : Sem Value),cl.callee = .builtin b → builtin b cl.argTypes o.type (cl.args.map fun | .const _=>true | _=>false) (cl.args.map a.eval) = (do pure (.value (← m))) → Says P c w m v → Answers P c w a o v:=by
    intro b m hb hm hs
    exact Answers.of hs (by simp only [execOp,ho,resolve,hb,pure_bind,invoke]; exact hm)
   split at hop
   ·obtain ⟨m,hm,rfl⟩:=Qc.1 hop
    simp [valOp] at h
   ·simp only [bind,Qa,Option.some.injEq] at hop
    obtain ⟨f,hf,m,hm,rfl⟩:=hop
    simp [valOp] at h
   ·rename_i hb
    have one : ∀ {x : Operand},cl.args.toList = [x] → cl.args.map a.eval = #[a.eval x]:=by
     intro x hx
     have : cl.args = #[x]:=by rw [← Qab (xs:=cl.args),hx]
     rw [this]; simp
    have ar : ∀ {d : TypeDesc},(cl.argTypes[0]?).bind P.underlying = some d → ∃ t,cl.argTypes[0]? = some t∧P.underlying t = some d:=fun h=>Qa.1 h
    split at hop
    ·rename_i e x h1 h2
     obtain ⟨y,hy,rfl⟩:=Qc.1 hop
     obtain ⟨t,ht,hu⟩:=ar h1
     refine fin _ (Builtin.len_ cl.argTypes o.type (cl.args.map a.eval)) hb rfl ?_
     rw [one h2]
     exact len_says (.inl ⟨rfl,e,hu⟩) ht hO (opd_ok hT hy) h
    ·rename_i x h1 h2
     obtain ⟨y,hy,rfl⟩:=Qc.1 hop
     obtain ⟨t,ht,hu⟩:=ar h1
     refine fin _ (Builtin.len_ cl.argTypes o.type (cl.args.map a.eval)) hb rfl ?_
     rw [one h2]
     exact len_says (.inr (.inl ⟨rfl,hu⟩)) ht hO (opd_ok hT hy) h
    ·rename_i k e x h1 h2
     obtain ⟨y,hy,rfl⟩:=Qc.1 hop
     obtain ⟨t,ht,hu⟩:=ar h1
     refine fin _ (Builtin.len_ cl.argTypes o.type (cl.args.map a.eval)) hb rfl ?_
     rw [one h2]
     exact len_says (.inr (.inr ⟨rfl,k,e,hu⟩)) ht hO (opd_ok hT hy) h
    ·rename_i n e x h1 h2
     simp only [Option.some.injEq] at hop; subst hop
     obtain ⟨t,ht,hu⟩:=ar h1
     refine fin _ (Builtin.len_ cl.argTypes o.type (cl.args.map a.eval)) hb rfl ?_
     rw [one h2]
     simp only [valOp,Option.some.injEq] at h; subst h
     exact ⟨.int .i64 n,by simp [Builtin.len_,ht,run_underlying hu,goInt],.int _ _⟩
    ·cases hop
   ·split at hop
    ·split at hop
     ·simp only [bind,Qa,Option.some.injEq] at hop
      obtain ⟨_,_,_,_,_,_,_,_,rfl⟩:=hop
      simp [valOp] at h
     ·cases hop
    ·split at hop
     ·simp only [bind,Qa,Option.some.injEq] at hop
      obtain ⟨_,_,_,_,_,_,rfl⟩:=hop
      simp [valOp] at h
     ·cases hop
    ·cases hop
   ·split at hop
    ·simp only [bind,Qa,Option.some.injEq] at hop
     obtain ⟨_,_,_,_,_,_,rfl⟩:=hop
     simp [valOp] at h
    ·cases hop
   ·rename_i hb
    have one : ∀ {x : Operand},cl.args.toList = [x] → cl.args.map a.eval = #[a.eval x]:=by
     intro x hx
     have : cl.args = #[x]:=by rw [← Qab (xs:=cl.args),hx]
     rw [this]; simp
    split at hop
    ·rename_i e x h1 h2
     obtain ⟨y,hy,rfl⟩:=Qc.1 hop
     obtain ⟨t,ht,hu⟩:=Qa.1 h1
     refine fin _ (Builtin.cap_ cl.argTypes o.type (cl.args.map a.eval)) hb rfl ?_
     rw [one h2]
     exact cap_says ht hu (opd_ok hT hy) h
    ·rename_i n e x h1 h2
     simp only [Option.some.injEq] at hop; subst hop
     obtain ⟨t,ht,hu⟩:=Qa.1 h1
     refine fin _ (Builtin.cap_ cl.argTypes o.type (cl.args.map a.eval)) hb rfl ?_
     rw [one h2]
     simp only [valOp,Option.some.injEq] at h; subst h
     exact ⟨.int .i64 n,by simp [Builtin.cap_,ht,run_underlying hu,goInt],.int _ _⟩
    ·cases hop
   ·rename_i hb
    obtain ⟨l,hl,rfl⟩:=Qc.1 hop
    exact fin _ (Builtin.min_ cl.argTypes o.type (cl.args.map a.eval)) hb rfl (mn_says (toOpds_ok hT hl) h)
   ·rename_i hb
    obtain ⟨l,hl,rfl⟩:=Qc.1 hop
    exact fin _ (Builtin.max_ cl.argTypes o.type (cl.args.map a.eval)) hb rfl (mx_says (toOpds_ok hT hl) h)
   ·cases hop
 | _=>rw [ho] at hop; simp [toOp1] at hop
end
end Go.Zv

/- The engine, part 12: what becomes of the state where memory is made or written. -/
namespace Go.Zv
section
variable {P : Program} {c : Cx} {w w' : World} {s : St} {tmps : Array Value} {Ts : List (Array Value)}

structure Grew (w w' : World) : Prop where
 size : w.heap.size≤w'.heap.size
 same : ∀ b,b < w.heap.size → w'.heap[b]? = w.heap[b]?
 frz : ∀ a,w'.frozen? a = w.frozen? a
 env : w'.os = w.os∧w'.output = w.output
theorem Grew.loop (g : Grew w w') : ∀ (b : Nat) (r : Loop),w.heap[b]? = some (Go.Obj.loop r) → ∃ r',w'.heap[b]? = some (Go.Obj.loop r'):=fun b r h =>
 ⟨r,by rw [g.same b (Qaj.1 h).1]; exact h⟩
theorem Grew.refl (w : World) : Grew w w:=⟨Q8 _,fun _ _=>rfl,fun _=>rfl,rfl,rfl⟩
def Go.Obj.soft : Go.Obj → Bool
 | .cells _ _ (lo,hi)=>decide (hi≤lo)
 | _=>true
theorem Grew.push (w : World) (o : Go.Obj) (ho : Go.Obj.soft o = true) : Grew w { w with heap:=w.heap.push o } :=
 ⟨by simp,fun b hb=>by simp [Array.getElem?_push,Nat.ne_of_lt hb],fun a=>by
  simp only [World.frozen?,Array.getElem?_push]
  split
  ·rename_i c e lo hi heq
   split at heq
   ·rename_i hb
    simp only [Option.some.injEq] at heq; subst heq
    simp only [Go.Obj.soft,decide_eq_true_eq] at ho
    rw [hb]
    have : w.heap[w.heap.size]? = none:=by simp
    simp only [this]
    rw [Bool.and_eq_false_iff]
    by_cases h : lo≤a.off
    ·right; simp; omega
    ·left; simpa using h
   ·rw [heq]
  ·rename_i hno
   by_cases hb : a.block = w.heap.size
   ·rw [hb]
    have : w.heap[w.heap.size]? = none:=by simp
    simp only [this]
   ·simp only [hb,if_false] at hno
    cases hh : w.heap[a.block]? with
    | none=>rfl
    | some x =>
      cases x with
      | cells c e fr=>obtain ⟨lo,hi⟩:=fr; exact absurd hh (hno c e lo hi)
      | _=>rfl,rfl,rfl⟩
theorem Grew.trans {w w1 w2 : World} (h : Grew w w1) (k : Grew w1 w2) : Grew w w2 :=
 ⟨Qcv h.size k.size,fun b hb=>by rw [k.same b (Qaf hb h.size),h.same b hb],fun a=>(k.frz a).trans (h.frz a),k.env.1.trans h.env.1,k.env.2.trans h.env.2⟩
theorem Grew.drew (w : World) : Grew w w.drew:=⟨Q8 _,fun _ _=>rfl,fun _=>rfl,rfl,rfl⟩
theorem Grew.cell (g : Grew w w') {b o : Nat} {v : Value} (h : w.cell? ⟨b,o,none⟩ = some v) : w'.cell? ⟨b,o,none⟩ = some v:=by
 rw [cell_of_heap (g.same b (lt_of_cell h))]; exact h

theorem OR.mu {h : Home} {o : Obj} (H : OR P c w h o) (hn : h.nul = false) : ∀ x,c.mu h.blk x = none:=by
 cases H with
 | box _ _ _ _ _ hm=>exact hm
 | row _ _ _ _ _ _ _ hm=>exact hm hn
 | map _ _ _ _ _ _ _ _ hm=>exact hm
 | loop _ _ _ _ _ _ _ _ _ _ _ _ _ _ _ _ _ _ hm=>exact hm

theorem SR.grew (H : SR P c s tmps Ts w) (g : Grew w w') : SR P c s tmps Ts w'∧Tr c w c w':=by
 refine ⟨⟨H.T,H.Fl,H.F,fun id o ho=>?_,H.dom,H.inj,fun b o v hv=>g.cell (H.mu b o v hv),fun id h hi hn=>Qaf (H.lt id h hi hn) g.size⟩,
  ⟨g.size,fun b hb _=>g.same b hb,fun _ _ _ h=>h,fun id h hi hn=>.inl ⟨id,h,hi,hn,rfl⟩,g.frz,g.env,fun _ _ _ h=>.inl h,g.loop⟩⟩
 obtain ⟨h,hi,hor⟩:=H.O id o ho
 exact ⟨h,hi,hor.mono (fun _ _ _ h=>h) (fun _ _ h=>h) (fun hn=>g.same _ (H.lt id h hi hn)) (fun hn=>hor.mu hn)⟩

theorem SR.push (H : SR P c s tmps Ts w) {id : Nat} (hno : oget s.O id = none) {o : Obj} {h : Home} (g : Grew w w') (hb : h.nul = false → w.heap.size≤h.blk∧h.blk < w'.heap.size)
  (ho : ∀ c' : Cx,(∀ b o v,c.mu b o = some v → c'.mu b o = some v) → (∀ j hh,c.io j = some hh → c'.io j = some hh) → (h.nul = false → ∀ x,c'.mu h.blk x = none) → OR P c' w' h o) :
  ∃ c',SR P c' (St.push id o s) tmps Ts w'∧Tr c w c' w'∧c'.io id = some h∧(∀ j hh,c.io j = some hh → c'.io j = some hh)∧c'.mu = c.mu:=by
 obtain ⟨H',t'⟩:=H.grew g
 have hnone : c.io id = none:=by
  cases hi : c.io id with
  | none=>rfl
  | some hh=>obtain ⟨o,e⟩:=H.dom id hh hi; rw [hno] at e; cases e
 let c' : Cx:=⟨c.mu,fun j=>if j = id then some h else c.io j⟩
 have hio : ∀ j hh,c.io j = some hh → c'.io j = some hh:=fun j hh hj=>by
  by_cases e : j = id
  ·subst e; rw [hnone] at hj; cases hj
  ·simp only [c',if_neg e]; exact hj
 have hmu : ∀ b o v,c.mu b o = some v → c'.mu b o = some v:=fun _ _ _ h=>h
 have hid : c'.io id = some h:=by simp [c']
 have hmn : h.nul = false → ∀ x,c'.mu h.blk x = none:=fun hn x=>by
  cases hv : c'.mu h.blk x with
  | none=>rfl
  | some v =>
    have:=lt_of_cell (H.mu _ _ _ hv)
    have:=(hb hn).1
    omega
 refine ⟨c',⟨H'.T.mono hmu hio,H'.Fl,fun i F t hF ht=>(H'.F i F t hF ht).mono hmu hio,fun j oo hj=>?_,fun j hh hj=>?_,fun i j h1 h2 hij hi1 hi2 hn1 hn2=>?_,H'.mu,fun j hh hj hn=>?_⟩,⟨g.size,fun b hb' _=>g.same b hb',hmu,fun j hh hj hn=>?_,g.frz,g.env,fun _ _ _ h=>.inl h,g.loop⟩,hid,hio,rfl⟩
 ·simp only [St.push,oget] at hj
  split at hj
  ·rename_i e; subst e
   simp only [Option.some.injEq] at hj; subst hj
   exact ⟨h,hid,ho c' hmu hio hmn⟩
  ·obtain ⟨hh,hi,hor⟩:=H'.O j oo hj
   exact ⟨hh,hio _ _ hi,hor.mono hmu hio (fun _=>rfl) (fun hn=>hor.mu hn)⟩
 ·by_cases e : j = id
  ·subst e; exact ⟨o,by simp [St.push,oget]⟩
  ·simp only [c',if_neg e] at hj
   obtain ⟨o',ho'⟩:=H'.dom j hh hj
   exact ⟨o',by simp [St.push,oget,Ne.symm e,ho']⟩
 ·by_cases e1 : i = id
  ·subst e1
   have : h1 = h:=by rw [hid] at hi1; exact (Option.some.inj hi1).symm
   subst this
   have hj2 : c.io j = some h2:=by simpa only [c',if_neg (Ne.symm hij)] using hi2
   have:=H.lt j h2 hj2 hn2
   have:=(hb hn1).1
   omega
  ·by_cases e2 : j = id
   ·subst e2
    have : h2 = h:=by rw [hid] at hi2; exact (Option.some.inj hi2).symm
    subst this
    have hi3 : c.io i = some h1:=by simpa only [c',if_neg hij] using hi1
    have:=H.lt i h1 hi3 hn1
    have:=(hb hn2).1
    omega
   ·exact H'.inj i j h1 h2 hij (by simpa only [c',if_neg e1] using hi1) (by simpa only [c',if_neg e2] using hi2) hn1 hn2
 ·by_cases e : j = id
  ·subst e
   have : hh = h:=by rw [hid] at hj; exact (Option.some.inj hj).symm
   subst this; exact (hb hn).2
  ·exact H'.lt j hh (by simpa only [c',if_neg e] using hj) hn
 ·by_cases e : j = id
  ·subst e
   have : hh = h:=by rw [hid] at hj; exact (Option.some.inj hj).symm
   subst this; exact .inr (hb hn).1
  ·exact .inl ⟨j,hh,by simpa only [c',if_neg e] using hj,hn,rfl⟩

theorem free_gone (s : St) (id : Nat) : oget (St.free id s).O id = none:=by
 unfold St.free
 cases h : oget s.O id with
 | none=>exact h
 | some o=>simp [freeO,St.sub,oget_hsub,oget_odel]

theorem SR.new (H : SR P c s tmps Ts w) (id : Nat) {o : Obj} {h : Home} (g : Grew w w') (hb : h.nul = false → w.heap.size≤h.blk∧h.blk < w'.heap.size)
  (ho : ∀ c' : Cx,(∀ b o v,c.mu b o = some v → c'.mu b o = some v) → (∀ j hh,j ≠ id → c.io j = some hh → c'.io j = some hh) → (h.nul = false → ∀ x,c'.mu h.blk x = none) → OR P c' w' h o) :
  ∃ c',SR P c' (St.new id o s) tmps Ts w'∧Tr c w c' w'∧c'.io id = some h∧(∀ j hh,j ≠ id → c.io j = some hh → c'.io j = some hh):=by
 obtain ⟨c1,H1,t1,hn,hio,_⟩:=H.free id
 obtain ⟨c2,H2,t2,hid,hio2,hmu⟩:=H1.push (free_gone s id) g hb (fun c' hm hi hx=>ho c' (fun b o v hv=>hm b o v (t1.mu b o v hv)) (fun j hh hj hjj=>hi j hh (by rw [hio j hj]; exact hjj)) hx)
 exact ⟨c2,H2,t1.trans t2,hid,fun j hh hj hjj=>hio2 j hh (by rw [hio j hj]; exact hjj)⟩

structure Only (w w' : World) (b : Nat) : Prop where
 size : w'.heap.size = w.heap.size
 same : ∀ b',b' ≠ b → w'.heap[b']? = w.heap[b']?
 frz : ∀ a,w'.frozen? a = w.frozen? a
 env : w'.os = w.os∧w'.output = w.output
 loop : ∀ r : Loop,w.heap[b]? = some (Go.Obj.loop r) → ∃ r',w'.heap[b]? = some (Go.Obj.loop r')
theorem Only.loops {b : Nat} (h : Only w w' b) : ∀ (b' : Nat) (r : Loop),w.heap[b']? = some (Go.Obj.loop r) → ∃ r',w'.heap[b']? = some (Go.Obj.loop r'):=fun b' r hr=>by
 by_cases e : b' = b
 ·subst e; exact h.loop r hr
 ·exact ⟨r,by rw [h.same b' e]; exact hr⟩
theorem SR.upd (H : SR P c s tmps Ts w) {id : Nat} {o o' : Obj} {h : Home} (hget : oget s.O id = some o) (hi : c.io id = some h) (hn : h.nul = false) (hw : Only w w' h.blk) (ho : OR P c w' h o') :
  SR P c { s with O:=oset s.O id o' } tmps Ts w'∧Tr c w c w':=by
 have hmn:=ho.mu hn
 refine ⟨⟨H.T,H.Fl,H.F,fun j oo hj=>?_,fun j hh hj=>?_,H.inj,fun b x v hv=>?_,fun j hh hj hnn=>by rw [hw.size]; exact H.lt j hh hj hnn⟩,⟨by rw [hw.size]; exact Q8 _,fun b hb hf=>hw.same b (fun e=>hf id h hi hn e.symm),fun _ _ _ h=>h,fun j hh hj hnn=>.inl ⟨j,hh,hj,hnn,rfl⟩,hw.frz,hw.env,fun _ _ _ h=>.inl h,hw.loops⟩⟩
 ·rw [oget_oset] at hj
  split at hj
  ·rename_i e; subst e
   rw [hget] at hj; simp only [Qay,Option.some.injEq] at hj; subst hj
   exact ⟨h,hi,ho⟩
  ·rename_i e
   obtain ⟨hh,hi2,hor⟩:=H.O j oo hj
   exact ⟨hh,hi2,hor.mono (fun _ _ _ h=>h) (fun _ _ h=>h) (fun hnn=>hw.same _ (H.inj j id hh h e hi2 hi hnn hn)) (fun hnn=>hor.mu hnn)⟩
 ·obtain ⟨oo,ho2⟩:=H.dom j hh hj
  simp only [oget_oset]
  by_cases e : j = id
  ·subst e; exact ⟨o',by simp [hget]⟩
  ·exact ⟨oo,by simp [e,ho2]⟩
 ·rw [cell_of_heap (hw.same b fun e=>by subst e; rw [hmn x] at hv; cases hv)]
  exact H.mu b x v hv

theorem SR.move (H : SR P c s tmps Ts w) {id : Nat} {o : Obj} {st : Nat} {ys : List (List LV)} {h h' : Home} (hget : oget s.O id = some o) (hi : c.io id = some h)
  (hsz : w.heap.size≤w'.heap.size) (hw : ∀ b,b < w.heap.size → (h.nul = false → b ≠ h.blk) → w'.heap[b]? = w.heap[b]?)
  (hb : h'.nul = false → h'.blk < w'.heap.size∧((h.nul = false∧h'.blk = h.blk) ∨ w.heap.size≤h'.blk))
  (hfz : ∀ a,w'.frozen? a = w.frozen? a) (henv : w'.os = w.os∧w'.output = w.output) (hor0 : h.nul = false → ∀ x,c.mu h.blk x = none) (hlp : ∀ (b : Nat) (r : Loop),w.heap[b]? = some (Go.Obj.loop r) → ∃ r',w'.heap[b]? = some (Go.Obj.loop r'))
  (ho : ∀ c' : Cx,c'.mu = c.mu → (h'.nul = false → ∀ x,c'.mu h'.blk x = none) → OR P c' w' h' (.row st ys)) :
  ∃ c',SR P c' (St.sub .kill id { s with O:=oset s.O id (.row st ys) }) tmps Ts w'∧Tr c w c' w'∧c'.io id = some h'∧c'.mu = c.mu:=by
 let c' : Cx:=⟨c.mu,fun j=>if j = id then some h' else c.io j⟩
 have hid : c'.io id = some h':=by simp [c']
 have hne : ∀ j hh,j ≠ id → c.io j = some hh → c'.io j = some hh:=fun j hh hj hjj=>by simp only [c',if_neg hj]; exact hjj
 have hmu : ∀ b o v,c.mu b o = some v → c'.mu b o = some v:=fun _ _ _ h=>h
 have gg : Goes_ c c' id .kill:=⟨hmu,hne,fun xs h=>by cases h⟩
 have hmn : h'.nul = false → ∀ x,c'.mu h'.blk x = none:=fun hn x=>by
  rcases (hb hn).2 with ⟨hn1,e⟩ | hle
  ·rw [e]; exact hor0 hn1 x
  ·cases hv : c'.mu h'.blk x with
   | none=>rfl
   | some v=>have:=lt_of_cell (H.mu _ _ _ hv); omega
 have hcell : ∀ b x v,c.mu b x = some v → w'.cell? ⟨b,x,none⟩ = some v:=fun b x v hv=>by
  have:=H.mu b x v hv
  rw [cell_of_heap (hw b (lt_of_cell this) fun hn e=>by subst e; rw [hor0 hn x] at hv; cases hv)]
  exact this
 refine ⟨c',⟨H.T.sub gg,by simp only [St.sub,essub_length]; exact H.Fl,fun i F t hF ht=>?_,fun j oo hj=>?_,fun j hh hj=>?_,fun i j h1 h2 hij hi1 hi2 hn1 hn2=>?_,hcell,fun j hh hj hn=>?_⟩,⟨hsz,fun b hb' hf=>hw b hb' fun hn e=>hf id h hi hn e.symm,hmu,fun j hh hj hn=>?_,hfz,henv,fun _ _ _ h=>.inl h,hlp⟩,hid,rfl⟩
 ·simp only [St.sub,essub_get] at hF
  obtain ⟨F0,hF0,rfl⟩:=Qc.1 hF
  exact (H.F i F0 t hF0 ht).sub gg
 ·simp only [St.sub,oget_hsub,oget_oset] at hj
  by_cases e : j = id
  ·subst e
   simp only [if_true,hget,Qay,Obj.sub,Option.some.injEq] at hj
   subst hj
   exact ⟨h',hid,ho c' rfl hmn⟩
  ·simp only [if_neg e] at hj
   obtain ⟨o0,ho0,rfl⟩:=Qc.1 hj
   obtain ⟨hh,hhi,hhor⟩:=H.O j o0 ho0
   refine ⟨hh,hne j hh e hhi,?_⟩
   have h3:=hhor.sub gg (fun hn=>hhor.mu hn)
   have h4 : hh.nul = false → w'.heap[hh.blk]? = w.heap[hh.blk]?:=fun hn=>hw _ (H.lt j hh hhi hn) fun hn2=>H.inj j id hh h e hhi hi hn hn2
   exact h3.mono (fun _ _ _ h=>h) (fun _ _ h=>h) h4 (fun hn=>hhor.mu hn)
 ·simp only [St.sub,oget_hsub,oget_oset]
  by_cases e : j = id
  ·subst e; exact ⟨.row st ys,by simp [hget,Obj.sub]⟩
  ·simp only [c',if_neg e] at hj
   obtain ⟨o0,ho0⟩:=H.dom j hh hj
   exact ⟨Obj.sub .kill id o0,by simp [e,ho0]⟩
 ·by_cases e1 : i = id
  ·subst e1
   have : h1 = h':=by rw [hid] at hi1; exact (Option.some.inj hi1).symm
   subst this
   have hj2 : c.io j = some h2:=by simpa only [c',if_neg (Ne.symm hij)] using hi2
   rcases (hb hn1).2 with ⟨hn,e⟩ | hle
   ·rw [e]; exact H.inj i j h h2 hij hi hj2 hn hn2
   ·have:=H.lt j h2 hj2 hn2; omega
  ·by_cases e2 : j = id
   ·subst e2
    have : h2 = h':=by rw [hid] at hi2; exact (Option.some.inj hi2).symm
    subst this
    have hi3 : c.io i = some h1:=by simpa only [c',if_neg hij] using hi1
    rcases (hb hn2).2 with ⟨hn,e⟩ | hle
    ·rw [e]; exact H.inj i j h1 h hij hi3 hi hn1 hn
    ·have:=H.lt i h1 hi3 hn1; omega
   ·exact H.inj i j h1 h2 hij (by simpa only [c',if_neg e1] using hi1) (by simpa only [c',if_neg e2] using hi2) hn1 hn2
 ·by_cases e : j = id
  ·subst e
   have : hh = h':=by rw [hid] at hj; exact (Option.some.inj hj).symm
   subst this; exact (hb hn).1
  ·exact Qaf (H.lt j hh (by simpa only [c',if_neg e] using hj) hn) hsz
 ·by_cases e : j = id
  ·subst e
   have : hh = h':=by rw [hid] at hj; exact (Option.some.inj hj).symm
   subst this
   rcases (hb hn).2 with ⟨hn2,e⟩ | hle
   ·exact .inl ⟨j,h,hi,hn2,e.symm⟩
   ·exact .inr hle
  ·exact .inl ⟨j,hh,by simpa only [c',if_neg e] using hj,hn,rfl⟩
end
end Go.Zv
