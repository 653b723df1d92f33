/- Part of the proof: the evaluation of the program's code and its tie to the machine, or what functions of the program compute over it. -/
import Derived.Test.YtbpneedpcccpaaaGreatPart2
import Derived.Test.YtbpneedpcccpaaaGreatPart1
set_option maxRecDepth 100000
set_option maxHeartbeats 4000000
set_option linter.unusedSimpArgs false
set_option linter.unusedVariables false
namespace Go.Proofs.YtbpneedpcccpaaaGreat
open Go Go.Zv
open Go.Geo (Pt)
structure Bd where
 k : Int
 i : Int
 j : Int
 ar : List Pt
abbrev bdc (b : Bd) : List LV:=[.z b.k,.z b.i,.z b.j,.vs (b.ar.map Go.Geo.c2)]
abbrev bpc (p : Bd × Bd) : List LV:=[.z p.1.k,.z p.1.i,.z p.1.j,.vs (p.1.ar.map Go.Geo.c2),.z p.2.k,.z p.2.i,.z p.2.j,.vs (p.2.ar.map Go.Geo.c2)]
def bar (a b : Bd) : Bool :=
 if a.k = 1 then
  if b.k = 1 then !decide (a.i = b.i) || (decide (a.j = 0) && decide (b.j = 2))
  else if b.k = 2 then !decide (a.i = b.i) || decide (a.j = 0)
  else if b.k = 3 then decide (a.j < 2)
  else true
 else decide (a.k = 2)
def isB (a b : Bd) : Bool:=decide (a.k = b.k) && (decide (a.i = b.i) && decide (a.j = b.j))
theorem c46 (n a b : Int) : pc E 46 [.z n,.z a,.z b] = some (.bool (decide (a≤n) && decide (n≤b))):=by
 by_cases h : a≤n
 ·rw [pc_eq]; simp +contextual -implicitDefEqProofs (maxSteps:=2000000) only [go_sem,E_46,A46,h]
 ·rw [pc_eq]; simp +contextual -implicitDefEqProofs (maxSteps:=2000000) only [go_sem,E_46,A46,h]
theorem c112 (a b : Bd) : pc E 112 [.agg (bdc a),.agg (bdc b)] = some (.bool (!decide (a.i = b.i) || (decide (a.j = 0) && decide (b.j = 2)))):=by
 by_cases h : a.i = b.i
 ·by_cases h2 : a.j = 0
  ·by_cases h3 : b.j = 2
   ·rw [pc_eq]; simp +contextual -implicitDefEqProofs (maxSteps:=2000000) only [go_sem,E_112,A112,h,h2,h3,bne_self_eq_false,beq_self_eq_true]
   ·have h3' : (b.j == 2) = false:=by simpa using h3
    rw [pc_eq]; simp +contextual -implicitDefEqProofs (maxSteps:=2000000) only [go_sem,E_112,A112,h,h2,h3,h3',bne_self_eq_false,beq_self_eq_true]
  ·have h2' : (a.j == 0) = false:=by simpa using h2
   rw [pc_eq]; simp +contextual -implicitDefEqProofs (maxSteps:=2000000) only [go_sem,E_112,A112,h,h2,h2',bne_self_eq_false,beq_self_eq_true]
 ·have h' : (a.i != b.i) = true:=by simpa using h
  rw [pc_eq]; simp +contextual -implicitDefEqProofs (maxSteps:=2000000) only [go_sem,E_112,A112,h,h']
theorem c113 (a b : Bd) : pc E 113 [.agg (bdc a),.agg (bdc b)] = some (.bool (!decide (a.i = b.i) || decide (a.j = 0))):=by
 by_cases h : a.i = b.i
 ·by_cases h2 : a.j = 0
  ·rw [pc_eq]; simp +contextual -implicitDefEqProofs (maxSteps:=2000000) only [go_sem,E_113,A113,h,h2,bne_self_eq_false,beq_self_eq_true]
  ·have h2' : (a.j == 0) = false:=by simpa using h2
   rw [pc_eq]; simp +contextual -implicitDefEqProofs (maxSteps:=2000000) only [go_sem,E_113,A113,h,h2,h2',bne_self_eq_false,beq_self_eq_true]
 ·have h' : (a.i != b.i) = true:=by simpa using h
  rw [pc_eq]; simp +contextual -implicitDefEqProofs (maxSteps:=2000000) only [go_sem,E_113,A113,h,h']
theorem c114 (a b : Bd) : pc E 114 [.agg (bdc a),.agg (bdc b)] = some (.bool (decide (a.j < 2))):=by
 rw [pc_eq]; simp +contextual -implicitDefEqProofs (maxSteps:=2000000) only [go_sem,E_114,A114]
theorem c115 (a b : Bd) : pc E 115 [.agg (bdc a),.agg (bdc b)] = some (.bool true):=by
 rw [pc_eq]; simp +contextual -implicitDefEqProofs (maxSteps:=2000000) only [go_sem,E_115,A115]
theorem c28 (a b : Bd) : pc E 28 [.agg (bdc a),.agg (bdc b)] = some (.bool (isB a b)):=by
 unfold isB
 by_cases h : a.k = b.k
 ·by_cases h2 : a.i = b.i
  ·by_cases h3 : a.j = b.j
   ·rw [pc_eq]; simp +contextual -implicitDefEqProofs (maxSteps:=2000000) only [go_sem,E_28,A28,h,h2,h3,beq_self_eq_true]
   ·have h3' : (a.j == b.j) = false:=by simpa using h3
    rw [pc_eq]; simp +contextual -implicitDefEqProofs (maxSteps:=2000000) only [go_sem,E_28,A28,h,h2,h3,h3',beq_self_eq_true]
  ·have h2' : (a.i == b.i) = false:=by simpa using h2
   rw [pc_eq]; simp +contextual -implicitDefEqProofs (maxSteps:=2000000) only [go_sem,E_28,A28,h,h2,h2',beq_self_eq_true]
 ·have h' : (a.k == b.k) = false:=by simpa using h
  rw [pc_eq]; simp +contextual -implicitDefEqProofs (maxSteps:=2000000) only [go_sem,E_28,A28,h,h']
def trn (b : Bd) : Bd:=if b.k = 1 ∨ b.k = 2 then { b with i:=w64 (1 - b.i) } else b
abbrev rlK (a b : Int) : LV:=.agg [.z a,.z b]
abbrev rlV (f : Nat) : LV:=.agg [.fn (.func f) [] []]
theorem c87 : pc E 87 [] = some (.om [(rlK 1 1,rlV 112),(rlK 1 2,rlV 113),(rlK 1 3,rlV 114),(rlK 1 4,rlV 115),(rlK 2 2,rlV 115),(rlK 2 3,rlV 115),(rlK 2 4,rlV 115)]):=by
 refine pc_of_run 60 ?_
 kernel_rfl
end Go.Proofs.YtbpneedpcccpaaaGreat

namespace Go.Proofs.YtbpneedpcccpaaaGreat
open Go Go.Zv
open Go.Geo (Pt)
def ldP (ax ay dx dy : Int) (p : Pt) : Pt:=(w64 (ax + w64 (16 * w64 (w64 (p.1 * dx) - w64 (p.2 * dy)))),w64 (ay + w64 (16 * w64 (w64 (p.1 * dy) + w64 (p.2 * dx)))))
def laid_ (ax ay dx dy : Int) (l : List Pt) : List Pt:=l.map (ldP ax ay dx dy)
theorem take_ml {α β : Type} (f : α → β) (l : List α) : List.take l.length (l.map f) = l.map f:=Qr (by simp)
abbrev ldR (ax ay dx dy : Int) (l : List Pt) (k : Nat) : List (List LV):=(l.take k).map (fun q=>Go.Geo.c2 (ldP ax ay dx dy q))
theorem c79 (nm : List UInt8) (sh : List Pt) (pl ax ay dx dy dn : Int) (hl : sh.length≤1000) : pc E 79 [.agg [.str nm,.vs (sh.map Go.Geo.c2),.z pl],.agg [.z ax,.z ay],.agg [.z dx,.z dy,.z dn]] = some (.vs ((laid_ ax ay dx dy sh).map Go.Geo.c2)):=by
 have lp:=loop_to (fun S=>(K E A106_L0 S).bind (blockR 0 (some [5]) [7,20,21]))
  (fun k=>⟨[(1,.fn (Fn.func 107) [] [.ptr 1024 0,.ptr 1280 0]),(5,.bs 1051136 0 (ldR ax ay dx dy sh k).length),(11,.vs (sh.map Go.Geo.c2)),(12,.z sh.length),(13,.z k)],[[(9,.fn (Fn.func 107) [] [.ptr 1024 0,.ptr 1280 0]),(8,.vs (sh.map Go.Geo.c2)),(7,.ptr 768 1),(3,.ptr 768 0),(4,.ptr 1024 0),(5,.ptr 1280 0)]],[(1051136,.row 2 (ldR ax ay dx dy sh k)),(1049600,.row 2 []),(1536,.row 2 []),(1280,.box [.z dx,.z dy,.z dn]),(1024,.box [.z ax,.z ay]),(768,.box [.str nm,.vs (sh.map Go.Geo.c2),.z pl])],1⟩)
  sh.length (fun k hk=>by
   have hget : sh[k]? = some (sh[k]'hk):=Qf _
   have ht : sh.take (k + 1) = sh.take k++[sh[k]'hk]:=by rw [Qa4,hget]; rfl
   show (K E A106_L0 _).bind _ = (K E A106_L0 _).bind _
   unfold ldR
   rw [ht,Ql]
   generalize sh[k]'hk = p at *
   have g1:=Go.Geo.get_c2 hget
   have h1 : (k : Int) < sh.length:=by omega
   have h0 : (0 : Int)≤k:=by omega
   have hw:=Go.Geo.wr_k (k:=k) (by omega)
   have hr : ((sh.take k).map (fun q=>Go.Geo.c2 (ldP ax ay dx dy q))).length≤999999999:=by rw [Qb,Qbp]; omega
   generalize (sh.take k).map (fun q=>Go.Geo.c2 (ldP ax ay dx dy q)) = rows at *
   obtain ⟨x,y⟩:=p
   conv=>lhs; rw [A106_L0_eq]
   have o:=Go.Proofs.YtbpneedpcccpaaaGreat.G.c65 ax ay (w64 (16 * w64 (w64 (x * dx) - w64 (y * dy)))) (w64 (16 * w64 (w64 (x * dy) + w64 (y * dx))))
   simp only [w64] at o
   simp +contextual -implicitDefEqProofs (maxSteps:=2000000) only [go_sem,A106_L0b,Qb,h0,h1,g1,hw,hr,o,E_107,A107,ldP,Go.Geo.c2,Qk,Q0,Qm])
 simp only [Qn,Qv] at lp
 have z0 : ldR ax ay dx dy sh 0 = []:=rfl
 have zn : ldR ax ay dx dy sh sh.length = (laid_ ax ay dx dy sh).map Go.Geo.c2:=by simp [ldR,laid_,Qap,Function.comp_def]
 have st : (K E A106_L0 ⟨[(1,.fn (Fn.func 107) [] [.ptr 1024 0,.ptr 1280 0]),(5,.bs 1051136 0 (ldR ax ay dx dy sh sh.length).length),(11,.vs (sh.map Go.Geo.c2)),(12,.z sh.length),(13,.z sh.length)],[[(9,.fn (Fn.func 107) [] [.ptr 1024 0,.ptr 1280 0]),(8,.vs (sh.map Go.Geo.c2)),(7,.ptr 768 1),(3,.ptr 768 0),(4,.ptr 1024 0),(5,.ptr 1280 0)]],[(1051136,.row 2 (ldR ax ay dx dy sh sh.length)),(1049600,.row 2 []),(1536,.row 2 []),(1280,.box [.z dx,.z dy,.z dn]),(1024,.box [.z ax,.z ay]),(768,.box [.str nm,.vs (sh.map Go.Geo.c2),.z pl])],1⟩).bind (blockR 0 (some [5]) [7,20,21]) = some (.ex .nrm ⟨[(5,.bs 1051136 0 (ldR ax ay dx dy sh sh.length).length)],[[(9,.fn (Fn.func 107) [] [.ptr 1024 0,.ptr 1280 0]),(8,.vs (sh.map Go.Geo.c2)),(7,.ptr 768 1),(3,.ptr 768 0),(4,.ptr 1024 0),(5,.ptr 1280 0)]],[(1051136,.row 2 (ldR ax ay dx dy sh sh.length)),(1049600,.row 2 []),(1536,.row 2 []),(1280,.box [.z dx,.z dy,.z dn]),(1024,.box [.z ax,.z ay]),(768,.box [.str nm,.vs (sh.map Go.Geo.c2),.z pl])],1⟩):=by
  generalize ldR ax ay dx dy sh sh.length = rows
  rw [A106_L0_eq]; simp +contextual -implicitDefEqProofs (maxSteps:=2000000) only [go_sem,A106_L0b,Qp]
 rw [z0,st,zn] at lp
 simp only [Qa0,Qb] at lp
 have l0 : (0 : Int)≤sh.length:=by omega
 have l1 : (sh.length : Int)≤1000000000:=by omega
 rw [pc_eq]; simp +contextual -implicitDefEqProofs (maxSteps:=2000000) only [go_sem,E_79,A79,E_106,A106,l0,l1,Qb,lp,take_ml]
theorem c53 (nm : List UInt8) (sh : List Pt) (pl ax ay dx dy dn : Int) (hl : sh.length≤1000) : pc E 53 [.agg [.str nm,.vs (sh.map Go.Geo.c2),.z pl],.agg [.z ax,.z ay],.agg [.z dx,.z dy,.z dn]] = some (.os 2 ((laid_ ax ay dx dy sh).map Go.Geo.c2)):=by
 have lp:=loop_to (fun S=>(K E A53_L0 S).bind (blockR 0 (some [7]) [8,9,10,58]))
  (fun k=>⟨[(3,.ptr 768 0),(4,.ptr 1024 0),(5,.ptr 1280 0),(7,.bs 1792 0 (ldR ax ay dx dy sh k).length),(8,.z k)],[],[(1792,.row 2 (ldR ax ay dx dy sh k)),(1536,.row 2 []),(1280,.box [.z dx,.z dy,.z dn]),(1024,.box [.z ax,.z ay]),(768,.box [.str nm,.vs (sh.map Go.Geo.c2),.z pl])],0⟩)
  sh.length (fun k hk=>by
   have hget : sh[k]? = some (sh[k]'hk):=Qf _
   have ht : sh.take (k + 1) = sh.take k++[sh[k]'hk]:=by rw [Qa4,hget]; rfl
   show (K E A53_L0 _).bind _ = (K E A53_L0 _).bind _
   unfold ldR
   rw [ht,Ql]
   generalize sh[k]'hk = p at *
   have g1:=Go.Geo.get_c2 hget
   have h1 : (k : Int) < sh.length:=by omega
   have h0 : (0 : Int)≤k:=by omega
   have hw:=Go.Geo.wr_k (k:=k) (by omega)
   have hr : ((sh.take k).map (fun q=>Go.Geo.c2 (ldP ax ay dx dy q))).length≤999999999:=by rw [Qb,Qbp]; omega
   generalize (sh.take k).map (fun q=>Go.Geo.c2 (ldP ax ay dx dy q)) = rows at *
   obtain ⟨x,y⟩:=p
   conv=>lhs; rw [A53_L0_eq]
   simp +contextual -implicitDefEqProofs (maxSteps:=2000000) only [go_sem,A53_L0b,Qb,h0,h1,g1,hw,hr,ldP,Go.Geo.c2,Qk,Q0,Qm])
 simp only [Qn,Qv] at lp
 have z0 : ldR ax ay dx dy sh 0 = []:=rfl
 have zn : ldR ax ay dx dy sh sh.length = (laid_ ax ay dx dy sh).map Go.Geo.c2:=by simp [ldR,laid_,Qap,Function.comp_def]
 have st : ∀ rows : List (List LV),(K E A53_L0 ⟨[(3,.ptr 768 0),(4,.ptr 1024 0),(5,.ptr 1280 0),(7,.bs 1792 0 rows.length),(8,.z sh.length)],[],[(1792,.row 2 rows),(1536,.row 2 []),(1280,.box [.z dx,.z dy,.z dn]),(1024,.box [.z ax,.z ay]),(768,.box [.str nm,.vs (sh.map Go.Geo.c2),.z pl])],0⟩).bind (blockR 0 (some [7]) [8,9,10,58]) = some (.ex .nrm ⟨[(7,.bs 1792 0 rows.length)],[],[(1792,.row 2 rows),(1536,.row 2 []),(1280,.box [.z dx,.z dy,.z dn]),(1024,.box [.z ax,.z ay]),(768,.box [.str nm,.vs (sh.map Go.Geo.c2),.z pl])],0⟩):=fun rows=>by
  rw [A53_L0_eq]; simp +contextual -implicitDefEqProofs (maxSteps:=2000000) only [go_sem,A53_L0b,Qp,Qb]
 rw [z0,st,zn] at lp
 simp only [Qa0,Qb] at lp
 rw [pc_eq]; simp +contextual -implicitDefEqProofs (maxSteps:=2000000) only [go_sem,E_53,A53,hl,Qb,lp,take_ml]
end Go.Proofs.YtbpneedpcccpaaaGreat

namespace Go.Proofs.YtbpneedpcccpaaaGreat
open Go Go.Zv
open Go.Geo (Pt)
structure Wl where
 q0 : Int
 q1 : Int
 q2 : Int
 q3 : Int
 q4 : Int
 q5 : Int
 h0 : Int
 h1 : Int
 wh : List Int
abbrev wlc (w : Wl) : List LV:=[.z w.q0,.z w.q1,.z w.q2,.z w.q3,.z w.q4,.z w.q5,.z w.h0,.z w.h1,.vs (w.wh.map Go.Geo.c1)]
theorem c45 (c : Cel) (w : Wl) : pc E 45 [.agg (cec c),.agg (wlc w)] = some (.fn (.func 77) [] [.fp (cec c),.fp (wlc w)]):=by
 rw [pc_eq]; simp +contextual -implicitDefEqProofs (maxSteps:=2000000) only [go_sem,E_45,A45]
theorem c55 (c : Cel) (w : Wl) : pc E 55 [.agg (cec c),.agg (wlc w)] = some (.fn (.func 86) [] [.fp (cec c),.fp (wlc w)]):=by
 rw [pc_eq]; simp +contextual -implicitDefEqProofs (maxSteps:=2000000) only [go_sem,E_55,A55]
def crd (c : Cl) (a : Arm) (i q0 q1 q2 h : Int) : List Bd:=if h < 0 then [] else [⟨2,i,0,laid_ (pp a (dd q0 q1 q2)).x3 (pp a (dd q0 q1 q2)).y3 (dd q0 q1 q2).x3 (dd q0 q1 q2).y3 (c.pt.getD h.toNat default).sh⟩]
def rsI (c : Cl) (wh : List Int) (i : Nat) : List Bd:=if wh.getD i 0 < 0 then [] else [⟨3,i,0,laid_ (c.pl.getD (wh.getD i 0).toNat default).x (c.pl.getD (wh.getD i 0).toNat default).y (c.pl.getD (wh.getD i 0).toNat default).dx (c.pl.getD (wh.getD i 0).toNat default).dy (c.pt.getD i default).sh⟩]
def rst (c : Cl) (wh : List Int) (n : Nat) : List Bd:=(List.range n).flatMap (rsI c wh)
def fxI (c : Cl) (i : Nat) : Bd:=⟨4,i,0,c.fx.getD i []⟩
def fxt (c : Cl) (n : Nat) : List Bd:=(List.range n).map (fxI c)
def lnk (i : Int) (l : List (List Pt)) : List Bd:=[⟨1,i,0,l.getD 0 []⟩,⟨1,i,1,l.getD 1 []⟩,⟨1,i,2,l.getD 2 []⟩]
def bodies (c : Cl) (w : Wl) : List Bd :=
 lnk 0 (lks c.a (dd w.q0 w.q1 w.q2))++(lnk 1 (lks c.b (dd w.q3 w.q4 w.q5))++(crd c c.a 0 w.q0 w.q1 w.q2 w.h0++(crd c c.b 1 w.q3 w.q4 w.q5 w.h1++(rst c w.wh w.wh.length++fxt c c.fx.length))))
structure Pld (c : Cl) (w : Wl) : Prop where
 len : w.wh.length = c.pt.length
 at_ : ∀ x ∈ w.wh,-1≤x∧x < c.pl.length
 h0 : -1≤w.h0∧w.h0 < c.pt.length
 h1 : -1≤w.h1∧w.h1 < c.pt.length
abbrev T16 (c : Cl) (w : Wl) : Env:=[(4,.bs 1024 0 0),(5,.ptr 1280 0),(9,.fn (Fn.func 77) [] [.fp (cec c.cel),.fp (wlc w)])]
abbrev F16 (c : Cl) (w : Wl) : List Env:=[T16 c w,[(0,.yl 1024000)]]
abbrev O16 (c : Cl) (w : Wl) (rows : List (List LV)) : Heap:=[(1024000,.loop (T16 c w) [10] A16_R0a A16_R0b LSt.ready AEx.nrm),(1280,.box [.bs 1281 0 rows.length]),(1281,.row 4 rows),(1024,.row 4 [])]
theorem fx16 (c : Cl) (w : Wl) (hf : c.fx.length≤1000) (R : List (List LV)) (hR : R.length≤1000000) :
  (K E A77_L0 ⟨[(0,.yl 1024000),(118,.vs (c.fx.map Go.Geo.p1)),(119,.z c.fx.length),(120,.z 0)],F16 c w,O16 c w R,1⟩).bind (blockR 8 (some []) [13,14,129]) =
   some (.ex .nrm ⟨[],F16 c w,O16 c w (R++(fxt c c.fx.length).map bdc),1⟩):=by
 have lp:=loop_to (fun S=>(K E A77_L0 S).bind (blockR 8 (some []) [13,14,129]))
  (fun k=>⟨[(0,.yl 1024000),(118,.vs (c.fx.map Go.Geo.p1)),(119,.z c.fx.length),(120,.z k)],F16 c w,O16 c w (R++(fxt c k).map bdc),1⟩) c.fx.length (fun k hk=>by
   have hget : c.fx[k]? = some (c.fx.getD k []):=Go.Geo.getD_of [] hk
   show (K E A77_L0 _).bind _ = (K E A77_L0 _).bind _
   have e : R++(fxt c (k + 1)).map bdc = R++(fxt c k).map bdc++[[.z 4,.z k,.z 0,.vs ((c.fx.getD k []).map Go.Geo.c2)]]:=by
    unfold fxt
    rw [Qa8,Ql,Ql,Qar]; rfl
   rw [e]
   have hr : (R++(fxt c k).map bdc).length≤999999999:=by simp [fxt]; omega
   generalize R++(fxt c k).map bdc = rows at *
   generalize c.fx.getD k [] = p at *
   have g1 : (c.fx.map Go.Geo.p1)[k]? = some [.vs (p.map Go.Geo.c2)]:=Go.Geo.get_m Go.Geo.p1 hget
   have h1 : (k : Int) < c.fx.length:=by omega
   have h0 : (0 : Int)≤k:=by omega
   have hw:=Go.Geo.wr_k (k:=k) (by omega)
   conv=>lhs; rw [A77_L0_eq]
   simp +contextual -implicitDefEqProofs (maxSteps:=2000000) only [go_sem,O16,F16,T16,A77_L0b,A16_R0a,A16_R0b,Qb,h0,h1,g1,hw,hr,Qm])
 simp only [Qn,Qv] at lp
 have e0 : R++(fxt c 0).map bdc = R:=by simp [fxt]
 rw [e0] at lp
 rw [lp]
 generalize R++(fxt c c.fx.length).map bdc = rows
 rw [A77_L0_eq]; simp +contextual -implicitDefEqProofs (maxSteps:=2000000) only [go_sem,A77_L0b,Qp,Qb]
theorem rs16 (c : Cl) (w : Wl) (P : Pld c w) (hp : ∀ p ∈ c.pt,p.sh.length≤1000) (hl : c.pt.length≤1000) (R : List (List LV)) (hR : R.length≤10000) :
  (K E A77_L1 ⟨[(0,.yl 1024000),(1,.fp (cec c.cel)),(82,.vs (w.wh.map Go.Geo.c1)),(83,.z w.wh.length),(84,.z 0)],F16 c w,O16 c w R,1⟩).bind (blockR 6 (some [0,1]) [11,12,111,113]) =
   some (.ex .nrm ⟨[(0,.yl 1024000),(1,.fp (cec c.cel))],F16 c w,O16 c w (R++(rst c w.wh w.wh.length).map bdc),1⟩):=by
 have lp:=loop_to (fun S=>(K E A77_L1 S).bind (blockR 6 (some [0,1]) [11,12,111,113]))
  (fun k=>⟨[(0,.yl 1024000),(1,.fp (cec c.cel)),(82,.vs (w.wh.map Go.Geo.c1)),(83,.z w.wh.length),(84,.z k)],F16 c w,O16 c w (R++(rst c w.wh k).map bdc),1⟩) w.wh.length (fun k hk=>by
   have hget : w.wh[k]? = some (w.wh.getD k 0):=Go.Geo.getD_of 0 hk
   have hm:=P.at_ _ (Qd hget)
   have hpl:=P.len
   have hgp : c.pt[k]? = some (c.pt.getD k default):=Go.Geo.getD_of default (by omega)
   have hsh:=hp _ (Qd hgp)
   show (K E A77_L1 _).bind _ = (K E A77_L1 _).bind _
   have e : rst c w.wh (k + 1) = rst c w.wh k++rsI c w.wh k:=by
    unfold rst
    rw [Qa8,Qbr]; simp
   have hlen : (rst c w.wh k).length≤k:=by
    have : ∀ n,(rst c w.wh n).length≤n:=fun n=>by
     induction n with
     | zero=>simp [rst]
     | succ n ih =>
       have e : rst c w.wh (n + 1) = rst c w.wh n++rsI c w.wh n:=by
        unfold rst
        rw [Qa8,Qbr]; simp
       rw [e,Qm]
       have : (rsI c w.wh n).length≤1:=by unfold rsI; split <;> simp
       omega
    exact this k
   have hr : (R++(rst c w.wh k).map bdc).length≤999999999:=by simp; omega
   rw [e,Ql,← Qar]
   generalize R++(rst c w.wh k).map bdc = rows at *
   unfold rsI
   have g1 : (w.wh.map Go.Geo.c1)[k]? = some [.z (w.wh.getD k 0)]:=Go.Geo.get_m Go.Geo.c1 hget
   have g2:=Go.Geo.get_m Go.Geo.prv hgp
   simp only [Go.Geo.prv] at g2
   generalize w.wh.getD k 0 = x at *
   generalize c.pt.getD k default = p at *
   have h1 : (k : Int) < w.wh.length:=by omega
   have h0 : (0 : Int)≤k:=by omega
   have h2 : (k : Int) < c.pt.length:=by omega
   have hw:=Go.Geo.wr_k (k:=k) (by omega)
   conv=>lhs; rw [A77_L1_eq]
   by_cases hx : x < 0
   ·have hx' : ¬ (0≤x):=by omega
    rw [if_pos hx]
    simp +contextual -implicitDefEqProofs (maxSteps:=2000000) only [go_sem,O16,F16,T16,A77_L1b,Qb,h0,h1,g1,hw,hx',Qbc]
   ·have hx' : 0≤x:=by omega
    have hgl : c.pl[x.toNat]? = some (c.pl.getD x.toNat default):=Go.Geo.getD_of default (by omega)
    have g3:=Go.Geo.get_m Go.Geo.plv hgl
    simp only [Go.Geo.plv] at g3
    rw [if_neg hx]
    generalize c.pl.getD x.toNat default = l at *
    have o:=c79 p.nm p.sh p.at_ l.x l.y l.dx l.dy l.dn hsh
    have hx2:=hm.2
    simp +contextual -implicitDefEqProofs (maxSteps:=2000000) only [go_sem,O16,F16,T16,A77_L1b,A16_R0a,A16_R0b,Qb,h0,h1,h2,g1,g2,g3,hw,hr,hx',hx2,o,Qm])
 simp only [Qn,Qv] at lp
 have e0 : R++(rst c w.wh 0).map bdc = R:=by simp [rst]
 rw [e0] at lp
 rw [lp]
 generalize R++(rst c w.wh w.wh.length).map bdc = rows
 rw [A77_L1_eq]; simp +contextual -implicitDefEqProofs (maxSteps:=2000000) only [go_sem,A77_L1b,Qp,Qb]
end Go.Proofs.YtbpneedpcccpaaaGreat

namespace Go.Proofs.YtbpneedpcccpaaaGreat
open Go Go.Zv
open Go.Geo (Pt)
structure Fin_ (c : Cl) : Prop where
 ha : OKa c.a
 hb : OKa c.b
 sh : ∀ p ∈ c.pt,p.sh.length≤1000
 pl : c.pt.length≤1000
 fl : c.fx.length≤1000
theorem lks3 (a : Arm) (d : Pts) : ∃ L0 L1 L2,lks a d = [L0,L1,L2]:=⟨_,_,_,rfl⟩
theorem c16 (c : Cl) (w : Wl) (H : Fin_ c) (P : Pld c w) : pc E 16 [.agg (cec c.cel),.agg (wlc w)] = some (.vs ((bodies c w).map bdc)):=by
 obtain ⟨L0,L1,L2,hL⟩:=lks3 c.a (dd w.q0 w.q1 w.q2)
 obtain ⟨M0,M1,M2,hM⟩:=lks3 c.b (dd w.q3 w.q4 w.q5)
 have o1:=c78 c.a H.ha w.q0 w.q1 w.q2
 have o2:=c78 c.b H.hb w.q3 w.q4 w.q5
 rw [hL] at o1
 rw [hM] at o2
 have o1 : pc E 78 [av c.a,jv w.q0 w.q1 w.q2] = some (.agg [.vs (L0.map Go.Geo.c2),.vs (L1.map Go.Geo.c2),.vs (L2.map Go.Geo.c2)]):=o1
 have o2 : pc E 78 [av c.b,jv w.q3 w.q4 w.q5] = some (.agg [.vs (M0.map Go.Geo.c2),.vs (M1.map Go.Geo.c2),.vs (M2.map Go.Geo.c2)]):=o2
 have j1:=c80 c.a H.ha w.q0 w.q1 w.q2
 have j2:=c80 c.b H.hb w.q3 w.q4 w.q5
 have d1:=c81' c.a w.q0 w.q1 w.q2
 have d2:=c81' c.b w.q3 w.q4 w.q5
 unfold bodies
 rw [hL,hM]
 have e45:=c45 c.cel w
 have hh0:=P.h0
 have hh1:=P.h1
 have hrs:=rs16 c w P H.sh H.pl
 have hfx:=fx16 c w H.fl
 have hfin : ∀ X : List Bd,((lnk 0 [L0,L1,L2]++(lnk 1 [M0,M1,M2]++X)).map bdc) = [[.z 1,.z 0,.z 0,.vs (L0.map Go.Geo.c2)],[.z 1,.z 0,.z 1,.vs (L1.map Go.Geo.c2)],[.z 1,.z 0,.z 2,.vs (L2.map Go.Geo.c2)],[.z 1,.z 1,.z 0,.vs (M0.map Go.Geo.c2)],[.z 1,.z 1,.z 1,.vs (M1.map Go.Geo.c2)],[.z 1,.z 1,.z 2,.vs (M2.map Go.Geo.c2)]]++X.map bdc:=fun X=>by
  rw [Ql,Ql,← Qar]; rfl
 rw [hfin]
 have hlen : ((rst c w.wh w.wh.length).map bdc).length≤1000:=by
  rw [Qb]
  have : ∀ n,(rst c w.wh n).length≤n:=fun n=>by
   induction n with
   | zero=>simp [rst]
   | succ n ih =>
     have e : rst c w.wh (n + 1) = rst c w.wh n++rsI c w.wh n:=by
      unfold rst
      rw [Qa8,Qbr]; simp
     rw [e,Qm]
     have : (rsI c w.wh n).length≤1:=by unfold rsI; split <;> simp
     omega
  have:=this w.wh.length
  have:=P.len
  have:=H.pl
  omega
 have hf1 : ((fxt c c.fx.length).map bdc).length≤1000:=by
  have:=H.fl
  simp [fxt]; omega
 have y1 : (c.fx.map Go.Geo.p1).length = c.fx.length:=Qb ..
 have y2 : (w.wh.map Go.Geo.c1).length = w.wh.length:=Qb ..
 have y3 : (c.pt.map Go.Geo.prv).length = c.pt.length:=Qb ..
 have key : ∀ (h : Int),-1≤h → h < c.pt.length → ¬ h < 0 → ∃ p : Go.Geo.Prt,c.pt.getD h.toNat default = p∧(c.pt.map Go.Geo.prv)[h.toNat]? = some [.str p.nm,.vs (p.sh.map Go.Geo.c2),.z p.at_]∧0≤h ∧ ∀ ax ay dx dy dn,pc E 79 [.agg [.str p.nm,.vs (p.sh.map Go.Geo.c2),.z p.at_],.agg [.z ax,.z ay],.agg [.z dx,.z dy,.z dn]] = some (.vs ((laid_ ax ay dx dy p.sh).map Go.Geo.c2)):=fun h h1 h2 h3=>by
  have hg : c.pt[h.toNat]? = some (c.pt.getD h.toNat default):=Go.Geo.getD_of default (by omega)
  refine ⟨_,rfl,Go.Geo.get_m Go.Geo.prv hg,by omega,fun ax ay dx dy dn=>c79 _ _ _ _ _ _ _ _ (H.sh _ (Qd hg))⟩
 unfold crd
 by_cases n0 : w.h0 < 0
 ·by_cases n1 : w.h1 < 0
  ·skip
   rw [if_pos n0,if_pos n1]
   have a1:=hrs [[.z 1,.z 0,.z 0,.vs (L0.map Go.Geo.c2)],[.z 1,.z 0,.z 1,.vs (L1.map Go.Geo.c2)],[.z 1,.z 0,.z 2,.vs (L2.map Go.Geo.c2)],[.z 1,.z 1,.z 0,.vs (M0.map Go.Geo.c2)],[.z 1,.z 1,.z 1,.vs (M1.map Go.Geo.c2)],[.z 1,.z 1,.z 2,.vs (M2.map Go.Geo.c2)]] (by simp)
   have a2:=hfx ([[.z 1,.z 0,.z 0,.vs (L0.map Go.Geo.c2)],[.z 1,.z 0,.z 1,.vs (L1.map Go.Geo.c2)],[.z 1,.z 0,.z 2,.vs (L2.map Go.Geo.c2)],[.z 1,.z 1,.z 0,.vs (M0.map Go.Geo.c2)],[.z 1,.z 1,.z 1,.vs (M1.map Go.Geo.c2)],[.z 1,.z 1,.z 2,.vs (M2.map Go.Geo.c2)]]++(rst c w.wh w.wh.length).map bdc) (by simp at hlen ⊢; omega)
   simp only [Qw,Qy,Ql,Qk,Q0]
   generalize (rst c w.wh w.wh.length).map bdc = X at *
   generalize (fxt c c.fx.length).map bdc = Y at *
   rw [Qar] at a2
   generalize X++Y = Z at *
   simp only [O16,F16,T16,A16_R0a,A16_R0b,Qy,Qw,Q4,Qa0,Qm] at a1 a2
   rw [pc_eq]; simp +contextual -implicitDefEqProofs (maxSteps:=2000000) only [go_sem,E_16,A16,e45,E_77,A77,A77_L4_eq,A77_L4b,A77_L3_eq,A77_L3b,A77_L2_eq,A77_L2b,A16_R0,A16_R0a,A16_R0b,o1,o2,j1,j2,d1,d2,n0,n1,a1,a2,y1,y2,y3]
  ·skip
   rw [if_pos n0,if_neg n1]
   obtain ⟨p1,e1,g1,m1,t1⟩:=key w.h1 hh1.1 hh1.2 n1
   rw [e1]
   have k1:=hh1.2
   have a1:=hrs [[.z 1,.z 0,.z 0,.vs (L0.map Go.Geo.c2)],[.z 1,.z 0,.z 1,.vs (L1.map Go.Geo.c2)],[.z 1,.z 0,.z 2,.vs (L2.map Go.Geo.c2)],[.z 1,.z 1,.z 0,.vs (M0.map Go.Geo.c2)],[.z 1,.z 1,.z 1,.vs (M1.map Go.Geo.c2)],[.z 1,.z 1,.z 2,.vs (M2.map Go.Geo.c2)],[.z 2,.z 1,.z 0,.vs ((laid_ (pp c.b (dd w.q3 w.q4 w.q5)).x3 (pp c.b (dd w.q3 w.q4 w.q5)).y3 (dd w.q3 w.q4 w.q5).x3 (dd w.q3 w.q4 w.q5).y3 p1.sh).map Go.Geo.c2)]] (by simp)
   have a2:=hfx ([[.z 1,.z 0,.z 0,.vs (L0.map Go.Geo.c2)],[.z 1,.z 0,.z 1,.vs (L1.map Go.Geo.c2)],[.z 1,.z 0,.z 2,.vs (L2.map Go.Geo.c2)],[.z 1,.z 1,.z 0,.vs (M0.map Go.Geo.c2)],[.z 1,.z 1,.z 1,.vs (M1.map Go.Geo.c2)],[.z 1,.z 1,.z 2,.vs (M2.map Go.Geo.c2)],[.z 2,.z 1,.z 0,.vs ((laid_ (pp c.b (dd w.q3 w.q4 w.q5)).x3 (pp c.b (dd w.q3 w.q4 w.q5)).y3 (dd w.q3 w.q4 w.q5).x3 (dd w.q3 w.q4 w.q5).y3 p1.sh).map Go.Geo.c2)]]++(rst c w.wh w.wh.length).map bdc) (by simp at hlen ⊢; omega)
   simp only [Qw,Qy,Ql,Qk,Q0]
   generalize (rst c w.wh w.wh.length).map bdc = X at *
   generalize (fxt c c.fx.length).map bdc = Y at *
   rw [Qar] at a2
   generalize X++Y = Z at *
   simp only [O16,F16,T16,A16_R0a,A16_R0b,Qy,Qw,Q4,Qa0,Qm] at a1 a2
   rw [pc_eq]; simp +contextual -implicitDefEqProofs (maxSteps:=2000000) only [go_sem,E_16,A16,e45,E_77,A77,A77_L4_eq,A77_L4b,A77_L3_eq,A77_L3b,A77_L2_eq,A77_L2b,A16_R0,A16_R0a,A16_R0b,o1,o2,j1,j2,d1,d2,n0,n1,m1,g1,k1,t1,a1,a2,y1,y2,y3]
 ·by_cases n1 : w.h1 < 0
  ·skip
   rw [if_neg n0,if_pos n1]
   obtain ⟨p0,e0,g0,m0,t0⟩:=key w.h0 hh0.1 hh0.2 n0
   rw [e0]
   have k0:=hh0.2
   have a1:=hrs [[.z 1,.z 0,.z 0,.vs (L0.map Go.Geo.c2)],[.z 1,.z 0,.z 1,.vs (L1.map Go.Geo.c2)],[.z 1,.z 0,.z 2,.vs (L2.map Go.Geo.c2)],[.z 1,.z 1,.z 0,.vs (M0.map Go.Geo.c2)],[.z 1,.z 1,.z 1,.vs (M1.map Go.Geo.c2)],[.z 1,.z 1,.z 2,.vs (M2.map Go.Geo.c2)],[.z 2,.z 0,.z 0,.vs ((laid_ (pp c.a (dd w.q0 w.q1 w.q2)).x3 (pp c.a (dd w.q0 w.q1 w.q2)).y3 (dd w.q0 w.q1 w.q2).x3 (dd w.q0 w.q1 w.q2).y3 p0.sh).map Go.Geo.c2)]] (by simp)
   have a2:=hfx ([[.z 1,.z 0,.z 0,.vs (L0.map Go.Geo.c2)],[.z 1,.z 0,.z 1,.vs (L1.map Go.Geo.c2)],[.z 1,.z 0,.z 2,.vs (L2.map Go.Geo.c2)],[.z 1,.z 1,.z 0,.vs (M0.map Go.Geo.c2)],[.z 1,.z 1,.z 1,.vs (M1.map Go.Geo.c2)],[.z 1,.z 1,.z 2,.vs (M2.map Go.Geo.c2)],[.z 2,.z 0,.z 0,.vs ((laid_ (pp c.a (dd w.q0 w.q1 w.q2)).x3 (pp c.a (dd w.q0 w.q1 w.q2)).y3 (dd w.q0 w.q1 w.q2).x3 (dd w.q0 w.q1 w.q2).y3 p0.sh).map Go.Geo.c2)]]++(rst c w.wh w.wh.length).map bdc) (by simp at hlen ⊢; omega)
   simp only [Qw,Qy,Ql,Qk,Q0]
   generalize (rst c w.wh w.wh.length).map bdc = X at *
   generalize (fxt c c.fx.length).map bdc = Y at *
   rw [Qar] at a2
   generalize X++Y = Z at *
   simp only [O16,F16,T16,A16_R0a,A16_R0b,Qy,Qw,Q4,Qa0,Qm] at a1 a2
   rw [pc_eq]; simp +contextual -implicitDefEqProofs (maxSteps:=2000000) only [go_sem,E_16,A16,e45,E_77,A77,A77_L4_eq,A77_L4b,A77_L3_eq,A77_L3b,A77_L2_eq,A77_L2b,A16_R0,A16_R0a,A16_R0b,o1,o2,j1,j2,d1,d2,n0,m0,g0,k0,t0,n1,a1,a2,y1,y2,y3]
  ·skip
   rw [if_neg n0,if_neg n1]
   obtain ⟨p0,e0,g0,m0,t0⟩:=key w.h0 hh0.1 hh0.2 n0
   rw [e0]
   have k0:=hh0.2
   obtain ⟨p1,e1,g1,m1,t1⟩:=key w.h1 hh1.1 hh1.2 n1
   rw [e1]
   have k1:=hh1.2
   have a1:=hrs [[.z 1,.z 0,.z 0,.vs (L0.map Go.Geo.c2)],[.z 1,.z 0,.z 1,.vs (L1.map Go.Geo.c2)],[.z 1,.z 0,.z 2,.vs (L2.map Go.Geo.c2)],[.z 1,.z 1,.z 0,.vs (M0.map Go.Geo.c2)],[.z 1,.z 1,.z 1,.vs (M1.map Go.Geo.c2)],[.z 1,.z 1,.z 2,.vs (M2.map Go.Geo.c2)],[.z 2,.z 0,.z 0,.vs ((laid_ (pp c.a (dd w.q0 w.q1 w.q2)).x3 (pp c.a (dd w.q0 w.q1 w.q2)).y3 (dd w.q0 w.q1 w.q2).x3 (dd w.q0 w.q1 w.q2).y3 p0.sh).map Go.Geo.c2)],[.z 2,.z 1,.z 0,.vs ((laid_ (pp c.b (dd w.q3 w.q4 w.q5)).x3 (pp c.b (dd w.q3 w.q4 w.q5)).y3 (dd w.q3 w.q4 w.q5).x3 (dd w.q3 w.q4 w.q5).y3 p1.sh).map Go.Geo.c2)]] (by simp)
   have a2:=hfx ([[.z 1,.z 0,.z 0,.vs (L0.map Go.Geo.c2)],[.z 1,.z 0,.z 1,.vs (L1.map Go.Geo.c2)],[.z 1,.z 0,.z 2,.vs (L2.map Go.Geo.c2)],[.z 1,.z 1,.z 0,.vs (M0.map Go.Geo.c2)],[.z 1,.z 1,.z 1,.vs (M1.map Go.Geo.c2)],[.z 1,.z 1,.z 2,.vs (M2.map Go.Geo.c2)],[.z 2,.z 0,.z 0,.vs ((laid_ (pp c.a (dd w.q0 w.q1 w.q2)).x3 (pp c.a (dd w.q0 w.q1 w.q2)).y3 (dd w.q0 w.q1 w.q2).x3 (dd w.q0 w.q1 w.q2).y3 p0.sh).map Go.Geo.c2)],[.z 2,.z 1,.z 0,.vs ((laid_ (pp c.b (dd w.q3 w.q4 w.q5)).x3 (pp c.b (dd w.q3 w.q4 w.q5)).y3 (dd w.q3 w.q4 w.q5).x3 (dd w.q3 w.q4 w.q5).y3 p1.sh).map Go.Geo.c2)]]++(rst c w.wh w.wh.length).map bdc) (by simp at hlen ⊢; omega)
   simp only [Qw,Qy,Ql,Qk,Q0]
   generalize (rst c w.wh w.wh.length).map bdc = X at *
   generalize (fxt c c.fx.length).map bdc = Y at *
   rw [Qar] at a2
   generalize X++Y = Z at *
   simp only [O16,F16,T16,A16_R0a,A16_R0b,Qy,Qw,Q4,Qa0,Qm] at a1 a2
   rw [pc_eq]; simp +contextual -implicitDefEqProofs (maxSteps:=2000000) only [go_sem,E_16,A16,e45,E_77,A77,A77_L4_eq,A77_L4b,A77_L3_eq,A77_L3b,A77_L2_eq,A77_L2b,A16_R0,A16_R0a,A16_R0b,o1,o2,j1,j2,d1,d2,n0,m0,g0,k0,t0,n1,m1,g1,k1,t1,a1,a2,y1,y2,y3]
end Go.Proofs.YtbpneedpcccpaaaGreat

namespace Go.Proofs.YtbpneedpcccpaaaGreat
open Go Go.Zv
end Go.Proofs.YtbpneedpcccpaaaGreat

namespace Go.Proofs.YtbpneedpcccpaaaGreat
open Go Go.Zv
theorem get_c2 {l : List (Int × Int)} {i : Nat} {p : Int × Int} (h : l[i]? = some p) : (l.map c2)[i]? = some [.z p.1,.z p.2]:=by
 rw [Qan,h]; rfl
theorem c54 (a b : List (Int × Int)) (hl : a.length≤1000000000) : pc E 54 [lkv a,lkv b] = some (.bool (decide (a = b))):=by
 by_cases h : a.length = b.length
 ·have lp:=loop_eq (fun S=>(K E A54_L0 S).bind (blockR 0 (some []) [4,5])) (fun k=>⟨[(0,lkv a),(1,lkv b),(5,.z k)],[],[],0⟩) a b h (some (.ex .ret ⟨[(4,.bool false)],[],[],0⟩)) (some (.ex .nrm ⟨[],[],[],0⟩))
   (by
    show (K E A54_L0 _).bind _ = _
    rw [A54_L0_eq]; simp +contextual -implicitDefEqProofs (maxSteps:=2000000) only [go_sem,A54_L0b,Qp,Qb])
   (fun k p q hk hp hq=>by
    show (K E A54_L0 _).bind _ = if _ then (K E A54_L0 _).bind _ else _
    have h1 : (k : Int) < a.length:=by omega
    have h0 : (0 : Int)≤k:=by omega
    have hw:=wr_succ (n:=k) (by omega)
    have g1:=get_c2 hp
    have g2:=get_c2 hq
    obtain ⟨px,py⟩:=p
    obtain ⟨qx,qy⟩:=q
    conv=>lhs; rw [A54_L0_eq]
    by_cases e : px = qx
    ·subst e
     by_cases e2 : py = qy
     ·subst e2
      simp +contextual -implicitDefEqProofs (maxSteps:=2000000) only [go_sem,A54_L0b,Qb,h0,h1,hw,g1,g2,bne_self_eq_false,beq_self_eq_true]
     ·have e' : (py == qy) = false:=by simpa using e2
      simp +contextual -implicitDefEqProofs (maxSteps:=2000000) only [go_sem,A54_L0b,Qb,h0,h1,hw,g1,g2,bne_self_eq_false,beq_self_eq_true,e',Prod.mk.injEq,e2]
    ·have e' : (px == qx) = false:=by simpa using e
     simp +contextual -implicitDefEqProofs (maxSteps:=2000000) only [go_sem,A54_L0b,Qb,h0,h1,hw,g1,g2,e',Prod.mk.injEq,e])
  simp only [Qn,Qv] at lp
  have h' : ((a.length : Int) != b.length) = false:=by simp [h]
  by_cases e : a = b
  ·subst e
   rw [if_pos rfl] at lp
   rw [pc_eq]; simp +contextual -implicitDefEqProofs (maxSteps:=2000000) only [go_sem,E_54,A54,Qb,h',lp,bne_self_eq_false]
  ·rw [if_neg e] at lp
   rw [pc_eq]; simp +contextual -implicitDefEqProofs (maxSteps:=2000000) only [go_sem,E_54,A54,Qb,h',lp,e]
 ·have h' : ((a.length : Int) != b.length) = true:=by simp; omega
  have h2 : ¬ ((a.length : Int) = b.length):=by omega
  have e : ¬ a = b:=fun e=>h (by rw [e])
  rw [pc_eq]; simp +contextual -implicitDefEqProofs (maxSteps:=2000000) only [go_sem,E_54,A54,Qb,h',h2,e]
def farI (ax ay bx by_ : Int) : Int:=((ax - bx).tdiv 16) * ((ax - bx).tdiv 16) + ((ay - by_).tdiv 16) * ((ay - by_).tdiv 16)
theorem c50 (a : Arm) (h : OKa a) (q0 q1 q2 : Int) : pc E 50 [av a,jv q0 q1 q2] = some (.agg ((lks a (dd q0 q1 q2)).map lkv)):=by
 have h1:=c52' a q0 q1 q2
 have h2:=c51 a h q0 q1 q2
 have v:=ddV q0 q1 q2
 have b:=bds h v
 obtain ⟨o0x,o0y,o1x,o1y,o2x,o2y,bx,by_⟩:=b
 have hw : 0≤a.w∧a.w≤40:=by have:=h.w; omega
 generalize dd q0 q1 q2 = d at *
 have k1:=c83 _ _ 1 (by omega) v.v1 a.w hw
 have k2:=c83 _ _ 2 (by omega) v.v2 a.w hw
 have k3:=c83 _ _ 3 (by omega) v.v3 a.w hw
 have u1:=ux_bd v.v1 a.w hw
 have u2:=ux_bd v.v2 a.w hw
 have u3:=ux_bd v.v3 a.w hw
 simp only [u65,Qcg,Qby] at k1 k2 k3 u1 u2 u3
 unfold lks
 have hp : (-1000000000≤(pp a d).x1∧(pp a d).x1≤1000000000)∧(-1000000000≤(pp a d).y1∧(pp a d).y1≤1000000000)∧(-1000000000≤(pp a d).x2∧(pp a d).x2≤1000000000)∧(-1000000000≤(pp a d).y2∧(pp a d).y2≤1000000000)∧(-1000000000≤(pp a d).x3∧(pp a d).x3≤1000000000)∧(-1000000000≤(pp a d).y3∧(pp a d).y3≤1000000000):=by simp only [pp]; omega
 generalize pp a d = p at *
 obtain ⟨p1,p2,p3,p4,p5,p6⟩:=hp
 generalize a.w * 67600 * d.x1 = ox1 at *
 generalize a.w * 67600 * d.y1 = oy1 at *
 generalize a.w * 1040 * d.x2 = ox2 at *
 generalize a.w * 1040 * d.y2 = oy2 at *
 generalize a.w * 16 * d.x3 = ox3 at *
 generalize a.w * 16 * d.y3 = oy3 at *
 have n0a : IntKind.i64.wrap (0 - ox1) = -ox1:=by rw [wrap_small (by omega) (by omega)]; omega
 have n0b : IntKind.i64.wrap (0 - oy1) = -oy1:=by rw [wrap_small (by omega) (by omega)]; omega
 have g00:=c84 a.bx a.by_ oy1 (-ox1)
 rw [wrap_small (by omega) (by omega),wrap_small (by omega) (by omega),show a.by_ + -ox1 = a.by_ - ox1 by omega] at g00
 have g01:=c84 p.x1 p.y1 oy1 (-ox1)
 rw [wrap_small (by omega) (by omega),wrap_small (by omega) (by omega),show p.y1 + -ox1 = p.y1 - ox1 by omega] at g01
 have g02:=c84 p.x1 p.y1 (-oy1) ox1
 rw [wrap_small (by omega) (by omega),wrap_small (by omega) (by omega),show p.x1 + -oy1 = p.x1 - oy1 by omega] at g02
 have g03:=c84 a.bx a.by_ (-oy1) ox1
 rw [wrap_small (by omega) (by omega),wrap_small (by omega) (by omega),show a.bx + -oy1 = a.bx - oy1 by omega] at g03
 have n1a : IntKind.i64.wrap (0 - ox2) = -ox2:=by rw [wrap_small (by omega) (by omega)]; omega
 have n1b : IntKind.i64.wrap (0 - oy2) = -oy2:=by rw [wrap_small (by omega) (by omega)]; omega
 have g10:=c84 p.x1 p.y1 oy2 (-ox2)
 rw [wrap_small (by omega) (by omega),wrap_small (by omega) (by omega),show p.y1 + -ox2 = p.y1 - ox2 by omega] at g10
 have g11:=c84 p.x2 p.y2 oy2 (-ox2)
 rw [wrap_small (by omega) (by omega),wrap_small (by omega) (by omega),show p.y2 + -ox2 = p.y2 - ox2 by omega] at g11
 have g12:=c84 p.x2 p.y2 (-oy2) ox2
 rw [wrap_small (by omega) (by omega),wrap_small (by omega) (by omega),show p.x2 + -oy2 = p.x2 - oy2 by omega] at g12
 have g13:=c84 p.x1 p.y1 (-oy2) ox2
 rw [wrap_small (by omega) (by omega),wrap_small (by omega) (by omega),show p.x1 + -oy2 = p.x1 - oy2 by omega] at g13
 have n2a : IntKind.i64.wrap (0 - ox3) = -ox3:=by rw [wrap_small (by omega) (by omega)]; omega
 have n2b : IntKind.i64.wrap (0 - oy3) = -oy3:=by rw [wrap_small (by omega) (by omega)]; omega
 have g20:=c84 p.x2 p.y2 oy3 (-ox3)
 rw [wrap_small (by omega) (by omega),wrap_small (by omega) (by omega),show p.y2 + -ox3 = p.y2 - ox3 by omega] at g20
 have g21:=c84 p.x3 p.y3 oy3 (-ox3)
 rw [wrap_small (by omega) (by omega),wrap_small (by omega) (by omega),show p.y3 + -ox3 = p.y3 - ox3 by omega] at g21
 have g22:=c84 p.x3 p.y3 (-oy3) ox3
 rw [wrap_small (by omega) (by omega),wrap_small (by omega) (by omega),show p.x3 + -oy3 = p.x3 - oy3 by omega] at g22
 have g23:=c84 p.x2 p.y2 (-oy3) ox3
 rw [wrap_small (by omega) (by omega),wrap_small (by omega) (by omega),show p.x2 + -oy3 = p.x2 - oy3 by omega] at g23
 rw [pc_eq]; simp +contextual -implicitDefEqProofs (maxSteps:=2000000) only [go_sem,E_50,A50,A50_L0_eq,A50_L0b,h1,h2,k1,k2,k3,g00,g01,g02,g03,g10,g11,g12,g13,g20,g21,g22,g23,n0a,n0b,n1a,n1b,n2a,n2b,lkc,c2,Qk,Q0]
 rfl
end Go.Proofs.YtbpneedpcccpaaaGreat

namespace Go.Proofs.YtbpneedpcccpaaaGreat
open Go Go.Zv
open Go.Geo (Pt)
abbrev O17 (c : Cl) (w : Wl) (rows : List (List LV)) : Heap:=[(3840,.row 4 rows),(1024,.row 4 []),(768,.box (wlc w)),(512,.box (cec c.cel))]
theorem all_g2 (l : List Pt) : ((l.map Go.Geo.c2).all fun x=>x.length == 2) = true:=by
 rw [Qj]; intro x hx
 obtain ⟨y,_,rfl⟩:=Q6.1 hx; rfl
theorem rst_len (c : Cl) (wh : List Int) : ∀ n,(rst c wh n).length≤n:=fun n=>by
 induction n with
 | zero=>simp [rst]
 | succ n ih =>
   have e : rst c wh (n + 1) = rst c wh n++rsI c wh n:=by
    unfold rst
    rw [Qa8,Qbr]; simp
   rw [e,Qm]
   have : (rsI c wh n).length≤1:=by unfold rsI; split <;> simp
   omega
theorem rst_succ (c : Cl) (wh : List Int) (n : Nat) : rst c wh (n + 1) = rst c wh n++rsI c wh n:=by
 unfold rst
 rw [Qa8,Qbr]; simp
theorem fx17 (c : Cl) (w : Wl) (hf : c.fx.length≤1000) (R : List (List LV)) (hR : R.length≤1000000) :
  (K E A17_L0 ⟨[(2,.ptr 512 0),(5,.bs 3840 0 R.length),(14,.z 0)],[],O17 c w R,0⟩).bind (blockR 8 (some [5]) [14,139]) =
   some (.ex .nrm ⟨[(5,.bs 3840 0 (R++(fxt c c.fx.length).map bdc).length)],[],O17 c w (R++(fxt c c.fx.length).map bdc),0⟩):=by
 have lp:=loop_to (fun S=>(K E A17_L0 S).bind (blockR 8 (some [5]) [14,139]))
  (fun k=>⟨[(2,.ptr 512 0),(5,.bs 3840 0 (R++(fxt c k).map bdc).length),(14,.z k)],[],O17 c w (R++(fxt c k).map bdc),0⟩) c.fx.length (fun k hk=>by
   have hget : c.fx[k]? = some (c.fx.getD k []):=Go.Geo.getD_of [] hk
   show (K E A17_L0 _).bind _ = (K E A17_L0 _).bind _
   have e : R++(fxt c (k + 1)).map bdc = R++(fxt c k).map bdc++[[.z 4,.z k,.z 0,.vs ((c.fx.getD k []).map Go.Geo.c2)]]:=by
    unfold fxt
    rw [Qa8,Ql,Ql,Qar]; rfl
   rw [e]
   have hr : (R++(fxt c k).map bdc).length≤999999999:=by simp [fxt]; omega
   generalize R++(fxt c k).map bdc = rows at *
   generalize c.fx.getD k [] = p at *
   have g1 : (c.fx.map Go.Geo.p1)[k]? = some [.vs (p.map Go.Geo.c2)]:=Go.Geo.get_m Go.Geo.p1 hget
   have h1 : (k : Int) < c.fx.length:=by omega
   have h0 : (0 : Int)≤k:=by omega
   have hw:=Go.Geo.wr_k (k:=k) (by omega)
   conv=>lhs; rw [A17_L0_eq]
   simp +contextual -implicitDefEqProofs (maxSteps:=2000000) only [go_sem,O17,A17_L0b,Qb,h0,h1,g1,hw,hr,Qm])
 simp only [Qn,Qv] at lp
 have e0 : R++(fxt c 0).map bdc = R:=by simp [fxt]
 rw [e0] at lp
 rw [lp]
 generalize R++(fxt c c.fx.length).map bdc = rows
 rw [A17_L0_eq]; simp +contextual -implicitDefEqProofs (maxSteps:=2000000) only [go_sem,O17,A17_L0b,Qp,Qb]
theorem rs17 (c : Cl) (w : Wl) (P : Pld c w) (hp : ∀ p ∈ c.pt,p.sh.length≤1000) (hl : c.pt.length≤1000) (R : List (List LV)) (hR : R.length≤10000) :
  (K E A17_L1 ⟨[(2,.ptr 512 0),(3,.ptr 768 0),(5,.bs 3840 0 R.length),(12,.z 0)],[],O17 c w R,0⟩).bind (blockR 6 (some [2,5]) [12,13,120,122]) =
   some (.ex .nrm ⟨[(2,.ptr 512 0),(5,.bs 3840 0 (R++(rst c w.wh w.wh.length).map bdc).length)],[],O17 c w (R++(rst c w.wh w.wh.length).map bdc),0⟩):=by
 have hpl:=P.len
 have lp:=loop_to (fun S=>(K E A17_L1 S).bind (blockR 6 (some [2,5]) [12,13,120,122]))
  (fun k=>⟨[(2,.ptr 512 0),(3,.ptr 768 0),(5,.bs 3840 0 (R++(rst c w.wh k).map bdc).length),(12,.z k)],[],O17 c w (R++(rst c w.wh k).map bdc),0⟩) w.wh.length (fun k hk=>by
   have hget : w.wh[k]? = some (w.wh.getD k 0):=Go.Geo.getD_of 0 hk
   have hm:=P.at_ _ (Qd hget)
   have hgp : c.pt[k]? = some (c.pt.getD k default):=Go.Geo.getD_of default (by omega)
   have hsh:=hp _ (Qd hgp)
   show (K E A17_L1 _).bind _ = (K E A17_L1 _).bind _
   have hlen:=rst_len c w.wh k
   have hr : (R++(rst c w.wh k).map bdc).length≤999999999:=by simp; omega
   rw [rst_succ,Ql,← Qar]
   generalize R++(rst c w.wh k).map bdc = rows at *
   unfold rsI
   have g1 : (w.wh.map Go.Geo.c1)[k]? = some [.z (w.wh.getD k 0)]:=Go.Geo.get_m Go.Geo.c1 hget
   have g2:=Go.Geo.get_m Go.Geo.prv hgp
   simp only [Go.Geo.prv] at g2
   generalize w.wh.getD k 0 = x at *
   generalize c.pt.getD k default = p at *
   have h1 : (k : Int) < w.wh.length:=by omega
   have h0 : (0 : Int)≤k:=by omega
   have h2 : (k : Int) < c.pt.length:=by omega
   have hw:=Go.Geo.wr_k (k:=k) (by omega)
   conv=>lhs; rw [A17_L1_eq]
   by_cases hx : x < 0
   ·have hx' : ¬ (0≤x):=by omega
    rw [if_pos hx]
    simp +contextual -implicitDefEqProofs (maxSteps:=2000000) only [go_sem,O17,A17_L1b,Qb,h0,h1,h2,g1,hw,hx',Qbc]
   ·have hx' : 0≤x:=by omega
    have hgl : c.pl[x.toNat]? = some (c.pl.getD x.toNat default):=Go.Geo.getD_of default (by omega)
    have g3:=Go.Geo.get_m Go.Geo.plv hgl
    simp only [Go.Geo.plv] at g3
    rw [if_neg hx]
    generalize c.pl.getD x.toNat default = l at *
    have o:=c53 p.nm p.sh p.at_ l.x l.y l.dx l.dy l.dn hsh
    have hx2:=hm.2
    have hal:=all_g2 (laid_ l.x l.y l.dx l.dy p.sh)
    simp +contextual -implicitDefEqProofs (maxSteps:=2000000) only [go_sem,O17,A17_L1b,Qb,h0,h1,h2,g1,g2,g3,hw,hr,hx',hx2,o,Qm,take_ml])
 simp only [Qn,Qv] at lp
 have e0 : R++(rst c w.wh 0).map bdc = R:=by simp [rst]
 rw [e0] at lp
 rw [lp]
 generalize R++(rst c w.wh w.wh.length).map bdc = rows
 rw [A17_L1_eq]; simp +contextual -implicitDefEqProofs (maxSteps:=2000000) only [go_sem,O17,A17_L1b,Qp,Qb,hpl]
end Go.Proofs.YtbpneedpcccpaaaGreat

namespace Go.Proofs.YtbpneedpcccpaaaGreat
open Go Go.Zv
open Go.Geo (Pt)
theorem c17 (c : Cl) (w : Wl) (H : Fin_ c) (P : Pld c w) : pc E 17 [.agg (cec c.cel),.agg (wlc w)] = some (.os 4 ((bodies c w).map bdc)):=by
 obtain ⟨L0,L1,L2,hL⟩:=lks3 c.a (dd w.q0 w.q1 w.q2)
 obtain ⟨M0,M1,M2,hM⟩:=lks3 c.b (dd w.q3 w.q4 w.q5)
 have o1:=c50 c.a H.ha w.q0 w.q1 w.q2
 have o2:=c50 c.b H.hb w.q3 w.q4 w.q5
 rw [hL] at o1
 rw [hM] at o2
 have o1 : pc E 50 [av c.a,jv w.q0 w.q1 w.q2] = some (.agg [.vs (L0.map Go.Geo.c2),.vs (L1.map Go.Geo.c2),.vs (L2.map Go.Geo.c2)]):=o1
 have o2 : pc E 50 [av c.b,jv w.q3 w.q4 w.q5] = some (.agg [.vs (M0.map Go.Geo.c2),.vs (M1.map Go.Geo.c2),.vs (M2.map Go.Geo.c2)]):=o2
 have j1:=c51 c.a H.ha w.q0 w.q1 w.q2
 have j2:=c51 c.b H.hb w.q3 w.q4 w.q5
 have d1:=c52' c.a w.q0 w.q1 w.q2
 have d2:=c52' c.b w.q3 w.q4 w.q5
 unfold bodies
 rw [hL,hM]
 have hh0:=P.h0
 have hh1:=P.h1
 have hrs:=rs17 c w P H.sh H.pl
 have hfx:=fx17 c w H.fl
 have hfin : ∀ X : List Bd,((lnk 0 [L0,L1,L2]++(lnk 1 [M0,M1,M2]++X)).map bdc) = [[.z 1,.z 0,.z 0,.vs (L0.map Go.Geo.c2)],[.z 1,.z 0,.z 1,.vs (L1.map Go.Geo.c2)],[.z 1,.z 0,.z 2,.vs (L2.map Go.Geo.c2)],[.z 1,.z 1,.z 0,.vs (M0.map Go.Geo.c2)],[.z 1,.z 1,.z 1,.vs (M1.map Go.Geo.c2)],[.z 1,.z 1,.z 2,.vs (M2.map Go.Geo.c2)]]++X.map bdc:=fun X=>by
  rw [Ql,Ql,← Qar]; rfl
 rw [hfin]
 have hlen : ((rst c w.wh w.wh.length).map bdc).length≤1000:=by
  rw [Qb]
  have:=rst_len c w.wh w.wh.length
  have:=P.len
  have:=H.pl
  omega
 have y1 : (c.fx.map Go.Geo.p1).length = c.fx.length:=Qb ..
 have y2 : (w.wh.map Go.Geo.c1).length = w.wh.length:=Qb ..
 have y3 : (c.pt.map Go.Geo.prv).length = c.pt.length:=Qb ..
 have key : ∀ (h : Int),-1≤h → h < c.pt.length → ¬ h < 0 → ∃ p : Go.Geo.Prt,c.pt.getD h.toNat default = p∧(c.pt.map Go.Geo.prv)[h.toNat]? = some [.str p.nm,.vs (p.sh.map Go.Geo.c2),.z p.at_]∧0≤h ∧ ∀ ax ay dx dy dn,pc E 53 [.agg [.str p.nm,.vs (p.sh.map Go.Geo.c2),.z p.at_],.agg [.z ax,.z ay],.agg [.z dx,.z dy,.z dn]] = some (.os 2 ((laid_ ax ay dx dy p.sh).map Go.Geo.c2)):=fun h h1 h2 h3=>by
  have hg : c.pt[h.toNat]? = some (c.pt.getD h.toNat default):=Go.Geo.getD_of default (by omega)
  refine ⟨_,rfl,Go.Geo.get_m Go.Geo.prv hg,by omega,fun ax ay dx dy dn=>c53 _ _ _ _ _ _ _ _ (H.sh _ (Qd hg))⟩
 unfold crd
 by_cases n0 : w.h0 < 0
 ·by_cases n1 : w.h1 < 0
  ·skip
   rw [if_pos n0,if_pos n1]
   have z0 : ¬ 0≤w.h0:=by omega
   have z1 : ¬ 0≤w.h1:=by omega
   have a1:=hrs [[.z 1,.z 0,.z 0,.vs (L0.map Go.Geo.c2)],[.z 1,.z 0,.z 1,.vs (L1.map Go.Geo.c2)],[.z 1,.z 0,.z 2,.vs (L2.map Go.Geo.c2)],[.z 1,.z 1,.z 0,.vs (M0.map Go.Geo.c2)],[.z 1,.z 1,.z 1,.vs (M1.map Go.Geo.c2)],[.z 1,.z 1,.z 2,.vs (M2.map Go.Geo.c2)]] (by simp)
   have a2:=hfx ([[.z 1,.z 0,.z 0,.vs (L0.map Go.Geo.c2)],[.z 1,.z 0,.z 1,.vs (L1.map Go.Geo.c2)],[.z 1,.z 0,.z 2,.vs (L2.map Go.Geo.c2)],[.z 1,.z 1,.z 0,.vs (M0.map Go.Geo.c2)],[.z 1,.z 1,.z 1,.vs (M1.map Go.Geo.c2)],[.z 1,.z 1,.z 2,.vs (M2.map Go.Geo.c2)]]++(rst c w.wh w.wh.length).map bdc) (by simp at hlen ⊢; omega)
   simp only [Qw,Qy,Ql,Qk,Q0]
   generalize (rst c w.wh w.wh.length).map bdc = X at *
   generalize (fxt c c.fx.length).map bdc = Y at *
   rw [Qar] at a2
   generalize X++Y = Z at *
   simp only [O17,Qy,Qw,Q4,Qa0,Qm] at a1 a2
   rw [pc_eq]; simp +contextual -implicitDefEqProofs (maxSteps:=2000000) only [go_sem,E_17,A17,A17_L4_eq,A17_L4b,A17_L3_eq,A17_L3b,A17_L2_eq,A17_L2b,o1,o2,j1,j2,d1,d2,n0,z0,n1,z1,a1,a2,y1,y2,y3,all_g2,Qb,take_ml]
  ·skip
   rw [if_pos n0,if_neg n1]
   have z0 : ¬ 0≤w.h0:=by omega
   obtain ⟨p1,e1,g1,m1,t1⟩:=key w.h1 hh1.1 hh1.2 n1
   rw [e1]
   have k1:=hh1.2
   have a1:=hrs [[.z 1,.z 0,.z 0,.vs (L0.map Go.Geo.c2)],[.z 1,.z 0,.z 1,.vs (L1.map Go.Geo.c2)],[.z 1,.z 0,.z 2,.vs (L2.map Go.Geo.c2)],[.z 1,.z 1,.z 0,.vs (M0.map Go.Geo.c2)],[.z 1,.z 1,.z 1,.vs (M1.map Go.Geo.c2)],[.z 1,.z 1,.z 2,.vs (M2.map Go.Geo.c2)],[.z 2,.z 1,.z 0,.vs ((laid_ (pp c.b (dd w.q3 w.q4 w.q5)).x3 (pp c.b (dd w.q3 w.q4 w.q5)).y3 (dd w.q3 w.q4 w.q5).x3 (dd w.q3 w.q4 w.q5).y3 p1.sh).map Go.Geo.c2)]] (by simp)
   have a2:=hfx ([[.z 1,.z 0,.z 0,.vs (L0.map Go.Geo.c2)],[.z 1,.z 0,.z 1,.vs (L1.map Go.Geo.c2)],[.z 1,.z 0,.z 2,.vs (L2.map Go.Geo.c2)],[.z 1,.z 1,.z 0,.vs (M0.map Go.Geo.c2)],[.z 1,.z 1,.z 1,.vs (M1.map Go.Geo.c2)],[.z 1,.z 1,.z 2,.vs (M2.map Go.Geo.c2)],[.z 2,.z 1,.z 0,.vs ((laid_ (pp c.b (dd w.q3 w.q4 w.q5)).x3 (pp c.b (dd w.q3 w.q4 w.q5)).y3 (dd w.q3 w.q4 w.q5).x3 (dd w.q3 w.q4 w.q5).y3 p1.sh).map Go.Geo.c2)]]++(rst c w.wh w.wh.length).map bdc) (by simp at hlen ⊢; omega)
   simp only [Qw,Qy,Ql,Qk,Q0]
   generalize (rst c w.wh w.wh.length).map bdc = X at *
   generalize (fxt c c.fx.length).map bdc = Y at *
   rw [Qar] at a2
   generalize X++Y = Z at *
   simp only [O17,Qy,Qw,Q4,Qa0,Qm] at a1 a2
   rw [pc_eq]; simp +contextual -implicitDefEqProofs (maxSteps:=2000000) only [go_sem,E_17,A17,A17_L4_eq,A17_L4b,A17_L3_eq,A17_L3b,A17_L2_eq,A17_L2b,o1,o2,j1,j2,d1,d2,n0,z0,n1,m1,g1,k1,t1,a1,a2,y1,y2,y3,all_g2,Qb,take_ml]
 ·by_cases n1 : w.h1 < 0
  ·skip
   rw [if_neg n0,if_pos n1]
   obtain ⟨p0,e0,g0,m0,t0⟩:=key w.h0 hh0.1 hh0.2 n0
   rw [e0]
   have k0:=hh0.2
   have z1 : ¬ 0≤w.h1:=by omega
   have a1:=hrs [[.z 1,.z 0,.z 0,.vs (L0.map Go.Geo.c2)],[.z 1,.z 0,.z 1,.vs (L1.map Go.Geo.c2)],[.z 1,.z 0,.z 2,.vs (L2.map Go.Geo.c2)],[.z 1,.z 1,.z 0,.vs (M0.map Go.Geo.c2)],[.z 1,.z 1,.z 1,.vs (M1.map Go.Geo.c2)],[.z 1,.z 1,.z 2,.vs (M2.map Go.Geo.c2)],[.z 2,.z 0,.z 0,.vs ((laid_ (pp c.a (dd w.q0 w.q1 w.q2)).x3 (pp c.a (dd w.q0 w.q1 w.q2)).y3 (dd w.q0 w.q1 w.q2).x3 (dd w.q0 w.q1 w.q2).y3 p0.sh).map Go.Geo.c2)]] (by simp)
   have a2:=hfx ([[.z 1,.z 0,.z 0,.vs (L0.map Go.Geo.c2)],[.z 1,.z 0,.z 1,.vs (L1.map Go.Geo.c2)],[.z 1,.z 0,.z 2,.vs (L2.map Go.Geo.c2)],[.z 1,.z 1,.z 0,.vs (M0.map Go.Geo.c2)],[.z 1,.z 1,.z 1,.vs (M1.map Go.Geo.c2)],[.z 1,.z 1,.z 2,.vs (M2.map Go.Geo.c2)],[.z 2,.z 0,.z 0,.vs ((laid_ (pp c.a (dd w.q0 w.q1 w.q2)).x3 (pp c.a (dd w.q0 w.q1 w.q2)).y3 (dd w.q0 w.q1 w.q2).x3 (dd w.q0 w.q1 w.q2).y3 p0.sh).map Go.Geo.c2)]]++(rst c w.wh w.wh.length).map bdc) (by simp at hlen ⊢; omega)
   simp only [Qw,Qy,Ql,Qk,Q0]
   generalize (rst c w.wh w.wh.length).map bdc = X at *
   generalize (fxt c c.fx.length).map bdc = Y at *
   rw [Qar] at a2
   generalize X++Y = Z at *
   simp only [O17,Qy,Qw,Q4,Qa0,Qm] at a1 a2
   rw [pc_eq]; simp +contextual -implicitDefEqProofs (maxSteps:=2000000) only [go_sem,E_17,A17,A17_L4_eq,A17_L4b,A17_L3_eq,A17_L3b,A17_L2_eq,A17_L2b,o1,o2,j1,j2,d1,d2,n0,m0,g0,k0,t0,n1,z1,a1,a2,y1,y2,y3,all_g2,Qb,take_ml]
  ·skip
   rw [if_neg n0,if_neg n1]
   obtain ⟨p0,e0,g0,m0,t0⟩:=key w.h0 hh0.1 hh0.2 n0
   rw [e0]
   have k0:=hh0.2
   obtain ⟨p1,e1,g1,m1,t1⟩:=key w.h1 hh1.1 hh1.2 n1
   rw [e1]
   have k1:=hh1.2
   have a1:=hrs [[.z 1,.z 0,.z 0,.vs (L0.map Go.Geo.c2)],[.z 1,.z 0,.z 1,.vs (L1.map Go.Geo.c2)],[.z 1,.z 0,.z 2,.vs (L2.map Go.Geo.c2)],[.z 1,.z 1,.z 0,.vs (M0.map Go.Geo.c2)],[.z 1,.z 1,.z 1,.vs (M1.map Go.Geo.c2)],[.z 1,.z 1,.z 2,.vs (M2.map Go.Geo.c2)],[.z 2,.z 0,.z 0,.vs ((laid_ (pp c.a (dd w.q0 w.q1 w.q2)).x3 (pp c.a (dd w.q0 w.q1 w.q2)).y3 (dd w.q0 w.q1 w.q2).x3 (dd w.q0 w.q1 w.q2).y3 p0.sh).map Go.Geo.c2)],[.z 2,.z 1,.z 0,.vs ((laid_ (pp c.b (dd w.q3 w.q4 w.q5)).x3 (pp c.b (dd w.q3 w.q4 w.q5)).y3 (dd w.q3 w.q4 w.q5).x3 (dd w.q3 w.q4 w.q5).y3 p1.sh).map Go.Geo.c2)]] (by simp)
   have a2:=hfx ([[.z 1,.z 0,.z 0,.vs (L0.map Go.Geo.c2)],[.z 1,.z 0,.z 1,.vs (L1.map Go.Geo.c2)],[.z 1,.z 0,.z 2,.vs (L2.map Go.Geo.c2)],[.z 1,.z 1,.z 0,.vs (M0.map Go.Geo.c2)],[.z 1,.z 1,.z 1,.vs (M1.map Go.Geo.c2)],[.z 1,.z 1,.z 2,.vs (M2.map Go.Geo.c2)],[.z 2,.z 0,.z 0,.vs ((laid_ (pp c.a (dd w.q0 w.q1 w.q2)).x3 (pp c.a (dd w.q0 w.q1 w.q2)).y3 (dd w.q0 w.q1 w.q2).x3 (dd w.q0 w.q1 w.q2).y3 p0.sh).map Go.Geo.c2)],[.z 2,.z 1,.z 0,.vs ((laid_ (pp c.b (dd w.q3 w.q4 w.q5)).x3 (pp c.b (dd w.q3 w.q4 w.q5)).y3 (dd w.q3 w.q4 w.q5).x3 (dd w.q3 w.q4 w.q5).y3 p1.sh).map Go.Geo.c2)]]++(rst c w.wh w.wh.length).map bdc) (by simp at hlen ⊢; omega)
   simp only [Qw,Qy,Ql,Qk,Q0]
   generalize (rst c w.wh w.wh.length).map bdc = X at *
   generalize (fxt c c.fx.length).map bdc = Y at *
   rw [Qar] at a2
   generalize X++Y = Z at *
   simp only [O17,Qy,Qw,Q4,Qa0,Qm] at a1 a2
   rw [pc_eq]; simp +contextual -implicitDefEqProofs (maxSteps:=2000000) only [go_sem,E_17,A17,A17_L4_eq,A17_L4b,A17_L3_eq,A17_L3b,A17_L2_eq,A17_L2b,o1,o2,j1,j2,d1,d2,n0,m0,g0,k0,t0,n1,m1,g1,k1,t1,a1,a2,y1,y2,y3,all_g2,Qb,take_ml]
end Go.Proofs.YtbpneedpcccpaaaGreat

namespace Go.Proofs.YtbpneedpcccpaaaGreat
open Go Go.Zv
open Go.Geo (Pt)
deriving instance DecidableEq for Bd
theorem Bd.eq_iff (a b : Bd) : a = b ↔ isB a b = true∧a.ar = b.ar:=by
 obtain ⟨a1,a2,a3,a4⟩:=a
 obtain ⟨b1,b2,b3,b4⟩:=b
 simp [isB,and_assoc]
theorem get_bp {l : List (Bd × Bd)} {i : Nat} {p : Bd × Bd} (h : l[i]? = some p) : (l.map bpc)[i]? = some (bpc p):=by rw [Qan,h]; rfl
theorem get_bd {l : List Bd} {i : Nat} {p : Bd} (h : l[i]? = some p) : (l.map bdc)[i]? = some (bdc p):=by rw [Qan,h]; rfl
def shortP (p : Bd × Bd) : Prop:=p.1.ar.length≤1000000∧p.2.ar.length≤1000000
theorem c54g (a b : List Pt) (hl : a.length≤1000000) : pc E 54 [.vs (a.map Go.Geo.c2),.vs (b.map Go.Geo.c2)] = some (.bool (decide (a = b))):=c54 a b (by omega)
theorem c18 (a b : List (Bd × Bd)) (hl : a.length≤1000000) (ha : ∀ p ∈ a,shortP p) : pc E 18 [.vs (a.map bpc),.vs (b.map bpc)] = some (.bool (decide (a = b))):=by
 by_cases h : a.length = b.length
 ·have lp := loop_eq (fun S=>(K E A18_L0 S).bind (blockR 0 (some []) [4,5,27,40,56,72])) (fun k=>⟨[(0,.vs (a.map bpc)),(1,.vs (b.map bpc)),(5,.z k)],[],[],0⟩) a b h (some (.ex .ret ⟨[(4,.bool false)],[],[],0⟩)) (some (.ex .nrm ⟨[],[],[],0⟩))
   (by
    show (K E A18_L0 _).bind _ = _
    rw [A18_L0_eq]; simp +contextual -implicitDefEqProofs (maxSteps:=2000000) only [go_sem,A18_L0b,Qp,Qb])
   (fun k p q hk hp hq=>by
    show (K E A18_L0 _).bind _ = if _ then (K E A18_L0 _).bind _ else _
    have h1 : (k : Int) < a.length:=by omega
    have h2 : (k : Int) < b.length:=by omega
    have h0 : (0 : Int)≤k:=by omega
    have hw:=Go.Geo.wr_k (k:=k) (by omega)
    have g1:=get_bp hp
    have g2:=get_bp hq
    have hs:=ha p (Qd hp)
    obtain ⟨p1,p2⟩:=p
    obtain ⟨q1,q2⟩:=q
    have i1:=c28 p1 q1
    have i2:=c28 p2 q2
    have i3:=c54g p1.ar q1.ar hs.1
    have i4:=c54g p2.ar q2.ar hs.2
    simp only [Prod.mk.injEq,Bd.eq_iff]
    conv=>lhs; rw [A18_L0_eq]
    cases e1 : isB p1 q1 with
    | false=>rw [e1] at i1; simp +contextual -implicitDefEqProofs (maxSteps:=2000000) only [go_sem,A18_L0b,Qb,h0,h1,h2,hw,g1,g2,i1,false_and]
    | true =>
      rw [e1] at i1
      cases e2 : isB p2 q2 with
      | false=>rw [e2] at i2; simp +contextual -implicitDefEqProofs (maxSteps:=2000000) only [go_sem,A18_L0b,Qb,h0,h1,h2,hw,g1,g2,i1,i2,false_and,and_false]
      | true =>
        rw [e2] at i2
        by_cases e3 : p1.ar = q1.ar
        ·by_cases e4 : p2.ar = q2.ar
         ·rw [decide_eq_true e3] at i3
          rw [decide_eq_true e4] at i4
          rw [e3] at *
          rw [e4] at *
          simp +contextual -implicitDefEqProofs (maxSteps:=2000000) only [go_sem,A18_L0b,Qb,h0,h1,h2,hw,g1,g2,i1,i2,i3,i4]
         ·rw [decide_eq_true e3] at i3
          rw [decide_eq_false e4] at i4
          rw [e3] at *
          simp +contextual -implicitDefEqProofs (maxSteps:=2000000) only [go_sem,A18_L0b,Qb,h0,h1,h2,hw,g1,g2,i1,i2,i3,i4,e4]
        ·rw [decide_eq_false e3] at i3
         simp +contextual -implicitDefEqProofs (maxSteps:=2000000) only [go_sem,A18_L0b,Qb,h0,h1,h2,hw,g1,g2,i1,i2,i3,e3])
  simp only [Qn,Qv] at lp
  have h' : ((a.length : Int) != b.length) = false:=by simp [h]
  by_cases e : a = b
  ·subst e
   rw [if_pos rfl] at lp
   rw [pc_eq]; simp +contextual -implicitDefEqProofs (maxSteps:=2000000) only [go_sem,E_18,A18,Qb,h',lp,bne_self_eq_false]
  ·rw [if_neg e] at lp
   rw [pc_eq]; simp +contextual -implicitDefEqProofs (maxSteps:=2000000) only [go_sem,E_18,A18,Qb,h',lp,e]
 ·have h' : ((a.length : Int) != b.length) = true:=by simp; omega
  have h2 : ¬ ((a.length : Int) = b.length):=by omega
  have e : ¬ a = b:=fun e=>h (by rw [e])
  rw [pc_eq]; simp +contextual -implicitDefEqProofs (maxSteps:=2000000) only [go_sem,E_18,A18,Qb,h',h2,e]
end Go.Proofs.YtbpneedpcccpaaaGreat

namespace Go.Proofs.YtbpneedpcccpaaaGreat
open Go Go.Zv
open Go.Geo (Pt)
instance : Inhabited Bd:=⟨⟨0,0,0,[]⟩⟩
def prJ (a : Bd) (m : List Bd) : List (Bd × Bd):=(m.filter (bar a)).map fun b=>(a,b)
def prI (l : List Bd) (i : Nat) : List (Bd × Bd):=prJ (l.getD i default) (l.drop (i + 1))
def prN (l : List Bd) (n : Nat) : List (Bd × Bd):=(List.range n).flatMap (prI l)
def prs (l : List Bd) : List (Bd × Bd):=prN l l.length
theorem prN_succ (l : List Bd) (n : Nat) : prN l (n + 1) = prN l n++prI l n:=by
 unfold prN
 rw [Qa8,Qbr]; simp
theorem prJ_len (a : Bd) (m : List Bd) : (prJ a m).length≤m.length:=by
 simp only [prJ,Qb]; exact Qbv _ _
theorem prN_len (l : List Bd) : ∀ n,(prN l n).length≤n * l.length:=fun n=>by
 induction n with
 | zero=>simp [prN]
 | succ n ih =>
   rw [prN_succ,Qm,Nat.succ_mul]
   have:=prJ_len (l.getD n default) (l.drop (n + 1))
   simp only [Qbx] at this
   unfold prI
   omega
end Go.Proofs.YtbpneedpcccpaaaGreat

namespace Go.Proofs.YtbpneedpcccpaaaGreat
open Go Go.Zv
open Go.Geo (Pt FC)
def pfJ (f : Bd → Bd → Bool) (a : Bd) (m : List Bd) : List (Bd × Bd):=(m.filter (f a)).map fun b=>(a,b)
def pfI (f : Bd → Bd → Bool) (l : List Bd) (i : Nat) : List (Bd × Bd):=pfJ f (l.getD i default) (l.drop (i + 1))
def pfN (f : Bd → Bd → Bool) (l : List Bd) (n : Nat) : List (Bd × Bd):=(List.range n).flatMap (pfI f l)
def pfs (f : Bd → Bd → Bool) (l : List Bd) : List (Bd × Bd):=pfN f l l.length
theorem pfN_succ (f : Bd → Bd → Bool) (l : List Bd) (n : Nat) : pfN f l (n + 1) = pfN f l n++pfI f l n:=by
 unfold pfN
 rw [Qa8,Qbr]; simp
theorem pfJ_len (f : Bd → Bd → Bool) (a : Bd) (m : List Bd) : (pfJ f a m).length≤m.length:=by
 simp only [pfJ,Qb]; exact Qbv _ _
theorem pfN_len (f : Bd → Bd → Bool) (l : List Bd) : ∀ n,(pfN f l n).length≤n * l.length:=fun n=>by
 induction n with
 | zero=>simp [pfN]
 | succ n ih =>
   rw [pfN_succ,Qm,Nat.succ_mul]
   have:=pfJ_len f (l.getD n default) (l.drop (n + 1))
   simp only [Qbx] at this
   unfold pfI
   omega
theorem pfJ_take (f : Bd → Bd → Bool) (a : Bd) (m : List Bd) (k : Nat) (b : Bd) (h : m[k]? = some b) : pfJ f a (m.take (k + 1)) = pfJ f a (m.take k)++if f a b = true then [(a,b)] else []:=by
 unfold pfJ
 rw [Qa4,h,List.filter_append,Ql]
 congr 1
 cases hb : f a b <;> simp [hb]
theorem pfs_and (f g : Bd → Bd → Bool) (l : List Bd) : pfs (fun a b=>f a b && g a b) l = (pfs f l).filter fun p=>g p.1 p.2:=by
 have hJ : ∀ a m,pfJ (fun a b=>f a b && g a b) a m = (pfJ f a m).filter fun p=>g p.1 p.2:=fun a m=>by
  unfold pfJ
  rw [List.filter_map]
  congr 1
  rw [List.filter_filter]
  refine Qc1 fun b _=>?_
  simp [Function.comp,Bool.and_comm]
 have hN : ∀ n,pfN (fun a b=>f a b && g a b) l n = (pfN f l n).filter fun p=>g p.1 p.2:=fun n=>by
  induction n with
  | zero=>rfl
  | succ n ih=>rw [pfN_succ,pfN_succ,List.filter_append,ih]; congr 1; exact hJ _ _
 exact hN _
def tch (a b : Bd) : Bool:=bar a b && (FC a.ar b.ar).isSome
structure Kinds (l : List Bd) : Prop where
 k : ∀ b ∈ l,b.k = 1 ∨ b.k = 2 ∨ b.k = 3 ∨ b.k = 4
 le : ∀ i j : Nat,i < j → ∀ a b : Bd,l[i]? = some a → l[j]? = some b → a.k≤b.k
 ar : ∀ b ∈ l,b.ar.length≤1000000
theorem all_b4 (l : List Bd) : ((l.map bdc).all fun x=>x.length == 4) = true:=by
 rw [Qj]; intro x hx
 obtain ⟨y,_,rfl⟩:=Q6.1 hx; rfl
theorem dt4 (l : List Bd) (i : Nat) : List.drop (i + 1) (List.take l.length (l.map bdc)) = (l.drop (i + 1)).map bdc:=by
 rw [take_ml,List.map_drop]
def MP : List (LV × LV):=[(rlK 1 1,rlV 112),(rlK 1 2,rlV 113),(rlK 1 3,rlV 114),(rlK 1 4,rlV 115),(rlK 2 2,rlV 115),(rlK 2 3,rlV 115),(rlK 2 4,rlV 115)]
theorem c87m : pc E 87 [] = some (.om MP):=c87
abbrev TI (l : List Bd) (i k : Int) (m : List Bd) : Env:=[(0,.yl 1024000),(4,.mp 1051648),(5,.vs (l.map bdc)),(7,.ptr 1050368 0),(16,.vs (l.map bdc)),(17,.z l.length),(18,.z i),(26,.vs (m.map bdc)),(27,.z m.length),(28,.z k)]
abbrev TJ (l : List Bd) (i : Int) : Env:=[(0,.yl 1024000),(4,.mp 1051648),(5,.vs (l.map bdc)),(16,.vs (l.map bdc)),(17,.z l.length),(18,.z i)]
theorem bar_rule (a b : Bd) (ha : a.k = 1 ∨ a.k = 2 ∨ a.k = 3 ∨ a.k = 4) (hb : b.k = 1 ∨ b.k = 2 ∨ b.k = 3 ∨ b.k = 4) (hle : a.k≤b.k) :
  (∃ f,((a.k = 1∧b.k = 1∧f = 112) ∨ (a.k = 1∧b.k = 2∧f = 113) ∨ (a.k = 1∧b.k = 3∧f = 114) ∨ (a.k = 1∧b.k = 4∧f = 115) ∨ (a.k = 2∧b.k = 2∧f = 115) ∨ (a.k = 2∧b.k = 3∧f = 115) ∨ (a.k = 2∧b.k = 4∧f = 115))∧pc E f [.agg (bdc a),.agg (bdc b)] = some (.bool (bar a b)) ∧
   lookupE [1,0,0] (.agg [.z a.k,.z b.k]) MP = some (some (rlV f))) ∨
  (bar a b = false∧lookupE [1,0,0] (.agg [.z a.k,.z b.k]) MP = some none):=by
 have k1:=c112 a b
 have k2:=c113 a b
 have k3:=c114 a b
 have k4:=c115 a b
 unfold bar
 rcases ha with h | h | h | h <;> rcases hb with g | g | g | g <;> rw [h,g] at hle ⊢ <;> first
  | (exfalso; revert hle; decide)
  | (refine .inl ⟨112,by simp,?_,?_⟩ <;> first | (simp only [if_true]; exact k1) | rfl)
  | (refine .inl ⟨113,by simp,?_,?_⟩ <;> first | (simp only [if_true,Int.reduceEq,if_false]; exact k2) | rfl)
  | (refine .inl ⟨114,by simp,?_,?_⟩ <;> first | (simp only [if_true,Int.reduceEq,if_false]; exact k3) | rfl)
  | (refine .inl ⟨115,by simp,?_,?_⟩ <;> first | (simp only [if_true,Int.reduceEq,if_false,decide_true]; exact k4) | rfl)
  | exact .inr ⟨by simp,rfl⟩

abbrev F19 (c : Cl) (w : Wl) : List Env:=[[(4,.bs 1024 0 0),(5,.ptr 1280 0),(9,.fn (Fn.func 86) [] [.fp (cec c.cel),.fp (wlc w)])],[(0,.yl 1024000)]]
abbrev O19 (c : Cl) (w : Wl) (rows : List (List LV)) : Heap:=[(1051648,.map MP),(1024000,.loop [(4,.bs 1024 0 0),(5,.ptr 1280 0),(9,.fn (Fn.func 86) [] [.fp (cec c.cel),.fp (wlc w)])] [10] A19_R0a A19_R0b LSt.ready AEx.nrm),(1280,.box [.bs 1281 0 rows.length]),(1281,.row 8 rows),(1024,.row 8 [])]
abbrev F21 (c : Cl) (w : Wl) : List Env:=[[(4,.bs 1024 0 0),(5,.ptr 1280 0),(9,.fn (Fn.func 86) [] [.fp (cec c.cel),.fp (wlc w)])],[(0,.yl 1024000)]]
abbrev O21 (c : Cl) (w : Wl) (rows : List (List LV)) : Heap:=[(1051648,.map MP),(1024000,.loop [(4,.bs 1024 0 0),(5,.ptr 1280 0),(9,.fn (Fn.func 86) [] [.fp (cec c.cel),.fp (wlc w)])] [10] A21_R0a A21_R0b LSt.ready AEx.nrm),(1280,.box [.bs 1281 0 rows.length]),(1281,.row 8 rows),(1024,.row 8 [])]
theorem in21 (c : Cl) (w : Wl) (l : List Bd) (Kd : Kinds l) (hl : l.length≤1000) (i : Nat) (hi : i < l.length) (R : List (List LV)) (hR : R.length≤1000000) :
  (K E A86_L0 ⟨TI l i 0 (l.drop (i + 1)),F21 c w,(1050368,.box (bdc (l.getD i default)))::(1050372,.row 2 [])::O21 c w R,1⟩).bind (blockR 2 (some [0,4,5,16,17,18]) [9,10,11,48,55]) =
   some (.ex .nrm ⟨TJ l i,F21 c w,(1050368,.box (bdc (l.getD i default)))::(1050372,.row 2 [])::O21 c w (R++(pfI tch l i).map bpc),1⟩):=by
 have ha : l[i]? = some (l.getD i default):=Go.Geo.getD_of default hi
 have hd : (l.drop (i + 1)).length = l.length - (i + 1):=Qbx ..
 have hka:=Kd.k _ (Qd ha)
 have hla:=Kd.ar _ (Qd ha)
 have lp:=loop_to (fun S=>(K E A86_L0 S).bind (blockR 2 (some [0,4,5,16,17,18]) [9,10,11,48,55]))
  (fun k=>⟨TI l i k (l.drop (i + 1)),F21 c w,(1050368,.box (bdc (l.getD i default)))::(1050372,.row 2 [])::O21 c w (R++(pfJ tch (l.getD i default) ((l.drop (i + 1)).take k)).map bpc),1⟩)
  (l.drop (i + 1)).length (fun k hk=>by
   have hb : (l.drop (i + 1))[k]? = some ((l.drop (i + 1))[k]'hk):=Qf _
   generalize (l.drop (i + 1))[k]'hk = b at *
   have hb2 : l[i + 1 + k]? = some b:=by rwa [Qbl] at hb
   have hle:=Kd.le i (i + 1 + k) (by omega) _ _ ha hb2
   have hkb:=Kd.k _ (Qd hb2)
   have hlb:=Kd.ar _ (Qd hb2)
   have ht:=pfJ_take tch (l.getD i default) (l.drop (i + 1)) k b hb
   have hr : (R++(pfJ tch (l.getD i default) ((l.drop (i + 1)).take k)).map bpc).length≤999999999:=by
    have:=pfJ_len tch (l.getD i default) ((l.drop (i + 1)).take k)
    simp at this ⊢; omega
   rw [ht,Ql,← Qar]
   generalize R++(pfJ tch (l.getD i default) ((l.drop (i + 1)).take k)).map bpc = rows at *
   have g2:=get_bd hb
   generalize l.getD i default = a at *
   generalize l.drop (i + 1) = m at *
   have h2 : (0 : Int)≤k:=by omega
   have h3 : (k : Int) < m.length:=by omega
   have hw:=Go.Geo.wr_k (k:=k) (by omega)
   show (K E A86_L0 _).bind _ = (K E A86_L0 _).bind _
   conv=>lhs; rw [A86_L0_eq]
   rcases bar_rule a b hka hkb hle with ⟨f,_,o,lk⟩ | ⟨hbr,lk⟩
   ·cases hbr : bar a b with
    | false =>
      rw [hbr] at o
      have hs : tch a b = false:=by simp [tch,hbr]
      try rw [hs]
      simp +contextual -implicitDefEqProofs (maxSteps:=2000000) only [go_sem,O21,F21,TI,A86_L0b,Qb,h2,h3,hw,g2,lk,o,Qbc,Q8]
    | true =>
      rw [hbr] at o
      have o57:=Go.Proofs.YtbpneedpcccpaaaGreat.G.c57 a.ar b.ar (by omega) (by omega)
      cases hF : (FC a.ar b.ar).isSome with
      | false =>
        rw [hF] at o57
        have hs : tch a b = false:=by simp [tch,hF]
        try rw [hs]
        simp +contextual -implicitDefEqProofs (maxSteps:=2000000) only [go_sem,O21,F21,TI,A86_L0b,A21_R0a,A21_R0b,Qb,h2,h3,hw,hr,g2,lk,o,o57,Qbc,Q8]
      | true =>
        rw [hF] at o57
        have hs : tch a b = true:=by simp [tch,hF,hbr]
        try rw [hs]
        simp +contextual -implicitDefEqProofs (maxSteps:=2000000) only [go_sem,O21,F21,TI,A86_L0b,A21_R0a,A21_R0b,Qb,h2,h3,hw,hr,g2,lk,o,o57,Qm]
   ·have hs : tch a b = false:=by simp [tch,hbr]
    try rw [hs]
    simp +contextual -implicitDefEqProofs (maxSteps:=2000000) only [go_sem,O21,F21,TI,A86_L0b,Qb,h2,h3,hw,g2,lk,Qbc,Q8])
 simp only [Qcq,Qn,Qv] at lp
 have e0 : R++(pfJ tch (l.getD i default) []).map bpc = R:=by simp [pfJ]
 rw [e0] at lp
 rw [lp,Qbn]
 have e3 : pfJ tch (l.getD i default) (l.drop (i + 1)) = pfI tch l i:=rfl
 rw [e3]
 generalize R++(pfI tch l i).map bpc = rows
 generalize l.drop (i + 1) = m
 rw [A86_L0_eq]; simp +contextual -implicitDefEqProofs (maxSteps:=2000000) only [go_sem,O21,F21,TI,TJ,A86_L0b,Qp,Qb]
theorem out21 (c : Cl) (w : Wl) (l : List Bd) (Kd : Kinds l) (hl : l.length≤900) :
  (K E A86_L1 ⟨TJ l 0,F21 c w,O21 c w [],1⟩).bind (blockR 0 (some []) [6,7,9,10,11,48,55]) =
   some (.ex .nrm ⟨[],F21 c w,O21 c w ((pfs tch l).map bpc),1⟩):=by
 have lp:=loop_to (fun S=>(K E A86_L1 S).bind (blockR 0 (some []) [6,7,9,10,11,48,55]))
  (fun k=>⟨TJ l k,F21 c w,O21 c w ((pfN tch l k).map bpc),1⟩)
  l.length (fun k hk=>by
   have hn:=pfN_len tch l k
   have hq : k * l.length≤900 * 900:=Qdq (by omega) hl
   have hin:=in21 c w l Kd (by omega) k hk ((pfN tch l k).map bpc) (by rw [Qb]; omega)
   have ha : l[k]? = some (l.getD k default):=Go.Geo.getD_of default hk
   have g1:=get_bd ha
   rw [pfN_succ,Ql]
   generalize (pfN tch l k).map bpc++(pfI tch l k).map bpc = rows at *
   generalize (pfN tch l k).map bpc = rows0 at *
   generalize l.getD k default = a at *
   have h0 : (0 : Int)≤k:=by omega
   have h1 : (k : Int) < l.length:=by omega
   have h2 : ((k + 1 : Nat) : Int)≤l.length:=by omega
   have h3 : (0 : Int)≤(k + 1 : Nat):=by omega
   have h4 : k + 1≤l.length:=by omega
   have hw:=Go.Geo.wr_k (k:=k) (by omega)
   have hd:=dt4 l k
   have hb4:=all_b4 l
   simp only [O21,F21,TI,TJ] at hin
   show (K E A86_L1 _).bind _ = (K E A86_L1 _).bind _
   conv=>lhs; rw [A86_L1_eq]
   simp +contextual -implicitDefEqProofs (maxSteps:=2000000) only [go_sem,O21,F21,TJ,A86_L1b,Qb,h0,h1,h2,h3,h4,hw,g1,hd,hb4,hin])
 simp only [Qn,Qv] at lp
 have e0 : (pfN tch l 0).map bpc = []:=by simp [pfN]
 rw [e0] at lp
 rw [lp]
 have e1 : pfN tch l l.length = pfs tch l:=rfl
 rw [e1]
 generalize (pfs tch l).map bpc = rows
 rw [A86_L1_eq]; simp +contextual -implicitDefEqProofs (maxSteps:=2000000) only [go_sem,O21,F21,TJ,A86_L1b,Qp,Qb]
theorem c21 (c : Cl) (w : Wl) (H : Fin_ c) (P : Pld c w) (Kd : Kinds (bodies c w)) (hl : (bodies c w).length≤900) : pc E 21 [.agg (cec c.cel),.agg (wlc w)] = some (.vs ((pfs tch (bodies c w)).map bpc)):=by
 have h:=c16 c w H P
 have lp:=out21 c w (bodies c w) Kd hl
 generalize bodies c w = l at *
 generalize (pfs tch l).map bpc = rows at *
 simp only [O21,F21,TJ,Qa0] at lp
 have e55:=c55 c.cel w
 rw [pc_eq]; simp +contextual -implicitDefEqProofs (maxSteps:=2000000) only [go_sem,E_21,A21,e55,c87m,h,E_86,A86,A21_R0,Qb,lp]
end Go.Proofs.YtbpneedpcccpaaaGreat

namespace Go.Proofs.YtbpneedpcccpaaaGreat
open Go Go.Zv
open Go.Geo (Pt FC)
abbrev L23 (c : Cl) (w : Wl) : Env:=[(4,.ptr 1024 0),(8,.fn (Fn.func 86) [] [.fp (cec c.cel),.fp (wlc w)])]
abbrev F23 (c : Cl) (w : Wl) : List Env:=[L23 c w,[(0,.yl 1024000)]]
abbrev O23 (c : Cl) (w : Wl) : Heap:=[(1051648,.map MP),(1024000,.loop (L23 c w) [9] A23_R0a A23_R0b LSt.ready AEx.nrm),(1024,.box [.bool false])]
abbrev Oe23 (c : Cl) (w : Wl) : Heap:=[(1051648,.map MP),(1024000,.loop (L23 c w) [9] A23_R0a A23_R0b LSt.done AEx.ret),(1024,.box [.bool false])]
def Rv (c : Cl) (w : Wl) (o : Option Out) : Prop:=∃ (T' : Env) (a' : Bd),o = some (.ex .ret ⟨T',F23 c w,(1050368,.box (bdc a'))::(1050372,.row 2 [])::Oe23 c w,1⟩)
theorem in23 (c : Cl) (w : Wl) (l : List Bd) (Kd : Kinds l) (hl : l.length≤1000) (i : Nat) (hi : i < l.length) :
  ((l.drop (i + 1)).any (tch (l.getD i default)) = true → Rv c w ((K E A86_L0 ⟨TI l i 0 (l.drop (i + 1)),F23 c w,(1050368,.box (bdc (l.getD i default)))::(1050372,.row 2 [])::O23 c w,1⟩).bind (blockR 2 (some [0,4,5,16,17,18]) [9,10,11,48,55]))) ∧
  ((l.drop (i + 1)).any (tch (l.getD i default)) = false → (K E A86_L0 ⟨TI l i 0 (l.drop (i + 1)),F23 c w,(1050368,.box (bdc (l.getD i default)))::(1050372,.row 2 [])::O23 c w,1⟩).bind (blockR 2 (some [0,4,5,16,17,18]) [9,10,11,48,55]) =
    some (.ex .nrm ⟨TJ l i,F23 c w,(1050368,.box (bdc (l.getD i default)))::(1050372,.row 2 [])::O23 c w,1⟩)):=by
 have ha : l[i]? = some (l.getD i default):=Go.Geo.getD_of default hi
 have hd : (l.drop (i + 1)).length = l.length - (i + 1):=Qbx ..
 have hka:=Kd.k _ (Qd ha)
 have hla:=Kd.ar _ (Qd ha)
 have lp:=loop_leave (σ:=Unit) (fun S=>(K E A86_L0 S).bind (blockR 2 (some [0,4,5,16,17,18]) [9,10,11,48,55]))
  (fun k _=>⟨TI l i k (l.drop (i + 1)),F23 c w,(1050368,.box (bdc (l.getD i default)))::(1050372,.row 2 [])::O23 c w,1⟩)
  (l.drop (i + 1)) (fun x _=>x) (tch (l.getD i default)) (Rv c w)
  (fun _=>some (.ex .nrm ⟨TJ l i,F23 c w,(1050368,.box (bdc (l.getD i default)))::(1050372,.row 2 [])::O23 c w,1⟩))
  (fun _=>by
   generalize l.drop (i + 1) = m at *
   show (K E A86_L0 _).bind _ = _
   rw [A86_L0_eq]; simp +contextual -implicitDefEqProofs (maxSteps:=2000000) only [go_sem,O23,F23,L23,TI,TJ,A86_L0b,Qp,Qb])
  (fun k b _ hk hb=>by
   have hb2 : l[i + 1 + k]? = some b:=by rwa [Qbl] at hb
   have hle:=Kd.le i (i + 1 + k) (by omega) _ _ ha hb2
   have hkb:=Kd.k _ (Qd hb2)
   have hlb:=Kd.ar _ (Qd hb2)
   have g2:=get_bd hb
   generalize l.getD i default = a at *
   generalize l.drop (i + 1) = m at *
   have h2 : (0 : Int)≤k:=by omega
   have h3 : (k : Int) < m.length:=by omega
   have hw:=Go.Geo.wr_k (k:=k) (by omega)
   have o57:=Go.Proofs.YtbpneedpcccpaaaGreat.G.c57 a.ar b.ar (by omega) (by omega)
   refine ⟨fun hp=>?_,fun hp=>?_⟩
   ·unfold tch at hp
    rw [Qg] at hp
    obtain ⟨hbr,hF⟩:=hp
    rw [hF] at o57
    rcases bar_rule a b hka hkb hle with ⟨f,_,o,lk⟩ | ⟨hbr2,lk⟩
    ·rw [hbr] at o
     refine ⟨?_,a,?_⟩
     rotate_left
     ·show (K E A86_L0 _).bind _ = _
      rw [A86_L0_eq]
      simp +contextual -implicitDefEqProofs (maxSteps:=2000000) only [go_sem,O23,Oe23,F23,L23,TI,A86_L0b,A23_R0a,A23_R0b,Qb,h2,h3,hw,g2,lk,o,o57]
      rfl
    ·rw [hbr] at hbr2; cases hbr2
   ·show (K E A86_L0 _).bind _ = (K E A86_L0 _).bind _
    conv=>lhs; rw [A86_L0_eq]
    rcases bar_rule a b hka hkb hle with ⟨f,_,o,lk⟩ | ⟨hbr,lk⟩
    ·cases hbr : bar a b with
     | false =>
       rw [hbr] at o
       simp +contextual -implicitDefEqProofs (maxSteps:=2000000) only [go_sem,O23,F23,L23,TI,A86_L0b,A23_R0a,A23_R0b,Qb,h2,h3,hw,g2,lk,o]
     | true =>
       have hF : (FC a.ar b.ar).isSome = false:=by simpa [tch,hbr] using hp
       rw [hbr] at o
       rw [hF] at o57
       simp +contextual -implicitDefEqProofs (maxSteps:=2000000) only [go_sem,O23,F23,L23,TI,A86_L0b,A23_R0a,A23_R0b,Qb,h2,h3,hw,g2,lk,o,o57]
    ·simp +contextual -implicitDefEqProofs (maxSteps:=2000000) only [go_sem,O23,F23,L23,TI,A86_L0b,Qb,h2,h3,hw,g2,lk]) ()
 simp only [Qn,Qv] at lp
 exact lp
def hitI (l : List Bd) (i : Nat) : Bool:=(l.drop (i + 1)).any (tch (l.getD i default))
def Rw (c : Cl) (w : Wl) (o : Option Out) : Prop:=∃ (T' : Env) (a' : Bd),o = some (.ex .ret ⟨T',F23 c w,(1050368,.box (bdc a'))::(1050372,.row 2 [])::Oe23 c w,1⟩)
theorem out23 (c : Cl) (w : Wl) (l : List Bd) (Kd : Kinds l) (hl : l.length≤900) :
  ((List.range l.length).any (hitI l) = true → Rw c w ((K E A86_L1 ⟨TJ l 0,F23 c w,O23 c w,1⟩).bind (blockR 0 (some []) [6,7,9,10,11,48,55]))) ∧
  ((List.range l.length).any (hitI l) = false → (K E A86_L1 ⟨TJ l 0,F23 c w,O23 c w,1⟩).bind (blockR 0 (some []) [6,7,9,10,11,48,55]) = some (.ex .nrm ⟨[],F23 c w,O23 c w,1⟩)):=by
 have lp:=loop_leave (σ:=Unit) (fun S=>(K E A86_L1 S).bind (blockR 0 (some []) [6,7,9,10,11,48,55]))
  (fun k _=>⟨TJ l k,F23 c w,O23 c w,1⟩) (List.range l.length) (fun x _=>x) (hitI l) (Rw c w) (fun _=>some (.ex .nrm ⟨[],F23 c w,O23 c w,1⟩))
  (fun _=>by
   show (K E A86_L1 _).bind _ = _
   rw [Qx,A86_L1_eq]; simp +contextual -implicitDefEqProofs (maxSteps:=2000000) only [go_sem,O23,F23,L23,TJ,A86_L1b,Qp,Qb])
  (fun k p _ hk hp=>by
   rw [Qx] at hk
   have hpk : p = k:=by rw [List.getElem?_range hk] at hp; cases hp; rfl
   subst hpk
   have hin:=in23 c w l Kd (by omega) p hk
   have ha : l[p]? = some (l.getD p default):=Go.Geo.getD_of default hk
   have g1:=get_bd ha
   unfold hitI
   generalize l.getD p default = a at *
   have h0 : (0 : Int)≤p:=by omega
   have h1 : (p : Int) < l.length:=by omega
   have h2 : ((p + 1 : Nat) : Int)≤l.length:=by omega
   have h3 : (0 : Int)≤(p + 1 : Nat):=by omega
   have h4 : p + 1≤l.length:=by omega
   have hw:=Go.Geo.wr_k (k:=p) (by omega)
   have hd:=dt4 l p
   have hb4:=all_b4 l
   obtain ⟨hin1,hin2⟩:=hin
   refine ⟨fun hq=>?_,fun hq=>?_⟩
   ·obtain ⟨T',a',hin⟩:=hin1 hq
    simp only [O23,Oe23,F23,L23,TI,TJ] at hin
    refine ⟨T',a',?_⟩
    show (K E A86_L1 _).bind _ = _
    rw [A86_L1_eq]
    simp +contextual -implicitDefEqProofs (maxSteps:=2000000) only [go_sem,O23,Oe23,F23,L23,TJ,A86_L1b,Qb,h0,h1,h2,h3,h4,hw,g1,hd,hb4,hin]
   ·have hin:=hin2 hq
    simp only [O23,Oe23,F23,L23,TI,TJ] at hin
    show (K E A86_L1 _).bind _ = (K E A86_L1 _).bind _
    conv=>lhs; rw [A86_L1_eq]
    simp +contextual -implicitDefEqProofs (maxSteps:=2000000) only [go_sem,O23,F23,L23,TJ,A86_L1b,Qb,h0,h1,h2,h3,h4,hw,g1,hd,hb4,hin]) ()
 simp only [Qn,Qv] at lp
 exact lp
theorem hit_any (l : List Bd) : (List.range l.length).any (hitI l) = !decide (pfs tch l = []):=by
 have h : ∀ n,(List.range n).any (hitI l) = !decide (pfN tch l n = []):=fun n=>by
  induction n with
  | zero=>simp [pfN]
  | succ n ih =>
    rw [Qa8,List.any_append,ih,pfN_succ]
    have e : hitI l n = !decide (pfI tch l n = []):=by
     unfold hitI pfI pfJ
     rw [Qa3]
     simp [List.filter_eq_nil_iff]
    simp [e,List.append_eq_nil_iff]
 exact h _
theorem c23 (c : Cl) (w : Wl) (H : Fin_ c) (P : Pld c w) (Kd : Kinds (bodies c w)) (hl : (bodies c w).length≤900) : pc E 23 [.agg (cec c.cel),.agg (wlc w)] = some (.bool (decide (pfs tch (bodies c w) = []))):=by
 have h:=c16 c w H P
 have lp:=out23 c w (bodies c w) Kd hl
 rw [hit_any] at lp
 generalize bodies c w = l at *
 have e55:=c55 c.cel w
 cases hq : decide (pfs tch l = []) with
 | true =>
   rw [hq] at lp
   have lp:=lp.2 rfl
   simp only [O23,F23,L23,TJ] at lp
   rw [pc_eq]; simp +contextual -implicitDefEqProofs (maxSteps:=2000000) only [go_sem,E_23,A23,e55,c87m,h,E_86,A86,A23_R0,Qb,lp]
 | false =>
   rw [hq] at lp
   obtain ⟨T',a',lp⟩:=lp.1 rfl
   simp only [O23,Oe23,F23,L23,TJ] at lp
   rw [pc_eq]; simp +contextual -implicitDefEqProofs (maxSteps:=2000000) only [go_sem,E_23,A23,e55,c87m,h,E_86,A86,A23_R0,Qb,lp]
end Go.Proofs.YtbpneedpcccpaaaGreat

namespace Go.Proofs.YtbpneedpcccpaaaGreat
open Go Go.Zv
open Go.Geo (Pt FC Val)
def AllV (l : List Bd) : Prop:=∀ b ∈ l,Val b.ar
theorem prs_mem {l : List Bd} {p : Bd × Bd} (h : p ∈ prs l) : p.1 ∈ l∧p.2 ∈ l:=by
 unfold prs prN at h
 obtain ⟨i,hi,h⟩:=Qc6.1 h
 rw [Qq] at hi
 unfold prI prJ at h
 obtain ⟨b,hb,rfl⟩:=Q6.1 h
 have h1 : l[i]? = some (l.getD i default):=Go.Geo.getD_of default hi
 exact ⟨Qd h1,List.mem_of_mem_drop (Qad.1 hb).1⟩
def hitP (p : Bd × Bd) : Bool:=(FC p.1.ar p.2.ar).isSome
theorem pfs_tch (l : List Bd) : pfs tch l = (prs l).filter hitP:=pfs_and bar (fun a b=>(FC a.ar b.ar).isSome) l
theorem prs_len (l : List Bd) (hl : l.length≤900) : (prs l).length≤1000000:=by
 have:=prN_len l l.length
 have hq : l.length * l.length≤900 * 900:=Qdq hl hl
 unfold prs; omega
end Go.Proofs.YtbpneedpcccpaaaGreat

namespace Go.Proofs.YtbpneedpcccpaaaGreat
open Go Go.Zv
open Go.Geo (Pt mayB)
def whI (wh : List Int) (m : Int) (i : Nat) : Bool:=(decide (wh.getD i 0 < -1) || decide (m≤wh.getD i 0)) || (List.range i).any fun k=>decide (0≤wh.getD i 0) && decide (wh.getD i 0 = wh.getD k 0)
def hdI (wh : List Int) (n h : Int) : Bool:=(decide (h < -1) || decide (n≤h)) || (decide (0≤h) && !decide (wh.getD h.toNat 0 = -1))
def plB (c : Cl) (w : Wl) : Bool:=decide (w.wh.length = c.pt.length) && (!(decide (0≤w.h0) && decide (w.h0 = w.h1)) && (!hdI w.wh c.pt.length w.h0 && (!hdI w.wh c.pt.length w.h1 && !(List.range w.wh.length).any (whI w.wh c.pl.length))))
theorem c48 (p : Pt) : pc E 48 [.agg (Go.Geo.c2 p)] = some (.bool (mayB p)):=by
 obtain ⟨x,y⟩:=p
 have e : mayB (x,y) = (decide (-439400000≤x) && (decide (x≤439400000) && (decide (-439400000≤y) && decide (y≤439400000)))):=by
  rw [Qa3]; simp [mayB,mxI,mnI]; omega
 rw [e]
 by_cases h1 : -439400000≤x
 ·by_cases h2 : x≤439400000
  ·by_cases h3 : -439400000≤y
   ·rw [pc_eq]; simp +contextual -implicitDefEqProofs (maxSteps:=2000000) only [go_sem,E_48,A48,Go.Geo.c2,h1,h2,h3]
   ·rw [pc_eq]; simp +contextual -implicitDefEqProofs (maxSteps:=2000000) only [go_sem,E_48,A48,Go.Geo.c2,h1,h2,h3]
  ·rw [pc_eq]; simp +contextual -implicitDefEqProofs (maxSteps:=2000000) only [go_sem,E_48,A48,Go.Geo.c2,h1,h2]
 ·rw [pc_eq]; simp +contextual -implicitDefEqProofs (maxSteps:=2000000) only [go_sem,E_48,A48,Go.Geo.c2,h1]
abbrev O47 (c : Cl) (w : Wl) : Heap:=[(768,.box (wlc w)),(512,.box (cec c.cel))]
theorem rg_get {n k p : Nat} (h : (List.range n)[k]? = some p) : k = p:=by
 obtain ⟨h1,h2⟩:=Qe.1 h
 rw [List.getElem_range] at h2; exact h2
theorem lp470 (c : Cl) (w : Wl) (i : Nat) (hi : i < w.wh.length) (hl : w.wh.length≤1000) :
  (K E A47_L0 ⟨[(2,.ptr 512 0),(3,.ptr 768 0),(7,.z i),(8,.z 0)],[],O47 c w,0⟩).bind (blockR 4 (some [2,3,7]) [4,8]) =
   if ((List.range i).any fun k=>decide (0≤w.wh.getD i 0) && decide (w.wh.getD i 0 = w.wh.getD k 0)) = true then some (.ex .ret ⟨[(4,.bool false)],[],O47 c w,0⟩) else some (.ex .nrm ⟨[(2,.ptr 512 0),(3,.ptr 768 0),(7,.z i)],[],O47 c w,0⟩):=by
 have g0 : (w.wh.map Go.Geo.c1)[i]? = some [.z (w.wh.getD i 0)]:=Go.Geo.get_m Go.Geo.c1 (Go.Geo.getD_of 0 hi)
 have i0 : (0 : Int)≤i:=by omega
 have i1 : (i : Int) < w.wh.length:=by omega
 refine loop_any (fun S=>(K E A47_L0 S).bind (blockR 4 (some [2,3,7]) [4,8])) (fun k=>⟨[(2,.ptr 512 0),(3,.ptr 768 0),(7,.z i),(8,.z k)],[],O47 c w,0⟩) (List.range i) (fun k=>decide (0≤w.wh.getD i 0) && decide (w.wh.getD i 0 = w.wh.getD k 0)) _ _ ?_ fun k p hk hp=>?_
 ·rw [Qx]
  show (K E A47_L0 _).bind _ = _
  rw [A47_L0_eq]; simp +contextual -implicitDefEqProofs (maxSteps:=2000000) only [go_sem,A47_L0b,O47,Qp]
 ·have e:=rg_get hp
  subst e
  rw [Qx] at hk
  have g1 : (w.wh.map Go.Geo.c1)[k]? = some [.z (w.wh.getD k 0)]:=Go.Geo.get_m Go.Geo.c1 (Go.Geo.getD_of 0 (by omega))
  show (K E A47_L0 _).bind _ = if _ then _ else (K E A47_L0 _).bind _
  generalize w.wh.getD i 0 = x at *
  generalize w.wh.getD k 0 = y at *
  have h0 : (0 : Int)≤k:=by omega
  have h1 : (k : Int) < w.wh.length:=by omega
  have h2 : (k : Int) < i:=by omega
  have hw:=Go.Geo.wr_k (k:=k) (by omega)
  conv=>lhs; rw [A47_L0_eq]
  by_cases hx : 0≤x
  ·by_cases hy : x = y
   ·subst hy
    simp +contextual -implicitDefEqProofs (maxSteps:=2000000) only [go_sem,A47_L0b,O47,Qb,i0,i1,h0,h1,h2,hw,g0,g1,hx,beq_self_eq_true]
   ·have hy' : (x == y) = false:=by simpa using hy
    simp +contextual -implicitDefEqProofs (maxSteps:=2000000) only [go_sem,A47_L0b,O47,Qb,i0,i1,h0,h1,h2,hw,g0,g1,hx,hy,hy']
  ·simp +contextual -implicitDefEqProofs (maxSteps:=2000000) only [go_sem,A47_L0b,O47,Qb,i0,i1,h0,h1,h2,hw,g0,g1,hx]
theorem lp471 (c : Cl) (w : Wl) (hl : w.wh.length≤1000) :
  (K E A47_L1 ⟨[(2,.ptr 512 0),(3,.ptr 768 0),(7,.z 0)],[],O47 c w,0⟩).bind (blockR 2 (some []) [4,7,8]) =
   if ((List.range w.wh.length).any (whI w.wh c.pl.length)) = true then some (.ex .ret ⟨[(4,.bool false)],[],O47 c w,0⟩) else some (.ex .nrm ⟨[],[],O47 c w,0⟩):=by
 refine loop_any (fun S=>(K E A47_L1 S).bind (blockR 2 (some []) [4,7,8])) (fun k=>⟨[(2,.ptr 512 0),(3,.ptr 768 0),(7,.z k)],[],O47 c w,0⟩) (List.range w.wh.length) (whI w.wh c.pl.length) _ _ ?_ fun k p hk hp=>?_
 ·rw [Qx]
  show (K E A47_L1 _).bind _ = _
  rw [A47_L1_eq]; simp +contextual -implicitDefEqProofs (maxSteps:=2000000) only [go_sem,A47_L1b,O47,Qp,Qb]
 ·have e:=rg_get hp
  subst e
  rw [Qx] at hk
  have g1 : (w.wh.map Go.Geo.c1)[k]? = some [.z (w.wh.getD k 0)]:=Go.Geo.get_m Go.Geo.c1 (Go.Geo.getD_of 0 (by omega))
  have lp:=lp470 c w k hk hl
  show (K E A47_L1 _).bind _ = if _ then _ else (K E A47_L1 _).bind _
  unfold whI
  cases hA : (List.range k).any fun j=>decide (0≤w.wh.getD k 0) && decide (w.wh.getD k 0 = w.wh.getD j 0) <;> rw [hA] at lp <;> generalize w.wh.getD k 0 = x at *
  all_goals
   clear hA
   simp only [O47] at lp
   have h0 : (0 : Int)≤k:=by omega
   have h1 : (k : Int) < w.wh.length:=by omega
   have hw:=Go.Geo.wr_k (k:=k) (by omega)
   conv=>lhs; rw [A47_L1_eq]
   by_cases hx : x < -1
   ·simp +contextual -implicitDefEqProofs (maxSteps:=2000000) only [go_sem,A47_L1b,O47,Qb,h0,h1,hw,g1,hx]
   ·by_cases hy : (c.pl.length : Int)≤x
    ·simp +contextual -implicitDefEqProofs (maxSteps:=2000000) only [go_sem,A47_L1b,O47,Qb,h0,h1,hw,g1,hx,hy]
    ·simp +contextual -implicitDefEqProofs (maxSteps:=2000000) only [go_sem,A47_L1b,O47,Qb,h0,h1,hw,g1,hx,hy,lp]
end Go.Proofs.YtbpneedpcccpaaaGreat

namespace Go.Proofs.YtbpneedpcccpaaaGreat
open Go Go.Zv
open Go.Geo (Pt mayB)
theorem hd_cases (wh : List Int) (n : Nat) (h : Int) (hn : wh.length = n) :
  (h < -1∧hdI wh n h = true) ∨ (¬ h < -1∧(n : Int)≤h∧hdI wh n h = true) ∨ (¬ h < -1 ∧ ¬ (n : Int)≤h ∧ ¬ 0≤h∧hdI wh n h = false) ∨
   (∃ y,0≤h∧h < (n : Int)∧(wh.map Go.Geo.c1)[h.toNat]? = some [.z y] ∧ ¬ y = -1∧hdI wh n h = true) ∨
   (0≤h∧h < (n : Int)∧(wh.map Go.Geo.c1)[h.toNat]? = some [.z (-1)]∧hdI wh n h = false):=by
 unfold hdI
 by_cases a : h < -1
 ·left; exact ⟨a,by simp [a]⟩
 ·by_cases b : (n : Int)≤h
  ·right; left; exact ⟨a,b,by simp [a,b]⟩
  ·by_cases d : 0≤h
   ·have g : (wh.map Go.Geo.c1)[h.toNat]? = some [.z (wh.getD h.toNat 0)]:=Go.Geo.get_m Go.Geo.c1 (Go.Geo.getD_of 0 (by omega))
    by_cases y : wh.getD h.toNat 0 = -1
    ·right; right; right; right
     rw [y] at g
     exact ⟨d,by omega,g,by rw [y]; simp [a,b]⟩
    ·right; right; right; left
     exact ⟨_,d,by omega,g,y,by rw [decide_eq_false y]; simp [a,b,d]⟩
   ·right; right; left; exact ⟨a,b,d,by simp [a,b,d]⟩

theorem c47 (c : Cl) (w : Wl) (hl : w.wh.length≤1000) : pc E 47 [.agg (cec c.cel),.agg (wlc w)] = some (.bool (plB c w)):=by
 unfold plB
 by_cases hn : w.wh.length = c.pt.length
 ·have hN : (w.wh.length : Int) = c.pt.length:=by omega
  rw [decide_eq_true hn,Q1]
  have lp:=lp471 c w hl
  simp only [O47] at lp
  have C0:=hd_cases w.wh c.pt.length w.h0 hn
  have C1:=hd_cases w.wh c.pt.length w.h1 hn
  by_cases e : 0≤w.h0∧w.h0 = w.h1
  ·obtain ⟨e1,e2⟩:=e
   have e3 : (w.h0 == w.h1) = true:=by simpa using e2
   have z : (decide (0≤w.h0) && decide (w.h0 = w.h1)) = true:=by rw [decide_eq_true e1,decide_eq_true e2]; rfl
   rw [z]
   clear C0 C1 lp
   have e5 : 0≤w.h1:=by omega
   rw [pc_eq]; simp +contextual -implicitDefEqProofs (maxSteps:=2000000) only [go_sem,E_47,A47,A47_L2_eq,A47_L2b,hN,Qb,bne_self_eq_false,e1,e3,e5]
  ·have z : (decide (0≤w.h0) && decide (w.h0 = w.h1)) = false:=by simpa using e
   have e3 : 0≤w.h0 → (w.h0 == w.h1) = false:=fun h=>by simp; intro h2; exact e ⟨h,h2⟩
   rw [z]
   clear z
   rcases C0 with ⟨a1,z⟩ | ⟨a1,a2,z⟩ | ⟨a1,a2,a3,z⟩ | ⟨y,a1,a2,a3,a4,z⟩ | ⟨a1,a2,a3,z⟩
   ·rw [z]
    have a4 : ¬ 0≤w.h0:=by omega
    clear C1 lp
    rw [pc_eq]; simp +contextual -implicitDefEqProofs (maxSteps:=2000000) only [go_sem,E_47,A47,A47_L2_eq,A47_L2b,hN,Qb,bne_self_eq_false,a1,a4]
   ·rw [z]
    have a4 : 0≤w.h0:=by omega
    have e4:=e3 a4
    clear C1 lp
    rw [pc_eq]; simp +contextual -implicitDefEqProofs (maxSteps:=2000000) only [go_sem,E_47,A47,A47_L2_eq,A47_L2b,hN,Qb,bne_self_eq_false,a1,a2,a4,e4]
   ·rw [z]
    rcases C1 with ⟨b1,x⟩ | ⟨b1,b2,x⟩ | ⟨b1,b2,b3,x⟩ | ⟨u,b1,b2,b3,b4,x⟩ | ⟨b1,b2,b3,x⟩
    ·rw [x]
     have b4 : ¬ 0≤w.h1:=by omega
     clear lp
     rw [pc_eq]; simp +contextual -implicitDefEqProofs (maxSteps:=2000000) only [go_sem,E_47,A47,A47_L2_eq,A47_L2b,hN,Qb,bne_self_eq_false,a1,a2,a3,b1,b4]
    ·rw [x]
     have b4 : 0≤w.h1:=by omega
     clear lp
     rw [pc_eq]; simp +contextual -implicitDefEqProofs (maxSteps:=2000000) only [go_sem,E_47,A47,A47_L2_eq,A47_L2b,hN,Qb,bne_self_eq_false,a1,a2,a3,b1,b2,b4]
    ·rw [x]
     cases hA : (List.range w.wh.length).any (whI w.wh c.pl.length) <;> rw [hA] at lp <;> clear hA
     ·rw [pc_eq]; simp +contextual -implicitDefEqProofs (maxSteps:=2000000) only [go_sem,E_47,A47,A47_L2_eq,A47_L2b,hN,Qb,bne_self_eq_false,a1,a2,a3,b1,b2,b3,lp]
     ·rw [pc_eq]; simp +contextual -implicitDefEqProofs (maxSteps:=2000000) only [go_sem,E_47,A47,A47_L2_eq,A47_L2b,hN,Qb,bne_self_eq_false,a1,a2,a3,b1,b2,b3,lp]
    ·rw [x]
     have b5 : ¬ w.h1 < -1:=by omega
     have b6 : ¬ (c.pt.length : Int)≤w.h1:=by omega
     clear lp
     rw [pc_eq]; simp +contextual -implicitDefEqProofs (maxSteps:=2000000) only [go_sem,E_47,A47,A47_L2_eq,A47_L2b,hN,Qb,bne_self_eq_false,a1,a2,a3,b1,b2,b3,b5,b6,b4]
    ·rw [x]
     have b5 : ¬ w.h1 < -1:=by omega
     have b6 : ¬ (c.pt.length : Int)≤w.h1:=by omega
     cases hA : (List.range w.wh.length).any (whI w.wh c.pl.length) <;> rw [hA] at lp <;> clear hA
     ·rw [pc_eq]; simp +contextual -implicitDefEqProofs (maxSteps:=2000000) only [go_sem,E_47,A47,A47_L2_eq,A47_L2b,hN,Qb,bne_self_eq_false,a1,a2,a3,b1,b2,b3,b5,b6,lp]
     ·rw [pc_eq]; simp +contextual -implicitDefEqProofs (maxSteps:=2000000) only [go_sem,E_47,A47,A47_L2_eq,A47_L2b,hN,Qb,bne_self_eq_false,a1,a2,a3,b1,b2,b3,b5,b6,lp]
   ·rw [z]
    have a5 : ¬ w.h0 < -1:=by omega
    have a6 : ¬ (c.pt.length : Int)≤w.h0:=by omega
    have e4:=e3 a1
    clear C1 lp
    rw [pc_eq]; simp +contextual -implicitDefEqProofs (maxSteps:=2000000) only [go_sem,E_47,A47,A47_L2_eq,A47_L2b,hN,Qb,bne_self_eq_false,a1,a2,a3,a5,a6,a4,e4]
   ·rw [z]
    have a5 : ¬ w.h0 < -1:=by omega
    have a6 : ¬ (c.pt.length : Int)≤w.h0:=by omega
    have e4:=e3 a1
    rcases C1 with ⟨b1,x⟩ | ⟨b1,b2,x⟩ | ⟨b1,b2,b3,x⟩ | ⟨u,b1,b2,b3,b4,x⟩ | ⟨b1,b2,b3,x⟩
    ·rw [x]
     have b4 : ¬ 0≤w.h1:=by omega
     clear lp
     rw [pc_eq]; simp +contextual -implicitDefEqProofs (maxSteps:=2000000) only [go_sem,E_47,A47,A47_L2_eq,A47_L2b,hN,Qb,bne_self_eq_false,a1,a2,a3,a5,a6,e4,b1,b4]
    ·rw [x]
     have b4 : 0≤w.h1:=by omega
     clear lp
     rw [pc_eq]; simp +contextual -implicitDefEqProofs (maxSteps:=2000000) only [go_sem,E_47,A47,A47_L2_eq,A47_L2b,hN,Qb,bne_self_eq_false,a1,a2,a3,a5,a6,e4,b1,b2,b4]
    ·rw [x]
     cases hA : (List.range w.wh.length).any (whI w.wh c.pl.length) <;> rw [hA] at lp <;> clear hA
     ·rw [pc_eq]; simp +contextual -implicitDefEqProofs (maxSteps:=2000000) only [go_sem,E_47,A47,A47_L2_eq,A47_L2b,hN,Qb,bne_self_eq_false,a1,a2,a3,a5,a6,e4,b1,b2,b3,lp]
     ·rw [pc_eq]; simp +contextual -implicitDefEqProofs (maxSteps:=2000000) only [go_sem,E_47,A47,A47_L2_eq,A47_L2b,hN,Qb,bne_self_eq_false,a1,a2,a3,a5,a6,e4,b1,b2,b3,lp]
    ·rw [x]
     have b5 : ¬ w.h1 < -1:=by omega
     have b6 : ¬ (c.pt.length : Int)≤w.h1:=by omega
     clear lp
     rw [pc_eq]; simp +contextual -implicitDefEqProofs (maxSteps:=2000000) only [go_sem,E_47,A47,A47_L2_eq,A47_L2b,hN,Qb,bne_self_eq_false,a1,a2,a3,a5,a6,e4,b1,b2,b3,b5,b6,b4]
    ·rw [x]
     have b5 : ¬ w.h1 < -1:=by omega
     have b6 : ¬ (c.pt.length : Int)≤w.h1:=by omega
     cases hA : (List.range w.wh.length).any (whI w.wh c.pl.length) <;> rw [hA] at lp <;> clear hA
     ·rw [pc_eq]; simp +contextual -implicitDefEqProofs (maxSteps:=2000000) only [go_sem,E_47,A47,A47_L2_eq,A47_L2b,hN,Qb,bne_self_eq_false,a1,a2,a3,a5,a6,e4,b1,b2,b3,b5,b6,lp]
     ·rw [pc_eq]; simp +contextual -implicitDefEqProofs (maxSteps:=2000000) only [go_sem,E_47,A47,A47_L2_eq,A47_L2b,hN,Qb,bne_self_eq_false,a1,a2,a3,a5,a6,e4,b1,b2,b3,b5,b6,lp]
 ·have hN : ((w.wh.length : Int) == c.pt.length) = false:=by simp; omega
  have hN2 : ((w.wh.length : Int) != c.pt.length) = true:=by simp; omega
  rw [decide_eq_false hn]
  rw [pc_eq]; simp +contextual -implicitDefEqProofs (maxSteps:=2000000) only [go_sem,E_47,A47,hN,hN2,Qb]
end Go.Proofs.YtbpneedpcccpaaaGreat

namespace Go.Proofs.YtbpneedpcccpaaaGreat
open Go Go.Zv
open Go.Geo (Pt mayB)
abbrev en (e : Int × Int) : LV × LV:=(.z e.1,.z e.2)
def vl (x : Int) : List (Int × Int) → Int
 | []=>0
 | (a,v)::l=>if x = a then v else vl x l
def up (x v : Int) : List (Int × Int) → List (Int × Int)
 | []=>[(x,v)]
 | (a,w)::l=>if x = a then (x,v)::l else (a,w)::up x v l
def lkO (x : Int) : List (Int × Int) → Option Int
 | []=>none
 | (a,v)::l=>if x = a then some v else lkO x l
theorem vl_lkO (x : Int) (l : List (Int × Int)) : vl x l = (lkO x l).getD 0:=by
 induction l with
 | nil=>rfl
 | cons e l ih =>
   obtain ⟨a,v⟩:=e
   simp only [vl,lkO]; split <;> simp_all
theorem lookE (x : Int) (l : List (Int × Int)) : lookupE [0,0] (.z x) (l.map en) = some ((lkO x l).map (LV.int .i64 ·)):=by
 induction l with
 | nil=>rfl
 | cons e l ih =>
   obtain ⟨a,v⟩:=e
   show (eqKey [0,0] (.z x) (.z a)).bind (lookK (.z v) (lookupE [0,0] (.z x) (l.map en))) = _
   rw [ih]
   by_cases h : x = a
   ·subst h; simp [eqKey_eq,eqs_cons,eqs_nil,isAg_int,cells_int,eq1_int,andK_some,lookK_eq,lkO]
   ·simp [eqKey_eq,eqs_cons,eqs_nil,isAg_int,cells_int,eq1_int,andK_some,lookK_eq,lkO,h]
theorem lookV (x : Int) (l : List (Int × Int)) : (lookupE [0,0] (.z x) (l.map en)).bind (lkpK (.z 0) false) = some (.z (vl x l)):=by
 rw [lookE,vl_lkO]
 cases lkO x l <;> rfl
theorem updE_ (x v : Int) (l : List (Int × Int)) : updE [0,0] (.z x) (.z v) (l.map en) = some ((up x v l).map en):=by
 induction l with
 | nil=>rfl
 | cons e l ih =>
   obtain ⟨a,w⟩:=e
   show (eqKey [0,0] (.z x) (.z a)).bind (updK (.z x) (.z v) (.z a) (.z w) (l.map en) (updE [0,0] (.z x) (.z v) (l.map en))) = _
   rw [ih]
   by_cases h : x = a
   ·subst h; simp [eqKey_eq,eqs_cons,eqs_nil,isAg_int,cells_int,eq1_int,andK_some,updK_eq,up]
   ·simp [eqKey_eq,eqs_cons,eqs_nil,isAg_int,cells_int,eq1_int,andK_some,updK_eq,up,h,consE_eq]
theorem vl_up (x v y : Int) (l : List (Int × Int)) : vl y (up x v l) = if y = x then v else vl y l:=by
 induction l with
 | nil=>simp [up,vl]
 | cons e l ih =>
   obtain ⟨a,w⟩:=e
   simp only [up]
   by_cases h : x = a
   ·subst h; simp only [if_true,vl]; split <;> rfl
   ·simp only [if_neg h,vl,ih]
    by_cases h2 : y = a
    ·have : ¬ a = x:=fun k=>h k.symm
     simp [h2,this]
    ·simp [h2]
abbrev O44 (c : Cl) (w : Wl) (es : List (Int × Int)) : Heap:=[(4352,.map (es.map en)),(768,.box (wlc w)),(512,.box (cec c.cel))]
abbrev S44 (c : Cl) (w : Wl) (k : Nat) (es : List (Int × Int)) : St:=⟨[(2,.ptr 512 0),(3,.ptr 768 0),(5,.mp 4352),(19,.vs (w.wh.map Go.Geo.c1)),(20,.z w.wh.length),(21,.z k)],[],O44 c w es,0⟩
theorem cnt_take (l : List Int) (k : Nat) (x : Int) (hk : k < l.length) : (l.take (k + 1)).count x = (l.take k).count x + if l.getD k 0 = x then 1 else 0:=by
 have : l[k]? = some (l.getD k 0):=Go.Geo.getD_of 0 hk
 rw [Qa4,this,List.count_append]
 simp [List.count_singleton]
theorem cnt_any (l : List Int) (k : Nat) (x : Int) (hk : k≤l.length) : 1≤(l.take k).count x ↔ ((List.range k).any fun j=>decide (x = l.getD j 0)) = true:=by
 induction k with
 | zero=>simp
 | succ k ih =>
   rw [cnt_take l k x (by omega),Qa8,List.any_append,Qau,← ih (by omega)]
   simp only [List.any_cons,Qdi,Qb0,decide_eq_true_eq]
   constructor
   ·intro h
    by_cases e : l.getD k 0 = x
    ·right; exact e.symm
    ·rw [if_neg e] at h; left; omega
   ·rintro (h | h)
    ·omega
    ·rw [if_pos h.symm]; omega
theorem whI_eq (wh : List Int) (m : Int) (k : Nat) (hk : k < wh.length) : whI wh m k = ((decide (wh.getD k 0 < -1) || decide (m≤wh.getD k 0)) || (decide (0≤wh.getD k 0) && decide (1≤(wh.take k).count (wh.getD k 0)))):=by
 unfold whI
 congr 1
 have:=cnt_any wh k (wh.getD k 0) (by omega)
 cases h : decide (0≤wh.getD k 0) with
 | false=>simp
 | true =>
   simp only [Q1]
   rw [Qa3,← this]; simp
theorem lp441 (c : Cl) (w : Wl) (hl : w.wh.length≤1000) (hm : c.pl.length≤1000) :
  (((List.range w.wh.length).any (whI w.wh c.pl.length) = true → ∃ es,(K E A44_L1 (S44 c w 0 [])).bind (blockR 0 (some [2,3]) [4,7,30]) = some (.ex .ret ⟨[(4,.bool false)],[],O44 c w es,0⟩)) ∧
   ((List.range w.wh.length).any (whI w.wh c.pl.length) = false → ∃ es,(K E A44_L1 (S44 c w 0 [])).bind (blockR 0 (some [2,3]) [4,7,30]) = some (.ex .nrm ⟨[(2,.ptr 512 0),(3,.ptr 768 0)],[],O44 c w es,0⟩))):=by
 refine loop_P (fun S=>(K E A44_L1 S).bind (blockR 0 (some [2,3]) [4,7,30])) (S44 c w) w.wh.length (fun k es=>∀ x,vl x es = ((w.wh.take k).count x : Nat))
  (fun k es o=>(((List.range w.wh.length).drop k).any (whI w.wh c.pl.length) = true → ∃ es,o = some (.ex .ret ⟨[(4,.bool false)],[],O44 c w es,0⟩)) ∧
   (((List.range w.wh.length).drop k).any (whI w.wh c.pl.length) = false → ∃ es,o = some (.ex .nrm ⟨[(2,.ptr 512 0),(3,.ptr 768 0)],[],O44 c w es,0⟩))) ?_ ?_ 0 [] (Qcj _) (fun x=>by simp [vl])
 ·intro es _
  refine ⟨fun h=>?_,fun _=>⟨es,?_⟩⟩
  ·rw [Qbk (by simp)] at h; cases h
  ·show (K E A44_L1 _).bind _ = _
   rw [A44_L1_eq]; simp +contextual -implicitDefEqProofs (maxSteps:=2000000) only [go_sem,A44_L1b,O44,Qp]
 ·intro k es hk hI
  have hget : (List.range w.wh.length)[k]? = some k:=by simp [hk]
  rw [Go.Zv.drop_get hget,List.any_cons]
  have g1 : (w.wh.map Go.Geo.c1)[k]? = some [.z (w.wh.getD k 0)]:=Go.Geo.get_m Go.Geo.c1 (Go.Geo.getD_of 0 hk)
  have hw':=whI_eq w.wh c.pl.length k hk
  have hct : ∀ y,(w.wh.take (k + 1)).count y = (w.wh.take k).count y + if w.wh.getD k 0 = y then 1 else 0:=fun y=>cnt_take w.wh k y hk
  have hle : ∀ y,(w.wh.take k).count y≤1000:=fun y=>Qcv List.count_le_length (by simp; omega)
  have hi:=hI (w.wh.getD k 0)
  have hle:=hle (w.wh.getD k 0)
  rw [hw']
  generalize w.wh.getD k 0 = x at *
  have h0 : (0 : Int)≤k:=by omega
  have h1 : (k : Int) < w.wh.length:=by omega
  have hw:=Go.Geo.wr_k (k:=k) (by omega)
  have hv:=lookV x es
  have hv2:=lookV x (up x (vl x es + 1) es)
  have hu:=updE_ x (vl x es + 1) es
  have hvu : vl x (up x (vl x es + 1) es) = vl x es + 1:=by rw [vl_up,if_pos rfl]
  rw [hvu] at hv2
  have hwv : w64 (vl x es + 1) = vl x es + 1:=by rw [hi]; exact wrap_small (by omega) (by omega)
  have hwp : w64 ((c.pl.length : Int) - 1) = c.pl.length - 1:=wrap_small (by omega) (by omega)
  simp only [w64] at hwv hwp
  have hc46:=c46 x (-1) (c.pl.length - 1)
  by_cases hx : x < -1
  ·left
   have b1 : ¬ -1≤x:=by omega
   refine ⟨fun _=>⟨es,?_⟩,fun h=>by simp [hx] at h⟩
   rw [decide_eq_false b1,Qt] at hc46
   show (K E A44_L1 _).bind _ = _
   rw [A44_L1_eq]
   simp +contextual -implicitDefEqProofs (maxSteps:=2000000) only [go_sem,A44_L1b,O44,S44,Qb,h0,h1,hw,g1,hwp,hc46]
  ·have b1 : -1≤x:=by omega
   rw [decide_eq_true b1,Q1] at hc46
   by_cases hy : (c.pl.length : Int)≤x
   ·left
    have b2 : ¬ x≤c.pl.length - 1:=by omega
    refine ⟨fun _=>⟨es,?_⟩,fun h=>by simp [hx,hy] at h⟩
    rw [decide_eq_false b2] at hc46
    show (K E A44_L1 _).bind _ = _
    rw [A44_L1_eq]
    simp +contextual -implicitDefEqProofs (maxSteps:=2000000) only [go_sem,A44_L1b,O44,S44,Qb,h0,h1,hw,g1,hwp,hc46]
   ·have b2 : x≤c.pl.length - 1:=by omega
    rw [decide_eq_true b2] at hc46
    by_cases hp : 0≤x
    ·by_cases hc : 1≤(w.wh.take k).count x
     ·left
      have b3 : 1 < vl x es + 1:=by omega
      refine ⟨fun _=>⟨up x (vl x es + 1) es,?_⟩,fun h=>by simp [hx,hy,hp,hc] at h⟩
      show (K E A44_L1 _).bind _ = _
      rw [A44_L1_eq]
      simp +contextual -implicitDefEqProofs (maxSteps:=2000000) only [go_sem,A44_L1b,O44,S44,Qb,h0,h1,hw,g1,hwp,hc46,hv,hv2,hu,hwv,hp,b3]
     ·right
      have b3 : ¬ 1 < vl x es + 1:=by omega
      refine ⟨up x (vl x es + 1) es,fun y=>?_,?_,fun o ho=>?_⟩
      ·rw [vl_up,hct]; split
       ·rename_i e; subst e; rw [hi]; simp
       ·rename_i e; rw [hI,if_neg (fun q=>e q.symm)]; simp
      ·show (K E A44_L1 _).bind _ = (K E A44_L1 _).bind _
       conv=>lhs; rw [A44_L1_eq]
       simp +contextual -implicitDefEqProofs (maxSteps:=2000000) only [go_sem,A44_L1b,O44,S44,Qb,h0,h1,hw,g1,hwp,hc46,hv,hv2,hu,hwv,hp,b3]
      ·have e : (decide (x < -1) || decide ((c.pl.length : Int)≤x) || decide (0≤x) && decide (1≤(w.wh.take k).count x)) = false:=by
        rw [decide_eq_false hx,decide_eq_false hy,decide_eq_false hc]; simp
       rw [e,Qah]; exact ho
    ·right
     refine ⟨up x (vl x es + 1) es,fun y=>?_,?_,fun o ho=>?_⟩
     ·rw [vl_up,hct]; split
      ·rename_i e; subst e; rw [hi]; simp
      ·rename_i e; rw [hI,if_neg (fun q=>e q.symm)]; simp
     ·show (K E A44_L1 _).bind _ = (K E A44_L1 _).bind _
      conv=>lhs; rw [A44_L1_eq]
      simp +contextual -implicitDefEqProofs (maxSteps:=2000000) only [go_sem,A44_L1b,O44,S44,Qb,h0,h1,hw,g1,hwp,hc46,hv,hu,hwv,hp]
     ·have e : (decide (x < -1) || decide ((c.pl.length : Int)≤x) || decide (0≤x) && decide (1≤(w.wh.take k).count x)) = false:=by
       rw [decide_eq_false hx,decide_eq_false hy,decide_eq_false hp]; simp
      rw [e,Qah]; exact ho
end Go.Proofs.YtbpneedpcccpaaaGreat

namespace Go.Proofs.YtbpneedpcccpaaaGreat
open Go Go.Zv
open Go.Geo (Pt mayB)
theorem c44 (c : Cl) (w : Wl) (hl : c.pt.length≤1000) (hm : c.pl.length≤1000) : pc E 44 [.agg (cec c.cel),.agg (wlc w)] = some (.bool (plB c w)):=by
 unfold plB
 by_cases hn : w.wh.length = c.pt.length
 ·have hN : (w.wh.length : Int) = c.pt.length:=by omega
  have lp:=lp441 c w (by omega) hm
  rw [decide_eq_true hn,Q1]
  have hwp : w64 ((c.pt.length : Int) - 1) = c.pt.length - 1:=wrap_small (by omega) (by omega)
  simp only [w64] at hwp
  cases hA : (List.range w.wh.length).any (whI w.wh c.pl.length) with
  | true =>
    obtain ⟨es,lp⟩:=lp.1 hA
    simp only [O44,S44,hN,Q0,Qn,Qv] at lp
    simp only [Qai,Q3]
    clear hA
    rw [pc_eq]; simp +contextual -implicitDefEqProofs (maxSteps:=2000000) only [go_sem,E_44,A44,hN,Qb,bne_self_eq_false,lp]
  | false =>
    obtain ⟨es,lp⟩:=lp.2 hA
    simp only [O44,S44,hN,Q0,Qn,Qv] at lp
    simp only [Qa5,Qax]
    clear hA
    have C0:=hd_cases w.wh c.pt.length w.h0 hn
    have C1:=hd_cases w.wh c.pt.length w.h1 hn
    have q0:=c46 w.h0 (-1) (c.pt.length - 1)
    have q1:=c46 w.h1 (-1) (c.pt.length - 1)
    generalize es.map en = es at *
    rcases C0 with ⟨a1,z⟩ | ⟨a1,a2,z⟩ | ⟨a1,a2,a3,z⟩ | ⟨y,a1,a2,a3,a4,z⟩ | ⟨a1,a2,a3,z⟩
    ·rw [z]
     have g1 : ¬ -1≤w.h0:=by omega
     rw [decide_eq_false g1,Qt] at q0
     clear g1
     simp only [Qai,Qt,Q3]
     rw [pc_eq]; simp +contextual -implicitDefEqProofs (maxSteps:=2000000) only [go_sem,E_44,A44,A44_L0_eq,A44_L0b,hN,Qb,bne_self_eq_false,hwp,lp,q0]
    ·rw [z]
     have g1 : ¬ w.h0≤(c.pt.length : Int) - 1:=by omega
     rw [decide_eq_false g1,Q3] at q0
     clear g1
     simp only [Qai,Qt,Q3]
     rw [pc_eq]; simp +contextual -implicitDefEqProofs (maxSteps:=2000000) only [go_sem,E_44,A44,A44_L0_eq,A44_L0b,hN,Qb,bne_self_eq_false,hwp,lp,q0]
    ·rw [z]
     have g1 : -1≤w.h0:=by omega
     have g2 : w.h0≤(c.pt.length : Int) - 1:=by omega
     rw [decide_eq_true g1,decide_eq_true g2,Q1] at q0
     clear g1 g2
     rcases C1 with ⟨b1,x⟩ | ⟨b1,b2,x⟩ | ⟨b1,b2,b3,x⟩ | ⟨u,b1,b2,b3,b4,x⟩ | ⟨b1,b2,b3,x⟩
     ·rw [x]
      have g1 : ¬ -1≤w.h1:=by omega
      rw [decide_eq_false g1,Qt] at q1
      clear g1
      simp only [Qai,Qt,Q3]
      rw [pc_eq]; simp +contextual -implicitDefEqProofs (maxSteps:=2000000) only [go_sem,E_44,A44,A44_L0_eq,A44_L0b,hN,Qb,bne_self_eq_false,hwp,lp,q0,a3,q1]
     ·rw [x]
      have g1 : ¬ w.h1≤(c.pt.length : Int) - 1:=by omega
      rw [decide_eq_false g1,Q3] at q1
      clear g1
      simp only [Qai,Qt,Q3]
      rw [pc_eq]; simp +contextual -implicitDefEqProofs (maxSteps:=2000000) only [go_sem,E_44,A44,A44_L0_eq,A44_L0b,hN,Qb,bne_self_eq_false,hwp,lp,q0,a3,q1]
     ·rw [x]
      have g1 : -1≤w.h1:=by omega
      have g2 : w.h1≤(c.pt.length : Int) - 1:=by omega
      rw [decide_eq_true g1,decide_eq_true g2,Q1] at q1
      clear g1 g2
      have n1 : w.h0 < 0:=by omega
      rw [decide_eq_false a3]
      rw [pc_eq]; simp +contextual -implicitDefEqProofs (maxSteps:=2000000) only [go_sem,E_44,A44,A44_L0_eq,A44_L0b,hN,Qb,bne_self_eq_false,hwp,lp,q0,a3,q1,b3,n1]
     ·rw [x]
      have g1 : -1≤w.h1:=by omega
      have g2 : w.h1≤(c.pt.length : Int) - 1:=by omega
      rw [decide_eq_true g1,decide_eq_true g2,Q1] at q1
      clear g1 g2
      simp only [Qai,Qt,Q3]
      rw [pc_eq]; simp +contextual -implicitDefEqProofs (maxSteps:=2000000) only [go_sem,E_44,A44,A44_L0_eq,A44_L0b,hN,Qb,bne_self_eq_false,hwp,lp,q0,a3,q1,b1,b2,b3,b4]
     ·rw [x]
      have g1 : -1≤w.h1:=by omega
      have g2 : w.h1≤(c.pt.length : Int) - 1:=by omega
      rw [decide_eq_true g1,decide_eq_true g2,Q1] at q1
      clear g1 g2
      have n1 : w.h0 < 0:=by omega
      rw [decide_eq_false a3]
      rw [pc_eq]; simp +contextual -implicitDefEqProofs (maxSteps:=2000000) only [go_sem,E_44,A44,A44_L0_eq,A44_L0b,hN,Qb,bne_self_eq_false,hwp,lp,q0,a3,q1,b1,b2,b3,n1]
    ·rw [z]
     have g1 : -1≤w.h0:=by omega
     have g2 : w.h0≤(c.pt.length : Int) - 1:=by omega
     rw [decide_eq_true g1,decide_eq_true g2,Q1] at q0
     clear g1 g2
     simp only [Qai,Qt,Q3]
     rw [pc_eq]; simp +contextual -implicitDefEqProofs (maxSteps:=2000000) only [go_sem,E_44,A44,A44_L0_eq,A44_L0b,hN,Qb,bne_self_eq_false,hwp,lp,q0,a1,a2,a3,a4]
    ·rw [z]
     have g1 : -1≤w.h0:=by omega
     have g2 : w.h0≤(c.pt.length : Int) - 1:=by omega
     rw [decide_eq_true g1,decide_eq_true g2,Q1] at q0
     clear g1 g2
     rcases C1 with ⟨b1,x⟩ | ⟨b1,b2,x⟩ | ⟨b1,b2,b3,x⟩ | ⟨u,b1,b2,b3,b4,x⟩ | ⟨b1,b2,b3,x⟩
     ·rw [x]
      have g1 : ¬ -1≤w.h1:=by omega
      rw [decide_eq_false g1,Qt] at q1
      clear g1
      simp only [Qai,Qt,Q3]
      rw [pc_eq]; simp +contextual -implicitDefEqProofs (maxSteps:=2000000) only [go_sem,E_44,A44,A44_L0_eq,A44_L0b,hN,Qb,bne_self_eq_false,hwp,lp,q0,a1,a2,a3,q1]
     ·rw [x]
      have g1 : ¬ w.h1≤(c.pt.length : Int) - 1:=by omega
      rw [decide_eq_false g1,Q3] at q1
      clear g1
      simp only [Qai,Qt,Q3]
      rw [pc_eq]; simp +contextual -implicitDefEqProofs (maxSteps:=2000000) only [go_sem,E_44,A44,A44_L0_eq,A44_L0b,hN,Qb,bne_self_eq_false,hwp,lp,q0,a1,a2,a3,q1]
     ·rw [x]
      have g1 : -1≤w.h1:=by omega
      have g2 : w.h1≤(c.pt.length : Int) - 1:=by omega
      rw [decide_eq_true g1,decide_eq_true g2,Q1] at q1
      clear g1 g2
      have n1 : ¬ w.h0 < 0:=by omega
      by_cases e : w.h0 = w.h1
      ·have e3 : (w.h0 != w.h1) = false:=by simpa using e
       rw [decide_eq_true a1,decide_eq_true e]
       clear e
       rw [pc_eq]; simp +contextual -implicitDefEqProofs (maxSteps:=2000000) only [go_sem,E_44,A44,A44_L0_eq,A44_L0b,hN,Qb,bne_self_eq_false,hwp,lp,q0,a1,a2,a3,q1,b3,n1,e3]
      ·have e3 : (w.h0 != w.h1) = true:=by simpa using e
       rw [decide_eq_false e,Q3]
       clear e
       rw [pc_eq]; simp +contextual -implicitDefEqProofs (maxSteps:=2000000) only [go_sem,E_44,A44,A44_L0_eq,A44_L0b,hN,Qb,bne_self_eq_false,hwp,lp,q0,a1,a2,a3,q1,b3,n1,e3]
     ·rw [x]
      have g1 : -1≤w.h1:=by omega
      have g2 : w.h1≤(c.pt.length : Int) - 1:=by omega
      rw [decide_eq_true g1,decide_eq_true g2,Q1] at q1
      clear g1 g2
      simp only [Qai,Qt,Q3]
      rw [pc_eq]; simp +contextual -implicitDefEqProofs (maxSteps:=2000000) only [go_sem,E_44,A44,A44_L0_eq,A44_L0b,hN,Qb,bne_self_eq_false,hwp,lp,q0,a1,a2,a3,q1,b1,b2,b3,b4]
     ·rw [x]
      have g1 : -1≤w.h1:=by omega
      have g2 : w.h1≤(c.pt.length : Int) - 1:=by omega
      rw [decide_eq_true g1,decide_eq_true g2,Q1] at q1
      clear g1 g2
      have n1 : ¬ w.h0 < 0:=by omega
      by_cases e : w.h0 = w.h1
      ·have e3 : (w.h0 != w.h1) = false:=by simpa using e
       rw [decide_eq_true a1,decide_eq_true e]
       clear e
       rw [pc_eq]; simp +contextual -implicitDefEqProofs (maxSteps:=2000000) only [go_sem,E_44,A44,A44_L0_eq,A44_L0b,hN,Qb,bne_self_eq_false,hwp,lp,q0,a1,a2,a3,q1,b1,b2,b3,n1,e3]
      ·have e3 : (w.h0 != w.h1) = true:=by simpa using e
       rw [decide_eq_false e,Q3]
       clear e
       rw [pc_eq]; simp +contextual -implicitDefEqProofs (maxSteps:=2000000) only [go_sem,E_44,A44,A44_L0_eq,A44_L0b,hN,Qb,bne_self_eq_false,hwp,lp,q0,a1,a2,a3,q1,b1,b2,b3,n1,e3]
 ·have hN : ((w.wh.length : Int) == c.pt.length) = false:=by simp; omega
  have hN2 : ((w.wh.length : Int) != c.pt.length) = true:=by simp; omega
  rw [decide_eq_false hn]
  rw [pc_eq]; simp +contextual -implicitDefEqProofs (maxSteps:=2000000) only [go_sem,E_44,A44,hN,hN2,Qb]
end Go.Proofs.YtbpneedpcccpaaaGreat

namespace Go.Proofs.YtbpneedpcccpaaaGreat
open Go Go.Zv
open Go.Geo (Pt mayB)
abbrev u1 (x : Int) : List LV:=[.int .u8 x]
abbrev bl (b : Bool) : List LV:=[.bool b]
def wk (pl : Nat) (b : List Int) (i : Nat) : Int:=if i < b.length then b.getD i 0 % (pl + 1) else 0
def wst (pl : Nat) (b : List Int) (s : List Bool × List Int) (i : Nat) : List Bool × List Int :=
 if wk pl b i < pl∧s.1.getD (wk pl b i).toNat false = false then (s.1.set (wk pl b i).toNat true,s.2++[wk pl b i]) else (s.1,s.2++[-1])
structure Raw where
 q : Int
 r : Int
 s : Int
 t : Int
 u : Int
 v : Int
 h : Int
 k : Int
 b : List Int
abbrev X49 (c : Cl) (x : Raw) (R : List (List LV)) : Heap:=[(2313,.row 1 R),(2304,.box [.z (jt c.a.lo0 c.a.hi0 x.q),.z (jt c.a.lo1 c.a.hi1 x.r),.z (jt c.a.lo2 c.a.hi2 x.s),.z (jt c.b.lo0 c.b.hi0 x.t),.z (jt c.b.lo1 c.b.hi1 x.u),.z (jt c.b.lo2 c.b.hi2 x.v),.z (-1),.z (-1),.bs 2313 0 R.length]),(2048,.box [.z 0,.z 0,.z 0,.z 0,.z 0,.z 0,.z 0,.z 0,.bs 2057 0 0]),(2057,.row 1 []),(1536,.box [.int .u8 x.h,.int .u8 x.k]),(1280,.box [.int .u8 x.q,.int .u8 x.r,.int .u8 x.s,.int .u8 x.t,.int .u8 x.u,.int .u8 x.v]),(1024,.box (cec c.cel))]
theorem get_bl {l : List Bool} {i : Nat} (h : i < l.length) : (l.map bl)[i]? = some [.bool (l.getD i false)]:=by
 rw [Qan,Go.Geo.getD_of false h]; rfl
theorem set_bl (l : List Bool) (i : Nat) (b : Bool) : (l.map bl).set i [.bool b] = (l.set i b).map bl:=by
 rw [List.map_set]
theorem step49 (c : Cl) (x : Raw) (tk : List Bool) (wh : List Int) (i : Nat) (ht : tk.length = c.pl.length) (hp : c.pl.length≤1000) (hq : c.pt.length≤1000) (hb : ∀ y ∈ x.b,0≤y∧y≤255) (hn : i < c.pt.length) (hr : wh.length = i) :
  (K E A49_L1 ⟨[(3,.vs (x.b.map u1)),(4,.ptr 1024 0),(6,.ptr 1536 0),(8,.ptr 2048 0),(9,.ptr 2304 0),(11,.bs 9472 0 c.pl.length),(12,.z i)],[],(9472,.row 1 (tk.map bl))::X49 c x (wh.map Go.Geo.c1),0⟩).bind (blockR 2 (some [4,6,8,9]) [12,13,14,78,79]) =
  (K E A49_L1 ⟨[(3,.vs (x.b.map u1)),(4,.ptr 1024 0),(6,.ptr 1536 0),(8,.ptr 2048 0),(9,.ptr 2304 0),(11,.bs 9472 0 c.pl.length),(12,.z (i + 1 : Nat))],[],(9472,.row 1 ((wst c.pl.length x.b (tk,wh) i).1.map bl))::X49 c x ((wst c.pl.length x.b (tk,wh) i).2.map Go.Geo.c1),0⟩).bind (blockR 2 (some [4,6,8,9]) [12,13,14,78,79]):=by
 have n0 : (i : Int) < c.pt.length:=by omega
 have i0 : (0 : Int)≤i:=by omega
 have hwr:=Go.Geo.wr_k (k:=i) (by omega)
 have hrl : wh.length≤999999999:=by omega
 have z : IntKind.i64.wrap ((c.pl.length : Int) + 1) = c.pl.length + 1:=wrap_small (by omega) (by omega)
 have z2 : ¬ ((c.pl.length : Int) + 1 = 0):=by omega
 conv=>lhs; rw [A49_L1_eq]
 have hw : ∃ w0,wk c.pl.length x.b i = w0:=⟨_,rfl⟩
 obtain ⟨w0,hw⟩:=hw
 unfold wst
 rw [hw]
 unfold wk at hw
 simp only
 by_cases hl : i < x.b.length
 ·have g : (x.b.map u1)[i]? = some (u1 (x.b.getD i 0)):=Go.Geo.get_m u1 (Go.Geo.getD_of 0 hl)
  have l0 : (i : Int) < x.b.length:=by omega
  rw [if_pos hl] at hw
  have z3:=hb _ (Qd (Go.Geo.getD_of 0 hl))
  generalize x.b.getD i 0 = y at *
  have h0 : 0≤w0:=by rw [← hw]; exact Qdn _ z2
  have h1 : w0 < (c.pl.length : Int) + 1:=by rw [← hw]; exact Qdd _ (by omega)
  have z4 : IntKind.i64.wrap y = y:=wrap_small (by omega) (by omega)
  have z5 : y.tmod (c.pl.length + 1) = w0:=by rw [Qbh z3.1,hw]
  have z6 : IntKind.i64.wrap w0 = w0:=wrap_small (by omega) (by omega)
  clear hw
  by_cases e : w0 < c.pl.length
  ·have gt:=get_bl (l:=tk) (i:=w0.toNat) (by omega)
   cases hT : tk.getD w0.toNat false <;> rw [hT] at gt
   ·rw [if_pos ⟨e,rfl⟩]
    clear hT
    simp only [← set_bl,Ql,Qk,Q0]
    simp +contextual -implicitDefEqProofs (maxSteps:=2000000) only [go_sem,X49,A49_L1b,take_ml,Qb,Qm,Qb5,n0,i0,hwr,hrl,g,l0,z,z2,z4,z5,z6,e,gt,h0,Go.Geo.c1]
   ·rw [if_neg (fun k=>by simp at k)]
    clear hT
    simp only [Ql,Qk,Q0]
    simp +contextual -implicitDefEqProofs (maxSteps:=2000000) only [go_sem,X49,A49_L1b,take_ml,Qb,Qm,n0,i0,hwr,hrl,g,l0,z,z2,z4,z5,z6,e,gt,h0,Go.Geo.c1]
  ·rw [if_neg (fun k=>e k.1)]
   simp only [Ql,Qk,Q0]
   simp +contextual -implicitDefEqProofs (maxSteps:=2000000) only [go_sem,X49,A49_L1b,take_ml,Qb,Qm,n0,i0,hwr,hrl,g,l0,z,z2,z4,z5,z6,e,Go.Geo.c1]
 ·have l0 : ¬ (i : Int) < x.b.length:=by omega
  rw [if_neg hl] at hw
  subst hw
  by_cases e : (0 : Int) < c.pl.length
  ·have gt:=get_bl (l:=tk) (i:=0) (by omega)
   have tz : (0 : Int).toNat = 0:=rfl
   cases hT : tk.getD 0 false <;> rw [hT] at gt
   ·rw [if_pos ⟨e,hT⟩]
    clear hT
    simp only [← set_bl,Ql,Qk,Q0,tz]
    simp +contextual -implicitDefEqProofs (maxSteps:=2000000) only [go_sem,X49,A49_L1b,take_ml,Qb,Qm,Qb5,n0,i0,hwr,hrl,l0,e,gt,Go.Geo.c1]
   ·rw [if_neg (fun k=>by have:=k.2; rw [tz,hT] at this; cases this)]
    clear hT
    simp only [Ql,Qk,Q0]
    simp +contextual -implicitDefEqProofs (maxSteps:=2000000) only [go_sem,X49,A49_L1b,take_ml,Qb,Qm,n0,i0,hwr,hrl,l0,e,gt,Go.Geo.c1]
  ·rw [if_neg (fun k=>e k.1)]
   simp only [Ql,Qk,Q0]
   simp +contextual -implicitDefEqProofs (maxSteps:=2000000) only [go_sem,X49,A49_L1b,take_ml,Qb,Qm,n0,i0,hwr,hrl,l0,e,Go.Geo.c1]
theorem wst_len (pl : Nat) (b : List Int) (s : List Bool × List Int) (i : Nat) : (wst pl b s i).1.length = s.1.length∧(wst pl b s i).2.length = s.2.length + 1:=by
 unfold wst; split <;> simp
theorem loop49 (c : Cl) (x : Raw) (hp : c.pl.length≤1000) (hq : c.pt.length≤1000) (hb : ∀ y ∈ x.b,0≤y∧y≤255) :
  (K E A49_L1 ⟨[(3,.vs (x.b.map u1)),(4,.ptr 1024 0),(6,.ptr 1536 0),(8,.ptr 2048 0),(9,.ptr 2304 0),(11,.bs 9472 0 c.pl.length),(12,.z 0)],[],(9472,.row 1 (List.replicate c.pl.length [.bool false]))::X49 c x [],0⟩).bind (blockR 2 (some [4,6,8,9]) [12,13,14,78,79]) =
  some (.ex .nrm ⟨[(4,.ptr 1024 0),(6,.ptr 1536 0),(8,.ptr 2048 0),(9,.ptr 2304 0)],[],(9472,.row 1 (((List.range c.pt.length).foldl (wst c.pl.length x.b) (List.replicate c.pl.length false,[])).1.map bl))::X49 c x (((List.range c.pt.length).foldl (wst c.pl.length x.b) (List.replicate c.pl.length false,[])).2.map Go.Geo.c1),0⟩):=by
 have h:=loop_idx (σ:=List Bool × List Int) (fun S=>(K E A49_L1 S).bind (blockR 2 (some [4,6,8,9]) [12,13,14,78,79]))
  (fun k s=>⟨[(3,.vs (x.b.map u1)),(4,.ptr 1024 0),(6,.ptr 1536 0),(8,.ptr 2048 0),(9,.ptr 2304 0),(11,.bs 9472 0 c.pl.length),(12,.z k)],[],(9472,.row 1 (s.1.map bl))::X49 c x (s.2.map Go.Geo.c1),0⟩) c.pt.length
  (fun k s=>s.1.length = c.pl.length∧s.2.length = k)
  (fun k s=>some (.ex .nrm ⟨[(4,.ptr 1024 0),(6,.ptr 1536 0),(8,.ptr 2048 0),(9,.ptr 2304 0)],[],(9472,.row 1 ((((List.range c.pt.length).drop k).foldl (wst c.pl.length x.b) s).1.map bl))::X49 c x ((((List.range c.pt.length).drop k).foldl (wst c.pl.length x.b) s).2.map Go.Geo.c1),0⟩))
  (fun s _=>by
   rw [Qbk (by simp)]
   show (K E A49_L1 _).bind _ = _
   simp only [List.foldl_nil]
   generalize s.1.map bl = A
   generalize s.2.map Go.Geo.c1 = B
   rw [A49_L1_eq]; simp +contextual -implicitDefEqProofs (maxSteps:=2000000) only [go_sem,A49_L1b,Qp,Qb])
  (fun k s hk hI=>by
   right
   have hget : (List.range c.pt.length)[k]? = some k:=by simp [hk]
   refine ⟨wst c.pl.length x.b s k,?_,?_,?_⟩
   ·have:=wst_len c.pl.length x.b s k
    exact ⟨by rw [this.1,hI.1],by rw [this.2,hI.2]⟩
   ·exact step49 c x s.1 s.2 k hI.1 hp hq hb hk hI.2
   ·rw [Go.Zv.drop_get hget,Qa7])
  0 (List.replicate c.pl.length false,[]) (Qcj _) ⟨by simp,rfl⟩
 simp only [Qdp,Qn,Qv,List.map_replicate,Q0] at h
 exact h
end Go.Proofs.YtbpneedpcccpaaaGreat

namespace Go.Proofs.YtbpneedpcccpaaaGreat
open Go Go.Zv
open Go.Geo (Pt mayB)
def hk (n : Nat) (h : Int) : Int:=h % (2 * n + 1)
def hv0 (n : Nat) (h : Int) : Int:=if hk n h < n then hk n h else -1
def hv1 (n : Nat) (h k : Int) : Int:=if hk n k < n ∧ ¬ hv0 n h = hk n k then hk n k else -1
def wh0 (n : Nat) (h : Int) (l : List Int) : List Int:=if hk n h < n then l.set (hk n h).toNat (-1) else l
def wh1 (n : Nat) (h k : Int) (l : List Int) : List Int:=if hk n k < n ∧ ¬ hv0 n h = hk n k then (wh0 n h l).set (hk n k).toNat (-1) else wh0 n h l
def whs (c : Cl) (b : List Int) : List Int:=((List.range c.pt.length).foldl (wst c.pl.length b) (List.replicate c.pl.length false,[])).2
def wld (c : Cl) (x : Raw) : Wl:=⟨jt c.a.lo0 c.a.hi0 x.q,jt c.a.lo1 c.a.hi1 x.r,jt c.a.lo2 c.a.hi2 x.s,jt c.b.lo0 c.b.hi0 x.t,jt c.b.lo1 c.b.hi1 x.u,jt c.b.lo2 c.b.hi2 x.v,hv0 c.pt.length x.h,hv1 c.pt.length x.h x.k,wh1 c.pt.length x.h x.k (whs c x.b)⟩
def byt (x : Int) : Prop:=0≤x∧x≤255
structure RawOK (x : Raw) : Prop where
 q : byt x.q
 r : byt x.r
 s : byt x.s
 t : byt x.t
 u : byt x.u
 v : byt x.v
 h : byt x.h
 k : byt x.k
 b : ∀ y ∈ x.b,byt y
theorem fold_len (pl : Nat) (b : List Int) (l : List Nat) (s : List Bool × List Int) : (l.foldl (wst pl b) s).1.length = s.1.length∧(l.foldl (wst pl b) s).2.length = s.2.length + l.length:=by
 induction l generalizing s with
 | nil=>simp
 | cons i l ih =>
   rw [Qa7]
   have h:=ih (wst pl b s i)
   have w:=wst_len pl b s i
   rw [h.1,h.2,w.1,w.2]; simp; omega
theorem whs_len (c : Cl) (b : List Int) : (whs c b).length = c.pt.length:=by
 unfold whs; rw [(fold_len _ _ _ _).2]; simp
theorem set_c1 (l : List Int) (i : Nat) : (l.map Go.Geo.c1).set i [.z (-1)] = (l.set i (-1)).map Go.Geo.c1:=by
 rw [List.map_set]; rfl
abbrev rwv (x : Raw) : List LV:=[.agg [.int .u8 x.q,.int .u8 x.r,.int .u8 x.s,.int .u8 x.t,.int .u8 x.u,.int .u8 x.v],.agg [.int .u8 x.h,.int .u8 x.k],.vs (x.b.map u1)]
theorem c49 (c : Cl) (x : Raw) (H1 : OKa c.a) (H2 : OKa c.b) (X : RawOK x) (hp : c.pl.length≤1000) (hq : c.pt.length≤1000) : pc E 49 (.agg (cec c.cel)::rwv x) = some (.agg (wlc (wld c x))):=by
 have o1:=c82 c.a H1 x.q x.r x.s X.q X.r X.s
 have o2:=c82 c.b H2 x.t x.u x.v X.t X.u X.v
 have p1 : (c.pl.length : Int)≤1000000000:=by omega
 have p0 : (0 : Int)≤c.pl.length:=by omega
 have lp:=loop49 c x hp hq X.b
 have wl:=whs_len c x.b
 have ul : (((List.range c.pt.length).foldl (wst c.pl.length x.b) (List.replicate c.pl.length false,[])).1).length = c.pl.length:=by rw [(fold_len _ _ _ _).1]; simp
 unfold wlc wld wh1 hv1 hv0 wh0
 simp only
 unfold whs at *
 generalize ((List.range c.pt.length).foldl (wst c.pl.length x.b) (List.replicate c.pl.length false,[])).1 = tk at *
 generalize ((List.range c.pt.length).foldl (wst c.pl.length x.b) (List.replicate c.pl.length false,[])).2 = wh at *
 simp only [X49,Qb,Qa0,wl] at lp
 have z1 : IntKind.i64.wrap (2 * (c.pt.length : Int)) = 2 * c.pt.length:=wrap_small (by omega) (by omega)
 have z2 : IntKind.i64.wrap (2 * (c.pt.length : Int) + 1) = 2 * c.pt.length + 1:=wrap_small (by omega) (by omega)
 have z3 : ¬ (2 * (c.pt.length : Int) + 1 = 0):=by omega
 have xh:=X.h
 have xk:=X.k
 unfold byt at xh xk
 have e1 : x.h.tmod (2 * c.pt.length + 1) = hk c.pt.length x.h:=by rw [Qbh xh.1]; rfl
 have e2 : x.k.tmod (2 * c.pt.length + 1) = hk c.pt.length x.k:=by rw [Qbh xk.1]; rfl
 have w1 : IntKind.i64.wrap x.h = x.h:=wrap_small (by omega) (by omega)
 have w2 : IntKind.i64.wrap x.k = x.k:=wrap_small (by omega) (by omega)
 have a1 : 0≤hk c.pt.length x.h:=Qdn _ z3
 have a2 : 0≤hk c.pt.length x.k:=Qdn _ z3
 have b1 : hk c.pt.length x.h < 2 * c.pt.length + 1:=Qdd _ (by omega)
 have b2 : hk c.pt.length x.k < 2 * c.pt.length + 1:=Qdd _ (by omega)
 generalize hk c.pt.length x.h = m at *
 generalize hk c.pt.length x.k = n at *
 have w3 : IntKind.i64.wrap m = m:=wrap_small (by omega) (by omega)
 have w4 : IntKind.i64.wrap n = n:=wrap_small (by omega) (by omega)
 clear xh xk b1 b2
 by_cases n0 : m < c.pt.length
 ·have q0 : ¬ (-1 : Int) = m:=by omega
  have g0 : (wh.map Go.Geo.c1)[m.toNat]? = some [.z (wh.getD m.toNat 0)]:=Go.Geo.get_m Go.Geo.c1 (Go.Geo.getD_of 0 (by omega))
  simp only [if_pos n0]
  by_cases n1 : n < c.pt.length
  ·by_cases d : m = n
   ·subst d
    rw [if_neg (fun k=>k.2 rfl),if_neg (fun k=>k.2 rfl),← set_c1]
    rw [pc_eq]; simp +contextual -implicitDefEqProofs (maxSteps:=2000000) only [go_sem,E_49,A49,p0,Qdm,A49_L2_eq,A49_L2b,A49_L0_eq,A49_L0b,o1,o2,p1,lp,z1,z2,z3,e1,e2,w1,w2,w3,w4,a1,a2,n0,n1,q0,g0,wl,take_ml,Qb,Qb5,Go.Geo.c1]
    rw [Qr (by simp; omega)]
   ·have g1 : ((wh.map Go.Geo.c1).set m.toNat [.z (-1)])[n.toNat]? = some [.z ((wh.set m.toNat (-1)).getD n.toNat 0)]:=by rw [set_c1]; exact Go.Geo.get_m Go.Geo.c1 (Go.Geo.getD_of 0 (by simp; omega))
    rw [if_pos ⟨n1,d⟩,if_pos ⟨n1,d⟩,← set_c1,← set_c1]
    rw [pc_eq]; simp +contextual -implicitDefEqProofs (maxSteps:=2000000) only [go_sem,E_49,A49,p0,Qdm,A49_L2_eq,A49_L2b,A49_L0_eq,A49_L0b,o1,o2,p1,lp,z1,z2,z3,e1,e2,w1,w2,w3,w4,a1,a2,n0,n1,q0,d,g0,g1,wl,take_ml,Qb,Qb5,Go.Geo.c1]
    rw [Qr (by simp; omega)]
  ·rw [if_neg (fun k=>n1 k.1),if_neg (fun k=>n1 k.1),← set_c1]
   rw [pc_eq]; simp +contextual -implicitDefEqProofs (maxSteps:=2000000) only [go_sem,E_49,A49,p0,Qdm,A49_L2_eq,A49_L2b,A49_L0_eq,A49_L0b,o1,o2,p1,lp,z1,z2,z3,e1,e2,w1,w2,w3,w4,a1,a2,n0,n1,q0,g0,wl,take_ml,Qb,Qb5,Go.Geo.c1]
   rw [Qr (by simp; omega)]
 ·simp only [if_neg n0]
  by_cases n1 : n < c.pt.length
  ·have d : ¬ (-1 : Int) = n:=by omega
   have g1 : (wh.map Go.Geo.c1)[n.toNat]? = some [.z (wh.getD n.toNat 0)]:=Go.Geo.get_m Go.Geo.c1 (Go.Geo.getD_of 0 (by omega))
   rw [if_pos ⟨n1,d⟩,if_pos ⟨n1,d⟩,← set_c1]
   rw [pc_eq]; simp +contextual -implicitDefEqProofs (maxSteps:=2000000) only [go_sem,E_49,A49,p0,Qdm,A49_L2_eq,A49_L2b,A49_L0_eq,A49_L0b,o1,o2,p1,lp,z1,z2,z3,e1,e2,w1,w2,w3,w4,a1,a2,n0,n1,d,g1,wl,take_ml,Qb,Qb5,Go.Geo.c1]
   rw [Qr (by simp; omega)]
  ·rw [if_neg (fun k=>n1 k.1),if_neg (fun k=>n1 k.1)]
   rw [pc_eq]; simp +contextual -implicitDefEqProofs (maxSteps:=2000000) only [go_sem,E_49,A49,p0,Qdm,A49_L2_eq,A49_L2b,A49_L0_eq,A49_L0b,o1,o2,p1,lp,z1,z2,z3,e1,e2,w1,w2,w3,w4,a1,a2,n0,n1,wl,take_ml,Qb,Qb5,Go.Geo.c1]
   rw [Qr (by simp; omega)]
end Go.Proofs.YtbpneedpcccpaaaGreat

namespace Go.Proofs.YtbpneedpcccpaaaGreat
open Go Go.Zv
open Go.Geo (Pt mayB)
def outB (b : Bd) : Bool:=b.ar.any fun p=>!mayB p
def rngB (l : List Bd) : Bool:=!l.any outB
theorem plB_Pld {c : Cl} {w : Wl} (h : plB c w = true) : Pld c w:=by
 unfold plB at h
 simp only [Qg,decide_eq_true_eq,Qam,Qa2,Qq] at h
 obtain ⟨h1,h2,h3,h4,h5⟩:=h
 refine ⟨h1,fun x hx=>?_,?_,?_⟩
 ·obtain ⟨i,hi,rfl⟩:=Qc9 hx
  have:=h5 i hi
  have e : w.wh.getD i 0 = w.wh[i]:=by simp [List.getD,hi]
  unfold whI at this
  rw [e] at this
  simp at this
  omega
 ·unfold hdI at h3; simp at h3; omega
 ·unfold hdI at h4; simp at h4; omega
theorem lp140 (b : List Bd) (k : Nat) (v : Bd) (hv : b[k]? = some v) (hl : v.ar.length≤1000) (hb : b.length≤1000) :
  (K E A14_L0 ⟨[(5,.bs 8704 0 b.length),(6,.z k),(7,.z 0)],[],[(8704,.row 4 (b.map bdc))],0⟩).bind (blockR 2 (some [5,6]) [4,7,59]) =
   if (v.ar.any fun p=>!mayB p) = true then some (.ex .ret ⟨[(4,.bool false)],[],[(8704,.row 4 (b.map bdc))],0⟩) else some (.ex .nrm ⟨[(5,.bs 8704 0 b.length),(6,.z k)],[],[(8704,.row 4 (b.map bdc))],0⟩):=by
 have g0 : (b.map bdc)[k]? = some (bdc v):=Go.Geo.get_m bdc hv
 have k0 : (0 : Int)≤k:=by omega
 have k2 : k < b.length:=(Qe.1 hv).1
 have k1 : (k : Int) < b.length:=by omega
 refine loop_any (fun S=>(K E A14_L0 S).bind (blockR 2 (some [5,6]) [4,7,59])) (fun j=>⟨[(5,.bs 8704 0 b.length),(6,.z k),(7,.z j)],[],[(8704,.row 4 (b.map bdc))],0⟩) v.ar (fun p=>!mayB p) _ _ ?_ fun j p hj hp=>?_
 ·show (K E A14_L0 _).bind _ = _
  rw [A14_L0_eq]; simp +contextual -implicitDefEqProofs (maxSteps:=2000000) only [go_sem,A14_L0b,g0,k0,k1,k2,Qb,Qp]
 ·have g1 : (v.ar.map Go.Geo.c2)[j]? = some (Go.Geo.c2 p):=Go.Geo.get_m Go.Geo.c2 hp
  have h0 : (0 : Int)≤j:=by omega
  have h1 : (j : Int) < v.ar.length:=by omega
  have hw:=Go.Geo.wr_k (k:=j) (by omega)
  have o:=c48 p
  show (K E A14_L0 _).bind _ = if _ then _ else (K E A14_L0 _).bind _
  conv=>lhs; rw [A14_L0_eq]
  obtain ⟨px,py⟩:=p
  simp only [Go.Geo.c2] at o
  cases hm : mayB (px,py) <;> rw [hm] at o <;> clear hm
  ·simp +contextual -implicitDefEqProofs (maxSteps:=2000000) only [go_sem,A14_L0b,g0,g1,k0,k1,k2,h0,h1,hw,o,Go.Geo.c2,Qb]
  ·simp +contextual -implicitDefEqProofs (maxSteps:=2000000) only [go_sem,A14_L0b,g0,g1,k0,k1,k2,h0,h1,hw,o,Go.Geo.c2,Qb]
theorem lp141 (b : List Bd) (hl : ∀ v ∈ b,v.ar.length≤1000) (hb : b.length≤1000) :
  (K E A14_L1 ⟨[(5,.bs 8704 0 b.length),(6,.z 0)],[],[(8704,.row 4 (b.map bdc))],0⟩).bind (blockR 0 (some []) [4,6,7,59]) =
   if b.any outB = true then some (.ex .ret ⟨[(4,.bool false)],[],[(8704,.row 4 (b.map bdc))],0⟩) else some (.ex .nrm ⟨[],[],[(8704,.row 4 (b.map bdc))],0⟩):=by
 refine loop_any (fun S=>(K E A14_L1 S).bind (blockR 0 (some []) [4,6,7,59])) (fun k=>⟨[(5,.bs 8704 0 b.length),(6,.z k)],[],[(8704,.row 4 (b.map bdc))],0⟩) b outB _ _ ?_ fun k v hk hv=>?_
 ·show (K E A14_L1 _).bind _ = _
  rw [A14_L1_eq]; simp +contextual -implicitDefEqProofs (maxSteps:=2000000) only [go_sem,A14_L1b,Qb,Qp]
 ·have lp:=lp140 b k v hv (hl _ (Qd hv)) hb
  have h1 : (k : Int) < b.length:=by omega
  have hw:=Go.Geo.wr_k (k:=k) (by omega)
  show (K E A14_L1 _).bind _ = if _ then _ else (K E A14_L1 _).bind _
  conv=>lhs; rw [A14_L1_eq]
  unfold outB
  cases hm : (v.ar.any fun p=>!mayB p) <;> rw [hm] at lp <;> clear hm
  ·simp +contextual -implicitDefEqProofs (maxSteps:=2000000) only [go_sem,A14_L1b,h1,hw,lp,Qb]
  ·simp +contextual -implicitDefEqProofs (maxSteps:=2000000) only [go_sem,A14_L1b,h1,hw,lp,Qb]
def vsB (c : Cl) (w : Wl) : Bool:=limB c.a w.q0 w.q1 w.q2 && (limB c.b w.q3 w.q4 w.q5 && (plB c w && rngB (bodies c w)))
theorem laid_len (ax ay dx dy : Int) (l : List Pt) : (laid_ ax ay dx dy l).length = l.length:=by unfold laid_; simp
theorem lks_len (a : Arm) (d : Pts) : ∀ l ∈ lks a d,l.length = 4:=by
 intro l hl
 unfold lks at hl
 simp at hl
 rcases hl with rfl | rfl | rfl <;> simp [lkc]
theorem c14 (c : Cl) (w : Wl) (H : Fin_ c) (hm : c.pl.length≤1000) (hw : w.wh.length≤1000) (hb : (bodies c w).length≤1000) (hl : ∀ v ∈ bodies c w,v.ar.length≤1000) : pc E 14 [.agg (cec c.cel),.agg (wlc w)] = some (.bool (vsB c w)):=by
 have k1:=c36 c.a w.q0 w.q1 w.q2
 have k2:=c36 c.b w.q3 w.q4 w.q5
 have k3:=c47 c w hw
 unfold vsB
 cases h1 : limB c.a w.q0 w.q1 w.q2 <;> rw [h1] at k1
 ·rw [pc_eq]; simp +contextual -implicitDefEqProofs (maxSteps:=2000000) only [go_sem,E_14,A14,k1]
 ·cases h2 : limB c.b w.q3 w.q4 w.q5 <;> rw [h2] at k2
  ·rw [pc_eq]; simp +contextual -implicitDefEqProofs (maxSteps:=2000000) only [go_sem,E_14,A14,k1,k2]
  ·cases h3 : plB c w <;> rw [h3] at k3
   ·rw [pc_eq]; simp +contextual -implicitDefEqProofs (maxSteps:=2000000) only [go_sem,E_14,A14,k1,k2,k3]
   ·have k4:=c17 c w H (plB_Pld h3)
    have lp:=lp141 (bodies c w) hl hb
    unfold rngB
    generalize bodies c w = b at *
    cases h4 : b.any outB <;> rw [h4] at lp <;> clear h4
    ·rw [pc_eq]; simp +contextual -implicitDefEqProofs (maxSteps:=2000000) only [go_sem,E_14,A14,k1,k2,k3,k4,lp,take_ml,Qb]
    ·rw [pc_eq]; simp +contextual -implicitDefEqProofs (maxSteps:=2000000) only [go_sem,E_14,A14,k1,k2,k3,k4,lp,take_ml,Qb]
end Go.Proofs.YtbpneedpcccpaaaGreat

namespace Go.Proofs.YtbpneedpcccpaaaGreat
open Go Go.Zv
open Go.Geo (Pt mayB)
abbrev L13 (c : Cl) (w : Wl) : Env:=[(4,.ptr 1024 0),(30,.fn (Fn.func 77) [] [.fp (cec c.cel),.fp (wlc w)])]
abbrev F13 (c : Cl) (w : Wl) : List Env:=[L13 c w,[(0,.yl 1024000)]]
abbrev O13 (c : Cl) (w : Wl) : Heap:=[(1024000,.loop (L13 c w) [31] A13_R1a A13_R1b LSt.ready AEx.nrm),(1024,.box [.bool false])]
abbrev Ob13 (c : Cl) (w : Wl) : Heap:=[(1024000,.loop (L13 c w) [31] A13_R1a A13_R1b LSt.busy AEx.nrm),(1024,.box [.bool false])]
abbrev Oe13 (c : Cl) (w : Wl) : Heap:=[(1024000,.loop (L13 c w) [31] A13_R1a A13_R1b LSt.done AEx.ret),(1024,.box [.bool false])]
theorem mayB_eq (x y : Int) : mayB (x,y) = (decide (-439400000≤x) && (decide (x≤439400000) && (decide (-439400000≤y) && decide (y≤439400000)))):=by
 rw [Qa3]; simp [mayB,mxI,mnI]; omega
theorem lp130 (c : Cl) (w : Wl) (ar : List Pt) (hl : ar.length≤1000) (F : List Env) (hF : Envs.sub Rep.kill 2099456 F = F) :
  (K E A13_L0 ⟨[(4,.ptr 1024 0),(33,.vs (ar.map Go.Geo.c2)),(34,.z ar.length),(35,.z 0)],F,Ob13 c w,2⟩).bind (blockR 4 (some []) [9,41,46]) =
   if (ar.any fun p=>!mayB p) = true then some (.ex .ret ⟨[],F,Ob13 c w,2⟩) else some (.ex .nrm ⟨[],F,Ob13 c w,2⟩):=by
 refine loop_any (fun S=>(K E A13_L0 S).bind (blockR 4 (some []) [9,41,46])) (fun j=>⟨[(4,.ptr 1024 0),(33,.vs (ar.map Go.Geo.c2)),(34,.z ar.length),(35,.z j)],F,Ob13 c w,2⟩) ar (fun p=>!mayB p) _ _ ?_ fun j p hj hp=>?_
 ·show (K E A13_L0 _).bind _ = _
  rw [A13_L0_eq]; simp +contextual -implicitDefEqProofs (maxSteps:=2000000) only [go_sem,A13_L0b,Qp]
 ·have g1 : (ar.map Go.Geo.c2)[j]? = some (Go.Geo.c2 p):=Go.Geo.get_m Go.Geo.c2 hp
  have h0 : (0 : Int)≤j:=by omega
  have h1 : (j : Int) < ar.length:=by omega
  have hw:=Go.Geo.wr_k (k:=j) (by omega)
  obtain ⟨x,y⟩:=p
  have o:=c46 x (-439400000) 439400000
  have u:=c46 y (-439400000) 439400000
  have e:=mayB_eq x y
  show (K E A13_L0 _).bind _ = if _ then _ else (K E A13_L0 _).bind _
  conv=>lhs; rw [A13_L0_eq]
  rw [← Qc3] at e
  cases h2 : (decide (-439400000≤x) && decide (x≤439400000)) <;> rw [h2] at o e <;> clear h2
  ·rw [e]
   simp +contextual -implicitDefEqProofs (maxSteps:=2000000) only [go_sem,A13_L0b,g1,h0,h1,hw,hF,o,Go.Geo.c2,Qb]
  ·cases h3 : (decide (-439400000≤y) && decide (y≤439400000)) <;> rw [h3] at u e <;> clear h3
   ·rw [e]
    simp +contextual -implicitDefEqProofs (maxSteps:=2000000) only [go_sem,A13_L0b,g1,h0,h1,hw,hF,o,u,Go.Geo.c2,Qb]
   ·rw [e]
    simp +contextual -implicitDefEqProofs (maxSteps:=2000000) only [go_sem,A13_L0b,g1,h0,h1,hw,hF,o,u,Go.Geo.c2,Qb]
def R13 (c : Cl) (w : Wl) (o : Option Out) : Prop:=∃ (T' : Env),o = some (.ex .ret ⟨T',F13 c w,Oe13 c w,1⟩)
theorem fx13 (c : Cl) (w : Wl) (hf : c.fx.length≤1000) (hl : ∀ p ∈ c.fx,p.length≤1000) :
  ((fxt c c.fx.length).any outB = true → R13 c w ((K E A77_L0 ⟨[(0,.yl 1024000),(118,.vs (c.fx.map Go.Geo.p1)),(119,.z c.fx.length),(120,.z 0)],F13 c w,O13 c w,1⟩).bind (blockR 8 (some []) [13,14,129]))) ∧
  ((fxt c c.fx.length).any outB = false → (K E A77_L0 ⟨[(0,.yl 1024000),(118,.vs (c.fx.map Go.Geo.p1)),(119,.z c.fx.length),(120,.z 0)],F13 c w,O13 c w,1⟩).bind (blockR 8 (some []) [13,14,129]) = some (.ex .nrm ⟨[],F13 c w,O13 c w,1⟩)):=by
 have e : (fxt c c.fx.length).any outB = c.fx.any fun p=>p.any fun q=>!mayB q:=by
  unfold fxt
  rw [List.any_map]
  rw [Qa3,Qas,Qas]
  constructor
  ·rintro ⟨i,hi,h⟩
   rw [Qq] at hi
   exact ⟨_,Qd (Go.Geo.getD_of [] hi),h⟩
  ·rintro ⟨p,hp,h⟩
   obtain ⟨i,hi,rfl⟩:=Qc9 hp
   refine ⟨i,Qq.2 hi,?_⟩
   have e : c.fx.getD i [] = c.fx[i]:=by simp [List.getD,hi]
   simp only [Function.comp,outB,fxI,e]
   exact h
 rw [e]
 exact loop_leave (σ:=Unit) (fun S=>(K E A77_L0 S).bind (blockR 8 (some []) [13,14,129]))
  (fun k _=>⟨[(0,.yl 1024000),(118,.vs (c.fx.map Go.Geo.p1)),(119,.z c.fx.length),(120,.z k)],F13 c w,O13 c w,1⟩) c.fx (fun x _=>x) (fun p=>p.any fun q=>!mayB q) (R13 c w)
  (fun _=>some (.ex .nrm ⟨[],F13 c w,O13 c w,1⟩))
  (fun _=>by
   show (K E A77_L0 _).bind _ = _
   rw [A77_L0_eq]; simp +contextual -implicitDefEqProofs (maxSteps:=2000000) only [go_sem,O13,F13,L13,A77_L0b,Qp,Qb])
  (fun k p _ hk hp=>by
   have g1 : (c.fx.map Go.Geo.p1)[k]? = some [.vs (p.map Go.Geo.c2)]:=Go.Geo.get_m Go.Geo.p1 hp
   have h1 : (k : Int) < c.fx.length:=by omega
   have h0 : (0 : Int)≤k:=by omega
   have hw:=Go.Geo.wr_k (k:=k) (by omega)
   have lp:=lp130 c w p (hl _ (Qd hp))
   simp only [Ob13,L13,A13_R1a,A13_R1b] at lp
   refine ⟨fun hh=>?_,fun hh=>?_⟩ <;> rw [hh] at lp <;> clear hh
   ·refine ⟨?_,?_⟩
    rotate_left
    ·show (K E A77_L0 _).bind _ = _
     rw [A77_L0_eq]
     simp +contextual -implicitDefEqProofs (maxSteps:=2000000) only [go_sem,O13,Oe13,F13,L13,A77_L0b,A13_R1a,A13_R1b,Qb,h0,h1,g1,hw,lp]
     rfl
   ·show (K E A77_L0 _).bind _ = (K E A77_L0 _).bind _
    conv=>lhs; rw [A77_L0_eq]
    simp +contextual -implicitDefEqProofs (maxSteps:=2000000) only [go_sem,O13,F13,L13,A77_L0b,A13_R1a,A13_R1b,Qb,h0,h1,g1,hw,lp]) ()
end Go.Proofs.YtbpneedpcccpaaaGreat

namespace Go.Proofs.YtbpneedpcccpaaaGreat
open Go Go.Zv
open Go.Geo (Pt mayB)
theorem rs13 (c : Cl) (w : Wl) (P : Pld c w) (hp : ∀ p ∈ c.pt,p.sh.length≤1000) (hl : c.pt.length≤1000) :
  ((rst c w.wh w.wh.length).any outB = true → R13 c w ((K E A77_L1 ⟨[(0,.yl 1024000),(1,.fp (cec c.cel)),(82,.vs (w.wh.map Go.Geo.c1)),(83,.z w.wh.length),(84,.z 0)],F13 c w,O13 c w,1⟩).bind (blockR 6 (some [0,1]) [11,12,111,113]))) ∧
  ((rst c w.wh w.wh.length).any outB = false → (K E A77_L1 ⟨[(0,.yl 1024000),(1,.fp (cec c.cel)),(82,.vs (w.wh.map Go.Geo.c1)),(83,.z w.wh.length),(84,.z 0)],F13 c w,O13 c w,1⟩).bind (blockR 6 (some [0,1]) [11,12,111,113]) =
    some (.ex .nrm ⟨[(0,.yl 1024000),(1,.fp (cec c.cel))],F13 c w,O13 c w,1⟩)):=by
 have e : (rst c w.wh w.wh.length).any outB = (List.range w.wh.length).any fun i=>(rsI c w.wh i).any outB:=by
  unfold rst; rw [List.any_flatMap]
 rw [e]
 have := loop_leave (σ:=Unit) (fun S=>(K E A77_L1 S).bind (blockR 6 (some [0,1]) [11,12,111,113]))
  (fun k _=>⟨[(0,.yl 1024000),(1,.fp (cec c.cel)),(82,.vs (w.wh.map Go.Geo.c1)),(83,.z w.wh.length),(84,.z k)],F13 c w,O13 c w,1⟩) (List.range w.wh.length) (fun x _=>x) (fun i=>(rsI c w.wh i).any outB) (R13 c w)
  (fun _=>some (.ex .nrm ⟨[(0,.yl 1024000),(1,.fp (cec c.cel))],F13 c w,O13 c w,1⟩))
  (fun _=>by
   show (K E A77_L1 _).bind _ = _
   rw [Qx,A77_L1_eq]; simp +contextual -implicitDefEqProofs (maxSteps:=2000000) only [go_sem,O13,F13,L13,A77_L1b,Qp,Qb])
  (fun k p _ hk hpp=>by
   have e:=rg_get hpp
   subst e
   rw [Qx] at hk
   have hget : w.wh[k]? = some (w.wh.getD k 0):=Go.Geo.getD_of 0 hk
   have hm:=P.at_ _ (Qd hget)
   have hpl:=P.len
   have hgp : c.pt[k]? = some (c.pt.getD k default):=Go.Geo.getD_of default (by omega)
   have hsh:=hp _ (Qd hgp)
   unfold rsI
   have g1 : (w.wh.map Go.Geo.c1)[k]? = some [.z (w.wh.getD k 0)]:=Go.Geo.get_m Go.Geo.c1 hget
   have g2:=Go.Geo.get_m Go.Geo.prv hgp
   simp only [Go.Geo.prv] at g2
   generalize w.wh.getD k 0 = x at *
   generalize c.pt.getD k default = p at *
   have h1 : (k : Int) < w.wh.length:=by omega
   have h0 : (0 : Int)≤k:=by omega
   have h2 : (k : Int) < c.pt.length:=by omega
   have hw:=Go.Geo.wr_k (k:=k) (by omega)
   by_cases hx : x < 0
   ·have hx' : ¬ (0≤x):=by omega
    rw [if_pos hx]
    refine ⟨(fun h=>by cases h),fun _=>?_⟩
    show (K E A77_L1 _).bind _ = (K E A77_L1 _).bind _
    conv=>lhs; rw [A77_L1_eq]
    simp +contextual -implicitDefEqProofs (maxSteps:=2000000) only [go_sem,O13,F13,L13,A77_L1b,Qb,h0,h1,g1,hw,hx',Qbc]
   ·have hx' : 0≤x:=by omega
    have hgl : c.pl[x.toNat]? = some (c.pl.getD x.toNat default):=Go.Geo.getD_of default (by omega)
    have g3:=Go.Geo.get_m Go.Geo.plv hgl
    simp only [Go.Geo.plv] at g3
    rw [if_neg hx]
    generalize c.pl.getD x.toNat default = l at *
    have o:=c79 p.nm p.sh p.at_ l.x l.y l.dx l.dy l.dn hsh
    have hx2:=hm.2
    have lp:=lp130 c w (laid_ l.x l.y l.dx l.dy p.sh) (by rw [laid_len]; exact hsh)
    simp only [Ob13,L13,A13_R1a,A13_R1b] at lp
    have ea : List.any [(⟨3,k,0,laid_ l.x l.y l.dx l.dy p.sh⟩ : Bd)] outB = (laid_ l.x l.y l.dx l.dy p.sh).any fun p=>!mayB p:=by
     simp [outB]
    rw [ea]
    generalize laid_ l.x l.y l.dx l.dy p.sh = q at *
    refine ⟨fun hh=>?_,fun hh=>?_⟩ <;> rw [hh] at lp <;> clear hh ea
    ·refine ⟨?_,?_⟩
     rotate_left
     ·show (K E A77_L1 _).bind _ = _
      rw [A77_L1_eq]
      simp +contextual -implicitDefEqProofs (maxSteps:=2000000) only [go_sem,O13,Oe13,F13,L13,A77_L1b,A13_R1a,A13_R1b,Qb,h0,h1,h2,g1,g2,g3,hw,hx',hx2,o,lp]
      rfl
    ·show (K E A77_L1 _).bind _ = (K E A77_L1 _).bind _
     conv=>lhs; rw [A77_L1_eq]
     simp +contextual -implicitDefEqProofs (maxSteps:=2000000) only [go_sem,O13,F13,L13,A77_L1b,A13_R1a,A13_R1b,Qb,h0,h1,h2,g1,g2,g3,hw,hx',hx2,o,lp]) ()
 exact this
end Go.Proofs.YtbpneedpcccpaaaGreat

namespace Go.Proofs.YtbpneedpcccpaaaGreat
open Go Go.Zv
open Go.Geo (Pt mayB)
abbrev obA (l : List Pt) : Bool:=l.any fun p=>!mayB p
theorem any_lnk (i : Int) (L0 L1 L2 : List Pt) (X : List Bd) : (lnk i [L0,L1,L2]++X).any outB = (obA L0 || (obA L1 || (obA L2 || X.any outB))):=by
 simp [lnk,outB,obA]
theorem any_1 (k i j : Int) (l : List Pt) : List.any [(⟨k,i,j,l⟩ : Bd)] outB = obA l:=by simp [outB,obA]
theorem c13 (c : Cl) (w : Wl) (H : Fin_ c) (hm : c.pl.length≤1000) (hfl : ∀ p ∈ c.fx,p.length≤1000) : pc E 13 [.agg (cec c.cel),.agg (wlc w)] = some (.bool (vsB c w)):=by
 have k1:=c43 c.a w.q0 w.q1 w.q2
 have k2:=c43 c.b w.q3 w.q4 w.q5
 have k3:=c44 c w H.pl hm
 have e45:=c45 c.cel w
 unfold vsB
 cases h1 : limB c.a w.q0 w.q1 w.q2 <;> rw [h1] at k1 <;> clear h1
 ·rw [pc_eq]; simp +contextual -implicitDefEqProofs (maxSteps:=2000000) only [go_sem,E_13,A13,A13_L2_eq,A13_L2b,k1]
 cases h2 : limB c.b w.q3 w.q4 w.q5 <;> rw [h2] at k2 <;> clear h2
 ·rw [pc_eq]; simp +contextual -implicitDefEqProofs (maxSteps:=2000000) only [go_sem,E_13,A13,A13_L2_eq,A13_L2b,k1,k2]
 cases h3 : plB c w <;> rw [h3] at k3
 ·rw [pc_eq]; simp +contextual -implicitDefEqProofs (maxSteps:=2000000) only [go_sem,E_13,A13,A13_L2_eq,A13_L2b,k1,k2,k3]
 have P:=plB_Pld h3
 clear h3
 unfold rngB bodies
 obtain ⟨L0,L1,L2,hL⟩:=lks3 c.a (dd w.q0 w.q1 w.q2)
 obtain ⟨M0,M1,M2,hM⟩:=lks3 c.b (dd w.q3 w.q4 w.q5)
 have o1:=c78 c.a H.ha w.q0 w.q1 w.q2
 have o2:=c78 c.b H.hb w.q3 w.q4 w.q5
 have lL:=lks_len c.a (dd w.q0 w.q1 w.q2)
 have lM:=lks_len c.b (dd w.q3 w.q4 w.q5)
 rw [hL] at o1 lL
 rw [hM] at o2 lM
 have o1 : pc E 78 [av c.a,jv w.q0 w.q1 w.q2] = some (.agg [.vs (L0.map Go.Geo.c2),.vs (L1.map Go.Geo.c2),.vs (L2.map Go.Geo.c2)]):=o1
 have o2 : pc E 78 [av c.b,jv w.q3 w.q4 w.q5] = some (.agg [.vs (M0.map Go.Geo.c2),.vs (M1.map Go.Geo.c2),.vs (M2.map Go.Geo.c2)]):=o2
 have j1:=c80 c.a H.ha w.q0 w.q1 w.q2
 have j2:=c80 c.b H.hb w.q3 w.q4 w.q5
 have d1:=c81' c.a w.q0 w.q1 w.q2
 have d2:=c81' c.b w.q3 w.q4 w.q5
 have l0:=lp130 c w L0 (by rw [lL L0 (by simp)]; omega)
 have l1:=lp130 c w L1 (by rw [lL L1 (by simp)]; omega)
 have l2:=lp130 c w L2 (by rw [lL L2 (by simp)]; omega)
 have m0:=lp130 c w M0 (by rw [lM M0 (by simp)]; omega)
 have m1:=lp130 c w M1 (by rw [lM M1 (by simp)]; omega)
 have m2:=lp130 c w M2 (by rw [lM M2 (by simp)]; omega)
 clear lL lM
 have hrs:=rs13 c w P H.sh H.pl
 have hfx:=fx13 c w H.fl hfl
 have hh0:=P.h0
 have hh1:=P.h1
 have y1 : (c.pt.map Go.Geo.prv).length = c.pt.length:=Qb ..
 rw [hL,hM,any_lnk,any_lnk]
 simp only [Ob13,L13,A13_R1a,A13_R1b] at l0 l1 l2 m0 m1 m2
 have key : ∀ h : Int,-1≤h → h < c.pt.length → ¬ h < 0 → ∃ p,c.pt.getD h.toNat default = p∧(c.pt.map Go.Geo.prv)[h.toNat]? = some [.str p.nm,.vs (p.sh.map Go.Geo.c2),.z p.at_]∧0≤h∧p.sh.length≤1000:=fun h b1 b2 b3=>by
  have hg : c.pt[h.toNat]? = some (c.pt.getD h.toNat default):=Go.Geo.getD_of default (by omega)
  have g:=Go.Geo.get_m Go.Geo.prv hg
  simp only [Go.Geo.prv] at g
  exact ⟨_,rfl,g,by omega,H.sh _ (Qd hg)⟩
 cases z : obA L0 <;> unfold obA at z <;> rw [z] at l0 <;> clear z
 rotate_left
 ·clear hrs hfx
  rw [pc_eq]; simp +contextual -implicitDefEqProofs (maxSteps:=2000000) only [go_sem,Qb,E_13,A13,A13_L2_eq,A13_L2b,A13_R1,A13_R1a,A13_R1b,e45,E_77,A77,A77_L4_eq,A77_L4b,A77_L3_eq,A77_L3b,A77_L2_eq,A77_L2b,k1,k2,k3,o1,o2,j1,j2,d1,d2,y1,l0,Qao,Qaq,Qah]
 cases z : obA L1 <;> unfold obA at z <;> rw [z] at l1 <;> clear z
 rotate_left
 ·clear hrs hfx
  rw [pc_eq]; simp +contextual -implicitDefEqProofs (maxSteps:=2000000) only [go_sem,Qb,E_13,A13,A13_L2_eq,A13_L2b,A13_R1,A13_R1a,A13_R1b,e45,E_77,A77,A77_L4_eq,A77_L4b,A77_L3_eq,A77_L3b,A77_L2_eq,A77_L2b,k1,k2,k3,o1,o2,j1,j2,d1,d2,y1,l0,l1,Qao,Qaq,Qah]
 cases z : obA L2 <;> unfold obA at z <;> rw [z] at l2 <;> clear z
 rotate_left
 ·clear hrs hfx
  rw [pc_eq]; simp +contextual -implicitDefEqProofs (maxSteps:=2000000) only [go_sem,Qb,E_13,A13,A13_L2_eq,A13_L2b,A13_R1,A13_R1a,A13_R1b,e45,E_77,A77,A77_L4_eq,A77_L4b,A77_L3_eq,A77_L3b,A77_L2_eq,A77_L2b,k1,k2,k3,o1,o2,j1,j2,d1,d2,y1,l0,l1,l2,Qao,Qaq,Qah]
 cases z : obA M0 <;> unfold obA at z <;> rw [z] at m0 <;> clear z
 rotate_left
 ·clear hrs hfx
  rw [pc_eq]; simp +contextual -implicitDefEqProofs (maxSteps:=2000000) only [go_sem,Qb,E_13,A13,A13_L2_eq,A13_L2b,A13_R1,A13_R1a,A13_R1b,e45,E_77,A77,A77_L4_eq,A77_L4b,A77_L3_eq,A77_L3b,A77_L2_eq,A77_L2b,k1,k2,k3,o1,o2,j1,j2,d1,d2,y1,l0,l1,l2,m0,Qao,Qaq,Qah]
 cases z : obA M1 <;> unfold obA at z <;> rw [z] at m1 <;> clear z
 rotate_left
 ·clear hrs hfx
  rw [pc_eq]; simp +contextual -implicitDefEqProofs (maxSteps:=2000000) only [go_sem,Qb,E_13,A13,A13_L2_eq,A13_L2b,A13_R1,A13_R1a,A13_R1b,e45,E_77,A77,A77_L4_eq,A77_L4b,A77_L3_eq,A77_L3b,A77_L2_eq,A77_L2b,k1,k2,k3,o1,o2,j1,j2,d1,d2,y1,l0,l1,l2,m0,m1,Qao,Qaq,Qah]
 cases z : obA M2 <;> unfold obA at z <;> rw [z] at m2 <;> clear z
 rotate_left
 ·clear hrs hfx
  rw [pc_eq]; simp +contextual -implicitDefEqProofs (maxSteps:=2000000) only [go_sem,Qb,E_13,A13,A13_L2_eq,A13_L2b,A13_R1,A13_R1a,A13_R1b,e45,E_77,A77,A77_L4_eq,A77_L4b,A77_L3_eq,A77_L3b,A77_L2_eq,A77_L2b,k1,k2,k3,o1,o2,j1,j2,d1,d2,y1,l0,l1,l2,m0,m1,m2,Qao,Qaq,Qah]
 simp only [Qah,List.any_append]
 unfold crd
 by_cases n0 : w.h0 < 0
 ·rw [if_pos n0]
  by_cases n1 : w.h1 < 0
  ·rw [if_pos n1]
   simp only [Qah,Qdi]
   cases z : (rst c w.wh w.wh.length).any outB
   rotate_left
   ·obtain ⟨T',a1⟩:=hrs.1 z
    simp only [O13,Oe13,F13,L13,A13_R1a,A13_R1b] at a1
    clear z hrs hfx
    rw [pc_eq]; simp +contextual -implicitDefEqProofs (maxSteps:=2000000) only [go_sem,Qb,E_13,A13,A13_L2_eq,A13_L2b,A13_R1,A13_R1a,A13_R1b,e45,E_77,A77,A77_L4_eq,A77_L4b,A77_L3_eq,A77_L3b,A77_L2_eq,A77_L2b,k1,k2,k3,o1,o2,j1,j2,d1,d2,y1,l0,l1,l2,m0,m1,m2,n0,n1,a1,Qao]
   have a1:=hrs.2 z
   simp only [O13,Oe13,F13,L13,A13_R1a,A13_R1b] at a1
   clear z hrs
   cases z : (fxt c c.fx.length).any outB
   rotate_left
   ·obtain ⟨T',a2⟩:=hfx.1 z
    simp only [O13,Oe13,F13,L13,A13_R1a,A13_R1b] at a2
    clear z hfx
    rw [pc_eq]; simp +contextual -implicitDefEqProofs (maxSteps:=2000000) only [go_sem,Qb,E_13,A13,A13_L2_eq,A13_L2b,A13_R1,A13_R1a,A13_R1b,e45,E_77,A77,A77_L4_eq,A77_L4b,A77_L3_eq,A77_L3b,A77_L2_eq,A77_L2b,k1,k2,k3,o1,o2,j1,j2,d1,d2,y1,l0,l1,l2,m0,m1,m2,n0,n1,a1,a2,Qaq]
   have a2:=hfx.2 z
   simp only [O13,Oe13,F13,L13,A13_R1a,A13_R1b] at a2
   clear z hfx
   rw [pc_eq]; simp +contextual -implicitDefEqProofs (maxSteps:=2000000) only [go_sem,Qb,E_13,A13,A13_L2_eq,A13_L2b,A13_R1,A13_R1a,A13_R1b,e45,E_77,A77,A77_L4_eq,A77_L4b,A77_L3_eq,A77_L3b,A77_L2_eq,A77_L2b,k1,k2,k3,o1,o2,j1,j2,d1,d2,y1,l0,l1,l2,m0,m1,m2,n0,n1,a1,a2,Qb0]
  ·rw [if_neg n1]
   obtain ⟨p1,e1,g1,n1',t1⟩:=key w.h1 hh1.1 hh1.2 n1
   rw [e1]
   have u1:=hh1.2
   have v1:=c79 p1.nm p1.sh p1.at_ (pp c.b (dd w.q3 w.q4 w.q5)).x3 (pp c.b (dd w.q3 w.q4 w.q5)).y3 (dd w.q3 w.q4 w.q5).x3 (dd w.q3 w.q4 w.q5).y3 3 t1
   have r1:=lp130 c w (laid_ (pp c.b (dd w.q3 w.q4 w.q5)).x3 (pp c.b (dd w.q3 w.q4 w.q5)).y3 (dd w.q3 w.q4 w.q5).x3 (dd w.q3 w.q4 w.q5).y3 p1.sh) (by rw [laid_len]; exact t1)
   simp only [Ob13,L13,A13_R1a,A13_R1b] at r1
   rw [any_1]
   generalize laid_ (pp c.b (dd w.q3 w.q4 w.q5)).x3 (pp c.b (dd w.q3 w.q4 w.q5)).y3 (dd w.q3 w.q4 w.q5).x3 (dd w.q3 w.q4 w.q5).y3 p1.sh = W1 at *
   cases z : obA W1 <;> unfold obA at z <;> rw [z] at r1 <;> clear z
   rotate_left
   ·clear hrs hfx
    simp only [Qdi]
    rw [pc_eq]; simp +contextual -implicitDefEqProofs (maxSteps:=2000000) only [go_sem,Qb,E_13,A13,A13_L2_eq,A13_L2b,A13_R1,A13_R1a,A13_R1b,e45,E_77,A77,A77_L4_eq,A77_L4b,A77_L3_eq,A77_L3b,A77_L2_eq,A77_L2b,k1,k2,k3,o1,o2,j1,j2,d1,d2,y1,l0,l1,l2,m0,m1,m2,n0,n1,n1',g1,u1,v1,r1,Qao,Qaq,Qah]
   simp only [Qah,Qdi]
   cases z : (rst c w.wh w.wh.length).any outB
   rotate_left
   ·obtain ⟨T',a1⟩:=hrs.1 z
    simp only [O13,Oe13,F13,L13,A13_R1a,A13_R1b] at a1
    clear z hrs hfx
    rw [pc_eq]; simp +contextual -implicitDefEqProofs (maxSteps:=2000000) only [go_sem,Qb,E_13,A13,A13_L2_eq,A13_L2b,A13_R1,A13_R1a,A13_R1b,e45,E_77,A77,A77_L4_eq,A77_L4b,A77_L3_eq,A77_L3b,A77_L2_eq,A77_L2b,k1,k2,k3,o1,o2,j1,j2,d1,d2,y1,l0,l1,l2,m0,m1,m2,n0,n1,n1',g1,u1,v1,r1,a1,Qao]
   have a1:=hrs.2 z
   simp only [O13,Oe13,F13,L13,A13_R1a,A13_R1b] at a1
   clear z hrs
   cases z : (fxt c c.fx.length).any outB
   rotate_left
   ·obtain ⟨T',a2⟩:=hfx.1 z
    simp only [O13,Oe13,F13,L13,A13_R1a,A13_R1b] at a2
    clear z hfx
    rw [pc_eq]; simp +contextual -implicitDefEqProofs (maxSteps:=2000000) only [go_sem,Qb,E_13,A13,A13_L2_eq,A13_L2b,A13_R1,A13_R1a,A13_R1b,e45,E_77,A77,A77_L4_eq,A77_L4b,A77_L3_eq,A77_L3b,A77_L2_eq,A77_L2b,k1,k2,k3,o1,o2,j1,j2,d1,d2,y1,l0,l1,l2,m0,m1,m2,n0,n1,n1',g1,u1,v1,r1,a1,a2,Qaq]
   have a2:=hfx.2 z
   simp only [O13,Oe13,F13,L13,A13_R1a,A13_R1b] at a2
   clear z hfx
   rw [pc_eq]; simp +contextual -implicitDefEqProofs (maxSteps:=2000000) only [go_sem,Qb,E_13,A13,A13_L2_eq,A13_L2b,A13_R1,A13_R1a,A13_R1b,e45,E_77,A77,A77_L4_eq,A77_L4b,A77_L3_eq,A77_L3b,A77_L2_eq,A77_L2b,k1,k2,k3,o1,o2,j1,j2,d1,d2,y1,l0,l1,l2,m0,m1,m2,n0,n1,n1',g1,u1,v1,r1,a1,a2,Qb0]
 ·rw [if_neg n0]
  obtain ⟨p0,e0,g0,n0',t0⟩:=key w.h0 hh0.1 hh0.2 n0
  rw [e0]
  have u0:=hh0.2
  have v0:=c79 p0.nm p0.sh p0.at_ (pp c.a (dd w.q0 w.q1 w.q2)).x3 (pp c.a (dd w.q0 w.q1 w.q2)).y3 (dd w.q0 w.q1 w.q2).x3 (dd w.q0 w.q1 w.q2).y3 3 t0
  have r0:=lp130 c w (laid_ (pp c.a (dd w.q0 w.q1 w.q2)).x3 (pp c.a (dd w.q0 w.q1 w.q2)).y3 (dd w.q0 w.q1 w.q2).x3 (dd w.q0 w.q1 w.q2).y3 p0.sh) (by rw [laid_len]; exact t0)
  simp only [Ob13,L13,A13_R1a,A13_R1b] at r0
  rw [any_1]
  generalize laid_ (pp c.a (dd w.q0 w.q1 w.q2)).x3 (pp c.a (dd w.q0 w.q1 w.q2)).y3 (dd w.q0 w.q1 w.q2).x3 (dd w.q0 w.q1 w.q2).y3 p0.sh = W0 at *
  cases z : obA W0 <;> unfold obA at z <;> rw [z] at r0 <;> clear z
  rotate_left
  ·clear hrs hfx
   rw [pc_eq]; simp +contextual -implicitDefEqProofs (maxSteps:=2000000) only [go_sem,Qb,E_13,A13,A13_L2_eq,A13_L2b,A13_R1,A13_R1a,A13_R1b,e45,E_77,A77,A77_L4_eq,A77_L4b,A77_L3_eq,A77_L3b,A77_L2_eq,A77_L2b,k1,k2,k3,o1,o2,j1,j2,d1,d2,y1,l0,l1,l2,m0,m1,m2,n0,n0',g0,u0,v0,r0,Qao,Qaq,Qah]
  by_cases n1 : w.h1 < 0
  ·rw [if_pos n1]
   simp only [Qah,Qdi]
   cases z : (rst c w.wh w.wh.length).any outB
   rotate_left
   ·obtain ⟨T',a1⟩:=hrs.1 z
    simp only [O13,Oe13,F13,L13,A13_R1a,A13_R1b] at a1
    clear z hrs hfx
    rw [pc_eq]; simp +contextual -implicitDefEqProofs (maxSteps:=2000000) only [go_sem,Qb,E_13,A13,A13_L2_eq,A13_L2b,A13_R1,A13_R1a,A13_R1b,e45,E_77,A77,A77_L4_eq,A77_L4b,A77_L3_eq,A77_L3b,A77_L2_eq,A77_L2b,k1,k2,k3,o1,o2,j1,j2,d1,d2,y1,l0,l1,l2,m0,m1,m2,n0,n0',g0,u0,v0,r0,n1,a1,Qao]
   have a1:=hrs.2 z
   simp only [O13,Oe13,F13,L13,A13_R1a,A13_R1b] at a1
   clear z hrs
   cases z : (fxt c c.fx.length).any outB
   rotate_left
   ·obtain ⟨T',a2⟩:=hfx.1 z
    simp only [O13,Oe13,F13,L13,A13_R1a,A13_R1b] at a2
    clear z hfx
    rw [pc_eq]; simp +contextual -implicitDefEqProofs (maxSteps:=2000000) only [go_sem,Qb,E_13,A13,A13_L2_eq,A13_L2b,A13_R1,A13_R1a,A13_R1b,e45,E_77,A77,A77_L4_eq,A77_L4b,A77_L3_eq,A77_L3b,A77_L2_eq,A77_L2b,k1,k2,k3,o1,o2,j1,j2,d1,d2,y1,l0,l1,l2,m0,m1,m2,n0,n0',g0,u0,v0,r0,n1,a1,a2,Qaq]
   have a2:=hfx.2 z
   simp only [O13,Oe13,F13,L13,A13_R1a,A13_R1b] at a2
   clear z hfx
   rw [pc_eq]; simp +contextual -implicitDefEqProofs (maxSteps:=2000000) only [go_sem,Qb,E_13,A13,A13_L2_eq,A13_L2b,A13_R1,A13_R1a,A13_R1b,e45,E_77,A77,A77_L4_eq,A77_L4b,A77_L3_eq,A77_L3b,A77_L2_eq,A77_L2b,k1,k2,k3,o1,o2,j1,j2,d1,d2,y1,l0,l1,l2,m0,m1,m2,n0,n0',g0,u0,v0,r0,n1,a1,a2,Qb0]
  ·rw [if_neg n1]
   obtain ⟨p1,e1,g1,n1',t1⟩:=key w.h1 hh1.1 hh1.2 n1
   rw [e1]
   have u1:=hh1.2
   have v1:=c79 p1.nm p1.sh p1.at_ (pp c.b (dd w.q3 w.q4 w.q5)).x3 (pp c.b (dd w.q3 w.q4 w.q5)).y3 (dd w.q3 w.q4 w.q5).x3 (dd w.q3 w.q4 w.q5).y3 3 t1
   have r1:=lp130 c w (laid_ (pp c.b (dd w.q3 w.q4 w.q5)).x3 (pp c.b (dd w.q3 w.q4 w.q5)).y3 (dd w.q3 w.q4 w.q5).x3 (dd w.q3 w.q4 w.q5).y3 p1.sh) (by rw [laid_len]; exact t1)
   simp only [Ob13,L13,A13_R1a,A13_R1b] at r1
   rw [any_1]
   generalize laid_ (pp c.b (dd w.q3 w.q4 w.q5)).x3 (pp c.b (dd w.q3 w.q4 w.q5)).y3 (dd w.q3 w.q4 w.q5).x3 (dd w.q3 w.q4 w.q5).y3 p1.sh = W1 at *
   cases z : obA W1 <;> unfold obA at z <;> rw [z] at r1 <;> clear z
   rotate_left
   ·clear hrs hfx
    rw [pc_eq]; simp +contextual -implicitDefEqProofs (maxSteps:=2000000) only [go_sem,Qb,E_13,A13,A13_L2_eq,A13_L2b,A13_R1,A13_R1a,A13_R1b,e45,E_77,A77,A77_L4_eq,A77_L4b,A77_L3_eq,A77_L3b,A77_L2_eq,A77_L2b,k1,k2,k3,o1,o2,j1,j2,d1,d2,y1,l0,l1,l2,m0,m1,m2,n0,n0',g0,u0,v0,r0,n1,n1',g1,u1,v1,r1,Qao,Qaq,Qah]
   simp only [Qah,Qdi]
   cases z : (rst c w.wh w.wh.length).any outB
   rotate_left
   ·obtain ⟨T',a1⟩:=hrs.1 z
    simp only [O13,Oe13,F13,L13,A13_R1a,A13_R1b] at a1
    clear z hrs hfx
    rw [pc_eq]; simp +contextual -implicitDefEqProofs (maxSteps:=2000000) only [go_sem,Qb,E_13,A13,A13_L2_eq,A13_L2b,A13_R1,A13_R1a,A13_R1b,e45,E_77,A77,A77_L4_eq,A77_L4b,A77_L3_eq,A77_L3b,A77_L2_eq,A77_L2b,k1,k2,k3,o1,o2,j1,j2,d1,d2,y1,l0,l1,l2,m0,m1,m2,n0,n0',g0,u0,v0,r0,n1,n1',g1,u1,v1,r1,a1,Qao]
   have a1:=hrs.2 z
   simp only [O13,Oe13,F13,L13,A13_R1a,A13_R1b] at a1
   clear z hrs
   cases z : (fxt c c.fx.length).any outB
   rotate_left
   ·obtain ⟨T',a2⟩:=hfx.1 z
    simp only [O13,Oe13,F13,L13,A13_R1a,A13_R1b] at a2
    clear z hfx
    rw [pc_eq]; simp +contextual -implicitDefEqProofs (maxSteps:=2000000) only [go_sem,Qb,E_13,A13,A13_L2_eq,A13_L2b,A13_R1,A13_R1a,A13_R1b,e45,E_77,A77,A77_L4_eq,A77_L4b,A77_L3_eq,A77_L3b,A77_L2_eq,A77_L2b,k1,k2,k3,o1,o2,j1,j2,d1,d2,y1,l0,l1,l2,m0,m1,m2,n0,n0',g0,u0,v0,r0,n1,n1',g1,u1,v1,r1,a1,a2,Qaq]
   have a2:=hfx.2 z
   simp only [O13,Oe13,F13,L13,A13_R1a,A13_R1b] at a2
   clear z hfx
   rw [pc_eq]; simp +contextual -implicitDefEqProofs (maxSteps:=2000000) only [go_sem,Qb,E_13,A13,A13_L2_eq,A13_L2b,A13_R1,A13_R1a,A13_R1b,e45,E_77,A77,A77_L4_eq,A77_L4b,A77_L3_eq,A77_L3b,A77_L2_eq,A77_L2b,k1,k2,k3,o1,o2,j1,j2,d1,d2,y1,l0,l1,l2,m0,m1,m2,n0,n0',g0,u0,v0,r0,n1,n1',g1,u1,v1,r1,a1,a2,Qb0]
end Go.Proofs.YtbpneedpcccpaaaGreat

namespace Go.Proofs.YtbpneedpcccpaaaGreat
open Go Go.Zv
open Go.Geo (Pt mayB)
def grS (c : Cl) : Bool:=decide (20 < c.fx.length) || (decide (20 < c.pl.length) || (decide (20 < c.pt.length) || (decide (30 < c.bt.length) || decide (20 < c.zn.length))))
def grB (c : Cl) : Bool:=grS c || ((c.fx.any fun p=>decide (20 < p.length)) || ((c.zn.any fun p=>decide (20 < p.length)) || ((c.pt.any fun p=>decide (20 < p.sh.length) || decide (100 < p.nm.length)) || c.pl.any fun p=>decide (100 < p.nm.length))))
abbrev O11 (c : Cl) : Heap:=[(256,.box (cec c.cel))]
theorem lp113 (c : Cl) (hl : c.fx.length≤1000) : (K E A11_L3 ⟨[(1,.ptr 256 0),(3,.z 0)],[],O11 c,0⟩).bind (blockR 0 (some [1]) [2,3]) =
  if (c.fx.any (fun p=>decide (20 < p.length))) = true then some (.ex .ret ⟨[(2,.bool true)],[],O11 c,0⟩) else some (.ex .nrm ⟨[(1,.ptr 256 0)],[],O11 c,0⟩):=by
 refine loop_any (fun S=>(K E A11_L3 S).bind (blockR 0 (some [1]) [2,3])) (fun k=>⟨[(1,.ptr 256 0),(3,.z k)],[],O11 c,0⟩) c.fx (fun p=>decide (20 < p.length)) _ _ ?_ fun k p hk hp=>?_
 ·show (K E A11_L3 _).bind _ = _
  rw [A11_L3_eq]; simp +contextual -implicitDefEqProofs (maxSteps:=2000000) only [go_sem,A11_L3b,O11,Qp,Qb]
 ·have g:=Go.Geo.get_m Go.Geo.p1 hp
  simp only [Go.Geo.p1] at g
  have h0 : (0 : Int)≤k:=by omega
  have h1 : (k : Int) < c.fx.length:=by omega
  have hw:=Go.Geo.wr_k (k:=k) (by omega)
  show (K E A11_L3 _).bind _ = if _ then _ else (K E A11_L3 _).bind _
  conv=>lhs; rw [A11_L3_eq]
  by_cases q : 20 < p.length
  ·have q1 : (20 : Int) < p.length:=by omega
   rw [decide_eq_true q]
   simp +contextual -implicitDefEqProofs (maxSteps:=2000000) only [go_sem,A11_L3b,O11,g,h0,h1,hw,q1,Qb]
  ·have q1 : ¬ (20 : Int) < p.length:=by omega
   rw [decide_eq_false q]
   simp +contextual -implicitDefEqProofs (maxSteps:=2000000) only [go_sem,A11_L3b,O11,g,h0,h1,hw,q1,Qb]
theorem lp112 (c : Cl) (hl : c.zn.length≤1000) : (K E A11_L2 ⟨[(1,.ptr 256 0),(4,.z 0)],[],O11 c,0⟩).bind (blockR 2 (some [1]) [2,4]) =
  if (c.zn.any (fun p=>decide (20 < p.length))) = true then some (.ex .ret ⟨[(2,.bool true)],[],O11 c,0⟩) else some (.ex .nrm ⟨[(1,.ptr 256 0)],[],O11 c,0⟩):=by
 refine loop_any (fun S=>(K E A11_L2 S).bind (blockR 2 (some [1]) [2,4])) (fun k=>⟨[(1,.ptr 256 0),(4,.z k)],[],O11 c,0⟩) c.zn (fun p=>decide (20 < p.length)) _ _ ?_ fun k p hk hp=>?_
 ·show (K E A11_L2 _).bind _ = _
  rw [A11_L2_eq]; simp +contextual -implicitDefEqProofs (maxSteps:=2000000) only [go_sem,A11_L2b,O11,Qp,Qb]
 ·have g:=Go.Geo.get_m Go.Geo.p1 hp
  simp only [Go.Geo.p1] at g
  have h0 : (0 : Int)≤k:=by omega
  have h1 : (k : Int) < c.zn.length:=by omega
  have hw:=Go.Geo.wr_k (k:=k) (by omega)
  show (K E A11_L2 _).bind _ = if _ then _ else (K E A11_L2 _).bind _
  conv=>lhs; rw [A11_L2_eq]
  by_cases q : 20 < p.length
  ·have q1 : (20 : Int) < p.length:=by omega
   rw [decide_eq_true q]
   simp +contextual -implicitDefEqProofs (maxSteps:=2000000) only [go_sem,A11_L2b,O11,g,h0,h1,hw,q1,Qb]
  ·have q1 : ¬ (20 : Int) < p.length:=by omega
   rw [decide_eq_false q]
   simp +contextual -implicitDefEqProofs (maxSteps:=2000000) only [go_sem,A11_L2b,O11,g,h0,h1,hw,q1,Qb]
theorem lp111 (c : Cl) (hl : c.pt.length≤1000) : (K E A11_L1 ⟨[(1,.ptr 256 0),(5,.z 0)],[],O11 c,0⟩).bind (blockR 4 (some [1]) [2,5]) =
  if (c.pt.any (fun p=>decide (20 < p.sh.length) || decide (100 < p.nm.length))) = true then some (.ex .ret ⟨[(2,.bool true)],[],O11 c,0⟩) else some (.ex .nrm ⟨[(1,.ptr 256 0)],[],O11 c,0⟩):=by
 refine loop_any (fun S=>(K E A11_L1 S).bind (blockR 4 (some [1]) [2,5])) (fun k=>⟨[(1,.ptr 256 0),(5,.z k)],[],O11 c,0⟩) c.pt (fun p=>decide (20 < p.sh.length) || decide (100 < p.nm.length)) _ _ ?_ fun k p hk hp=>?_
 ·show (K E A11_L1 _).bind _ = _
  rw [A11_L1_eq]; simp +contextual -implicitDefEqProofs (maxSteps:=2000000) only [go_sem,A11_L1b,O11,Qp,Qb]
 ·have g:=Go.Geo.get_m Go.Geo.prv hp
  simp only [Go.Geo.prv] at g
  have h0 : (0 : Int)≤k:=by omega
  have h1 : (k : Int) < c.pt.length:=by omega
  have hw:=Go.Geo.wr_k (k:=k) (by omega)
  show (K E A11_L1 _).bind _ = if _ then _ else (K E A11_L1 _).bind _
  conv=>lhs; rw [A11_L1_eq]
  by_cases q : 20 < p.sh.length
  ·have q1 : (20 : Int) < p.sh.length:=by omega
   rw [decide_eq_true q]
   simp +contextual -implicitDefEqProofs (maxSteps:=2000000) only [go_sem,A11_L1b,O11,g,h0,h1,hw,q1,Qb,Qao]
  ·have q1 : ¬ (20 : Int) < p.sh.length:=by omega
   rw [decide_eq_false q]
   by_cases r : 100 < p.nm.length
   ·have r1 : (100 : Int) < p.nm.length:=by omega
    rw [decide_eq_true r]
    simp +contextual -implicitDefEqProofs (maxSteps:=2000000) only [go_sem,A11_L1b,O11,g,h0,h1,hw,q1,r1,Qb,Qaq]
   ·have r1 : ¬ (100 : Int) < p.nm.length:=by omega
    rw [decide_eq_false r]
    simp +contextual -implicitDefEqProofs (maxSteps:=2000000) only [go_sem,A11_L1b,O11,g,h0,h1,hw,q1,r1,Qb,Qb0]
theorem lp110 (c : Cl) (hl : c.pl.length≤1000) : (K E A11_L0 ⟨[(1,.ptr 256 0),(6,.z 0)],[],O11 c,0⟩).bind (blockR 6 (some []) [2,6]) =
  if (c.pl.any (fun p=>decide (100 < p.nm.length))) = true then some (.ex .ret ⟨[(2,.bool true)],[],O11 c,0⟩) else some (.ex .nrm ⟨[],[],O11 c,0⟩):=by
 refine loop_any (fun S=>(K E A11_L0 S).bind (blockR 6 (some []) [2,6])) (fun k=>⟨[(1,.ptr 256 0),(6,.z k)],[],O11 c,0⟩) c.pl (fun p=>decide (100 < p.nm.length)) _ _ ?_ fun k p hk hp=>?_
 ·show (K E A11_L0 _).bind _ = _
  rw [A11_L0_eq]; simp +contextual -implicitDefEqProofs (maxSteps:=2000000) only [go_sem,A11_L0b,O11,Qp,Qb]
 ·have g:=Go.Geo.get_m Go.Geo.plv hp
  simp only [Go.Geo.plv] at g
  have h0 : (0 : Int)≤k:=by omega
  have h1 : (k : Int) < c.pl.length:=by omega
  have hw:=Go.Geo.wr_k (k:=k) (by omega)
  show (K E A11_L0 _).bind _ = if _ then _ else (K E A11_L0 _).bind _
  conv=>lhs; rw [A11_L0_eq]
  by_cases q : 100 < p.nm.length
  ·have q1 : (100 : Int) < p.nm.length:=by omega
   rw [decide_eq_true q]
   simp +contextual -implicitDefEqProofs (maxSteps:=2000000) only [go_sem,A11_L0b,O11,g,h0,h1,hw,q1,Qb]
  ·have q1 : ¬ (100 : Int) < p.nm.length:=by omega
   rw [decide_eq_false q]
   simp +contextual -implicitDefEqProofs (maxSteps:=2000000) only [go_sem,A11_L0b,O11,g,h0,h1,hw,q1,Qb]
theorem c11 (c : Cl) : pc E 11 [.agg (cec c.cel)] = some (.bool (grB c)):=by
 unfold grB grS
 by_cases n1 : 20 < c.fx.length
 ·have z1 : (20 : Int) < c.fx.length:=by omega
  rw [decide_eq_true n1]
  rw [pc_eq]; simp +contextual -implicitDefEqProofs (maxSteps:=2000000) only [go_sem,E_11,A11,z1,Qb,Qao]
 have z1 : ¬ (20 : Int) < c.fx.length:=by omega
 rw [decide_eq_false n1]
 by_cases n2 : 20 < c.pl.length
 ·have z2 : (20 : Int) < c.pl.length:=by omega
  rw [decide_eq_true n2]
  rw [pc_eq]; simp +contextual -implicitDefEqProofs (maxSteps:=2000000) only [go_sem,E_11,A11,z1,z2,Qb,Qao,Qaq]
 have z2 : ¬ (20 : Int) < c.pl.length:=by omega
 rw [decide_eq_false n2]
 by_cases n3 : 20 < c.pt.length
 ·have z3 : (20 : Int) < c.pt.length:=by omega
  rw [decide_eq_true n3]
  rw [pc_eq]; simp +contextual -implicitDefEqProofs (maxSteps:=2000000) only [go_sem,E_11,A11,z1,z2,z3,Qb,Qao,Qaq]
 have z3 : ¬ (20 : Int) < c.pt.length:=by omega
 rw [decide_eq_false n3]
 by_cases n4 : 30 < c.bt.length
 ·have z4 : (30 : Int) < c.bt.length:=by omega
  rw [decide_eq_true n4]
  rw [pc_eq]; simp +contextual -implicitDefEqProofs (maxSteps:=2000000) only [go_sem,E_11,A11,z1,z2,z3,z4,Qb,Qao,Qaq]
 have z4 : ¬ (30 : Int) < c.bt.length:=by omega
 rw [decide_eq_false n4]
 by_cases n5 : 20 < c.zn.length
 ·have z5 : (20 : Int) < c.zn.length:=by omega
  rw [decide_eq_true n5]
  rw [pc_eq]; simp +contextual -implicitDefEqProofs (maxSteps:=2000000) only [go_sem,E_11,A11,z1,z2,z3,z4,z5,Qb,Qao,Qaq]
 have z5 : ¬ (20 : Int) < c.zn.length:=by omega
 rw [decide_eq_false n5]
 have l3:=lp113 c (by omega)
 have l2:=lp112 c (by omega)
 have l1:=lp111 c (by omega)
 have l0:=lp110 c (by omega)
 simp only [O11] at l3 l2 l1 l0
 cases h3 : c.fx.any (fun p=>decide (20 < p.length)) <;> rw [h3] at l3 <;> clear h3
 ·cases h2 : c.zn.any (fun p=>decide (20 < p.length)) <;> rw [h2] at l2 <;> clear h2
  ·cases h1 : c.pt.any (fun p=>decide (20 < p.sh.length) || decide (100 < p.nm.length)) <;> rw [h1] at l1 <;> clear h1
   ·cases h0 : c.pl.any (fun p=>decide (100 < p.nm.length)) <;> rw [h0] at l0 <;> clear h0
    ·rw [pc_eq]; simp +contextual -implicitDefEqProofs (maxSteps:=2000000) only [go_sem,E_11,A11,z1,z2,z3,z4,z5,l3,l2,l1,l0,Qb]
    ·rw [pc_eq]; simp +contextual -implicitDefEqProofs (maxSteps:=2000000) only [go_sem,E_11,A11,z1,z2,z3,z4,z5,l3,l2,l1,l0,Qb]
   ·rw [pc_eq]; simp +contextual -implicitDefEqProofs (maxSteps:=2000000) only [go_sem,E_11,A11,z1,z2,z3,z4,z5,l3,l2,l1,Qb]
  ·rw [pc_eq]; simp +contextual -implicitDefEqProofs (maxSteps:=2000000) only [go_sem,E_11,A11,z1,z2,z3,z4,z5,l3,l2,Qb]
 ·rw [pc_eq]; simp +contextual -implicitDefEqProofs (maxSteps:=2000000) only [go_sem,E_11,A11,z1,z2,z3,z4,z5,l3,Qb]
end Go.Proofs.YtbpneedpcccpaaaGreat

namespace Go.Proofs.YtbpneedpcccpaaaGreat
open Go Go.Zv
open Go.Geo (Pt rc RCok mayB valB Val val_iff polB plcB prtB badP shpB)
def lrs (a : Arm) (d : Pts) : List (List (Int × Int)) :=
 [rc a.bx a.by_ a.l0 a.w (67600 * d.x1) (67600 * d.y1),rc (pp a d).x1 (pp a d).y1 a.l1 a.w (1040 * d.x2) (1040 * d.y2),rc (pp a d).x2 (pp a d).y2 a.l2 a.w (16 * d.x3) (16 * d.y3)]
theorem lks_rc (a : Arm) (d : Pts) : lks a d = lrs a d:=by
 simp only [lks,lrs,lkc,rc,pp,Int.mul_assoc]
theorem le_mul {l X M : Int} (hl : 0≤l) (hx : -M≤X∧X≤M) : -(l * M)≤l * X∧l * X≤l * M:=by
 constructor
 ·have:=Qag hx.1 hl
  rw [Int.mul_neg] at this; exact this
 ·exact Qag hx.2 hl
structure R3 (a : Arm) (d : Pts) : Prop where
 r0 : RCok a.bx a.by_ a.l0 a.w (67600 * d.x1) (67600 * d.y1) 19307236000000
 r1 : RCok (pp a d).x1 (pp a d).y1 a.l1 a.w (1040 * d.x2) (1040 * d.y2) 19307236000000
 r2 : RCok (pp a d).x2 (pp a d).y2 a.l2 a.w (16 * d.x3) (16 * d.y3) 19307236000000
theorem r3 {a : Arm} (h : OKa a) {d : Pts} (v : DV d) : R3 a d:=by
 have l0:=h.l0
 have l1:=h.l1
 have l2:=h.l2
 have w:=h.w
 have bx:=h.bx
 have by_:=h.by_
 have x1:=v.v1.x
 have y1:=v.v1.y
 have x2:=v.v2.x
 have y2:=v.v2.y
 have x3:=v.v3.x
 have y3:=v.v3.y
 have n1:=v.v1.eq
 have n2:=v.v2.eq
 have n3:=v.v3.eq
 simp only [p65] at x1 y1 x2 y2 x3 y3 n1 n2 n3
 have g : ∀ l X : Int,1≤l → -4394000≤X∧X≤4394000 → -(l * 4394000)≤l * X∧l * X≤l * 4394000:=fun l X h1 h2=>le_mul (by omega) h2
 have a1:=g a.l0 (67600 * d.x1) (by omega) (by omega)
 have a2:=g a.l0 (67600 * d.y1) (by omega) (by omega)
 have a3:=g a.l1 (1040 * d.x2) (by omega) (by omega)
 have a4:=g a.l1 (1040 * d.y2) (by omega) (by omega)
 have a5:=g a.l2 (16 * d.x3) (by omega) (by omega)
 have a6:=g a.l2 (16 * d.y3) (by omega) (by omega)
 have b1:=g a.w (67600 * d.x1) (by omega) (by omega)
 have b2:=g a.w (67600 * d.y1) (by omega) (by omega)
 have b3:=g a.w (1040 * d.x2) (by omega) (by omega)
 have b4:=g a.w (1040 * d.y2) (by omega) (by omega)
 have b5:=g a.w (16 * d.x3) (by omega) (by omega)
 have b6:=g a.w (16 * d.y3) (by omega) (by omega)
 have m1 : (67600 * d.x1) * (67600 * d.x1) + (67600 * d.y1) * (67600 * d.y1) = 19307236000000:=by
  have e : (67600 * d.x1) * (67600 * d.x1) + (67600 * d.y1) * (67600 * d.y1) = 67600 * 67600 * (d.x1 * d.x1 + d.y1 * d.y1):=by grind
  rw [e,n1]; rfl
 have m2 : (1040 * d.x2) * (1040 * d.x2) + (1040 * d.y2) * (1040 * d.y2) = 19307236000000:=by
  have e : (1040 * d.x2) * (1040 * d.x2) + (1040 * d.y2) * (1040 * d.y2) = 1040 * 1040 * (d.x2 * d.x2 + d.y2 * d.y2):=by grind
  rw [e,n2]; rfl
 have m3 : (16 * d.x3) * (16 * d.x3) + (16 * d.y3) * (16 * d.y3) = 19307236000000:=by
  have e : (16 * d.x3) * (16 * d.x3) + (16 * d.y3) * (16 * d.y3) = 16 * 16 * (d.x3 * d.x3 + d.y3 * d.y3):=by grind
  rw [e,n3]; rfl
 refine ⟨⟨by omega,by omega,by omega,m1,?_⟩,⟨by omega,by omega,by omega,m2,?_⟩,⟨by omega,by omega,by omega,m3,?_⟩⟩
 all_goals
  simp only [rc,Q7,Qcr,or_false]
  rintro p (rfl | rfl | rfl | rfl) <;> simp only [pp,Int.mul_assoc] <;> omega
theorem lks_val {a : Arm} (h : OKa a) (q0 q1 q2 : Int) : ∀ l ∈ lks a (dd q0 q1 q2),Val l:=by
 intro l hl
 have R:=r3 h (ddV q0 q1 q2)
 rw [lks_rc] at hl
 simp only [lrs,Q7,Qcr,or_false] at hl
 rw [← val_iff]
 rcases hl with rfl | rfl | rfl
 ·exact Go.Geo.rc_val R.r0
 ·exact Go.Geo.rc_val R.r1
 ·exact Go.Geo.rc_val R.r2
structure VC (c : Cl) : Prop where
 ha : OKa c.a
 hb : OKa c.b
 pl : c.pl.length≤16
 pt : c.pt.length≤8
 bt : c.bt.length≤16
 fl : c.fx.length≤16
 fx : ∀ p ∈ c.fx,Val p
 ps : ∀ p ∈ c.pl,badP p = false
 sh : ∀ p ∈ c.pt,shpB p.sh = true
theorem right_VC {c : Cl} (h : rightB c = true) : VC c:=by
 unfold rightB armOK okB restB polB plcB prtB at h
 simp only [Qg,decide_eq_true_eq,Qam,Qa2,Qj] at h
 obtain ⟨⟨ha,_⟩,⟨hb,_⟩,h1,h2,h3,⟨f1,f2⟩,_,⟨p1,_⟩,⟨s1,_⟩,_⟩:=h
 refine ⟨ha,hb,by omega,by omega,by omega,f1,fun p hp=>val_iff.1 (f2 p hp),fun p hp=>by simpa using p1 p hp,fun p hp=>by simpa using s1 p hp⟩
theorem sh_Val {l : List Pt} (h : shpB l = true) : Val l∧l.length≤4 ∧ ∀ p ∈ l,(-10≤p.1∧p.1≤10)∧(-10≤p.2∧p.2≤10):=by
 unfold shpB at h
 simp only [Qg,decide_eq_true_eq,Qam,Qa2,Qq] at h
 obtain ⟨h1,h2,h3⟩:=h
 refine ⟨val_iff.1 h2,h1,fun p hp=>?_⟩
 obtain ⟨i,hi,rfl⟩:=Qc9 hp
 have:=h3 i hi
 have e : Go.Geo.ptn l i = l[i]:=by
  have:=Go.Geo.ptn_get hi
  rw [Qf hi] at this
  exact (Option.some.inj this).symm
 unfold Go.Geo.shpI at this
 rw [e] at this
 simp at this
 omega
theorem VC.fin {c : Cl} (h : VC c) : Fin_ c:=⟨h.ha,h.hb,fun p hp=>by have:=(sh_Val (h.sh p hp)).2.1; omega,by have:=h.pt; omega,by have:=h.fl; omega⟩
noncomputable def fitB (c : Cl) (x : Raw) : Bool:=!grB c && (rightB c && vsB c (wld c x))
theorem bod_mem {c : Cl} {w : Wl} {b : Bd} (h : b ∈ bodies c w) :
  (b.k = 1∧(b.i = 0∧b.ar ∈ lks c.a (dd w.q0 w.q1 w.q2) ∨ b.i = 1∧b.ar ∈ lks c.b (dd w.q3 w.q4 w.q5))∧(b.j = 0 ∨ b.j = 1 ∨ b.j = 2)) ∨
  (b.k = 2∧b.j = 0∧((b.i = 0∧0≤w.h0∧b.ar = laid_ (pp c.a (dd w.q0 w.q1 w.q2)).x3 (pp c.a (dd w.q0 w.q1 w.q2)).y3 (dd w.q0 w.q1 w.q2).x3 (dd w.q0 w.q1 w.q2).y3 (c.pt.getD w.h0.toNat default).sh) ∨ (b.i = 1∧0≤w.h1∧b.ar = laid_ (pp c.b (dd w.q3 w.q4 w.q5)).x3 (pp c.b (dd w.q3 w.q4 w.q5)).y3 (dd w.q3 w.q4 w.q5).x3 (dd w.q3 w.q4 w.q5).y3 (c.pt.getD w.h1.toNat default).sh))) ∨
  (b.k = 3∧b.j = 0 ∧ ∃ i : Nat,b.i = i∧i < w.wh.length∧0≤w.wh.getD i 0∧b.ar = laid_ (c.pl.getD (w.wh.getD i 0).toNat default).x (c.pl.getD (w.wh.getD i 0).toNat default).y (c.pl.getD (w.wh.getD i 0).toNat default).dx (c.pl.getD (w.wh.getD i 0).toNat default).dy (c.pt.getD i default).sh) ∨
  (b.k = 4∧b.j = 0 ∧ ∃ i : Nat,b.i = i∧i < c.fx.length∧b.ar = c.fx.getD i []):=by
 unfold bodies at h
 simp only [Qs] at h
 rcases h with h | h | h | h | h | h
 ·left
  obtain ⟨L0,L1,L2,e⟩:=lks3 c.a (dd w.q0 w.q1 w.q2)
  rw [e] at h ⊢
  simp only [lnk,Q7,Qcr,or_false] at h
  rcases h with rfl | rfl | rfl <;> simp
 ·left
  obtain ⟨L0,L1,L2,e⟩:=lks3 c.b (dd w.q3 w.q4 w.q5)
  rw [e] at h ⊢
  simp only [lnk,Q7,Qcr,or_false] at h
  rcases h with rfl | rfl | rfl <;> simp
 ·right; left
  unfold crd at h
  split at h
  ·cases h
  ·rw [Qae] at h
   subst h
   exact ⟨rfl,rfl,.inl ⟨rfl,by omega,rfl⟩⟩
 ·right; left
  unfold crd at h
  split at h
  ·cases h
  ·rw [Qae] at h
   subst h
   exact ⟨rfl,rfl,.inr ⟨rfl,by omega,rfl⟩⟩
 ·right; right; left
  unfold rst at h
  obtain ⟨i,hi,h⟩:=Qc6.1 h
  rw [Qq] at hi
  unfold rsI at h
  split at h
  ·cases h
  ·rw [Qae] at h
   subst h
   exact ⟨rfl,rfl,i,rfl,hi,by omega,rfl⟩
 ·right; right; right
  unfold fxt at h
  obtain ⟨i,hi,rfl⟩:=Q6.1 h
  rw [Qq] at hi
  exact ⟨rfl,rfl,i,rfl,hi,rfl⟩
theorem bod_len (c : Cl) (w : Wl) : (bodies c w).length≤8 + w.wh.length + c.fx.length:=by
 unfold bodies
 simp only [Qm]
 have h1:=rst_len c w.wh w.wh.length
 have h2 : ∀ a i q0 q1 q2 h,(crd c a i q0 q1 q2 h).length≤1:=fun a i q0 q1 q2 h=>by unfold crd; split <;> simp
 have a1:=h2 c.a 0 w.q0 w.q1 w.q2 w.h0
 have a2:=h2 c.b 1 w.q3 w.q4 w.q5 w.h1
 have h3 : (fxt c c.fx.length).length = c.fx.length:=by simp [fxt]
 simp only [lnk,Q4,Qa0]
 omega
theorem bod_ar {c : Cl} {w : Wl} (H : VC c) (P : Pld c w) : ∀ b ∈ bodies c w,b.ar.length≤12:=by
 intro b hb
 have hs : ∀ i : Nat,i < c.pt.length → (c.pt.getD i default).sh.length≤12:=fun i hi=>by
  have:=(sh_Val (H.sh _ (Qd (Go.Geo.getD_of default hi)))).2.1
  omega
 have p0:=P.h0
 have p1:=P.h1
 have pn:=P.len
 rcases bod_mem hb with ⟨_,h,_⟩ | ⟨_,_,h⟩ | ⟨_,_,i,_,hi,_,e⟩ | ⟨_,_,i,_,hi,e⟩
 ·rcases h with ⟨_,h⟩ | ⟨_,h⟩ <;> rw [lks_len _ _ _ h] <;> omega
 ·rcases h with ⟨_,h0,e⟩ | ⟨_,h0,e⟩ <;> rw [e,laid_len] <;> exact hs _ (by omega)
 ·rw [e,laid_len]; exact hs _ (by omega)
 ·rw [e]; exact (H.fx _ (Qd (Go.Geo.getD_of [] hi))).n12
theorem c15 (c : Cl) (x : Raw) (X : RawOK x) : pc E 15 [.agg (cec c.cel),.agg [.int .u8 x.q,.int .u8 x.r,.int .u8 x.s,.int .u8 x.t,.int .u8 x.u,.int .u8 x.v,.int .u8 x.h,.int .u8 x.k,.vs (x.b.map u1)]] =
  some (.tup [.agg (if (grB c || !rightB c) = true then [.z 0,.z 0,.z 0,.z 0,.z 0,.z 0,.z 0,.z 0,.vs []] else wlc (wld c x)),.bool (fitB c x)]):=by
 have k1:=c11 c
 unfold fitB
 cases h1 : grB c <;> rw [h1] at k1
 ·have hz : c.zn.length≤1000:=by
   unfold grB grS at h1
   simp only [Qba,decide_eq_false_iff_not] at h1
   omega
  have k2:=c12 c hz
  cases h2 : rightB c <;> rw [h2] at k2
  ·rw [if_pos (by simp)]
   rw [pc_eq]; simp +contextual -implicitDefEqProofs (maxSteps:=2000000) only [go_sem,E_15,A15,k1,k2]
  ·have V:=right_VC h2
   have v1:=V.pl
   have v2:=V.pt
   have v3:=V.fl
   have k3:=c49 c x V.ha V.hb X (by omega) (by omega)
   have wl : (wld c x).wh.length = c.pt.length:=by
    unfold wld wh1 wh0; simp only
    split <;> split <;> simp [whs_len]
   have nb:=bod_len c (wld c x)
   have k4 : pc E 14 [.agg (cec c.cel),.agg (wlc (wld c x))] = some (.bool (vsB c (wld c x))):=by
    cases hp : plB c (wld c x) with
    | true =>
      refine c14 c (wld c x) V.fin (by omega) (by omega) (by omega) fun v hv=>?_
      have:=bod_ar V (plB_Pld hp) v hv
      omega
    | false =>
      have e1:=c36 c.a (wld c x).q0 (wld c x).q1 (wld c x).q2
      have e2:=c36 c.b (wld c x).q3 (wld c x).q4 (wld c x).q5
      have e3:=c47 c (wld c x) (by omega)
      rw [hp] at e3
      unfold vsB
      rw [hp]
      generalize wld c x = w at *
      cases g1 : limB c.a w.q0 w.q1 w.q2 <;> rw [g1] at e1
      ·rw [pc_eq]; simp +contextual -implicitDefEqProofs (maxSteps:=2000000) only [go_sem,E_14,A14,e1]
      ·cases g2 : limB c.b w.q3 w.q4 w.q5 <;> rw [g2] at e2
       ·rw [pc_eq]; simp +contextual -implicitDefEqProofs (maxSteps:=2000000) only [go_sem,E_14,A14,e1,e2]
       ·rw [pc_eq]; simp +contextual -implicitDefEqProofs (maxSteps:=2000000) only [go_sem,E_14,A14,e1,e2,e3]
   rw [if_neg (by simp)]
   generalize wld c x = w at *
   generalize vsB c w = b at *
   rw [pc_eq]; simp +contextual -implicitDefEqProofs (maxSteps:=2000000) only [go_sem,E_15,A15,k1,k2,k3,k4]
 ·rw [if_pos (by simp)]
  rw [pc_eq]; simp +contextual -implicitDefEqProofs (maxSteps:=2000000) only [go_sem,E_15,A15,k1]
end Go.Proofs.YtbpneedpcccpaaaGreat

namespace Go.Proofs.YtbpneedpcccpaaaGreat
open Go Go.Zv
open Go.Geo (Pt mayB Val val_iff badP dirB simP)
structure FT (c : Cl) (w : Wl) : Prop where
 v : VC c
 p : Pld c w
 r : (bodies c w).any outB = false
theorem fit_FT {c : Cl} {x : Raw} (h : fitB c x = true) : FT c (wld c x):=by
 unfold fitB vsB rngB at h
 simp only [Qg,Qam] at h
 exact ⟨right_VC h.2.1,plB_Pld h.2.2.2.2.1,h.2.2.2.2.2⟩
theorem ldP_sim {ax ay X Y : Int} {p : Pt} (ha : -1000000000≤ax∧ax≤1000000000) (hb : -1000000000≤ay∧ay≤1000000000) (hX : -274625≤X∧X≤274625) (hY : -274625≤Y∧Y≤274625) (h1 : -10≤p.1∧p.1≤10) (h2 : -10≤p.2∧p.2≤10) : ldP ax ay X Y p = simP ax ay X Y p:=by
 have m1:=mul_bd h1.1 h1.2 hX.1 hX.2
 have m2:=mul_bd h1.1 h1.2 hY.1 hY.2
 have m3:=mul_bd h2.1 h2.2 hX.1 hX.2
 have m4:=mul_bd h2.1 h2.2 hY.1 hY.2
 unfold ldP simP w64
 rw [wrap_small (n:=p.1 * X) (by omega) (by omega),wrap_small (n:=p.2 * Y) (by omega) (by omega),wrap_small (n:=p.1 * Y) (by omega) (by omega),wrap_small (n:=p.2 * X) (by omega) (by omega)]
 rw [wrap_small (n:=p.1 * X - p.2 * Y) (by omega) (by omega),wrap_small (n:=p.1 * Y + p.2 * X) (by omega) (by omega)]
 rw [wrap_small (n:=16 * (p.1 * X - p.2 * Y)) (by omega) (by omega),wrap_small (n:=16 * (p.1 * Y + p.2 * X)) (by omega) (by omega)]
 rw [wrap_small (by omega) (by omega),wrap_small (by omega) (by omega)]
theorem laid_sim {ax ay X Y : Int} {l : List Pt} (ha : -1000000000≤ax∧ax≤1000000000) (hb : -1000000000≤ay∧ay≤1000000000) (hX : -274625≤X∧X≤274625) (hY : -274625≤Y∧Y≤274625) (hl : Go.Geo.shpB l = true) : laid_ ax ay X Y l = l.map (simP ax ay X Y):=by
 unfold laid_
 exact Qal fun p hp=>ldP_sim ha hb hX hY ((sh_Val hl).2.2 p hp).1 ((sh_Val hl).2.2 p hp).2
theorem laid_Val {ax ay X Y : Int} {l : List Pt} (ha : -1000000000≤ax∧ax≤1000000000) (hb : -1000000000≤ay∧ay≤1000000000) (hn : X * X + Y * Y = 274625 * 274625) (hX : -274625≤X∧X≤274625) (hY : -274625≤Y∧Y≤274625) (hl : Go.Geo.shpB l = true) (hm : (laid_ ax ay X Y l).any (fun p=>!mayB p) = false) : Val (laid_ ax ay X Y l):=by
 have e:=laid_sim ha hb hX hY hl
 rw [e] at hm ⊢
 have hs:=sh_Val hl
 refine Go.Geo.val_simP hs.1 hs.2.2 hn ?_
 rw [Qa2] at hm
 rw [Qj]
 intro p hp
 simpa using hm p hp
theorem place_ok {p : Go.Geo.Plc} (h : badP p = false) : (-1000000000≤p.x∧p.x≤1000000000)∧(-1000000000≤p.y∧p.y≤1000000000)∧(p.dx * p.dx + p.dy * p.dy = 274625 * 274625)∧(-274625≤p.dx∧p.dx≤274625)∧(-274625≤p.dy∧p.dy≤274625):=by
 unfold badP dirB mxI mnI at h
 simp only [Qba,Bool.not_eq_false',decide_eq_true_eq,decide_eq_false_iff_not,Qg] at h
 obtain ⟨_,_,h1,h2,_,h3,h4,h5,h6,h7⟩:=h
 refine ⟨?_,?_,by rw [h7]; rfl,⟨h3,h4⟩,h5,h6⟩ <;> (split at h1 <;> split at h2 <;> omega)
theorem arm_ok {a : Arm} (h : OKa a) (q0 q1 q2 : Int) : (-1000000000≤(pp a (dd q0 q1 q2)).x3∧(pp a (dd q0 q1 q2)).x3≤1000000000)∧(-1000000000≤(pp a (dd q0 q1 q2)).y3∧(pp a (dd q0 q1 q2)).y3≤1000000000)∧((dd q0 q1 q2).x3 * (dd q0 q1 q2).x3 + (dd q0 q1 q2).y3 * (dd q0 q1 q2).y3 = 274625 * 274625)∧(-274625≤(dd q0 q1 q2).x3∧(dd q0 q1 q2).x3≤274625)∧(-274625≤(dd q0 q1 q2).y3∧(dd q0 q1 q2).y3≤274625):=by
 have v:=ddV q0 q1 q2
 have b:=bds h v
 have n3:=v.v3.eq
 have x3:=v.v3.x
 have y3:=v.v3.y
 simp only [p65] at n3 x3 y3
 obtain ⟨o0x,o0y,o1x,o1y,o2x,o2y,bx,by_⟩:=b
 refine ⟨?_,?_,by omega,by omega,by omega⟩
 ·unfold pp; simp only; omega
 ·unfold pp; simp only; omega
theorem FT.val {c : Cl} {w : Wl} (H : FT c w) : AllV (bodies c w):=by
 intro b hb
 have hr : b.ar.any (fun p=>!mayB p) = false:=by
  have:=Qa2.1 H.r b hb
  simpa [outB] using this
 have p0:=H.p.h0
 have p1:=H.p.h1
 have pn:=H.p.len
 have hs : ∀ i : Nat,i < c.pt.length → Go.Geo.shpB (c.pt.getD i default).sh = true:=fun i hi=>H.v.sh _ (Qd (Go.Geo.getD_of default hi))
 rcases bod_mem hb with ⟨_,h,_⟩ | ⟨_,_,h⟩ | ⟨_,_,i,_,hi,h0,e⟩ | ⟨_,_,i,_,hi,e⟩
 ·rcases h with ⟨_,h⟩ | ⟨_,h⟩
  ·exact lks_val H.v.ha _ _ _ _ h
  ·exact lks_val H.v.hb _ _ _ _ h
 ·rcases h with ⟨_,h0,e⟩ | ⟨_,h0,e⟩
  ·obtain ⟨a1,a2,a3,a4,a5⟩:=arm_ok H.v.ha w.q0 w.q1 w.q2
   rw [e] at hr ⊢
   exact laid_Val a1 a2 a3 a4 a5 (hs _ (by omega)) hr
  ·obtain ⟨a1,a2,a3,a4,a5⟩:=arm_ok H.v.hb w.q3 w.q4 w.q5
   rw [e] at hr ⊢
   exact laid_Val a1 a2 a3 a4 a5 (hs _ (by omega)) hr
 ·have hm:=(H.p.at_ _ (Qd (Go.Geo.getD_of 0 hi))).2
  obtain ⟨a1,a2,a3,a4,a5⟩:=place_ok (H.v.ps _ (Qd (Go.Geo.getD_of default (i:=(w.wh.getD i 0).toNat) (by omega))))
  rw [e] at hr ⊢
  exact laid_Val a1 a2 a3 a4 a5 (hs _ (by omega)) hr
 ·rw [e]; exact H.v.fx _ (Qd (Go.Geo.getD_of [] hi))
theorem bod_sorted (c : Cl) (w : Wl) : (bodies c w).Pairwise fun a b=>a.k≤b.k:=by
 have hl : ∀ i L,(lnk i L).Pairwise (fun a b : Bd=>a.k≤b.k):=fun i L=>by simp [lnk]
 have hk : ∀ i L,∀ b ∈ lnk i L,b.k = 1:=fun i L b hb=>by
  simp only [lnk,Q7,Qcr,or_false] at hb
  rcases hb with rfl | rfl | rfl <;> rfl
 have hc : ∀ a i q0 q1 q2 h,(crd c a i q0 q1 q2 h).Pairwise (fun a b : Bd=>a.k≤b.k):=fun a i q0 q1 q2 h=>by unfold crd; split <;> simp
 have hck : ∀ a i q0 q1 q2 h,∀ b ∈ crd c a i q0 q1 q2 h,b.k = 2:=fun a i q0 q1 q2 h b hb=>by
  unfold crd at hb; split at hb
  ·cases hb
  ·rw [Qae] at hb; subst hb; rfl
 have hrk : ∀ b ∈ rst c w.wh w.wh.length,b.k = 3:=fun b hb=>by
  unfold rst at hb
  obtain ⟨i,hi,hb⟩:=Qc6.1 hb
  unfold rsI at hb; split at hb
  ·cases hb
  ·rw [Qae] at hb; subst hb; rfl
 have hfk : ∀ b ∈ fxt c c.fx.length,b.k = 4:=fun b hb=>by
  unfold fxt at hb
  obtain ⟨i,hi,rfl⟩:=Q6.1 hb; rfl
 have pw : ∀ (l : List Bd) (k : Int),(∀ b ∈ l,b.k = k) → l.Pairwise fun a b=>a.k≤b.k:=fun l k h=>by
  rw [List.pairwise_iff_forall_sublist]
  intro a b hab
  have:=hab.subset
  rw [h a (this (by simp)),h b (this (by simp))]
  exact Qdm _
 unfold bodies
 simp only [Qci,Qs]
 refine ⟨hl _ _,⟨hl _ _,⟨hc _ _ _ _ _ _,⟨hc _ _ _ _ _ _,⟨pw _ 3 hrk,pw _ 4 hfk,?_⟩,?_⟩,?_⟩,?_⟩,?_⟩
 ·intro a ha b hb; rw [hrk a ha,hfk b hb]; decide
 ·intro a ha b hb; rw [hck _ _ _ _ _ _ a ha]
  rcases hb with hb | hb
  ·rw [hrk b hb]; decide
  ·rw [hfk b hb]; decide
 ·intro a ha b hb; rw [hck _ _ _ _ _ _ a ha]
  rcases hb with hb | hb | hb
  ·rw [hck _ _ _ _ _ _ b hb]; decide
  ·rw [hrk b hb]; decide
  ·rw [hfk b hb]; decide
 ·intro a ha b hb; rw [hk _ _ a ha]
  rcases hb with hb | hb | hb | hb
  ·rw [hck _ _ _ _ _ _ b hb]; decide
  ·rw [hck _ _ _ _ _ _ b hb]; decide
  ·rw [hrk b hb]; decide
  ·rw [hfk b hb]; decide
 ·intro a ha b hb; rw [hk _ _ a ha]
  rcases hb with hb | hb | hb | hb | hb
  ·rw [hk _ _ b hb]; decide
  ·rw [hck _ _ _ _ _ _ b hb]; decide
  ·rw [hck _ _ _ _ _ _ b hb]; decide
  ·rw [hrk b hb]; decide
  ·rw [hfk b hb]; decide
theorem FT.kinds {c : Cl} {w : Wl} (H : FT c w) : Kinds (bodies c w):=by
 refine ⟨fun b hb=>?_,fun i j hij a b ha hb=>?_,fun b hb=>?_⟩
 ·rcases bod_mem hb with h | h | h | h <;> simp [h.1]
 ·have:=List.pairwise_iff_getElem.1 (bod_sorted c w) i j (Qe.1 ha).1 (Qe.1 hb).1 hij
  rw [(Qe.1 ha).2,(Qe.1 hb).2] at this
  exact this
 ·have:=bod_ar H.v H.p b hb; omega
theorem FT.len {c : Cl} {w : Wl} (H : FT c w) : (bodies c w).length≤900:=by
 have h1:=bod_len c w
 have h2:=H.p.len
 have h3:=H.v.pt
 have h4:=H.v.fl
 omega
end Go.Proofs.YtbpneedpcccpaaaGreat

namespace Go.Proofs.YtbpneedpcccpaaaGreat
open Go Go.Zv
open Go.Geo (Pt mayB Val)
abbrev rawc (x : Raw) : List LV:=[.int .u8 x.q,.int .u8 x.r,.int .u8 x.s,.int .u8 x.t,.int .u8 x.u,.int .u8 x.v,.int .u8 x.h,.int .u8 x.k,.vs (x.b.map u1)]
theorem grS_z {c : Cl} (h : grB c = false) : c.zn.length≤1000:=by
 unfold grB grS at h
 simp only [Qba,decide_eq_false_iff_not] at h
 omega
theorem c14v (c : Cl) (w : Wl) (V : VC c) (hw : w.wh.length≤1000) : pc E 14 [.agg (cec c.cel),.agg (wlc w)] = some (.bool (vsB c w)):=by
 have v1:=V.pl
 have v3:=V.fl
 have nb:=bod_len c w
 cases hp : plB c w with
 | true =>
   have pn:=(plB_Pld hp).len
   have v2:=V.pt
   refine c14 c w V.fin (by omega) (by omega) (by omega) fun v hv=>?_
   have:=bod_ar V (plB_Pld hp) v hv
   omega
 | false =>
   have e1:=c36 c.a w.q0 w.q1 w.q2
   have e2:=c36 c.b w.q3 w.q4 w.q5
   have e3:=c47 c w (by omega)
   rw [hp] at e3
   unfold vsB
   rw [hp]
   cases g1 : limB c.a w.q0 w.q1 w.q2 <;> rw [g1] at e1
   ·rw [pc_eq]; simp +contextual -implicitDefEqProofs (maxSteps:=2000000) only [go_sem,E_14,A14,e1]
   ·cases g2 : limB c.b w.q3 w.q4 w.q5 <;> rw [g2] at e2
    ·rw [pc_eq]; simp +contextual -implicitDefEqProofs (maxSteps:=2000000) only [go_sem,E_14,A14,e1,e2]
    ·rw [pc_eq]; simp +contextual -implicitDefEqProofs (maxSteps:=2000000) only [go_sem,E_14,A14,e1,e2,e3]
theorem c13v (c : Cl) (w : Wl) (V : VC c) : pc E 13 [.agg (cec c.cel),.agg (wlc w)] = some (.bool (vsB c w)):=by
 have v1:=V.pl
 exact c13 c w V.fin (by omega) fun p hp=>by have:=(V.fx p hp).n12; omega
end Go.Proofs.YtbpneedpcccpaaaGreat

namespace Go.Proofs.YtbpneedpcccpaaaGreat
open Go Go.Zv
open Go.Geo (Pt mayB Val FC)
def pf (f : Bd → Bd → Bool) : List Bd → List (Bd × Bd)
 | []=>[]
 | a::l=>pfJ f a l++pf f l
theorem pf_cons (f : Bd → Bd → Bool) (a : Bd) (l : List Bd) : pf f (a::l) = pfJ f a l++pf f l:=rfl
theorem pfN_cons (f : Bd → Bd → Bool) (a : Bd) (l : List Bd) (n : Nat) : pfN f (a::l) (n + 1) = pfJ f a l++pfN f l n:=by
 unfold pfN
 rw [List.range_succ_eq_map,List.flatMap_cons]
 congr 1
 rw [List.flatMap_map]
 simp only [List.flatMap]
 congr 1
theorem pfs_pf (f : Bd → Bd → Bool) (l : List Bd) : pfs f l = pf f l:=by
 induction l with
 | nil=>rfl
 | cons a l ih =>
   show pfN f (a::l) (l.length + 1) = _
   rw [pfN_cons,pf_cons,← ih]; rfl
def both (n : Bd → Bool) (p : Bd × Bd) : Bool:=n p.1 && n p.2
def nk (k : Int) (b : Bd) : Bool:=!(decide (b.k≤2) && decide (b.i = k))
end Go.Proofs.YtbpneedpcccpaaaGreat

namespace Go.Proofs.YtbpneedpcccpaaaGreat
open Go Go.Zv
open Go.Geo (Pt mayB Val valB val_iff)
def ck (k : Int) (l : List Bd) : Nat:=l.countP fun b=>decide (b.k = k)
def heldN (w : Wl) : Nat:=(if w.h0 < 0 then 0 else 1) + if w.h1 < 0 then 0 else 1
def restN (wh : List Int) (n : Nat) : Nat:=(List.range n).countP fun i=>decide (0≤wh.getD i 0)
end Go.Proofs.YtbpneedpcccpaaaGreat

namespace Go.Proofs.YtbpneedpcccpaaaGreat
open Go Go.Zv
open Go.Geo (Pt mayB Val valB val_iff FC FC_comm)
/-! exchanged arms: the plain part -/
def sbar (a b : Bd) : Bool:=if a.k < b.k then bar a b else if b.k < a.k then bar b a else (bar a b || bar b a)
def stch (a b : Bd) : Bool:=sbar a b && ((FC a.ar b.ar).isSome && (FC b.ar a.ar).isSome)
theorem pf_map {f g : Bd → Bd → Bool} {t : Bd → Bd} {l : List Bd} (h : ∀ a ∈ l,∀ b ∈ l,f (t a) (t b) = g a b) : pf f (l.map t) = (pf g l).map fun p=>(t p.1,t p.2):=by
 induction l with
 | nil=>rfl
 | cons a l ih =>
   rw [Qk,pf_cons,pf_cons,Ql,ih fun x hx y hy=>h x (Qbo _ hx) y (Qbo _ hy)]
   congr 1
   unfold pfJ
   rw [List.filter_map,Qap,Qap]
   have e : List.filter (f (t a) ∘ t) l = List.filter (g a) l:=Qc1 fun b hb=>h a (by simp) b (Qbo _ hb)
   rw [e]
   rfl
def xB (b : Bd) : Bd:=if b.k≤2 then { b with i:=1 - b.i } else b
def xC (c : Cl) : Cl:={ c with a:=c.b,b:=c.a,h0:=c.h3,h1:=c.h4,h2:=c.h5,h3:=c.h0,h4:=c.h1,h5:=c.h2 }
def xW (w : Wl) : Wl:={ w with q0:=w.q3,q1:=w.q4,q2:=w.q5,q3:=w.q0,q4:=w.q1,q5:=w.q2,h0:=w.h1,h1:=w.h0 }
def Bef (a b : Bd) : Prop:=a.k < b.k ∨ (a.k = b.k∧(a.k = 1 → a.i < b.i ∨ (a.i = b.i∧a.j < b.j)))
end Go.Proofs.YtbpneedpcccpaaaGreat

namespace Go.Proofs.YtbpneedpcccpaaaGreat
open Go Go.Zv
open Go.Geo (Pt mayB Val valB val_iff FC simP Plc Moved Mot qp)
/-! a cell that is moved: the plain part -/
abbrev trQ (m p : Pt) : Pt:=Go.Proofs.YtbpneedpcccpaaaGreat.G.trP m p
def addP (m p : Pt) : Pt:=(p.1 + m.1,p.2 + m.2)
def mvA (a : Arm) (m : Pt) : Arm:={ a with bx:=w64 (a.bx + m.1),by_:=w64 (a.by_ + m.2) }
def mvL (m : Pt) (p : Plc) : Plc:={ p with x:=w64 (p.x + m.1),y:=w64 (p.y + m.2) }
def mvC (c : Cl) (m : Pt) : Cl:={ c with a:=mvA c.a m,b:=mvA c.b m,pl:=c.pl.map (mvL m),fx:=c.fx.map (List.map (trQ m)) }
def mvB (m : Pt) (b : Bd) : Bd:={ b with ar:=b.ar.map (trQ m) }
structure Sm (m : Pt) : Prop where
 x : -100000000≤m.1∧m.1≤100000000
 y : -100000000≤m.2∧m.2≤100000000
theorem trQ_may {m p : Pt} (h : Sm m) (hp : mayB p = true) : trQ m p = addP m p:=by
 have h1:=h.x
 have h2:=h.y
 have:=Go.Geo.mayB_iff.1 hp
 show (w64 (p.1 + m.1),w64 (p.2 + m.2)) = (p.1 + m.1,p.2 + m.2)
 unfold w64
 rw [wrap_small (by omega) (by omega),wrap_small (by omega) (by omega)]
theorem map_may {m : Pt} (h : Sm m) {l : List Pt} (hl : l.all mayB = true) : l.map (trQ m) = l.map (addP m) :=
 Qal fun p hp=>trQ_may h (Qj.1 hl p hp)
theorem mvA_base {a : Arm} (h : OKa a) {m : Pt} (hm : Sm m) : (mvA a m).bx = a.bx + m.1∧(mvA a m).by_ = a.by_ + m.2:=by
 have h1:=hm.x
 have h2:=hm.y
 have h3:=h.bx
 have h4:=h.by_
 have h5:=h.l0
 have h6:=h.l1
 have h7:=h.l2
 have h8:=h.w
 unfold mvA w64
 exact ⟨wrap_small (by omega) (by omega),wrap_small (by omega) (by omega)⟩
theorem pp_mv {a : Arm} (h : OKa a) {m : Pt} (hm : Sm m) (d : Pts) : pp (mvA a m) d = ⟨(pp a d).x1 + m.1,(pp a d).y1 + m.2,(pp a d).x2 + m.1,(pp a d).y2 + m.2,(pp a d).x3 + m.1,(pp a d).y3 + m.2⟩:=by
 obtain ⟨e1,e2⟩:=mvA_base h hm
 unfold pp
 rw [e1,e2]
 show Pts.mk _ _ _ _ _ _ = _
 simp only [Pts.mk.injEq]
 refine ⟨?_,?_,?_,?_,?_,?_⟩ <;> (simp only [mvA]; omega)
theorem lkc_mv (m : Pt) (fx fy tx ty ox oy : Int) : lkc (fx + m.1) (fy + m.2) (tx + m.1) (ty + m.2) ox oy = (lkc fx fy tx ty ox oy).map (addP m):=by
 simp only [lkc,Qk,Q0,addP,List.cons.injEq,Prod.mk.injEq,and_true]
 omega
theorem lks_mv {a : Arm} (h : OKa a) {m : Pt} (hm : Sm m) (d : Pts) : lks (mvA a m) d = (lks a d).map (List.map (addP m)):=by
 obtain ⟨e1,e2⟩:=mvA_base h hm
 unfold lks
 rw [pp_mv h hm,e1,e2]
 simp only [lkc_mv,Qk,Q0]
 rfl
theorem lks_may {c : Cl} {w : Wl} (H : FT c w) : (∀ l ∈ lks c.a (dd w.q0 w.q1 w.q2),l.all mayB = true) ∧ ∀ l ∈ lks c.b (dd w.q3 w.q4 w.q5),l.all mayB = true :=
 ⟨fun l hl=>(lks_val H.v.ha _ _ _ l hl).may,fun l hl=>(lks_val H.v.hb _ _ _ l hl).may⟩
theorem lnk_mv (m : Pt) (i : Int) {L M : List (List Pt)} (e : M = L.map (List.map (trQ m))) (hl : L.length = 3) : lnk i M = (lnk i L).map (mvB m):=by
 subst e
 match L,hl with
 | [a,b,c],_=>rfl
theorem laid_mv {ax ay X Y : Int} {l : List Pt} {m : Pt} (hm : Sm m) (ha : -800000000≤ax∧ax≤800000000) (hb : -800000000≤ay∧ay≤800000000) (hX : -274625≤X∧X≤274625) (hY : -274625≤Y∧Y≤274625) (hl : Go.Geo.shpB l = true)
  (hv : (laid_ ax ay X Y l).any (fun p=>!mayB p) = false) : laid_ (ax + m.1) (ay + m.2) X Y l = (laid_ ax ay X Y l).map (trQ m):=by
 have h1:=hm.x
 have h2:=hm.y
 rw [map_may hm (by
  rw [Qj]
  intro p hp
  have:=Qa2.1 hv p hp
  simpa using this)]
 rw [laid_sim (by omega) (by omega) hX hY hl,laid_sim (by omega) (by omega) hX hY hl,Qap]
 refine Qal fun p _=>?_
 simp only [simP,addP,Function.comp_apply,Prod.mk.injEq]
 omega
theorem arm_ok8 {a : Arm} (h : OKa a) (q0 q1 q2 : Int) : (-800000000≤(pp a (dd q0 q1 q2)).x3∧(pp a (dd q0 q1 q2)).x3≤800000000)∧(-800000000≤(pp a (dd q0 q1 q2)).y3∧(pp a (dd q0 q1 q2)).y3≤800000000):=by
 have v:=ddV q0 q1 q2
 have h5:=h.l0
 have h6:=h.l1
 have h7:=h.l2
 have h8:=h.w
 have hx:=h.bx
 have hy:=h.by_
 have x1:=v.v1.x
 have y1:=v.v1.y
 have x2:=v.v2.x
 have y2:=v.v2.y
 have x3:=v.v3.x
 have y3:=v.v3.y
 simp only [p65] at x1 y1 x2 y2 x3 y3
 have g : ∀ l X : Int,1≤l → -4394000≤X∧X≤4394000 → -(l * 4394000)≤l * X∧l * X≤l * 4394000:=fun l X h1 h2=>le_mul (by omega) h2
 have a1:=g a.l0 (67600 * (dd q0 q1 q2).x1) (by omega) (by omega)
 have a2:=g a.l0 (67600 * (dd q0 q1 q2).y1) (by omega) (by omega)
 have a3:=g a.l1 (1040 * (dd q0 q1 q2).x2) (by omega) (by omega)
 have a4:=g a.l1 (1040 * (dd q0 q1 q2).y2) (by omega) (by omega)
 have a5:=g a.l2 (16 * (dd q0 q1 q2).x3) (by omega) (by omega)
 have a6:=g a.l2 (16 * (dd q0 q1 q2).y3) (by omega) (by omega)
 unfold pp
 simp only [Int.mul_assoc]
 constructor <;> constructor <;> omega
theorem plc_ok8 {p : Plc} (h : Go.Geo.badP p = false) : (-800000000≤p.x∧p.x≤800000000)∧(-800000000≤p.y∧p.y≤800000000):=by
 unfold Go.Geo.badP mxI mnI at h
 simp only [Qba,Bool.not_eq_false',decide_eq_true_eq,decide_eq_false_iff_not,Qg] at h
 obtain ⟨_,_,h1,h2,_⟩:=h
 constructor <;> (split at h1 <;> split at h2 <;> omega)
theorem mvL_xy {p : Plc} (h : Go.Geo.badP p = false) {m : Pt} (hm : Sm m) : (mvL m p).x = p.x + m.1∧(mvL m p).y = p.y + m.2:=by
 have h1:=hm.x
 have h2:=hm.y
 have h3:=plc_ok8 h
 unfold mvL w64
 exact ⟨wrap_small (by omega) (by omega),wrap_small (by omega) (by omega)⟩
theorem bod_mv {c : Cl} {w : Wl} (H : FT c w) {m : Pt} (hm : Sm m) : bodies (mvC c m) w = (bodies c w).map (mvB m):=by
 have hr : ∀ b ∈ bodies c w,b.ar.any (fun p=>!mayB p) = false:=fun b hb=>by
  have:=Qa2.1 H.r b hb
  simpa [outB] using this
 have p0:=H.p.h0
 have p1:=H.p.h1
 have pn:=H.p.len
 have hs : ∀ i : Nat,i < c.pt.length → Go.Geo.shpB (c.pt.getD i default).sh = true:=fun i hi=>H.v.sh _ (Qd (Go.Geo.getD_of default hi))
 have mm:=lks_may H
 unfold bodies at hr ⊢
 simp only [Qs] at hr
 simp only [Ql]
 congr 1
 ·refine lnk_mv m 0 ?_ rfl
  show lks (mvA c.a m) _ = _
  rw [lks_mv H.v.ha hm]
  exact Qal fun l hl=>(map_may hm (mm.1 l hl)).symm
 congr 1
 ·refine lnk_mv m 1 ?_ rfl
  show lks (mvA c.b m) _ = _
  rw [lks_mv H.v.hb hm]
  exact Qal fun l hl=>(map_may hm (mm.2 l hl)).symm
 congr 1
 ·have hr':=fun b hb=>hr b (.inr (.inr (.inl hb)))
  have am:=arm_ok8 H.v.ha w.q0 w.q1 w.q2
  obtain ⟨_,_,_,a4,a5⟩:=arm_ok H.v.ha w.q0 w.q1 w.q2
  show crd (mvC c m) (mvA c.a m) 0 w.q0 w.q1 w.q2 w.h0 = _
  unfold crd at hr' ⊢
  rw [pp_mv H.v.ha hm]
  split
  ·rfl
  ·rename_i hn
   rw [if_neg hn] at hr'
   have:=hr' _ (Qae.2 rfl)
   simp only [Qk,Q0,mvB,List.cons.injEq,Bd.mk.injEq,true_and,and_true]
   exact laid_mv hm am.1 am.2 a4 a5 (hs _ (by omega)) this
 congr 1
 ·have hr':=fun b hb=>hr b (.inr (.inr (.inr (.inl hb))))
  have am:=arm_ok8 H.v.hb w.q3 w.q4 w.q5
  obtain ⟨_,_,_,a4,a5⟩:=arm_ok H.v.hb w.q3 w.q4 w.q5
  show crd (mvC c m) (mvA c.b m) 1 w.q3 w.q4 w.q5 w.h1 = _
  unfold crd at hr' ⊢
  rw [pp_mv H.v.hb hm]
  split
  ·rfl
  ·rename_i hn
   rw [if_neg hn] at hr'
   have:=hr' _ (Qae.2 rfl)
   simp only [Qk,Q0,mvB,List.cons.injEq,Bd.mk.injEq,true_and,and_true]
   exact laid_mv hm am.1 am.2 a4 a5 (hs _ (by omega)) this
 congr 1
 ·have hr':=fun b hb=>hr b (.inr (.inr (.inr (.inr (.inl hb)))))
  unfold rst at hr' ⊢
  rw [List.map_flatMap]
  have fm : ∀ (l : List Nat) (f g : Nat → List Bd),(∀ i ∈ l,f i = g i) → l.flatMap f = l.flatMap g:=by
   intro l f g h
   induction l with
   | nil=>rfl
   | cons a l ih=>rw [List.flatMap_cons,List.flatMap_cons,h a (by simp),ih fun i hi=>h i (by simp [hi])]
  refine fm _ _ _ fun i hi=>?_
  have hi':=Qq.1 hi
  have hr2 : ∀ b ∈ rsI c w.wh i,b.ar.any (fun p=>!mayB p) = false:=fun b hb=>hr' b (Qc6.2 ⟨i,hi,hb⟩)
  unfold rsI at hr2 ⊢
  split
  ·rfl
  ·rename_i hn
   rw [if_neg hn] at hr2
   have h5:=hr2 _ (Qae.2 rfl)
   have hat:=(H.p.at_ _ (Qd (Go.Geo.getD_of 0 hi'))).2
   have hk : (w.wh.getD i 0).toNat < c.pl.length:=by omega
   have hg : c.pl[(w.wh.getD i 0).toNat]? = some (c.pl.getD (w.wh.getD i 0).toNat default):=Go.Geo.getD_of default hk
   have hb:=H.v.ps _ (Qd hg)
   obtain ⟨b1,b2,b3,b4,b5⟩:=place_ok hb
   have b6:=plc_ok8 hb
   have e : (mvC c m).pl.getD (w.wh.getD i 0).toNat default = mvL m (c.pl.getD (w.wh.getD i 0).toNat default):=by
    show (c.pl.map (mvL m)).getD _ _ = _
    rw [Qcb,Qan,hg]; rfl
   have e2:=mvL_xy hb hm
   rw [e]
   simp only [Qk,Q0,mvB,List.cons.injEq,Bd.mk.injEq,true_and,and_true]
   rw [e2.1,e2.2]
   exact laid_mv hm b6.1 b6.2 b4 b5 (hs _ (by omega)) h5
 ·unfold fxt
  rw [Qap]
  show (List.range (c.fx.map (List.map (trQ m))).length).map _ = _
  rw [Qb]
  refine Qal fun i hi=>?_
  have hi':=Qq.1 hi
  simp only [fxI,mvC,mvB,Function.comp_apply,Bd.mk.injEq,true_and]
  rw [Qcb,Qcb,Qan]
  cases c.fx[i]? <;> rfl
def shM (m : Pt) : Mot:=⟨1,0,m.1,m.2,by grind⟩
theorem addP_mot (m p : Pt) : qp (addP m p) = (shM m).app (qp p):=by
 refine Qb7 ?_ ?_ <;> simp only [qp,addP,shM,Mot.app,Qcy] <;> grind
theorem tch_mv {c : Cl} {w : Wl} (H : FT c w) {m : Pt} (hm : Sm m) (G : FT (mvC c m) w) : pfs tch (bodies (mvC c m) w) = (pfs tch (bodies c w)).map fun p=>(mvB m p.1,mvB m p.2):=by
 have V:=H.val
 have hmay : ∀ b ∈ bodies c w,(b.ar.map (trQ m)).all mayB = true:=fun b hb=>by
  have hb' : mvB m b ∈ bodies (mvC c m) w:=by rw [bod_mv H hm]; exact Q6.2 ⟨b,hb,rfl⟩
  exact (G.val _ hb').may
 have mv : ∀ b ∈ bodies c w,Moved (shM m) (trQ m) b.ar:=fun b hb =>
  ⟨(V b hb).may,hmay b hb,fun p hp=>by rw [trQ_may hm (Qj.1 (V b hb).may p hp)]; exact addP_mot m p⟩
 rw [bod_mv H hm,pfs_pf,pfs_pf]
 refine pf_map fun a ha b hb=>?_
 unfold tch
 have a3:=(V a ha).n3
 have b3:=(V b hb).n3
 have e : FC (mvB m a).ar (mvB m b).ar = FC a.ar b.ar:=Go.Geo.FC_moved (mv a ha) (mv b hb) (by omega) (by omega)
 rw [e]
 rfl
end Go.Proofs.YtbpneedpcccpaaaGreat

namespace Go.Proofs.YtbpneedpcccpaaaGreat
open Go Go.Zv
open Go.Geo (Pt mayB Val valB val_iff FC Plc plv)
/-! a cell that is moved: the walk -/
abbrev N30 : Heap:=[(1024,.box [.z 0,.z 0,.z 0,.z 0,.z 0,.z 0,.z 0,.z 0,.z 0,.z 0,.z 0,.z 0,.z 0,.z 0,.z 0,.z 0,.z 0,.z 0,.z 0,.z 0,.z 0,.z 0,.z 0,.z 0,.z 0,.z 0,.z 0,.z 0,.z 0,.z 0,.bs 1055 0 0,.bs 1056 0 0,.bs 1057 0 0,.bs 1058 0 0,.z 0,.z 0,.z 0,.z 0,.z 0,.z 0,.z 0,.bs 1066 0 0,.z 0,.z 0]),(1066,.row 1 []),(1058,.row 1 []),(1057,.row 3 []),(1056,.row 6 []),(1055,.row 1 [])]
abbrev B30 (c : Cl) (m : Pt) : Heap:=N30++[(768,.box [.z m.1,.z m.2]),(512,.box (cec c.cel))]
abbrev D30 : Heap:=[(1322,.row 1 []),(1314,.row 1 []),(1313,.row 3 []),(1312,.row 6 []),(1311,.row 1 [])]
def pls (m : Pt) (l : List Plc) (k : Nat) : List Plc:=(l.take k).map (mvL m)++l.drop k
theorem pls_len (m : Pt) (l : List Plc) (k : Nat) : (pls m l k).length = l.length:=by unfold pls; simp; omega
theorem pls_get {m : Pt} {l : List Plc} {k : Nat} {p : Plc} (h : l[k]? = some p) : (pls m l k)[k]? = some p:=by
 have hk:=(Qe.1 h).1
 unfold pls
 rw [Qbg (by simp; omega)]
 simp
 rw [show k - min k l.length = 0 by omega,Qdh]; exact h
theorem pls_succ {m : Pt} {l : List Plc} {k : Nat} {p : Plc} (h : l[k]? = some p) : pls m l (k + 1) = (pls m l k).set k (mvL m p):=by
 have hk:=(Qe.1 h).1
 unfold pls
 rw [List.set_append_right _ _ (by simp; omega)]
 have e : k - ((l.take k).map (mvL m)).length = 0:=by simp; omega
 rw [e]
 have e2 : l.drop k = p::l.drop (k + 1):=by
  rw [Qcd hk,(Qe.1 h).2]
 rw [e2,List.set_cons_zero,Qa4,h,Ql]
 simp
theorem set_plv (l : List Plc) (k : Nat) (p : Plc) : (l.map plv).set k (plv p) = (l.set k p).map plv:=by rw [List.map_set]

abbrev plvc (p : Plc) : List LV:=[.str p.nm,.z p.x,.z p.y,.z p.dx,.z p.dy,.z p.dn]
abbrev T30 : Env:=[(2,.ptr 512 0),(3,.ptr 768 0),(4,.ptr 1024 0),(5,.ptr 1280 0)]
abbrev cec3 (c : Cl) (m : Pt) (fx pl : LV) : List LV:=[.z (w64 (c.a.bx + m.1)),.z (w64 (c.a.by_ + m.2)),.z c.a.l0,.z c.a.l1,.z c.a.l2,.z c.a.w,.z c.a.lo0,.z c.a.lo1,.z c.a.lo2,.z c.a.hi0,.z c.a.hi1,.z c.a.hi2,.z (w64 (c.b.bx + m.1)),.z (w64 (c.b.by_ + m.2)),.z c.b.l0,.z c.b.l1,.z c.b.l2,.z c.b.w,.z c.b.lo0,.z c.b.lo1,.z c.b.lo2,.z c.b.hi0,.z c.b.hi1,.z c.b.hi2,.z c.h0,.z c.h1,.z c.h2,.z c.h3,.z c.h4,.z c.h5,fx,pl,.vs (c.pt.map Go.Geo.prv),.vs (c.bt.map Go.Geo.c1),.z c.per,.z c.lv,.z c.la,.z c.lj,.z c.mv,.z c.ma,.z c.mj,.vs (c.zn.map Go.Geo.p1),.z c.gap,.z c.slow]
theorem lp30a (c : Cl) (m : Pt) : (K E A30_L2 ⟨T30++[(6,.z 0)],[],(1280,.box (cec c.cel))::(D30++B30 c m),0⟩).bind (blockR 0 (some [2,3,4,5]) [6]) =
  some (.ex .nrm ⟨T30,[],(1280,.box (cec3 c m (.vs (c.fx.map Go.Geo.p1)) (.vs (c.pl.map plv))))::(D30++B30 c m),0⟩):=by
 rw [A30_L2_eq]
 simp +contextual -implicitDefEqProofs (maxSteps:=2000000) only [go_sem,A30_L2b,T30,D30,B30,N30,Qy,Qw]
 rw [A30_L2_eq]
 simp +contextual -implicitDefEqProofs (maxSteps:=2000000) only [go_sem,A30_L2b,Qy,Qw]
 rw [A30_L2_eq]
 simp +contextual -implicitDefEqProofs (maxSteps:=2000000) only [go_sem,A30_L2b,Qy,Qw]
theorem lp30b (c : Cl) (m : Pt) (hl : c.pl.length≤1000) : (K E A30_L1 ⟨T30++[(7,.z 0)],[],(9472,.row 6 (c.pl.map plv))::(1280,.box (cec3 c m (.vs (c.fx.map Go.Geo.p1)) (.bs 9472 0 c.pl.length)))::(D30++B30 c m),0⟩).bind (blockR 2 (some [2,3,4,5]) [7]) =
  some (.ex .nrm ⟨T30,[],(9472,.row 6 ((c.pl.map (mvL m)).map plv))::(1280,.box (cec3 c m (.vs (c.fx.map Go.Geo.p1)) (.bs 9472 0 c.pl.length)))::(D30++B30 c m),0⟩):=by
 have lp:=loop_to (fun S=>(K E A30_L1 S).bind (blockR 2 (some [2,3,4,5]) [7])) (fun k=>⟨T30++[(7,.z k)],[],(9472,.row 6 ((pls m c.pl k).map plv))::(1280,.box (cec3 c m (.vs (c.fx.map Go.Geo.p1)) (.bs 9472 0 c.pl.length)))::(D30++B30 c m),0⟩) c.pl.length (fun k hk=>by
  have hp : c.pl[k]? = some (c.pl[k]'hk):=Qf _
  rw [pls_succ hp]
  have hq:=pls_get (m:=m) hp
  have hlen:=pls_len m c.pl k
  generalize c.pl[k]'hk = p at *
  have g1 : (c.pl.map plv)[k]? = some (plv p):=Go.Geo.get_m plv hp
  have g2 : ((pls m c.pl k).map plv)[k]? = some (plv p):=Go.Geo.get_m plv hq
  have st:=set_plv (pls m c.pl k) k (mvL m p)
  have e6 : ((pls m c.pl k).map plv).length = c.pl.length:=by rw [Qb]; exact hlen
  simp only [plv,mvL,w64] at g1 g2 st
  generalize (pls m c.pl k).map plv = rows at *
  have h1 : (k : Int) < c.pl.length:=by omega
  have h0 : (0 : Int)≤k:=by omega
  have h3 : k < c.pl.length:=hk
  have hw:=Go.Geo.wr_k (k:=k) (by omega)
  show (K E A30_L1 _).bind _ = (K E A30_L1 _).bind _
  conv=>lhs; rw [A30_L1_eq]
  simp +contextual -implicitDefEqProofs (maxSteps:=2000000) only [go_sem,A30_L1b,T30,D30,B30,N30,Qy,Qw,Qb,h0,h1,h3,hw,g1,g2,e6,st,mvL,w64])
 have e0 : pls m c.pl 0 = c.pl:=by simp [pls]
 have e1 : pls m c.pl c.pl.length = c.pl.map (mvL m):=by simp [pls]
 simp only [Qn,Qv,e0,e1] at lp
 rw [lp,A30_L1_eq]; simp +contextual -implicitDefEqProofs (maxSteps:=2000000) only [go_sem,A30_L1b,T30,D30,B30,N30,Qy,Qw,Qb,Qp]
theorem c31' (l : List Pt) (hl : l.length≤1000000000) (m : Pt) : pc E 31 [.vs (l.map Go.Geo.c2),.agg [.z m.1,.z m.2]] = some (.vs ((l.map (trQ m)).map Go.Geo.c2)):=G.c31 l hl m.1 m.2
theorem lp30c (c : Cl) (m : Pt) (pl : List (List LV)) (n : Nat) (hf : ∀ p ∈ c.fx,p.length≤1000) (hl : c.fx.length≤1000) : (K E A30_L0 ⟨T30++[(8,.z 0)],[],(19200,.row 1 [])::(9472,.row 6 pl)::(1280,.box (cec3 c m (.bs 19200 0 0) (.bs 9472 0 n)))::(D30++B30 c m),0⟩).bind (blockR 4 (some [4,5]) [8,92,93,94]) =
  some (.ex .nrm ⟨[(4,.ptr 1024 0),(5,.ptr 1280 0)],[],(19200,.row 1 ((c.fx.map (List.map (trQ m))).map Go.Geo.p1))::(9472,.row 6 pl)::(1280,.box (cec3 c m (.bs 19200 0 c.fx.length) (.bs 9472 0 n)))::(D30++B30 c m),0⟩):=by
 have lp:=loop_to (fun S=>(K E A30_L0 S).bind (blockR 4 (some [4,5]) [8,92,93,94])) (fun k=>⟨T30++[(8,.z k)],[],(19200,.row 1 (((c.fx.take k).map (List.map (trQ m))).map Go.Geo.p1))::(9472,.row 6 pl)::(1280,.box (cec3 c m (.bs 19200 0 k) (.bs 9472 0 n)))::(D30++B30 c m),0⟩) c.fx.length (fun k hk=>by
  have hp : c.fx[k]? = some (c.fx[k]'hk):=Qf _
  have ht : ((c.fx.take (k + 1)).map (List.map (trQ m))).map Go.Geo.p1 = ((c.fx.take k).map (List.map (trQ m))).map Go.Geo.p1++[[.vs (((c.fx[k]'hk).map (trQ m)).map Go.Geo.c2)]]:=by
   rw [Qa4,hp,Ql,Ql]; rfl
  have e6 : (((c.fx.take k).map (List.map (trQ m))).map Go.Geo.p1).length = k:=by simp; omega
  have hfl:=hf _ (Qdk hk)
  rw [ht]
  generalize c.fx[k]'hk = p at *
  generalize ((c.fx.take k).map (List.map (trQ m))).map Go.Geo.p1 = rows at *
  have g1 : (c.fx.map Go.Geo.p1)[k]? = some [.vs (p.map Go.Geo.c2)]:=Go.Geo.get_m Go.Geo.p1 hp
  have o:=c31' p (by omega) m
  generalize (p.map (trQ m)).map Go.Geo.c2 = q at *
  have h1 : (k : Int) < c.fx.length:=by omega
  have h0 : (0 : Int)≤k:=by omega
  have h2 : k≤rows.length:=by omega
  have h3 : rows.length≤k:=by omega
  have h4 : k≤999999999:=by omega
  have tk : List.take k rows = rows:=Qr h3
  have hw:=Go.Geo.wr_k (k:=k) (by omega)
  show (K E A30_L0 _).bind _ = (K E A30_L0 _).bind _
  conv=>lhs; rw [A30_L0_eq]
  simp +contextual -implicitDefEqProofs (maxSteps:=2000000) only [go_sem,A30_L0b,T30,D30,B30,N30,Qy,Qw,Qb,h0,h1,h2,h4,tk,hw,g1,e6,o])
 simp only [Qn,Qv,Qcq,Q0,Qbn] at lp
 rw [lp,A30_L0_eq]; simp +contextual -implicitDefEqProofs (maxSteps:=2000000) only [go_sem,A30_L0b,T30,D30,B30,N30,Qy,Qw,Qb,Qp]
theorem all_plv (l : List Plc) : ((l.map plv).all fun x=>x.length == 6) = true:=by
 rw [Qj]; intro x hx
 obtain ⟨y,_,rfl⟩:=Q6.1 hx; rfl
theorem c30 (c : Cl) (m : Pt) (hf : ∀ p ∈ c.fx,p.length≤1000) (hl : c.fx.length≤1000) (hp : c.pl.length≤1000) : pc E 30 [.agg (cec c.cel),.agg [.z m.1,.z m.2]] = some (.agg (cec (mvC c m).cel)):=by
 have q1:=lp30a c m
 have q2:=lp30b c m hp
 have q3:=lp30c c m ((c.pl.map (mvL m)).map plv) c.pl.length hf hl
 have al:=all_plv c.pl
 simp only [T30,D30,B30,N30,Qy,Qw] at q1 q2 q3
 have tk : List.take c.pl.length ((c.pl.map (mvL m)).map plv) = (c.pl.map (mvL m)).map plv:=Qr (by simp)
 have tk2 : List.take c.fx.length ((c.fx.map (List.map (trQ m))).map Go.Geo.p1) = (c.fx.map (List.map (trQ m))).map Go.Geo.p1:=Qr (by simp)
 have hpl : c.pl.length≤1000000000:=by omega
 rw [pc_eq]; simp +contextual -implicitDefEqProofs (maxSteps:=2000000) only [go_sem,E_30,A30,q1,q2,q3,al,hpl,tk,tk2,Qb]
 rfl
end Go.Proofs.YtbpneedpcccpaaaGreat

namespace Go.Proofs.YtbpneedpcccpaaaGreat
open Go Go.Zv
open Go.Geo (Pt mayB Val valB val_iff FC Plc plv)
abbrev H8 (c : Cl) (w : Wl) (m : Pt) : Heap:=[(2816,.box (cec (mvC c m).cel)),(2858,.row 1 []),(2850,.row 1 []),(2849,.row 3 []),(2848,.row 6 []),(2847,.row 1 []),(2560,.box [.z m.1,.z m.2]),(2048,.box (wlc w)),(2057,.row 1 [])]
abbrev T8 (t : List (Bd × Bd)) : Env:=[(7,.bool true),(8,.ptr 2048 0),(10,.ptr 2560 0),(11,.ptr 2816 0),(12,.vs (t.map bpc))]
def mv2 (m : Pt) (p : Bd × Bd) : Bd × Bd:=(mvB m p.1,mvB m p.2)
theorem lp80 (c : Cl) (w : Wl) (m : Pt) (t : List (Bd × Bd)) (hs : ∀ p ∈ t,shortP p) (hl : t.length≤1000000) :
  (K E A8_L0 ⟨T8 t++[(13,.bs 16384 0 0),(14,.z 0)],[],(16384,.row 8 [])::H8 c w m,0⟩).bind (blockR 0 (some [7,8,11,13]) [14,15,16,84,89,95]) =
   some (.ex .nrm ⟨[(7,.bool true),(8,.ptr 2048 0),(11,.ptr 2816 0),(13,.bs 16384 0 t.length)],[],(16384,.row 8 ((t.map (mv2 m)).map bpc))::H8 c w m,0⟩):=by
 have lp:=loop_to (fun S=>(K E A8_L0 S).bind (blockR 0 (some [7,8,11,13]) [14,15,16,84,89,95]))
  (fun k=>⟨T8 t++[(13,.bs 16384 0 k),(14,.z k)],[],(16384,.row 8 (((t.take k).map (mv2 m)).map bpc))::H8 c w m,0⟩) t.length (fun k hk=>by
   have hp : t[k]? = some (t[k]'hk):=Qf _
   have ht : ((t.take (k + 1)).map (mv2 m)).map bpc = ((t.take k).map (mv2 m)).map bpc++[bpc (mv2 m (t[k]'hk))]:=by
    rw [Qa4,hp,Ql,Ql]; rfl
   have e6 : (((t.take k).map (mv2 m)).map bpc).length = k:=by simp; omega
   have hsh:=hs _ (Qdk hk)
   rw [ht]
   generalize t[k]'hk = p at *
   generalize ((t.take k).map (mv2 m)).map bpc = rows at *
   have gp:=get_bp hp
   obtain ⟨x,y⟩:=p
   obtain ⟨s1,s2⟩:=hsh
   have o1:=c31' x.ar (by simp only at s1; omega) m
   have o2:=c31' y.ar (by simp only at s2; omega) m
   simp only [bpc,mv2,mvB] at gp ⊢
   generalize (x.ar.map (trQ m)).map Go.Geo.c2 = q1 at *
   generalize (y.ar.map (trQ m)).map Go.Geo.c2 = q2 at *
   have h1 : (k : Int) < t.length:=by omega
   have h0 : (0 : Int)≤k:=by omega
   have h2 : k≤rows.length:=by omega
   have h4 : k≤999999999:=by omega
   have tk : List.take k rows = rows:=Qr (by omega)
   have hw:=Go.Geo.wr_k (k:=k) (by omega)
   show (K E A8_L0 _).bind _ = (K E A8_L0 _).bind _
   conv=>lhs; rw [A8_L0_eq]
   simp +contextual -implicitDefEqProofs (maxSteps:=2000000) only [go_sem,A8_L0b,T8,H8,Qy,Qw,Qb,h0,h1,h2,h4,tk,hw,gp,e6,o1,o2])
 simp only [Qn,Qv,Qcq,Q0,Qbn] at lp
 rw [lp,A8_L0_eq]; simp +contextual -implicitDefEqProofs (maxSteps:=2000000) only [go_sem,A8_L0b,T8,H8,Qy,Qw,Qb,Qp]
def tov (n : Int) : Int:=((65536 * n).tmod 100000000).tdiv 16 * 16
theorem tov_bd (n : Int) : -100000000≤tov n∧tov n≤100000000:=by
 have h1:=Qdb (65536 * n) (b:=100000000) (by decide)
 have h2:=Qdc (65536 * n) (b:=100000000) (by decide)
 unfold tov
 generalize (65536 * n).tmod 100000000 = r at *
 have e0:=Int.tmod_add_mul_tdiv r 16
 have h3:=Qdb r (b:=16) (by decide)
 have h4:=Qdc r (b:=16) (by decide)
 by_cases hr : 0≤r
 ·have:=Int.tmod_nonneg 16 hr; omega
 ·have : r.tmod 16≤0:=by
   have e:=Int.neg_tmod (-r) 16
   have:=Int.tmod_nonneg 16 (show 0 ≤ -r by omega)
   rw [Int.neg_neg] at e; omega
  omega
theorem law8 (c : Cl) (x : Raw) (a b : Int) (hd : pc E 10 [] = some (.bool true)) (X : RawOK x) (ha : -32768≤a∧a≤32767) (hb : -32768≤b∧b≤32767) : pc E 8 [.agg (cec c.cel),.agg (rawc x),.agg [.int .i16 a,.int .i16 b]] = some (.bool true):=by
 have k5:=c15 c x X
 cases h1 : fitB c x with
 | false =>
   rw [h1] at k5
   split at k5
   ·rw [pc_eq]; simp +contextual -implicitDefEqProofs (maxSteps:=2000000) only [go_sem,E_8,A8,hd,k5]
   ·rw [pc_eq]; simp +contextual -implicitDefEqProofs (maxSteps:=2000000) only [go_sem,E_8,A8,hd,k5]
 | true =>
   have F:=fit_FT h1
   have hz : c.zn.length≤1000:=by
    unfold fitB at h1
    simp only [Qg,Qam] at h1
    exact grS_z h1.1
   rw [h1,if_neg (by unfold fitB at h1; simp only [Qg,Qam] at h1; rw [h1.1,h1.2.1]; simp)] at k5
   generalize wld c x = w at *
   have w1 : IntKind.i64.wrap a = a:=wrap_small (by omega) (by omega)
   have w2 : IntKind.i64.wrap b = b:=wrap_small (by omega) (by omega)
   have w3 : IntKind.i64.wrap (65536 * a) = 65536 * a:=wrap_small (by omega) (by omega)
   have w4 : IntKind.i64.wrap (65536 * b) = 65536 * b:=wrap_small (by omega) (by omega)
   have ta:=tov_bd a
   have tb:=tov_bd b
   have w5 : IntKind.i64.wrap (((65536 * a).tmod 100000000).tdiv 16) = ((65536 * a).tmod 100000000).tdiv 16:=by
    unfold tov at ta; exact wrap_small (by omega) (by omega)
   have w6 : IntKind.i64.wrap (((65536 * b).tmod 100000000).tdiv 16) = ((65536 * b).tmod 100000000).tdiv 16:=by
    unfold tov at tb; exact wrap_small (by omega) (by omega)
   have w7 : IntKind.i64.wrap (((65536 * a).tmod 100000000).tdiv 16 * 16) = tov a:=by
    unfold tov at ta; exact wrap_small (by omega) (by omega)
   have w8 : IntKind.i64.wrap (((65536 * b).tmod 100000000).tdiv 16 * 16) = tov b:=by
    unfold tov at tb; exact wrap_small (by omega) (by omega)
   generalize tov a = ma at *
   generalize tov b = mb at *
   have hm : Sm (ma,mb):=⟨ta,tb⟩
   have k3:=c30 c (ma,mb) (fun p hp=>by have:=(F.v.fx p hp).n12; omega) (by have:=F.v.fl; omega) (by have:=F.v.pl; omega)
   have k12:=c12 (mvC c (ma,mb)) hz
   simp only at k3
   cases hr : rightB (mvC c (ma,mb)) with
   | false =>
     rw [hr] at k12
     generalize mvC c (ma,mb) = d at *
     rw [pc_eq]; simp +contextual -implicitDefEqProofs (maxSteps:=2000000) only [go_sem,E_8,A8,hd,k5,w1,w2,w3,w4,w5,w6,w7,w8,k3,k12]
   | true =>
     have VD:=right_VC hr
     have k14:=c14v (mvC c (ma,mb)) w VD (by have:=F.p.len; have:=F.v.pt; omega)
     have k13:=c13v (mvC c (ma,mb)) w VD
     rw [hr] at k12
     cases hv : vsB (mvC c (ma,mb)) w with
     | false =>
       rw [hv] at k14
       generalize mvC c (ma,mb) = d at *
       rw [pc_eq]; simp +contextual -implicitDefEqProofs (maxSteps:=2000000) only [go_sem,E_8,A8,hd,k5,w1,w2,w3,w4,w5,w6,w7,w8,k3,k12,k14]
     | true =>
       have G : FT (mvC c (ma,mb)) w:=by
        unfold vsB rngB at hv
        simp only [Qg,Qam] at hv
        exact ⟨VD,plB_Pld hv.2.2.1,hv.2.2.2⟩
       rw [hv] at k14 k13
       have k11:=c21 c w F.v.fin F.p F.kinds F.len
       have j11:=c21 (mvC c (ma,mb)) w G.v.fin G.p G.kinds G.len
       have e:=tch_mv F hm G
       have sp : ∀ p ∈ pfs tch (bodies c w),shortP p:=fun p hp=>by
        rw [pfs_tch] at hp
        have:=prs_mem (Qad.1 hp).1
        have a1:=bod_ar F.v F.p _ this.1
        have a2:=bod_ar F.v F.p _ this.2
        exact ⟨by omega,by omega⟩
       have ln : (pfs tch (bodies c w)).length≤1000000:=by
        rw [pfs_tch]; exact Qcv (Qbv _ _) (prs_len _ F.len)
       have lp:=lp80 c w (ma,mb) (pfs tch (bodies c w)) sp ln
       have o:=c18 ((pfs tch (bodies c w)).map (mv2 (ma,mb))) ((pfs tch (bodies c w)).map (mv2 (ma,mb))) (by rw [Qb]; exact ln) (fun p hp=>by
        obtain ⟨q,hq,rfl⟩:=Q6.1 hp
        obtain ⟨s1,s2⟩:=sp q hq
        exact ⟨by simp only [mv2,mvB,Qb]; exact s1,by simp only [mv2,mvB,Qb]; exact s2⟩)
       rw [decide_eq_true rfl] at o
       have e' : pfs tch (bodies (mvC c (ma,mb)) w) = (pfs tch (bodies c w)).map (mv2 (ma,mb)):=e
       rw [e'] at j11
       simp only [T8,H8,Qy,Qw] at lp
       clear e e' sp hm
       have tk : List.take (pfs tch (bodies c w)).length (((pfs tch (bodies c w)).map (mv2 (ma,mb))).map bpc) = ((pfs tch (bodies c w)).map (mv2 (ma,mb))).map bpc:=Qr (by simp)
       have l2 : (pfs tch (bodies c w)).length≤((pfs tch (bodies c w)).map (mv2 (ma,mb))).length:=by simp
       generalize (pfs tch (bodies c w)).map (mv2 (ma,mb)) = t2 at *
       generalize pfs tch (bodies c w) = t at *
       generalize mvC c (ma,mb) = d at *
       rw [pc_eq]; simp +contextual -implicitDefEqProofs (maxSteps:=2000000) only [go_sem,E_8,A8,hd,k5,w1,w2,w3,w4,w5,w6,w7,w8,k3,k12,k14,k13,k11,j11,lp,o,tk,l2,Qb]
end Go.Proofs.YtbpneedpcccpaaaGreat

namespace Go.Proofs.YtbpneedpcccpaaaGreat
open Go Go.Zv
abbrev hC : LV:=.agg [.z (-87880000),.z 0,.z 10,.z 8,.z 4,.z 1,.z (-17),.z (-17),.z (-17),.z 18,.z 18,.z 18,.z 87880000,.z 0,.z 10,.z 8,.z 4,.z 1,.z (-17),.z (-17),.z (-17),.z 18,.z 18,.z 18,.z 9,.z 0,.z 0,.z 9,.z 0,.z 0,.vs [[.vs [[.z (-4394000),.z (-4394000)],[.z 4394000,.z (-4394000)],[.z 4394000,.z 4394000],[.z (-4394000),.z 4394000]]]],.vs [[.str [108,101,102,116],.z (-87880000),.z 52728000,.z 274625,.z 0,.z 3],[.str [109,105,100],.z 0,.z 52728000,.z 0,.z 274625,.z 3]],.vs [[.str [99,97,112],.vs [[.z 0,.z 0],[.z 2,.z 0],[.z 2,.z 1],[.z 0,.z 1]],.z 1]],.vs [[.z 0],[.z 1]],.z 30,.z 6,.z 2,.z 1,.z 4,.z 2,.z 1,.vs [[.vs [[.z (-131820000),.z (-131820000)],[.z (-109850000),.z (-131820000)],[.z (-109850000),.z (-87880000)]]]],.z 2,.z 1]
abbrev hW : LV:=.agg [.z 9,.z 0,.z 0,.z 9,.z 0,.z 0,.z (-1),.z (-1),.vs [[.z 1]]]
abbrev hU : LV:=.agg [.z 0,.z 0,.z 0,.z 9,.z 0,.z 0,.z (-1),.z (-1),.vs [[.z 1]]]
abbrev hV : LV:=.agg [.z 9,.z 0,.z 0,.z 9,.z 0,.z 0,.z (-1),.z (-1),.vs []]
theorem c33 : pc E 33 [] = some hC:=by
 refine pc_of_run 100 ?_
 kernel_rfl
theorem c34 : pc E 34 [hC] = some hW:=by
 refine pc_of_run 100 ?_
 kernel_rfl
theorem h16 : pc E 16 [hC,hW] = some (.vs [[.z 1,.z 0,.z 0,.vs [[.z (-83486000),.z 0],[.z (-83486000),.z 43940000],[.z (-92274000),.z 43940000],[.z (-92274000),.z 0]]],[.z 1,.z 0,.z 1,.vs [[.z (-83486000),.z 43940000],[.z (-83486000),.z 79092000],[.z (-92274000),.z 79092000],[.z (-92274000),.z 43940000]]],[.z 1,.z 0,.z 2,.vs [[.z (-83486000),.z 79092000],[.z (-83486000),.z 96668000],[.z (-92274000),.z 96668000],[.z (-92274000),.z 79092000]]],[.z 1,.z 1,.z 0,.vs [[.z 92274000,.z 0],[.z 92274000,.z 43940000],[.z 83486000,.z 43940000],[.z 83486000,.z 0]]],[.z 1,.z 1,.z 1,.vs [[.z 92274000,.z 43940000],[.z 92274000,.z 79092000],[.z 83486000,.z 79092000],[.z 83486000,.z 43940000]]],[.z 1,.z 1,.z 2,.vs [[.z 92274000,.z 79092000],[.z 92274000,.z 96668000],[.z 83486000,.z 96668000],[.z 83486000,.z 79092000]]],[.z 3,.z 0,.z 0,.vs [[.z 0,.z 52728000],[.z 0,.z 61516000],[.z (-4394000),.z 61516000],[.z (-4394000),.z 52728000]]],[.z 4,.z 0,.z 0,.vs [[.z (-4394000),.z (-4394000)],[.z 4394000,.z (-4394000)],[.z 4394000,.z 4394000],[.z (-4394000),.z 4394000]]]]):=by
 refine pc_of_run 200 ?_
 kernel_rfl
theorem h19 : pc E 19 [hC,hW] = some (.vs [[.z 1,.z 0,.z 0,.vs [[.z (-83486000),.z 0],[.z (-83486000),.z 43940000],[.z (-92274000),.z 43940000],[.z (-92274000),.z 0]],.z 1,.z 0,.z 2,.vs [[.z (-83486000),.z 79092000],[.z (-83486000),.z 96668000],[.z (-92274000),.z 96668000],[.z (-92274000),.z 79092000]]],[.z 1,.z 0,.z 0,.vs [[.z (-83486000),.z 0],[.z (-83486000),.z 43940000],[.z (-92274000),.z 43940000],[.z (-92274000),.z 0]],.z 1,.z 1,.z 0,.vs [[.z 92274000,.z 0],[.z 92274000,.z 43940000],[.z 83486000,.z 43940000],[.z 83486000,.z 0]]],[.z 1,.z 0,.z 0,.vs [[.z (-83486000),.z 0],[.z (-83486000),.z 43940000],[.z (-92274000),.z 43940000],[.z (-92274000),.z 0]],.z 1,.z 1,.z 1,.vs [[.z 92274000,.z 43940000],[.z 92274000,.z 79092000],[.z 83486000,.z 79092000],[.z 83486000,.z 43940000]]],[.z 1,.z 0,.z 0,.vs [[.z (-83486000),.z 0],[.z (-83486000),.z 43940000],[.z (-92274000),.z 43940000],[.z (-92274000),.z 0]],.z 1,.z 1,.z 2,.vs [[.z 92274000,.z 79092000],[.z 92274000,.z 96668000],[.z 83486000,.z 96668000],[.z 83486000,.z 79092000]]],[.z 1,.z 0,.z 0,.vs [[.z (-83486000),.z 0],[.z (-83486000),.z 43940000],[.z (-92274000),.z 43940000],[.z (-92274000),.z 0]],.z 3,.z 0,.z 0,.vs [[.z 0,.z 52728000],[.z 0,.z 61516000],[.z (-4394000),.z 61516000],[.z (-4394000),.z 52728000]]],[.z 1,.z 0,.z 0,.vs [[.z (-83486000),.z 0],[.z (-83486000),.z 43940000],[.z (-92274000),.z 43940000],[.z (-92274000),.z 0]],.z 4,.z 0,.z 0,.vs [[.z (-4394000),.z (-4394000)],[.z 4394000,.z (-4394000)],[.z 4394000,.z 4394000],[.z (-4394000),.z 4394000]]],[.z 1,.z 0,.z 1,.vs [[.z (-83486000),.z 43940000],[.z (-83486000),.z 79092000],[.z (-92274000),.z 79092000],[.z (-92274000),.z 43940000]],.z 1,.z 1,.z 0,.vs [[.z 92274000,.z 0],[.z 92274000,.z 43940000],[.z 83486000,.z 43940000],[.z 83486000,.z 0]]],[.z 1,.z 0,.z 1,.vs [[.z (-83486000),.z 43940000],[.z (-83486000),.z 79092000],[.z (-92274000),.z 79092000],[.z (-92274000),.z 43940000]],.z 1,.z 1,.z 1,.vs [[.z 92274000,.z 43940000],[.z 92274000,.z 79092000],[.z 83486000,.z 79092000],[.z 83486000,.z 43940000]]],[.z 1,.z 0,.z 1,.vs [[.z (-83486000),.z 43940000],[.z (-83486000),.z 79092000],[.z (-92274000),.z 79092000],[.z (-92274000),.z 43940000]],.z 1,.z 1,.z 2,.vs [[.z 92274000,.z 79092000],[.z 92274000,.z 96668000],[.z 83486000,.z 96668000],[.z 83486000,.z 79092000]]],[.z 1,.z 0,.z 1,.vs [[.z (-83486000),.z 43940000],[.z (-83486000),.z 79092000],[.z (-92274000),.z 79092000],[.z (-92274000),.z 43940000]],.z 3,.z 0,.z 0,.vs [[.z 0,.z 52728000],[.z 0,.z 61516000],[.z (-4394000),.z 61516000],[.z (-4394000),.z 52728000]]],[.z 1,.z 0,.z 1,.vs [[.z (-83486000),.z 43940000],[.z (-83486000),.z 79092000],[.z (-92274000),.z 79092000],[.z (-92274000),.z 43940000]],.z 4,.z 0,.z 0,.vs [[.z (-4394000),.z (-4394000)],[.z 4394000,.z (-4394000)],[.z 4394000,.z 4394000],[.z (-4394000),.z 4394000]]],[.z 1,.z 0,.z 2,.vs [[.z (-83486000),.z 79092000],[.z (-83486000),.z 96668000],[.z (-92274000),.z 96668000],[.z (-92274000),.z 79092000]],.z 1,.z 1,.z 0,.vs [[.z 92274000,.z 0],[.z 92274000,.z 43940000],[.z 83486000,.z 43940000],[.z 83486000,.z 0]]],[.z 1,.z 0,.z 2,.vs [[.z (-83486000),.z 79092000],[.z (-83486000),.z 96668000],[.z (-92274000),.z 96668000],[.z (-92274000),.z 79092000]],.z 1,.z 1,.z 1,.vs [[.z 92274000,.z 43940000],[.z 92274000,.z 79092000],[.z 83486000,.z 79092000],[.z 83486000,.z 43940000]]],[.z 1,.z 0,.z 2,.vs [[.z (-83486000),.z 79092000],[.z (-83486000),.z 96668000],[.z (-92274000),.z 96668000],[.z (-92274000),.z 79092000]],.z 1,.z 1,.z 2,.vs [[.z 92274000,.z 79092000],[.z 92274000,.z 96668000],[.z 83486000,.z 96668000],[.z 83486000,.z 79092000]]],[.z 1,.z 0,.z 2,.vs [[.z (-83486000),.z 79092000],[.z (-83486000),.z 96668000],[.z (-92274000),.z 96668000],[.z (-92274000),.z 79092000]],.z 4,.z 0,.z 0,.vs [[.z (-4394000),.z (-4394000)],[.z 4394000,.z (-4394000)],[.z 4394000,.z 4394000],[.z (-4394000),.z 4394000]]],[.z 1,.z 1,.z 0,.vs [[.z 92274000,.z 0],[.z 92274000,.z 43940000],[.z 83486000,.z 43940000],[.z 83486000,.z 0]],.z 1,.z 1,.z 2,.vs [[.z 92274000,.z 79092000],[.z 92274000,.z 96668000],[.z 83486000,.z 96668000],[.z 83486000,.z 79092000]]],[.z 1,.z 1,.z 0,.vs [[.z 92274000,.z 0],[.z 92274000,.z 43940000],[.z 83486000,.z 43940000],[.z 83486000,.z 0]],.z 3,.z 0,.z 0,.vs [[.z 0,.z 52728000],[.z 0,.z 61516000],[.z (-4394000),.z 61516000],[.z (-4394000),.z 52728000]]],[.z 1,.z 1,.z 0,.vs [[.z 92274000,.z 0],[.z 92274000,.z 43940000],[.z 83486000,.z 43940000],[.z 83486000,.z 0]],.z 4,.z 0,.z 0,.vs [[.z (-4394000),.z (-4394000)],[.z 4394000,.z (-4394000)],[.z 4394000,.z 4394000],[.z (-4394000),.z 4394000]]],[.z 1,.z 1,.z 1,.vs [[.z 92274000,.z 43940000],[.z 92274000,.z 79092000],[.z 83486000,.z 79092000],[.z 83486000,.z 43940000]],.z 3,.z 0,.z 0,.vs [[.z 0,.z 52728000],[.z 0,.z 61516000],[.z (-4394000),.z 61516000],[.z (-4394000),.z 52728000]]],[.z 1,.z 1,.z 1,.vs [[.z 92274000,.z 43940000],[.z 92274000,.z 79092000],[.z 83486000,.z 79092000],[.z 83486000,.z 43940000]],.z 4,.z 0,.z 0,.vs [[.z (-4394000),.z (-4394000)],[.z 4394000,.z (-4394000)],[.z 4394000,.z 4394000],[.z (-4394000),.z 4394000]]],[.z 1,.z 1,.z 2,.vs [[.z 92274000,.z 79092000],[.z 92274000,.z 96668000],[.z 83486000,.z 96668000],[.z 83486000,.z 79092000]],.z 4,.z 0,.z 0,.vs [[.z (-4394000),.z (-4394000)],[.z 4394000,.z (-4394000)],[.z 4394000,.z 4394000],[.z (-4394000),.z 4394000]]]]):=by
 refine pc_of_run 200 ?_
 kernel_rfl
theorem h13w : pc E 13 [hC,hW] = some (.bool true):=by
 refine pc_of_run 200 ?_
 kernel_rfl
theorem h13v : pc E 13 [hC,hV] = some (.bool false):=by
 refine pc_of_run 200 ?_
 kernel_rfl
end Go.Proofs.YtbpneedpcccpaaaGreat

namespace Go.Proofs.YtbpneedpcccpaaaGreat
open Go Go.Zv
theorem g1 : pc E 28 [.agg [.z 1,.z 0,.z 2,.vs [[.z (-8788000),.z (-4394000)],[.z 8788000,.z (-4394000)],[.z 8788000,.z 4394000],[.z (-8788000),.z 4394000]]],.agg [.z 1,.z 0,.z 2,.vs []]] = some (.bool true):=by
 refine pc_of_run 60 ?_
 kernel_rfl
theorem g2 : pc E 28 [.agg [.z 4,.z 0,.z 0,.vs [[.z (-4394000),.z (-4394000)],[.z 4394000,.z (-4394000)],[.z 4394000,.z 4394000],[.z (-4394000),.z 4394000]]],.agg [.z 4,.z 0,.z 0,.vs []]] = some (.bool true):=by
 refine pc_of_run 60 ?_
 kernel_rfl
theorem g3 : pc E 28 [.agg [.z 1,.z 0,.z 0,.vs [[.z (-83486000),.z 0],[.z (-83486000),.z 43940000],[.z (-92274000),.z 43940000],[.z (-92274000),.z 0]]],.agg [.z 1,.z 0,.z 0,.vs []]] = some (.bool true):=by
 refine pc_of_run 60 ?_
 kernel_rfl
theorem g4 : pc E 28 [.agg [.z 1,.z 0,.z 2,.vs [[.z (-83486000),.z 79092000],[.z (-83486000),.z 96668000],[.z (-92274000),.z 96668000],[.z (-92274000),.z 79092000]]],.agg [.z 1,.z 0,.z 2,.vs []]] = some (.bool true):=by
 refine pc_of_run 60 ?_
 kernel_rfl
end Go.Proofs.YtbpneedpcccpaaaGreat

namespace Go.Proofs.YtbpneedpcccpaaaGreat
open Go Go.Zv
open Go.Geo (Pt mayB Val FC valB val_iff cvxB isepB)
def hc : Cl:={ a:=⟨-87880000,0,10,8,4,1,-17,-17,-17,18,18,18⟩,b:=⟨87880000,0,10,8,4,1,-17,-17,-17,18,18,18⟩,h0:=9,h1:=0,h2:=0,h3:=9,h4:=0,h5:=0,fx:=[[(-4394000,-4394000),(4394000,-4394000),(4394000,4394000),(-4394000,4394000)]],pl:=[⟨[108,101,102,116],-87880000,52728000,274625,0,3⟩,⟨[109,105,100],0,52728000,0,274625,3⟩],pt:=[⟨[99,97,112],[(0,0),(2,0),(2,1),(0,1)],1⟩],bt:=[0,1],per:=30,lv:=6,la:=2,lj:=1,mv:=4,ma:=2,mj:=1,zn:=[[(-131820000,-131820000),(-109850000,-131820000),(-109850000,-87880000)]],gap:=2,slow:=1 }
def hw : Wl:=⟨9,0,0,9,0,0,-1,-1,[1]⟩
def hu : Wl:=⟨0,0,0,9,0,0,-1,-1,[1]⟩
theorem e_c : LV.agg (cec hc.cel) = hC:=by rfl
theorem e_w : LV.agg (wlc hw) = hW:=by rfl
theorem e_u : LV.agg (wlc hu) = hU:=by rfl
theorem v_c : VC hc:=by
 refine ⟨?_,?_,by decide,by decide,by decide,by decide,?_,?_,?_⟩
 ·constructor <;> simp [hc]
 ·constructor <;> simp [hc]
 ·intro p hp
  simp only [hc,Qae] at hp
  subst hp
  rw [← val_iff]; kernel_rfl
 ·intro p hp
  simp only [hc,Q7,Qcr,or_false] at hp
  rcases hp with rfl | rfl <;> kernel_rfl
 ·intro p hp
  simp only [hc,Qae] at hp
  subst hp
  kernel_rfl
theorem f_w : FT hc hw:=⟨v_c,plB_Pld (by kernel_rfl),by kernel_rfl⟩
theorem f_u : FT hc hu:=⟨v_c,plB_Pld (by kernel_rfl),by kernel_rfl⟩
def sB (a b : List Pt) : Bool:=cvxB a && (cvxB b && ((List.range a.length).any (fun i=>isepB a b 0 i) || (List.range b.length).any (fun i=>isepB a b 1 i)))
theorem sB_no {a b : List Pt} (A : Val a) (B : Val b) (h : sB a b = true) : (FC a b).isSome = false:=by
 unfold sB at h
 simp only [Qg,Qau,Qas,Qq] at h
 obtain ⟨h1,h2,⟨i,_,h3⟩ | ⟨i,_,h3⟩⟩:=h
 ·exact (Go.Geo.isep_no A B (fun _=>h1) (fun _=>h2) h3).1
 ·exact (Go.Geo.isep_no A B (fun _=>h1) (fun _=>h2) h3).1
theorem hit_sep {l : List Bd} (V : AllV l) : pfs tch l = ((prs l).filter fun p=>!sB p.1.ar p.2.ar).filter hitP:=by
 rw [pfs_tch,List.filter_filter]
 refine Qc1 fun p hp=>?_
 have m:=prs_mem hp
 cases h : sB p.1.ar p.2.ar with
 | true=>simp [hitP,sB_no (V _ m.1) (V _ m.2) h]
 | false=>simp
theorem n_w : ((prs (bodies hc hw)).filter fun p=>!sB p.1.ar p.2.ar) = []:=by kernel_rfl
theorem t_w : pfs tch (bodies hc hw) = []:=by rw [hit_sep f_w.val,n_w]; rfl
def pA : List Pt:=[(-8788000,-4394000),(8788000,-4394000),(8788000,4394000),(-8788000,4394000)]
def pB : List Pt:=[(-4394000,-4394000),(4394000,-4394000),(4394000,4394000),(-4394000,4394000)]
theorem n_u : ((prs (bodies hc hu)).filter fun p=>!sB p.1.ar p.2.ar) = [(⟨1,0,2,pA⟩,⟨4,0,0,pB⟩)]:=by kernel_rfl
theorem r_u : pc E 57 [.vs (pA.map Go.Geo.c2),.vs (pB.map Go.Geo.c2)] = some (.bool true):=by
 refine pc_of_run 200 ?_
 kernel_rfl
theorem h_u : (FC pA pB).isSome = true:=by
 have h:=Go.Proofs.YtbpneedpcccpaaaGreat.G.c57 pA pB (by decide) (by decide)
 rw [r_u] at h
 exact (LV.bool.inj (Option.some.inj h)).symm
theorem t_u : pfs tch (bodies hc hu) = [(⟨1,0,2,pA⟩,⟨4,0,0,pB⟩)]:=by
 rw [hit_sep f_u.val,n_u]
 have : hitP (⟨1,0,2,pA⟩,⟨4,0,0,pB⟩) = true:=h_u
 rw [Qct this]; rfl
theorem h21 : pc E 21 [hC,hU] = some (.vs [bpc (⟨1,0,2,pA⟩,⟨4,0,0,pB⟩)]):=by
 have h:=c21 hc hu v_c.fin f_u.p f_u.kinds f_u.len
 rw [t_u,e_c,e_u] at h
 exact h
theorem h23w : pc E 23 [hC,hW] = some (.bool true):=by
 have h:=c23 hc hw v_c.fin f_w.p f_w.kinds f_w.len
 rw [t_w,e_c,e_w] at h
 exact h
theorem h23u : pc E 23 [hC,hU] = some (.bool false):=by
 have h:=c23 hc hu v_c.fin f_u.p f_u.kinds f_u.len
 rw [t_u,e_c,e_u,decide_eq_false (by simp)] at h
 exact h
theorem c10 : pc E 10 [] = some (.bool true):=by
 have s1:=h16
 have s2:=h19
 have s3:=h13w
 have s4:=h13v
 have s5:=h21
 have s6:=h23w
 have s7:=h23u
 simp only [pA,pB,Qk,Q0,Go.Geo.c2] at s5
 rw [pc_eq]; simp +contextual -implicitDefEqProofs (maxSteps:=2000000) only [go_sem,E_10,A10,c33,c34,s1,s2,s3,s4,s5,s6,s7,g1,g2,g3,g4,pA,pB,Go.Geo.c2,Qk,Q0]
end Go.Proofs.YtbpneedpcccpaaaGreat

namespace Go.Proofs.YtbpneedpcccpaaaGreat
open Go Go.Zv
open Go.Geo (Pt mayB Val FC)
end Go.Proofs.YtbpneedpcccpaaaGreat
