/- Part of the proof: the evaluation of the program's code and its tie to the machine, or what functions of the program compute over it. -/
import Derived.Test.YtbpneedpcccpaaaGreatPart2
import Derived.Test.YtbpneedpcccpaaaGreatPart1
set_option maxRecDepth 100000
set_option maxHeartbeats 4000000
set_option linter.unusedSimpArgs false
set_option linter.unusedVariables false
namespace Go.Proofs.YtbpneedpcccpaaaGreat
open Go Go.Zv
open Go.Geo (Pt)
def ldP (ax ay dx dy : Int) (p : Pt) : Pt:=(w64 (ax + w64 (16 * w64 (w64 (p.1 * dx) - w64 (p.2 * dy)))),w64 (ay + w64 (16 * w64 (w64 (p.1 * dy) + w64 (p.2 * dx)))))
def laid_ (ax ay dx dy : Int) (l : List Pt) : List Pt:=l.map (ldP ax ay dx dy)
theorem take_ml {α β : Type} (f : α → β) (l : List α) : List.take l.length (l.map f) = l.map f:=Q4 (by simp)
abbrev ldR (ax ay dx dy : Int) (l : List Pt) (k : Nat) : List (List LV):=(l.take k).map (fun q=>Go.Geo.c2 (ldP ax ay dx dy q))
theorem c79 (nm : List UInt8) (sh : List Pt) (pl ax ay dx dy dn : Int) (hl : sh.length≤1000) : pc E 79 [.agg [.str nm,.vs (sh.map Go.Geo.c2),.int .i64 pl],.agg [.int .i64 ax,.int .i64 ay],.agg [.int .i64 dx,.int .i64 dy,.int .i64 dn]] = some (.vs ((laid_ ax ay dx dy sh).map Go.Geo.c2)):=by
 have lp:=loop_to (fun S=>(K E A106_L0 S).bind (blockR 0 (some [5]) [7,20,21]))
  (fun k=>⟨[(1,.fn (Fn.func 107) [] [.ptr 1024 0,.ptr 1280 0]),(5,.bs 1051136 0 (ldR ax ay dx dy sh k).length),(11,.vs (sh.map Go.Geo.c2)),(12,.int .i64 sh.length),(13,.int .i64 k)],[[(9,.fn (Fn.func 107) [] [.ptr 1024 0,.ptr 1280 0]),(8,.vs (sh.map Go.Geo.c2)),(7,.ptr 768 1),(3,.ptr 768 0),(4,.ptr 1024 0),(5,.ptr 1280 0)]],[(1051136,.row 2 (ldR ax ay dx dy sh k)),(1049600,.row 2 []),(1536,.row 2 []),(1280,.box [.int .i64 dx,.int .i64 dy,.int .i64 dn]),(1024,.box [.int .i64 ax,.int .i64 ay]),(768,.box [.str nm,.vs (sh.map Go.Geo.c2),.int .i64 pl])],1⟩)
  sh.length (fun k hk=>by
   have hget : sh[k]? = some (sh[k]'hk):=Qg _
   have ht : sh.take (k + 1) = sh.take k++[sh[k]'hk]:=by rw [Qbn,hget]; rfl
   show (K E A106_L0 _).bind _ = (K E A106_L0 _).bind _
   unfold ldR
   rw [ht,Qq]
   generalize sh[k]'hk = p at *
   have g1:=Go.Geo.get_c2 hget
   have h1 : (k : Int) < sh.length:=by omega
   have h0 : (0 : Int)≤k:=by omega
   have hw:=Go.Geo.wr_k (k:=k) (by omega)
   have hr : ((sh.take k).map (fun q=>Go.Geo.c2 (ldP ax ay dx dy q))).length≤999999999:=by rw [Qb,Qbl]; omega
   generalize (sh.take k).map (fun q=>Go.Geo.c2 (ldP ax ay dx dy q)) = rows at *
   obtain ⟨x,y⟩:=p
   conv=>lhs; rw [A106_L0_eq]
   have o:=Go.Proofs.YtbpneedpcccpaaaGreat.G.c65 ax ay (w64 (16 * w64 (w64 (x * dx) - w64 (y * dy)))) (w64 (16 * w64 (w64 (x * dy) + w64 (y * dx))))
   simp only [w64] at o
   simp +contextual -implicitDefEqProofs (maxSteps:=2000000) only [go_sem,A106_L0b,Qb,h0,h1,g1,hw,hr,o,E_107,A107,ldP,Go.Geo.c2,Qp,Qad,Qj])
 simp only [Qs,Qz] at lp
 have z0 : ldR ax ay dx dy sh 0 = []:=rfl
 have zn : ldR ax ay dx dy sh sh.length = (laid_ ax ay dx dy sh).map Go.Geo.c2:=by simp [ldR,laid_,Qaz,Function.comp_def]
 have st : (K E A106_L0 ⟨[(1,.fn (Fn.func 107) [] [.ptr 1024 0,.ptr 1280 0]),(5,.bs 1051136 0 (ldR ax ay dx dy sh sh.length).length),(11,.vs (sh.map Go.Geo.c2)),(12,.int .i64 sh.length),(13,.int .i64 sh.length)],[[(9,.fn (Fn.func 107) [] [.ptr 1024 0,.ptr 1280 0]),(8,.vs (sh.map Go.Geo.c2)),(7,.ptr 768 1),(3,.ptr 768 0),(4,.ptr 1024 0),(5,.ptr 1280 0)]],[(1051136,.row 2 (ldR ax ay dx dy sh sh.length)),(1049600,.row 2 []),(1536,.row 2 []),(1280,.box [.int .i64 dx,.int .i64 dy,.int .i64 dn]),(1024,.box [.int .i64 ax,.int .i64 ay]),(768,.box [.str nm,.vs (sh.map Go.Geo.c2),.int .i64 pl])],1⟩).bind (blockR 0 (some [5]) [7,20,21]) = some (.ex .nrm ⟨[(5,.bs 1051136 0 (ldR ax ay dx dy sh sh.length).length)],[[(9,.fn (Fn.func 107) [] [.ptr 1024 0,.ptr 1280 0]),(8,.vs (sh.map Go.Geo.c2)),(7,.ptr 768 1),(3,.ptr 768 0),(4,.ptr 1024 0),(5,.ptr 1280 0)]],[(1051136,.row 2 (ldR ax ay dx dy sh sh.length)),(1049600,.row 2 []),(1536,.row 2 []),(1280,.box [.int .i64 dx,.int .i64 dy,.int .i64 dn]),(1024,.box [.int .i64 ax,.int .i64 ay]),(768,.box [.str nm,.vs (sh.map Go.Geo.c2),.int .i64 pl])],1⟩):=by
  generalize ldR ax ay dx dy sh sh.length = rows
  rw [A106_L0_eq]; simp +contextual -implicitDefEqProofs (maxSteps:=2000000) only [go_sem,A106_L0b,Qt]
 rw [z0,st,zn] at lp
 simp only [Qa0,Qb] at lp
 have l0 : (0 : Int)≤sh.length:=by omega
 have l1 : (sh.length : Int)≤1000000000:=by omega
 rw [pc_eq]; simp +contextual -implicitDefEqProofs (maxSteps:=2000000) only [go_sem,E_79,A79,E_106,A106,l0,l1,Qb,lp,take_ml]
theorem c53 (nm : List UInt8) (sh : List Pt) (pl ax ay dx dy dn : Int) (hl : sh.length≤1000) : pc E 53 [.agg [.str nm,.vs (sh.map Go.Geo.c2),.int .i64 pl],.agg [.int .i64 ax,.int .i64 ay],.agg [.int .i64 dx,.int .i64 dy,.int .i64 dn]] = some (.os 2 ((laid_ ax ay dx dy sh).map Go.Geo.c2)):=by
 have lp:=loop_to (fun S=>(K E A53_L0 S).bind (blockR 0 (some [7]) [8,9,10,58]))
  (fun k=>⟨[(3,.ptr 768 0),(4,.ptr 1024 0),(5,.ptr 1280 0),(7,.bs 1792 0 (ldR ax ay dx dy sh k).length),(8,.int .i64 k)],[],[(1792,.row 2 (ldR ax ay dx dy sh k)),(1536,.row 2 []),(1280,.box [.int .i64 dx,.int .i64 dy,.int .i64 dn]),(1024,.box [.int .i64 ax,.int .i64 ay]),(768,.box [.str nm,.vs (sh.map Go.Geo.c2),.int .i64 pl])],0⟩)
  sh.length (fun k hk=>by
   have hget : sh[k]? = some (sh[k]'hk):=Qg _
   have ht : sh.take (k + 1) = sh.take k++[sh[k]'hk]:=by rw [Qbn,hget]; rfl
   show (K E A53_L0 _).bind _ = (K E A53_L0 _).bind _
   unfold ldR
   rw [ht,Qq]
   generalize sh[k]'hk = p at *
   have g1:=Go.Geo.get_c2 hget
   have h1 : (k : Int) < sh.length:=by omega
   have h0 : (0 : Int)≤k:=by omega
   have hw:=Go.Geo.wr_k (k:=k) (by omega)
   have hr : ((sh.take k).map (fun q=>Go.Geo.c2 (ldP ax ay dx dy q))).length≤999999999:=by rw [Qb,Qbl]; omega
   generalize (sh.take k).map (fun q=>Go.Geo.c2 (ldP ax ay dx dy q)) = rows at *
   obtain ⟨x,y⟩:=p
   conv=>lhs; rw [A53_L0_eq]
   simp +contextual -implicitDefEqProofs (maxSteps:=2000000) only [go_sem,A53_L0b,Qb,h0,h1,g1,hw,hr,ldP,Go.Geo.c2,Qp,Qad,Qj])
 simp only [Qs,Qz] at lp
 have z0 : ldR ax ay dx dy sh 0 = []:=rfl
 have zn : ldR ax ay dx dy sh sh.length = (laid_ ax ay dx dy sh).map Go.Geo.c2:=by simp [ldR,laid_,Qaz,Function.comp_def]
 have st : ∀ rows : List (List LV),(K E A53_L0 ⟨[(3,.ptr 768 0),(4,.ptr 1024 0),(5,.ptr 1280 0),(7,.bs 1792 0 rows.length),(8,.int .i64 sh.length)],[],[(1792,.row 2 rows),(1536,.row 2 []),(1280,.box [.int .i64 dx,.int .i64 dy,.int .i64 dn]),(1024,.box [.int .i64 ax,.int .i64 ay]),(768,.box [.str nm,.vs (sh.map Go.Geo.c2),.int .i64 pl])],0⟩).bind (blockR 0 (some [7]) [8,9,10,58]) = some (.ex .nrm ⟨[(7,.bs 1792 0 rows.length)],[],[(1792,.row 2 rows),(1536,.row 2 []),(1280,.box [.int .i64 dx,.int .i64 dy,.int .i64 dn]),(1024,.box [.int .i64 ax,.int .i64 ay]),(768,.box [.str nm,.vs (sh.map Go.Geo.c2),.int .i64 pl])],0⟩):=fun rows=>by
  rw [A53_L0_eq]; simp +contextual -implicitDefEqProofs (maxSteps:=2000000) only [go_sem,A53_L0b,Qt,Qb]
 rw [z0,st,zn] at lp
 simp only [Qa0,Qb] at lp
 rw [pc_eq]; simp +contextual -implicitDefEqProofs (maxSteps:=2000000) only [go_sem,E_53,A53,hl,Qb,lp,take_ml]
end Go.Proofs.YtbpneedpcccpaaaGreat

namespace Go.Proofs.YtbpneedpcccpaaaGreat
open Go Go.Zv
open Go.Geo (Pt)
structure Wl where
 q0 : Int
 q1 : Int
 q2 : Int
 q3 : Int
 q4 : Int
 q5 : Int
 h0 : Int
 h1 : Int
 wh : List Int
abbrev wlc (w : Wl) : List LV:=[.int .i64 w.q0,.int .i64 w.q1,.int .i64 w.q2,.int .i64 w.q3,.int .i64 w.q4,.int .i64 w.q5,.int .i64 w.h0,.int .i64 w.h1,.vs (w.wh.map Go.Geo.c1)]
theorem c45 (c : Cel) (w : Wl) : pc E 45 [.agg (cec c),.agg (wlc w)] = some (.fn (.func 77) [] [.fp (cec c),.fp (wlc w)]):=by
 rw [pc_eq]; simp +contextual -implicitDefEqProofs (maxSteps:=2000000) only [go_sem,E_45,A45]
theorem c55 (c : Cel) (w : Wl) : pc E 55 [.agg (cec c),.agg (wlc w)] = some (.fn (.func 86) [] [.fp (cec c),.fp (wlc w)]):=by
 rw [pc_eq]; simp +contextual -implicitDefEqProofs (maxSteps:=2000000) only [go_sem,E_55,A55]
def crd (c : Cl) (a : Arm) (i q0 q1 q2 h : Int) : List Bd:=if h < 0 then [] else [⟨2,i,0,laid_ (pp a (dd q0 q1 q2)).x3 (pp a (dd q0 q1 q2)).y3 (dd q0 q1 q2).x3 (dd q0 q1 q2).y3 (c.pt.getD h.toNat default).sh⟩]
def rsI (c : Cl) (wh : List Int) (i : Nat) : List Bd:=if wh.getD i 0 < 0 then [] else [⟨3,i,0,laid_ (c.pl.getD (wh.getD i 0).toNat default).x (c.pl.getD (wh.getD i 0).toNat default).y (c.pl.getD (wh.getD i 0).toNat default).dx (c.pl.getD (wh.getD i 0).toNat default).dy (c.pt.getD i default).sh⟩]
def rst (c : Cl) (wh : List Int) (n : Nat) : List Bd:=(List.range n).flatMap (rsI c wh)
def fxI (c : Cl) (i : Nat) : Bd:=⟨4,i,0,c.fx.getD i []⟩
def fxt (c : Cl) (n : Nat) : List Bd:=(List.range n).map (fxI c)
def lnk (i : Int) (l : List (List Pt)) : List Bd:=[⟨1,i,0,l.getD 0 []⟩,⟨1,i,1,l.getD 1 []⟩,⟨1,i,2,l.getD 2 []⟩]
def bodies (c : Cl) (w : Wl) : List Bd :=
 lnk 0 (lks c.a (dd w.q0 w.q1 w.q2))++(lnk 1 (lks c.b (dd w.q3 w.q4 w.q5))++(crd c c.a 0 w.q0 w.q1 w.q2 w.h0++(crd c c.b 1 w.q3 w.q4 w.q5 w.h1++(rst c w.wh w.wh.length++fxt c c.fx.length))))
structure Pld (c : Cl) (w : Wl) : Prop where
 len : w.wh.length = c.pt.length
 at_ : ∀ x ∈ w.wh,-1≤x∧x < c.pl.length
 h0 : -1≤w.h0∧w.h0 < c.pt.length
 h1 : -1≤w.h1∧w.h1 < c.pt.length
abbrev T16 (c : Cl) (w : Wl) : Env:=[(4,.bs 1024 0 0),(5,.ptr 1280 0),(9,.fn (Fn.func 77) [] [.fp (cec c.cel),.fp (wlc w)])]
abbrev F16 (c : Cl) (w : Wl) : List Env:=[T16 c w,[(0,.yl 1024000)]]
abbrev O16 (c : Cl) (w : Wl) (rows : List (List LV)) : Heap:=[(1024000,.loop (T16 c w) [10] A16_R0a A16_R0b LSt.ready AEx.nrm),(1280,.box [.bs 1281 0 rows.length]),(1281,.row 4 rows),(1024,.row 4 [])]
theorem fx16 (c : Cl) (w : Wl) (hf : c.fx.length≤1000) (R : List (List LV)) (hR : R.length≤1000000) :
  (K E A77_L0 ⟨[(0,.yl 1024000),(118,.vs (c.fx.map Go.Geo.p1)),(119,.int .i64 c.fx.length),(120,.int .i64 0)],F16 c w,O16 c w R,1⟩).bind (blockR 8 (some []) [13,14,129]) =
   some (.ex .nrm ⟨[],F16 c w,O16 c w (R++(fxt c c.fx.length).map bdc),1⟩):=by
 have lp:=loop_to (fun S=>(K E A77_L0 S).bind (blockR 8 (some []) [13,14,129]))
  (fun k=>⟨[(0,.yl 1024000),(118,.vs (c.fx.map Go.Geo.p1)),(119,.int .i64 c.fx.length),(120,.int .i64 k)],F16 c w,O16 c w (R++(fxt c k).map bdc),1⟩) c.fx.length (fun k hk=>by
   have hget : c.fx[k]? = some (c.fx.getD k []):=Go.Geo.getD_of [] hk
   show (K E A77_L0 _).bind _ = (K E A77_L0 _).bind _
   have e : R++(fxt c (k + 1)).map bdc = R++(fxt c k).map bdc++[[.int .i64 4,.int .i64 k,.int .i64 0,.vs ((c.fx.getD k []).map Go.Geo.c2)]]:=by
    unfold fxt
    rw [Qbb,Qq,Qq,Qao]; rfl
   rw [e]
   have hr : (R++(fxt c k).map bdc).length≤999999999:=by simp [fxt]; omega
   generalize R++(fxt c k).map bdc = rows at *
   generalize c.fx.getD k [] = p at *
   have g1 : (c.fx.map Go.Geo.p1)[k]? = some [.vs (p.map Go.Geo.c2)]:=Go.Geo.get_m Go.Geo.p1 hget
   have h1 : (k : Int) < c.fx.length:=by omega
   have h0 : (0 : Int)≤k:=by omega
   have hw:=Go.Geo.wr_k (k:=k) (by omega)
   conv=>lhs; rw [A77_L0_eq]
   simp +contextual -implicitDefEqProofs (maxSteps:=2000000) only [go_sem,O16,F16,T16,A77_L0b,A16_R0a,A16_R0b,Qb,h0,h1,g1,hw,hr,Qj])
 simp only [Qs,Qz] at lp
 have e0 : R++(fxt c 0).map bdc = R:=by simp [fxt]
 rw [e0] at lp
 rw [lp]
 generalize R++(fxt c c.fx.length).map bdc = rows
 rw [A77_L0_eq]; simp +contextual -implicitDefEqProofs (maxSteps:=2000000) only [go_sem,A77_L0b,Qt,Qb]
theorem rs16 (c : Cl) (w : Wl) (P : Pld c w) (hp : ∀ p ∈ c.pt,p.sh.length≤1000) (hl : c.pt.length≤1000) (R : List (List LV)) (hR : R.length≤10000) :
  (K E A77_L1 ⟨[(0,.yl 1024000),(1,.fp (cec c.cel)),(82,.vs (w.wh.map Go.Geo.c1)),(83,.int .i64 w.wh.length),(84,.int .i64 0)],F16 c w,O16 c w R,1⟩).bind (blockR 6 (some [0,1]) [11,12,111,113]) =
   some (.ex .nrm ⟨[(0,.yl 1024000),(1,.fp (cec c.cel))],F16 c w,O16 c w (R++(rst c w.wh w.wh.length).map bdc),1⟩):=by
 have lp:=loop_to (fun S=>(K E A77_L1 S).bind (blockR 6 (some [0,1]) [11,12,111,113]))
  (fun k=>⟨[(0,.yl 1024000),(1,.fp (cec c.cel)),(82,.vs (w.wh.map Go.Geo.c1)),(83,.int .i64 w.wh.length),(84,.int .i64 k)],F16 c w,O16 c w (R++(rst c w.wh k).map bdc),1⟩) w.wh.length (fun k hk=>by
   have hget : w.wh[k]? = some (w.wh.getD k 0):=Go.Geo.getD_of 0 hk
   have hm:=P.at_ _ (Qd hget)
   have hpl:=P.len
   have hgp : c.pt[k]? = some (c.pt.getD k default):=Go.Geo.getD_of default (by omega)
   have hsh:=hp _ (Qd hgp)
   show (K E A77_L1 _).bind _ = (K E A77_L1 _).bind _
   have e : rst c w.wh (k + 1) = rst c w.wh k++rsI c w.wh k:=by
    unfold rst
    rw [Qbb,Qb7]; simp
   have hlen : (rst c w.wh k).length≤k:=by
    have : ∀ n,(rst c w.wh n).length≤n:=fun n=>by
     induction n with
     | zero=>simp [rst]
     | succ n ih =>
       have e : rst c w.wh (n + 1) = rst c w.wh n++rsI c w.wh n:=by
        unfold rst
        rw [Qbb,Qb7]; simp
       rw [e,Qj]
       have : (rsI c w.wh n).length≤1:=by unfold rsI; split <;> simp
       omega
    exact this k
   have hr : (R++(rst c w.wh k).map bdc).length≤999999999:=by simp; omega
   rw [e,Qq,← Qao]
   generalize R++(rst c w.wh k).map bdc = rows at *
   unfold rsI
   have g1 : (w.wh.map Go.Geo.c1)[k]? = some [.int .i64 (w.wh.getD k 0)]:=Go.Geo.get_m Go.Geo.c1 hget
   have g2:=Go.Geo.get_m Go.Geo.prv hgp
   simp only [Go.Geo.prv] at g2
   generalize w.wh.getD k 0 = x at *
   generalize c.pt.getD k default = p at *
   have h1 : (k : Int) < w.wh.length:=by omega
   have h0 : (0 : Int)≤k:=by omega
   have h2 : (k : Int) < c.pt.length:=by omega
   have hw:=Go.Geo.wr_k (k:=k) (by omega)
   conv=>lhs; rw [A77_L1_eq]
   by_cases hx : x < 0
   ·have hx' : ¬ (0≤x):=by omega
    rw [if_pos hx]
    simp +contextual -implicitDefEqProofs (maxSteps:=2000000) only [go_sem,O16,F16,T16,A77_L1b,Qb,h0,h1,g1,hw,hx',Qa3]
   ·have hx' : 0≤x:=by omega
    have hgl : c.pl[x.toNat]? = some (c.pl.getD x.toNat default):=Go.Geo.getD_of default (by omega)
    have g3:=Go.Geo.get_m Go.Geo.plv hgl
    simp only [Go.Geo.plv] at g3
    rw [if_neg hx]
    generalize c.pl.getD x.toNat default = l at *
    have o:=c79 p.nm p.sh p.at_ l.x l.y l.dx l.dy l.dn hsh
    have hx2:=hm.2
    simp +contextual -implicitDefEqProofs (maxSteps:=2000000) only [go_sem,O16,F16,T16,A77_L1b,A16_R0a,A16_R0b,Qb,h0,h1,h2,g1,g2,g3,hw,hr,hx',hx2,o,Qj])
 simp only [Qs,Qz] at lp
 have e0 : R++(rst c w.wh 0).map bdc = R:=by simp [rst]
 rw [e0] at lp
 rw [lp]
 generalize R++(rst c w.wh w.wh.length).map bdc = rows
 rw [A77_L1_eq]; simp +contextual -implicitDefEqProofs (maxSteps:=2000000) only [go_sem,A77_L1b,Qt,Qb]
end Go.Proofs.YtbpneedpcccpaaaGreat

namespace Go.Proofs.YtbpneedpcccpaaaGreat
open Go Go.Zv
open Go.Geo (Pt)
structure Fin_ (c : Cl) : Prop where
 ha : OKa c.a
 hb : OKa c.b
 sh : ∀ p ∈ c.pt,p.sh.length≤1000
 pl : c.pt.length≤1000
 fl : c.fx.length≤1000
theorem lks3 (a : Arm) (d : Pts) : ∃ L0 L1 L2,lks a d = [L0,L1,L2]:=⟨_,_,_,rfl⟩
theorem c16 (c : Cl) (w : Wl) (H : Fin_ c) (P : Pld c w) : pc E 16 [.agg (cec c.cel),.agg (wlc w)] = some (.vs ((bodies c w).map bdc)):=by
 obtain ⟨L0,L1,L2,hL⟩:=lks3 c.a (dd w.q0 w.q1 w.q2)
 obtain ⟨M0,M1,M2,hM⟩:=lks3 c.b (dd w.q3 w.q4 w.q5)
 have o1:=c78 c.a H.ha w.q0 w.q1 w.q2
 have o2:=c78 c.b H.hb w.q3 w.q4 w.q5
 rw [hL] at o1
 rw [hM] at o2
 have o1 : pc E 78 [av c.a,jv w.q0 w.q1 w.q2] = some (.agg [.vs (L0.map Go.Geo.c2),.vs (L1.map Go.Geo.c2),.vs (L2.map Go.Geo.c2)]):=o1
 have o2 : pc E 78 [av c.b,jv w.q3 w.q4 w.q5] = some (.agg [.vs (M0.map Go.Geo.c2),.vs (M1.map Go.Geo.c2),.vs (M2.map Go.Geo.c2)]):=o2
 have j1:=c80 c.a H.ha w.q0 w.q1 w.q2
 have j2:=c80 c.b H.hb w.q3 w.q4 w.q5
 have d1:=c81' c.a w.q0 w.q1 w.q2
 have d2:=c81' c.b w.q3 w.q4 w.q5
 unfold bodies
 rw [hL,hM]
 have e45:=c45 c.cel w
 have hh0:=P.h0
 have hh1:=P.h1
 have hrs:=rs16 c w P H.sh H.pl
 have hfx:=fx16 c w H.fl
 have hfin : ∀ X : List Bd,((lnk 0 [L0,L1,L2]++(lnk 1 [M0,M1,M2]++X)).map bdc) = [[.int .i64 1,.int .i64 0,.int .i64 0,.vs (L0.map Go.Geo.c2)],[.int .i64 1,.int .i64 0,.int .i64 1,.vs (L1.map Go.Geo.c2)],[.int .i64 1,.int .i64 0,.int .i64 2,.vs (L2.map Go.Geo.c2)],[.int .i64 1,.int .i64 1,.int .i64 0,.vs (M0.map Go.Geo.c2)],[.int .i64 1,.int .i64 1,.int .i64 1,.vs (M1.map Go.Geo.c2)],[.int .i64 1,.int .i64 1,.int .i64 2,.vs (M2.map Go.Geo.c2)]]++X.map bdc:=fun X=>by
  rw [Qq,Qq,← Qao]; rfl
 rw [hfin]
 have hlen : ((rst c w.wh w.wh.length).map bdc).length≤1000:=by
  rw [Qb]
  have : ∀ n,(rst c w.wh n).length≤n:=fun n=>by
   induction n with
   | zero=>simp [rst]
   | succ n ih =>
     have e : rst c w.wh (n + 1) = rst c w.wh n++rsI c w.wh n:=by
      unfold rst
      rw [Qbb,Qb7]; simp
     rw [e,Qj]
     have : (rsI c w.wh n).length≤1:=by unfold rsI; split <;> simp
     omega
  have:=this w.wh.length
  have:=P.len
  have:=H.pl
  omega
 have hf1 : ((fxt c c.fx.length).map bdc).length≤1000:=by
  have:=H.fl
  simp [fxt]; omega
 have y1 : (c.fx.map Go.Geo.p1).length = c.fx.length:=Qb ..
 have y2 : (w.wh.map Go.Geo.c1).length = w.wh.length:=Qb ..
 have y3 : (c.pt.map Go.Geo.prv).length = c.pt.length:=Qb ..
 have key : ∀ (h : Int),-1≤h → h < c.pt.length → ¬ h < 0 → ∃ p : Go.Geo.Prt,c.pt.getD h.toNat default = p∧(c.pt.map Go.Geo.prv)[h.toNat]? = some [.str p.nm,.vs (p.sh.map Go.Geo.c2),.int .i64 p.at_]∧0≤h ∧ ∀ ax ay dx dy dn,pc E 79 [.agg [.str p.nm,.vs (p.sh.map Go.Geo.c2),.int .i64 p.at_],.agg [.int .i64 ax,.int .i64 ay],.agg [.int .i64 dx,.int .i64 dy,.int .i64 dn]] = some (.vs ((laid_ ax ay dx dy p.sh).map Go.Geo.c2)):=fun h h1 h2 h3=>by
  have hg : c.pt[h.toNat]? = some (c.pt.getD h.toNat default):=Go.Geo.getD_of default (by omega)
  refine ⟨_,rfl,Go.Geo.get_m Go.Geo.prv hg,by omega,fun ax ay dx dy dn=>c79 _ _ _ _ _ _ _ _ (H.sh _ (Qd hg))⟩
 unfold crd
 by_cases n0 : w.h0 < 0
 ·by_cases n1 : w.h1 < 0
  ·skip
   rw [if_pos n0,if_pos n1]
   have a1:=hrs [[.int .i64 1,.int .i64 0,.int .i64 0,.vs (L0.map Go.Geo.c2)],[.int .i64 1,.int .i64 0,.int .i64 1,.vs (L1.map Go.Geo.c2)],[.int .i64 1,.int .i64 0,.int .i64 2,.vs (L2.map Go.Geo.c2)],[.int .i64 1,.int .i64 1,.int .i64 0,.vs (M0.map Go.Geo.c2)],[.int .i64 1,.int .i64 1,.int .i64 1,.vs (M1.map Go.Geo.c2)],[.int .i64 1,.int .i64 1,.int .i64 2,.vs (M2.map Go.Geo.c2)]] (by simp)
   have a2:=hfx ([[.int .i64 1,.int .i64 0,.int .i64 0,.vs (L0.map Go.Geo.c2)],[.int .i64 1,.int .i64 0,.int .i64 1,.vs (L1.map Go.Geo.c2)],[.int .i64 1,.int .i64 0,.int .i64 2,.vs (L2.map Go.Geo.c2)],[.int .i64 1,.int .i64 1,.int .i64 0,.vs (M0.map Go.Geo.c2)],[.int .i64 1,.int .i64 1,.int .i64 1,.vs (M1.map Go.Geo.c2)],[.int .i64 1,.int .i64 1,.int .i64 2,.vs (M2.map Go.Geo.c2)]]++(rst c w.wh w.wh.length).map bdc) (by simp at hlen ⊢; omega)
   simp only [Qk,Ql,Qq,Qp,Qad]
   generalize (rst c w.wh w.wh.length).map bdc = X at *
   generalize (fxt c c.fx.length).map bdc = Y at *
   rw [Qao] at a2
   generalize X++Y = Z at *
   simp only [O16,F16,T16,A16_R0a,A16_R0b,Ql,Qk,Q6,Qa0,Qj] at a1 a2
   rw [pc_eq]; simp +contextual -implicitDefEqProofs (maxSteps:=2000000) only [go_sem,E_16,A16,e45,E_77,A77,A77_L4_eq,A77_L4b,A77_L3_eq,A77_L3b,A77_L2_eq,A77_L2b,A16_R0,A16_R0a,A16_R0b,o1,o2,j1,j2,d1,d2,n0,n1,a1,a2,y1,y2,y3]
  ·skip
   rw [if_pos n0,if_neg n1]
   obtain ⟨p1,e1,g1,m1,t1⟩:=key w.h1 hh1.1 hh1.2 n1
   rw [e1]
   have k1:=hh1.2
   have a1:=hrs [[.int .i64 1,.int .i64 0,.int .i64 0,.vs (L0.map Go.Geo.c2)],[.int .i64 1,.int .i64 0,.int .i64 1,.vs (L1.map Go.Geo.c2)],[.int .i64 1,.int .i64 0,.int .i64 2,.vs (L2.map Go.Geo.c2)],[.int .i64 1,.int .i64 1,.int .i64 0,.vs (M0.map Go.Geo.c2)],[.int .i64 1,.int .i64 1,.int .i64 1,.vs (M1.map Go.Geo.c2)],[.int .i64 1,.int .i64 1,.int .i64 2,.vs (M2.map Go.Geo.c2)],[.int .i64 2,.int .i64 1,.int .i64 0,.vs ((laid_ (pp c.b (dd w.q3 w.q4 w.q5)).x3 (pp c.b (dd w.q3 w.q4 w.q5)).y3 (dd w.q3 w.q4 w.q5).x3 (dd w.q3 w.q4 w.q5).y3 p1.sh).map Go.Geo.c2)]] (by simp)
   have a2:=hfx ([[.int .i64 1,.int .i64 0,.int .i64 0,.vs (L0.map Go.Geo.c2)],[.int .i64 1,.int .i64 0,.int .i64 1,.vs (L1.map Go.Geo.c2)],[.int .i64 1,.int .i64 0,.int .i64 2,.vs (L2.map Go.Geo.c2)],[.int .i64 1,.int .i64 1,.int .i64 0,.vs (M0.map Go.Geo.c2)],[.int .i64 1,.int .i64 1,.int .i64 1,.vs (M1.map Go.Geo.c2)],[.int .i64 1,.int .i64 1,.int .i64 2,.vs (M2.map Go.Geo.c2)],[.int .i64 2,.int .i64 1,.int .i64 0,.vs ((laid_ (pp c.b (dd w.q3 w.q4 w.q5)).x3 (pp c.b (dd w.q3 w.q4 w.q5)).y3 (dd w.q3 w.q4 w.q5).x3 (dd w.q3 w.q4 w.q5).y3 p1.sh).map Go.Geo.c2)]]++(rst c w.wh w.wh.length).map bdc) (by simp at hlen ⊢; omega)
   simp only [Qk,Ql,Qq,Qp,Qad]
   generalize (rst c w.wh w.wh.length).map bdc = X at *
   generalize (fxt c c.fx.length).map bdc = Y at *
   rw [Qao] at a2
   generalize X++Y = Z at *
   simp only [O16,F16,T16,A16_R0a,A16_R0b,Ql,Qk,Q6,Qa0,Qj] at a1 a2
   rw [pc_eq]; simp +contextual -implicitDefEqProofs (maxSteps:=2000000) only [go_sem,E_16,A16,e45,E_77,A77,A77_L4_eq,A77_L4b,A77_L3_eq,A77_L3b,A77_L2_eq,A77_L2b,A16_R0,A16_R0a,A16_R0b,o1,o2,j1,j2,d1,d2,n0,n1,m1,g1,k1,t1,a1,a2,y1,y2,y3]
 ·by_cases n1 : w.h1 < 0
  ·skip
   rw [if_neg n0,if_pos n1]
   obtain ⟨p0,e0,g0,m0,t0⟩:=key w.h0 hh0.1 hh0.2 n0
   rw [e0]
   have k0:=hh0.2
   have a1:=hrs [[.int .i64 1,.int .i64 0,.int .i64 0,.vs (L0.map Go.Geo.c2)],[.int .i64 1,.int .i64 0,.int .i64 1,.vs (L1.map Go.Geo.c2)],[.int .i64 1,.int .i64 0,.int .i64 2,.vs (L2.map Go.Geo.c2)],[.int .i64 1,.int .i64 1,.int .i64 0,.vs (M0.map Go.Geo.c2)],[.int .i64 1,.int .i64 1,.int .i64 1,.vs (M1.map Go.Geo.c2)],[.int .i64 1,.int .i64 1,.int .i64 2,.vs (M2.map Go.Geo.c2)],[.int .i64 2,.int .i64 0,.int .i64 0,.vs ((laid_ (pp c.a (dd w.q0 w.q1 w.q2)).x3 (pp c.a (dd w.q0 w.q1 w.q2)).y3 (dd w.q0 w.q1 w.q2).x3 (dd w.q0 w.q1 w.q2).y3 p0.sh).map Go.Geo.c2)]] (by simp)
   have a2:=hfx ([[.int .i64 1,.int .i64 0,.int .i64 0,.vs (L0.map Go.Geo.c2)],[.int .i64 1,.int .i64 0,.int .i64 1,.vs (L1.map Go.Geo.c2)],[.int .i64 1,.int .i64 0,.int .i64 2,.vs (L2.map Go.Geo.c2)],[.int .i64 1,.int .i64 1,.int .i64 0,.vs (M0.map Go.Geo.c2)],[.int .i64 1,.int .i64 1,.int .i64 1,.vs (M1.map Go.Geo.c2)],[.int .i64 1,.int .i64 1,.int .i64 2,.vs (M2.map Go.Geo.c2)],[.int .i64 2,.int .i64 0,.int .i64 0,.vs ((laid_ (pp c.a (dd w.q0 w.q1 w.q2)).x3 (pp c.a (dd w.q0 w.q1 w.q2)).y3 (dd w.q0 w.q1 w.q2).x3 (dd w.q0 w.q1 w.q2).y3 p0.sh).map Go.Geo.c2)]]++(rst c w.wh w.wh.length).map bdc) (by simp at hlen ⊢; omega)
   simp only [Qk,Ql,Qq,Qp,Qad]
   generalize (rst c w.wh w.wh.length).map bdc = X at *
   generalize (fxt c c.fx.length).map bdc = Y at *
   rw [Qao] at a2
   generalize X++Y = Z at *
   simp only [O16,F16,T16,A16_R0a,A16_R0b,Ql,Qk,Q6,Qa0,Qj] at a1 a2
   rw [pc_eq]; simp +contextual -implicitDefEqProofs (maxSteps:=2000000) only [go_sem,E_16,A16,e45,E_77,A77,A77_L4_eq,A77_L4b,A77_L3_eq,A77_L3b,A77_L2_eq,A77_L2b,A16_R0,A16_R0a,A16_R0b,o1,o2,j1,j2,d1,d2,n0,m0,g0,k0,t0,n1,a1,a2,y1,y2,y3]
  ·skip
   rw [if_neg n0,if_neg n1]
   obtain ⟨p0,e0,g0,m0,t0⟩:=key w.h0 hh0.1 hh0.2 n0
   rw [e0]
   have k0:=hh0.2
   obtain ⟨p1,e1,g1,m1,t1⟩:=key w.h1 hh1.1 hh1.2 n1
   rw [e1]
   have k1:=hh1.2
   have a1:=hrs [[.int .i64 1,.int .i64 0,.int .i64 0,.vs (L0.map Go.Geo.c2)],[.int .i64 1,.int .i64 0,.int .i64 1,.vs (L1.map Go.Geo.c2)],[.int .i64 1,.int .i64 0,.int .i64 2,.vs (L2.map Go.Geo.c2)],[.int .i64 1,.int .i64 1,.int .i64 0,.vs (M0.map Go.Geo.c2)],[.int .i64 1,.int .i64 1,.int .i64 1,.vs (M1.map Go.Geo.c2)],[.int .i64 1,.int .i64 1,.int .i64 2,.vs (M2.map Go.Geo.c2)],[.int .i64 2,.int .i64 0,.int .i64 0,.vs ((laid_ (pp c.a (dd w.q0 w.q1 w.q2)).x3 (pp c.a (dd w.q0 w.q1 w.q2)).y3 (dd w.q0 w.q1 w.q2).x3 (dd w.q0 w.q1 w.q2).y3 p0.sh).map Go.Geo.c2)],[.int .i64 2,.int .i64 1,.int .i64 0,.vs ((laid_ (pp c.b (dd w.q3 w.q4 w.q5)).x3 (pp c.b (dd w.q3 w.q4 w.q5)).y3 (dd w.q3 w.q4 w.q5).x3 (dd w.q3 w.q4 w.q5).y3 p1.sh).map Go.Geo.c2)]] (by simp)
   have a2:=hfx ([[.int .i64 1,.int .i64 0,.int .i64 0,.vs (L0.map Go.Geo.c2)],[.int .i64 1,.int .i64 0,.int .i64 1,.vs (L1.map Go.Geo.c2)],[.int .i64 1,.int .i64 0,.int .i64 2,.vs (L2.map Go.Geo.c2)],[.int .i64 1,.int .i64 1,.int .i64 0,.vs (M0.map Go.Geo.c2)],[.int .i64 1,.int .i64 1,.int .i64 1,.vs (M1.map Go.Geo.c2)],[.int .i64 1,.int .i64 1,.int .i64 2,.vs (M2.map Go.Geo.c2)],[.int .i64 2,.int .i64 0,.int .i64 0,.vs ((laid_ (pp c.a (dd w.q0 w.q1 w.q2)).x3 (pp c.a (dd w.q0 w.q1 w.q2)).y3 (dd w.q0 w.q1 w.q2).x3 (dd w.q0 w.q1 w.q2).y3 p0.sh).map Go.Geo.c2)],[.int .i64 2,.int .i64 1,.int .i64 0,.vs ((laid_ (pp c.b (dd w.q3 w.q4 w.q5)).x3 (pp c.b (dd w.q3 w.q4 w.q5)).y3 (dd w.q3 w.q4 w.q5).x3 (dd w.q3 w.q4 w.q5).y3 p1.sh).map Go.Geo.c2)]]++(rst c w.wh w.wh.length).map bdc) (by simp at hlen ⊢; omega)
   simp only [Qk,Ql,Qq,Qp,Qad]
   generalize (rst c w.wh w.wh.length).map bdc = X at *
   generalize (fxt c c.fx.length).map bdc = Y at *
   rw [Qao] at a2
   generalize X++Y = Z at *
   simp only [O16,F16,T16,A16_R0a,A16_R0b,Ql,Qk,Q6,Qa0,Qj] at a1 a2
   rw [pc_eq]; simp +contextual -implicitDefEqProofs (maxSteps:=2000000) only [go_sem,E_16,A16,e45,E_77,A77,A77_L4_eq,A77_L4b,A77_L3_eq,A77_L3b,A77_L2_eq,A77_L2b,A16_R0,A16_R0a,A16_R0b,o1,o2,j1,j2,d1,d2,n0,m0,g0,k0,t0,n1,m1,g1,k1,t1,a1,a2,y1,y2,y3]
end Go.Proofs.YtbpneedpcccpaaaGreat

namespace Go.Proofs.YtbpneedpcccpaaaGreat
open Go Go.Zv
end Go.Proofs.YtbpneedpcccpaaaGreat

namespace Go.Proofs.YtbpneedpcccpaaaGreat
open Go Go.Zv
theorem get_c2 {l : List (Int × Int)} {i : Nat} {p : Int × Int} (h : l[i]? = some p) : (l.map c2)[i]? = some [.int .i64 p.1,.int .i64 p.2]:=by
 rw [Qan,h]; rfl
def farI (ax ay bx by_ : Int) : Int:=((ax - bx).tdiv 16) * ((ax - bx).tdiv 16) + ((ay - by_).tdiv 16) * ((ay - by_).tdiv 16)
theorem c50 (a : Arm) (h : OKa a) (q0 q1 q2 : Int) : pc E 50 [av a,jv q0 q1 q2] = some (.agg ((lks a (dd q0 q1 q2)).map lkv)):=by
 have h1:=c52' a q0 q1 q2
 have h2:=c51 a h q0 q1 q2
 have v:=ddV q0 q1 q2
 have b:=bds h v
 obtain ⟨o0x,o0y,o1x,o1y,o2x,o2y,bx,by_⟩:=b
 have hw : 0≤a.w∧a.w≤40:=by have:=h.w; omega
 generalize dd q0 q1 q2 = d at *
 have k1:=c83 _ _ 1 (by omega) v.v1 a.w hw
 have k2:=c83 _ _ 2 (by omega) v.v2 a.w hw
 have k3:=c83 _ _ 3 (by omega) v.v3 a.w hw
 have u1:=ux_bd v.v1 a.w hw
 have u2:=ux_bd v.v2 a.w hw
 have u3:=ux_bd v.v3 a.w hw
 simp only [u65,Qcl,Qb1] at k1 k2 k3 u1 u2 u3
 unfold lks
 have hp : (-1000000000≤(pp a d).x1∧(pp a d).x1≤1000000000)∧(-1000000000≤(pp a d).y1∧(pp a d).y1≤1000000000)∧(-1000000000≤(pp a d).x2∧(pp a d).x2≤1000000000)∧(-1000000000≤(pp a d).y2∧(pp a d).y2≤1000000000)∧(-1000000000≤(pp a d).x3∧(pp a d).x3≤1000000000)∧(-1000000000≤(pp a d).y3∧(pp a d).y3≤1000000000):=by simp only [pp]; omega
 generalize pp a d = p at *
 obtain ⟨p1,p2,p3,p4,p5,p6⟩:=hp
 generalize a.w * 67600 * d.x1 = ox1 at *
 generalize a.w * 67600 * d.y1 = oy1 at *
 generalize a.w * 1040 * d.x2 = ox2 at *
 generalize a.w * 1040 * d.y2 = oy2 at *
 generalize a.w * 16 * d.x3 = ox3 at *
 generalize a.w * 16 * d.y3 = oy3 at *
 have n0a : IntKind.i64.wrap (0 - ox1) = -ox1:=by rw [wrap_small (by omega) (by omega)]; omega
 have n0b : IntKind.i64.wrap (0 - oy1) = -oy1:=by rw [wrap_small (by omega) (by omega)]; omega
 have g00:=c84 a.bx a.by_ oy1 (-ox1)
 rw [wrap_small (by omega) (by omega),wrap_small (by omega) (by omega),show a.by_ + -ox1 = a.by_ - ox1 by omega] at g00
 have g01:=c84 p.x1 p.y1 oy1 (-ox1)
 rw [wrap_small (by omega) (by omega),wrap_small (by omega) (by omega),show p.y1 + -ox1 = p.y1 - ox1 by omega] at g01
 have g02:=c84 p.x1 p.y1 (-oy1) ox1
 rw [wrap_small (by omega) (by omega),wrap_small (by omega) (by omega),show p.x1 + -oy1 = p.x1 - oy1 by omega] at g02
 have g03:=c84 a.bx a.by_ (-oy1) ox1
 rw [wrap_small (by omega) (by omega),wrap_small (by omega) (by omega),show a.bx + -oy1 = a.bx - oy1 by omega] at g03
 have n1a : IntKind.i64.wrap (0 - ox2) = -ox2:=by rw [wrap_small (by omega) (by omega)]; omega
 have n1b : IntKind.i64.wrap (0 - oy2) = -oy2:=by rw [wrap_small (by omega) (by omega)]; omega
 have g10:=c84 p.x1 p.y1 oy2 (-ox2)
 rw [wrap_small (by omega) (by omega),wrap_small (by omega) (by omega),show p.y1 + -ox2 = p.y1 - ox2 by omega] at g10
 have g11:=c84 p.x2 p.y2 oy2 (-ox2)
 rw [wrap_small (by omega) (by omega),wrap_small (by omega) (by omega),show p.y2 + -ox2 = p.y2 - ox2 by omega] at g11
 have g12:=c84 p.x2 p.y2 (-oy2) ox2
 rw [wrap_small (by omega) (by omega),wrap_small (by omega) (by omega),show p.x2 + -oy2 = p.x2 - oy2 by omega] at g12
 have g13:=c84 p.x1 p.y1 (-oy2) ox2
 rw [wrap_small (by omega) (by omega),wrap_small (by omega) (by omega),show p.x1 + -oy2 = p.x1 - oy2 by omega] at g13
 have n2a : IntKind.i64.wrap (0 - ox3) = -ox3:=by rw [wrap_small (by omega) (by omega)]; omega
 have n2b : IntKind.i64.wrap (0 - oy3) = -oy3:=by rw [wrap_small (by omega) (by omega)]; omega
 have g20:=c84 p.x2 p.y2 oy3 (-ox3)
 rw [wrap_small (by omega) (by omega),wrap_small (by omega) (by omega),show p.y2 + -ox3 = p.y2 - ox3 by omega] at g20
 have g21:=c84 p.x3 p.y3 oy3 (-ox3)
 rw [wrap_small (by omega) (by omega),wrap_small (by omega) (by omega),show p.y3 + -ox3 = p.y3 - ox3 by omega] at g21
 have g22:=c84 p.x3 p.y3 (-oy3) ox3
 rw [wrap_small (by omega) (by omega),wrap_small (by omega) (by omega),show p.x3 + -oy3 = p.x3 - oy3 by omega] at g22
 have g23:=c84 p.x2 p.y2 (-oy3) ox3
 rw [wrap_small (by omega) (by omega),wrap_small (by omega) (by omega),show p.x2 + -oy3 = p.x2 - oy3 by omega] at g23
 rw [pc_eq]; simp +contextual -implicitDefEqProofs (maxSteps:=2000000) only [go_sem,E_50,A50,A50_L0_eq,A50_L0b,h1,h2,k1,k2,k3,g00,g01,g02,g03,g10,g11,g12,g13,g20,g21,g22,g23,n0a,n0b,n1a,n1b,n2a,n2b,lkc,c2,Qp,Qad]
 rfl
end Go.Proofs.YtbpneedpcccpaaaGreat

namespace Go.Proofs.YtbpneedpcccpaaaGreat
open Go Go.Zv
open Go.Geo (Pt)
abbrev O17 (c : Cl) (w : Wl) (rows : List (List LV)) : Heap:=[(3840,.row 4 rows),(1024,.row 4 []),(768,.box (wlc w)),(512,.box (cec c.cel))]
theorem all_g2 (l : List Pt) : ((l.map Go.Geo.c2).all fun x=>x.length == 2) = true:=by
 rw [Qr]; intro x hx
 obtain ⟨y,_,rfl⟩:=Qaa.1 hx; rfl
theorem rst_len (c : Cl) (wh : List Int) : ∀ n,(rst c wh n).length≤n:=fun n=>by
 induction n with
 | zero=>simp [rst]
 | succ n ih =>
   have e : rst c wh (n + 1) = rst c wh n++rsI c wh n:=by
    unfold rst
    rw [Qbb,Qb7]; simp
   rw [e,Qj]
   have : (rsI c wh n).length≤1:=by unfold rsI; split <;> simp
   omega
theorem rst_succ (c : Cl) (wh : List Int) (n : Nat) : rst c wh (n + 1) = rst c wh n++rsI c wh n:=by
 unfold rst
 rw [Qbb,Qb7]; simp
theorem fx17 (c : Cl) (w : Wl) (hf : c.fx.length≤1000) (R : List (List LV)) (hR : R.length≤1000000) :
  (K E A17_L0 ⟨[(2,.ptr 512 0),(5,.bs 3840 0 R.length),(14,.int .i64 0)],[],O17 c w R,0⟩).bind (blockR 8 (some [5]) [14,139]) =
   some (.ex .nrm ⟨[(5,.bs 3840 0 (R++(fxt c c.fx.length).map bdc).length)],[],O17 c w (R++(fxt c c.fx.length).map bdc),0⟩):=by
 have lp:=loop_to (fun S=>(K E A17_L0 S).bind (blockR 8 (some [5]) [14,139]))
  (fun k=>⟨[(2,.ptr 512 0),(5,.bs 3840 0 (R++(fxt c k).map bdc).length),(14,.int .i64 k)],[],O17 c w (R++(fxt c k).map bdc),0⟩) c.fx.length (fun k hk=>by
   have hget : c.fx[k]? = some (c.fx.getD k []):=Go.Geo.getD_of [] hk
   show (K E A17_L0 _).bind _ = (K E A17_L0 _).bind _
   have e : R++(fxt c (k + 1)).map bdc = R++(fxt c k).map bdc++[[.int .i64 4,.int .i64 k,.int .i64 0,.vs ((c.fx.getD k []).map Go.Geo.c2)]]:=by
    unfold fxt
    rw [Qbb,Qq,Qq,Qao]; rfl
   rw [e]
   have hr : (R++(fxt c k).map bdc).length≤999999999:=by simp [fxt]; omega
   generalize R++(fxt c k).map bdc = rows at *
   generalize c.fx.getD k [] = p at *
   have g1 : (c.fx.map Go.Geo.p1)[k]? = some [.vs (p.map Go.Geo.c2)]:=Go.Geo.get_m Go.Geo.p1 hget
   have h1 : (k : Int) < c.fx.length:=by omega
   have h0 : (0 : Int)≤k:=by omega
   have hw:=Go.Geo.wr_k (k:=k) (by omega)
   conv=>lhs; rw [A17_L0_eq]
   simp +contextual -implicitDefEqProofs (maxSteps:=2000000) only [go_sem,O17,A17_L0b,Qb,h0,h1,g1,hw,hr,Qj])
 simp only [Qs,Qz] at lp
 have e0 : R++(fxt c 0).map bdc = R:=by simp [fxt]
 rw [e0] at lp
 rw [lp]
 generalize R++(fxt c c.fx.length).map bdc = rows
 rw [A17_L0_eq]; simp +contextual -implicitDefEqProofs (maxSteps:=2000000) only [go_sem,O17,A17_L0b,Qt,Qb]
theorem rs17 (c : Cl) (w : Wl) (P : Pld c w) (hp : ∀ p ∈ c.pt,p.sh.length≤1000) (hl : c.pt.length≤1000) (R : List (List LV)) (hR : R.length≤10000) :
  (K E A17_L1 ⟨[(2,.ptr 512 0),(3,.ptr 768 0),(5,.bs 3840 0 R.length),(12,.int .i64 0)],[],O17 c w R,0⟩).bind (blockR 6 (some [2,5]) [12,13,120,122]) =
   some (.ex .nrm ⟨[(2,.ptr 512 0),(5,.bs 3840 0 (R++(rst c w.wh w.wh.length).map bdc).length)],[],O17 c w (R++(rst c w.wh w.wh.length).map bdc),0⟩):=by
 have hpl:=P.len
 have lp:=loop_to (fun S=>(K E A17_L1 S).bind (blockR 6 (some [2,5]) [12,13,120,122]))
  (fun k=>⟨[(2,.ptr 512 0),(3,.ptr 768 0),(5,.bs 3840 0 (R++(rst c w.wh k).map bdc).length),(12,.int .i64 k)],[],O17 c w (R++(rst c w.wh k).map bdc),0⟩) w.wh.length (fun k hk=>by
   have hget : w.wh[k]? = some (w.wh.getD k 0):=Go.Geo.getD_of 0 hk
   have hm:=P.at_ _ (Qd hget)
   have hgp : c.pt[k]? = some (c.pt.getD k default):=Go.Geo.getD_of default (by omega)
   have hsh:=hp _ (Qd hgp)
   show (K E A17_L1 _).bind _ = (K E A17_L1 _).bind _
   have hlen:=rst_len c w.wh k
   have hr : (R++(rst c w.wh k).map bdc).length≤999999999:=by simp; omega
   rw [rst_succ,Qq,← Qao]
   generalize R++(rst c w.wh k).map bdc = rows at *
   unfold rsI
   have g1 : (w.wh.map Go.Geo.c1)[k]? = some [.int .i64 (w.wh.getD k 0)]:=Go.Geo.get_m Go.Geo.c1 hget
   have g2:=Go.Geo.get_m Go.Geo.prv hgp
   simp only [Go.Geo.prv] at g2
   generalize w.wh.getD k 0 = x at *
   generalize c.pt.getD k default = p at *
   have h1 : (k : Int) < w.wh.length:=by omega
   have h0 : (0 : Int)≤k:=by omega
   have h2 : (k : Int) < c.pt.length:=by omega
   have hw:=Go.Geo.wr_k (k:=k) (by omega)
   conv=>lhs; rw [A17_L1_eq]
   by_cases hx : x < 0
   ·have hx' : ¬ (0≤x):=by omega
    rw [if_pos hx]
    simp +contextual -implicitDefEqProofs (maxSteps:=2000000) only [go_sem,O17,A17_L1b,Qb,h0,h1,h2,g1,hw,hx',Qa3]
   ·have hx' : 0≤x:=by omega
    have hgl : c.pl[x.toNat]? = some (c.pl.getD x.toNat default):=Go.Geo.getD_of default (by omega)
    have g3:=Go.Geo.get_m Go.Geo.plv hgl
    simp only [Go.Geo.plv] at g3
    rw [if_neg hx]
    generalize c.pl.getD x.toNat default = l at *
    have o:=c53 p.nm p.sh p.at_ l.x l.y l.dx l.dy l.dn hsh
    have hx2:=hm.2
    have hal:=all_g2 (laid_ l.x l.y l.dx l.dy p.sh)
    simp +contextual -implicitDefEqProofs (maxSteps:=2000000) only [go_sem,O17,A17_L1b,Qb,h0,h1,h2,g1,g2,g3,hw,hr,hx',hx2,o,Qj,take_ml])
 simp only [Qs,Qz] at lp
 have e0 : R++(rst c w.wh 0).map bdc = R:=by simp [rst]
 rw [e0] at lp
 rw [lp]
 generalize R++(rst c w.wh w.wh.length).map bdc = rows
 rw [A17_L1_eq]; simp +contextual -implicitDefEqProofs (maxSteps:=2000000) only [go_sem,O17,A17_L1b,Qt,Qb,hpl]
end Go.Proofs.YtbpneedpcccpaaaGreat

namespace Go.Proofs.YtbpneedpcccpaaaGreat
open Go Go.Zv
open Go.Geo (Pt)
theorem c17 (c : Cl) (w : Wl) (H : Fin_ c) (P : Pld c w) : pc E 17 [.agg (cec c.cel),.agg (wlc w)] = some (.os 4 ((bodies c w).map bdc)):=by
 obtain ⟨L0,L1,L2,hL⟩:=lks3 c.a (dd w.q0 w.q1 w.q2)
 obtain ⟨M0,M1,M2,hM⟩:=lks3 c.b (dd w.q3 w.q4 w.q5)
 have o1:=c50 c.a H.ha w.q0 w.q1 w.q2
 have o2:=c50 c.b H.hb w.q3 w.q4 w.q5
 rw [hL] at o1
 rw [hM] at o2
 have o1 : pc E 50 [av c.a,jv w.q0 w.q1 w.q2] = some (.agg [.vs (L0.map Go.Geo.c2),.vs (L1.map Go.Geo.c2),.vs (L2.map Go.Geo.c2)]):=o1
 have o2 : pc E 50 [av c.b,jv w.q3 w.q4 w.q5] = some (.agg [.vs (M0.map Go.Geo.c2),.vs (M1.map Go.Geo.c2),.vs (M2.map Go.Geo.c2)]):=o2
 have j1:=c51 c.a H.ha w.q0 w.q1 w.q2
 have j2:=c51 c.b H.hb w.q3 w.q4 w.q5
 have d1:=c52' c.a w.q0 w.q1 w.q2
 have d2:=c52' c.b w.q3 w.q4 w.q5
 unfold bodies
 rw [hL,hM]
 have hh0:=P.h0
 have hh1:=P.h1
 have hrs:=rs17 c w P H.sh H.pl
 have hfx:=fx17 c w H.fl
 have hfin : ∀ X : List Bd,((lnk 0 [L0,L1,L2]++(lnk 1 [M0,M1,M2]++X)).map bdc) = [[.int .i64 1,.int .i64 0,.int .i64 0,.vs (L0.map Go.Geo.c2)],[.int .i64 1,.int .i64 0,.int .i64 1,.vs (L1.map Go.Geo.c2)],[.int .i64 1,.int .i64 0,.int .i64 2,.vs (L2.map Go.Geo.c2)],[.int .i64 1,.int .i64 1,.int .i64 0,.vs (M0.map Go.Geo.c2)],[.int .i64 1,.int .i64 1,.int .i64 1,.vs (M1.map Go.Geo.c2)],[.int .i64 1,.int .i64 1,.int .i64 2,.vs (M2.map Go.Geo.c2)]]++X.map bdc:=fun X=>by
  rw [Qq,Qq,← Qao]; rfl
 rw [hfin]
 have hlen : ((rst c w.wh w.wh.length).map bdc).length≤1000:=by
  rw [Qb]
  have:=rst_len c w.wh w.wh.length
  have:=P.len
  have:=H.pl
  omega
 have y1 : (c.fx.map Go.Geo.p1).length = c.fx.length:=Qb ..
 have y2 : (w.wh.map Go.Geo.c1).length = w.wh.length:=Qb ..
 have y3 : (c.pt.map Go.Geo.prv).length = c.pt.length:=Qb ..
 have key : ∀ (h : Int),-1≤h → h < c.pt.length → ¬ h < 0 → ∃ p : Go.Geo.Prt,c.pt.getD h.toNat default = p∧(c.pt.map Go.Geo.prv)[h.toNat]? = some [.str p.nm,.vs (p.sh.map Go.Geo.c2),.int .i64 p.at_]∧0≤h ∧ ∀ ax ay dx dy dn,pc E 53 [.agg [.str p.nm,.vs (p.sh.map Go.Geo.c2),.int .i64 p.at_],.agg [.int .i64 ax,.int .i64 ay],.agg [.int .i64 dx,.int .i64 dy,.int .i64 dn]] = some (.os 2 ((laid_ ax ay dx dy p.sh).map Go.Geo.c2)):=fun h h1 h2 h3=>by
  have hg : c.pt[h.toNat]? = some (c.pt.getD h.toNat default):=Go.Geo.getD_of default (by omega)
  refine ⟨_,rfl,Go.Geo.get_m Go.Geo.prv hg,by omega,fun ax ay dx dy dn=>c53 _ _ _ _ _ _ _ _ (H.sh _ (Qd hg))⟩
 unfold crd
 by_cases n0 : w.h0 < 0
 ·by_cases n1 : w.h1 < 0
  ·skip
   rw [if_pos n0,if_pos n1]
   have z0 : ¬ 0≤w.h0:=by omega
   have z1 : ¬ 0≤w.h1:=by omega
   have a1:=hrs [[.int .i64 1,.int .i64 0,.int .i64 0,.vs (L0.map Go.Geo.c2)],[.int .i64 1,.int .i64 0,.int .i64 1,.vs (L1.map Go.Geo.c2)],[.int .i64 1,.int .i64 0,.int .i64 2,.vs (L2.map Go.Geo.c2)],[.int .i64 1,.int .i64 1,.int .i64 0,.vs (M0.map Go.Geo.c2)],[.int .i64 1,.int .i64 1,.int .i64 1,.vs (M1.map Go.Geo.c2)],[.int .i64 1,.int .i64 1,.int .i64 2,.vs (M2.map Go.Geo.c2)]] (by simp)
   have a2:=hfx ([[.int .i64 1,.int .i64 0,.int .i64 0,.vs (L0.map Go.Geo.c2)],[.int .i64 1,.int .i64 0,.int .i64 1,.vs (L1.map Go.Geo.c2)],[.int .i64 1,.int .i64 0,.int .i64 2,.vs (L2.map Go.Geo.c2)],[.int .i64 1,.int .i64 1,.int .i64 0,.vs (M0.map Go.Geo.c2)],[.int .i64 1,.int .i64 1,.int .i64 1,.vs (M1.map Go.Geo.c2)],[.int .i64 1,.int .i64 1,.int .i64 2,.vs (M2.map Go.Geo.c2)]]++(rst c w.wh w.wh.length).map bdc) (by simp at hlen ⊢; omega)
   simp only [Qk,Ql,Qq,Qp,Qad]
   generalize (rst c w.wh w.wh.length).map bdc = X at *
   generalize (fxt c c.fx.length).map bdc = Y at *
   rw [Qao] at a2
   generalize X++Y = Z at *
   simp only [O17,Ql,Qk,Q6,Qa0,Qj] at a1 a2
   rw [pc_eq]; simp +contextual -implicitDefEqProofs (maxSteps:=2000000) only [go_sem,E_17,A17,A17_L4_eq,A17_L4b,A17_L3_eq,A17_L3b,A17_L2_eq,A17_L2b,o1,o2,j1,j2,d1,d2,n0,z0,n1,z1,a1,a2,y1,y2,y3,all_g2,Qb,take_ml]
  ·skip
   rw [if_pos n0,if_neg n1]
   have z0 : ¬ 0≤w.h0:=by omega
   obtain ⟨p1,e1,g1,m1,t1⟩:=key w.h1 hh1.1 hh1.2 n1
   rw [e1]
   have k1:=hh1.2
   have a1:=hrs [[.int .i64 1,.int .i64 0,.int .i64 0,.vs (L0.map Go.Geo.c2)],[.int .i64 1,.int .i64 0,.int .i64 1,.vs (L1.map Go.Geo.c2)],[.int .i64 1,.int .i64 0,.int .i64 2,.vs (L2.map Go.Geo.c2)],[.int .i64 1,.int .i64 1,.int .i64 0,.vs (M0.map Go.Geo.c2)],[.int .i64 1,.int .i64 1,.int .i64 1,.vs (M1.map Go.Geo.c2)],[.int .i64 1,.int .i64 1,.int .i64 2,.vs (M2.map Go.Geo.c2)],[.int .i64 2,.int .i64 1,.int .i64 0,.vs ((laid_ (pp c.b (dd w.q3 w.q4 w.q5)).x3 (pp c.b (dd w.q3 w.q4 w.q5)).y3 (dd w.q3 w.q4 w.q5).x3 (dd w.q3 w.q4 w.q5).y3 p1.sh).map Go.Geo.c2)]] (by simp)
   have a2:=hfx ([[.int .i64 1,.int .i64 0,.int .i64 0,.vs (L0.map Go.Geo.c2)],[.int .i64 1,.int .i64 0,.int .i64 1,.vs (L1.map Go.Geo.c2)],[.int .i64 1,.int .i64 0,.int .i64 2,.vs (L2.map Go.Geo.c2)],[.int .i64 1,.int .i64 1,.int .i64 0,.vs (M0.map Go.Geo.c2)],[.int .i64 1,.int .i64 1,.int .i64 1,.vs (M1.map Go.Geo.c2)],[.int .i64 1,.int .i64 1,.int .i64 2,.vs (M2.map Go.Geo.c2)],[.int .i64 2,.int .i64 1,.int .i64 0,.vs ((laid_ (pp c.b (dd w.q3 w.q4 w.q5)).x3 (pp c.b (dd w.q3 w.q4 w.q5)).y3 (dd w.q3 w.q4 w.q5).x3 (dd w.q3 w.q4 w.q5).y3 p1.sh).map Go.Geo.c2)]]++(rst c w.wh w.wh.length).map bdc) (by simp at hlen ⊢; omega)
   simp only [Qk,Ql,Qq,Qp,Qad]
   generalize (rst c w.wh w.wh.length).map bdc = X at *
   generalize (fxt c c.fx.length).map bdc = Y at *
   rw [Qao] at a2
   generalize X++Y = Z at *
   simp only [O17,Ql,Qk,Q6,Qa0,Qj] at a1 a2
   rw [pc_eq]; simp +contextual -implicitDefEqProofs (maxSteps:=2000000) only [go_sem,E_17,A17,A17_L4_eq,A17_L4b,A17_L3_eq,A17_L3b,A17_L2_eq,A17_L2b,o1,o2,j1,j2,d1,d2,n0,z0,n1,m1,g1,k1,t1,a1,a2,y1,y2,y3,all_g2,Qb,take_ml]
 ·by_cases n1 : w.h1 < 0
  ·skip
   rw [if_neg n0,if_pos n1]
   obtain ⟨p0,e0,g0,m0,t0⟩:=key w.h0 hh0.1 hh0.2 n0
   rw [e0]
   have k0:=hh0.2
   have z1 : ¬ 0≤w.h1:=by omega
   have a1:=hrs [[.int .i64 1,.int .i64 0,.int .i64 0,.vs (L0.map Go.Geo.c2)],[.int .i64 1,.int .i64 0,.int .i64 1,.vs (L1.map Go.Geo.c2)],[.int .i64 1,.int .i64 0,.int .i64 2,.vs (L2.map Go.Geo.c2)],[.int .i64 1,.int .i64 1,.int .i64 0,.vs (M0.map Go.Geo.c2)],[.int .i64 1,.int .i64 1,.int .i64 1,.vs (M1.map Go.Geo.c2)],[.int .i64 1,.int .i64 1,.int .i64 2,.vs (M2.map Go.Geo.c2)],[.int .i64 2,.int .i64 0,.int .i64 0,.vs ((laid_ (pp c.a (dd w.q0 w.q1 w.q2)).x3 (pp c.a (dd w.q0 w.q1 w.q2)).y3 (dd w.q0 w.q1 w.q2).x3 (dd w.q0 w.q1 w.q2).y3 p0.sh).map Go.Geo.c2)]] (by simp)
   have a2:=hfx ([[.int .i64 1,.int .i64 0,.int .i64 0,.vs (L0.map Go.Geo.c2)],[.int .i64 1,.int .i64 0,.int .i64 1,.vs (L1.map Go.Geo.c2)],[.int .i64 1,.int .i64 0,.int .i64 2,.vs (L2.map Go.Geo.c2)],[.int .i64 1,.int .i64 1,.int .i64 0,.vs (M0.map Go.Geo.c2)],[.int .i64 1,.int .i64 1,.int .i64 1,.vs (M1.map Go.Geo.c2)],[.int .i64 1,.int .i64 1,.int .i64 2,.vs (M2.map Go.Geo.c2)],[.int .i64 2,.int .i64 0,.int .i64 0,.vs ((laid_ (pp c.a (dd w.q0 w.q1 w.q2)).x3 (pp c.a (dd w.q0 w.q1 w.q2)).y3 (dd w.q0 w.q1 w.q2).x3 (dd w.q0 w.q1 w.q2).y3 p0.sh).map Go.Geo.c2)]]++(rst c w.wh w.wh.length).map bdc) (by simp at hlen ⊢; omega)
   simp only [Qk,Ql,Qq,Qp,Qad]
   generalize (rst c w.wh w.wh.length).map bdc = X at *
   generalize (fxt c c.fx.length).map bdc = Y at *
   rw [Qao] at a2
   generalize X++Y = Z at *
   simp only [O17,Ql,Qk,Q6,Qa0,Qj] at a1 a2
   rw [pc_eq]; simp +contextual -implicitDefEqProofs (maxSteps:=2000000) only [go_sem,E_17,A17,A17_L4_eq,A17_L4b,A17_L3_eq,A17_L3b,A17_L2_eq,A17_L2b,o1,o2,j1,j2,d1,d2,n0,m0,g0,k0,t0,n1,z1,a1,a2,y1,y2,y3,all_g2,Qb,take_ml]
  ·skip
   rw [if_neg n0,if_neg n1]
   obtain ⟨p0,e0,g0,m0,t0⟩:=key w.h0 hh0.1 hh0.2 n0
   rw [e0]
   have k0:=hh0.2
   obtain ⟨p1,e1,g1,m1,t1⟩:=key w.h1 hh1.1 hh1.2 n1
   rw [e1]
   have k1:=hh1.2
   have a1:=hrs [[.int .i64 1,.int .i64 0,.int .i64 0,.vs (L0.map Go.Geo.c2)],[.int .i64 1,.int .i64 0,.int .i64 1,.vs (L1.map Go.Geo.c2)],[.int .i64 1,.int .i64 0,.int .i64 2,.vs (L2.map Go.Geo.c2)],[.int .i64 1,.int .i64 1,.int .i64 0,.vs (M0.map Go.Geo.c2)],[.int .i64 1,.int .i64 1,.int .i64 1,.vs (M1.map Go.Geo.c2)],[.int .i64 1,.int .i64 1,.int .i64 2,.vs (M2.map Go.Geo.c2)],[.int .i64 2,.int .i64 0,.int .i64 0,.vs ((laid_ (pp c.a (dd w.q0 w.q1 w.q2)).x3 (pp c.a (dd w.q0 w.q1 w.q2)).y3 (dd w.q0 w.q1 w.q2).x3 (dd w.q0 w.q1 w.q2).y3 p0.sh).map Go.Geo.c2)],[.int .i64 2,.int .i64 1,.int .i64 0,.vs ((laid_ (pp c.b (dd w.q3 w.q4 w.q5)).x3 (pp c.b (dd w.q3 w.q4 w.q5)).y3 (dd w.q3 w.q4 w.q5).x3 (dd w.q3 w.q4 w.q5).y3 p1.sh).map Go.Geo.c2)]] (by simp)
   have a2:=hfx ([[.int .i64 1,.int .i64 0,.int .i64 0,.vs (L0.map Go.Geo.c2)],[.int .i64 1,.int .i64 0,.int .i64 1,.vs (L1.map Go.Geo.c2)],[.int .i64 1,.int .i64 0,.int .i64 2,.vs (L2.map Go.Geo.c2)],[.int .i64 1,.int .i64 1,.int .i64 0,.vs (M0.map Go.Geo.c2)],[.int .i64 1,.int .i64 1,.int .i64 1,.vs (M1.map Go.Geo.c2)],[.int .i64 1,.int .i64 1,.int .i64 2,.vs (M2.map Go.Geo.c2)],[.int .i64 2,.int .i64 0,.int .i64 0,.vs ((laid_ (pp c.a (dd w.q0 w.q1 w.q2)).x3 (pp c.a (dd w.q0 w.q1 w.q2)).y3 (dd w.q0 w.q1 w.q2).x3 (dd w.q0 w.q1 w.q2).y3 p0.sh).map Go.Geo.c2)],[.int .i64 2,.int .i64 1,.int .i64 0,.vs ((laid_ (pp c.b (dd w.q3 w.q4 w.q5)).x3 (pp c.b (dd w.q3 w.q4 w.q5)).y3 (dd w.q3 w.q4 w.q5).x3 (dd w.q3 w.q4 w.q5).y3 p1.sh).map Go.Geo.c2)]]++(rst c w.wh w.wh.length).map bdc) (by simp at hlen ⊢; omega)
   simp only [Qk,Ql,Qq,Qp,Qad]
   generalize (rst c w.wh w.wh.length).map bdc = X at *
   generalize (fxt c c.fx.length).map bdc = Y at *
   rw [Qao] at a2
   generalize X++Y = Z at *
   simp only [O17,Ql,Qk,Q6,Qa0,Qj] at a1 a2
   rw [pc_eq]; simp +contextual -implicitDefEqProofs (maxSteps:=2000000) only [go_sem,E_17,A17,A17_L4_eq,A17_L4b,A17_L3_eq,A17_L3b,A17_L2_eq,A17_L2b,o1,o2,j1,j2,d1,d2,n0,m0,g0,k0,t0,n1,m1,g1,k1,t1,a1,a2,y1,y2,y3,all_g2,Qb,take_ml]
end Go.Proofs.YtbpneedpcccpaaaGreat

namespace Go.Proofs.YtbpneedpcccpaaaGreat
open Go Go.Zv
open Go.Geo (Pt)
deriving instance DecidableEq for Bd
theorem get_bp {l : List (Bd × Bd)} {i : Nat} {p : Bd × Bd} (h : l[i]? = some p) : (l.map bpc)[i]? = some (bpc p):=by rw [Qan,h]; rfl
theorem get_bd {l : List Bd} {i : Nat} {p : Bd} (h : l[i]? = some p) : (l.map bdc)[i]? = some (bdc p):=by rw [Qan,h]; rfl
def shortP (p : Bd × Bd) : Prop:=p.1.ar.length≤1000000∧p.2.ar.length≤1000000
end Go.Proofs.YtbpneedpcccpaaaGreat

namespace Go.Proofs.YtbpneedpcccpaaaGreat
open Go Go.Zv
open Go.Geo (Pt)
instance : Inhabited Bd:=⟨⟨0,0,0,[]⟩⟩
def prJ (a : Bd) (m : List Bd) : List (Bd × Bd):=(m.filter (bar a)).map fun b=>(a,b)
def prI (l : List Bd) (i : Nat) : List (Bd × Bd):=prJ (l.getD i default) (l.drop (i + 1))
def prN (l : List Bd) (n : Nat) : List (Bd × Bd):=(List.range n).flatMap (prI l)
def prs (l : List Bd) : List (Bd × Bd):=prN l l.length
end Go.Proofs.YtbpneedpcccpaaaGreat

namespace Go.Proofs.YtbpneedpcccpaaaGreat
open Go Go.Zv
open Go.Geo (Pt FC)
def pfJ (f : Bd → Bd → Bool) (a : Bd) (m : List Bd) : List (Bd × Bd):=(m.filter (f a)).map fun b=>(a,b)
def pfI (f : Bd → Bd → Bool) (l : List Bd) (i : Nat) : List (Bd × Bd):=pfJ f (l.getD i default) (l.drop (i + 1))
def pfN (f : Bd → Bd → Bool) (l : List Bd) (n : Nat) : List (Bd × Bd):=(List.range n).flatMap (pfI f l)
def pfs (f : Bd → Bd → Bool) (l : List Bd) : List (Bd × Bd):=pfN f l l.length
theorem pfs_bar (l : List Bd) : pfs bar l = prs l:=rfl
theorem pfN_succ (f : Bd → Bd → Bool) (l : List Bd) (n : Nat) : pfN f l (n + 1) = pfN f l n++pfI f l n:=by
 unfold pfN
 rw [Qbb,Qb7]; simp
theorem pfJ_len (f : Bd → Bd → Bool) (a : Bd) (m : List Bd) : (pfJ f a m).length≤m.length:=by
 simp only [pfJ,Qb]; exact Qci _ _
theorem pfN_len (f : Bd → Bd → Bool) (l : List Bd) : ∀ n,(pfN f l n).length≤n * l.length:=fun n=>by
 induction n with
 | zero=>simp [pfN]
 | succ n ih =>
   rw [pfN_succ,Qj,Nat.succ_mul]
   have:=pfJ_len f (l.getD n default) (l.drop (n + 1))
   simp only [Qb0] at this
   unfold pfI
   omega
theorem pfJ_take (f : Bd → Bd → Bool) (a : Bd) (m : List Bd) (k : Nat) (b : Bd) (h : m[k]? = some b) : pfJ f a (m.take (k + 1)) = pfJ f a (m.take k)++if f a b = true then [(a,b)] else []:=by
 unfold pfJ
 rw [Qbn,h,List.filter_append,Qq]
 congr 1
 cases hb : f a b <;> simp [hb]
theorem pfs_and (f g : Bd → Bd → Bool) (l : List Bd) : pfs (fun a b=>f a b && g a b) l = (pfs f l).filter fun p=>g p.1 p.2:=by
 have hJ : ∀ a m,pfJ (fun a b=>f a b && g a b) a m = (pfJ f a m).filter fun p=>g p.1 p.2:=fun a m=>by
  unfold pfJ
  rw [List.filter_map]
  congr 1
  rw [List.filter_filter]
  refine Qcn fun b _=>?_
  simp [Function.comp,Bool.and_comm]
 have hN : ∀ n,pfN (fun a b=>f a b && g a b) l n = (pfN f l n).filter fun p=>g p.1 p.2:=fun n=>by
  induction n with
  | zero=>rfl
  | succ n ih=>rw [pfN_succ,pfN_succ,List.filter_append,ih]; congr 1; exact hJ _ _
 exact hN _
def tch (a b : Bd) : Bool:=bar a b && (FC a.ar b.ar).isSome
structure Kinds (l : List Bd) : Prop where
 k : ∀ b ∈ l,b.k = 1 ∨ b.k = 2 ∨ b.k = 3 ∨ b.k = 4
 le : ∀ i j : Nat,i < j → ∀ a b : Bd,l[i]? = some a → l[j]? = some b → a.k≤b.k
 ar : ∀ b ∈ l,b.ar.length≤1000000
theorem all_b4 (l : List Bd) : ((l.map bdc).all fun x=>x.length == 4) = true:=by
 rw [Qr]; intro x hx
 obtain ⟨y,_,rfl⟩:=Qaa.1 hx; rfl
theorem dt4 (l : List Bd) (i : Nat) : List.drop (i + 1) (List.take l.length (l.map bdc)) = (l.drop (i + 1)).map bdc:=by
 rw [take_ml,List.map_drop]
def MP : List (LV × LV):=[(rlK 1 1,rlV 112),(rlK 1 2,rlV 113),(rlK 1 3,rlV 114),(rlK 1 4,rlV 115),(rlK 2 2,rlV 115),(rlK 2 3,rlV 115),(rlK 2 4,rlV 115)]
theorem c87m : pc E 87 [] = some (.om MP):=c87
abbrev TI (l : List Bd) (i k : Int) (m : List Bd) : Env:=[(0,.yl 1024000),(4,.mp 1051648),(5,.vs (l.map bdc)),(7,.ptr 1050368 0),(16,.vs (l.map bdc)),(17,.int .i64 l.length),(18,.int .i64 i),(26,.vs (m.map bdc)),(27,.int .i64 m.length),(28,.int .i64 k)]
abbrev TJ (l : List Bd) (i : Int) : Env:=[(0,.yl 1024000),(4,.mp 1051648),(5,.vs (l.map bdc)),(16,.vs (l.map bdc)),(17,.int .i64 l.length),(18,.int .i64 i)]
theorem bar_rule (a b : Bd) (ha : a.k = 1 ∨ a.k = 2 ∨ a.k = 3 ∨ a.k = 4) (hb : b.k = 1 ∨ b.k = 2 ∨ b.k = 3 ∨ b.k = 4) (hle : a.k≤b.k) :
  (∃ f,((a.k = 1∧b.k = 1∧f = 112) ∨ (a.k = 1∧b.k = 2∧f = 113) ∨ (a.k = 1∧b.k = 3∧f = 114) ∨ (a.k = 1∧b.k = 4∧f = 115) ∨ (a.k = 2∧b.k = 2∧f = 115) ∨ (a.k = 2∧b.k = 3∧f = 115) ∨ (a.k = 2∧b.k = 4∧f = 115))∧pc E f [.agg (bdc a),.agg (bdc b)] = some (.bool (bar a b)) ∧
   lookupE [1,0,0] (.agg [.int .i64 a.k,.int .i64 b.k]) MP = some (some (rlV f))) ∨
  (bar a b = false∧lookupE [1,0,0] (.agg [.int .i64 a.k,.int .i64 b.k]) MP = some none):=by
 have k1:=c112 a b
 have k2:=c113 a b
 have k3:=c114 a b
 have k4:=c115 a b
 unfold bar
 rcases ha with h | h | h | h <;> rcases hb with g | g | g | g <;> rw [h,g] at hle ⊢ <;> first
  | (exfalso; revert hle; decide)
  | (refine .inl ⟨112,by simp,?_,?_⟩ <;> first | (simp only [if_true]; exact k1) | rfl)
  | (refine .inl ⟨113,by simp,?_,?_⟩ <;> first | (simp only [if_true,Int.reduceEq,if_false]; exact k2) | rfl)
  | (refine .inl ⟨114,by simp,?_,?_⟩ <;> first | (simp only [if_true,Int.reduceEq,if_false]; exact k3) | rfl)
  | (refine .inl ⟨115,by simp,?_,?_⟩ <;> first | (simp only [if_true,Int.reduceEq,if_false,decide_true]; exact k4) | rfl)
  | exact .inr ⟨by simp,rfl⟩

abbrev F19 (c : Cl) (w : Wl) : List Env:=[[(4,.bs 1024 0 0),(5,.ptr 1280 0),(9,.fn (Fn.func 86) [] [.fp (cec c.cel),.fp (wlc w)])],[(0,.yl 1024000)]]
abbrev O19 (c : Cl) (w : Wl) (rows : List (List LV)) : Heap:=[(1051648,.map MP),(1024000,.loop [(4,.bs 1024 0 0),(5,.ptr 1280 0),(9,.fn (Fn.func 86) [] [.fp (cec c.cel),.fp (wlc w)])] [10] A19_R0a A19_R0b LSt.ready AEx.nrm),(1280,.box [.bs 1281 0 rows.length]),(1281,.row 8 rows),(1024,.row 8 [])]
theorem in19 (c : Cl) (w : Wl) (l : List Bd) (Kd : Kinds l) (hl : l.length≤1000) (i : Nat) (hi : i < l.length) (R : List (List LV)) (hR : R.length≤1000000) :
  (K E A86_L0 ⟨TI l i 0 (l.drop (i + 1)),F19 c w,(1050368,.box (bdc (l.getD i default)))::(1050372,.row 2 [])::O19 c w R,1⟩).bind (blockR 2 (some [0,4,5,16,17,18]) [9,10,11,48,55]) =
   some (.ex .nrm ⟨TJ l i,F19 c w,(1050368,.box (bdc (l.getD i default)))::(1050372,.row 2 [])::O19 c w (R++(pfI bar l i).map bpc),1⟩):=by
 have ha : l[i]? = some (l.getD i default):=Go.Geo.getD_of default hi
 have hd : (l.drop (i + 1)).length = l.length - (i + 1):=Qb0 ..
 have hka:=Kd.k _ (Qd ha)
 have hla:=Kd.ar _ (Qd ha)
 have lp:=loop_to (fun S=>(K E A86_L0 S).bind (blockR 2 (some [0,4,5,16,17,18]) [9,10,11,48,55]))
  (fun k=>⟨TI l i k (l.drop (i + 1)),F19 c w,(1050368,.box (bdc (l.getD i default)))::(1050372,.row 2 [])::O19 c w (R++(pfJ bar (l.getD i default) ((l.drop (i + 1)).take k)).map bpc),1⟩)
  (l.drop (i + 1)).length (fun k hk=>by
   have hb : (l.drop (i + 1))[k]? = some ((l.drop (i + 1))[k]'hk):=Qg _
   generalize (l.drop (i + 1))[k]'hk = b at *
   have hb2 : l[i + 1 + k]? = some b:=by rwa [Qbh] at hb
   have hle:=Kd.le i (i + 1 + k) (by omega) _ _ ha hb2
   have hkb:=Kd.k _ (Qd hb2)
   have hlb:=Kd.ar _ (Qd hb2)
   have ht:=pfJ_take bar (l.getD i default) (l.drop (i + 1)) k b hb
   have hr : (R++(pfJ bar (l.getD i default) ((l.drop (i + 1)).take k)).map bpc).length≤999999999:=by
    have:=pfJ_len bar (l.getD i default) ((l.drop (i + 1)).take k)
    simp at this ⊢; omega
   rw [ht,Qq,← Qao]
   generalize R++(pfJ bar (l.getD i default) ((l.drop (i + 1)).take k)).map bpc = rows at *
   have g2:=get_bd hb
   generalize l.getD i default = a at *
   generalize l.drop (i + 1) = m at *
   have h2 : (0 : Int)≤k:=by omega
   have h3 : (k : Int) < m.length:=by omega
   have hw:=Go.Geo.wr_k (k:=k) (by omega)
   show (K E A86_L0 _).bind _ = (K E A86_L0 _).bind _
   conv=>lhs; rw [A86_L0_eq]
   rcases bar_rule a b hka hkb hle with ⟨f,_,o,lk⟩ | ⟨hbr,lk⟩
   ·cases hbr : bar a b with
    | false =>
      rw [hbr] at o
      have hs : bar a b = false:=by simp [tch,hbr]
      try rw [hs]
      simp +contextual -implicitDefEqProofs (maxSteps:=2000000) only [go_sem,O19,F19,TI,A86_L0b,Qb,h2,h3,hw,g2,lk,o,Qa3,Q3]
    | true =>
      rw [hbr] at o
      have hs : bar a b = true:=hbr
      simp +contextual -implicitDefEqProofs (maxSteps:=2000000) only [go_sem,O19,F19,TI,A86_L0b,A19_R0a,A19_R0b,Qb,h2,h3,hw,hr,g2,lk,o,hs,Qj]
   ·have hs : bar a b = false:=by simp [tch,hbr]
    try rw [hs]
    simp +contextual -implicitDefEqProofs (maxSteps:=2000000) only [go_sem,O19,F19,TI,A86_L0b,Qb,h2,h3,hw,g2,lk,Qa3,Q3])
 simp only [Qc5,Qs,Qz] at lp
 have e0 : R++(pfJ bar (l.getD i default) []).map bpc = R:=by simp [pfJ]
 rw [e0] at lp
 rw [lp,Qbp]
 have e3 : pfJ bar (l.getD i default) (l.drop (i + 1)) = pfI bar l i:=rfl
 rw [e3]
 generalize R++(pfI bar l i).map bpc = rows
 generalize l.drop (i + 1) = m
 rw [A86_L0_eq]; simp +contextual -implicitDefEqProofs (maxSteps:=2000000) only [go_sem,O19,F19,TI,TJ,A86_L0b,Qt,Qb]
theorem out19 (c : Cl) (w : Wl) (l : List Bd) (Kd : Kinds l) (hl : l.length≤900) :
  (K E A86_L1 ⟨TJ l 0,F19 c w,O19 c w [],1⟩).bind (blockR 0 (some []) [6,7,9,10,11,48,55]) =
   some (.ex .nrm ⟨[],F19 c w,O19 c w ((pfs bar l).map bpc),1⟩):=by
 have lp:=loop_to (fun S=>(K E A86_L1 S).bind (blockR 0 (some []) [6,7,9,10,11,48,55]))
  (fun k=>⟨TJ l k,F19 c w,O19 c w ((pfN bar l k).map bpc),1⟩)
  l.length (fun k hk=>by
   have hn:=pfN_len bar l k
   have hq : k * l.length≤900 * 900:=Qcg (by omega) hl
   have hin:=in19 c w l Kd (by omega) k hk ((pfN bar l k).map bpc) (by rw [Qb]; omega)
   have ha : l[k]? = some (l.getD k default):=Go.Geo.getD_of default hk
   have g1:=get_bd ha
   rw [pfN_succ,Qq]
   generalize (pfN bar l k).map bpc++(pfI bar l k).map bpc = rows at *
   generalize (pfN bar l k).map bpc = rows0 at *
   generalize l.getD k default = a at *
   have h0 : (0 : Int)≤k:=by omega
   have h1 : (k : Int) < l.length:=by omega
   have h2 : ((k + 1 : Nat) : Int)≤l.length:=by omega
   have h3 : (0 : Int)≤(k + 1 : Nat):=by omega
   have h4 : k + 1≤l.length:=by omega
   have hw:=Go.Geo.wr_k (k:=k) (by omega)
   have hd:=dt4 l k
   have hb4:=all_b4 l
   simp only [O19,F19,TI,TJ] at hin
   show (K E A86_L1 _).bind _ = (K E A86_L1 _).bind _
   conv=>lhs; rw [A86_L1_eq]
   simp +contextual -implicitDefEqProofs (maxSteps:=2000000) only [go_sem,O19,F19,TJ,A86_L1b,Qb,h0,h1,h2,h3,h4,hw,g1,hd,hb4,hin])
 simp only [Qs,Qz] at lp
 have e0 : (pfN bar l 0).map bpc = []:=by simp [pfN]
 rw [e0] at lp
 rw [lp]
 have e1 : pfN bar l l.length = pfs bar l:=rfl
 rw [e1]
 generalize (pfs bar l).map bpc = rows
 rw [A86_L1_eq]; simp +contextual -implicitDefEqProofs (maxSteps:=2000000) only [go_sem,O19,F19,TJ,A86_L1b,Qt,Qb]
theorem c19 (c : Cl) (w : Wl) (H : Fin_ c) (P : Pld c w) (Kd : Kinds (bodies c w)) (hl : (bodies c w).length≤900) : pc E 19 [.agg (cec c.cel),.agg (wlc w)] = some (.vs ((pfs bar (bodies c w)).map bpc)):=by
 have h:=c16 c w H P
 have lp:=out19 c w (bodies c w) Kd hl
 generalize bodies c w = l at *
 generalize (pfs bar l).map bpc = rows at *
 simp only [O19,F19,TJ,Qa0] at lp
 have e55:=c55 c.cel w
 rw [pc_eq]; simp +contextual -implicitDefEqProofs (maxSteps:=2000000) only [go_sem,E_19,A19,e55,c87m,h,E_86,A86,A19_R0,Qb,lp]

abbrev F21 (c : Cl) (w : Wl) : List Env:=[[(4,.bs 1024 0 0),(5,.ptr 1280 0),(9,.fn (Fn.func 86) [] [.fp (cec c.cel),.fp (wlc w)])],[(0,.yl 1024000)]]
abbrev O21 (c : Cl) (w : Wl) (rows : List (List LV)) : Heap:=[(1051648,.map MP),(1024000,.loop [(4,.bs 1024 0 0),(5,.ptr 1280 0),(9,.fn (Fn.func 86) [] [.fp (cec c.cel),.fp (wlc w)])] [10] A21_R0a A21_R0b LSt.ready AEx.nrm),(1280,.box [.bs 1281 0 rows.length]),(1281,.row 8 rows),(1024,.row 8 [])]
theorem in21 (c : Cl) (w : Wl) (l : List Bd) (Kd : Kinds l) (hl : l.length≤1000) (i : Nat) (hi : i < l.length) (R : List (List LV)) (hR : R.length≤1000000) :
  (K E A86_L0 ⟨TI l i 0 (l.drop (i + 1)),F21 c w,(1050368,.box (bdc (l.getD i default)))::(1050372,.row 2 [])::O21 c w R,1⟩).bind (blockR 2 (some [0,4,5,16,17,18]) [9,10,11,48,55]) =
   some (.ex .nrm ⟨TJ l i,F21 c w,(1050368,.box (bdc (l.getD i default)))::(1050372,.row 2 [])::O21 c w (R++(pfI tch l i).map bpc),1⟩):=by
 have ha : l[i]? = some (l.getD i default):=Go.Geo.getD_of default hi
 have hd : (l.drop (i + 1)).length = l.length - (i + 1):=Qb0 ..
 have hka:=Kd.k _ (Qd ha)
 have hla:=Kd.ar _ (Qd ha)
 have lp:=loop_to (fun S=>(K E A86_L0 S).bind (blockR 2 (some [0,4,5,16,17,18]) [9,10,11,48,55]))
  (fun k=>⟨TI l i k (l.drop (i + 1)),F21 c w,(1050368,.box (bdc (l.getD i default)))::(1050372,.row 2 [])::O21 c w (R++(pfJ tch (l.getD i default) ((l.drop (i + 1)).take k)).map bpc),1⟩)
  (l.drop (i + 1)).length (fun k hk=>by
   have hb : (l.drop (i + 1))[k]? = some ((l.drop (i + 1))[k]'hk):=Qg _
   generalize (l.drop (i + 1))[k]'hk = b at *
   have hb2 : l[i + 1 + k]? = some b:=by rwa [Qbh] at hb
   have hle:=Kd.le i (i + 1 + k) (by omega) _ _ ha hb2
   have hkb:=Kd.k _ (Qd hb2)
   have hlb:=Kd.ar _ (Qd hb2)
   have ht:=pfJ_take tch (l.getD i default) (l.drop (i + 1)) k b hb
   have hr : (R++(pfJ tch (l.getD i default) ((l.drop (i + 1)).take k)).map bpc).length≤999999999:=by
    have:=pfJ_len tch (l.getD i default) ((l.drop (i + 1)).take k)
    simp at this ⊢; omega
   rw [ht,Qq,← Qao]
   generalize R++(pfJ tch (l.getD i default) ((l.drop (i + 1)).take k)).map bpc = rows at *
   have g2:=get_bd hb
   generalize l.getD i default = a at *
   generalize l.drop (i + 1) = m at *
   have h2 : (0 : Int)≤k:=by omega
   have h3 : (k : Int) < m.length:=by omega
   have hw:=Go.Geo.wr_k (k:=k) (by omega)
   show (K E A86_L0 _).bind _ = (K E A86_L0 _).bind _
   conv=>lhs; rw [A86_L0_eq]
   rcases bar_rule a b hka hkb hle with ⟨f,_,o,lk⟩ | ⟨hbr,lk⟩
   ·cases hbr : bar a b with
    | false =>
      rw [hbr] at o
      have hs : tch a b = false:=by simp [tch,hbr]
      try rw [hs]
      simp +contextual -implicitDefEqProofs (maxSteps:=2000000) only [go_sem,O21,F21,TI,A86_L0b,Qb,h2,h3,hw,g2,lk,o,Qa3,Q3]
    | true =>
      rw [hbr] at o
      have o57:=Go.Proofs.YtbpneedpcccpaaaGreat.G.c57 a.ar b.ar (by omega) (by omega)
      cases hF : (FC a.ar b.ar).isSome with
      | false =>
        rw [hF] at o57
        have hs : tch a b = false:=by simp [tch,hF]
        try rw [hs]
        simp +contextual -implicitDefEqProofs (maxSteps:=2000000) only [go_sem,O21,F21,TI,A86_L0b,A21_R0a,A21_R0b,Qb,h2,h3,hw,hr,g2,lk,o,o57,Qa3,Q3]
      | true =>
        rw [hF] at o57
        have hs : tch a b = true:=by simp [tch,hF,hbr]
        try rw [hs]
        simp +contextual -implicitDefEqProofs (maxSteps:=2000000) only [go_sem,O21,F21,TI,A86_L0b,A21_R0a,A21_R0b,Qb,h2,h3,hw,hr,g2,lk,o,o57,Qj]
   ·have hs : tch a b = false:=by simp [tch,hbr]
    try rw [hs]
    simp +contextual -implicitDefEqProofs (maxSteps:=2000000) only [go_sem,O21,F21,TI,A86_L0b,Qb,h2,h3,hw,g2,lk,Qa3,Q3])
 simp only [Qc5,Qs,Qz] at lp
 have e0 : R++(pfJ tch (l.getD i default) []).map bpc = R:=by simp [pfJ]
 rw [e0] at lp
 rw [lp,Qbp]
 have e3 : pfJ tch (l.getD i default) (l.drop (i + 1)) = pfI tch l i:=rfl
 rw [e3]
 generalize R++(pfI tch l i).map bpc = rows
 generalize l.drop (i + 1) = m
 rw [A86_L0_eq]; simp +contextual -implicitDefEqProofs (maxSteps:=2000000) only [go_sem,O21,F21,TI,TJ,A86_L0b,Qt,Qb]
theorem out21 (c : Cl) (w : Wl) (l : List Bd) (Kd : Kinds l) (hl : l.length≤900) :
  (K E A86_L1 ⟨TJ l 0,F21 c w,O21 c w [],1⟩).bind (blockR 0 (some []) [6,7,9,10,11,48,55]) =
   some (.ex .nrm ⟨[],F21 c w,O21 c w ((pfs tch l).map bpc),1⟩):=by
 have lp:=loop_to (fun S=>(K E A86_L1 S).bind (blockR 0 (some []) [6,7,9,10,11,48,55]))
  (fun k=>⟨TJ l k,F21 c w,O21 c w ((pfN tch l k).map bpc),1⟩)
  l.length (fun k hk=>by
   have hn:=pfN_len tch l k
   have hq : k * l.length≤900 * 900:=Qcg (by omega) hl
   have hin:=in21 c w l Kd (by omega) k hk ((pfN tch l k).map bpc) (by rw [Qb]; omega)
   have ha : l[k]? = some (l.getD k default):=Go.Geo.getD_of default hk
   have g1:=get_bd ha
   rw [pfN_succ,Qq]
   generalize (pfN tch l k).map bpc++(pfI tch l k).map bpc = rows at *
   generalize (pfN tch l k).map bpc = rows0 at *
   generalize l.getD k default = a at *
   have h0 : (0 : Int)≤k:=by omega
   have h1 : (k : Int) < l.length:=by omega
   have h2 : ((k + 1 : Nat) : Int)≤l.length:=by omega
   have h3 : (0 : Int)≤(k + 1 : Nat):=by omega
   have h4 : k + 1≤l.length:=by omega
   have hw:=Go.Geo.wr_k (k:=k) (by omega)
   have hd:=dt4 l k
   have hb4:=all_b4 l
   simp only [O21,F21,TI,TJ] at hin
   show (K E A86_L1 _).bind _ = (K E A86_L1 _).bind _
   conv=>lhs; rw [A86_L1_eq]
   simp +contextual -implicitDefEqProofs (maxSteps:=2000000) only [go_sem,O21,F21,TJ,A86_L1b,Qb,h0,h1,h2,h3,h4,hw,g1,hd,hb4,hin])
 simp only [Qs,Qz] at lp
 have e0 : (pfN tch l 0).map bpc = []:=by simp [pfN]
 rw [e0] at lp
 rw [lp]
 have e1 : pfN tch l l.length = pfs tch l:=rfl
 rw [e1]
 generalize (pfs tch l).map bpc = rows
 rw [A86_L1_eq]; simp +contextual -implicitDefEqProofs (maxSteps:=2000000) only [go_sem,O21,F21,TJ,A86_L1b,Qt,Qb]
theorem c21 (c : Cl) (w : Wl) (H : Fin_ c) (P : Pld c w) (Kd : Kinds (bodies c w)) (hl : (bodies c w).length≤900) : pc E 21 [.agg (cec c.cel),.agg (wlc w)] = some (.vs ((pfs tch (bodies c w)).map bpc)):=by
 have h:=c16 c w H P
 have lp:=out21 c w (bodies c w) Kd hl
 generalize bodies c w = l at *
 generalize (pfs tch l).map bpc = rows at *
 simp only [O21,F21,TJ,Qa0] at lp
 have e55:=c55 c.cel w
 rw [pc_eq]; simp +contextual -implicitDefEqProofs (maxSteps:=2000000) only [go_sem,E_21,A21,e55,c87m,h,E_86,A86,A21_R0,Qb,lp]
end Go.Proofs.YtbpneedpcccpaaaGreat

namespace Go.Proofs.YtbpneedpcccpaaaGreat
open Go Go.Zv
open Go.Geo (Pt FC)
abbrev L23 (c : Cl) (w : Wl) : Env:=[(4,.ptr 1024 0),(8,.fn (Fn.func 86) [] [.fp (cec c.cel),.fp (wlc w)])]
abbrev F23 (c : Cl) (w : Wl) : List Env:=[L23 c w,[(0,.yl 1024000)]]
abbrev O23 (c : Cl) (w : Wl) : Heap:=[(1051648,.map MP),(1024000,.loop (L23 c w) [9] A23_R0a A23_R0b LSt.ready AEx.nrm),(1024,.box [.bool false])]
abbrev Oe23 (c : Cl) (w : Wl) : Heap:=[(1051648,.map MP),(1024000,.loop (L23 c w) [9] A23_R0a A23_R0b LSt.done AEx.ret),(1024,.box [.bool false])]
def Rv (c : Cl) (w : Wl) (o : Option Out) : Prop:=∃ (T' : Env) (a' : Bd),o = some (.ex .ret ⟨T',F23 c w,(1050368,.box (bdc a'))::(1050372,.row 2 [])::Oe23 c w,1⟩)
theorem in23 (c : Cl) (w : Wl) (l : List Bd) (Kd : Kinds l) (hl : l.length≤1000) (i : Nat) (hi : i < l.length) :
  ((l.drop (i + 1)).any (tch (l.getD i default)) = true → Rv c w ((K E A86_L0 ⟨TI l i 0 (l.drop (i + 1)),F23 c w,(1050368,.box (bdc (l.getD i default)))::(1050372,.row 2 [])::O23 c w,1⟩).bind (blockR 2 (some [0,4,5,16,17,18]) [9,10,11,48,55]))) ∧
  ((l.drop (i + 1)).any (tch (l.getD i default)) = false → (K E A86_L0 ⟨TI l i 0 (l.drop (i + 1)),F23 c w,(1050368,.box (bdc (l.getD i default)))::(1050372,.row 2 [])::O23 c w,1⟩).bind (blockR 2 (some [0,4,5,16,17,18]) [9,10,11,48,55]) =
    some (.ex .nrm ⟨TJ l i,F23 c w,(1050368,.box (bdc (l.getD i default)))::(1050372,.row 2 [])::O23 c w,1⟩)):=by
 have ha : l[i]? = some (l.getD i default):=Go.Geo.getD_of default hi
 have hd : (l.drop (i + 1)).length = l.length - (i + 1):=Qb0 ..
 have hka:=Kd.k _ (Qd ha)
 have hla:=Kd.ar _ (Qd ha)
 have lp:=loop_leave (σ:=Unit) (fun S=>(K E A86_L0 S).bind (blockR 2 (some [0,4,5,16,17,18]) [9,10,11,48,55]))
  (fun k _=>⟨TI l i k (l.drop (i + 1)),F23 c w,(1050368,.box (bdc (l.getD i default)))::(1050372,.row 2 [])::O23 c w,1⟩)
  (l.drop (i + 1)) (fun x _=>x) (tch (l.getD i default)) (Rv c w)
  (fun _=>some (.ex .nrm ⟨TJ l i,F23 c w,(1050368,.box (bdc (l.getD i default)))::(1050372,.row 2 [])::O23 c w,1⟩))
  (fun _=>by
   generalize l.drop (i + 1) = m at *
   show (K E A86_L0 _).bind _ = _
   rw [A86_L0_eq]; simp +contextual -implicitDefEqProofs (maxSteps:=2000000) only [go_sem,O23,F23,L23,TI,TJ,A86_L0b,Qt,Qb])
  (fun k b _ hk hb=>by
   have hb2 : l[i + 1 + k]? = some b:=by rwa [Qbh] at hb
   have hle:=Kd.le i (i + 1 + k) (by omega) _ _ ha hb2
   have hkb:=Kd.k _ (Qd hb2)
   have hlb:=Kd.ar _ (Qd hb2)
   have g2:=get_bd hb
   generalize l.getD i default = a at *
   generalize l.drop (i + 1) = m at *
   have h2 : (0 : Int)≤k:=by omega
   have h3 : (k : Int) < m.length:=by omega
   have hw:=Go.Geo.wr_k (k:=k) (by omega)
   have o57:=Go.Proofs.YtbpneedpcccpaaaGreat.G.c57 a.ar b.ar (by omega) (by omega)
   refine ⟨fun hp=>?_,fun hp=>?_⟩
   ·unfold tch at hp
    rw [Qe] at hp
    obtain ⟨hbr,hF⟩:=hp
    rw [hF] at o57
    rcases bar_rule a b hka hkb hle with ⟨f,_,o,lk⟩ | ⟨hbr2,lk⟩
    ·rw [hbr] at o
     refine ⟨?_,a,?_⟩
     rotate_left
     ·show (K E A86_L0 _).bind _ = _
      rw [A86_L0_eq]
      simp +contextual -implicitDefEqProofs (maxSteps:=2000000) only [go_sem,O23,Oe23,F23,L23,TI,A86_L0b,A23_R0a,A23_R0b,Qb,h2,h3,hw,g2,lk,o,o57]
      rfl
    ·rw [hbr] at hbr2; cases hbr2
   ·show (K E A86_L0 _).bind _ = (K E A86_L0 _).bind _
    conv=>lhs; rw [A86_L0_eq]
    rcases bar_rule a b hka hkb hle with ⟨f,_,o,lk⟩ | ⟨hbr,lk⟩
    ·cases hbr : bar a b with
     | false =>
       rw [hbr] at o
       simp +contextual -implicitDefEqProofs (maxSteps:=2000000) only [go_sem,O23,F23,L23,TI,A86_L0b,A23_R0a,A23_R0b,Qb,h2,h3,hw,g2,lk,o]
     | true =>
       have hF : (FC a.ar b.ar).isSome = false:=by simpa [tch,hbr] using hp
       rw [hbr] at o
       rw [hF] at o57
       simp +contextual -implicitDefEqProofs (maxSteps:=2000000) only [go_sem,O23,F23,L23,TI,A86_L0b,A23_R0a,A23_R0b,Qb,h2,h3,hw,g2,lk,o,o57]
    ·simp +contextual -implicitDefEqProofs (maxSteps:=2000000) only [go_sem,O23,F23,L23,TI,A86_L0b,Qb,h2,h3,hw,g2,lk]) ()
 simp only [Qs,Qz] at lp
 exact lp
def hitI (l : List Bd) (i : Nat) : Bool:=(l.drop (i + 1)).any (tch (l.getD i default))
def Rw (c : Cl) (w : Wl) (o : Option Out) : Prop:=∃ (T' : Env) (a' : Bd),o = some (.ex .ret ⟨T',F23 c w,(1050368,.box (bdc a'))::(1050372,.row 2 [])::Oe23 c w,1⟩)
theorem out23 (c : Cl) (w : Wl) (l : List Bd) (Kd : Kinds l) (hl : l.length≤900) :
  ((List.range l.length).any (hitI l) = true → Rw c w ((K E A86_L1 ⟨TJ l 0,F23 c w,O23 c w,1⟩).bind (blockR 0 (some []) [6,7,9,10,11,48,55]))) ∧
  ((List.range l.length).any (hitI l) = false → (K E A86_L1 ⟨TJ l 0,F23 c w,O23 c w,1⟩).bind (blockR 0 (some []) [6,7,9,10,11,48,55]) = some (.ex .nrm ⟨[],F23 c w,O23 c w,1⟩)):=by
 have lp:=loop_leave (σ:=Unit) (fun S=>(K E A86_L1 S).bind (blockR 0 (some []) [6,7,9,10,11,48,55]))
  (fun k _=>⟨TJ l k,F23 c w,O23 c w,1⟩) (List.range l.length) (fun x _=>x) (hitI l) (Rw c w) (fun _=>some (.ex .nrm ⟨[],F23 c w,O23 c w,1⟩))
  (fun _=>by
   show (K E A86_L1 _).bind _ = _
   rw [Qv,A86_L1_eq]; simp +contextual -implicitDefEqProofs (maxSteps:=2000000) only [go_sem,O23,F23,L23,TJ,A86_L1b,Qt,Qb])
  (fun k p _ hk hp=>by
   rw [Qv] at hk
   have hpk : p = k:=by rw [List.getElem?_range hk] at hp; cases hp; rfl
   subst hpk
   have hin:=in23 c w l Kd (by omega) p hk
   have ha : l[p]? = some (l.getD p default):=Go.Geo.getD_of default hk
   have g1:=get_bd ha
   unfold hitI
   generalize l.getD p default = a at *
   have h0 : (0 : Int)≤p:=by omega
   have h1 : (p : Int) < l.length:=by omega
   have h2 : ((p + 1 : Nat) : Int)≤l.length:=by omega
   have h3 : (0 : Int)≤(p + 1 : Nat):=by omega
   have h4 : p + 1≤l.length:=by omega
   have hw:=Go.Geo.wr_k (k:=p) (by omega)
   have hd:=dt4 l p
   have hb4:=all_b4 l
   obtain ⟨hin1,hin2⟩:=hin
   refine ⟨fun hq=>?_,fun hq=>?_⟩
   ·obtain ⟨T',a',hin⟩:=hin1 hq
    simp only [O23,Oe23,F23,L23,TI,TJ] at hin
    refine ⟨T',a',?_⟩
    show (K E A86_L1 _).bind _ = _
    rw [A86_L1_eq]
    simp +contextual -implicitDefEqProofs (maxSteps:=2000000) only [go_sem,O23,Oe23,F23,L23,TJ,A86_L1b,Qb,h0,h1,h2,h3,h4,hw,g1,hd,hb4,hin]
   ·have hin:=hin2 hq
    simp only [O23,Oe23,F23,L23,TI,TJ] at hin
    show (K E A86_L1 _).bind _ = (K E A86_L1 _).bind _
    conv=>lhs; rw [A86_L1_eq]
    simp +contextual -implicitDefEqProofs (maxSteps:=2000000) only [go_sem,O23,F23,L23,TJ,A86_L1b,Qb,h0,h1,h2,h3,h4,hw,g1,hd,hb4,hin]) ()
 simp only [Qs,Qz] at lp
 exact lp
theorem hit_any (l : List Bd) : (List.range l.length).any (hitI l) = !decide (pfs tch l = []):=by
 have h : ∀ n,(List.range n).any (hitI l) = !decide (pfN tch l n = []):=fun n=>by
  induction n with
  | zero=>simp [pfN]
  | succ n ih =>
    rw [Qbb,Qdq,ih,pfN_succ]
    have e : hitI l n = !decide (pfI tch l n = []):=by
     unfold hitI pfI pfJ
     rw [Qa2]
     simp [List.filter_eq_nil_iff]
    simp [e,List.append_eq_nil_iff]
 exact h _
theorem c23 (c : Cl) (w : Wl) (H : Fin_ c) (P : Pld c w) (Kd : Kinds (bodies c w)) (hl : (bodies c w).length≤900) : pc E 23 [.agg (cec c.cel),.agg (wlc w)] = some (.bool (decide (pfs tch (bodies c w) = []))):=by
 have h:=c16 c w H P
 have lp:=out23 c w (bodies c w) Kd hl
 rw [hit_any] at lp
 generalize bodies c w = l at *
 have e55:=c55 c.cel w
 cases hq : decide (pfs tch l = []) with
 | true =>
   rw [hq] at lp
   have lp:=lp.2 rfl
   simp only [O23,F23,L23,TJ] at lp
   rw [pc_eq]; simp +contextual -implicitDefEqProofs (maxSteps:=2000000) only [go_sem,E_23,A23,e55,c87m,h,E_86,A86,A23_R0,Qb,lp]
 | false =>
   rw [hq] at lp
   obtain ⟨T',a',lp⟩:=lp.1 rfl
   simp only [O23,Oe23,F23,L23,TJ] at lp
   rw [pc_eq]; simp +contextual -implicitDefEqProofs (maxSteps:=2000000) only [go_sem,E_23,A23,e55,c87m,h,E_86,A86,A23_R0,Qb,lp]
end Go.Proofs.YtbpneedpcccpaaaGreat

namespace Go.Proofs.YtbpneedpcccpaaaGreat
open Go Go.Zv
open Go.Geo (Pt FC Val)
def AllV (l : List Bd) : Prop:=∀ b ∈ l,Val b.ar
theorem prs_mem {l : List Bd} {p : Bd × Bd} (h : p ∈ prs l) : p.1 ∈ l∧p.2 ∈ l:=by
 unfold prs prN at h
 obtain ⟨i,hi,h⟩:=Qc9.1 h
 rw [Qn] at hi
 unfold prI prJ at h
 obtain ⟨b,hb,rfl⟩:=Qaa.1 h
 have h1 : l[i]? = some (l.getD i default):=Go.Geo.getD_of default hi
 exact ⟨Qd h1,List.mem_of_mem_drop (Qx.1 hb).1⟩
def hitP (p : Bd × Bd) : Bool:=(FC p.1.ar p.2.ar).isSome
theorem pfs_tch (l : List Bd) : pfs tch l = (prs l).filter hitP:=pfs_and bar (fun a b=>(FC a.ar b.ar).isSome) l
end Go.Proofs.YtbpneedpcccpaaaGreat

namespace Go.Proofs.YtbpneedpcccpaaaGreat
open Go Go.Zv
open Go.Geo (Pt mayB)
def whI (wh : List Int) (m : Int) (i : Nat) : Bool:=(decide (wh.getD i 0 < -1) || decide (m≤wh.getD i 0)) || (List.range i).any fun k=>decide (0≤wh.getD i 0) && decide (wh.getD i 0 = wh.getD k 0)
def hdI (wh : List Int) (n h : Int) : Bool:=(decide (h < -1) || decide (n≤h)) || (decide (0≤h) && !decide (wh.getD h.toNat 0 = -1))
def plB (c : Cl) (w : Wl) : Bool:=decide (w.wh.length = c.pt.length) && (!(decide (0≤w.h0) && decide (w.h0 = w.h1)) && (!hdI w.wh c.pt.length w.h0 && (!hdI w.wh c.pt.length w.h1 && !(List.range w.wh.length).any (whI w.wh c.pl.length))))
theorem c48 (p : Pt) : pc E 48 [.agg (Go.Geo.c2 p)] = some (.bool (mayB p)):=by
 obtain ⟨x,y⟩:=p
 have e : mayB (x,y) = (decide (-439400000≤x) && (decide (x≤439400000) && (decide (-439400000≤y) && decide (y≤439400000)))):=by
  rw [Qa2]; simp [mayB,mxI,mnI]; omega
 rw [e]
 by_cases h1 : -439400000≤x
 ·by_cases h2 : x≤439400000
  ·by_cases h3 : -439400000≤y
   ·rw [pc_eq]; simp +contextual -implicitDefEqProofs (maxSteps:=2000000) only [go_sem,E_48,A48,Go.Geo.c2,h1,h2,h3]
   ·rw [pc_eq]; simp +contextual -implicitDefEqProofs (maxSteps:=2000000) only [go_sem,E_48,A48,Go.Geo.c2,h1,h2,h3]
  ·rw [pc_eq]; simp +contextual -implicitDefEqProofs (maxSteps:=2000000) only [go_sem,E_48,A48,Go.Geo.c2,h1,h2]
 ·rw [pc_eq]; simp +contextual -implicitDefEqProofs (maxSteps:=2000000) only [go_sem,E_48,A48,Go.Geo.c2,h1]
abbrev O47 (c : Cl) (w : Wl) : Heap:=[(768,.box (wlc w)),(512,.box (cec c.cel))]
theorem rg_get {n k p : Nat} (h : (List.range n)[k]? = some p) : k = p:=by
 obtain ⟨h1,h2⟩:=Qf.1 h
 rw [List.getElem_range] at h2; exact h2
theorem lp470 (c : Cl) (w : Wl) (i : Nat) (hi : i < w.wh.length) (hl : w.wh.length≤1000) :
  (K E A47_L0 ⟨[(2,.ptr 512 0),(3,.ptr 768 0),(7,.int .i64 i),(8,.int .i64 0)],[],O47 c w,0⟩).bind (blockR 4 (some [2,3,7]) [4,8]) =
   if ((List.range i).any fun k=>decide (0≤w.wh.getD i 0) && decide (w.wh.getD i 0 = w.wh.getD k 0)) = true then some (.ex .ret ⟨[(4,.bool false)],[],O47 c w,0⟩) else some (.ex .nrm ⟨[(2,.ptr 512 0),(3,.ptr 768 0),(7,.int .i64 i)],[],O47 c w,0⟩):=by
 have g0 : (w.wh.map Go.Geo.c1)[i]? = some [.int .i64 (w.wh.getD i 0)]:=Go.Geo.get_m Go.Geo.c1 (Go.Geo.getD_of 0 hi)
 have i0 : (0 : Int)≤i:=by omega
 have i1 : (i : Int) < w.wh.length:=by omega
 refine loop_any (fun S=>(K E A47_L0 S).bind (blockR 4 (some [2,3,7]) [4,8])) (fun k=>⟨[(2,.ptr 512 0),(3,.ptr 768 0),(7,.int .i64 i),(8,.int .i64 k)],[],O47 c w,0⟩) (List.range i) (fun k=>decide (0≤w.wh.getD i 0) && decide (w.wh.getD i 0 = w.wh.getD k 0)) _ _ ?_ fun k p hk hp=>?_
 ·rw [Qv]
  show (K E A47_L0 _).bind _ = _
  rw [A47_L0_eq]; simp +contextual -implicitDefEqProofs (maxSteps:=2000000) only [go_sem,A47_L0b,O47,Qt]
 ·have e:=rg_get hp
  subst e
  rw [Qv] at hk
  have g1 : (w.wh.map Go.Geo.c1)[k]? = some [.int .i64 (w.wh.getD k 0)]:=Go.Geo.get_m Go.Geo.c1 (Go.Geo.getD_of 0 (by omega))
  show (K E A47_L0 _).bind _ = if _ then _ else (K E A47_L0 _).bind _
  generalize w.wh.getD i 0 = x at *
  generalize w.wh.getD k 0 = y at *
  have h0 : (0 : Int)≤k:=by omega
  have h1 : (k : Int) < w.wh.length:=by omega
  have h2 : (k : Int) < i:=by omega
  have hw:=Go.Geo.wr_k (k:=k) (by omega)
  conv=>lhs; rw [A47_L0_eq]
  by_cases hx : 0≤x
  ·by_cases hy : x = y
   ·subst hy
    simp +contextual -implicitDefEqProofs (maxSteps:=2000000) only [go_sem,A47_L0b,O47,Qb,i0,i1,h0,h1,h2,hw,g0,g1,hx,beq_self_eq_true]
   ·have hy' : (x == y) = false:=by simpa using hy
    simp +contextual -implicitDefEqProofs (maxSteps:=2000000) only [go_sem,A47_L0b,O47,Qb,i0,i1,h0,h1,h2,hw,g0,g1,hx,hy,hy']
  ·simp +contextual -implicitDefEqProofs (maxSteps:=2000000) only [go_sem,A47_L0b,O47,Qb,i0,i1,h0,h1,h2,hw,g0,g1,hx]
theorem lp471 (c : Cl) (w : Wl) (hl : w.wh.length≤1000) :
  (K E A47_L1 ⟨[(2,.ptr 512 0),(3,.ptr 768 0),(7,.int .i64 0)],[],O47 c w,0⟩).bind (blockR 2 (some []) [4,7,8]) =
   if ((List.range w.wh.length).any (whI w.wh c.pl.length)) = true then some (.ex .ret ⟨[(4,.bool false)],[],O47 c w,0⟩) else some (.ex .nrm ⟨[],[],O47 c w,0⟩):=by
 refine loop_any (fun S=>(K E A47_L1 S).bind (blockR 2 (some []) [4,7,8])) (fun k=>⟨[(2,.ptr 512 0),(3,.ptr 768 0),(7,.int .i64 k)],[],O47 c w,0⟩) (List.range w.wh.length) (whI w.wh c.pl.length) _ _ ?_ fun k p hk hp=>?_
 ·rw [Qv]
  show (K E A47_L1 _).bind _ = _
  rw [A47_L1_eq]; simp +contextual -implicitDefEqProofs (maxSteps:=2000000) only [go_sem,A47_L1b,O47,Qt,Qb]
 ·have e:=rg_get hp
  subst e
  rw [Qv] at hk
  have g1 : (w.wh.map Go.Geo.c1)[k]? = some [.int .i64 (w.wh.getD k 0)]:=Go.Geo.get_m Go.Geo.c1 (Go.Geo.getD_of 0 (by omega))
  have lp:=lp470 c w k hk hl
  show (K E A47_L1 _).bind _ = if _ then _ else (K E A47_L1 _).bind _
  unfold whI
  cases hA : (List.range k).any fun j=>decide (0≤w.wh.getD k 0) && decide (w.wh.getD k 0 = w.wh.getD j 0) <;> rw [hA] at lp <;> generalize w.wh.getD k 0 = x at *
  all_goals
   clear hA
   simp only [O47] at lp
   have h0 : (0 : Int)≤k:=by omega
   have h1 : (k : Int) < w.wh.length:=by omega
   have hw:=Go.Geo.wr_k (k:=k) (by omega)
   conv=>lhs; rw [A47_L1_eq]
   by_cases hx : x < -1
   ·simp +contextual -implicitDefEqProofs (maxSteps:=2000000) only [go_sem,A47_L1b,O47,Qb,h0,h1,hw,g1,hx]
   ·by_cases hy : (c.pl.length : Int)≤x
    ·simp +contextual -implicitDefEqProofs (maxSteps:=2000000) only [go_sem,A47_L1b,O47,Qb,h0,h1,hw,g1,hx,hy]
    ·simp +contextual -implicitDefEqProofs (maxSteps:=2000000) only [go_sem,A47_L1b,O47,Qb,h0,h1,hw,g1,hx,hy,lp]
end Go.Proofs.YtbpneedpcccpaaaGreat

namespace Go.Proofs.YtbpneedpcccpaaaGreat
open Go Go.Zv
open Go.Geo (Pt mayB)
theorem hd_cases (wh : List Int) (n : Nat) (h : Int) (hn : wh.length = n) :
  (h < -1∧hdI wh n h = true) ∨ (¬ h < -1∧(n : Int)≤h∧hdI wh n h = true) ∨ (¬ h < -1 ∧ ¬ (n : Int)≤h ∧ ¬ 0≤h∧hdI wh n h = false) ∨
   (∃ y,0≤h∧h < (n : Int)∧(wh.map Go.Geo.c1)[h.toNat]? = some [.int .i64 y] ∧ ¬ y = -1∧hdI wh n h = true) ∨
   (0≤h∧h < (n : Int)∧(wh.map Go.Geo.c1)[h.toNat]? = some [.int .i64 (-1)]∧hdI wh n h = false):=by
 unfold hdI
 by_cases a : h < -1
 ·left; exact ⟨a,by simp [a]⟩
 ·by_cases b : (n : Int)≤h
  ·right; left; exact ⟨a,b,by simp [a,b]⟩
  ·by_cases d : 0≤h
   ·have g : (wh.map Go.Geo.c1)[h.toNat]? = some [.int .i64 (wh.getD h.toNat 0)]:=Go.Geo.get_m Go.Geo.c1 (Go.Geo.getD_of 0 (by omega))
    by_cases y : wh.getD h.toNat 0 = -1
    ·right; right; right; right
     rw [y] at g
     exact ⟨d,by omega,g,by rw [y]; simp [a,b]⟩
    ·right; right; right; left
     exact ⟨_,d,by omega,g,y,by rw [decide_eq_false y]; simp [a,b,d]⟩
   ·right; right; left; exact ⟨a,b,d,by simp [a,b,d]⟩

theorem c47 (c : Cl) (w : Wl) (hl : w.wh.length≤1000) : pc E 47 [.agg (cec c.cel),.agg (wlc w)] = some (.bool (plB c w)):=by
 unfold plB
 by_cases hn : w.wh.length = c.pt.length
 ·have hN : (w.wh.length : Int) = c.pt.length:=by omega
  rw [decide_eq_true hn,Q5]
  have lp:=lp471 c w hl
  simp only [O47] at lp
  have C0:=hd_cases w.wh c.pt.length w.h0 hn
  have C1:=hd_cases w.wh c.pt.length w.h1 hn
  by_cases e : 0≤w.h0∧w.h0 = w.h1
  ·obtain ⟨e1,e2⟩:=e
   have e3 : (w.h0 == w.h1) = true:=by simpa using e2
   have z : (decide (0≤w.h0) && decide (w.h0 = w.h1)) = true:=by rw [decide_eq_true e1,decide_eq_true e2]; rfl
   rw [z]
   clear C0 C1 lp
   have e5 : 0≤w.h1:=by omega
   rw [pc_eq]; simp +contextual -implicitDefEqProofs (maxSteps:=2000000) only [go_sem,E_47,A47,A47_L2_eq,A47_L2b,hN,Qb,bne_self_eq_false,e1,e3,e5]
  ·have z : (decide (0≤w.h0) && decide (w.h0 = w.h1)) = false:=by simpa using e
   have e3 : 0≤w.h0 → (w.h0 == w.h1) = false:=fun h=>by simp; intro h2; exact e ⟨h,h2⟩
   rw [z]
   clear z
   rcases C0 with ⟨a1,z⟩ | ⟨a1,a2,z⟩ | ⟨a1,a2,a3,z⟩ | ⟨y,a1,a2,a3,a4,z⟩ | ⟨a1,a2,a3,z⟩
   ·rw [z]
    have a4 : ¬ 0≤w.h0:=by omega
    clear C1 lp
    rw [pc_eq]; simp +contextual -implicitDefEqProofs (maxSteps:=2000000) only [go_sem,E_47,A47,A47_L2_eq,A47_L2b,hN,Qb,bne_self_eq_false,a1,a4]
   ·rw [z]
    have a4 : 0≤w.h0:=by omega
    have e4:=e3 a4
    clear C1 lp
    rw [pc_eq]; simp +contextual -implicitDefEqProofs (maxSteps:=2000000) only [go_sem,E_47,A47,A47_L2_eq,A47_L2b,hN,Qb,bne_self_eq_false,a1,a2,a4,e4]
   ·rw [z]
    rcases C1 with ⟨b1,x⟩ | ⟨b1,b2,x⟩ | ⟨b1,b2,b3,x⟩ | ⟨u,b1,b2,b3,b4,x⟩ | ⟨b1,b2,b3,x⟩
    ·rw [x]
     have b4 : ¬ 0≤w.h1:=by omega
     clear lp
     rw [pc_eq]; simp +contextual -implicitDefEqProofs (maxSteps:=2000000) only [go_sem,E_47,A47,A47_L2_eq,A47_L2b,hN,Qb,bne_self_eq_false,a1,a2,a3,b1,b4]
    ·rw [x]
     have b4 : 0≤w.h1:=by omega
     clear lp
     rw [pc_eq]; simp +contextual -implicitDefEqProofs (maxSteps:=2000000) only [go_sem,E_47,A47,A47_L2_eq,A47_L2b,hN,Qb,bne_self_eq_false,a1,a2,a3,b1,b2,b4]
    ·rw [x]
     cases hA : (List.range w.wh.length).any (whI w.wh c.pl.length) <;> rw [hA] at lp <;> clear hA
     ·rw [pc_eq]; simp +contextual -implicitDefEqProofs (maxSteps:=2000000) only [go_sem,E_47,A47,A47_L2_eq,A47_L2b,hN,Qb,bne_self_eq_false,a1,a2,a3,b1,b2,b3,lp]
     ·rw [pc_eq]; simp +contextual -implicitDefEqProofs (maxSteps:=2000000) only [go_sem,E_47,A47,A47_L2_eq,A47_L2b,hN,Qb,bne_self_eq_false,a1,a2,a3,b1,b2,b3,lp]
    ·rw [x]
     have b5 : ¬ w.h1 < -1:=by omega
     have b6 : ¬ (c.pt.length : Int)≤w.h1:=by omega
     clear lp
     rw [pc_eq]; simp +contextual -implicitDefEqProofs (maxSteps:=2000000) only [go_sem,E_47,A47,A47_L2_eq,A47_L2b,hN,Qb,bne_self_eq_false,a1,a2,a3,b1,b2,b3,b5,b6,b4]
    ·rw [x]
     have b5 : ¬ w.h1 < -1:=by omega
     have b6 : ¬ (c.pt.length : Int)≤w.h1:=by omega
     cases hA : (List.range w.wh.length).any (whI w.wh c.pl.length) <;> rw [hA] at lp <;> clear hA
     ·rw [pc_eq]; simp +contextual -implicitDefEqProofs (maxSteps:=2000000) only [go_sem,E_47,A47,A47_L2_eq,A47_L2b,hN,Qb,bne_self_eq_false,a1,a2,a3,b1,b2,b3,b5,b6,lp]
     ·rw [pc_eq]; simp +contextual -implicitDefEqProofs (maxSteps:=2000000) only [go_sem,E_47,A47,A47_L2_eq,A47_L2b,hN,Qb,bne_self_eq_false,a1,a2,a3,b1,b2,b3,b5,b6,lp]
   ·rw [z]
    have a5 : ¬ w.h0 < -1:=by omega
    have a6 : ¬ (c.pt.length : Int)≤w.h0:=by omega
    have e4:=e3 a1
    clear C1 lp
    rw [pc_eq]; simp +contextual -implicitDefEqProofs (maxSteps:=2000000) only [go_sem,E_47,A47,A47_L2_eq,A47_L2b,hN,Qb,bne_self_eq_false,a1,a2,a3,a5,a6,a4,e4]
   ·rw [z]
    have a5 : ¬ w.h0 < -1:=by omega
    have a6 : ¬ (c.pt.length : Int)≤w.h0:=by omega
    have e4:=e3 a1
    rcases C1 with ⟨b1,x⟩ | ⟨b1,b2,x⟩ | ⟨b1,b2,b3,x⟩ | ⟨u,b1,b2,b3,b4,x⟩ | ⟨b1,b2,b3,x⟩
    ·rw [x]
     have b4 : ¬ 0≤w.h1:=by omega
     clear lp
     rw [pc_eq]; simp +contextual -implicitDefEqProofs (maxSteps:=2000000) only [go_sem,E_47,A47,A47_L2_eq,A47_L2b,hN,Qb,bne_self_eq_false,a1,a2,a3,a5,a6,e4,b1,b4]
    ·rw [x]
     have b4 : 0≤w.h1:=by omega
     clear lp
     rw [pc_eq]; simp +contextual -implicitDefEqProofs (maxSteps:=2000000) only [go_sem,E_47,A47,A47_L2_eq,A47_L2b,hN,Qb,bne_self_eq_false,a1,a2,a3,a5,a6,e4,b1,b2,b4]
    ·rw [x]
     cases hA : (List.range w.wh.length).any (whI w.wh c.pl.length) <;> rw [hA] at lp <;> clear hA
     ·rw [pc_eq]; simp +contextual -implicitDefEqProofs (maxSteps:=2000000) only [go_sem,E_47,A47,A47_L2_eq,A47_L2b,hN,Qb,bne_self_eq_false,a1,a2,a3,a5,a6,e4,b1,b2,b3,lp]
     ·rw [pc_eq]; simp +contextual -implicitDefEqProofs (maxSteps:=2000000) only [go_sem,E_47,A47,A47_L2_eq,A47_L2b,hN,Qb,bne_self_eq_false,a1,a2,a3,a5,a6,e4,b1,b2,b3,lp]
    ·rw [x]
     have b5 : ¬ w.h1 < -1:=by omega
     have b6 : ¬ (c.pt.length : Int)≤w.h1:=by omega
     clear lp
     rw [pc_eq]; simp +contextual -implicitDefEqProofs (maxSteps:=2000000) only [go_sem,E_47,A47,A47_L2_eq,A47_L2b,hN,Qb,bne_self_eq_false,a1,a2,a3,a5,a6,e4,b1,b2,b3,b5,b6,b4]
    ·rw [x]
     have b5 : ¬ w.h1 < -1:=by omega
     have b6 : ¬ (c.pt.length : Int)≤w.h1:=by omega
     cases hA : (List.range w.wh.length).any (whI w.wh c.pl.length) <;> rw [hA] at lp <;> clear hA
     ·rw [pc_eq]; simp +contextual -implicitDefEqProofs (maxSteps:=2000000) only [go_sem,E_47,A47,A47_L2_eq,A47_L2b,hN,Qb,bne_self_eq_false,a1,a2,a3,a5,a6,e4,b1,b2,b3,b5,b6,lp]
     ·rw [pc_eq]; simp +contextual -implicitDefEqProofs (maxSteps:=2000000) only [go_sem,E_47,A47,A47_L2_eq,A47_L2b,hN,Qb,bne_self_eq_false,a1,a2,a3,a5,a6,e4,b1,b2,b3,b5,b6,lp]
 ·have hN : ((w.wh.length : Int) == c.pt.length) = false:=by simp; omega
  have hN2 : ((w.wh.length : Int) != c.pt.length) = true:=by simp; omega
  rw [decide_eq_false hn]
  rw [pc_eq]; simp +contextual -implicitDefEqProofs (maxSteps:=2000000) only [go_sem,E_47,A47,hN,hN2,Qb]
end Go.Proofs.YtbpneedpcccpaaaGreat

namespace Go.Proofs.YtbpneedpcccpaaaGreat
open Go Go.Zv
open Go.Geo (Pt mayB)
abbrev en (e : Int × Int) : LV × LV:=(.int .i64 e.1,.int .i64 e.2)
def vl (x : Int) : List (Int × Int) → Int
 | []=>0
 | (a,v)::l=>if x = a then v else vl x l
def up (x v : Int) : List (Int × Int) → List (Int × Int)
 | []=>[(x,v)]
 | (a,w)::l=>if x = a then (x,v)::l else (a,w)::up x v l
def lkO (x : Int) : List (Int × Int) → Option Int
 | []=>none
 | (a,v)::l=>if x = a then some v else lkO x l
theorem vl_lkO (x : Int) (l : List (Int × Int)) : vl x l = (lkO x l).getD 0:=by
 induction l with
 | nil=>rfl
 | cons e l ih =>
   obtain ⟨a,v⟩:=e
   simp only [vl,lkO]; split <;> simp_all
theorem lookE (x : Int) (l : List (Int × Int)) : lookupE [0,0] (.int .i64 x) (l.map en) = some ((lkO x l).map (LV.int .i64 ·)):=by
 induction l with
 | nil=>rfl
 | cons e l ih =>
   obtain ⟨a,v⟩:=e
   show (eqKey [0,0] (.int .i64 x) (.int .i64 a)).bind (lookK (.int .i64 v) (lookupE [0,0] (.int .i64 x) (l.map en))) = _
   rw [ih]
   by_cases h : x = a
   ·subst h; simp [eqKey_eq,eqs_cons,eqs_nil,isAg_int,cells_int,eq1_int,andK_some,lookK_eq,lkO]
   ·simp [eqKey_eq,eqs_cons,eqs_nil,isAg_int,cells_int,eq1_int,andK_some,lookK_eq,lkO,h]
theorem lookV (x : Int) (l : List (Int × Int)) : (lookupE [0,0] (.int .i64 x) (l.map en)).bind (lkpK (.int .i64 0) false) = some (.int .i64 (vl x l)):=by
 rw [lookE,vl_lkO]
 cases lkO x l <;> rfl
theorem updE_ (x v : Int) (l : List (Int × Int)) : updE [0,0] (.int .i64 x) (.int .i64 v) (l.map en) = some ((up x v l).map en):=by
 induction l with
 | nil=>rfl
 | cons e l ih =>
   obtain ⟨a,w⟩:=e
   show (eqKey [0,0] (.int .i64 x) (.int .i64 a)).bind (updK (.int .i64 x) (.int .i64 v) (.int .i64 a) (.int .i64 w) (l.map en) (updE [0,0] (.int .i64 x) (.int .i64 v) (l.map en))) = _
   rw [ih]
   by_cases h : x = a
   ·subst h; simp [eqKey_eq,eqs_cons,eqs_nil,isAg_int,cells_int,eq1_int,andK_some,updK_eq,up]
   ·simp [eqKey_eq,eqs_cons,eqs_nil,isAg_int,cells_int,eq1_int,andK_some,updK_eq,up,h,consE_eq]
theorem vl_up (x v y : Int) (l : List (Int × Int)) : vl y (up x v l) = if y = x then v else vl y l:=by
 induction l with
 | nil=>simp [up,vl]
 | cons e l ih =>
   obtain ⟨a,w⟩:=e
   simp only [up]
   by_cases h : x = a
   ·subst h; simp only [if_true,vl]; split <;> rfl
   ·simp only [if_neg h,vl,ih]
    by_cases h2 : y = a
    ·have : ¬ a = x:=fun k=>h k.symm
     simp [h2,this]
    ·simp [h2]
abbrev O44 (c : Cl) (w : Wl) (es : List (Int × Int)) : Heap:=[(4352,.map (es.map en)),(768,.box (wlc w)),(512,.box (cec c.cel))]
abbrev S44 (c : Cl) (w : Wl) (k : Nat) (es : List (Int × Int)) : St:=⟨[(2,.ptr 512 0),(3,.ptr 768 0),(5,.mp 4352),(19,.vs (w.wh.map Go.Geo.c1)),(20,.int .i64 w.wh.length),(21,.int .i64 k)],[],O44 c w es,0⟩
theorem cnt_take (l : List Int) (k : Nat) (x : Int) (hk : k < l.length) : (l.take (k + 1)).count x = (l.take k).count x + if l.getD k 0 = x then 1 else 0:=by
 have : l[k]? = some (l.getD k 0):=Go.Geo.getD_of 0 hk
 rw [Qbn,this,List.count_append]
 simp [List.count_singleton]
theorem cnt_any (l : List Int) (k : Nat) (x : Int) (hk : k≤l.length) : 1≤(l.take k).count x ↔ ((List.range k).any fun j=>decide (x = l.getD j 0)) = true:=by
 induction k with
 | zero=>simp
 | succ k ih =>
   rw [cnt_take l k x (by omega),Qbb,Qdq,Qat,← ih (by omega)]
   simp only [List.any_cons,Qc8,Qbo,decide_eq_true_eq]
   constructor
   ·intro h
    by_cases e : l.getD k 0 = x
    ·right; exact e.symm
    ·rw [if_neg e] at h; left; omega
   ·rintro (h | h)
    ·omega
    ·rw [if_pos h.symm]; omega
theorem whI_eq (wh : List Int) (m : Int) (k : Nat) (hk : k < wh.length) : whI wh m k = ((decide (wh.getD k 0 < -1) || decide (m≤wh.getD k 0)) || (decide (0≤wh.getD k 0) && decide (1≤(wh.take k).count (wh.getD k 0)))):=by
 unfold whI
 congr 1
 have:=cnt_any wh k (wh.getD k 0) (by omega)
 cases h : decide (0≤wh.getD k 0) with
 | false=>simp
 | true =>
   simp only [Q5]
   rw [Qa2,← this]; simp
theorem lp441 (c : Cl) (w : Wl) (hl : w.wh.length≤1000) (hm : c.pl.length≤1000) :
  (((List.range w.wh.length).any (whI w.wh c.pl.length) = true → ∃ es,(K E A44_L1 (S44 c w 0 [])).bind (blockR 0 (some [2,3]) [4,7,30]) = some (.ex .ret ⟨[(4,.bool false)],[],O44 c w es,0⟩)) ∧
   ((List.range w.wh.length).any (whI w.wh c.pl.length) = false → ∃ es,(K E A44_L1 (S44 c w 0 [])).bind (blockR 0 (some [2,3]) [4,7,30]) = some (.ex .nrm ⟨[(2,.ptr 512 0),(3,.ptr 768 0)],[],O44 c w es,0⟩))):=by
 refine loop_P (fun S=>(K E A44_L1 S).bind (blockR 0 (some [2,3]) [4,7,30])) (S44 c w) w.wh.length (fun k es=>∀ x,vl x es = ((w.wh.take k).count x : Nat))
  (fun k es o=>(((List.range w.wh.length).drop k).any (whI w.wh c.pl.length) = true → ∃ es,o = some (.ex .ret ⟨[(4,.bool false)],[],O44 c w es,0⟩)) ∧
   (((List.range w.wh.length).drop k).any (whI w.wh c.pl.length) = false → ∃ es,o = some (.ex .nrm ⟨[(2,.ptr 512 0),(3,.ptr 768 0)],[],O44 c w es,0⟩))) ?_ ?_ 0 [] (Qco _) (fun x=>by simp [vl])
 ·intro es _
  refine ⟨fun h=>?_,fun _=>⟨es,?_⟩⟩
  ·rw [Qca (by simp)] at h; cases h
  ·show (K E A44_L1 _).bind _ = _
   rw [A44_L1_eq]; simp +contextual -implicitDefEqProofs (maxSteps:=2000000) only [go_sem,A44_L1b,O44,Qt]
 ·intro k es hk hI
  have hget : (List.range w.wh.length)[k]? = some k:=by simp [hk]
  rw [Go.Zv.drop_get hget,List.any_cons]
  have g1 : (w.wh.map Go.Geo.c1)[k]? = some [.int .i64 (w.wh.getD k 0)]:=Go.Geo.get_m Go.Geo.c1 (Go.Geo.getD_of 0 hk)
  have hw':=whI_eq w.wh c.pl.length k hk
  have hct : ∀ y,(w.wh.take (k + 1)).count y = (w.wh.take k).count y + if w.wh.getD k 0 = y then 1 else 0:=fun y=>cnt_take w.wh k y hk
  have hle : ∀ y,(w.wh.take k).count y≤1000:=fun y=>Qda List.count_le_length (by simp; omega)
  have hi:=hI (w.wh.getD k 0)
  have hle:=hle (w.wh.getD k 0)
  rw [hw']
  generalize w.wh.getD k 0 = x at *
  have h0 : (0 : Int)≤k:=by omega
  have h1 : (k : Int) < w.wh.length:=by omega
  have hw:=Go.Geo.wr_k (k:=k) (by omega)
  have hv:=lookV x es
  have hv2:=lookV x (up x (vl x es + 1) es)
  have hu:=updE_ x (vl x es + 1) es
  have hvu : vl x (up x (vl x es + 1) es) = vl x es + 1:=by rw [vl_up,if_pos rfl]
  rw [hvu] at hv2
  have hwv : w64 (vl x es + 1) = vl x es + 1:=by rw [hi]; exact wrap_small (by omega) (by omega)
  have hwp : w64 ((c.pl.length : Int) - 1) = c.pl.length - 1:=wrap_small (by omega) (by omega)
  simp only [w64] at hwv hwp
  have hc46:=c46 x (-1) (c.pl.length - 1)
  by_cases hx : x < -1
  ·left
   have b1 : ¬ -1≤x:=by omega
   refine ⟨fun _=>⟨es,?_⟩,fun h=>by simp [hx] at h⟩
   rw [decide_eq_false b1,Qu] at hc46
   show (K E A44_L1 _).bind _ = _
   rw [A44_L1_eq]
   simp +contextual -implicitDefEqProofs (maxSteps:=2000000) only [go_sem,A44_L1b,O44,S44,Qb,h0,h1,hw,g1,hwp,hc46]
  ·have b1 : -1≤x:=by omega
   rw [decide_eq_true b1,Q5] at hc46
   by_cases hy : (c.pl.length : Int)≤x
   ·left
    have b2 : ¬ x≤c.pl.length - 1:=by omega
    refine ⟨fun _=>⟨es,?_⟩,fun h=>by simp [hx,hy] at h⟩
    rw [decide_eq_false b2] at hc46
    show (K E A44_L1 _).bind _ = _
    rw [A44_L1_eq]
    simp +contextual -implicitDefEqProofs (maxSteps:=2000000) only [go_sem,A44_L1b,O44,S44,Qb,h0,h1,hw,g1,hwp,hc46]
   ·have b2 : x≤c.pl.length - 1:=by omega
    rw [decide_eq_true b2] at hc46
    by_cases hp : 0≤x
    ·by_cases hc : 1≤(w.wh.take k).count x
     ·left
      have b3 : 1 < vl x es + 1:=by omega
      refine ⟨fun _=>⟨up x (vl x es + 1) es,?_⟩,fun h=>by simp [hx,hy,hp,hc] at h⟩
      show (K E A44_L1 _).bind _ = _
      rw [A44_L1_eq]
      simp +contextual -implicitDefEqProofs (maxSteps:=2000000) only [go_sem,A44_L1b,O44,S44,Qb,h0,h1,hw,g1,hwp,hc46,hv,hv2,hu,hwv,hp,b3]
     ·right
      have b3 : ¬ 1 < vl x es + 1:=by omega
      refine ⟨up x (vl x es + 1) es,fun y=>?_,?_,fun o ho=>?_⟩
      ·rw [vl_up,hct]; split
       ·rename_i e; subst e; rw [hi]; simp
       ·rename_i e; rw [hI,if_neg (fun q=>e q.symm)]; simp
      ·show (K E A44_L1 _).bind _ = (K E A44_L1 _).bind _
       conv=>lhs; rw [A44_L1_eq]
       simp +contextual -implicitDefEqProofs (maxSteps:=2000000) only [go_sem,A44_L1b,O44,S44,Qb,h0,h1,hw,g1,hwp,hc46,hv,hv2,hu,hwv,hp,b3]
      ·have e : (decide (x < -1) || decide ((c.pl.length : Int)≤x) || decide (0≤x) && decide (1≤(w.wh.take k).count x)) = false:=by
        rw [decide_eq_false hx,decide_eq_false hy,decide_eq_false hc]; simp
       rw [e,Qag]; exact ho
    ·right
     refine ⟨up x (vl x es + 1) es,fun y=>?_,?_,fun o ho=>?_⟩
     ·rw [vl_up,hct]; split
      ·rename_i e; subst e; rw [hi]; simp
      ·rename_i e; rw [hI,if_neg (fun q=>e q.symm)]; simp
     ·show (K E A44_L1 _).bind _ = (K E A44_L1 _).bind _
      conv=>lhs; rw [A44_L1_eq]
      simp +contextual -implicitDefEqProofs (maxSteps:=2000000) only [go_sem,A44_L1b,O44,S44,Qb,h0,h1,hw,g1,hwp,hc46,hv,hu,hwv,hp]
     ·have e : (decide (x < -1) || decide ((c.pl.length : Int)≤x) || decide (0≤x) && decide (1≤(w.wh.take k).count x)) = false:=by
       rw [decide_eq_false hx,decide_eq_false hy,decide_eq_false hp]; simp
      rw [e,Qag]; exact ho
end Go.Proofs.YtbpneedpcccpaaaGreat

namespace Go.Proofs.YtbpneedpcccpaaaGreat
open Go Go.Zv
open Go.Geo (Pt mayB)
theorem c44 (c : Cl) (w : Wl) (hl : c.pt.length≤1000) (hm : c.pl.length≤1000) : pc E 44 [.agg (cec c.cel),.agg (wlc w)] = some (.bool (plB c w)):=by
 unfold plB
 by_cases hn : w.wh.length = c.pt.length
 ·have hN : (w.wh.length : Int) = c.pt.length:=by omega
  have lp:=lp441 c w (by omega) hm
  rw [decide_eq_true hn,Q5]
  have hwp : w64 ((c.pt.length : Int) - 1) = c.pt.length - 1:=wrap_small (by omega) (by omega)
  simp only [w64] at hwp
  cases hA : (List.range w.wh.length).any (whI w.wh c.pl.length) with
  | true =>
    obtain ⟨es,lp⟩:=lp.1 hA
    simp only [O44,S44,hN,Qad,Qs,Qz] at lp
    simp only [Qaf,Q1]
    clear hA
    rw [pc_eq]; simp +contextual -implicitDefEqProofs (maxSteps:=2000000) only [go_sem,E_44,A44,hN,Qb,bne_self_eq_false,lp]
  | false =>
    obtain ⟨es,lp⟩:=lp.2 hA
    simp only [O44,S44,hN,Qad,Qs,Qz] at lp
    simp only [Qa1,Qay]
    clear hA
    have C0:=hd_cases w.wh c.pt.length w.h0 hn
    have C1:=hd_cases w.wh c.pt.length w.h1 hn
    have q0:=c46 w.h0 (-1) (c.pt.length - 1)
    have q1:=c46 w.h1 (-1) (c.pt.length - 1)
    generalize es.map en = es at *
    rcases C0 with ⟨a1,z⟩ | ⟨a1,a2,z⟩ | ⟨a1,a2,a3,z⟩ | ⟨y,a1,a2,a3,a4,z⟩ | ⟨a1,a2,a3,z⟩
    ·rw [z]
     have g1 : ¬ -1≤w.h0:=by omega
     rw [decide_eq_false g1,Qu] at q0
     clear g1
     simp only [Qaf,Qu,Q1]
     rw [pc_eq]; simp +contextual -implicitDefEqProofs (maxSteps:=2000000) only [go_sem,E_44,A44,A44_L0_eq,A44_L0b,hN,Qb,bne_self_eq_false,hwp,lp,q0]
    ·rw [z]
     have g1 : ¬ w.h0≤(c.pt.length : Int) - 1:=by omega
     rw [decide_eq_false g1,Q1] at q0
     clear g1
     simp only [Qaf,Qu,Q1]
     rw [pc_eq]; simp +contextual -implicitDefEqProofs (maxSteps:=2000000) only [go_sem,E_44,A44,A44_L0_eq,A44_L0b,hN,Qb,bne_self_eq_false,hwp,lp,q0]
    ·rw [z]
     have g1 : -1≤w.h0:=by omega
     have g2 : w.h0≤(c.pt.length : Int) - 1:=by omega
     rw [decide_eq_true g1,decide_eq_true g2,Q5] at q0
     clear g1 g2
     rcases C1 with ⟨b1,x⟩ | ⟨b1,b2,x⟩ | ⟨b1,b2,b3,x⟩ | ⟨u,b1,b2,b3,b4,x⟩ | ⟨b1,b2,b3,x⟩
     ·rw [x]
      have g1 : ¬ -1≤w.h1:=by omega
      rw [decide_eq_false g1,Qu] at q1
      clear g1
      simp only [Qaf,Qu,Q1]
      rw [pc_eq]; simp +contextual -implicitDefEqProofs (maxSteps:=2000000) only [go_sem,E_44,A44,A44_L0_eq,A44_L0b,hN,Qb,bne_self_eq_false,hwp,lp,q0,a3,q1]
     ·rw [x]
      have g1 : ¬ w.h1≤(c.pt.length : Int) - 1:=by omega
      rw [decide_eq_false g1,Q1] at q1
      clear g1
      simp only [Qaf,Qu,Q1]
      rw [pc_eq]; simp +contextual -implicitDefEqProofs (maxSteps:=2000000) only [go_sem,E_44,A44,A44_L0_eq,A44_L0b,hN,Qb,bne_self_eq_false,hwp,lp,q0,a3,q1]
     ·rw [x]
      have g1 : -1≤w.h1:=by omega
      have g2 : w.h1≤(c.pt.length : Int) - 1:=by omega
      rw [decide_eq_true g1,decide_eq_true g2,Q5] at q1
      clear g1 g2
      have n1 : w.h0 < 0:=by omega
      rw [decide_eq_false a3]
      rw [pc_eq]; simp +contextual -implicitDefEqProofs (maxSteps:=2000000) only [go_sem,E_44,A44,A44_L0_eq,A44_L0b,hN,Qb,bne_self_eq_false,hwp,lp,q0,a3,q1,b3,n1]
     ·rw [x]
      have g1 : -1≤w.h1:=by omega
      have g2 : w.h1≤(c.pt.length : Int) - 1:=by omega
      rw [decide_eq_true g1,decide_eq_true g2,Q5] at q1
      clear g1 g2
      simp only [Qaf,Qu,Q1]
      rw [pc_eq]; simp +contextual -implicitDefEqProofs (maxSteps:=2000000) only [go_sem,E_44,A44,A44_L0_eq,A44_L0b,hN,Qb,bne_self_eq_false,hwp,lp,q0,a3,q1,b1,b2,b3,b4]
     ·rw [x]
      have g1 : -1≤w.h1:=by omega
      have g2 : w.h1≤(c.pt.length : Int) - 1:=by omega
      rw [decide_eq_true g1,decide_eq_true g2,Q5] at q1
      clear g1 g2
      have n1 : w.h0 < 0:=by omega
      rw [decide_eq_false a3]
      rw [pc_eq]; simp +contextual -implicitDefEqProofs (maxSteps:=2000000) only [go_sem,E_44,A44,A44_L0_eq,A44_L0b,hN,Qb,bne_self_eq_false,hwp,lp,q0,a3,q1,b1,b2,b3,n1]
    ·rw [z]
     have g1 : -1≤w.h0:=by omega
     have g2 : w.h0≤(c.pt.length : Int) - 1:=by omega
     rw [decide_eq_true g1,decide_eq_true g2,Q5] at q0
     clear g1 g2
     simp only [Qaf,Qu,Q1]
     rw [pc_eq]; simp +contextual -implicitDefEqProofs (maxSteps:=2000000) only [go_sem,E_44,A44,A44_L0_eq,A44_L0b,hN,Qb,bne_self_eq_false,hwp,lp,q0,a1,a2,a3,a4]
    ·rw [z]
     have g1 : -1≤w.h0:=by omega
     have g2 : w.h0≤(c.pt.length : Int) - 1:=by omega
     rw [decide_eq_true g1,decide_eq_true g2,Q5] at q0
     clear g1 g2
     rcases C1 with ⟨b1,x⟩ | ⟨b1,b2,x⟩ | ⟨b1,b2,b3,x⟩ | ⟨u,b1,b2,b3,b4,x⟩ | ⟨b1,b2,b3,x⟩
     ·rw [x]
      have g1 : ¬ -1≤w.h1:=by omega
      rw [decide_eq_false g1,Qu] at q1
      clear g1
      simp only [Qaf,Qu,Q1]
      rw [pc_eq]; simp +contextual -implicitDefEqProofs (maxSteps:=2000000) only [go_sem,E_44,A44,A44_L0_eq,A44_L0b,hN,Qb,bne_self_eq_false,hwp,lp,q0,a1,a2,a3,q1]
     ·rw [x]
      have g1 : ¬ w.h1≤(c.pt.length : Int) - 1:=by omega
      rw [decide_eq_false g1,Q1] at q1
      clear g1
      simp only [Qaf,Qu,Q1]
      rw [pc_eq]; simp +contextual -implicitDefEqProofs (maxSteps:=2000000) only [go_sem,E_44,A44,A44_L0_eq,A44_L0b,hN,Qb,bne_self_eq_false,hwp,lp,q0,a1,a2,a3,q1]
     ·rw [x]
      have g1 : -1≤w.h1:=by omega
      have g2 : w.h1≤(c.pt.length : Int) - 1:=by omega
      rw [decide_eq_true g1,decide_eq_true g2,Q5] at q1
      clear g1 g2
      have n1 : ¬ w.h0 < 0:=by omega
      by_cases e : w.h0 = w.h1
      ·have e3 : (w.h0 != w.h1) = false:=by simpa using e
       rw [decide_eq_true a1,decide_eq_true e]
       clear e
       rw [pc_eq]; simp +contextual -implicitDefEqProofs (maxSteps:=2000000) only [go_sem,E_44,A44,A44_L0_eq,A44_L0b,hN,Qb,bne_self_eq_false,hwp,lp,q0,a1,a2,a3,q1,b3,n1,e3]
      ·have e3 : (w.h0 != w.h1) = true:=by simpa using e
       rw [decide_eq_false e,Q1]
       clear e
       rw [pc_eq]; simp +contextual -implicitDefEqProofs (maxSteps:=2000000) only [go_sem,E_44,A44,A44_L0_eq,A44_L0b,hN,Qb,bne_self_eq_false,hwp,lp,q0,a1,a2,a3,q1,b3,n1,e3]
     ·rw [x]
      have g1 : -1≤w.h1:=by omega
      have g2 : w.h1≤(c.pt.length : Int) - 1:=by omega
      rw [decide_eq_true g1,decide_eq_true g2,Q5] at q1
      clear g1 g2
      simp only [Qaf,Qu,Q1]
      rw [pc_eq]; simp +contextual -implicitDefEqProofs (maxSteps:=2000000) only [go_sem,E_44,A44,A44_L0_eq,A44_L0b,hN,Qb,bne_self_eq_false,hwp,lp,q0,a1,a2,a3,q1,b1,b2,b3,b4]
     ·rw [x]
      have g1 : -1≤w.h1:=by omega
      have g2 : w.h1≤(c.pt.length : Int) - 1:=by omega
      rw [decide_eq_true g1,decide_eq_true g2,Q5] at q1
      clear g1 g2
      have n1 : ¬ w.h0 < 0:=by omega
      by_cases e : w.h0 = w.h1
      ·have e3 : (w.h0 != w.h1) = false:=by simpa using e
       rw [decide_eq_true a1,decide_eq_true e]
       clear e
       rw [pc_eq]; simp +contextual -implicitDefEqProofs (maxSteps:=2000000) only [go_sem,E_44,A44,A44_L0_eq,A44_L0b,hN,Qb,bne_self_eq_false,hwp,lp,q0,a1,a2,a3,q1,b1,b2,b3,n1,e3]
      ·have e3 : (w.h0 != w.h1) = true:=by simpa using e
       rw [decide_eq_false e,Q1]
       clear e
       rw [pc_eq]; simp +contextual -implicitDefEqProofs (maxSteps:=2000000) only [go_sem,E_44,A44,A44_L0_eq,A44_L0b,hN,Qb,bne_self_eq_false,hwp,lp,q0,a1,a2,a3,q1,b1,b2,b3,n1,e3]
 ·have hN : ((w.wh.length : Int) == c.pt.length) = false:=by simp; omega
  have hN2 : ((w.wh.length : Int) != c.pt.length) = true:=by simp; omega
  rw [decide_eq_false hn]
  rw [pc_eq]; simp +contextual -implicitDefEqProofs (maxSteps:=2000000) only [go_sem,E_44,A44,hN,hN2,Qb]
end Go.Proofs.YtbpneedpcccpaaaGreat

namespace Go.Proofs.YtbpneedpcccpaaaGreat
open Go Go.Zv
open Go.Geo (Pt mayB)
abbrev u1 (x : Int) : List LV:=[.int .u8 x]
abbrev bl (b : Bool) : List LV:=[.bool b]
def wk (pl : Nat) (b : List Int) (i : Nat) : Int:=if i < b.length then b.getD i 0 % (pl + 1) else 0
def wst (pl : Nat) (b : List Int) (s : List Bool × List Int) (i : Nat) : List Bool × List Int :=
 if wk pl b i < pl∧s.1.getD (wk pl b i).toNat false = false then (s.1.set (wk pl b i).toNat true,s.2++[wk pl b i]) else (s.1,s.2++[-1])
structure Raw where
 q : Int
 r : Int
 s : Int
 t : Int
 u : Int
 v : Int
 h : Int
 k : Int
 b : List Int
abbrev X49 (c : Cl) (x : Raw) (R : List (List LV)) : Heap:=[(2313,.row 1 R),(2304,.box [.int .i64 (jt c.a.lo0 c.a.hi0 x.q),.int .i64 (jt c.a.lo1 c.a.hi1 x.r),.int .i64 (jt c.a.lo2 c.a.hi2 x.s),.int .i64 (jt c.b.lo0 c.b.hi0 x.t),.int .i64 (jt c.b.lo1 c.b.hi1 x.u),.int .i64 (jt c.b.lo2 c.b.hi2 x.v),.int .i64 (-1),.int .i64 (-1),.bs 2313 0 R.length]),(2048,.box [.int .i64 0,.int .i64 0,.int .i64 0,.int .i64 0,.int .i64 0,.int .i64 0,.int .i64 0,.int .i64 0,.bs 2057 0 0]),(2057,.row 1 []),(1536,.box [.int .u8 x.h,.int .u8 x.k]),(1280,.box [.int .u8 x.q,.int .u8 x.r,.int .u8 x.s,.int .u8 x.t,.int .u8 x.u,.int .u8 x.v]),(1024,.box (cec c.cel))]
theorem get_bl {l : List Bool} {i : Nat} (h : i < l.length) : (l.map bl)[i]? = some [.bool (l.getD i false)]:=by
 rw [Qan,Go.Geo.getD_of false h]; rfl
theorem set_bl (l : List Bool) (i : Nat) (b : Bool) : (l.map bl).set i [.bool b] = (l.set i b).map bl:=by
 rw [List.map_set]
theorem step49 (c : Cl) (x : Raw) (tk : List Bool) (wh : List Int) (i : Nat) (ht : tk.length = c.pl.length) (hp : c.pl.length≤1000) (hq : c.pt.length≤1000) (hb : ∀ y ∈ x.b,0≤y∧y≤255) (hn : i < c.pt.length) (hr : wh.length = i) :
  (K E A49_L1 ⟨[(3,.vs (x.b.map u1)),(4,.ptr 1024 0),(6,.ptr 1536 0),(8,.ptr 2048 0),(9,.ptr 2304 0),(11,.bs 9472 0 c.pl.length),(12,.int .i64 i)],[],(9472,.row 1 (tk.map bl))::X49 c x (wh.map Go.Geo.c1),0⟩).bind (blockR 2 (some [4,6,8,9]) [12,13,14,78,79]) =
  (K E A49_L1 ⟨[(3,.vs (x.b.map u1)),(4,.ptr 1024 0),(6,.ptr 1536 0),(8,.ptr 2048 0),(9,.ptr 2304 0),(11,.bs 9472 0 c.pl.length),(12,.int .i64 (i + 1 : Nat))],[],(9472,.row 1 ((wst c.pl.length x.b (tk,wh) i).1.map bl))::X49 c x ((wst c.pl.length x.b (tk,wh) i).2.map Go.Geo.c1),0⟩).bind (blockR 2 (some [4,6,8,9]) [12,13,14,78,79]):=by
 have n0 : (i : Int) < c.pt.length:=by omega
 have i0 : (0 : Int)≤i:=by omega
 have hwr:=Go.Geo.wr_k (k:=i) (by omega)
 have hrl : wh.length≤999999999:=by omega
 have z : IntKind.i64.wrap ((c.pl.length : Int) + 1) = c.pl.length + 1:=wrap_small (by omega) (by omega)
 have z2 : ¬ ((c.pl.length : Int) + 1 = 0):=by omega
 conv=>lhs; rw [A49_L1_eq]
 have hw : ∃ w0,wk c.pl.length x.b i = w0:=⟨_,rfl⟩
 obtain ⟨w0,hw⟩:=hw
 unfold wst
 rw [hw]
 unfold wk at hw
 simp only
 by_cases hl : i < x.b.length
 ·have g : (x.b.map u1)[i]? = some (u1 (x.b.getD i 0)):=Go.Geo.get_m u1 (Go.Geo.getD_of 0 hl)
  have l0 : (i : Int) < x.b.length:=by omega
  rw [if_pos hl] at hw
  have z3:=hb _ (Qd (Go.Geo.getD_of 0 hl))
  generalize x.b.getD i 0 = y at *
  have h0 : 0≤w0:=by rw [← hw]; exact Qdr _ z2
  have h1 : w0 < (c.pl.length : Int) + 1:=by rw [← hw]; exact Qdi _ (by omega)
  have z4 : IntKind.i64.wrap y = y:=wrap_small (by omega) (by omega)
  have z5 : y.tmod (c.pl.length + 1) = w0:=by rw [Qbg z3.1,hw]
  have z6 : IntKind.i64.wrap w0 = w0:=wrap_small (by omega) (by omega)
  clear hw
  by_cases e : w0 < c.pl.length
  ·have gt:=get_bl (l:=tk) (i:=w0.toNat) (by omega)
   cases hT : tk.getD w0.toNat false <;> rw [hT] at gt
   ·rw [if_pos ⟨e,rfl⟩]
    clear hT
    simp only [← set_bl,Qq,Qp,Qad]
    simp +contextual -implicitDefEqProofs (maxSteps:=2000000) only [go_sem,X49,A49_L1b,take_ml,Qb,Qj,Qb5,n0,i0,hwr,hrl,g,l0,z,z2,z4,z5,z6,e,gt,h0,Go.Geo.c1]
   ·rw [if_neg (fun k=>by simp at k)]
    clear hT
    simp only [Qq,Qp,Qad]
    simp +contextual -implicitDefEqProofs (maxSteps:=2000000) only [go_sem,X49,A49_L1b,take_ml,Qb,Qj,n0,i0,hwr,hrl,g,l0,z,z2,z4,z5,z6,e,gt,h0,Go.Geo.c1]
  ·rw [if_neg (fun k=>e k.1)]
   simp only [Qq,Qp,Qad]
   simp +contextual -implicitDefEqProofs (maxSteps:=2000000) only [go_sem,X49,A49_L1b,take_ml,Qb,Qj,n0,i0,hwr,hrl,g,l0,z,z2,z4,z5,z6,e,Go.Geo.c1]
 ·have l0 : ¬ (i : Int) < x.b.length:=by omega
  rw [if_neg hl] at hw
  subst hw
  by_cases e : (0 : Int) < c.pl.length
  ·have gt:=get_bl (l:=tk) (i:=0) (by omega)
   have tz : (0 : Int).toNat = 0:=rfl
   cases hT : tk.getD 0 false <;> rw [hT] at gt
   ·rw [if_pos ⟨e,hT⟩]
    clear hT
    simp only [← set_bl,Qq,Qp,Qad,tz]
    simp +contextual -implicitDefEqProofs (maxSteps:=2000000) only [go_sem,X49,A49_L1b,take_ml,Qb,Qj,Qb5,n0,i0,hwr,hrl,l0,e,gt,Go.Geo.c1]
   ·rw [if_neg (fun k=>by have:=k.2; rw [tz,hT] at this; cases this)]
    clear hT
    simp only [Qq,Qp,Qad]
    simp +contextual -implicitDefEqProofs (maxSteps:=2000000) only [go_sem,X49,A49_L1b,take_ml,Qb,Qj,n0,i0,hwr,hrl,l0,e,gt,Go.Geo.c1]
  ·rw [if_neg (fun k=>e k.1)]
   simp only [Qq,Qp,Qad]
   simp +contextual -implicitDefEqProofs (maxSteps:=2000000) only [go_sem,X49,A49_L1b,take_ml,Qb,Qj,n0,i0,hwr,hrl,l0,e,Go.Geo.c1]
theorem wst_len (pl : Nat) (b : List Int) (s : List Bool × List Int) (i : Nat) : (wst pl b s i).1.length = s.1.length∧(wst pl b s i).2.length = s.2.length + 1:=by
 unfold wst; split <;> simp
theorem loop49 (c : Cl) (x : Raw) (hp : c.pl.length≤1000) (hq : c.pt.length≤1000) (hb : ∀ y ∈ x.b,0≤y∧y≤255) :
  (K E A49_L1 ⟨[(3,.vs (x.b.map u1)),(4,.ptr 1024 0),(6,.ptr 1536 0),(8,.ptr 2048 0),(9,.ptr 2304 0),(11,.bs 9472 0 c.pl.length),(12,.int .i64 0)],[],(9472,.row 1 (List.replicate c.pl.length [.bool false]))::X49 c x [],0⟩).bind (blockR 2 (some [4,6,8,9]) [12,13,14,78,79]) =
  some (.ex .nrm ⟨[(4,.ptr 1024 0),(6,.ptr 1536 0),(8,.ptr 2048 0),(9,.ptr 2304 0)],[],(9472,.row 1 (((List.range c.pt.length).foldl (wst c.pl.length x.b) (List.replicate c.pl.length false,[])).1.map bl))::X49 c x (((List.range c.pt.length).foldl (wst c.pl.length x.b) (List.replicate c.pl.length false,[])).2.map Go.Geo.c1),0⟩):=by
 have h:=loop_idx (σ:=List Bool × List Int) (fun S=>(K E A49_L1 S).bind (blockR 2 (some [4,6,8,9]) [12,13,14,78,79]))
  (fun k s=>⟨[(3,.vs (x.b.map u1)),(4,.ptr 1024 0),(6,.ptr 1536 0),(8,.ptr 2048 0),(9,.ptr 2304 0),(11,.bs 9472 0 c.pl.length),(12,.int .i64 k)],[],(9472,.row 1 (s.1.map bl))::X49 c x (s.2.map Go.Geo.c1),0⟩) c.pt.length
  (fun k s=>s.1.length = c.pl.length∧s.2.length = k)
  (fun k s=>some (.ex .nrm ⟨[(4,.ptr 1024 0),(6,.ptr 1536 0),(8,.ptr 2048 0),(9,.ptr 2304 0)],[],(9472,.row 1 ((((List.range c.pt.length).drop k).foldl (wst c.pl.length x.b) s).1.map bl))::X49 c x ((((List.range c.pt.length).drop k).foldl (wst c.pl.length x.b) s).2.map Go.Geo.c1),0⟩))
  (fun s _=>by
   rw [Qca (by simp)]
   show (K E A49_L1 _).bind _ = _
   simp only [List.foldl_nil]
   generalize s.1.map bl = A
   generalize s.2.map Go.Geo.c1 = B
   rw [A49_L1_eq]; simp +contextual -implicitDefEqProofs (maxSteps:=2000000) only [go_sem,A49_L1b,Qt,Qb])
  (fun k s hk hI=>by
   right
   have hget : (List.range c.pt.length)[k]? = some k:=by simp [hk]
   refine ⟨wst c.pl.length x.b s k,?_,?_,?_⟩
   ·have:=wst_len c.pl.length x.b s k
    exact ⟨by rw [this.1,hI.1],by rw [this.2,hI.2]⟩
   ·exact step49 c x s.1 s.2 k hI.1 hp hq hb hk hI.2
   ·rw [Go.Zv.drop_get hget,Qa6])
  0 (List.replicate c.pl.length false,[]) (Qco _) ⟨by simp,rfl⟩
 simp only [Qdu,Qs,Qz,List.map_replicate,Qad] at h
 exact h
end Go.Proofs.YtbpneedpcccpaaaGreat

namespace Go.Proofs.YtbpneedpcccpaaaGreat
open Go Go.Zv
open Go.Geo (Pt mayB)
def hk (n : Nat) (h : Int) : Int:=h % (2 * n + 1)
def hv0 (n : Nat) (h : Int) : Int:=if hk n h < n then hk n h else -1
def hv1 (n : Nat) (h k : Int) : Int:=if hk n k < n ∧ ¬ hv0 n h = hk n k then hk n k else -1
def wh0 (n : Nat) (h : Int) (l : List Int) : List Int:=if hk n h < n then l.set (hk n h).toNat (-1) else l
def wh1 (n : Nat) (h k : Int) (l : List Int) : List Int:=if hk n k < n ∧ ¬ hv0 n h = hk n k then (wh0 n h l).set (hk n k).toNat (-1) else wh0 n h l
def whs (c : Cl) (b : List Int) : List Int:=((List.range c.pt.length).foldl (wst c.pl.length b) (List.replicate c.pl.length false,[])).2
def wld (c : Cl) (x : Raw) : Wl:=⟨jt c.a.lo0 c.a.hi0 x.q,jt c.a.lo1 c.a.hi1 x.r,jt c.a.lo2 c.a.hi2 x.s,jt c.b.lo0 c.b.hi0 x.t,jt c.b.lo1 c.b.hi1 x.u,jt c.b.lo2 c.b.hi2 x.v,hv0 c.pt.length x.h,hv1 c.pt.length x.h x.k,wh1 c.pt.length x.h x.k (whs c x.b)⟩
def byt (x : Int) : Prop:=0≤x∧x≤255
structure RawOK (x : Raw) : Prop where
 q : byt x.q
 r : byt x.r
 s : byt x.s
 t : byt x.t
 u : byt x.u
 v : byt x.v
 h : byt x.h
 k : byt x.k
 b : ∀ y ∈ x.b,byt y
theorem fold_len (pl : Nat) (b : List Int) (l : List Nat) (s : List Bool × List Int) : (l.foldl (wst pl b) s).1.length = s.1.length∧(l.foldl (wst pl b) s).2.length = s.2.length + l.length:=by
 induction l generalizing s with
 | nil=>simp
 | cons i l ih =>
   rw [Qa6]
   have h:=ih (wst pl b s i)
   have w:=wst_len pl b s i
   rw [h.1,h.2,w.1,w.2]; simp; omega
theorem whs_len (c : Cl) (b : List Int) : (whs c b).length = c.pt.length:=by
 unfold whs; rw [(fold_len _ _ _ _).2]; simp
theorem set_c1 (l : List Int) (i : Nat) : (l.map Go.Geo.c1).set i [.int .i64 (-1)] = (l.set i (-1)).map Go.Geo.c1:=by
 rw [List.map_set]; rfl
abbrev rwv (x : Raw) : List LV:=[.agg [.int .u8 x.q,.int .u8 x.r,.int .u8 x.s,.int .u8 x.t,.int .u8 x.u,.int .u8 x.v],.agg [.int .u8 x.h,.int .u8 x.k],.vs (x.b.map u1)]
theorem c49 (c : Cl) (x : Raw) (H1 : OKa c.a) (H2 : OKa c.b) (X : RawOK x) (hp : c.pl.length≤1000) (hq : c.pt.length≤1000) : pc E 49 (.agg (cec c.cel)::rwv x) = some (.agg (wlc (wld c x))):=by
 have o1:=c82 c.a H1 x.q x.r x.s X.q X.r X.s
 have o2:=c82 c.b H2 x.t x.u x.v X.t X.u X.v
 have p1 : (c.pl.length : Int)≤1000000000:=by omega
 have p0 : (0 : Int)≤c.pl.length:=by omega
 have lp:=loop49 c x hp hq X.b
 have wl:=whs_len c x.b
 have ul : (((List.range c.pt.length).foldl (wst c.pl.length x.b) (List.replicate c.pl.length false,[])).1).length = c.pl.length:=by rw [(fold_len _ _ _ _).1]; simp
 unfold wlc wld wh1 hv1 hv0 wh0
 simp only
 unfold whs at *
 generalize ((List.range c.pt.length).foldl (wst c.pl.length x.b) (List.replicate c.pl.length false,[])).1 = tk at *
 generalize ((List.range c.pt.length).foldl (wst c.pl.length x.b) (List.replicate c.pl.length false,[])).2 = wh at *
 simp only [X49,Qb,Qa0,wl] at lp
 have z1 : IntKind.i64.wrap (2 * (c.pt.length : Int)) = 2 * c.pt.length:=wrap_small (by omega) (by omega)
 have z2 : IntKind.i64.wrap (2 * (c.pt.length : Int) + 1) = 2 * c.pt.length + 1:=wrap_small (by omega) (by omega)
 have z3 : ¬ (2 * (c.pt.length : Int) + 1 = 0):=by omega
 have xh:=X.h
 have xk:=X.k
 unfold byt at xh xk
 have e1 : x.h.tmod (2 * c.pt.length + 1) = hk c.pt.length x.h:=by rw [Qbg xh.1]; rfl
 have e2 : x.k.tmod (2 * c.pt.length + 1) = hk c.pt.length x.k:=by rw [Qbg xk.1]; rfl
 have w1 : IntKind.i64.wrap x.h = x.h:=wrap_small (by omega) (by omega)
 have w2 : IntKind.i64.wrap x.k = x.k:=wrap_small (by omega) (by omega)
 have a1 : 0≤hk c.pt.length x.h:=Qdr _ z3
 have a2 : 0≤hk c.pt.length x.k:=Qdr _ z3
 have b1 : hk c.pt.length x.h < 2 * c.pt.length + 1:=Qdi _ (by omega)
 have b2 : hk c.pt.length x.k < 2 * c.pt.length + 1:=Qdi _ (by omega)
 generalize hk c.pt.length x.h = m at *
 generalize hk c.pt.length x.k = n at *
 have w3 : IntKind.i64.wrap m = m:=wrap_small (by omega) (by omega)
 have w4 : IntKind.i64.wrap n = n:=wrap_small (by omega) (by omega)
 clear xh xk b1 b2
 by_cases n0 : m < c.pt.length
 ·have q0 : ¬ (-1 : Int) = m:=by omega
  have g0 : (wh.map Go.Geo.c1)[m.toNat]? = some [.int .i64 (wh.getD m.toNat 0)]:=Go.Geo.get_m Go.Geo.c1 (Go.Geo.getD_of 0 (by omega))
  simp only [if_pos n0]
  by_cases n1 : n < c.pt.length
  ·by_cases d : m = n
   ·subst d
    rw [if_neg (fun k=>k.2 rfl),if_neg (fun k=>k.2 rfl),← set_c1]
    rw [pc_eq]; simp +contextual -implicitDefEqProofs (maxSteps:=2000000) only [go_sem,E_49,A49,p0,Qdp,A49_L2_eq,A49_L2b,A49_L0_eq,A49_L0b,o1,o2,p1,lp,z1,z2,z3,e1,e2,w1,w2,w3,w4,a1,a2,n0,n1,q0,g0,wl,take_ml,Qb,Qb5,Go.Geo.c1]
    rw [Q4 (by simp; omega)]
   ·have g1 : ((wh.map Go.Geo.c1).set m.toNat [.int .i64 (-1)])[n.toNat]? = some [.int .i64 ((wh.set m.toNat (-1)).getD n.toNat 0)]:=by rw [set_c1]; exact Go.Geo.get_m Go.Geo.c1 (Go.Geo.getD_of 0 (by simp; omega))
    rw [if_pos ⟨n1,d⟩,if_pos ⟨n1,d⟩,← set_c1,← set_c1]
    rw [pc_eq]; simp +contextual -implicitDefEqProofs (maxSteps:=2000000) only [go_sem,E_49,A49,p0,Qdp,A49_L2_eq,A49_L2b,A49_L0_eq,A49_L0b,o1,o2,p1,lp,z1,z2,z3,e1,e2,w1,w2,w3,w4,a1,a2,n0,n1,q0,d,g0,g1,wl,take_ml,Qb,Qb5,Go.Geo.c1]
    rw [Q4 (by simp; omega)]
  ·rw [if_neg (fun k=>n1 k.1),if_neg (fun k=>n1 k.1),← set_c1]
   rw [pc_eq]; simp +contextual -implicitDefEqProofs (maxSteps:=2000000) only [go_sem,E_49,A49,p0,Qdp,A49_L2_eq,A49_L2b,A49_L0_eq,A49_L0b,o1,o2,p1,lp,z1,z2,z3,e1,e2,w1,w2,w3,w4,a1,a2,n0,n1,q0,g0,wl,take_ml,Qb,Qb5,Go.Geo.c1]
   rw [Q4 (by simp; omega)]
 ·simp only [if_neg n0]
  by_cases n1 : n < c.pt.length
  ·have d : ¬ (-1 : Int) = n:=by omega
   have g1 : (wh.map Go.Geo.c1)[n.toNat]? = some [.int .i64 (wh.getD n.toNat 0)]:=Go.Geo.get_m Go.Geo.c1 (Go.Geo.getD_of 0 (by omega))
   rw [if_pos ⟨n1,d⟩,if_pos ⟨n1,d⟩,← set_c1]
   rw [pc_eq]; simp +contextual -implicitDefEqProofs (maxSteps:=2000000) only [go_sem,E_49,A49,p0,Qdp,A49_L2_eq,A49_L2b,A49_L0_eq,A49_L0b,o1,o2,p1,lp,z1,z2,z3,e1,e2,w1,w2,w3,w4,a1,a2,n0,n1,d,g1,wl,take_ml,Qb,Qb5,Go.Geo.c1]
   rw [Q4 (by simp; omega)]
  ·rw [if_neg (fun k=>n1 k.1),if_neg (fun k=>n1 k.1)]
   rw [pc_eq]; simp +contextual -implicitDefEqProofs (maxSteps:=2000000) only [go_sem,E_49,A49,p0,Qdp,A49_L2_eq,A49_L2b,A49_L0_eq,A49_L0b,o1,o2,p1,lp,z1,z2,z3,e1,e2,w1,w2,w3,w4,a1,a2,n0,n1,wl,take_ml,Qb,Qb5,Go.Geo.c1]
   rw [Q4 (by simp; omega)]
end Go.Proofs.YtbpneedpcccpaaaGreat

namespace Go.Proofs.YtbpneedpcccpaaaGreat
open Go Go.Zv
open Go.Geo (Pt mayB)
def outB (b : Bd) : Bool:=b.ar.any fun p=>!mayB p
def rngB (l : List Bd) : Bool:=!l.any outB
theorem plB_Pld {c : Cl} {w : Wl} (h : plB c w = true) : Pld c w:=by
 unfold plB at h
 simp only [Qe,decide_eq_true_eq,Qar,Qa8,Qn] at h
 obtain ⟨h1,h2,h3,h4,h5⟩:=h
 refine ⟨h1,fun x hx=>?_,?_,?_⟩
 ·obtain ⟨i,hi,rfl⟩:=Qdd hx
  have:=h5 i hi
  have e : w.wh.getD i 0 = w.wh[i]:=by simp [List.getD,hi]
  unfold whI at this
  rw [e] at this
  simp at this
  omega
 ·unfold hdI at h3; simp at h3; omega
 ·unfold hdI at h4; simp at h4; omega
theorem lp140 (b : List Bd) (k : Nat) (v : Bd) (hv : b[k]? = some v) (hl : v.ar.length≤1000) (hb : b.length≤1000) :
  (K E A14_L0 ⟨[(5,.bs 8704 0 b.length),(6,.int .i64 k),(7,.int .i64 0)],[],[(8704,.row 4 (b.map bdc))],0⟩).bind (blockR 2 (some [5,6]) [4,7,59]) =
   if (v.ar.any fun p=>!mayB p) = true then some (.ex .ret ⟨[(4,.bool false)],[],[(8704,.row 4 (b.map bdc))],0⟩) else some (.ex .nrm ⟨[(5,.bs 8704 0 b.length),(6,.int .i64 k)],[],[(8704,.row 4 (b.map bdc))],0⟩):=by
 have g0 : (b.map bdc)[k]? = some (bdc v):=Go.Geo.get_m bdc hv
 have k0 : (0 : Int)≤k:=by omega
 have k2 : k < b.length:=(Qf.1 hv).1
 have k1 : (k : Int) < b.length:=by omega
 refine loop_any (fun S=>(K E A14_L0 S).bind (blockR 2 (some [5,6]) [4,7,59])) (fun j=>⟨[(5,.bs 8704 0 b.length),(6,.int .i64 k),(7,.int .i64 j)],[],[(8704,.row 4 (b.map bdc))],0⟩) v.ar (fun p=>!mayB p) _ _ ?_ fun j p hj hp=>?_
 ·show (K E A14_L0 _).bind _ = _
  rw [A14_L0_eq]; simp +contextual -implicitDefEqProofs (maxSteps:=2000000) only [go_sem,A14_L0b,g0,k0,k1,k2,Qb,Qt]
 ·have g1 : (v.ar.map Go.Geo.c2)[j]? = some (Go.Geo.c2 p):=Go.Geo.get_m Go.Geo.c2 hp
  have h0 : (0 : Int)≤j:=by omega
  have h1 : (j : Int) < v.ar.length:=by omega
  have hw:=Go.Geo.wr_k (k:=j) (by omega)
  have o:=c48 p
  show (K E A14_L0 _).bind _ = if _ then _ else (K E A14_L0 _).bind _
  conv=>lhs; rw [A14_L0_eq]
  obtain ⟨px,py⟩:=p
  simp only [Go.Geo.c2] at o
  cases hm : mayB (px,py) <;> rw [hm] at o <;> clear hm
  ·simp +contextual -implicitDefEqProofs (maxSteps:=2000000) only [go_sem,A14_L0b,g0,g1,k0,k1,k2,h0,h1,hw,o,Go.Geo.c2,Qb]
  ·simp +contextual -implicitDefEqProofs (maxSteps:=2000000) only [go_sem,A14_L0b,g0,g1,k0,k1,k2,h0,h1,hw,o,Go.Geo.c2,Qb]
theorem lp141 (b : List Bd) (hl : ∀ v ∈ b,v.ar.length≤1000) (hb : b.length≤1000) :
  (K E A14_L1 ⟨[(5,.bs 8704 0 b.length),(6,.int .i64 0)],[],[(8704,.row 4 (b.map bdc))],0⟩).bind (blockR 0 (some []) [4,6,7,59]) =
   if b.any outB = true then some (.ex .ret ⟨[(4,.bool false)],[],[(8704,.row 4 (b.map bdc))],0⟩) else some (.ex .nrm ⟨[],[],[(8704,.row 4 (b.map bdc))],0⟩):=by
 refine loop_any (fun S=>(K E A14_L1 S).bind (blockR 0 (some []) [4,6,7,59])) (fun k=>⟨[(5,.bs 8704 0 b.length),(6,.int .i64 k)],[],[(8704,.row 4 (b.map bdc))],0⟩) b outB _ _ ?_ fun k v hk hv=>?_
 ·show (K E A14_L1 _).bind _ = _
  rw [A14_L1_eq]; simp +contextual -implicitDefEqProofs (maxSteps:=2000000) only [go_sem,A14_L1b,Qb,Qt]
 ·have lp:=lp140 b k v hv (hl _ (Qd hv)) hb
  have h1 : (k : Int) < b.length:=by omega
  have hw:=Go.Geo.wr_k (k:=k) (by omega)
  show (K E A14_L1 _).bind _ = if _ then _ else (K E A14_L1 _).bind _
  conv=>lhs; rw [A14_L1_eq]
  unfold outB
  cases hm : (v.ar.any fun p=>!mayB p) <;> rw [hm] at lp <;> clear hm
  ·simp +contextual -implicitDefEqProofs (maxSteps:=2000000) only [go_sem,A14_L1b,h1,hw,lp,Qb]
  ·simp +contextual -implicitDefEqProofs (maxSteps:=2000000) only [go_sem,A14_L1b,h1,hw,lp,Qb]
def vsB (c : Cl) (w : Wl) : Bool:=limB c.a w.q0 w.q1 w.q2 && (limB c.b w.q3 w.q4 w.q5 && (plB c w && rngB (bodies c w)))
theorem laid_len (ax ay dx dy : Int) (l : List Pt) : (laid_ ax ay dx dy l).length = l.length:=by unfold laid_; simp
theorem lks_len (a : Arm) (d : Pts) : ∀ l ∈ lks a d,l.length = 4:=by
 intro l hl
 unfold lks at hl
 simp at hl
 rcases hl with rfl | rfl | rfl <;> simp [lkc]
theorem c14 (c : Cl) (w : Wl) (H : Fin_ c) (hm : c.pl.length≤1000) (hw : w.wh.length≤1000) (hb : (bodies c w).length≤1000) (hl : ∀ v ∈ bodies c w,v.ar.length≤1000) : pc E 14 [.agg (cec c.cel),.agg (wlc w)] = some (.bool (vsB c w)):=by
 have k1:=c36 c.a w.q0 w.q1 w.q2
 have k2:=c36 c.b w.q3 w.q4 w.q5
 have k3:=c47 c w hw
 unfold vsB
 cases h1 : limB c.a w.q0 w.q1 w.q2 <;> rw [h1] at k1
 ·rw [pc_eq]; simp +contextual -implicitDefEqProofs (maxSteps:=2000000) only [go_sem,E_14,A14,k1]
 ·cases h2 : limB c.b w.q3 w.q4 w.q5 <;> rw [h2] at k2
  ·rw [pc_eq]; simp +contextual -implicitDefEqProofs (maxSteps:=2000000) only [go_sem,E_14,A14,k1,k2]
  ·cases h3 : plB c w <;> rw [h3] at k3
   ·rw [pc_eq]; simp +contextual -implicitDefEqProofs (maxSteps:=2000000) only [go_sem,E_14,A14,k1,k2,k3]
   ·have k4:=c17 c w H (plB_Pld h3)
    have lp:=lp141 (bodies c w) hl hb
    unfold rngB
    generalize bodies c w = b at *
    cases h4 : b.any outB <;> rw [h4] at lp <;> clear h4
    ·rw [pc_eq]; simp +contextual -implicitDefEqProofs (maxSteps:=2000000) only [go_sem,E_14,A14,k1,k2,k3,k4,lp,take_ml,Qb]
    ·rw [pc_eq]; simp +contextual -implicitDefEqProofs (maxSteps:=2000000) only [go_sem,E_14,A14,k1,k2,k3,k4,lp,take_ml,Qb]
end Go.Proofs.YtbpneedpcccpaaaGreat

namespace Go.Proofs.YtbpneedpcccpaaaGreat
open Go Go.Zv
open Go.Geo (Pt mayB)
abbrev L13 (c : Cl) (w : Wl) : Env:=[(4,.ptr 1024 0),(30,.fn (Fn.func 77) [] [.fp (cec c.cel),.fp (wlc w)])]
abbrev F13 (c : Cl) (w : Wl) : List Env:=[L13 c w,[(0,.yl 1024000)]]
abbrev O13 (c : Cl) (w : Wl) : Heap:=[(1024000,.loop (L13 c w) [31] A13_R1a A13_R1b LSt.ready AEx.nrm),(1024,.box [.bool false])]
abbrev Ob13 (c : Cl) (w : Wl) : Heap:=[(1024000,.loop (L13 c w) [31] A13_R1a A13_R1b LSt.busy AEx.nrm),(1024,.box [.bool false])]
abbrev Oe13 (c : Cl) (w : Wl) : Heap:=[(1024000,.loop (L13 c w) [31] A13_R1a A13_R1b LSt.done AEx.ret),(1024,.box [.bool false])]
theorem mayB_eq (x y : Int) : mayB (x,y) = (decide (-439400000≤x) && (decide (x≤439400000) && (decide (-439400000≤y) && decide (y≤439400000)))):=by
 rw [Qa2]; simp [mayB,mxI,mnI]; omega
theorem lp130 (c : Cl) (w : Wl) (ar : List Pt) (hl : ar.length≤1000) (F : List Env) (hF : Envs.sub Rep.kill 2099456 F = F) :
  (K E A13_L0 ⟨[(4,.ptr 1024 0),(33,.vs (ar.map Go.Geo.c2)),(34,.int .i64 ar.length),(35,.int .i64 0)],F,Ob13 c w,2⟩).bind (blockR 4 (some []) [9,41,46]) =
   if (ar.any fun p=>!mayB p) = true then some (.ex .ret ⟨[],F,Ob13 c w,2⟩) else some (.ex .nrm ⟨[],F,Ob13 c w,2⟩):=by
 refine loop_any (fun S=>(K E A13_L0 S).bind (blockR 4 (some []) [9,41,46])) (fun j=>⟨[(4,.ptr 1024 0),(33,.vs (ar.map Go.Geo.c2)),(34,.int .i64 ar.length),(35,.int .i64 j)],F,Ob13 c w,2⟩) ar (fun p=>!mayB p) _ _ ?_ fun j p hj hp=>?_
 ·show (K E A13_L0 _).bind _ = _
  rw [A13_L0_eq]; simp +contextual -implicitDefEqProofs (maxSteps:=2000000) only [go_sem,A13_L0b,Qt]
 ·have g1 : (ar.map Go.Geo.c2)[j]? = some (Go.Geo.c2 p):=Go.Geo.get_m Go.Geo.c2 hp
  have h0 : (0 : Int)≤j:=by omega
  have h1 : (j : Int) < ar.length:=by omega
  have hw:=Go.Geo.wr_k (k:=j) (by omega)
  obtain ⟨x,y⟩:=p
  have o:=c46 x (-439400000) 439400000
  have u:=c46 y (-439400000) 439400000
  have e:=mayB_eq x y
  show (K E A13_L0 _).bind _ = if _ then _ else (K E A13_L0 _).bind _
  conv=>lhs; rw [A13_L0_eq]
  rw [← Qc6] at e
  cases h2 : (decide (-439400000≤x) && decide (x≤439400000)) <;> rw [h2] at o e <;> clear h2
  ·rw [e]
   simp +contextual -implicitDefEqProofs (maxSteps:=2000000) only [go_sem,A13_L0b,g1,h0,h1,hw,hF,o,Go.Geo.c2,Qb]
  ·cases h3 : (decide (-439400000≤y) && decide (y≤439400000)) <;> rw [h3] at u e <;> clear h3
   ·rw [e]
    simp +contextual -implicitDefEqProofs (maxSteps:=2000000) only [go_sem,A13_L0b,g1,h0,h1,hw,hF,o,u,Go.Geo.c2,Qb]
   ·rw [e]
    simp +contextual -implicitDefEqProofs (maxSteps:=2000000) only [go_sem,A13_L0b,g1,h0,h1,hw,hF,o,u,Go.Geo.c2,Qb]
def R13 (c : Cl) (w : Wl) (o : Option Out) : Prop:=∃ (T' : Env),o = some (.ex .ret ⟨T',F13 c w,Oe13 c w,1⟩)
theorem fx13 (c : Cl) (w : Wl) (hf : c.fx.length≤1000) (hl : ∀ p ∈ c.fx,p.length≤1000) :
  ((fxt c c.fx.length).any outB = true → R13 c w ((K E A77_L0 ⟨[(0,.yl 1024000),(118,.vs (c.fx.map Go.Geo.p1)),(119,.int .i64 c.fx.length),(120,.int .i64 0)],F13 c w,O13 c w,1⟩).bind (blockR 8 (some []) [13,14,129]))) ∧
  ((fxt c c.fx.length).any outB = false → (K E A77_L0 ⟨[(0,.yl 1024000),(118,.vs (c.fx.map Go.Geo.p1)),(119,.int .i64 c.fx.length),(120,.int .i64 0)],F13 c w,O13 c w,1⟩).bind (blockR 8 (some []) [13,14,129]) = some (.ex .nrm ⟨[],F13 c w,O13 c w,1⟩)):=by
 have e : (fxt c c.fx.length).any outB = c.fx.any fun p=>p.any fun q=>!mayB q:=by
  unfold fxt
  rw [List.any_map]
  rw [Qa2,Qas,Qas]
  constructor
  ·rintro ⟨i,hi,h⟩
   rw [Qn] at hi
   exact ⟨_,Qd (Go.Geo.getD_of [] hi),h⟩
  ·rintro ⟨p,hp,h⟩
   obtain ⟨i,hi,rfl⟩:=Qdd hp
   refine ⟨i,Qn.2 hi,?_⟩
   have e : c.fx.getD i [] = c.fx[i]:=by simp [List.getD,hi]
   simp only [Function.comp,outB,fxI,e]
   exact h
 rw [e]
 exact loop_leave (σ:=Unit) (fun S=>(K E A77_L0 S).bind (blockR 8 (some []) [13,14,129]))
  (fun k _=>⟨[(0,.yl 1024000),(118,.vs (c.fx.map Go.Geo.p1)),(119,.int .i64 c.fx.length),(120,.int .i64 k)],F13 c w,O13 c w,1⟩) c.fx (fun x _=>x) (fun p=>p.any fun q=>!mayB q) (R13 c w)
  (fun _=>some (.ex .nrm ⟨[],F13 c w,O13 c w,1⟩))
  (fun _=>by
   show (K E A77_L0 _).bind _ = _
   rw [A77_L0_eq]; simp +contextual -implicitDefEqProofs (maxSteps:=2000000) only [go_sem,O13,F13,L13,A77_L0b,Qt,Qb])
  (fun k p _ hk hp=>by
   have g1 : (c.fx.map Go.Geo.p1)[k]? = some [.vs (p.map Go.Geo.c2)]:=Go.Geo.get_m Go.Geo.p1 hp
   have h1 : (k : Int) < c.fx.length:=by omega
   have h0 : (0 : Int)≤k:=by omega
   have hw:=Go.Geo.wr_k (k:=k) (by omega)
   have lp:=lp130 c w p (hl _ (Qd hp))
   simp only [Ob13,L13,A13_R1a,A13_R1b] at lp
   refine ⟨fun hh=>?_,fun hh=>?_⟩ <;> rw [hh] at lp <;> clear hh
   ·refine ⟨?_,?_⟩
    rotate_left
    ·show (K E A77_L0 _).bind _ = _
     rw [A77_L0_eq]
     simp +contextual -implicitDefEqProofs (maxSteps:=2000000) only [go_sem,O13,Oe13,F13,L13,A77_L0b,A13_R1a,A13_R1b,Qb,h0,h1,g1,hw,lp]
     rfl
   ·show (K E A77_L0 _).bind _ = (K E A77_L0 _).bind _
    conv=>lhs; rw [A77_L0_eq]
    simp +contextual -implicitDefEqProofs (maxSteps:=2000000) only [go_sem,O13,F13,L13,A77_L0b,A13_R1a,A13_R1b,Qb,h0,h1,g1,hw,lp]) ()
end Go.Proofs.YtbpneedpcccpaaaGreat

namespace Go.Proofs.YtbpneedpcccpaaaGreat
open Go Go.Zv
open Go.Geo (Pt mayB)
theorem rs13 (c : Cl) (w : Wl) (P : Pld c w) (hp : ∀ p ∈ c.pt,p.sh.length≤1000) (hl : c.pt.length≤1000) :
  ((rst c w.wh w.wh.length).any outB = true → R13 c w ((K E A77_L1 ⟨[(0,.yl 1024000),(1,.fp (cec c.cel)),(82,.vs (w.wh.map Go.Geo.c1)),(83,.int .i64 w.wh.length),(84,.int .i64 0)],F13 c w,O13 c w,1⟩).bind (blockR 6 (some [0,1]) [11,12,111,113]))) ∧
  ((rst c w.wh w.wh.length).any outB = false → (K E A77_L1 ⟨[(0,.yl 1024000),(1,.fp (cec c.cel)),(82,.vs (w.wh.map Go.Geo.c1)),(83,.int .i64 w.wh.length),(84,.int .i64 0)],F13 c w,O13 c w,1⟩).bind (blockR 6 (some [0,1]) [11,12,111,113]) =
    some (.ex .nrm ⟨[(0,.yl 1024000),(1,.fp (cec c.cel))],F13 c w,O13 c w,1⟩)):=by
 have e : (rst c w.wh w.wh.length).any outB = (List.range w.wh.length).any fun i=>(rsI c w.wh i).any outB:=by
  unfold rst; rw [List.any_flatMap]
 rw [e]
 have := loop_leave (σ:=Unit) (fun S=>(K E A77_L1 S).bind (blockR 6 (some [0,1]) [11,12,111,113]))
  (fun k _=>⟨[(0,.yl 1024000),(1,.fp (cec c.cel)),(82,.vs (w.wh.map Go.Geo.c1)),(83,.int .i64 w.wh.length),(84,.int .i64 k)],F13 c w,O13 c w,1⟩) (List.range w.wh.length) (fun x _=>x) (fun i=>(rsI c w.wh i).any outB) (R13 c w)
  (fun _=>some (.ex .nrm ⟨[(0,.yl 1024000),(1,.fp (cec c.cel))],F13 c w,O13 c w,1⟩))
  (fun _=>by
   show (K E A77_L1 _).bind _ = _
   rw [Qv,A77_L1_eq]; simp +contextual -implicitDefEqProofs (maxSteps:=2000000) only [go_sem,O13,F13,L13,A77_L1b,Qt,Qb])
  (fun k p _ hk hpp=>by
   have e:=rg_get hpp
   subst e
   rw [Qv] at hk
   have hget : w.wh[k]? = some (w.wh.getD k 0):=Go.Geo.getD_of 0 hk
   have hm:=P.at_ _ (Qd hget)
   have hpl:=P.len
   have hgp : c.pt[k]? = some (c.pt.getD k default):=Go.Geo.getD_of default (by omega)
   have hsh:=hp _ (Qd hgp)
   unfold rsI
   have g1 : (w.wh.map Go.Geo.c1)[k]? = some [.int .i64 (w.wh.getD k 0)]:=Go.Geo.get_m Go.Geo.c1 hget
   have g2:=Go.Geo.get_m Go.Geo.prv hgp
   simp only [Go.Geo.prv] at g2
   generalize w.wh.getD k 0 = x at *
   generalize c.pt.getD k default = p at *
   have h1 : (k : Int) < w.wh.length:=by omega
   have h0 : (0 : Int)≤k:=by omega
   have h2 : (k : Int) < c.pt.length:=by omega
   have hw:=Go.Geo.wr_k (k:=k) (by omega)
   by_cases hx : x < 0
   ·have hx' : ¬ (0≤x):=by omega
    rw [if_pos hx]
    refine ⟨(fun h=>by cases h),fun _=>?_⟩
    show (K E A77_L1 _).bind _ = (K E A77_L1 _).bind _
    conv=>lhs; rw [A77_L1_eq]
    simp +contextual -implicitDefEqProofs (maxSteps:=2000000) only [go_sem,O13,F13,L13,A77_L1b,Qb,h0,h1,g1,hw,hx',Qa3]
   ·have hx' : 0≤x:=by omega
    have hgl : c.pl[x.toNat]? = some (c.pl.getD x.toNat default):=Go.Geo.getD_of default (by omega)
    have g3:=Go.Geo.get_m Go.Geo.plv hgl
    simp only [Go.Geo.plv] at g3
    rw [if_neg hx]
    generalize c.pl.getD x.toNat default = l at *
    have o:=c79 p.nm p.sh p.at_ l.x l.y l.dx l.dy l.dn hsh
    have hx2:=hm.2
    have lp:=lp130 c w (laid_ l.x l.y l.dx l.dy p.sh) (by rw [laid_len]; exact hsh)
    simp only [Ob13,L13,A13_R1a,A13_R1b] at lp
    have ea : List.any [(⟨3,k,0,laid_ l.x l.y l.dx l.dy p.sh⟩ : Bd)] outB = (laid_ l.x l.y l.dx l.dy p.sh).any fun p=>!mayB p:=by
     simp [outB]
    rw [ea]
    generalize laid_ l.x l.y l.dx l.dy p.sh = q at *
    refine ⟨fun hh=>?_,fun hh=>?_⟩ <;> rw [hh] at lp <;> clear hh ea
    ·refine ⟨?_,?_⟩
     rotate_left
     ·show (K E A77_L1 _).bind _ = _
      rw [A77_L1_eq]
      simp +contextual -implicitDefEqProofs (maxSteps:=2000000) only [go_sem,O13,Oe13,F13,L13,A77_L1b,A13_R1a,A13_R1b,Qb,h0,h1,h2,g1,g2,g3,hw,hx',hx2,o,lp]
      rfl
    ·show (K E A77_L1 _).bind _ = (K E A77_L1 _).bind _
     conv=>lhs; rw [A77_L1_eq]
     simp +contextual -implicitDefEqProofs (maxSteps:=2000000) only [go_sem,O13,F13,L13,A77_L1b,A13_R1a,A13_R1b,Qb,h0,h1,h2,g1,g2,g3,hw,hx',hx2,o,lp]) ()
 exact this
end Go.Proofs.YtbpneedpcccpaaaGreat

namespace Go.Proofs.YtbpneedpcccpaaaGreat
open Go Go.Zv
open Go.Geo (Pt mayB)
abbrev obA (l : List Pt) : Bool:=l.any fun p=>!mayB p
theorem any_lnk (i : Int) (L0 L1 L2 : List Pt) (X : List Bd) : (lnk i [L0,L1,L2]++X).any outB = (obA L0 || (obA L1 || (obA L2 || X.any outB))):=by
 simp [lnk,outB,obA]
theorem any_1 (k i j : Int) (l : List Pt) : List.any [(⟨k,i,j,l⟩ : Bd)] outB = obA l:=by simp [outB,obA]
theorem c13 (c : Cl) (w : Wl) (H : Fin_ c) (hm : c.pl.length≤1000) (hfl : ∀ p ∈ c.fx,p.length≤1000) : pc E 13 [.agg (cec c.cel),.agg (wlc w)] = some (.bool (vsB c w)):=by
 have k1:=c43 c.a w.q0 w.q1 w.q2
 have k2:=c43 c.b w.q3 w.q4 w.q5
 have k3:=c44 c w H.pl hm
 have e45:=c45 c.cel w
 unfold vsB
 cases h1 : limB c.a w.q0 w.q1 w.q2 <;> rw [h1] at k1 <;> clear h1
 ·rw [pc_eq]; simp +contextual -implicitDefEqProofs (maxSteps:=2000000) only [go_sem,E_13,A13,A13_L2_eq,A13_L2b,k1]
 cases h2 : limB c.b w.q3 w.q4 w.q5 <;> rw [h2] at k2 <;> clear h2
 ·rw [pc_eq]; simp +contextual -implicitDefEqProofs (maxSteps:=2000000) only [go_sem,E_13,A13,A13_L2_eq,A13_L2b,k1,k2]
 cases h3 : plB c w <;> rw [h3] at k3
 ·rw [pc_eq]; simp +contextual -implicitDefEqProofs (maxSteps:=2000000) only [go_sem,E_13,A13,A13_L2_eq,A13_L2b,k1,k2,k3]
 have P:=plB_Pld h3
 clear h3
 unfold rngB bodies
 obtain ⟨L0,L1,L2,hL⟩:=lks3 c.a (dd w.q0 w.q1 w.q2)
 obtain ⟨M0,M1,M2,hM⟩:=lks3 c.b (dd w.q3 w.q4 w.q5)
 have o1:=c78 c.a H.ha w.q0 w.q1 w.q2
 have o2:=c78 c.b H.hb w.q3 w.q4 w.q5
 have lL:=lks_len c.a (dd w.q0 w.q1 w.q2)
 have lM:=lks_len c.b (dd w.q3 w.q4 w.q5)
 rw [hL] at o1 lL
 rw [hM] at o2 lM
 have o1 : pc E 78 [av c.a,jv w.q0 w.q1 w.q2] = some (.agg [.vs (L0.map Go.Geo.c2),.vs (L1.map Go.Geo.c2),.vs (L2.map Go.Geo.c2)]):=o1
 have o2 : pc E 78 [av c.b,jv w.q3 w.q4 w.q5] = some (.agg [.vs (M0.map Go.Geo.c2),.vs (M1.map Go.Geo.c2),.vs (M2.map Go.Geo.c2)]):=o2
 have j1:=c80 c.a H.ha w.q0 w.q1 w.q2
 have j2:=c80 c.b H.hb w.q3 w.q4 w.q5
 have d1:=c81' c.a w.q0 w.q1 w.q2
 have d2:=c81' c.b w.q3 w.q4 w.q5
 have l0:=lp130 c w L0 (by rw [lL L0 (by simp)]; omega)
 have l1:=lp130 c w L1 (by rw [lL L1 (by simp)]; omega)
 have l2:=lp130 c w L2 (by rw [lL L2 (by simp)]; omega)
 have m0:=lp130 c w M0 (by rw [lM M0 (by simp)]; omega)
 have m1:=lp130 c w M1 (by rw [lM M1 (by simp)]; omega)
 have m2:=lp130 c w M2 (by rw [lM M2 (by simp)]; omega)
 clear lL lM
 have hrs:=rs13 c w P H.sh H.pl
 have hfx:=fx13 c w H.fl hfl
 have hh0:=P.h0
 have hh1:=P.h1
 have y1 : (c.pt.map Go.Geo.prv).length = c.pt.length:=Qb ..
 rw [hL,hM,any_lnk,any_lnk]
 simp only [Ob13,L13,A13_R1a,A13_R1b] at l0 l1 l2 m0 m1 m2
 have key : ∀ h : Int,-1≤h → h < c.pt.length → ¬ h < 0 → ∃ p,c.pt.getD h.toNat default = p∧(c.pt.map Go.Geo.prv)[h.toNat]? = some [.str p.nm,.vs (p.sh.map Go.Geo.c2),.int .i64 p.at_]∧0≤h∧p.sh.length≤1000:=fun h b1 b2 b3=>by
  have hg : c.pt[h.toNat]? = some (c.pt.getD h.toNat default):=Go.Geo.getD_of default (by omega)
  have g:=Go.Geo.get_m Go.Geo.prv hg
  simp only [Go.Geo.prv] at g
  exact ⟨_,rfl,g,by omega,H.sh _ (Qd hg)⟩
 cases z : obA L0 <;> unfold obA at z <;> rw [z] at l0 <;> clear z
 rotate_left
 ·clear hrs hfx
  rw [pc_eq]; simp +contextual -implicitDefEqProofs (maxSteps:=2000000) only [go_sem,Qb,E_13,A13,A13_L2_eq,A13_L2b,A13_R1,A13_R1a,A13_R1b,e45,E_77,A77,A77_L4_eq,A77_L4b,A77_L3_eq,A77_L3b,A77_L2_eq,A77_L2b,k1,k2,k3,o1,o2,j1,j2,d1,d2,y1,l0,Qam,Qaq,Qag]
 cases z : obA L1 <;> unfold obA at z <;> rw [z] at l1 <;> clear z
 rotate_left
 ·clear hrs hfx
  rw [pc_eq]; simp +contextual -implicitDefEqProofs (maxSteps:=2000000) only [go_sem,Qb,E_13,A13,A13_L2_eq,A13_L2b,A13_R1,A13_R1a,A13_R1b,e45,E_77,A77,A77_L4_eq,A77_L4b,A77_L3_eq,A77_L3b,A77_L2_eq,A77_L2b,k1,k2,k3,o1,o2,j1,j2,d1,d2,y1,l0,l1,Qam,Qaq,Qag]
 cases z : obA L2 <;> unfold obA at z <;> rw [z] at l2 <;> clear z
 rotate_left
 ·clear hrs hfx
  rw [pc_eq]; simp +contextual -implicitDefEqProofs (maxSteps:=2000000) only [go_sem,Qb,E_13,A13,A13_L2_eq,A13_L2b,A13_R1,A13_R1a,A13_R1b,e45,E_77,A77,A77_L4_eq,A77_L4b,A77_L3_eq,A77_L3b,A77_L2_eq,A77_L2b,k1,k2,k3,o1,o2,j1,j2,d1,d2,y1,l0,l1,l2,Qam,Qaq,Qag]
 cases z : obA M0 <;> unfold obA at z <;> rw [z] at m0 <;> clear z
 rotate_left
 ·clear hrs hfx
  rw [pc_eq]; simp +contextual -implicitDefEqProofs (maxSteps:=2000000) only [go_sem,Qb,E_13,A13,A13_L2_eq,A13_L2b,A13_R1,A13_R1a,A13_R1b,e45,E_77,A77,A77_L4_eq,A77_L4b,A77_L3_eq,A77_L3b,A77_L2_eq,A77_L2b,k1,k2,k3,o1,o2,j1,j2,d1,d2,y1,l0,l1,l2,m0,Qam,Qaq,Qag]
 cases z : obA M1 <;> unfold obA at z <;> rw [z] at m1 <;> clear z
 rotate_left
 ·clear hrs hfx
  rw [pc_eq]; simp +contextual -implicitDefEqProofs (maxSteps:=2000000) only [go_sem,Qb,E_13,A13,A13_L2_eq,A13_L2b,A13_R1,A13_R1a,A13_R1b,e45,E_77,A77,A77_L4_eq,A77_L4b,A77_L3_eq,A77_L3b,A77_L2_eq,A77_L2b,k1,k2,k3,o1,o2,j1,j2,d1,d2,y1,l0,l1,l2,m0,m1,Qam,Qaq,Qag]
 cases z : obA M2 <;> unfold obA at z <;> rw [z] at m2 <;> clear z
 rotate_left
 ·clear hrs hfx
  rw [pc_eq]; simp +contextual -implicitDefEqProofs (maxSteps:=2000000) only [go_sem,Qb,E_13,A13,A13_L2_eq,A13_L2b,A13_R1,A13_R1a,A13_R1b,e45,E_77,A77,A77_L4_eq,A77_L4b,A77_L3_eq,A77_L3b,A77_L2_eq,A77_L2b,k1,k2,k3,o1,o2,j1,j2,d1,d2,y1,l0,l1,l2,m0,m1,m2,Qam,Qaq,Qag]
 simp only [Qag,Qdq]
 unfold crd
 by_cases n0 : w.h0 < 0
 ·rw [if_pos n0]
  by_cases n1 : w.h1 < 0
  ·rw [if_pos n1]
   simp only [Qag,Qc8]
   cases z : (rst c w.wh w.wh.length).any outB
   rotate_left
   ·obtain ⟨T',a1⟩:=hrs.1 z
    simp only [O13,Oe13,F13,L13,A13_R1a,A13_R1b] at a1
    clear z hrs hfx
    rw [pc_eq]; simp +contextual -implicitDefEqProofs (maxSteps:=2000000) only [go_sem,Qb,E_13,A13,A13_L2_eq,A13_L2b,A13_R1,A13_R1a,A13_R1b,e45,E_77,A77,A77_L4_eq,A77_L4b,A77_L3_eq,A77_L3b,A77_L2_eq,A77_L2b,k1,k2,k3,o1,o2,j1,j2,d1,d2,y1,l0,l1,l2,m0,m1,m2,n0,n1,a1,Qam]
   have a1:=hrs.2 z
   simp only [O13,Oe13,F13,L13,A13_R1a,A13_R1b] at a1
   clear z hrs
   cases z : (fxt c c.fx.length).any outB
   rotate_left
   ·obtain ⟨T',a2⟩:=hfx.1 z
    simp only [O13,Oe13,F13,L13,A13_R1a,A13_R1b] at a2
    clear z hfx
    rw [pc_eq]; simp +contextual -implicitDefEqProofs (maxSteps:=2000000) only [go_sem,Qb,E_13,A13,A13_L2_eq,A13_L2b,A13_R1,A13_R1a,A13_R1b,e45,E_77,A77,A77_L4_eq,A77_L4b,A77_L3_eq,A77_L3b,A77_L2_eq,A77_L2b,k1,k2,k3,o1,o2,j1,j2,d1,d2,y1,l0,l1,l2,m0,m1,m2,n0,n1,a1,a2,Qaq]
   have a2:=hfx.2 z
   simp only [O13,Oe13,F13,L13,A13_R1a,A13_R1b] at a2
   clear z hfx
   rw [pc_eq]; simp +contextual -implicitDefEqProofs (maxSteps:=2000000) only [go_sem,Qb,E_13,A13,A13_L2_eq,A13_L2b,A13_R1,A13_R1a,A13_R1b,e45,E_77,A77,A77_L4_eq,A77_L4b,A77_L3_eq,A77_L3b,A77_L2_eq,A77_L2b,k1,k2,k3,o1,o2,j1,j2,d1,d2,y1,l0,l1,l2,m0,m1,m2,n0,n1,a1,a2,Qbo]
  ·rw [if_neg n1]
   obtain ⟨p1,e1,g1,n1',t1⟩:=key w.h1 hh1.1 hh1.2 n1
   rw [e1]
   have u1:=hh1.2
   have v1:=c79 p1.nm p1.sh p1.at_ (pp c.b (dd w.q3 w.q4 w.q5)).x3 (pp c.b (dd w.q3 w.q4 w.q5)).y3 (dd w.q3 w.q4 w.q5).x3 (dd w.q3 w.q4 w.q5).y3 3 t1
   have r1:=lp130 c w (laid_ (pp c.b (dd w.q3 w.q4 w.q5)).x3 (pp c.b (dd w.q3 w.q4 w.q5)).y3 (dd w.q3 w.q4 w.q5).x3 (dd w.q3 w.q4 w.q5).y3 p1.sh) (by rw [laid_len]; exact t1)
   simp only [Ob13,L13,A13_R1a,A13_R1b] at r1
   rw [any_1]
   generalize laid_ (pp c.b (dd w.q3 w.q4 w.q5)).x3 (pp c.b (dd w.q3 w.q4 w.q5)).y3 (dd w.q3 w.q4 w.q5).x3 (dd w.q3 w.q4 w.q5).y3 p1.sh = W1 at *
   cases z : obA W1 <;> unfold obA at z <;> rw [z] at r1 <;> clear z
   rotate_left
   ·clear hrs hfx
    simp only [Qc8]
    rw [pc_eq]; simp +contextual -implicitDefEqProofs (maxSteps:=2000000) only [go_sem,Qb,E_13,A13,A13_L2_eq,A13_L2b,A13_R1,A13_R1a,A13_R1b,e45,E_77,A77,A77_L4_eq,A77_L4b,A77_L3_eq,A77_L3b,A77_L2_eq,A77_L2b,k1,k2,k3,o1,o2,j1,j2,d1,d2,y1,l0,l1,l2,m0,m1,m2,n0,n1,n1',g1,u1,v1,r1,Qam,Qaq,Qag]
   simp only [Qag,Qc8]
   cases z : (rst c w.wh w.wh.length).any outB
   rotate_left
   ·obtain ⟨T',a1⟩:=hrs.1 z
    simp only [O13,Oe13,F13,L13,A13_R1a,A13_R1b] at a1
    clear z hrs hfx
    rw [pc_eq]; simp +contextual -implicitDefEqProofs (maxSteps:=2000000) only [go_sem,Qb,E_13,A13,A13_L2_eq,A13_L2b,A13_R1,A13_R1a,A13_R1b,e45,E_77,A77,A77_L4_eq,A77_L4b,A77_L3_eq,A77_L3b,A77_L2_eq,A77_L2b,k1,k2,k3,o1,o2,j1,j2,d1,d2,y1,l0,l1,l2,m0,m1,m2,n0,n1,n1',g1,u1,v1,r1,a1,Qam]
   have a1:=hrs.2 z
   simp only [O13,Oe13,F13,L13,A13_R1a,A13_R1b] at a1
   clear z hrs
   cases z : (fxt c c.fx.length).any outB
   rotate_left
   ·obtain ⟨T',a2⟩:=hfx.1 z
    simp only [O13,Oe13,F13,L13,A13_R1a,A13_R1b] at a2
    clear z hfx
    rw [pc_eq]; simp +contextual -implicitDefEqProofs (maxSteps:=2000000) only [go_sem,Qb,E_13,A13,A13_L2_eq,A13_L2b,A13_R1,A13_R1a,A13_R1b,e45,E_77,A77,A77_L4_eq,A77_L4b,A77_L3_eq,A77_L3b,A77_L2_eq,A77_L2b,k1,k2,k3,o1,o2,j1,j2,d1,d2,y1,l0,l1,l2,m0,m1,m2,n0,n1,n1',g1,u1,v1,r1,a1,a2,Qaq]
   have a2:=hfx.2 z
   simp only [O13,Oe13,F13,L13,A13_R1a,A13_R1b] at a2
   clear z hfx
   rw [pc_eq]; simp +contextual -implicitDefEqProofs (maxSteps:=2000000) only [go_sem,Qb,E_13,A13,A13_L2_eq,A13_L2b,A13_R1,A13_R1a,A13_R1b,e45,E_77,A77,A77_L4_eq,A77_L4b,A77_L3_eq,A77_L3b,A77_L2_eq,A77_L2b,k1,k2,k3,o1,o2,j1,j2,d1,d2,y1,l0,l1,l2,m0,m1,m2,n0,n1,n1',g1,u1,v1,r1,a1,a2,Qbo]
 ·rw [if_neg n0]
  obtain ⟨p0,e0,g0,n0',t0⟩:=key w.h0 hh0.1 hh0.2 n0
  rw [e0]
  have u0:=hh0.2
  have v0:=c79 p0.nm p0.sh p0.at_ (pp c.a (dd w.q0 w.q1 w.q2)).x3 (pp c.a (dd w.q0 w.q1 w.q2)).y3 (dd w.q0 w.q1 w.q2).x3 (dd w.q0 w.q1 w.q2).y3 3 t0
  have r0:=lp130 c w (laid_ (pp c.a (dd w.q0 w.q1 w.q2)).x3 (pp c.a (dd w.q0 w.q1 w.q2)).y3 (dd w.q0 w.q1 w.q2).x3 (dd w.q0 w.q1 w.q2).y3 p0.sh) (by rw [laid_len]; exact t0)
  simp only [Ob13,L13,A13_R1a,A13_R1b] at r0
  rw [any_1]
  generalize laid_ (pp c.a (dd w.q0 w.q1 w.q2)).x3 (pp c.a (dd w.q0 w.q1 w.q2)).y3 (dd w.q0 w.q1 w.q2).x3 (dd w.q0 w.q1 w.q2).y3 p0.sh = W0 at *
  cases z : obA W0 <;> unfold obA at z <;> rw [z] at r0 <;> clear z
  rotate_left
  ·clear hrs hfx
   rw [pc_eq]; simp +contextual -implicitDefEqProofs (maxSteps:=2000000) only [go_sem,Qb,E_13,A13,A13_L2_eq,A13_L2b,A13_R1,A13_R1a,A13_R1b,e45,E_77,A77,A77_L4_eq,A77_L4b,A77_L3_eq,A77_L3b,A77_L2_eq,A77_L2b,k1,k2,k3,o1,o2,j1,j2,d1,d2,y1,l0,l1,l2,m0,m1,m2,n0,n0',g0,u0,v0,r0,Qam,Qaq,Qag]
  by_cases n1 : w.h1 < 0
  ·rw [if_pos n1]
   simp only [Qag,Qc8]
   cases z : (rst c w.wh w.wh.length).any outB
   rotate_left
   ·obtain ⟨T',a1⟩:=hrs.1 z
    simp only [O13,Oe13,F13,L13,A13_R1a,A13_R1b] at a1
    clear z hrs hfx
    rw [pc_eq]; simp +contextual -implicitDefEqProofs (maxSteps:=2000000) only [go_sem,Qb,E_13,A13,A13_L2_eq,A13_L2b,A13_R1,A13_R1a,A13_R1b,e45,E_77,A77,A77_L4_eq,A77_L4b,A77_L3_eq,A77_L3b,A77_L2_eq,A77_L2b,k1,k2,k3,o1,o2,j1,j2,d1,d2,y1,l0,l1,l2,m0,m1,m2,n0,n0',g0,u0,v0,r0,n1,a1,Qam]
   have a1:=hrs.2 z
   simp only [O13,Oe13,F13,L13,A13_R1a,A13_R1b] at a1
   clear z hrs
   cases z : (fxt c c.fx.length).any outB
   rotate_left
   ·obtain ⟨T',a2⟩:=hfx.1 z
    simp only [O13,Oe13,F13,L13,A13_R1a,A13_R1b] at a2
    clear z hfx
    rw [pc_eq]; simp +contextual -implicitDefEqProofs (maxSteps:=2000000) only [go_sem,Qb,E_13,A13,A13_L2_eq,A13_L2b,A13_R1,A13_R1a,A13_R1b,e45,E_77,A77,A77_L4_eq,A77_L4b,A77_L3_eq,A77_L3b,A77_L2_eq,A77_L2b,k1,k2,k3,o1,o2,j1,j2,d1,d2,y1,l0,l1,l2,m0,m1,m2,n0,n0',g0,u0,v0,r0,n1,a1,a2,Qaq]
   have a2:=hfx.2 z
   simp only [O13,Oe13,F13,L13,A13_R1a,A13_R1b] at a2
   clear z hfx
   rw [pc_eq]; simp +contextual -implicitDefEqProofs (maxSteps:=2000000) only [go_sem,Qb,E_13,A13,A13_L2_eq,A13_L2b,A13_R1,A13_R1a,A13_R1b,e45,E_77,A77,A77_L4_eq,A77_L4b,A77_L3_eq,A77_L3b,A77_L2_eq,A77_L2b,k1,k2,k3,o1,o2,j1,j2,d1,d2,y1,l0,l1,l2,m0,m1,m2,n0,n0',g0,u0,v0,r0,n1,a1,a2,Qbo]
  ·rw [if_neg n1]
   obtain ⟨p1,e1,g1,n1',t1⟩:=key w.h1 hh1.1 hh1.2 n1
   rw [e1]
   have u1:=hh1.2
   have v1:=c79 p1.nm p1.sh p1.at_ (pp c.b (dd w.q3 w.q4 w.q5)).x3 (pp c.b (dd w.q3 w.q4 w.q5)).y3 (dd w.q3 w.q4 w.q5).x3 (dd w.q3 w.q4 w.q5).y3 3 t1
   have r1:=lp130 c w (laid_ (pp c.b (dd w.q3 w.q4 w.q5)).x3 (pp c.b (dd w.q3 w.q4 w.q5)).y3 (dd w.q3 w.q4 w.q5).x3 (dd w.q3 w.q4 w.q5).y3 p1.sh) (by rw [laid_len]; exact t1)
   simp only [Ob13,L13,A13_R1a,A13_R1b] at r1
   rw [any_1]
   generalize laid_ (pp c.b (dd w.q3 w.q4 w.q5)).x3 (pp c.b (dd w.q3 w.q4 w.q5)).y3 (dd w.q3 w.q4 w.q5).x3 (dd w.q3 w.q4 w.q5).y3 p1.sh = W1 at *
   cases z : obA W1 <;> unfold obA at z <;> rw [z] at r1 <;> clear z
   rotate_left
   ·clear hrs hfx
    rw [pc_eq]; simp +contextual -implicitDefEqProofs (maxSteps:=2000000) only [go_sem,Qb,E_13,A13,A13_L2_eq,A13_L2b,A13_R1,A13_R1a,A13_R1b,e45,E_77,A77,A77_L4_eq,A77_L4b,A77_L3_eq,A77_L3b,A77_L2_eq,A77_L2b,k1,k2,k3,o1,o2,j1,j2,d1,d2,y1,l0,l1,l2,m0,m1,m2,n0,n0',g0,u0,v0,r0,n1,n1',g1,u1,v1,r1,Qam,Qaq,Qag]
   simp only [Qag,Qc8]
   cases z : (rst c w.wh w.wh.length).any outB
   rotate_left
   ·obtain ⟨T',a1⟩:=hrs.1 z
    simp only [O13,Oe13,F13,L13,A13_R1a,A13_R1b] at a1
    clear z hrs hfx
    rw [pc_eq]; simp +contextual -implicitDefEqProofs (maxSteps:=2000000) only [go_sem,Qb,E_13,A13,A13_L2_eq,A13_L2b,A13_R1,A13_R1a,A13_R1b,e45,E_77,A77,A77_L4_eq,A77_L4b,A77_L3_eq,A77_L3b,A77_L2_eq,A77_L2b,k1,k2,k3,o1,o2,j1,j2,d1,d2,y1,l0,l1,l2,m0,m1,m2,n0,n0',g0,u0,v0,r0,n1,n1',g1,u1,v1,r1,a1,Qam]
   have a1:=hrs.2 z
   simp only [O13,Oe13,F13,L13,A13_R1a,A13_R1b] at a1
   clear z hrs
   cases z : (fxt c c.fx.length).any outB
   rotate_left
   ·obtain ⟨T',a2⟩:=hfx.1 z
    simp only [O13,Oe13,F13,L13,A13_R1a,A13_R1b] at a2
    clear z hfx
    rw [pc_eq]; simp +contextual -implicitDefEqProofs (maxSteps:=2000000) only [go_sem,Qb,E_13,A13,A13_L2_eq,A13_L2b,A13_R1,A13_R1a,A13_R1b,e45,E_77,A77,A77_L4_eq,A77_L4b,A77_L3_eq,A77_L3b,A77_L2_eq,A77_L2b,k1,k2,k3,o1,o2,j1,j2,d1,d2,y1,l0,l1,l2,m0,m1,m2,n0,n0',g0,u0,v0,r0,n1,n1',g1,u1,v1,r1,a1,a2,Qaq]
   have a2:=hfx.2 z
   simp only [O13,Oe13,F13,L13,A13_R1a,A13_R1b] at a2
   clear z hfx
   rw [pc_eq]; simp +contextual -implicitDefEqProofs (maxSteps:=2000000) only [go_sem,Qb,E_13,A13,A13_L2_eq,A13_L2b,A13_R1,A13_R1a,A13_R1b,e45,E_77,A77,A77_L4_eq,A77_L4b,A77_L3_eq,A77_L3b,A77_L2_eq,A77_L2b,k1,k2,k3,o1,o2,j1,j2,d1,d2,y1,l0,l1,l2,m0,m1,m2,n0,n0',g0,u0,v0,r0,n1,n1',g1,u1,v1,r1,a1,a2,Qbo]
end Go.Proofs.YtbpneedpcccpaaaGreat

namespace Go.Proofs.YtbpneedpcccpaaaGreat
open Go Go.Zv
open Go.Geo (Pt mayB)
def grS (c : Cl) : Bool:=decide (20 < c.fx.length) || (decide (20 < c.pl.length) || (decide (20 < c.pt.length) || (decide (30 < c.bt.length) || decide (20 < c.zn.length))))
def grB (c : Cl) : Bool:=grS c || ((c.fx.any fun p=>decide (20 < p.length)) || ((c.zn.any fun p=>decide (20 < p.length)) || ((c.pt.any fun p=>decide (20 < p.sh.length) || decide (100 < p.nm.length)) || c.pl.any fun p=>decide (100 < p.nm.length))))
abbrev O11 (c : Cl) : Heap:=[(256,.box (cec c.cel))]
theorem lp113 (c : Cl) (hl : c.fx.length≤1000) : (K E A11_L3 ⟨[(1,.ptr 256 0),(3,.int .i64 0)],[],O11 c,0⟩).bind (blockR 0 (some [1]) [2,3]) =
  if (c.fx.any (fun p=>decide (20 < p.length))) = true then some (.ex .ret ⟨[(2,.bool true)],[],O11 c,0⟩) else some (.ex .nrm ⟨[(1,.ptr 256 0)],[],O11 c,0⟩):=by
 refine loop_any (fun S=>(K E A11_L3 S).bind (blockR 0 (some [1]) [2,3])) (fun k=>⟨[(1,.ptr 256 0),(3,.int .i64 k)],[],O11 c,0⟩) c.fx (fun p=>decide (20 < p.length)) _ _ ?_ fun k p hk hp=>?_
 ·show (K E A11_L3 _).bind _ = _
  rw [A11_L3_eq]; simp +contextual -implicitDefEqProofs (maxSteps:=2000000) only [go_sem,A11_L3b,O11,Qt,Qb]
 ·have g:=Go.Geo.get_m Go.Geo.p1 hp
  simp only [Go.Geo.p1] at g
  have h0 : (0 : Int)≤k:=by omega
  have h1 : (k : Int) < c.fx.length:=by omega
  have hw:=Go.Geo.wr_k (k:=k) (by omega)
  show (K E A11_L3 _).bind _ = if _ then _ else (K E A11_L3 _).bind _
  conv=>lhs; rw [A11_L3_eq]
  by_cases q : 20 < p.length
  ·have q1 : (20 : Int) < p.length:=by omega
   rw [decide_eq_true q]
   simp +contextual -implicitDefEqProofs (maxSteps:=2000000) only [go_sem,A11_L3b,O11,g,h0,h1,hw,q1,Qb]
  ·have q1 : ¬ (20 : Int) < p.length:=by omega
   rw [decide_eq_false q]
   simp +contextual -implicitDefEqProofs (maxSteps:=2000000) only [go_sem,A11_L3b,O11,g,h0,h1,hw,q1,Qb]
theorem lp112 (c : Cl) (hl : c.zn.length≤1000) : (K E A11_L2 ⟨[(1,.ptr 256 0),(4,.int .i64 0)],[],O11 c,0⟩).bind (blockR 2 (some [1]) [2,4]) =
  if (c.zn.any (fun p=>decide (20 < p.length))) = true then some (.ex .ret ⟨[(2,.bool true)],[],O11 c,0⟩) else some (.ex .nrm ⟨[(1,.ptr 256 0)],[],O11 c,0⟩):=by
 refine loop_any (fun S=>(K E A11_L2 S).bind (blockR 2 (some [1]) [2,4])) (fun k=>⟨[(1,.ptr 256 0),(4,.int .i64 k)],[],O11 c,0⟩) c.zn (fun p=>decide (20 < p.length)) _ _ ?_ fun k p hk hp=>?_
 ·show (K E A11_L2 _).bind _ = _
  rw [A11_L2_eq]; simp +contextual -implicitDefEqProofs (maxSteps:=2000000) only [go_sem,A11_L2b,O11,Qt,Qb]
 ·have g:=Go.Geo.get_m Go.Geo.p1 hp
  simp only [Go.Geo.p1] at g
  have h0 : (0 : Int)≤k:=by omega
  have h1 : (k : Int) < c.zn.length:=by omega
  have hw:=Go.Geo.wr_k (k:=k) (by omega)
  show (K E A11_L2 _).bind _ = if _ then _ else (K E A11_L2 _).bind _
  conv=>lhs; rw [A11_L2_eq]
  by_cases q : 20 < p.length
  ·have q1 : (20 : Int) < p.length:=by omega
   rw [decide_eq_true q]
   simp +contextual -implicitDefEqProofs (maxSteps:=2000000) only [go_sem,A11_L2b,O11,g,h0,h1,hw,q1,Qb]
  ·have q1 : ¬ (20 : Int) < p.length:=by omega
   rw [decide_eq_false q]
   simp +contextual -implicitDefEqProofs (maxSteps:=2000000) only [go_sem,A11_L2b,O11,g,h0,h1,hw,q1,Qb]
theorem lp111 (c : Cl) (hl : c.pt.length≤1000) : (K E A11_L1 ⟨[(1,.ptr 256 0),(5,.int .i64 0)],[],O11 c,0⟩).bind (blockR 4 (some [1]) [2,5]) =
  if (c.pt.any (fun p=>decide (20 < p.sh.length) || decide (100 < p.nm.length))) = true then some (.ex .ret ⟨[(2,.bool true)],[],O11 c,0⟩) else some (.ex .nrm ⟨[(1,.ptr 256 0)],[],O11 c,0⟩):=by
 refine loop_any (fun S=>(K E A11_L1 S).bind (blockR 4 (some [1]) [2,5])) (fun k=>⟨[(1,.ptr 256 0),(5,.int .i64 k)],[],O11 c,0⟩) c.pt (fun p=>decide (20 < p.sh.length) || decide (100 < p.nm.length)) _ _ ?_ fun k p hk hp=>?_
 ·show (K E A11_L1 _).bind _ = _
  rw [A11_L1_eq]; simp +contextual -implicitDefEqProofs (maxSteps:=2000000) only [go_sem,A11_L1b,O11,Qt,Qb]
 ·have g:=Go.Geo.get_m Go.Geo.prv hp
  simp only [Go.Geo.prv] at g
  have h0 : (0 : Int)≤k:=by omega
  have h1 : (k : Int) < c.pt.length:=by omega
  have hw:=Go.Geo.wr_k (k:=k) (by omega)
  show (K E A11_L1 _).bind _ = if _ then _ else (K E A11_L1 _).bind _
  conv=>lhs; rw [A11_L1_eq]
  by_cases q : 20 < p.sh.length
  ·have q1 : (20 : Int) < p.sh.length:=by omega
   rw [decide_eq_true q]
   simp +contextual -implicitDefEqProofs (maxSteps:=2000000) only [go_sem,A11_L1b,O11,g,h0,h1,hw,q1,Qb,Qam]
  ·have q1 : ¬ (20 : Int) < p.sh.length:=by omega
   rw [decide_eq_false q]
   by_cases r : 100 < p.nm.length
   ·have r1 : (100 : Int) < p.nm.length:=by omega
    rw [decide_eq_true r]
    simp +contextual -implicitDefEqProofs (maxSteps:=2000000) only [go_sem,A11_L1b,O11,g,h0,h1,hw,q1,r1,Qb,Qaq]
   ·have r1 : ¬ (100 : Int) < p.nm.length:=by omega
    rw [decide_eq_false r]
    simp +contextual -implicitDefEqProofs (maxSteps:=2000000) only [go_sem,A11_L1b,O11,g,h0,h1,hw,q1,r1,Qb,Qbo]
theorem lp110 (c : Cl) (hl : c.pl.length≤1000) : (K E A11_L0 ⟨[(1,.ptr 256 0),(6,.int .i64 0)],[],O11 c,0⟩).bind (blockR 6 (some []) [2,6]) =
  if (c.pl.any (fun p=>decide (100 < p.nm.length))) = true then some (.ex .ret ⟨[(2,.bool true)],[],O11 c,0⟩) else some (.ex .nrm ⟨[],[],O11 c,0⟩):=by
 refine loop_any (fun S=>(K E A11_L0 S).bind (blockR 6 (some []) [2,6])) (fun k=>⟨[(1,.ptr 256 0),(6,.int .i64 k)],[],O11 c,0⟩) c.pl (fun p=>decide (100 < p.nm.length)) _ _ ?_ fun k p hk hp=>?_
 ·show (K E A11_L0 _).bind _ = _
  rw [A11_L0_eq]; simp +contextual -implicitDefEqProofs (maxSteps:=2000000) only [go_sem,A11_L0b,O11,Qt,Qb]
 ·have g:=Go.Geo.get_m Go.Geo.plv hp
  simp only [Go.Geo.plv] at g
  have h0 : (0 : Int)≤k:=by omega
  have h1 : (k : Int) < c.pl.length:=by omega
  have hw:=Go.Geo.wr_k (k:=k) (by omega)
  show (K E A11_L0 _).bind _ = if _ then _ else (K E A11_L0 _).bind _
  conv=>lhs; rw [A11_L0_eq]
  by_cases q : 100 < p.nm.length
  ·have q1 : (100 : Int) < p.nm.length:=by omega
   rw [decide_eq_true q]
   simp +contextual -implicitDefEqProofs (maxSteps:=2000000) only [go_sem,A11_L0b,O11,g,h0,h1,hw,q1,Qb]
  ·have q1 : ¬ (100 : Int) < p.nm.length:=by omega
   rw [decide_eq_false q]
   simp +contextual -implicitDefEqProofs (maxSteps:=2000000) only [go_sem,A11_L0b,O11,g,h0,h1,hw,q1,Qb]
theorem c11 (c : Cl) : pc E 11 [.agg (cec c.cel)] = some (.bool (grB c)):=by
 unfold grB grS
 by_cases n1 : 20 < c.fx.length
 ·have z1 : (20 : Int) < c.fx.length:=by omega
  rw [decide_eq_true n1]
  rw [pc_eq]; simp +contextual -implicitDefEqProofs (maxSteps:=2000000) only [go_sem,E_11,A11,z1,Qb,Qam]
 have z1 : ¬ (20 : Int) < c.fx.length:=by omega
 rw [decide_eq_false n1]
 by_cases n2 : 20 < c.pl.length
 ·have z2 : (20 : Int) < c.pl.length:=by omega
  rw [decide_eq_true n2]
  rw [pc_eq]; simp +contextual -implicitDefEqProofs (maxSteps:=2000000) only [go_sem,E_11,A11,z1,z2,Qb,Qam,Qaq]
 have z2 : ¬ (20 : Int) < c.pl.length:=by omega
 rw [decide_eq_false n2]
 by_cases n3 : 20 < c.pt.length
 ·have z3 : (20 : Int) < c.pt.length:=by omega
  rw [decide_eq_true n3]
  rw [pc_eq]; simp +contextual -implicitDefEqProofs (maxSteps:=2000000) only [go_sem,E_11,A11,z1,z2,z3,Qb,Qam,Qaq]
 have z3 : ¬ (20 : Int) < c.pt.length:=by omega
 rw [decide_eq_false n3]
 by_cases n4 : 30 < c.bt.length
 ·have z4 : (30 : Int) < c.bt.length:=by omega
  rw [decide_eq_true n4]
  rw [pc_eq]; simp +contextual -implicitDefEqProofs (maxSteps:=2000000) only [go_sem,E_11,A11,z1,z2,z3,z4,Qb,Qam,Qaq]
 have z4 : ¬ (30 : Int) < c.bt.length:=by omega
 rw [decide_eq_false n4]
 by_cases n5 : 20 < c.zn.length
 ·have z5 : (20 : Int) < c.zn.length:=by omega
  rw [decide_eq_true n5]
  rw [pc_eq]; simp +contextual -implicitDefEqProofs (maxSteps:=2000000) only [go_sem,E_11,A11,z1,z2,z3,z4,z5,Qb,Qam,Qaq]
 have z5 : ¬ (20 : Int) < c.zn.length:=by omega
 rw [decide_eq_false n5]
 have l3:=lp113 c (by omega)
 have l2:=lp112 c (by omega)
 have l1:=lp111 c (by omega)
 have l0:=lp110 c (by omega)
 simp only [O11] at l3 l2 l1 l0
 cases h3 : c.fx.any (fun p=>decide (20 < p.length)) <;> rw [h3] at l3 <;> clear h3
 ·cases h2 : c.zn.any (fun p=>decide (20 < p.length)) <;> rw [h2] at l2 <;> clear h2
  ·cases h1 : c.pt.any (fun p=>decide (20 < p.sh.length) || decide (100 < p.nm.length)) <;> rw [h1] at l1 <;> clear h1
   ·cases h0 : c.pl.any (fun p=>decide (100 < p.nm.length)) <;> rw [h0] at l0 <;> clear h0
    ·rw [pc_eq]; simp +contextual -implicitDefEqProofs (maxSteps:=2000000) only [go_sem,E_11,A11,z1,z2,z3,z4,z5,l3,l2,l1,l0,Qb]
    ·rw [pc_eq]; simp +contextual -implicitDefEqProofs (maxSteps:=2000000) only [go_sem,E_11,A11,z1,z2,z3,z4,z5,l3,l2,l1,l0,Qb]
   ·rw [pc_eq]; simp +contextual -implicitDefEqProofs (maxSteps:=2000000) only [go_sem,E_11,A11,z1,z2,z3,z4,z5,l3,l2,l1,Qb]
  ·rw [pc_eq]; simp +contextual -implicitDefEqProofs (maxSteps:=2000000) only [go_sem,E_11,A11,z1,z2,z3,z4,z5,l3,l2,Qb]
 ·rw [pc_eq]; simp +contextual -implicitDefEqProofs (maxSteps:=2000000) only [go_sem,E_11,A11,z1,z2,z3,z4,z5,l3,Qb]
end Go.Proofs.YtbpneedpcccpaaaGreat

namespace Go.Proofs.YtbpneedpcccpaaaGreat
open Go Go.Zv
open Go.Geo (Pt rc RCok mayB valB Val val_iff polB plcB prtB badP shpB)
def lrs (a : Arm) (d : Pts) : List (List (Int × Int)) :=
 [rc a.bx a.by_ a.l0 a.w (67600 * d.x1) (67600 * d.y1),rc (pp a d).x1 (pp a d).y1 a.l1 a.w (1040 * d.x2) (1040 * d.y2),rc (pp a d).x2 (pp a d).y2 a.l2 a.w (16 * d.x3) (16 * d.y3)]
theorem lks_rc (a : Arm) (d : Pts) : lks a d = lrs a d:=by
 simp only [lks,lrs,lkc,rc,pp,Int.mul_assoc]
theorem le_mul {l X M : Int} (hl : 0≤l) (hx : -M≤X∧X≤M) : -(l * M)≤l * X∧l * X≤l * M:=by
 constructor
 ·have:=Qah hx.1 hl
  rw [Int.mul_neg] at this; exact this
 ·exact Qah hx.2 hl
structure R3 (a : Arm) (d : Pts) : Prop where
 r0 : RCok a.bx a.by_ a.l0 a.w (67600 * d.x1) (67600 * d.y1) 19307236000000
 r1 : RCok (pp a d).x1 (pp a d).y1 a.l1 a.w (1040 * d.x2) (1040 * d.y2) 19307236000000
 r2 : RCok (pp a d).x2 (pp a d).y2 a.l2 a.w (16 * d.x3) (16 * d.y3) 19307236000000
theorem r3 {a : Arm} (h : OKa a) {d : Pts} (v : DV d) : R3 a d:=by
 have l0:=h.l0
 have l1:=h.l1
 have l2:=h.l2
 have w:=h.w
 have bx:=h.bx
 have by_:=h.by_
 have x1:=v.v1.x
 have y1:=v.v1.y
 have x2:=v.v2.x
 have y2:=v.v2.y
 have x3:=v.v3.x
 have y3:=v.v3.y
 have n1:=v.v1.eq
 have n2:=v.v2.eq
 have n3:=v.v3.eq
 simp only [p65] at x1 y1 x2 y2 x3 y3 n1 n2 n3
 have g : ∀ l X : Int,1≤l → -4394000≤X∧X≤4394000 → -(l * 4394000)≤l * X∧l * X≤l * 4394000:=fun l X h1 h2=>le_mul (by omega) h2
 have a1:=g a.l0 (67600 * d.x1) (by omega) (by omega)
 have a2:=g a.l0 (67600 * d.y1) (by omega) (by omega)
 have a3:=g a.l1 (1040 * d.x2) (by omega) (by omega)
 have a4:=g a.l1 (1040 * d.y2) (by omega) (by omega)
 have a5:=g a.l2 (16 * d.x3) (by omega) (by omega)
 have a6:=g a.l2 (16 * d.y3) (by omega) (by omega)
 have b1:=g a.w (67600 * d.x1) (by omega) (by omega)
 have b2:=g a.w (67600 * d.y1) (by omega) (by omega)
 have b3:=g a.w (1040 * d.x2) (by omega) (by omega)
 have b4:=g a.w (1040 * d.y2) (by omega) (by omega)
 have b5:=g a.w (16 * d.x3) (by omega) (by omega)
 have b6:=g a.w (16 * d.y3) (by omega) (by omega)
 have m1 : (67600 * d.x1) * (67600 * d.x1) + (67600 * d.y1) * (67600 * d.y1) = 19307236000000:=by
  have e : (67600 * d.x1) * (67600 * d.x1) + (67600 * d.y1) * (67600 * d.y1) = 67600 * 67600 * (d.x1 * d.x1 + d.y1 * d.y1):=by grind
  rw [e,n1]; rfl
 have m2 : (1040 * d.x2) * (1040 * d.x2) + (1040 * d.y2) * (1040 * d.y2) = 19307236000000:=by
  have e : (1040 * d.x2) * (1040 * d.x2) + (1040 * d.y2) * (1040 * d.y2) = 1040 * 1040 * (d.x2 * d.x2 + d.y2 * d.y2):=by grind
  rw [e,n2]; rfl
 have m3 : (16 * d.x3) * (16 * d.x3) + (16 * d.y3) * (16 * d.y3) = 19307236000000:=by
  have e : (16 * d.x3) * (16 * d.x3) + (16 * d.y3) * (16 * d.y3) = 16 * 16 * (d.x3 * d.x3 + d.y3 * d.y3):=by grind
  rw [e,n3]; rfl
 refine ⟨⟨by omega,by omega,by omega,m1,?_⟩,⟨by omega,by omega,by omega,m2,?_⟩,⟨by omega,by omega,by omega,m3,?_⟩⟩
 all_goals
  simp only [rc,Qy,Qce,or_false]
  rintro p (rfl | rfl | rfl | rfl) <;> simp only [pp,Int.mul_assoc] <;> omega
theorem lks_val {a : Arm} (h : OKa a) (q0 q1 q2 : Int) : ∀ l ∈ lks a (dd q0 q1 q2),Val l:=by
 intro l hl
 have R:=r3 h (ddV q0 q1 q2)
 rw [lks_rc] at hl
 simp only [lrs,Qy,Qce,or_false] at hl
 rw [← val_iff]
 rcases hl with rfl | rfl | rfl
 ·exact Go.Geo.rc_val R.r0
 ·exact Go.Geo.rc_val R.r1
 ·exact Go.Geo.rc_val R.r2
structure VC (c : Cl) : Prop where
 ha : OKa c.a
 hb : OKa c.b
 pl : c.pl.length≤16
 pt : c.pt.length≤8
 bt : c.bt.length≤16
 fl : c.fx.length≤16
 fx : ∀ p ∈ c.fx,Val p
 ps : ∀ p ∈ c.pl,badP p = false
 sh : ∀ p ∈ c.pt,shpB p.sh = true
theorem right_VC {c : Cl} (h : rightB c = true) : VC c:=by
 unfold rightB armOK okB restB polB plcB prtB at h
 simp only [Qe,decide_eq_true_eq,Qar,Qa8,Qr] at h
 obtain ⟨⟨ha,_⟩,⟨hb,_⟩,h1,h2,h3,⟨f1,f2⟩,_,⟨p1,_⟩,⟨s1,_⟩,_⟩:=h
 refine ⟨ha,hb,by omega,by omega,by omega,f1,fun p hp=>val_iff.1 (f2 p hp),fun p hp=>by simpa using p1 p hp,fun p hp=>by simpa using s1 p hp⟩
theorem sh_Val {l : List Pt} (h : shpB l = true) : Val l∧l.length≤4 ∧ ∀ p ∈ l,(-10≤p.1∧p.1≤10)∧(-10≤p.2∧p.2≤10):=by
 unfold shpB at h
 simp only [Qe,decide_eq_true_eq,Qar,Qa8,Qn] at h
 obtain ⟨h1,h2,h3⟩:=h
 refine ⟨val_iff.1 h2,h1,fun p hp=>?_⟩
 obtain ⟨i,hi,rfl⟩:=Qdd hp
 have:=h3 i hi
 have e : Go.Geo.ptn l i = l[i]:=by
  have:=Go.Geo.ptn_get hi
  rw [Qg hi] at this
  exact (Option.some.inj this).symm
 unfold Go.Geo.shpI at this
 rw [e] at this
 simp at this
 omega
theorem VC.fin {c : Cl} (h : VC c) : Fin_ c:=⟨h.ha,h.hb,fun p hp=>by have:=(sh_Val (h.sh p hp)).2.1; omega,by have:=h.pt; omega,by have:=h.fl; omega⟩
noncomputable def fitB (c : Cl) (x : Raw) : Bool:=!grB c && (rightB c && vsB c (wld c x))
theorem bod_mem {c : Cl} {w : Wl} {b : Bd} (h : b ∈ bodies c w) :
  (b.k = 1∧(b.i = 0∧b.ar ∈ lks c.a (dd w.q0 w.q1 w.q2) ∨ b.i = 1∧b.ar ∈ lks c.b (dd w.q3 w.q4 w.q5))∧(b.j = 0 ∨ b.j = 1 ∨ b.j = 2)) ∨
  (b.k = 2∧b.j = 0∧((b.i = 0∧0≤w.h0∧b.ar = laid_ (pp c.a (dd w.q0 w.q1 w.q2)).x3 (pp c.a (dd w.q0 w.q1 w.q2)).y3 (dd w.q0 w.q1 w.q2).x3 (dd w.q0 w.q1 w.q2).y3 (c.pt.getD w.h0.toNat default).sh) ∨ (b.i = 1∧0≤w.h1∧b.ar = laid_ (pp c.b (dd w.q3 w.q4 w.q5)).x3 (pp c.b (dd w.q3 w.q4 w.q5)).y3 (dd w.q3 w.q4 w.q5).x3 (dd w.q3 w.q4 w.q5).y3 (c.pt.getD w.h1.toNat default).sh))) ∨
  (b.k = 3∧b.j = 0 ∧ ∃ i : Nat,b.i = i∧i < w.wh.length∧0≤w.wh.getD i 0∧b.ar = laid_ (c.pl.getD (w.wh.getD i 0).toNat default).x (c.pl.getD (w.wh.getD i 0).toNat default).y (c.pl.getD (w.wh.getD i 0).toNat default).dx (c.pl.getD (w.wh.getD i 0).toNat default).dy (c.pt.getD i default).sh) ∨
  (b.k = 4∧b.j = 0 ∧ ∃ i : Nat,b.i = i∧i < c.fx.length∧b.ar = c.fx.getD i []):=by
 unfold bodies at h
 simp only [Qm] at h
 rcases h with h | h | h | h | h | h
 ·left
  obtain ⟨L0,L1,L2,e⟩:=lks3 c.a (dd w.q0 w.q1 w.q2)
  rw [e] at h ⊢
  simp only [lnk,Qy,Qce,or_false] at h
  rcases h with rfl | rfl | rfl <;> simp
 ·left
  obtain ⟨L0,L1,L2,e⟩:=lks3 c.b (dd w.q3 w.q4 w.q5)
  rw [e] at h ⊢
  simp only [lnk,Qy,Qce,or_false] at h
  rcases h with rfl | rfl | rfl <;> simp
 ·right; left
  unfold crd at h
  split at h
  ·cases h
  ·rw [Qai] at h
   subst h
   exact ⟨rfl,rfl,.inl ⟨rfl,by omega,rfl⟩⟩
 ·right; left
  unfold crd at h
  split at h
  ·cases h
  ·rw [Qai] at h
   subst h
   exact ⟨rfl,rfl,.inr ⟨rfl,by omega,rfl⟩⟩
 ·right; right; left
  unfold rst at h
  obtain ⟨i,hi,h⟩:=Qc9.1 h
  rw [Qn] at hi
  unfold rsI at h
  split at h
  ·cases h
  ·rw [Qai] at h
   subst h
   exact ⟨rfl,rfl,i,rfl,hi,by omega,rfl⟩
 ·right; right; right
  unfold fxt at h
  obtain ⟨i,hi,rfl⟩:=Qaa.1 h
  rw [Qn] at hi
  exact ⟨rfl,rfl,i,rfl,hi,rfl⟩
theorem bod_len (c : Cl) (w : Wl) : (bodies c w).length≤8 + w.wh.length + c.fx.length:=by
 unfold bodies
 simp only [Qj]
 have h1:=rst_len c w.wh w.wh.length
 have h2 : ∀ a i q0 q1 q2 h,(crd c a i q0 q1 q2 h).length≤1:=fun a i q0 q1 q2 h=>by unfold crd; split <;> simp
 have a1:=h2 c.a 0 w.q0 w.q1 w.q2 w.h0
 have a2:=h2 c.b 1 w.q3 w.q4 w.q5 w.h1
 have h3 : (fxt c c.fx.length).length = c.fx.length:=by simp [fxt]
 simp only [lnk,Q6,Qa0]
 omega
theorem bod_ar {c : Cl} {w : Wl} (H : VC c) (P : Pld c w) : ∀ b ∈ bodies c w,b.ar.length≤12:=by
 intro b hb
 have hs : ∀ i : Nat,i < c.pt.length → (c.pt.getD i default).sh.length≤12:=fun i hi=>by
  have:=(sh_Val (H.sh _ (Qd (Go.Geo.getD_of default hi)))).2.1
  omega
 have p0:=P.h0
 have p1:=P.h1
 have pn:=P.len
 rcases bod_mem hb with ⟨_,h,_⟩ | ⟨_,_,h⟩ | ⟨_,_,i,_,hi,_,e⟩ | ⟨_,_,i,_,hi,e⟩
 ·rcases h with ⟨_,h⟩ | ⟨_,h⟩ <;> rw [lks_len _ _ _ h] <;> omega
 ·rcases h with ⟨_,h0,e⟩ | ⟨_,h0,e⟩ <;> rw [e,laid_len] <;> exact hs _ (by omega)
 ·rw [e,laid_len]; exact hs _ (by omega)
 ·rw [e]; exact (H.fx _ (Qd (Go.Geo.getD_of [] hi))).n12
theorem c15 (c : Cl) (x : Raw) (X : RawOK x) : pc E 15 [.agg (cec c.cel),.agg [.int .u8 x.q,.int .u8 x.r,.int .u8 x.s,.int .u8 x.t,.int .u8 x.u,.int .u8 x.v,.int .u8 x.h,.int .u8 x.k,.vs (x.b.map u1)]] =
  some (.tup [.agg (if (grB c || !rightB c) = true then [.int .i64 0,.int .i64 0,.int .i64 0,.int .i64 0,.int .i64 0,.int .i64 0,.int .i64 0,.int .i64 0,.vs []] else wlc (wld c x)),.bool (fitB c x)]):=by
 have k1:=c11 c
 unfold fitB
 cases h1 : grB c <;> rw [h1] at k1
 ·have hz : c.zn.length≤1000:=by
   unfold grB grS at h1
   simp only [Qbf,decide_eq_false_iff_not] at h1
   omega
  have k2:=c12 c hz
  cases h2 : rightB c <;> rw [h2] at k2
  ·rw [if_pos (by simp)]
   rw [pc_eq]; simp +contextual -implicitDefEqProofs (maxSteps:=2000000) only [go_sem,E_15,A15,k1,k2]
  ·have V:=right_VC h2
   have v1:=V.pl
   have v2:=V.pt
   have v3:=V.fl
   have k3:=c49 c x V.ha V.hb X (by omega) (by omega)
   have wl : (wld c x).wh.length = c.pt.length:=by
    unfold wld wh1 wh0; simp only
    split <;> split <;> simp [whs_len]
   have nb:=bod_len c (wld c x)
   have k4 : pc E 14 [.agg (cec c.cel),.agg (wlc (wld c x))] = some (.bool (vsB c (wld c x))):=by
    cases hp : plB c (wld c x) with
    | true =>
      refine c14 c (wld c x) V.fin (by omega) (by omega) (by omega) fun v hv=>?_
      have:=bod_ar V (plB_Pld hp) v hv
      omega
    | false =>
      have e1:=c36 c.a (wld c x).q0 (wld c x).q1 (wld c x).q2
      have e2:=c36 c.b (wld c x).q3 (wld c x).q4 (wld c x).q5
      have e3:=c47 c (wld c x) (by omega)
      rw [hp] at e3
      unfold vsB
      rw [hp]
      generalize wld c x = w at *
      cases g1 : limB c.a w.q0 w.q1 w.q2 <;> rw [g1] at e1
      ·rw [pc_eq]; simp +contextual -implicitDefEqProofs (maxSteps:=2000000) only [go_sem,E_14,A14,e1]
      ·cases g2 : limB c.b w.q3 w.q4 w.q5 <;> rw [g2] at e2
       ·rw [pc_eq]; simp +contextual -implicitDefEqProofs (maxSteps:=2000000) only [go_sem,E_14,A14,e1,e2]
       ·rw [pc_eq]; simp +contextual -implicitDefEqProofs (maxSteps:=2000000) only [go_sem,E_14,A14,e1,e2,e3]
   rw [if_neg (by simp)]
   generalize wld c x = w at *
   generalize vsB c w = b at *
   rw [pc_eq]; simp +contextual -implicitDefEqProofs (maxSteps:=2000000) only [go_sem,E_15,A15,k1,k2,k3,k4]
 ·rw [if_pos (by simp)]
  rw [pc_eq]; simp +contextual -implicitDefEqProofs (maxSteps:=2000000) only [go_sem,E_15,A15,k1]
end Go.Proofs.YtbpneedpcccpaaaGreat

namespace Go.Proofs.YtbpneedpcccpaaaGreat
open Go Go.Zv
open Go.Geo (Pt mayB Val val_iff badP dirB simP)
structure FT (c : Cl) (w : Wl) : Prop where
 v : VC c
 p : Pld c w
 r : (bodies c w).any outB = false
theorem fit_FT {c : Cl} {x : Raw} (h : fitB c x = true) : FT c (wld c x):=by
 unfold fitB vsB rngB at h
 simp only [Qe,Qar] at h
 exact ⟨right_VC h.2.1,plB_Pld h.2.2.2.2.1,h.2.2.2.2.2⟩
theorem ldP_sim {ax ay X Y : Int} {p : Pt} (ha : -1000000000≤ax∧ax≤1000000000) (hb : -1000000000≤ay∧ay≤1000000000) (hX : -274625≤X∧X≤274625) (hY : -274625≤Y∧Y≤274625) (h1 : -10≤p.1∧p.1≤10) (h2 : -10≤p.2∧p.2≤10) : ldP ax ay X Y p = simP ax ay X Y p:=by
 have m1:=mul_bd h1.1 h1.2 hX.1 hX.2
 have m2:=mul_bd h1.1 h1.2 hY.1 hY.2
 have m3:=mul_bd h2.1 h2.2 hX.1 hX.2
 have m4:=mul_bd h2.1 h2.2 hY.1 hY.2
 unfold ldP simP w64
 rw [wrap_small (n:=p.1 * X) (by omega) (by omega),wrap_small (n:=p.2 * Y) (by omega) (by omega),wrap_small (n:=p.1 * Y) (by omega) (by omega),wrap_small (n:=p.2 * X) (by omega) (by omega)]
 rw [wrap_small (n:=p.1 * X - p.2 * Y) (by omega) (by omega),wrap_small (n:=p.1 * Y + p.2 * X) (by omega) (by omega)]
 rw [wrap_small (n:=16 * (p.1 * X - p.2 * Y)) (by omega) (by omega),wrap_small (n:=16 * (p.1 * Y + p.2 * X)) (by omega) (by omega)]
 rw [wrap_small (by omega) (by omega),wrap_small (by omega) (by omega)]
theorem laid_sim {ax ay X Y : Int} {l : List Pt} (ha : -1000000000≤ax∧ax≤1000000000) (hb : -1000000000≤ay∧ay≤1000000000) (hX : -274625≤X∧X≤274625) (hY : -274625≤Y∧Y≤274625) (hl : Go.Geo.shpB l = true) : laid_ ax ay X Y l = l.map (simP ax ay X Y):=by
 unfold laid_
 exact Qa5 fun p hp=>ldP_sim ha hb hX hY ((sh_Val hl).2.2 p hp).1 ((sh_Val hl).2.2 p hp).2
theorem laid_Val {ax ay X Y : Int} {l : List Pt} (ha : -1000000000≤ax∧ax≤1000000000) (hb : -1000000000≤ay∧ay≤1000000000) (hn : X * X + Y * Y = 274625 * 274625) (hX : -274625≤X∧X≤274625) (hY : -274625≤Y∧Y≤274625) (hl : Go.Geo.shpB l = true) (hm : (laid_ ax ay X Y l).any (fun p=>!mayB p) = false) : Val (laid_ ax ay X Y l):=by
 have e:=laid_sim ha hb hX hY hl
 rw [e] at hm ⊢
 have hs:=sh_Val hl
 refine Go.Geo.val_simP hs.1 hs.2.2 hn ?_
 rw [Qa8] at hm
 rw [Qr]
 intro p hp
 simpa using hm p hp
theorem place_ok {p : Go.Geo.Plc} (h : badP p = false) : (-1000000000≤p.x∧p.x≤1000000000)∧(-1000000000≤p.y∧p.y≤1000000000)∧(p.dx * p.dx + p.dy * p.dy = 274625 * 274625)∧(-274625≤p.dx∧p.dx≤274625)∧(-274625≤p.dy∧p.dy≤274625):=by
 unfold badP dirB mxI mnI at h
 simp only [Qbf,Bool.not_eq_false',decide_eq_true_eq,decide_eq_false_iff_not,Qe] at h
 obtain ⟨_,_,h1,h2,_,h3,h4,h5,h6,h7⟩:=h
 refine ⟨?_,?_,by rw [h7]; rfl,⟨h3,h4⟩,h5,h6⟩ <;> (split at h1 <;> split at h2 <;> omega)
theorem arm_ok {a : Arm} (h : OKa a) (q0 q1 q2 : Int) : (-1000000000≤(pp a (dd q0 q1 q2)).x3∧(pp a (dd q0 q1 q2)).x3≤1000000000)∧(-1000000000≤(pp a (dd q0 q1 q2)).y3∧(pp a (dd q0 q1 q2)).y3≤1000000000)∧((dd q0 q1 q2).x3 * (dd q0 q1 q2).x3 + (dd q0 q1 q2).y3 * (dd q0 q1 q2).y3 = 274625 * 274625)∧(-274625≤(dd q0 q1 q2).x3∧(dd q0 q1 q2).x3≤274625)∧(-274625≤(dd q0 q1 q2).y3∧(dd q0 q1 q2).y3≤274625):=by
 have v:=ddV q0 q1 q2
 have b:=bds h v
 have n3:=v.v3.eq
 have x3:=v.v3.x
 have y3:=v.v3.y
 simp only [p65] at n3 x3 y3
 obtain ⟨o0x,o0y,o1x,o1y,o2x,o2y,bx,by_⟩:=b
 refine ⟨?_,?_,by omega,by omega,by omega⟩
 ·unfold pp; simp only; omega
 ·unfold pp; simp only; omega
theorem FT.val {c : Cl} {w : Wl} (H : FT c w) : AllV (bodies c w):=by
 intro b hb
 have hr : b.ar.any (fun p=>!mayB p) = false:=by
  have:=Qa8.1 H.r b hb
  simpa [outB] using this
 have p0:=H.p.h0
 have p1:=H.p.h1
 have pn:=H.p.len
 have hs : ∀ i : Nat,i < c.pt.length → Go.Geo.shpB (c.pt.getD i default).sh = true:=fun i hi=>H.v.sh _ (Qd (Go.Geo.getD_of default hi))
 rcases bod_mem hb with ⟨_,h,_⟩ | ⟨_,_,h⟩ | ⟨_,_,i,_,hi,h0,e⟩ | ⟨_,_,i,_,hi,e⟩
 ·rcases h with ⟨_,h⟩ | ⟨_,h⟩
  ·exact lks_val H.v.ha _ _ _ _ h
  ·exact lks_val H.v.hb _ _ _ _ h
 ·rcases h with ⟨_,h0,e⟩ | ⟨_,h0,e⟩
  ·obtain ⟨a1,a2,a3,a4,a5⟩:=arm_ok H.v.ha w.q0 w.q1 w.q2
   rw [e] at hr ⊢
   exact laid_Val a1 a2 a3 a4 a5 (hs _ (by omega)) hr
  ·obtain ⟨a1,a2,a3,a4,a5⟩:=arm_ok H.v.hb w.q3 w.q4 w.q5
   rw [e] at hr ⊢
   exact laid_Val a1 a2 a3 a4 a5 (hs _ (by omega)) hr
 ·have hm:=(H.p.at_ _ (Qd (Go.Geo.getD_of 0 hi))).2
  obtain ⟨a1,a2,a3,a4,a5⟩:=place_ok (H.v.ps _ (Qd (Go.Geo.getD_of default (i:=(w.wh.getD i 0).toNat) (by omega))))
  rw [e] at hr ⊢
  exact laid_Val a1 a2 a3 a4 a5 (hs _ (by omega)) hr
 ·rw [e]; exact H.v.fx _ (Qd (Go.Geo.getD_of [] hi))
theorem bod_sorted (c : Cl) (w : Wl) : (bodies c w).Pairwise fun a b=>a.k≤b.k:=by
 have hl : ∀ i L,(lnk i L).Pairwise (fun a b : Bd=>a.k≤b.k):=fun i L=>by simp [lnk]
 have hk : ∀ i L,∀ b ∈ lnk i L,b.k = 1:=fun i L b hb=>by
  simp only [lnk,Qy,Qce,or_false] at hb
  rcases hb with rfl | rfl | rfl <;> rfl
 have hc : ∀ a i q0 q1 q2 h,(crd c a i q0 q1 q2 h).Pairwise (fun a b : Bd=>a.k≤b.k):=fun a i q0 q1 q2 h=>by unfold crd; split <;> simp
 have hck : ∀ a i q0 q1 q2 h,∀ b ∈ crd c a i q0 q1 q2 h,b.k = 2:=fun a i q0 q1 q2 h b hb=>by
  unfold crd at hb; split at hb
  ·cases hb
  ·rw [Qai] at hb; subst hb; rfl
 have hrk : ∀ b ∈ rst c w.wh w.wh.length,b.k = 3:=fun b hb=>by
  unfold rst at hb
  obtain ⟨i,hi,hb⟩:=Qc9.1 hb
  unfold rsI at hb; split at hb
  ·cases hb
  ·rw [Qai] at hb; subst hb; rfl
 have hfk : ∀ b ∈ fxt c c.fx.length,b.k = 4:=fun b hb=>by
  unfold fxt at hb
  obtain ⟨i,hi,rfl⟩:=Qaa.1 hb; rfl
 have pw : ∀ (l : List Bd) (k : Int),(∀ b ∈ l,b.k = k) → l.Pairwise fun a b=>a.k≤b.k:=fun l k h=>by
  rw [List.pairwise_iff_forall_sublist]
  intro a b hab
  have:=hab.subset
  rw [h a (this (by simp)),h b (this (by simp))]
  exact Qdp _
 unfold bodies
 simp only [Qbr,Qm]
 refine ⟨hl _ _,⟨hl _ _,⟨hc _ _ _ _ _ _,⟨hc _ _ _ _ _ _,⟨pw _ 3 hrk,pw _ 4 hfk,?_⟩,?_⟩,?_⟩,?_⟩,?_⟩
 ·intro a ha b hb; rw [hrk a ha,hfk b hb]; decide
 ·intro a ha b hb; rw [hck _ _ _ _ _ _ a ha]
  rcases hb with hb | hb
  ·rw [hrk b hb]; decide
  ·rw [hfk b hb]; decide
 ·intro a ha b hb; rw [hck _ _ _ _ _ _ a ha]
  rcases hb with hb | hb | hb
  ·rw [hck _ _ _ _ _ _ b hb]; decide
  ·rw [hrk b hb]; decide
  ·rw [hfk b hb]; decide
 ·intro a ha b hb; rw [hk _ _ a ha]
  rcases hb with hb | hb | hb | hb
  ·rw [hck _ _ _ _ _ _ b hb]; decide
  ·rw [hck _ _ _ _ _ _ b hb]; decide
  ·rw [hrk b hb]; decide
  ·rw [hfk b hb]; decide
 ·intro a ha b hb; rw [hk _ _ a ha]
  rcases hb with hb | hb | hb | hb | hb
  ·rw [hk _ _ b hb]; decide
  ·rw [hck _ _ _ _ _ _ b hb]; decide
  ·rw [hck _ _ _ _ _ _ b hb]; decide
  ·rw [hrk b hb]; decide
  ·rw [hfk b hb]; decide
theorem FT.kinds {c : Cl} {w : Wl} (H : FT c w) : Kinds (bodies c w):=by
 refine ⟨fun b hb=>?_,fun i j hij a b ha hb=>?_,fun b hb=>?_⟩
 ·rcases bod_mem hb with h | h | h | h <;> simp [h.1]
 ·have:=List.pairwise_iff_getElem.1 (bod_sorted c w) i j (Qf.1 ha).1 (Qf.1 hb).1 hij
  rw [(Qf.1 ha).2,(Qf.1 hb).2] at this
  exact this
 ·have:=bod_ar H.v H.p b hb; omega
theorem FT.len {c : Cl} {w : Wl} (H : FT c w) : (bodies c w).length≤900:=by
 have h1:=bod_len c w
 have h2:=H.p.len
 have h3:=H.v.pt
 have h4:=H.v.fl
 omega
end Go.Proofs.YtbpneedpcccpaaaGreat

namespace Go.Proofs.YtbpneedpcccpaaaGreat
open Go Go.Zv
open Go.Geo (Pt mayB Val)
abbrev rawc (x : Raw) : List LV:=[.int .u8 x.q,.int .u8 x.r,.int .u8 x.s,.int .u8 x.t,.int .u8 x.u,.int .u8 x.v,.int .u8 x.h,.int .u8 x.k,.vs (x.b.map u1)]
theorem c13v (c : Cl) (w : Wl) (V : VC c) : pc E 13 [.agg (cec c.cel),.agg (wlc w)] = some (.bool (vsB c w)):=by
 have v1:=V.pl
 exact c13 c w V.fin (by omega) fun p hp=>by have:=(V.fx p hp).n12; omega
end Go.Proofs.YtbpneedpcccpaaaGreat

namespace Go.Proofs.YtbpneedpcccpaaaGreat
open Go Go.Zv
open Go.Geo (Pt mayB Val FC)
def pf (f : Bd → Bd → Bool) : List Bd → List (Bd × Bd)
 | []=>[]
 | a::l=>pfJ f a l++pf f l
theorem pf_cons (f : Bd → Bd → Bool) (a : Bd) (l : List Bd) : pf f (a::l) = pfJ f a l++pf f l:=rfl
theorem pfN_cons (f : Bd → Bd → Bool) (a : Bd) (l : List Bd) (n : Nat) : pfN f (a::l) (n + 1) = pfJ f a l++pfN f l n:=by
 unfold pfN
 rw [List.range_succ_eq_map,List.flatMap_cons]
 congr 1
 rw [List.flatMap_map]
 simp only [List.flatMap]
 congr 1
theorem pfs_pf (f : Bd → Bd → Bool) (l : List Bd) : pfs f l = pf f l:=by
 induction l with
 | nil=>rfl
 | cons a l ih =>
   show pfN f (a::l) (l.length + 1) = _
   rw [pfN_cons,pf_cons,← ih]; rfl
def both (n : Bd → Bool) (p : Bd × Bd) : Bool:=n p.1 && n p.2
def nk (k : Int) (b : Bd) : Bool:=!(decide (b.k≤2) && decide (b.i = k))
end Go.Proofs.YtbpneedpcccpaaaGreat

namespace Go.Proofs.YtbpneedpcccpaaaGreat
open Go Go.Zv
open Go.Geo (Pt mayB Val valB val_iff)
theorem rst_ki (c : Cl) (wh : List Int) (n : Nat) : ∀ b ∈ rst c wh n,b.k = 3 ∧ ∃ i : Nat,b.i = i∧i < n:=fun b hb=>by
 unfold rst at hb
 obtain ⟨i,hi,hb⟩:=Qc9.1 hb
 unfold rsI at hb; split at hb
 ·cases hb
 ·rw [Qai] at hb; subst hb; exact ⟨rfl,i,rfl,Qn.1 hi⟩
def ck (k : Int) (l : List Bd) : Nat:=l.countP fun b=>decide (b.k = k)
def heldN (w : Wl) : Nat:=(if w.h0 < 0 then 0 else 1) + if w.h1 < 0 then 0 else 1
def restN (wh : List Int) (n : Nat) : Nat:=(List.range n).countP fun i=>decide (0≤wh.getD i 0)
end Go.Proofs.YtbpneedpcccpaaaGreat

namespace Go.Proofs.YtbpneedpcccpaaaGreat
open Go Go.Zv
open Go.Geo (Pt mayB Val valB val_iff FC FC_comm)
/-! exchanged arms: the plain part -/
def sbar (a b : Bd) : Bool:=if a.k < b.k then bar a b else if b.k < a.k then bar b a else (bar a b || bar b a)
theorem sbar_comm (a b : Bd) : sbar a b = sbar b a:=by
 unfold sbar
 by_cases h1 : a.k < b.k
 ·have : ¬ b.k < a.k:=by omega
  simp only [h1,this,if_true,if_false]
 ·by_cases h2 : b.k < a.k
  ·simp only [h1,h2,if_true,if_false]
  ·simp only [h1,h2,if_false,Bool.or_comm]
def stch (a b : Bd) : Bool:=sbar a b && ((FC a.ar b.ar).isSome && (FC b.ar a.ar).isSome)
theorem stch_comm (a b : Bd) : stch a b = stch b a:=by
 unfold stch; rw [sbar_comm,Bool.and_comm (FC a.ar b.ar).isSome]
theorem pfJ_congr {f g : Bd → Bd → Bool} {a : Bd} {l : List Bd} (h : ∀ b ∈ l,f a b = g a b) : pfJ f a l = pfJ g a l:=by
 unfold pfJ; rw [Qcn h]
theorem pf_congr {f g : Bd → Bd → Bool} {l : List Bd} (h : l.Pairwise fun a b=>f a b = g a b) : pf f l = pf g l:=by
 induction l with
 | nil=>rfl
 | cons a l ih =>
   rw [Qba] at h
   rw [pf_cons,pf_cons,pfJ_congr h.1,ih h.2]
theorem pfJ_length (f : Bd → Bd → Bool) (a : Bd) (l : List Bd) : (pfJ f a l).length = l.countP (f a):=by
 unfold pfJ; rw [Qb,List.countP_eq_length_filter]
theorem pf_perm_len {f : Bd → Bd → Bool} (hs : ∀ a b,f a b = f b a) {l m : List Bd} (p : l.Perm m) : (pf f l).length = (pf f m).length:=by
 induction p with
 | nil=>rfl
 | cons a p ih=>rw [pf_cons,pf_cons,Qj,Qj,ih,pfJ_length,pfJ_length,p.countP_eq]
 | swap a b l =>
   simp only [pf_cons,Qj,pfJ_length,List.countP_cons,hs a b]
   omega
 | trans _ _ h1 h2=>rw [h1,h2]
theorem pfJ_mem {f : Bd → Bd → Bool} {a : Bd} {l : List Bd} {p : Bd × Bd} : p ∈ pfJ f a l ↔ p.1 = a∧p.2 ∈ l∧f a p.2 = true:=by
 unfold pfJ
 obtain ⟨x,y⟩:=p
 simp only [Qaa,Qx,Prod.mk.injEq]
 constructor
 ·rintro ⟨b,⟨h1,h2⟩,rfl,rfl⟩; exact ⟨rfl,h1,h2⟩
 ·rintro ⟨rfl,h1,h2⟩; exact ⟨y,⟨h1,h2⟩,rfl,rfl⟩
theorem pf_perm_mem {f : Bd → Bd → Bool} (hs : ∀ a b,f a b = f b a) {l m : List Bd} (p : l.Perm m) : ∀ x y,(x,y) ∈ pf f l → (x,y) ∈ pf f m ∨ (y,x) ∈ pf f m:=by
 induction p with
 | nil=>exact fun x y h=>.inl h
 | cons a p ih =>
   intro x y h
   rw [pf_cons,Qm] at h
   rw [pf_cons,Qm,Qm]
   rcases h with h | h
   ·rw [pfJ_mem] at h
    exact .inl (.inl (pfJ_mem.2 ⟨h.1,p.mem_iff.1 h.2.1,h.2.2⟩))
   ·rcases ih x y h with h | h
    ·exact .inl (.inr h)
    ·exact .inr (.inr h)
 | swap a b l =>
   intro x y h
   simp only [pf_cons,Qm,pfJ_mem,Qy] at h ⊢
   rcases h with ⟨rfl,h1,h2⟩ | ⟨rfl,h1,h2⟩ | h
   ·rcases h1 with rfl | h1
    ·exact .inr (.inl ⟨rfl,.inl rfl,by rw [hs]; exact h2⟩)
    ·exact .inl (.inr (.inl ⟨rfl,h1,h2⟩))
   ·exact .inl (.inl ⟨rfl,.inr h1,h2⟩)
   ·exact .inl (.inr (.inr h))
 | trans _ _ h1 h2 =>
   intro x y h
   rcases h1 x y h with h | h
   ·exact h2 x y h
   ·rcases h2 y x h with h | h
    ·exact .inr h
    ·exact .inl h
theorem pf_map {f g : Bd → Bd → Bool} {t : Bd → Bd} {l : List Bd} (h : ∀ a ∈ l,∀ b ∈ l,f (t a) (t b) = g a b) : pf f (l.map t) = (pf g l).map fun p=>(t p.1,t p.2):=by
 induction l with
 | nil=>rfl
 | cons a l ih =>
   rw [Qp,pf_cons,pf_cons,Qq,ih fun x hx y hy=>h x (Qbq _ hx) y (Qbq _ hy)]
   congr 1
   unfold pfJ
   rw [List.filter_map,Qaz,Qaz]
   have e : List.filter (f (t a) ∘ t) l = List.filter (g a) l:=Qcn fun b hb=>h a (by simp) b (Qbq _ hb)
   rw [e]
   rfl
def xB (b : Bd) : Bd:=if b.k≤2 then { b with i:=1 - b.i } else b
def xC (c : Cl) : Cl:={ c with a:=c.b,b:=c.a,h0:=c.h3,h1:=c.h4,h2:=c.h5,h3:=c.h0,h4:=c.h1,h5:=c.h2 }
def xW (w : Wl) : Wl:={ w with q0:=w.q3,q1:=w.q4,q2:=w.q5,q3:=w.q0,q4:=w.q1,q5:=w.q2,h0:=w.h1,h1:=w.h0 }
theorem xB_lnk0 (L : List (List Pt)) : (lnk 0 L).map xB = lnk 1 L:=by simp [lnk,xB]
theorem xB_lnk1 (L : List (List Pt)) : (lnk 1 L).map xB = lnk 0 L:=by simp [lnk,xB]
theorem xB_crd0 (c : Cl) (a : Arm) (q0 q1 q2 h : Int) : (crd c a 0 q0 q1 q2 h).map xB = crd (xC c) a 1 q0 q1 q2 h:=by
 unfold crd; split <;> simp [xB,xC]
theorem xB_crd1 (c : Cl) (a : Arm) (q0 q1 q2 h : Int) : (crd c a 1 q0 q1 q2 h).map xB = crd (xC c) a 0 q0 q1 q2 h:=by
 unfold crd; split <;> simp [xB,xC]
theorem xB_rst (c : Cl) (wh : List Int) (n : Nat) : (rst c wh n).map xB = rst (xC c) wh n:=by
 unfold rst
 rw [List.map_flatMap]
 congr 1
 funext i
 unfold rsI; split <;> simp [xB,xC]
theorem xB_fxt (c : Cl) (n : Nat) : (fxt c n).map xB = fxt (xC c) n:=by
 unfold fxt; rw [Qaz]; rfl
theorem bod_x (c : Cl) (w : Wl) : ((bodies c w).map xB).Perm (bodies (xC c) (xW w)):=by
 unfold bodies
 simp only [Qq,xB_lnk0,xB_lnk1,xB_crd0,xB_crd1,xB_rst,xB_fxt]
 show List.Perm _ (lnk 0 (lks c.b (dd w.q3 w.q4 w.q5))++(lnk 1 (lks c.a (dd w.q0 w.q1 w.q2))++(crd (xC c) c.b 0 w.q3 w.q4 w.q5 w.h1++(crd (xC c) c.a 1 w.q0 w.q1 w.q2 w.h0++(rst (xC c) w.wh w.wh.length++fxt (xC c) c.fx.length)))))
 refine (List.perm_append_comm_assoc ..).trans ?_
 refine List.Perm.append_left _ (List.Perm.append_left _ ?_)
 exact List.perm_append_comm_assoc ..
theorem VC_x {c : Cl} (V : VC c) : VC (xC c):=⟨V.hb,V.ha,V.pl,V.pt,V.bt,V.fl,V.fx,V.ps,V.sh⟩
theorem Pld_x {c : Cl} {w : Wl} (P : Pld c w) : Pld (xC c) (xW w):=⟨P.len,P.at_,P.h1,P.h0⟩
theorem outB_x (b : Bd) : outB (xB b) = outB b:=by unfold xB outB; split <;> rfl
theorem any_x (c : Cl) (w : Wl) : (bodies (xC c) (xW w)).any outB = (bodies c w).any outB:=by
 rw [← (bod_x c w).any_eq,List.any_map]
 congr 1
 exact funext outB_x
theorem FT_x {c : Cl} {w : Wl} (H : FT c w) : FT (xC c) (xW w):=⟨VC_x H.v,Pld_x H.p,by rw [any_x]; exact H.r⟩
theorem plB_x (c : Cl) (w : Wl) : plB (xC c) (xW w) = plB c w:=by
 unfold plB
 show (decide (w.wh.length = c.pt.length) && (!(decide (0≤w.h1) && decide (w.h1 = w.h0)) && (!hdI w.wh c.pt.length w.h1 && (!hdI w.wh c.pt.length w.h0 && !(List.range w.wh.length).any (whI w.wh c.pl.length))))) = _
 have e : (decide (0≤w.h1) && decide (w.h1 = w.h0)) = (decide (0≤w.h0) && decide (w.h0 = w.h1)):=by
  rw [Qa2]; simp only [Qe,decide_eq_true_eq]
  constructor <;> rintro ⟨h1,h2⟩ <;> omega
 rw [e]
 cases hdI w.wh c.pt.length w.h1 <;> cases hdI w.wh c.pt.length w.h0 <;> rfl
theorem vsB_x (c : Cl) (w : Wl) : vsB (xC c) (xW w) = vsB c w:=by
 unfold vsB rngB
 rw [plB_x,any_x]
 show (limB c.b w.q3 w.q4 w.q5 && (limB c.a w.q0 w.q1 w.q2 && _)) = _
 cases limB c.b w.q3 w.q4 w.q5 <;> cases limB c.a w.q0 w.q1 w.q2 <;> rfl
/-! the bodies' relation -/
theorem bod_i {c : Cl} {w : Wl} {b : Bd} (h : b ∈ bodies c w) : (b.k = 1 ∨ b.k = 2) → b.i = 0 ∨ b.i = 1:=by
 intro hk
 rcases bod_mem h with ⟨_,h,_⟩ | ⟨_,_,h⟩ | ⟨h,_⟩ | ⟨h,_⟩
 ·rcases h with ⟨h,_⟩ | ⟨h,_⟩ <;> simp [h]
 ·rcases h with ⟨h,_⟩ | ⟨h,_⟩ <;> simp [h]
 ·omega
 ·omega
theorem xB_k (b : Bd) : (xB b).k = b.k:=by unfold xB; split <;> rfl
theorem xB_j (b : Bd) : (xB b).j = b.j:=by unfold xB; split <;> rfl
theorem xB_ar (b : Bd) : (xB b).ar = b.ar:=by unfold xB; split <;> rfl
theorem bar_x {a b : Bd} (ha : a.k = 1 ∨ a.k = 2 ∨ a.k = 3 ∨ a.k = 4) (hb : b.k = 1 ∨ b.k = 2 ∨ b.k = 3 ∨ b.k = 4) : bar (xB a) (xB b) = bar a b:=by
 unfold bar
 rw [xB_k,xB_k,xB_j,xB_j]
 by_cases h1 : a.k = 1
 ·by_cases h2 : b.k≤2
  ·have e : decide ((xB a).i = (xB b).i) = decide (a.i = b.i):=by
    unfold xB
    rw [if_pos (by omega),if_pos h2]
    simp only [decide_eq_decide]
    constructor <;> intro h <;> omega
   rw [e]
  ·have n1 : ¬ b.k = 1:=by omega
   have n2 : ¬ b.k = 2:=by omega
   simp only [h1,n1,n2,if_true,if_false]
 ·simp only [h1,if_false]
theorem sbar_x {a b : Bd} (ha : a.k = 1 ∨ a.k = 2 ∨ a.k = 3 ∨ a.k = 4) (hb : b.k = 1 ∨ b.k = 2 ∨ b.k = 3 ∨ b.k = 4) : sbar (xB a) (xB b) = sbar a b:=by
 unfold sbar
 rw [xB_k,xB_k,bar_x ha hb,bar_x hb ha]
theorem stch_x {a b : Bd} (ha : a.k = 1 ∨ a.k = 2 ∨ a.k = 3 ∨ a.k = 4) (hb : b.k = 1 ∨ b.k = 2 ∨ b.k = 3 ∨ b.k = 4) : stch (xB a) (xB b) = stch a b:=by
 unfold stch
 rw [sbar_x ha hb,xB_ar,xB_ar]
def Bef (a b : Bd) : Prop:=a.k < b.k ∨ (a.k = b.k∧(a.k = 1 → a.i < b.i ∨ (a.i = b.i∧a.j < b.j)))
theorem bar_bef {a b : Bd} (h : Bef a b) : bar a b = sbar a b:=by
 unfold sbar
 rcases h with h | ⟨h,h2⟩
 ·rw [if_pos h]
 ·have n1 : ¬ a.k < b.k:=by omega
  have n2 : ¬ b.k < a.k:=by omega
  rw [if_neg n1,if_neg n2]
  unfold bar
  by_cases k1 : a.k = 1
  ·have k2 : b.k = 1:=by omega
   simp only [k1,k2,if_true]
   rcases h2 k1 with h3 | ⟨h3,h4⟩
   ·rw [decide_eq_false (show ¬ a.i = b.i by omega)]
    simp only [Qa1,Qam]
   ·rw [decide_eq_true h3,decide_eq_true h3.symm]
    by_cases hj : b.j = 0
    ·rw [decide_eq_false (show ¬ a.j = 2 by omega)]
     simp only [Q1,Qbo,Qaf,Qag]
    ·rw [decide_eq_false hj]
     simp only [Qu,Qaf,Qbo]
  ·have k2 : ¬ b.k = 1:=by omega
   simp only [k1,k2,if_false,h,Bool.or_self]
theorem bod_bef (c : Cl) (w : Wl) : (bodies c w).Pairwise Bef:=by
 have hl : ∀ i L,(lnk i L).Pairwise Bef:=fun i L=>by simp [lnk,Bef]
 have hk : ∀ i L,∀ b ∈ lnk i L,b.k = 1∧b.i = i:=fun i L b hb=>by
  simp only [lnk,Qy,Qce,or_false] at hb
  rcases hb with rfl | rfl | rfl <;> exact ⟨rfl,rfl⟩
 have hc : ∀ a i q0 q1 q2 h,(crd c a i q0 q1 q2 h).Pairwise Bef:=fun a i q0 q1 q2 h=>by unfold crd; split <;> simp
 have hck : ∀ a i q0 q1 q2 h,∀ b ∈ crd c a i q0 q1 q2 h,b.k = 2:=fun a i q0 q1 q2 h b hb=>by
  unfold crd at hb; split at hb
  ·cases hb
  ·rw [Qai] at hb; subst hb; rfl
 have hrk : ∀ b ∈ rst c w.wh w.wh.length,b.k = 3:=fun b hb=>(rst_ki c w.wh _ b hb).1
 have hfk : ∀ b ∈ fxt c c.fx.length,b.k = 4:=fun b hb=>by
  unfold fxt at hb
  obtain ⟨i,hi,rfl⟩:=Qaa.1 hb; rfl
 have pw : ∀ (l : List Bd) (k : Int),k ≠ 1 → (∀ b ∈ l,b.k = k) → l.Pairwise Bef:=fun l k hk h=>by
  rw [List.pairwise_iff_forall_sublist]
  intro a b hab
  have:=hab.subset
  have e1:=h a (this (by simp))
  have e2:=h b (this (by simp))
  exact .inr ⟨by omega,fun e=>absurd e (by omega)⟩
 unfold bodies
 simp only [Qbr,Qm]
 refine ⟨hl _ _,⟨hl _ _,⟨hc _ _ _ _ _ _,⟨hc _ _ _ _ _ _,⟨pw _ 3 (by decide) hrk,pw _ 4 (by decide) hfk,?_⟩,?_⟩,?_⟩,?_⟩,?_⟩
 ·intro a ha b hb; exact .inl (by rw [hrk a ha,hfk b hb]; decide)
 ·intro a ha b hb
  have:=hck _ _ _ _ _ _ a ha
  rcases hb with hb | hb
  ·exact .inl (by rw [this,hrk b hb]; decide)
  ·exact .inl (by rw [this,hfk b hb]; decide)
 ·intro a ha b hb
  have:=hck _ _ _ _ _ _ a ha
  rcases hb with hb | hb | hb
  ·exact .inr ⟨by rw [this,hck _ _ _ _ _ _ b hb],fun e=>absurd e (by omega)⟩
  ·exact .inl (by rw [this,hrk b hb]; decide)
  ·exact .inl (by rw [this,hfk b hb]; decide)
 ·intro a ha b hb
  have:=(hk _ _ a ha).1
  rcases hb with hb | hb | hb | hb
  ·exact .inl (by rw [this,hck _ _ _ _ _ _ b hb]; decide)
  ·exact .inl (by rw [this,hck _ _ _ _ _ _ b hb]; decide)
  ·exact .inl (by rw [this,hrk b hb]; decide)
  ·exact .inl (by rw [this,hfk b hb]; decide)
 ·intro a ha b hb
  have:=(hk _ _ a ha).1
  rcases hb with hb | hb | hb | hb | hb
  ·exact .inr ⟨by rw [this,(hk _ _ b hb).1],fun _=>.inl (by rw [(hk _ _ a ha).2,(hk _ _ b hb).2]; decide)⟩
  ·exact .inl (by rw [this,hck _ _ _ _ _ _ b hb]; decide)
  ·exact .inl (by rw [this,hck _ _ _ _ _ _ b hb]; decide)
  ·exact .inl (by rw [this,hrk b hb]; decide)
  ·exact .inl (by rw [this,hfk b hb]; decide)
theorem pfs_sbar (c : Cl) (w : Wl) : pfs bar (bodies c w) = pf sbar (bodies c w):=by
 rw [pfs_pf]
 exact pf_congr ((bod_bef c w).imp fun h=>bar_bef h)
theorem pfs_stch {c : Cl} {w : Wl} (V : AllV (bodies c w)) : pfs tch (bodies c w) = pf stch (bodies c w):=by
 rw [pfs_pf]
 refine pf_congr (List.Pairwise.imp_of_mem (R:=Bef) (fun {a b} ha hb h=>?_) (bod_bef c w))
 unfold tch stch
 rw [bar_bef h,FC_comm (V b hb) (V a ha),Qc1]
theorem ex_pairs {f : Bd → Bd → Bool} (hs : ∀ a b,f a b = f b a) {c : Cl} {w : Wl} (hx : ∀ a ∈ bodies c w,∀ b ∈ bodies c w,f (xB a) (xB b) = f a b) :
  (pf f (bodies c w)).length = (pf f (bodies (xC c) (xW w))).length ∧ ∀ x y,(x,y) ∈ pf f (bodies c w) → (xB x,xB y) ∈ pf f (bodies (xC c) (xW w)) ∨ (xB y,xB x) ∈ pf f (bodies (xC c) (xW w)):=by
 have e:=pf_map (f:=f) (g:=f) (t:=xB) (l:=bodies c w) hx
 have p:=bod_x c w
 refine ⟨?_,fun x y h=>?_⟩
 ·rw [← pf_perm_len hs p,e,Qb]
 ·refine pf_perm_mem hs p _ _ ?_
  rw [e]
  exact Qaa.2 ⟨(x,y),h,rfl⟩
theorem ex_bar {c : Cl} {w : Wl} (H : FT c w) : (pfs bar (bodies c w)).length = (pfs bar (bodies (xC c) (xW w))).length ∧ ∀ x y,(x,y) ∈ pfs bar (bodies c w) → (xB x,xB y) ∈ pfs bar (bodies (xC c) (xW w)) ∨ (xB y,xB x) ∈ pfs bar (bodies (xC c) (xW w)):=by
 rw [pfs_sbar,pfs_sbar]
 exact ex_pairs sbar_comm fun a ha b hb=>sbar_x (H.kinds.k a ha) (H.kinds.k b hb)
theorem ex_tch {c : Cl} {w : Wl} (H : FT c w) : (pfs tch (bodies c w)).length = (pfs tch (bodies (xC c) (xW w))).length ∧ ∀ x y,(x,y) ∈ pfs tch (bodies c w) → (xB x,xB y) ∈ pfs tch (bodies (xC c) (xW w)) ∨ (xB y,xB x) ∈ pfs tch (bodies (xC c) (xW w)):=by
 rw [pfs_stch H.val,pfs_stch (FT_x H).val]
 exact ex_pairs stch_comm fun a ha b hb=>stch_x (H.kinds.k a ha) (H.kinds.k b hb)
end Go.Proofs.YtbpneedpcccpaaaGreat

namespace Go.Proofs.YtbpneedpcccpaaaGreat
open Go Go.Zv
open Go.Geo (Pt mayB Val valB val_iff FC)
abbrev H5 (l0 l1 m0 m1 : List (Bd × Bd)) : Heap:=[(2816,.box [.vs (m0.map bpc),.vs (m1.map bpc)]),(2818,.row 8 []),(2817,.row 8 []),(2560,.box [.vs (l0.map bpc),.vs (l1.map bpc)]),(2562,.row 8 []),(2561,.row 8 [])]
abbrev H5' (l0 l1 m0 m1 : List (Bd × Bd)) (a b : Bd) : Heap:=[(3840,.box (bdc b)),(3844,.row 2 []),(3584,.box (bdc a)),(3588,.row 2 [])]++H5 l0 l1 m0 m1
def pm5 (a b : Bd) (p : Bd × Bd) : Bool:=(isB p.1 a && isB p.2 b) || (isB p.1 b && isB p.2 a)
abbrev T5 (n i : Int) (met : Bool) (k : Nat) : Env:=[(5,.bool true),(10,.ptr 2560 0),(11,.ptr 2816 0),(12,.int .i64 n),(13,.int .i64 i),(14,.ptr 3584 0),(15,.ptr 3840 0),(16,.bool met),(17,.int .i64 k)]
theorem st5 (l0 l1 m0 m1 : List (Bd × Bd)) (a b : Bd) (n i : Int) (m : List (Bd × Bd)) (hn : (n = 0∧m = m0) ∨ (n = 1∧m = m1)) (hm : m.length≤1000000) (k : Nat) (p : Bd × Bd) (hp : m[k]? = some p) (met : Bool) :
  K E A5_L0 ⟨T5 n i met k,[],H5' l0 l1 m0 m1 a b,0⟩ = K E A5_L0 ⟨T5 n i (met || pm5 a b p) ((k + 1 : Nat)),[],H5' l0 l1 m0 m1 a b,0⟩:=by
 have gp:=get_bp hp
 have hk:=(Qf.1 hp).1
 have h1 : (k : Int) < m.length:=by omega
 have h0 : (0 : Int)≤k:=by omega
 have hw:=Go.Geo.wr_k (k:=k) (by omega)
 obtain ⟨x,y⟩:=p
 have o1:=c28 x a
 have o2:=c28 y b
 have o3:=c28 x b
 have o4:=c28 y a
 unfold pm5
 simp only
 obtain ⟨ak,ai,aj,aa⟩:=a
 obtain ⟨bk,bi,bj,ba⟩:=b
 obtain ⟨xk,xi,xj,xa⟩:=x
 obtain ⟨yk,yi,yj,ya⟩:=y
 simp only [bpc] at gp
 simp only [bdc] at o1 o2 o3 o4
 generalize isB ⟨xk,xi,xj,xa⟩ ⟨ak,ai,aj,aa⟩ = r1 at *
 generalize isB ⟨yk,yi,yj,ya⟩ ⟨bk,bi,bj,ba⟩ = r2 at *
 generalize isB ⟨xk,xi,xj,xa⟩ ⟨bk,bi,bj,ba⟩ = r3 at *
 generalize isB ⟨yk,yi,yj,ya⟩ ⟨ak,ai,aj,aa⟩ = r4 at *
 conv=>lhs; rw [A5_L0_eq]
 rcases hn with ⟨rfl,rfl⟩ | ⟨rfl,rfl⟩
 ·cases met
  ·cases r1
   ·cases r3
    ·simp +contextual -implicitDefEqProofs (maxSteps:=2000000) only [go_sem,A5_L0b,T5,H5,H5',Ql,Qk,Qb,gp,h0,h1,hw,o1,o3]
    ·cases r4
     ·simp +contextual -implicitDefEqProofs (maxSteps:=2000000) only [go_sem,A5_L0b,T5,H5,H5',Ql,Qk,Qb,gp,h0,h1,hw,o1,o3,o4]
     ·simp +contextual -implicitDefEqProofs (maxSteps:=2000000) only [go_sem,A5_L0b,T5,H5,H5',Ql,Qk,Qb,gp,h0,h1,hw,o1,o3,o4]
   ·cases r2
    ·cases r3
     ·simp +contextual -implicitDefEqProofs (maxSteps:=2000000) only [go_sem,A5_L0b,T5,H5,H5',Ql,Qk,Qb,gp,h0,h1,hw,o1,o2,o3]
     ·cases r4
      ·simp +contextual -implicitDefEqProofs (maxSteps:=2000000) only [go_sem,A5_L0b,T5,H5,H5',Ql,Qk,Qb,gp,h0,h1,hw,o1,o2,o3,o4]
      ·simp +contextual -implicitDefEqProofs (maxSteps:=2000000) only [go_sem,A5_L0b,T5,H5,H5',Ql,Qk,Qb,gp,h0,h1,hw,o1,o2,o3,o4]
    ·simp +contextual -implicitDefEqProofs (maxSteps:=2000000) only [go_sem,A5_L0b,T5,H5,H5',Ql,Qk,Qb,gp,h0,h1,hw,o1,o2]
  ·simp +contextual -implicitDefEqProofs (maxSteps:=2000000) only [go_sem,A5_L0b,T5,H5,H5',Ql,Qk,Qb,gp,h0,h1,hw]
 ·cases met
  ·cases r1
   ·cases r3
    ·simp +contextual -implicitDefEqProofs (maxSteps:=2000000) only [go_sem,A5_L0b,T5,H5,H5',Ql,Qk,Qb,gp,h0,h1,hw,o1,o3]
    ·cases r4
     ·simp +contextual -implicitDefEqProofs (maxSteps:=2000000) only [go_sem,A5_L0b,T5,H5,H5',Ql,Qk,Qb,gp,h0,h1,hw,o1,o3,o4]
     ·simp +contextual -implicitDefEqProofs (maxSteps:=2000000) only [go_sem,A5_L0b,T5,H5,H5',Ql,Qk,Qb,gp,h0,h1,hw,o1,o3,o4]
   ·cases r2
    ·cases r3
     ·simp +contextual -implicitDefEqProofs (maxSteps:=2000000) only [go_sem,A5_L0b,T5,H5,H5',Ql,Qk,Qb,gp,h0,h1,hw,o1,o2,o3]
     ·cases r4
      ·simp +contextual -implicitDefEqProofs (maxSteps:=2000000) only [go_sem,A5_L0b,T5,H5,H5',Ql,Qk,Qb,gp,h0,h1,hw,o1,o2,o3,o4]
      ·simp +contextual -implicitDefEqProofs (maxSteps:=2000000) only [go_sem,A5_L0b,T5,H5,H5',Ql,Qk,Qb,gp,h0,h1,hw,o1,o2,o3,o4]
    ·simp +contextual -implicitDefEqProofs (maxSteps:=2000000) only [go_sem,A5_L0b,T5,H5,H5',Ql,Qk,Qb,gp,h0,h1,hw,o1,o2]
  ·simp +contextual -implicitDefEqProofs (maxSteps:=2000000) only [go_sem,A5_L0b,T5,H5,H5',Ql,Qk,Qb,gp,h0,h1,hw]
theorem lp50 (l0 l1 m0 m1 : List (Bd × Bd)) (a b : Bd) (n i : Int) (m : List (Bd × Bd)) (hn : (n = 0∧m = m0) ∨ (n = 1∧m = m1)) (hm : m.length≤1000000) :
  (K E A5_L0 ⟨T5 n i false 0,[],H5' l0 l1 m0 m1 a b,0⟩).bind (blockR 4 (some [5,10,11,12,13,16]) [17,18]) =
   some (.ex .nrm ⟨[(5,.bool true),(10,.ptr 2560 0),(11,.ptr 2816 0),(12,.int .i64 n),(13,.int .i64 i),(16,.bool (m.any (pm5 a b)))],[],H5' l0 l1 m0 m1 a b,0⟩):=by
 have lp:=loop_to (fun S=>(K E A5_L0 S).bind (blockR 4 (some [5,10,11,12,13,16]) [17,18])) (fun k=>⟨T5 n i ((m.take k).any (pm5 a b)) k,[],H5' l0 l1 m0 m1 a b,0⟩) m.length (fun k hk=>by
  have hp : m[k]? = some (m[k]'hk):=Qg _
  have e:=st5 l0 l1 m0 m1 a b n i m hn hm k _ hp ((m.take k).any (pm5 a b))
  show (K E A5_L0 _).bind _ = (K E A5_L0 _).bind _
  rw [e]
  have ht : (m.take (k + 1)).any (pm5 a b) = ((m.take k).any (pm5 a b) || pm5 a b (m[k]'hk)):=by
   rw [Qbn,hp,Qdq]; simp
  rw [ht])
 simp only [Qc5,Qc8,Qbp] at lp
 rw [lp]
 generalize m.any (pm5 a b) = z
 rw [A5_L0_eq]
 rcases hn with ⟨rfl,rfl⟩ | ⟨rfl,rfl⟩
 ·simp +contextual -implicitDefEqProofs (maxSteps:=2000000) only [go_sem,A5_L0b,T5,H5,H5',Ql,Qk,Qb,Qt]
 ·simp +contextual -implicitDefEqProofs (maxSteps:=2000000) only [go_sem,A5_L0b,T5,H5,H5',Ql,Qk,Qb,Qt]
abbrev T5i (n : Int) (i : Nat) : Env:=[(5,.bool true),(10,.ptr 2560 0),(11,.ptr 2816 0),(12,.int .i64 n),(13,.int .i64 i)]
theorem lp51 (l0 l1 m0 m1 : List (Bd × Bd)) (n : Int) (l m : List (Bd × Bd)) (hn : (n = 0∧l = l0∧m = m0) ∨ (n = 1∧l = l1∧m = m1)) (hl : l.length≤1000000) (hm : m.length≤1000000) (hh : ∀ p ∈ l,m.any (pm5 (trn p.1) (trn p.2)) = true) :
  (K E A5_L1 ⟨T5i n 0,[],H5 l0 l1 m0 m1,0⟩).bind (blockR 2 (some [5,10,11,12]) [4,13,14,15,16,17,18,118,126,146,151,158,163]) =
   some (.ex .nrm ⟨[(5,.bool true),(10,.ptr 2560 0),(11,.ptr 2816 0),(12,.int .i64 n)],[],H5 l0 l1 m0 m1,0⟩):=by
 have lp:=loop_to (fun S=>(K E A5_L1 S).bind (blockR 2 (some [5,10,11,12]) [4,13,14,15,16,17,18,118,126,146,151,158,163])) (fun i=>⟨T5i n i,[],H5 l0 l1 m0 m1,0⟩) l.length (fun i hi=>by
  have hp : l[i]? = some (l[i]'hi):=Qg _
  have hany:=hh _ (List.getElem_mem hi)
  generalize l[i]'hi = p at *
  have gp:=get_bp hp
  have h1 : (i : Int) < l.length:=by omega
  have h0 : (0 : Int)≤i:=by omega
  have hw:=Go.Geo.wr_k (k:=i) (by omega)
  obtain ⟨x,y⟩:=p
  have o1:=c27 x
  have o2:=c27 y
  have q:=lp50 l0 l1 m0 m1 (trn x) (trn y) n i m (by rcases hn with ⟨a,_,b⟩ | ⟨a,_,b⟩ <;> simp [a,b]) hm
  simp only at hany
  rw [hany] at q
  clear hany hh
  generalize trn x = a at *
  generalize trn y = b at *
  obtain ⟨ak,ai,aj,aa⟩:=a
  obtain ⟨bk,bi,bj,ba⟩:=b
  obtain ⟨xk,xi,xj,xa⟩:=x
  obtain ⟨yk,yi,yj,ya⟩:=y
  simp only [bpc] at gp
  simp only [bdc] at o1 o2
  simp only [T5,H5,H5',Ql,Qk,Qs,Qz] at q
  show (K E A5_L1 _).bind _ = (K E A5_L1 _).bind _
  conv=>lhs; rw [A5_L1_eq]
  rcases hn with ⟨rfl,rfl,rfl⟩ | ⟨rfl,rfl,rfl⟩
  ·simp +contextual -implicitDefEqProofs (maxSteps:=2000000) only [go_sem,A5_L1b,T5i,H5,Ql,Qk,Qb,gp,h0,h1,hw,o1,o2,q]
  ·simp +contextual -implicitDefEqProofs (maxSteps:=2000000) only [go_sem,A5_L1b,T5i,H5,Ql,Qk,Qb,gp,h0,h1,hw,o1,o2,q])
 rw [lp,A5_L1_eq]
 rcases hn with ⟨rfl,rfl,rfl⟩ | ⟨rfl,rfl,rfl⟩
 ·simp +contextual -implicitDefEqProofs (maxSteps:=2000000) only [go_sem,A5_L1b,T5i,H5,Qb,Qt]
 ·simp +contextual -implicitDefEqProofs (maxSteps:=2000000) only [go_sem,A5_L1b,T5i,H5,Qb,Qt]
theorem lp52 (l0 l1 m0 m1 : List (Bd × Bd)) (e0 : l0.length = m0.length) (e1 : l1.length = m1.length) (hl0 : l0.length≤1000000) (hl1 : l1.length≤1000000) (h0 : ∀ p ∈ l0,m0.any (pm5 (trn p.1) (trn p.2)) = true) (h1 : ∀ p ∈ l1,m1.any (pm5 (trn p.1) (trn p.2)) = true) :
  (K E A5_L2 ⟨[(5,.bool true),(10,.ptr 2560 0),(11,.ptr 2816 0),(12,.int .i64 0)],[],H5 l0 l1 m0 m1,0⟩).bind (blockR 0 (some [5]) [4,12,13,14,15,16,17,18,118,126,146,151,158,163]) =
   some (.ex .nrm ⟨[(5,.bool true)],[],H5 l0 l1 m0 m1,0⟩):=by
 have q0:=lp51 l0 l1 m0 m1 0 l0 m0 (.inl ⟨rfl,rfl,rfl⟩) hl0 (by omega) h0
 have q1:=lp51 l0 l1 m0 m1 1 l1 m1 (.inr ⟨rfl,rfl,rfl⟩) hl1 (by omega) h1
 clear h0 h1
 simp only [T5i,H5,Qs,Qz] at q0 q1
 rw [A5_L2_eq]
 simp +contextual -implicitDefEqProofs (maxSteps:=2000000) only [go_sem,A5_L2b,H5,Qb,e0,e1,q0,bne_self_eq_false]
 rw [A5_L2_eq]
 simp +contextual -implicitDefEqProofs (maxSteps:=2000000) only [go_sem,A5_L2b,H5,Qb,e0,e1,q1,bne_self_eq_false]
 rw [A5_L2_eq]
 simp +contextual -implicitDefEqProofs (maxSteps:=2000000) only [go_sem,A5_L2b,H5]
theorem trn_x {c : Cl} {w : Wl} {b : Bd} (h : b ∈ bodies c w) : trn b = xB b:=by
 unfold trn xB
 have hi:=bod_i h
 by_cases hk : b.k = 1 ∨ b.k = 2
 ·rw [if_pos hk,if_pos (by omega)]
  congr 1
  unfold w64
  rcases hi hk with e | e <;> rw [e] <;> decide
 ·rw [if_neg hk,if_neg]
  rcases bod_mem h with h | h | h | h <;> omega
theorem isB_refl (a : Bd) : isB a a = true:=by simp [isB]
theorem any5 {l m : List (Bd × Bd)} {c : Cl} {w : Wl} (hm : ∀ p ∈ l,p.1 ∈ bodies c w∧p.2 ∈ bodies c w) (h : ∀ x y,(x,y) ∈ l → (xB x,xB y) ∈ m ∨ (xB y,xB x) ∈ m) : ∀ p ∈ l,m.any (pm5 (trn p.1) (trn p.2)) = true:=by
 intro p hp
 obtain ⟨h1,h2⟩:=hm p hp
 rw [trn_x h1,trn_x h2,Qas]
 obtain ⟨x,y⟩:=p
 rcases h x y hp with h | h
 ·exact ⟨_,h,by simp [pm5,isB_refl]⟩
 ·exact ⟨_,h,by simp [pm5,isB_refl]⟩
theorem law5 (c : Cl) (x : Raw) (hd : pc E 10 [] = some (.bool true)) (X : RawOK x) : pc E 5 [.agg (cec c.cel),.agg (rawc x)] = some (.bool true):=by
 have k5:=c15 c x X
 cases h1 : fitB c x with
 | false =>
   rw [h1] at k5
   split at k5
   ·rw [pc_eq]; simp +contextual -implicitDefEqProofs (maxSteps:=2000000) only [go_sem,E_5,A5,hd,k5]
   ·rw [pc_eq]; simp +contextual -implicitDefEqProofs (maxSteps:=2000000) only [go_sem,E_5,A5,hd,k5]
 | true =>
   have F:=fit_FT h1
   have hv : vsB c (wld c x) = true:=by unfold fitB at h1; simp only [Qe] at h1; exact h1.2.2
   rw [h1,if_neg (by unfold fitB at h1; simp only [Qe,Qar] at h1; rw [h1.1,h1.2.1]; simp)] at k5
   generalize wld c x = w at *
   have G:=FT_x F
   have k9:=c19 c w F.v.fin F.p F.kinds F.len
   have k11:=c21 c w F.v.fin F.p F.kinds F.len
   have k13:=c23 c w F.v.fin F.p F.kinds F.len
   have k4:=c13v (xC c) (xW w) G.v
   rw [vsB_x,hv] at k4
   have j9:=c19 (xC c) (xW w) G.v.fin G.p G.kinds G.len
   have j11:=c21 (xC c) (xW w) G.v.fin G.p G.kinds G.len
   have j13:=c23 (xC c) (xW w) G.v.fin G.p G.kinds G.len
   obtain ⟨n1,n2⟩:=ex_bar F
   obtain ⟨n3,n4⟩:=ex_tch F
   have ln : ∀ f,(pfs f (bodies c w)).length≤1000000:=fun f=>by
    have h1:=pfN_len f (bodies c w) (bodies c w).length
    have h2:=F.len
    have h3 : (bodies c w).length * (bodies c w).length≤900 * 900:=Qcg h2 h2
    unfold pfs; omega
   have mem : ∀ p ∈ prs (bodies c w),p.1 ∈ bodies c w∧p.2 ∈ bodies c w:=fun p hp=>prs_mem hp
   have lp:=lp52 (pfs bar (bodies c w)) (pfs tch (bodies c w)) (pfs bar (bodies (xC c) (xW w))) (pfs tch (bodies (xC c) (xW w))) n1 n3 (ln _) (ln _)
    (any5 (fun p hp=>mem p (by rw [pfs_bar] at hp; exact hp)) n2) (any5 (fun p hp=>mem p (by rw [pfs_tch] at hp; exact (Qx.1 hp).1)) n4)
   have ez : decide (pfs tch (bodies (xC c) (xW w)) = []) = decide (pfs tch (bodies c w) = []):=by
    rw [decide_eq_decide,List.eq_nil_iff_length_eq_zero,List.eq_nil_iff_length_eq_zero,n3]
   rw [ez] at j13
   simp only [H5] at lp
   clear n1 n2 n3 n4 ez mem ln
   generalize decide (pfs tch (bodies c w) = []) = z at *
   generalize pfs tch (bodies c w) = l1 at *
   generalize pfs bar (bodies c w) = l0 at *
   generalize pfs tch (bodies (xC c) (xW w)) = m1 at *
   generalize pfs bar (bodies (xC c) (xW w)) = m0 at *
   simp only [xC,xW,Cl.cel] at k4 j9 j11 j13
   rw [pc_eq]; simp +contextual -implicitDefEqProofs (maxSteps:=2000000) only [go_sem,E_5,A5,hd,k5,k9,k11,k13,k4,j9,j11,j13,lp,Qb,bne_self_eq_false,beq_self_eq_true]
end Go.Proofs.YtbpneedpcccpaaaGreat

namespace Go.Proofs.YtbpneedpcccpaaaGreat
open Go Go.Zv
abbrev hC : LV:=.agg [.int .i64 (-87880000),.int .i64 0,.int .i64 10,.int .i64 8,.int .i64 4,.int .i64 1,.int .i64 (-17),.int .i64 (-17),.int .i64 (-17),.int .i64 18,.int .i64 18,.int .i64 18,.int .i64 87880000,.int .i64 0,.int .i64 10,.int .i64 8,.int .i64 4,.int .i64 1,.int .i64 (-17),.int .i64 (-17),.int .i64 (-17),.int .i64 18,.int .i64 18,.int .i64 18,.int .i64 9,.int .i64 0,.int .i64 0,.int .i64 9,.int .i64 0,.int .i64 0,.vs [[.vs [[.int .i64 (-4394000),.int .i64 (-4394000)],[.int .i64 4394000,.int .i64 (-4394000)],[.int .i64 4394000,.int .i64 4394000],[.int .i64 (-4394000),.int .i64 4394000]]]],.vs [[.str [108,101,102,116],.int .i64 (-87880000),.int .i64 52728000,.int .i64 274625,.int .i64 0,.int .i64 3],[.str [109,105,100],.int .i64 0,.int .i64 52728000,.int .i64 0,.int .i64 274625,.int .i64 3]],.vs [[.str [99,97,112],.vs [[.int .i64 0,.int .i64 0],[.int .i64 2,.int .i64 0],[.int .i64 2,.int .i64 1],[.int .i64 0,.int .i64 1]],.int .i64 1]],.vs [[.int .i64 0],[.int .i64 1]],.int .i64 30,.int .i64 6,.int .i64 2,.int .i64 1,.int .i64 4,.int .i64 2,.int .i64 1,.vs [[.vs [[.int .i64 (-131820000),.int .i64 (-131820000)],[.int .i64 (-109850000),.int .i64 (-131820000)],[.int .i64 (-109850000),.int .i64 (-87880000)]]]],.int .i64 2,.int .i64 1]
abbrev hW : LV:=.agg [.int .i64 9,.int .i64 0,.int .i64 0,.int .i64 9,.int .i64 0,.int .i64 0,.int .i64 (-1),.int .i64 (-1),.vs [[.int .i64 1]]]
abbrev hU : LV:=.agg [.int .i64 0,.int .i64 0,.int .i64 0,.int .i64 9,.int .i64 0,.int .i64 0,.int .i64 (-1),.int .i64 (-1),.vs [[.int .i64 1]]]
abbrev hV : LV:=.agg [.int .i64 9,.int .i64 0,.int .i64 0,.int .i64 9,.int .i64 0,.int .i64 0,.int .i64 (-1),.int .i64 (-1),.vs []]
theorem c33 : pc E 33 [] = some hC:=by
 refine pc_of_run 100 ?_
 kernel_rfl
theorem c34 : pc E 34 [hC] = some hW:=by
 refine pc_of_run 100 ?_
 kernel_rfl
theorem h16 : pc E 16 [hC,hW] = some (.vs [[.int .i64 1,.int .i64 0,.int .i64 0,.vs [[.int .i64 (-83486000),.int .i64 0],[.int .i64 (-83486000),.int .i64 43940000],[.int .i64 (-92274000),.int .i64 43940000],[.int .i64 (-92274000),.int .i64 0]]],[.int .i64 1,.int .i64 0,.int .i64 1,.vs [[.int .i64 (-83486000),.int .i64 43940000],[.int .i64 (-83486000),.int .i64 79092000],[.int .i64 (-92274000),.int .i64 79092000],[.int .i64 (-92274000),.int .i64 43940000]]],[.int .i64 1,.int .i64 0,.int .i64 2,.vs [[.int .i64 (-83486000),.int .i64 79092000],[.int .i64 (-83486000),.int .i64 96668000],[.int .i64 (-92274000),.int .i64 96668000],[.int .i64 (-92274000),.int .i64 79092000]]],[.int .i64 1,.int .i64 1,.int .i64 0,.vs [[.int .i64 92274000,.int .i64 0],[.int .i64 92274000,.int .i64 43940000],[.int .i64 83486000,.int .i64 43940000],[.int .i64 83486000,.int .i64 0]]],[.int .i64 1,.int .i64 1,.int .i64 1,.vs [[.int .i64 92274000,.int .i64 43940000],[.int .i64 92274000,.int .i64 79092000],[.int .i64 83486000,.int .i64 79092000],[.int .i64 83486000,.int .i64 43940000]]],[.int .i64 1,.int .i64 1,.int .i64 2,.vs [[.int .i64 92274000,.int .i64 79092000],[.int .i64 92274000,.int .i64 96668000],[.int .i64 83486000,.int .i64 96668000],[.int .i64 83486000,.int .i64 79092000]]],[.int .i64 3,.int .i64 0,.int .i64 0,.vs [[.int .i64 0,.int .i64 52728000],[.int .i64 0,.int .i64 61516000],[.int .i64 (-4394000),.int .i64 61516000],[.int .i64 (-4394000),.int .i64 52728000]]],[.int .i64 4,.int .i64 0,.int .i64 0,.vs [[.int .i64 (-4394000),.int .i64 (-4394000)],[.int .i64 4394000,.int .i64 (-4394000)],[.int .i64 4394000,.int .i64 4394000],[.int .i64 (-4394000),.int .i64 4394000]]]]):=by
 refine pc_of_run 200 ?_
 kernel_rfl
theorem h19 : pc E 19 [hC,hW] = some (.vs [[.int .i64 1,.int .i64 0,.int .i64 0,.vs [[.int .i64 (-83486000),.int .i64 0],[.int .i64 (-83486000),.int .i64 43940000],[.int .i64 (-92274000),.int .i64 43940000],[.int .i64 (-92274000),.int .i64 0]],.int .i64 1,.int .i64 0,.int .i64 2,.vs [[.int .i64 (-83486000),.int .i64 79092000],[.int .i64 (-83486000),.int .i64 96668000],[.int .i64 (-92274000),.int .i64 96668000],[.int .i64 (-92274000),.int .i64 79092000]]],[.int .i64 1,.int .i64 0,.int .i64 0,.vs [[.int .i64 (-83486000),.int .i64 0],[.int .i64 (-83486000),.int .i64 43940000],[.int .i64 (-92274000),.int .i64 43940000],[.int .i64 (-92274000),.int .i64 0]],.int .i64 1,.int .i64 1,.int .i64 0,.vs [[.int .i64 92274000,.int .i64 0],[.int .i64 92274000,.int .i64 43940000],[.int .i64 83486000,.int .i64 43940000],[.int .i64 83486000,.int .i64 0]]],[.int .i64 1,.int .i64 0,.int .i64 0,.vs [[.int .i64 (-83486000),.int .i64 0],[.int .i64 (-83486000),.int .i64 43940000],[.int .i64 (-92274000),.int .i64 43940000],[.int .i64 (-92274000),.int .i64 0]],.int .i64 1,.int .i64 1,.int .i64 1,.vs [[.int .i64 92274000,.int .i64 43940000],[.int .i64 92274000,.int .i64 79092000],[.int .i64 83486000,.int .i64 79092000],[.int .i64 83486000,.int .i64 43940000]]],[.int .i64 1,.int .i64 0,.int .i64 0,.vs [[.int .i64 (-83486000),.int .i64 0],[.int .i64 (-83486000),.int .i64 43940000],[.int .i64 (-92274000),.int .i64 43940000],[.int .i64 (-92274000),.int .i64 0]],.int .i64 1,.int .i64 1,.int .i64 2,.vs [[.int .i64 92274000,.int .i64 79092000],[.int .i64 92274000,.int .i64 96668000],[.int .i64 83486000,.int .i64 96668000],[.int .i64 83486000,.int .i64 79092000]]],[.int .i64 1,.int .i64 0,.int .i64 0,.vs [[.int .i64 (-83486000),.int .i64 0],[.int .i64 (-83486000),.int .i64 43940000],[.int .i64 (-92274000),.int .i64 43940000],[.int .i64 (-92274000),.int .i64 0]],.int .i64 3,.int .i64 0,.int .i64 0,.vs [[.int .i64 0,.int .i64 52728000],[.int .i64 0,.int .i64 61516000],[.int .i64 (-4394000),.int .i64 61516000],[.int .i64 (-4394000),.int .i64 52728000]]],[.int .i64 1,.int .i64 0,.int .i64 0,.vs [[.int .i64 (-83486000),.int .i64 0],[.int .i64 (-83486000),.int .i64 43940000],[.int .i64 (-92274000),.int .i64 43940000],[.int .i64 (-92274000),.int .i64 0]],.int .i64 4,.int .i64 0,.int .i64 0,.vs [[.int .i64 (-4394000),.int .i64 (-4394000)],[.int .i64 4394000,.int .i64 (-4394000)],[.int .i64 4394000,.int .i64 4394000],[.int .i64 (-4394000),.int .i64 4394000]]],[.int .i64 1,.int .i64 0,.int .i64 1,.vs [[.int .i64 (-83486000),.int .i64 43940000],[.int .i64 (-83486000),.int .i64 79092000],[.int .i64 (-92274000),.int .i64 79092000],[.int .i64 (-92274000),.int .i64 43940000]],.int .i64 1,.int .i64 1,.int .i64 0,.vs [[.int .i64 92274000,.int .i64 0],[.int .i64 92274000,.int .i64 43940000],[.int .i64 83486000,.int .i64 43940000],[.int .i64 83486000,.int .i64 0]]],[.int .i64 1,.int .i64 0,.int .i64 1,.vs [[.int .i64 (-83486000),.int .i64 43940000],[.int .i64 (-83486000),.int .i64 79092000],[.int .i64 (-92274000),.int .i64 79092000],[.int .i64 (-92274000),.int .i64 43940000]],.int .i64 1,.int .i64 1,.int .i64 1,.vs [[.int .i64 92274000,.int .i64 43940000],[.int .i64 92274000,.int .i64 79092000],[.int .i64 83486000,.int .i64 79092000],[.int .i64 83486000,.int .i64 43940000]]],[.int .i64 1,.int .i64 0,.int .i64 1,.vs [[.int .i64 (-83486000),.int .i64 43940000],[.int .i64 (-83486000),.int .i64 79092000],[.int .i64 (-92274000),.int .i64 79092000],[.int .i64 (-92274000),.int .i64 43940000]],.int .i64 1,.int .i64 1,.int .i64 2,.vs [[.int .i64 92274000,.int .i64 79092000],[.int .i64 92274000,.int .i64 96668000],[.int .i64 83486000,.int .i64 96668000],[.int .i64 83486000,.int .i64 79092000]]],[.int .i64 1,.int .i64 0,.int .i64 1,.vs [[.int .i64 (-83486000),.int .i64 43940000],[.int .i64 (-83486000),.int .i64 79092000],[.int .i64 (-92274000),.int .i64 79092000],[.int .i64 (-92274000),.int .i64 43940000]],.int .i64 3,.int .i64 0,.int .i64 0,.vs [[.int .i64 0,.int .i64 52728000],[.int .i64 0,.int .i64 61516000],[.int .i64 (-4394000),.int .i64 61516000],[.int .i64 (-4394000),.int .i64 52728000]]],[.int .i64 1,.int .i64 0,.int .i64 1,.vs [[.int .i64 (-83486000),.int .i64 43940000],[.int .i64 (-83486000),.int .i64 79092000],[.int .i64 (-92274000),.int .i64 79092000],[.int .i64 (-92274000),.int .i64 43940000]],.int .i64 4,.int .i64 0,.int .i64 0,.vs [[.int .i64 (-4394000),.int .i64 (-4394000)],[.int .i64 4394000,.int .i64 (-4394000)],[.int .i64 4394000,.int .i64 4394000],[.int .i64 (-4394000),.int .i64 4394000]]],[.int .i64 1,.int .i64 0,.int .i64 2,.vs [[.int .i64 (-83486000),.int .i64 79092000],[.int .i64 (-83486000),.int .i64 96668000],[.int .i64 (-92274000),.int .i64 96668000],[.int .i64 (-92274000),.int .i64 79092000]],.int .i64 1,.int .i64 1,.int .i64 0,.vs [[.int .i64 92274000,.int .i64 0],[.int .i64 92274000,.int .i64 43940000],[.int .i64 83486000,.int .i64 43940000],[.int .i64 83486000,.int .i64 0]]],[.int .i64 1,.int .i64 0,.int .i64 2,.vs [[.int .i64 (-83486000),.int .i64 79092000],[.int .i64 (-83486000),.int .i64 96668000],[.int .i64 (-92274000),.int .i64 96668000],[.int .i64 (-92274000),.int .i64 79092000]],.int .i64 1,.int .i64 1,.int .i64 1,.vs [[.int .i64 92274000,.int .i64 43940000],[.int .i64 92274000,.int .i64 79092000],[.int .i64 83486000,.int .i64 79092000],[.int .i64 83486000,.int .i64 43940000]]],[.int .i64 1,.int .i64 0,.int .i64 2,.vs [[.int .i64 (-83486000),.int .i64 79092000],[.int .i64 (-83486000),.int .i64 96668000],[.int .i64 (-92274000),.int .i64 96668000],[.int .i64 (-92274000),.int .i64 79092000]],.int .i64 1,.int .i64 1,.int .i64 2,.vs [[.int .i64 92274000,.int .i64 79092000],[.int .i64 92274000,.int .i64 96668000],[.int .i64 83486000,.int .i64 96668000],[.int .i64 83486000,.int .i64 79092000]]],[.int .i64 1,.int .i64 0,.int .i64 2,.vs [[.int .i64 (-83486000),.int .i64 79092000],[.int .i64 (-83486000),.int .i64 96668000],[.int .i64 (-92274000),.int .i64 96668000],[.int .i64 (-92274000),.int .i64 79092000]],.int .i64 4,.int .i64 0,.int .i64 0,.vs [[.int .i64 (-4394000),.int .i64 (-4394000)],[.int .i64 4394000,.int .i64 (-4394000)],[.int .i64 4394000,.int .i64 4394000],[.int .i64 (-4394000),.int .i64 4394000]]],[.int .i64 1,.int .i64 1,.int .i64 0,.vs [[.int .i64 92274000,.int .i64 0],[.int .i64 92274000,.int .i64 43940000],[.int .i64 83486000,.int .i64 43940000],[.int .i64 83486000,.int .i64 0]],.int .i64 1,.int .i64 1,.int .i64 2,.vs [[.int .i64 92274000,.int .i64 79092000],[.int .i64 92274000,.int .i64 96668000],[.int .i64 83486000,.int .i64 96668000],[.int .i64 83486000,.int .i64 79092000]]],[.int .i64 1,.int .i64 1,.int .i64 0,.vs [[.int .i64 92274000,.int .i64 0],[.int .i64 92274000,.int .i64 43940000],[.int .i64 83486000,.int .i64 43940000],[.int .i64 83486000,.int .i64 0]],.int .i64 3,.int .i64 0,.int .i64 0,.vs [[.int .i64 0,.int .i64 52728000],[.int .i64 0,.int .i64 61516000],[.int .i64 (-4394000),.int .i64 61516000],[.int .i64 (-4394000),.int .i64 52728000]]],[.int .i64 1,.int .i64 1,.int .i64 0,.vs [[.int .i64 92274000,.int .i64 0],[.int .i64 92274000,.int .i64 43940000],[.int .i64 83486000,.int .i64 43940000],[.int .i64 83486000,.int .i64 0]],.int .i64 4,.int .i64 0,.int .i64 0,.vs [[.int .i64 (-4394000),.int .i64 (-4394000)],[.int .i64 4394000,.int .i64 (-4394000)],[.int .i64 4394000,.int .i64 4394000],[.int .i64 (-4394000),.int .i64 4394000]]],[.int .i64 1,.int .i64 1,.int .i64 1,.vs [[.int .i64 92274000,.int .i64 43940000],[.int .i64 92274000,.int .i64 79092000],[.int .i64 83486000,.int .i64 79092000],[.int .i64 83486000,.int .i64 43940000]],.int .i64 3,.int .i64 0,.int .i64 0,.vs [[.int .i64 0,.int .i64 52728000],[.int .i64 0,.int .i64 61516000],[.int .i64 (-4394000),.int .i64 61516000],[.int .i64 (-4394000),.int .i64 52728000]]],[.int .i64 1,.int .i64 1,.int .i64 1,.vs [[.int .i64 92274000,.int .i64 43940000],[.int .i64 92274000,.int .i64 79092000],[.int .i64 83486000,.int .i64 79092000],[.int .i64 83486000,.int .i64 43940000]],.int .i64 4,.int .i64 0,.int .i64 0,.vs [[.int .i64 (-4394000),.int .i64 (-4394000)],[.int .i64 4394000,.int .i64 (-4394000)],[.int .i64 4394000,.int .i64 4394000],[.int .i64 (-4394000),.int .i64 4394000]]],[.int .i64 1,.int .i64 1,.int .i64 2,.vs [[.int .i64 92274000,.int .i64 79092000],[.int .i64 92274000,.int .i64 96668000],[.int .i64 83486000,.int .i64 96668000],[.int .i64 83486000,.int .i64 79092000]],.int .i64 4,.int .i64 0,.int .i64 0,.vs [[.int .i64 (-4394000),.int .i64 (-4394000)],[.int .i64 4394000,.int .i64 (-4394000)],[.int .i64 4394000,.int .i64 4394000],[.int .i64 (-4394000),.int .i64 4394000]]]]):=by
 refine pc_of_run 200 ?_
 kernel_rfl
theorem h13w : pc E 13 [hC,hW] = some (.bool true):=by
 refine pc_of_run 200 ?_
 kernel_rfl
theorem h13v : pc E 13 [hC,hV] = some (.bool false):=by
 refine pc_of_run 200 ?_
 kernel_rfl
end Go.Proofs.YtbpneedpcccpaaaGreat

namespace Go.Proofs.YtbpneedpcccpaaaGreat
open Go Go.Zv
theorem g1 : pc E 28 [.agg [.int .i64 1,.int .i64 0,.int .i64 2,.vs [[.int .i64 (-8788000),.int .i64 (-4394000)],[.int .i64 8788000,.int .i64 (-4394000)],[.int .i64 8788000,.int .i64 4394000],[.int .i64 (-8788000),.int .i64 4394000]]],.agg [.int .i64 1,.int .i64 0,.int .i64 2,.vs []]] = some (.bool true):=by
 refine pc_of_run 60 ?_
 kernel_rfl
theorem g2 : pc E 28 [.agg [.int .i64 4,.int .i64 0,.int .i64 0,.vs [[.int .i64 (-4394000),.int .i64 (-4394000)],[.int .i64 4394000,.int .i64 (-4394000)],[.int .i64 4394000,.int .i64 4394000],[.int .i64 (-4394000),.int .i64 4394000]]],.agg [.int .i64 4,.int .i64 0,.int .i64 0,.vs []]] = some (.bool true):=by
 refine pc_of_run 60 ?_
 kernel_rfl
theorem g3 : pc E 28 [.agg [.int .i64 1,.int .i64 0,.int .i64 0,.vs [[.int .i64 (-83486000),.int .i64 0],[.int .i64 (-83486000),.int .i64 43940000],[.int .i64 (-92274000),.int .i64 43940000],[.int .i64 (-92274000),.int .i64 0]]],.agg [.int .i64 1,.int .i64 0,.int .i64 0,.vs []]] = some (.bool true):=by
 refine pc_of_run 60 ?_
 kernel_rfl
theorem g4 : pc E 28 [.agg [.int .i64 1,.int .i64 0,.int .i64 2,.vs [[.int .i64 (-83486000),.int .i64 79092000],[.int .i64 (-83486000),.int .i64 96668000],[.int .i64 (-92274000),.int .i64 96668000],[.int .i64 (-92274000),.int .i64 79092000]]],.agg [.int .i64 1,.int .i64 0,.int .i64 2,.vs []]] = some (.bool true):=by
 refine pc_of_run 60 ?_
 kernel_rfl
end Go.Proofs.YtbpneedpcccpaaaGreat

namespace Go.Proofs.YtbpneedpcccpaaaGreat
open Go Go.Zv
open Go.Geo (Pt mayB Val FC valB val_iff cvxB isepB)
def hc : Cl:={ a:=⟨-87880000,0,10,8,4,1,-17,-17,-17,18,18,18⟩,b:=⟨87880000,0,10,8,4,1,-17,-17,-17,18,18,18⟩,h0:=9,h1:=0,h2:=0,h3:=9,h4:=0,h5:=0,fx:=[[(-4394000,-4394000),(4394000,-4394000),(4394000,4394000),(-4394000,4394000)]],pl:=[⟨[108,101,102,116],-87880000,52728000,274625,0,3⟩,⟨[109,105,100],0,52728000,0,274625,3⟩],pt:=[⟨[99,97,112],[(0,0),(2,0),(2,1),(0,1)],1⟩],bt:=[0,1],per:=30,lv:=6,la:=2,lj:=1,mv:=4,ma:=2,mj:=1,zn:=[[(-131820000,-131820000),(-109850000,-131820000),(-109850000,-87880000)]],gap:=2,slow:=1 }
def hw : Wl:=⟨9,0,0,9,0,0,-1,-1,[1]⟩
def hu : Wl:=⟨0,0,0,9,0,0,-1,-1,[1]⟩
theorem e_c : LV.agg (cec hc.cel) = hC:=by rfl
theorem e_w : LV.agg (wlc hw) = hW:=by rfl
theorem e_u : LV.agg (wlc hu) = hU:=by rfl
theorem v_c : VC hc:=by
 refine ⟨?_,?_,by decide,by decide,by decide,by decide,?_,?_,?_⟩
 ·constructor <;> simp [hc]
 ·constructor <;> simp [hc]
 ·intro p hp
  simp only [hc,Qai] at hp
  subst hp
  rw [← val_iff]; kernel_rfl
 ·intro p hp
  simp only [hc,Qy,Qce,or_false] at hp
  rcases hp with rfl | rfl <;> kernel_rfl
 ·intro p hp
  simp only [hc,Qai] at hp
  subst hp
  kernel_rfl
theorem f_w : FT hc hw:=⟨v_c,plB_Pld (by kernel_rfl),by kernel_rfl⟩
theorem f_u : FT hc hu:=⟨v_c,plB_Pld (by kernel_rfl),by kernel_rfl⟩
def sB (a b : List Pt) : Bool:=cvxB a && (cvxB b && ((List.range a.length).any (fun i=>isepB a b 0 i) || (List.range b.length).any (fun i=>isepB a b 1 i)))
theorem sB_no {a b : List Pt} (A : Val a) (B : Val b) (h : sB a b = true) : (FC a b).isSome = false:=by
 unfold sB at h
 simp only [Qe,Qat,Qas,Qn] at h
 obtain ⟨h1,h2,⟨i,_,h3⟩ | ⟨i,_,h3⟩⟩:=h
 ·exact (Go.Geo.isep_no A B (fun _=>h1) (fun _=>h2) h3).1
 ·exact (Go.Geo.isep_no A B (fun _=>h1) (fun _=>h2) h3).1
theorem hit_sep {l : List Bd} (V : AllV l) : pfs tch l = ((prs l).filter fun p=>!sB p.1.ar p.2.ar).filter hitP:=by
 rw [pfs_tch,List.filter_filter]
 refine Qcn fun p hp=>?_
 have m:=prs_mem hp
 cases h : sB p.1.ar p.2.ar with
 | true=>simp [hitP,sB_no (V _ m.1) (V _ m.2) h]
 | false=>simp
theorem n_w : ((prs (bodies hc hw)).filter fun p=>!sB p.1.ar p.2.ar) = []:=by kernel_rfl
theorem t_w : pfs tch (bodies hc hw) = []:=by rw [hit_sep f_w.val,n_w]; rfl
def pA : List Pt:=[(-8788000,-4394000),(8788000,-4394000),(8788000,4394000),(-8788000,4394000)]
def pB : List Pt:=[(-4394000,-4394000),(4394000,-4394000),(4394000,4394000),(-4394000,4394000)]
theorem n_u : ((prs (bodies hc hu)).filter fun p=>!sB p.1.ar p.2.ar) = [(⟨1,0,2,pA⟩,⟨4,0,0,pB⟩)]:=by kernel_rfl
theorem r_u : pc E 57 [.vs (pA.map Go.Geo.c2),.vs (pB.map Go.Geo.c2)] = some (.bool true):=by
 refine pc_of_run 200 ?_
 kernel_rfl
theorem h_u : (FC pA pB).isSome = true:=by
 have h:=Go.Proofs.YtbpneedpcccpaaaGreat.G.c57 pA pB (by decide) (by decide)
 rw [r_u] at h
 exact (LV.bool.inj (Option.some.inj h)).symm
theorem t_u : pfs tch (bodies hc hu) = [(⟨1,0,2,pA⟩,⟨4,0,0,pB⟩)]:=by
 rw [hit_sep f_u.val,n_u]
 have : hitP (⟨1,0,2,pA⟩,⟨4,0,0,pB⟩) = true:=h_u
 rw [Qcz this]; rfl
theorem h21 : pc E 21 [hC,hU] = some (.vs [bpc (⟨1,0,2,pA⟩,⟨4,0,0,pB⟩)]):=by
 have h:=c21 hc hu v_c.fin f_u.p f_u.kinds f_u.len
 rw [t_u,e_c,e_u] at h
 exact h
theorem h23w : pc E 23 [hC,hW] = some (.bool true):=by
 have h:=c23 hc hw v_c.fin f_w.p f_w.kinds f_w.len
 rw [t_w,e_c,e_w] at h
 exact h
theorem h23u : pc E 23 [hC,hU] = some (.bool false):=by
 have h:=c23 hc hu v_c.fin f_u.p f_u.kinds f_u.len
 rw [t_u,e_c,e_u,decide_eq_false (by simp)] at h
 exact h
theorem c10 : pc E 10 [] = some (.bool true):=by
 have s1:=h16
 have s2:=h19
 have s3:=h13w
 have s4:=h13v
 have s5:=h21
 have s6:=h23w
 have s7:=h23u
 simp only [pA,pB,Qp,Qad,Go.Geo.c2] at s5
 rw [pc_eq]; simp +contextual -implicitDefEqProofs (maxSteps:=2000000) only [go_sem,E_10,A10,c33,c34,s1,s2,s3,s4,s5,s6,s7,g1,g2,g3,g4,pA,pB,Go.Geo.c2,Qp,Qad]
end Go.Proofs.YtbpneedpcccpaaaGreat

namespace Go.Proofs.YtbpneedpcccpaaaGreat
open Go Go.Zv
open Go.Geo (Pt mayB Val FC)
end Go.Proofs.YtbpneedpcccpaaaGreat
