/- Part of the proof: the evaluation of the program's code and its tie to the machine, or what functions of the program compute over it. -/
import Derived.Test.YtbpneedpcccpaaaGreatCKRQ
import Derived.Test.YtbpneedpcccpaaaGreatPart2
set_option maxRecDepth 100000
set_option maxHeartbeats 4000000
set_option linter.unusedSimpArgs false
set_option linter.unusedVariables false
namespace Go.Proofs.YtbpneedpcccpaaaGreat
open Go Go.Zv
def tPt : Ty:=.cat [.int .i64,.int .i64]
def tPol : Ty:=.slice tPt
def tPlc : Ty:=.cat [.str,tPt,t3]
def tPrt : Ty:=.cat [.str,tPol,.int .i64]
def tCell : Ty:=.cat [.cat [tArm,tArm],.cat [t3,t3],.slice tPol,.slice tPlc,.slice tPrt,.slice (.int .i64),.int .i64,t3,t3,.slice (.cat [tPol]),.int .i64,.int .i64]
def tPos : Ty:=.cat [t3,t3]
def tS3 : Ty:=.cat [.int .i16,.int .i16,.int .i16]
theorem has_map {α : Type} {f : α → List LV} : ∀ {xs : List (List LV)},(∀ x ∈ xs,∃ q,x = f q) → ∃ l : List α,xs = l.map f
 | [],_=>⟨[],rfl⟩
 | x::xs,h=>by
   obtain ⟨q,rfl⟩:=h x (by simp)
   obtain ⟨l,rfl⟩:=has_map (xs:=xs) fun y hy=>h y (by simp [hy])
   exact ⟨q::l,rfl⟩
theorem has_pt {x : List LV} (h : Has tPt x) : ∃ p : Go.Geo.Pt,x = Go.Geo.c2 p:=by
 obtain ⟨_,_,rfl,⟨a,rfl,_⟩,_,_,rfl,⟨b,rfl,_⟩,rfl⟩:=h
 exact ⟨(a,b),rfl⟩
theorem has_pol {x : List LV} (h : Has tPol x) : ∃ l : List Go.Geo.Pt,x = [.vs (l.map Go.Geo.c2)]:=by
 obtain ⟨xs,rfl,_,h⟩:=h
 obtain ⟨l,rfl⟩:=has_map fun y hy=>has_pt (h y hy)
 exact ⟨l,rfl⟩
theorem has_zon {x : List LV} (h : Has (.cat [tPol]) x) : ∃ l : List Go.Geo.Pt,x = [.vs (l.map Go.Geo.c2)]:=by
 obtain ⟨_,_,rfl,h,rfl⟩:=h
 obtain ⟨l,rfl⟩:=has_pol h
 exact ⟨l,rfl⟩
theorem has_plc {x : List LV} (h : Has tPlc x) : ∃ p : Go.Geo.Plc,x = Go.Geo.plv p:=by
 obtain ⟨_,_,rfl,⟨s,rfl,_⟩,_,_,rfl,h2,_,_,rfl,h3,rfl⟩:=h
 obtain ⟨⟨a,b⟩,rfl⟩:=has_pt h2
 obtain ⟨c,d,e,rfl⟩:=has_3 h3
 exact ⟨⟨s,a,b,c,d,e⟩,rfl⟩
theorem has_prt {x : List LV} (h : Has tPrt x) : ∃ p : Go.Geo.Prt,x = Go.Geo.prv p:=by
 obtain ⟨_,_,rfl,⟨s,rfl,_⟩,_,_,rfl,h2,_,_,rfl,⟨n,rfl,_⟩,rfl⟩:=h
 obtain ⟨l,rfl⟩:=has_pol h2
 exact ⟨⟨s,l,n⟩,rfl⟩
theorem has_int {x : List LV} (h : Has (.int .i64) x) : ∃ n : Int,x = Go.Geo.c1 n:=by
 obtain ⟨n,rfl,_⟩:=h
 exact ⟨n,rfl⟩
theorem has_cell {x : List LV} (h : Has tCell x) : ∃ c : Cl,x = cec c.cel:=by
 obtain ⟨_,_,rfl,⟨_,_,rfl,ha,_,_,rfl,hb,rfl⟩,_,_,rfl,⟨_,_,rfl,h1,_,_,rfl,h2,rfl⟩,_,_,rfl,⟨fx,rfl,_,hf⟩,_,_,rfl,⟨pl,rfl,_,hpl⟩,_,_,rfl,⟨pt,rfl,_,hpt⟩,_,_,rfl,⟨bt,rfl,_,hbt⟩,_,_,rfl,⟨per,rfl,_⟩,_,_,rfl,hl,_,_,rfl,hm,_,_,rfl,⟨zn,rfl,_,hz⟩,_,_,rfl,⟨gap,rfl,_⟩,_,_,rfl,⟨slow,rfl,_⟩,rfl⟩:=h
 obtain ⟨a,rfl⟩:=has_arm ha
 obtain ⟨b,rfl⟩:=has_arm hb
 obtain ⟨q0,q1,q2,rfl⟩:=has_3 h1
 obtain ⟨q3,q4,q5,rfl⟩:=has_3 h2
 obtain ⟨lv,la,lj,rfl⟩:=has_3 hl
 obtain ⟨mv,ma,mj,rfl⟩:=has_3 hm
 obtain ⟨fx,rfl⟩:=has_map (f:=Go.Geo.p1) fun y hy=>has_pol (hf y hy)
 obtain ⟨zn,rfl⟩:=has_map (f:=Go.Geo.p1) fun y hy=>has_zon (hz y hy)
 obtain ⟨pl,rfl⟩:=has_map fun y hy=>has_plc (hpl y hy)
 obtain ⟨pt,rfl⟩:=has_map fun y hy=>has_prt (hpt y hy)
 obtain ⟨bt,rfl⟩:=has_map fun y hy=>has_int (hbt y hy)
 exact ⟨⟨a,b,q0,q1,q2,q3,q4,q5,fx,pl,pt,bt,per,lv,la,lj,mv,ma,mj,zn,gap,slow⟩,rfl⟩
def tRaw : Ty:=.cat [.cat [tB3,tB3],.cat [.int .u8,.int .u8],.slice (.int .u8)]
theorem has_raw {x : List LV} (h : Has tRaw x) : ∃ y : Raw,x = rawc y∧RawOK y:=by
 obtain ⟨_,_,rfl,⟨_,_,rfl,h1,_,_,rfl,h2,rfl⟩,_,_,rfl,⟨_,_,rfl,⟨h,rfl,a1,a2⟩,_,_,rfl,⟨k,rfl,b1,b2⟩,rfl⟩,_,_,rfl,⟨b,rfl,hbl,hb⟩,rfl⟩:=h
 obtain ⟨q,r,s,rfl,q1,r1,s1⟩:=has_b3 h1
 obtain ⟨t,u,v,rfl,t1,u1_,v1⟩:=has_b3 h2
 have e1 : IntKind.u8.min = 0:=rfl
 have e2 : IntKind.u8.max = 255:=rfl
 rw [e1,e2] at *
 have hm : ∃ l : List Int,b = l.map u1 ∧ ∀ y ∈ l,byt y:=by
  clear hbl
  induction b with
  | nil=>exact ⟨[],rfl,fun y hy=>by cases hy⟩
  | cons x b ih =>
    obtain ⟨l,rfl,hl⟩:=ih fun y hy=>hb y (by simp [hy])
    obtain ⟨n,rfl,n1,n2⟩:=hb x (by simp)
    exact ⟨n::l,rfl,fun y hy=>by
     rcases Q7.1 hy with e | e
     ·rw [e]; exact ⟨n1,n2⟩
     ·exact hl y e⟩
 obtain ⟨l,rfl,hl⟩:=hm
 exact ⟨⟨q,r,s,t,u,v,h,k,l⟩,rfl,⟨q1,r1,s1,t1,u1_,v1,⟨a1,a2⟩,⟨b1,b2⟩,hl⟩⟩
end Go.Proofs.YtbpneedpcccpaaaGreat
