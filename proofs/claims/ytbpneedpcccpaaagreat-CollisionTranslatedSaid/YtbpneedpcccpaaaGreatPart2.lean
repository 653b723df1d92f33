/- Part of the proof: the evaluation of the program's code and its tie to the machine, or what functions of the program compute over it. -/
import Derived.Test.YtbpneedpcccpaaaGreatPart1
import Derived.Test.YtbpneedpcccpaaaGreatEng6
import Derived.KernelRfl
set_option maxRecDepth 100000
set_option maxHeartbeats 4000000
set_option linter.unusedSimpArgs false
set_option linter.unusedVariables false
namespace Go.Geo
open Go Go.Zv
theorem w64_sub (x y : Int) : w64 (w64 x - y) = w64 (x - y):=by
 have:=w64_add x (-y); rw [Qde,Qde]; exact this
theorem w64_add' (x y : Int) : w64 (x + w64 y) = w64 (x + y):=by rw [Int.add_comm,w64_add,Int.add_comm]
theorem w64_neg (x : Int) : w64 (-w64 x) = w64 (-x):=by
 simp only [w64,IntKind.wrap,IntKind.signed,IntKind.bits]; simp; omega
theorem w64_sub' (x y : Int) : w64 (x - w64 y) = w64 (x - y):=by
 rw [Qde,← w64_add' x (-w64 y),w64_neg,w64_add',← Qde]
def dE (e : Pt × Pt) : Int:=e.1.1 * e.2.2 - e.1.2 * e.2.1
theorem arF_d (x : Int) (e : Pt × Pt) : arF x e = w64 (x + dE e):=by
 unfold arF dE
 rw [w64_sub,w64_sub',w64_add']
theorem fold_d (l : List (Pt × Pt)) : ∀ x : Int,w64 (l.foldl arF x) = w64 (x + (l.map dE).sum):=by
 induction l with
 | nil=>intro x; simp
 | cons e l ih=>intro x; rw [Qa7,ih,arF_d,w64_add,Qk,Qb2,Int.add_assoc]
theorem w64_idem (x : Int) : w64 (w64 x) = w64 x:=by have:=w64_add x 0; simpa using this
theorem areaW_sum (l : List Pt) : areaW l = w64 ((eds l).map dE).sum:=by
 have h:=fold_d (eds l) 0
 rw [Int.zero_add] at h
 rw [← h]
 unfold areaW
 cases hl : eds l with
 | nil=>rfl
 | cons e t =>
   have : ∀ (t : List (Pt × Pt)) (x : Int),w64 x = x → w64 (t.foldl arF x) = t.foldl arF x:=by
    intro t
    induction t with
    | nil=>intro x hx; exact hx
    | cons f t ih=>intro x hx; rw [Qa7]; exact ih _ (by rw [arF_d,w64_idem])
   exact (this (e::t) 0 (by decide)).symm
def swE (e : Pt × Pt) : Pt × Pt:=(e.2,e.1)
end Go.Geo

namespace Go.Geo
open Go Go.Zv
/-! Winding numbers over the rationals -/
abbrev Q2:=Rat × Rat
def xq (u v : Q2) : Rat:=u.1 * v.2 - u.2 * v.1
def dq (u v : Q2) : Rat:=u.1 * v.1 + u.2 * v.2
def sq (a x : Q2) : Q2:=(a.1 - x.1,a.2 - x.2)
def hit (d u v : Q2) : Int:=if 0 < xq d u then (if 0 < xq d v then 0 else if xq u v < 0 then -1 else 0) else if 0 < xq d v then (if 0 < xq u v then 1 else 0) else 0
def OnV (u v : Q2) : Prop:=xq u v = 0∧dq u v≤0
def Wd (d e u : Q2) : Int:=if 0 < xq d u then (if 0 < xq e u then 0 else 1) else 0
theorem r_sq_nn (x : Rat) : 0≤x * x:=by
 rcases Rat.le_total (a:=0) (b:=x) with h | h
 ·exact Qz h h
 ·have : 0≤(-x) * (-x):=Qz (by grind) (by grind)
  grind
theorem r_sq_pos {x : Rat} (h : x ≠ 0) : 0 < x * x:=by
 rcases Rat.le_total (a:=0) (b:=x) with h1 | h1
 ·exact Qbb (by grind) (by grind)
 ·have : 0 < (-x) * (-x):=Qbb (by grind) (by grind)
  grind
theorem dq_nn (u : Q2) : 0≤dq u u:=by
 have h1:=r_sq_nn u.1
 have h2:=r_sq_nn u.2
 unfold dq; grind
theorem dq_pos {u : Q2} (h : u ≠ (0,0)) : 0 < dq u u:=by
 have h1:=r_sq_nn u.1
 have h2:=r_sq_nn u.2
 by_cases e1 : u.1 = 0
 ·have e2 : u.2 ≠ 0:=fun e2=>h (Qb7 e1 e2)
  have:=r_sq_pos e2
  unfold dq; grind
 ·have:=r_sq_pos e1
  unfold dq; grind
theorem pm (p s : Rat) : (0 < p∧0 < s∧0 < p * s) ∨ (0 < p ∧ ¬ 0 < s∧p * s≤0) ∨ (¬ 0 < p∧0 < s∧p * s≤0) ∨ (¬ 0 < p ∧ ¬ 0 < s∧0≤p * s):=by
 by_cases h1 : 0 < p <;> by_cases h2 : 0 < s
 ·exact .inl ⟨h1,h2,Qbb h1 h2⟩
 ·have : 0≤p * (-s):=Qz (by grind) (by grind)
  exact .inr (.inl ⟨h1,h2,by grind⟩)
 ·have : 0≤(-p) * s:=Qz (by grind) (by grind)
  exact .inr (.inr (.inl ⟨h1,h2,by grind⟩))
 ·have : 0≤(-p) * (-s):=Qz (by grind) (by grind)
  exact .inr (.inr (.inr ⟨h1,h2,by grind⟩))
theorem pos_iff_of_mul {U q k p : Rat} (hU : 0 < U) (hk : 0 < k) (h : U * q = k * p) : 0 < q ↔ 0 < p:=by
 constructor
 ·intro hq
  have:=Qbb hU hq
  rw [h] at this
  exact (Rat.mul_pos_iff_of_pos_left hk).1 this
 ·intro hp
  have:=Qbb hk hp
  rw [← h] at this
  exact (Rat.mul_pos_iff_of_pos_left hU).1 this
theorem wedge {d e u v : Q2} (h : 0 < xq d e) (n : ¬ OnV u v) : hit d u v - hit e u v = Wd d e v - Wd d e u:=by
 have id1 : xq d e * xq u v = xq d u * xq e v - xq d v * xq e u:=by unfold xq; grind
 have id2 : dq u u * xq d v = dq u v * xq d u + dq d u * xq u v:=by unfold xq dq; grind
 have id3 : dq u u * xq e v = dq u v * xq e u + dq e u * xq u v:=by unfold xq dq; grind
 by_cases c0 : xq u v = 0
 ·have hk : 0 < dq u v:=by
   refine Qu fun hk=>n ⟨c0,by grind⟩
  have hU : 0 < dq u u:=by
   refine dq_pos fun e=>?_
   subst e
   unfold dq at hk; grind
  rw [c0] at id2 id3
  have e1:=pos_iff_of_mul (q:=xq d v) (p:=xq d u) hU hk (by grind)
  have e2:=pos_iff_of_mul (q:=xq e v) (p:=xq e u) hU hk (by grind)
  unfold hit Wd
  rw [c0]
  by_cases h1 : 0 < xq d u <;> by_cases h2 : 0 < xq e u <;> simp [h1,h2,e1,e2]
 ·unfold hit Wd
  generalize xq d u = p at *
  generalize xq d v = q at *
  generalize xq e u = r at *
  generalize xq e v = s at *
  generalize xq u v = c at *
  generalize xq d e = D at *
  have hc : (0 < c∧0 < D * c ∧ ¬ c < 0) ∨ (¬ 0 < c∧D * c < 0∧c < 0):=by
   rcases Rat.le_total (a:=0) (b:=c) with h1 | h1
   ·left; have : 0 < c:=by grind
    exact ⟨this,Qbb h this,by grind⟩
   ·right; have : 0 < -c:=by grind
    have h2:=Qbb h this
    exact ⟨by grind,by grind,by grind⟩
  rw [id1] at hc
  rcases pm p s with ⟨a1,a2,a3⟩ | ⟨a1,a2,a3⟩ | ⟨a1,a2,a3⟩ | ⟨a1,a2,a3⟩ <;> rcases pm q r with ⟨b1,b2,b3⟩ | ⟨b1,b2,b3⟩ | ⟨b1,b2,b3⟩ | ⟨b1,b2,b3⟩ <;> rcases hc with ⟨k1,k2,k3⟩ | ⟨k1,k2,k3⟩ <;> simp only [a1,a2,b1,b2,k1,k3,if_true,if_false] <;> first | rfl | (exfalso; grind)
def Path (p q : Q2) (es : List (Q2 × Q2)) : Prop:=∀ f : Q2 → Int,(es.map fun e=>f e.2 - f e.1).sum = f q - f p
def OnE (x : Q2) (e : Q2 × Q2) : Prop:=OnV (sq e.1 x) (sq e.2 x)
def wn (d x : Q2) (es : List (Q2 × Q2)) : Int:=(es.map fun e=>hit d (sq e.1 x) (sq e.2 x)).sum
theorem sum_sub (l : List (Q2 × Q2)) (f g : Q2 × Q2 → Int) : (l.map f).sum - (l.map g).sum = (l.map fun e=>f e - g e).sum:=by
 induction l with
 | nil=>rfl
 | cons a l ih=>simp only [Qk,Qb2,← ih]; omega
theorem wn_wedge {p q d e x : Q2} {es : List (Q2 × Q2)} (hp : Path p q es) (h : 0 < xq d e) (n : ∀ g ∈ es,¬ OnE x g) : wn d x es - wn e x es = Wd d e (sq q x) - Wd d e (sq p x):=by
 unfold wn
 rw [sum_sub,← hp (fun u=>Wd d e (sq u x))]
 congr 1
 exact Qal fun g hg=>wedge h (n g hg)
theorem xq_swap (u v : Q2) : xq u v = -xq v u:=by unfold xq; grind
theorem wn_dir1 {p d e x : Q2} {es : List (Q2 × Q2)} (hp : Path p p es) (h : xq d e ≠ 0) (n : ∀ g ∈ es,¬ OnE x g) : wn d x es = wn e x es:=by
 by_cases h1 : 0 < xq d e
 ·have:=wn_wedge hp h1 n; omega
 ·have h2 : 0 < xq e d:=by rw [xq_swap]; grind
  have:=wn_wedge hp h2 n; omega
theorem wn_dir {p d e x : Q2} {es : List (Q2 × Q2)} (hp : Path p p es) (hd : d ≠ (0,0)) (he : e ≠ (0,0)) (n : ∀ g ∈ es,¬ OnE x g) : wn d x es = wn e x es:=by
 by_cases h : xq d e = 0
 ·have h1 : xq d (-d.2,d.1) ≠ 0:=by
   have:=dq_pos hd
   unfold dq at this; unfold xq; grind
  have h2 : xq (-d.2,d.1) e ≠ 0:=by
   have k1:=dq_pos hd
   have k2:=dq_pos he
   have k3 : dq d e * dq d e + xq d e * xq d e = dq d d * dq e e:=by unfold dq xq; grind
   have k4:=Qbb k1 k2
   rw [← k3,h] at k4
   intro hx
   have : dq d e = 0:=by unfold dq; unfold xq at hx; grind
   rw [this] at k4
   grind
  rw [wn_dir1 hp h1 n,wn_dir1 hp h2 n]
 ·exact wn_dir1 hp h n
end Go.Geo

namespace Go.Geo
open Go Go.Zv
theorem r_inv {x : Rat} (h : x ≠ 0) : x * x⁻¹ = 1:=Rat.mul_inv_cancel x h
def onp (a b : Q2) (s : Rat) : Q2:=(a.1 + s * (b.1 - a.1),a.2 + s * (b.2 - a.2))
theorem on_of_param {a b : Q2} {s : Rat} (h0 : 0≤s) (h1 : s≤1) : OnE (onp a b s) (a,b):=by
 have h2 : 0≤s * (1 - s):=Qz h0 (by grind)
 have h3:=Qz h2 (dq_nn (sq b a))
 unfold OnE OnV onp
 unfold dq sq at *
 unfold xq
 simp only at *
 constructor
 ·grind
 ·grind
theorem on_param {x a b : Q2} (h : OnE x (a,b)) : ∃ s : Rat,0≤s∧s≤1∧x = onp a b s:=by
 obtain ⟨hc,hd⟩:=h
 simp only at hc hd
 have k1:=dq_nn (sq a x)
 have k2:=dq_nn (sq b x)
 by_cases hw : sq b a = (0,0)
 ·refine ⟨0,by grind,by grind,?_⟩
  simp only [sq,Prod.mk.injEq] at hw
  have e : dq (sq a x) (sq a x) = 0:=by
   have e2 : dq (sq a x) (sq b x) = dq (sq a x) (sq a x):=by unfold dq sq; grind
   grind
  have e3 : sq a x = (0,0):=by
   refine Qu fun h=>?_
   have:=dq_pos h
   grind
  simp only [sq,Prod.mk.injEq] at e3
  refine Qb7 ?_ ?_ <;> simp only [onp] <;> grind
 ·have hN:=dq_pos hw
  have hi:=r_inv (x:=dq (sq b a) (sq b a)) (by grind)
  have hp : 0 < (dq (sq b a) (sq b a))⁻¹:=Qds.2 hN
  generalize hNe : dq (sq b a) (sq b a) = N at *
  have hk0 : 0 ≤ -dq (sq a x) (sq b a):=by
   have : -dq (sq a x) (sq b a) = dq (sq a x) (sq a x) - dq (sq a x) (sq b x):=by unfold dq sq; grind
   grind
  have hk1 : 0≤N + dq (sq a x) (sq b a):=by
   have : N + dq (sq a x) (sq b a) = dq (sq b x) (sq b x) - dq (sq a x) (sq b x):=by rw [← hNe]; unfold dq sq; grind
   grind
  refine ⟨-dq (sq a x) (sq b a) * N⁻¹,Qz hk0 (by grind),?_,?_⟩
  ·have:=Qz hk1 (show 0≤N⁻¹ by grind)
   grind
  ·have e1 : N * (a.1 - x.1) = dq (sq a x) (sq b a) * (b.1 - a.1):=by
    rw [← hNe]; unfold dq sq; unfold xq sq at hc; grind
   have e2 : N * (a.2 - x.2) = dq (sq a x) (sq b a) * (b.2 - a.2):=by
    rw [← hNe]; unfold dq sq; unfold xq sq at hc; grind
   generalize dq (sq a x) (sq b a) = k at *
   generalize N⁻¹ = M at *
   refine Qb7 ?_ ?_ <;> simp only [onp] <;> grind
def Meets (a b x y : Q2) : Prop:=∃ z,OnE z (a,b)∧OnE z (x,y)
theorem hit_seg {x y a b : Q2} (h : ¬ Meets a b x y) : hit (sq y x) (sq a x) (sq b x) = hit (sq y x) (sq a y) (sq b y):=by
 have hp : xq (sq y x) (sq a y) = xq (sq y x) (sq a x):=by unfold xq sq; grind
 have hq : xq (sq y x) (sq b y) = xq (sq y x) (sq b x):=by unfold xq sq; grind
 have hc : xq (sq a y) (sq b y) = xq (sq a x) (sq b x) + xq (sq y x) (sq a x) - xq (sq y x) (sq b x):=by unfold xq sq; grind
 have key : ∀ s t : Rat,0≤s → s≤1 → 0≤t → t≤1 → s * (xq (sq y x) (sq b x) - xq (sq y x) (sq a x)) = - xq (sq y x) (sq a x) → t * (xq (sq y x) (sq b x) - xq (sq y x) (sq a x)) = xq (sq a x) (sq b x) → xq (sq y x) (sq b x) - xq (sq y x) (sq a x) ≠ 0 → False:=by
  intro s t s0 s1 t0 t1 e1 e2 hD
  refine h ⟨onp a b s,on_of_param s0 s1,?_⟩
  have : onp a b s = onp x y t:=by
   have hi:=r_inv hD
   have i1 : xq (sq y x) (sq b x) * (a.1 - x.1) - xq (sq y x) (sq a x) * (b.1 - x.1) = xq (sq a x) (sq b x) * (y.1 - x.1):=by unfold xq sq; grind
   have i2 : xq (sq y x) (sq b x) * (a.2 - x.2) - xq (sq y x) (sq a x) * (b.2 - x.2) = xq (sq a x) (sq b x) * (y.2 - x.2):=by unfold xq sq; grind
   generalize xq (sq y x) (sq b x) = q at *
   generalize xq (sq y x) (sq a x) = p at *
   generalize xq (sq a x) (sq b x) = c at *
   generalize (q - p)⁻¹ = M at *
   refine Qb7 ?_ ?_ <;> simp only [onp] <;> grind
  rw [this]; exact on_of_param t0 t1
 unfold hit
 rw [hp,hq,hc]
 generalize xq (sq y x) (sq b x) = q at *
 generalize xq (sq y x) (sq a x) = p at *
 generalize xq (sq a x) (sq b x) = c at *
 by_cases h1 : 0 < p
 ·by_cases h2 : 0 < q
  ·simp [h1,h2]
  ·simp only [h1,h2,if_true,if_false]
   by_cases c1 : c < 0
   ·by_cases c2 : c + p - q < 0
    ·simp [c1,c2]
    ·exfalso
     have hi:=r_inv (x:=q - p) (by grind)
     have hM : 0 < (p - q)⁻¹:=Qds.2 (by grind)
     have hi2:=r_inv (x:=p - q) (by grind)
     have m1:=Qz (a:=p) (b:=(p - q)⁻¹) (by grind) (by grind)
     have m2:=Qz (a:=-q) (b:=(p - q)⁻¹) (by grind) (by grind)
     have m3:=Qz (a:=-c) (b:=(p - q)⁻¹) (by grind) (by grind)
     have m4:=Qz (a:=c + p - q) (b:=(p - q)⁻¹) (by grind) (by grind)
     generalize (p - q)⁻¹ = M at *
     exact key (p * M) (-c * M) (by grind) (by grind) (by grind) (by grind) (by grind) (by grind) (by grind)
   ·have c2 : ¬ c + p - q < 0:=by grind
    simp [c1,c2]
 ·by_cases h2 : 0 < q
  ·simp only [h1,h2,if_true,if_false]
   by_cases c1 : 0 < c + p - q
   ·have c2 : 0 < c:=by grind
    simp [c1,c2]
   ·by_cases c2 : 0 < c
    ·exfalso
     have hM : 0 < (q - p)⁻¹:=Qds.2 (by grind)
     have hi2:=r_inv (x:=q - p) (by grind)
     have m1:=Qz (a:=-p) (b:=(q - p)⁻¹) (by grind) (by grind)
     have m2:=Qz (a:=q) (b:=(q - p)⁻¹) (by grind) (by grind)
     have m3:=Qz (a:=c) (b:=(q - p)⁻¹) (by grind) (by grind)
     have m4:=Qz (a:=q - p - c) (b:=(q - p)⁻¹) (by grind) (by grind)
     generalize (q - p)⁻¹ = M at *
     exact key (-p * M) (c * M) (by grind) (by grind) (by grind) (by grind) (by grind) (by grind) (by grind)
    ·simp [c1,c2]
  ·simp [h1,h2]
theorem wn_seg {x y : Q2} {es : List (Q2 × Q2)} (h : ∀ e ∈ es,¬ Meets e.1 e.2 x y) : wn (sq y x) x es = wn (sq y x) y es:=by
 unfold wn
 congr 1
 exact Qal fun e he=>hit_seg (h e he)
theorem on_left (x y : Q2) : OnE x (x,y):=by
 unfold OnE OnV xq dq sq; simp only; constructor <;> grind
theorem on_right (x y : Q2) : OnE y (x,y):=by
 unfold OnE OnV xq dq sq; simp only; constructor <;> grind
theorem sq_ne {x y : Q2} (h : x ≠ y) : sq y x ≠ (0,0):=by
 intro e
 simp only [sq,Prod.mk.injEq] at e
 exact h (Qb7 (by grind) (by grind))
theorem wn_walk {p d x y : Q2} {es : List (Q2 × Q2)} (hp : Path p p es) (hd : d ≠ (0,0)) (h : ∀ e ∈ es,¬ Meets e.1 e.2 x y) : wn d x es = wn d y es:=by
 by_cases e : x = y
 ·rw [e]
 ·have h1 : ∀ g ∈ es,¬ OnE x g:=fun g hg ho=>h g hg ⟨x,ho,on_left x y⟩
  have h2 : ∀ g ∈ es,¬ OnE y g:=fun g hg ho=>h g hg ⟨y,ho,on_right x y⟩
  rw [wn_dir hp hd (sq_ne e) h1,wn_dir hp hd (sq_ne e) h2]
  exact wn_seg h
theorem wn_none_left {d x : Q2} {es : List (Q2 × Q2)} (h : ∀ e ∈ es,¬ 0 < xq d (sq e.1 x) ∧ ¬ 0 < xq d (sq e.2 x)) : wn d x es = 0:=by
 unfold wn
 rw [Qal (g:=fun _=>(0 : Int)) fun e he=>by unfold hit; simp [(h e he).1,(h e he).2]]
 induction es with
 | nil=>rfl
 | cons a l ih=>simp only [Qk,Qb2,ih (fun e he=>h e (by simp [he])),Int.zero_add]
end Go.Geo

namespace Go.Geo
open Go Go.Zv
def edg (a : Nat → Q2) (k : Nat) : Q2 × Q2:=(a k,a (k + 1))
def chn (a : Nat → Q2) (i m : Nat) : List (Q2 × Q2):=(List.range m).map fun k=>edg a (i + k)
theorem chn_snoc (a : Nat → Q2) (i m : Nat) : chn a i (m + 1) = chn a i m++[edg a (i + m)]:=by
 unfold chn
 rw [Qa8,Ql]; rfl
theorem chn_path (a : Nat → Q2) (i m : Nat) : Path (a i) (a (i + m)) (chn a i m):=by
 intro f
 induction m with
 | zero=>simp [chn]
 | succ m ih =>
   rw [chn_snoc,Ql,List.sum_append,ih]
   simp only [edg,Qk,Q0,Qb2,List.sum_nil]
   rw [show i + (m + 1) = i + m + 1 by omega]; omega
structure Simp (a : Nat → Q2) (n : Nat) : Prop where
 n3 : 3≤n
 per : ∀ k,a (k + n) = a k
 nc : ∀ i,xq (sq (a (i + 1)) (a i)) (sq (a (i + 2)) (a (i + 1))) ≠ 0
 dj : ∀ i m,2≤m → m + 2≤n → ∀ z,OnE z (edg a i) → ¬ OnE z (edg a (i + m))
section
variable {a : Nat → Q2} {n : Nat}
def Lc (a : Nat → Q2) (n i : Nat) : Int:=wn (sq (a (i + 1)) (a i)) (a i) (chn a i n)
def lft (a : Nat → Q2) (i : Nat) : Int:=if 0 < xq (sq (a (i + 1)) (a i)) (sq (a (i + 2)) (a (i + 1))) then 1 else 0
theorem onp0 (a b : Q2) : onp a b 0 = a:=by refine Qb7 ?_ ?_ <;> simp only [onp] <;> grind
theorem onp1 (a b : Q2) : onp a b 1 = b:=by refine Qb7 ?_ ?_ <;> simp only [onp] <;> grind
end
end Go.Geo

namespace Go.Geo
open Go Go.Zv
section
variable {a : Nat → Q2} {n : Nat}
end
end Go.Geo

namespace Go.Geo
open Go Go.Zv
def cnt (L : List (Rat × Int)) (t : Rat) : Int:=(L.map fun p=>if t < p.1 then p.2 else 0).sum
def mom (L : List (Rat × Int)) (m : Rat) : Rat:=(L.map fun p=>if m < p.1 then (p.2 : Rat) * (p.1 - m) else 0).sum
def above (L : List (Rat × Int)) (m : Rat) : Nat:=(L.filter fun p=>decide (m < p.1)).length
def qp (p : Pt) : Q2:=((p.1 : Rat),(p.2 : Rat))
def qe (e : Pt × Pt) : Q2 × Q2:=(qp e.1,qp e.2)
def spn (e : Pt × Pt) (k : Int) : Int:=(if k < e.2.2 then 1 else 0) - (if k < e.1.2 then 1 else 0)
def gX (e : Pt × Pt) (y : Rat) : Rat:=e.1.1 * (y - e.1.2) + (e.2.1 - e.1.1) * ((e.2.2 : Rat) - e.1.2)⁻¹ * ((y - e.1.2) * (y - e.1.2)) / 2
def xr (e : Pt × Pt) (k : Int) : Rat:=gX e (k + 1) - gX e k
def rowL (es : List (Pt × Pt)) (k : Int) : List (Rat × Int):=es.map fun e=>(xr e k,spn e k)
theorem sum_cast (l : List Int) : ((l.sum : Int) : Rat) = (l.map fun x : Int=>(x : Rat)).sum:=by
 induction l with
 | nil=>rfl
 | cons a l ih=>simp only [Qb2,Qk,Qcy,ih]
end Go.Geo

namespace Go.Geo
open Go Go.Zv
theorem mul_neg_iff {x y : Rat} : x * y < 0 ↔ (x < 0∧0 < y) ∨ (0 < x∧y < 0):=by
 constructor
 ·intro h
  rcases Rat.le_total (a:=0) (b:=x) with hx | hx
  ·right
   have hy : y < 0:=by
    refine Qu fun hn=>?_
    have:=Qz hx (show 0≤y by grind)
    grind
   refine ⟨?_,hy⟩
   refine Qu fun hn=>?_
   have : x = 0:=by grind
   rw [this] at h; grind
  ·left
   have hy : 0 < y:=by
    refine Qu fun hn=>?_
    have:=Qz (show 0 ≤ -x by grind) (show 0 ≤ -y by grind)
    grind
   refine ⟨?_,hy⟩
   refine Qu fun hn=>?_
   have : x = 0:=by grind
   rw [this] at h; grind
 ·rintro (⟨h1,h2⟩ | ⟨h1,h2⟩)
  ·have:=Qbb (show 0 < -x by grind) h2; grind
  ·have:=Qbb h1 (show 0 < -y by grind); grind
theorem meets_half {a b c d : Q2} (h : Meets a b c d) (hn : ¬ xq (sq b a) (sq c a) * xq (sq b a) (sq d a) < 0) : OnE c (a,b) ∨ OnE d (a,b) ∨ OnE a (c,d) ∨ OnE b (c,d):=by
 obtain ⟨z,z1,z2⟩:=h
 obtain ⟨t,t0,t1,ht⟩:=on_param z2
 by_cases e0 : t = 0
 ·left; rw [ht,e0,onp0] at z1; exact z1
 by_cases e1 : t = 1
 ·right; left; rw [ht,e1,onp1] at z1; exact z1
 obtain ⟨s,s0,s1,hs⟩:=on_param z1
 have hz : xq (sq b a) (sq z a) = 0:=by rw [hs]; unfold xq sq onp; grind
 have hz2 : (1 - t) * xq (sq b a) (sq c a) + t * xq (sq b a) (sq d a) = 0:=by rw [← hz,ht]; unfold xq sq onp; grind
 rw [mul_neg_iff] at hn
 have hc : xq (sq b a) (sq c a) = 0∧xq (sq b a) (sq d a) = 0:=by
  generalize xq (sq b a) (sq c a) = o1 at *
  generalize xq (sq b a) (sq d a) = o2 at *
  have p0 : 0 < t:=by grind
  have p1 : 0 < 1 - t:=by grind
  by_cases h1 : 0 < o1
  ·have:=Qbb p1 h1
   have h2 : 0≤o2:=by grind
   have:=Qz t0 h2
   grind
  ·by_cases h2 : o1 < 0
   ·have:=Qbb p1 (show 0 < -o1 by grind)
    have h2 : 0 ≤ -o2:=by grind
    have:=Qz t0 h2
    grind
   ·have e : o1 = 0:=by grind
    refine ⟨e,?_⟩
    rw [e] at hz2
    have hi:=r_inv (x:=t) e0
    generalize t⁻¹ = M at *; grind
 refine Qu fun hno=>?_
 have hab : a ≠ b:=fun e=>by
  refine hno (.inr (.inr (.inl ?_)))
  have : z = a:=by rw [hs,e]; refine Qb7 ?_ ?_ <;> simp only [onp] <;> grind
  rw [← this]; exact z2
 have hN:=dq_pos (sq_ne hab)
 have hi:=r_inv (x:=dq (sq b a) (sq b a)) (by grind)
 obtain ⟨c1,c2⟩:=hc
 -- the others' places on the line
 have par : ∀ p : Q2,xq (sq b a) (sq p a) = 0 → ∃ k,p = onp a b k:=fun p hp=>by
  refine ⟨dq (sq p a) (sq b a) * (dq (sq b a) (sq b a))⁻¹,?_⟩
  have i1 : dq (sq b a) (sq b a) * (p.1 - a.1) = dq (sq p a) (sq b a) * (b.1 - a.1):=by unfold dq sq; unfold xq sq at hp; grind
  have i2 : dq (sq b a) (sq b a) * (p.2 - a.2) = dq (sq p a) (sq b a) * (b.2 - a.2):=by unfold dq sq; unfold xq sq at hp; grind
  generalize dq (sq b a) (sq b a) = N at *
  generalize dq (sq p a) (sq b a) = m at *
  generalize N⁻¹ = M at *
  refine Qb7 ?_ ?_ <;> simp only [onp] <;> grind
 obtain ⟨k1,e1'⟩:=par c c1
 obtain ⟨k2,e2'⟩:=par d c2
 have n1 : ¬ (0≤k1∧k1≤1):=fun ⟨x,y⟩=>hno (.inl (by rw [e1']; exact on_of_param x y))
 have n2 : ¬ (0≤k2∧k2≤1):=fun ⟨x,y⟩=>hno (.inr (.inl (by rw [e2']; exact on_of_param x y)))
 have hs2 : s = (1 - t) * k1 + t * k2:=by
  rw [ht,e1',e2'] at hs
  unfold onp at hs; simp only [Prod.mk.injEq] at hs
  obtain ⟨q1,q2⟩:=hs
  have w1 : (s - ((1 - t) * k1 + t * k2)) * (b.1 - a.1) = 0:=by grind
  have w2 : (s - ((1 - t) * k1 + t * k2)) * (b.2 - a.2) = 0:=by grind
  have w3 : (s - ((1 - t) * k1 + t * k2)) * dq (sq b a) (sq b a) = 0:=by unfold dq sq; grind
  generalize dq (sq b a) (sq b a) = N at *
  generalize N⁻¹ = M at *
  grind
 have n3 : ¬ k1 * k2≤0:=fun hk=>by
  refine hno (.inr (.inr (.inl ?_)))
  rw [e1',e2']
  have:=Qz (show 0 ≤ -(k1 * k2) by grind) (dq_nn (sq b a))
  unfold OnE OnV xq dq sq onp; unfold dq sq at this; simp only at this ⊢
  constructor <;> grind
 have p0 : 0 < t:=by grind
 have p1 : 0 < 1 - t:=by grind
 by_cases q1 : 0≤k1
 ·have q2 : 0≤k2:=by
   refine Qu fun hk=>n3 ?_
   have:=Qz q1 (show 0 ≤ -k2 by grind)
   grind
  have:=Qbb p1 (show 0 < k1 - 1 by grind)
  have:=Qbb p0 (show 0 < k2 - 1 by grind)
  grind
 ·have q2 : k2 < 0:=by
   refine Qu fun hk=>n3 ?_
   have:=Qz (show 0 ≤ -k1 by grind) (show 0≤k2 by grind)
   grind
  have:=Qbb p1 (show 0 < -k1 by grind)
  have:=Qbb p0 (show 0 < -k2 by grind)
  grind
theorem meets_comm {a b c d : Q2} : Meets a b c d ↔ Meets c d a b:=⟨fun ⟨z,h1,h2⟩=>⟨z,h2,h1⟩,fun ⟨z,h1,h2⟩=>⟨z,h2,h1⟩⟩
theorem meets_cases {a b c d : Q2} (h : Meets a b c d) : (xq (sq b a) (sq c a) * xq (sq b a) (sq d a) < 0∧xq (sq d c) (sq a c) * xq (sq d c) (sq b c) < 0) ∨ OnE c (a,b) ∨ OnE d (a,b) ∨ OnE a (c,d) ∨ OnE b (c,d):=by
 by_cases h1 : xq (sq b a) (sq c a) * xq (sq b a) (sq d a) < 0
 ·by_cases h2 : xq (sq d c) (sq a c) * xq (sq d c) (sq b c) < 0
  ·exact .inl ⟨h1,h2⟩
  ·rcases meets_half (meets_comm.1 h) h2 with h | h | h | h
   ·exact .inr (.inr (.inr (.inl h)))
   ·exact .inr (.inr (.inr (.inr h)))
   ·exact .inr (.inl h)
   ·exact .inr (.inr (.inl h))
 ·exact .inr (meets_half h h1)
theorem meets_proper {a b c d : Q2} (h1 : xq (sq b a) (sq c a) * xq (sq b a) (sq d a) < 0) (h2 : xq (sq d c) (sq a c) * xq (sq d c) (sq b c) < 0) : Meets a b c d:=by
 have i1 : xq (sq d c) (sq a c) - xq (sq d c) (sq b c) = xq (sq b a) (sq d a) - xq (sq b a) (sq c a):=by unfold xq sq; grind
 have j1 : (xq (sq b a) (sq d a) - xq (sq b a) (sq c a)) * (a.1 - c.1) + xq (sq d c) (sq a c) * (b.1 - a.1) = -xq (sq b a) (sq c a) * (d.1 - c.1):=by unfold xq sq; grind
 have j2 : (xq (sq b a) (sq d a) - xq (sq b a) (sq c a)) * (a.2 - c.2) + xq (sq d c) (sq a c) * (b.2 - a.2) = -xq (sq b a) (sq c a) * (d.2 - c.2):=by unfold xq sq; grind
 rw [mul_neg_iff] at h1 h2
 generalize xq (sq b a) (sq c a) = o1 at *
 generalize xq (sq b a) (sq d a) = o2 at *
 generalize xq (sq d c) (sq a c) = o3 at *
 generalize xq (sq d c) (sq b c) = o4 at *
 have hne : o2 - o1 ≠ 0:=by grind
 have hi:=r_inv hne
 have key : 0≤o3 * (o2 - o1)⁻¹∧0 ≤ -o4 * (o2 - o1)⁻¹∧0 ≤ -o1 * (o2 - o1)⁻¹∧0≤o2 * (o2 - o1)⁻¹:=by
  rcases h2 with ⟨u,v⟩ | ⟨u,v⟩
  ·have hM : 0 < (o1 - o2)⁻¹:=Qds.2 (by grind)
   have e : (o2 - o1)⁻¹ = -(o1 - o2)⁻¹:=by
    have i2:=r_inv (x:=o1 - o2) (by grind)
    generalize (o1 - o2)⁻¹ = A at *
    generalize (o2 - o1)⁻¹ = C at *
    grind
   have m1:=Qz (show 0 ≤ -o3 by grind) (show 0≤(o1 - o2)⁻¹ by grind)
   have m2:=Qz (show 0≤o4 by grind) (show 0≤(o1 - o2)⁻¹ by grind)
   have m3:=Qz (show 0≤o1 by grind) (show 0≤(o1 - o2)⁻¹ by grind)
   have m4:=Qz (show 0 ≤ -o2 by grind) (show 0≤(o1 - o2)⁻¹ by grind)
   rw [e]
   generalize (o1 - o2)⁻¹ = A at *
   exact ⟨by grind,by grind,by grind,by grind⟩
  ·have hM : 0 < (o2 - o1)⁻¹:=Qds.2 (by grind)
   exact ⟨Qz (by grind) (by grind),Qz (by grind) (by grind),Qz (by grind) (by grind),Qz (by grind) (by grind)⟩
 obtain ⟨m1,m2,m3,m4⟩:=key
 generalize (o2 - o1)⁻¹ = M at *
 have ez : onp a b (o3 * M) = onp c d (-o1 * M):=by refine Qb7 ?_ ?_ <;> simp only [onp] <;> grind
 have k1 : o3 * M + -o4 * M = 1:=by rw [← hi,← i1]; grind
 have k2 : -o1 * M + o2 * M = 1:=by rw [← hi]; grind
 have l1 : o3 * M≤1:=by rw [← k1]; grind
 have l2 : -o1 * M≤1:=by rw [← k2]; grind
 refine ⟨onp a b (o3 * M),on_of_param m1 l1,?_⟩
 rw [ez]; exact on_of_param m3 l2
/-! whole points -/
theorem xq_int (a b p : Pt) : xq (sq (qp b) (qp a)) (sq (qp p) (qp a)) = ((cr a.1 a.2 b.1 b.2 p.1 p.2 : Int) : Rat):=by
 unfold xq sq qp cr
 simp only [Qch,Qbs]
theorem xq_int' (a b p : Pt) : xq (sq (qp a) (qp p)) (sq (qp b) (qp p)) = ((cr a.1 a.2 b.1 b.2 p.1 p.2 : Int) : Rat):=by
 rw [← xq_int]; unfold xq sq; grind
theorem onE_int (p a b : Pt) : OnE (qp p) (qp a,qp b) ↔ (withinB a.1 a.2 b.1 b.2 p.1 p.2 = true∧cr a.1 a.2 b.1 b.2 p.1 p.2 = 0):=by
 rw [on_iff]
 unfold OnE OnV
 simp only
 rw [xq_int']
 have hd : dq (sq (qp a) (qp p)) (sq (qp b) (qp p)) = ((-((p.1 - a.1) * (b.1 - p.1) + (p.2 - a.2) * (b.2 - p.2)) : Int) : Rat):=by
  unfold dq sq qp
  simp only [Qch,Qbs,Qcy,Rat.intCast_neg]; grind
 rw [hd,Rat.intCast_nonpos,Rat.intCast_eq_zero_iff]
 constructor
 ·rintro ⟨h1,h2⟩
  refine ⟨h1,by omega,?_⟩
  rintro ⟨e1,e2⟩
  rw [← e1,← e2] at h2
  have s1:=sq_nn (p.1 - a.1)
  have s2:=sq_nn (p.2 - a.2)
  have : (p.1 - a.1) * (a.1 - p.1) = -((p.1 - a.1) * (p.1 - a.1)):=by grind
  have : (p.2 - a.2) * (a.2 - p.2) = -((p.2 - a.2) * (p.2 - a.2)):=by grind
  constructor
  ·refine Qu fun hn=>?_
   have:=sq_pos (x:=p.1 - a.1) (by omega)
   omega
  ·refine Qu fun hn=>?_
   have:=sq_pos (x:=p.2 - a.2) (by omega)
   omega
 ·rintro ⟨h1,h2,_⟩
  exact ⟨h1,by omega⟩
abbrev B2 (p : Pt) : Prop:=B p.1∧B p.2
theorem B8_of {a b c d : Pt} (ha : B2 a) (hb : B2 b) (hc : B2 c) (hd : B2 d) : B8 a.1 a.2 b.1 b.2 c.1 c.2 d.1 d.2:=⟨ha.1,ha.2,hb.1,hb.2,hc.1,hc.2,hd.1,hd.2⟩
theorem i_neg (x y : Int) : (x : Rat) * y < 0 ↔ x * y < 0:=by rw [← Qbs,Qb8]
theorem cut_meets {a b c d : Pt} (ha : B2 a) (hb : B2 b) (hc : B2 c) (hd : B2 d) : cutE (a,b) (c,d) = true ↔ Meets (qp a) (qp b) (qp c) (qp d):=by
 unfold cutE
 rw [cutB_iff (B8_of ha hb hc hd)]
 constructor
 ·rintro (⟨h1,h2⟩ | (⟨h1,h2⟩ | ⟨h1,h2⟩) | (⟨h1,h2⟩ | ⟨h1,h2⟩))
  ·refine meets_proper ?_ ?_
   ·rw [xq_int,xq_int,i_neg]; exact h1
   ·rw [xq_int,xq_int,i_neg]; exact h2
  ·exact ⟨qp c,(onE_int c a b).2 ⟨h2,h1⟩,on_left _ _⟩
  ·exact ⟨qp d,(onE_int d a b).2 ⟨h2,h1⟩,on_right _ _⟩
  ·exact ⟨qp a,on_left _ _,(onE_int a c d).2 ⟨h2,h1⟩⟩
  ·exact ⟨qp b,on_right _ _,(onE_int b c d).2 ⟨h2,h1⟩⟩
 ·intro h
  rcases meets_cases h with ⟨h1,h2⟩ | h | h | h | h
  ·rw [xq_int,xq_int,i_neg] at h1 h2
   exact .inl ⟨h1,h2⟩
  ·have:=(onE_int c a b).1 h; exact .inr (.inl (.inl ⟨this.2,this.1⟩))
  ·have:=(onE_int d a b).1 h; exact .inr (.inl (.inr ⟨this.2,this.1⟩))
  ·have:=(onE_int a c d).1 h; exact .inr (.inr (.inl ⟨this.2,this.1⟩))
  ·have:=(onE_int b c d).1 h; exact .inr (.inr (.inr ⟨this.2,this.1⟩))
theorem onE_meets {p : Pt} {e : Pt × Pt} (hp : B2 p) (h1 : B2 e.1) (h2 : B2 e.2) : onE p e = true ↔ OnE (qp p) (qe e):=by
 have:=onE_int p e.1 e.2
 rw [show qe e = (qp e.1,qp e.2) from rfl,this]
 unfold onE onB
 rw [crW_B h1.1 h1.2 h2.1 h2.2 hp.1 hp.2]
 simp [sgn_eq0]
end Go.Geo

namespace Go.Geo
open Go Go.Zv
def pqf (l : List Pt) (k : Nat) : Q2:=qp (ptn l k)
theorem eds_chn (l : List Pt) : (eds l).map qe = chn (pqf l) 0 l.length:=by
 rw [eds_range,Qap]
 unfold chn
 exact Qal fun k _=>by simp only [Function.comp_apply,Qbe]; rfl
theorem mayB_B {p : Pt} (h : mayB p = true) : (-439400000≤p.1∧p.1≤439400000)∧(-439400000≤p.2∧p.2≤439400000):=by
 unfold mayB mxI mnI at h
 simp only [Qg,decide_eq_true_eq] at h
 split at h <;> split at h <;> omega
theorem mayB_B2 {p : Pt} (h : mayB p = true) : B2 p:=by
 have:=mayB_B h
 unfold B2 B; omega
theorem ptn_mem {l : List Pt} (k : Nat) (h : 0 < l.length) : ptn l k ∈ l:=Qd (ptn_mod (l:=l) (k:=k) h)
theorem ptn_B {l : List Pt} (hm : l.all mayB = true) (h : 0 < l.length) (k : Nat) : B2 (ptn l k):=mayB_B2 (Qj.1 hm _ (ptn_mem k h))
structure Val (l : List Pt) : Prop where
 n3 : 3≤l.length
 n12 : l.length≤12
 may : l.all mayB = true
 sim : simB l = true
 area : 0 < areaW l
theorem val_iff {l : List Pt} : valB l = true ↔ Val l:=by
 unfold valB
 simp only [Qg,decide_eq_true_eq]
 exact ⟨fun ⟨a,b,c,d,e⟩=>⟨a,b,c,d,e⟩,fun h=>⟨h.n3,h.n12,h.may,h.sim,h.area⟩⟩
theorem dE_bd {a b : Pt} (ha : mayB a = true) (hb : mayB b = true) : -386144720000000000≤dE (a,b)∧dE (a,b)≤386144720000000000:=by
 obtain ⟨⟨a1,a2⟩,a3,a4⟩:=mayB_B ha
 obtain ⟨⟨b1,b2⟩,b3,b4⟩:=mayB_B hb
 have p:=mul_bd a1 a2 b3 b4
 have q:=mul_bd a3 a4 b1 b2
 unfold dE; simp only; omega
theorem sum_bd (l : List Int) (K : Int) (h : ∀ x ∈ l,-K≤x∧x≤K) : -(K * l.length)≤l.sum∧l.sum≤K * l.length:=by
 induction l with
 | nil=>simp
 | cons a l ih =>
   have:=ih fun x hx=>h x (by simp [hx])
   have:=h a (by simp)
   simp only [Qb2,Q4]
   have e : K * ((l.length + 1 : Nat) : Int) = K * l.length + K:=by rw [Int.natCast_add,Int.mul_add]; simp
   rw [e]; omega
theorem areaW_val {l : List Pt} (h12 : l.length≤12) (hm : l.all mayB = true) : areaW l = ((eds l).map dE).sum:=by
 rw [areaW_sum]
 have:=sum_bd ((eds l).map dE) 386144720000000000 (fun x hx=>by
  obtain ⟨e,he,rfl⟩:=Q6.1 hx
  obtain ⟨i,hi⟩:=Qck he
  obtain ⟨h1,h2,h3⟩:=eds_get hi
  exact dE_bd (Qj.1 hm _ (Qd h2)) (Qj.1 hm _ (Qd h3)))
 rw [Qb,eds_len] at this
 exact wrap_small (by omega) (by omega)
theorem d10 : ((1,0) : Q2) ≠ (0,0):=by intro e; simp only [Prod.mk.injEq] at e; exact absurd e.1 (by decide)
theorem fl_hit {p : Pt} {e : Pt × Pt} (hp : B2 p) (h1 : B2 e.1) (h2 : B2 e.2) (hn : ¬ OnE (qp p) (qe e)) : flE p e = decide (hit (1,0) (sq (qp e.1) (qp p)) (sq (qp e.2) (qp p)) % 2 = 1):=by
 have y1 : 0 < xq (1,0) (sq (qp e.1) (qp p)) ↔ p.2 < e.1.2:=by
  have : xq (1,0) (sq (qp e.1) (qp p)) = ((e.1.2 - p.2 : Int) : Rat):=by unfold xq sq qp; rw [Qch]; grind
  rw [this,Qdo]; omega
 have y2 : 0 < xq (1,0) (sq (qp e.2) (qp p)) ↔ p.2 < e.2.2:=by
  have : xq (1,0) (sq (qp e.2) (qp p)) = ((e.2.2 - p.2 : Int) : Rat):=by unfold xq sq qp; rw [Qch]; grind
  rw [this,Qdo]; omega
 have hon : ¬ (withinB e.1.1 e.1.2 e.2.1 e.2.2 p.1 p.2 = true∧cr e.1.1 e.1.2 e.2.1 e.2.2 p.1 p.2 = 0):=fun h=>hn ((onE_int p e.1 e.2).2 h)
 unfold flE hit
 rw [crW_B h1.1 h1.2 h2.1 h2.2 hp.1 hp.2,xq_int']
 simp only [y1,y2,Qdo,Qb8]
 have s1 : 0 < sgn (cr e.1.1 e.1.2 e.2.1 e.2.2 p.1 p.2) ↔ 0 < cr e.1.1 e.1.2 e.2.1 e.2.2 p.1 p.2 := by unfold sgn; repeat' split
                                                                                                       all_goals omega
 simp only [s1]
 by_cases a : p.2 < e.1.2 <;> by_cases b : p.2 < e.2.2
 ·simp [a,b]
 ·have c : ¬ e.1.2 < e.2.2:=by omega
  have hne : cr e.1.1 e.1.2 e.2.1 e.2.2 p.1 p.2 ≠ 0:=fun hc=>hon ⟨w_y hc (by omega) (by rw [mul_nn]; omega),hc⟩
  by_cases d : cr e.1.1 e.1.2 e.2.1 e.2.2 p.1 p.2 < 0
  ·have d' : ¬ 0 < cr e.1.1 e.1.2 e.2.1 e.2.2 p.1 p.2:=by omega
   simp [a,b,c,d,d']
  ·have d' : 0 < cr e.1.1 e.1.2 e.2.1 e.2.2 p.1 p.2:=by omega
   simp [a,b,c,d,d']
 ·have c : e.1.2 < e.2.2:=by omega
  by_cases d : 0 < cr e.1.1 e.1.2 e.2.1 e.2.2 p.1 p.2
  ·simp [a,b,c,d]
  ·simp [a,b,c,d]
 ·simp [a,b]
theorem par_fold (p : Pt) (es : List (Pt × Pt)) (f : Pt × Pt → Int) (h : ∀ e ∈ es,flE p e = decide (f e % 2 = 1)) : ∀ b : Bool,es.foldl (parF p) b = (b != decide ((es.map f).sum % 2 = 1)):=by
 induction es with
 | nil=>intro b; simp
 | cons e l ih =>
   intro b
   rw [Qa7,ih (fun x hx=>h x (by simp [hx]))]
   unfold parF
   rw [h e (by simp),Qk,Qb2]
   have e1 : (f e + (l.map f).sum) % 2 = 1 ↔ ((f e % 2 = 1) ↔ ¬ (l.map f).sum % 2 = 1):=by omega
   simp only [e1]
   by_cases a : f e % 2 = 1 <;> by_cases c : (l.map f).sum % 2 = 1 <;> cases b <;> simp [a,c]
theorem locI_wn {l : List Pt} {p : Pt} (hm : l.all mayB = true) (hp : B2 p) : locI l p = if (eds l).any (onE p) = true then 0 else if wn (1,0) (qp p) ((eds l).map qe) % 2 = 1 then 1 else -1:=by
 unfold locI
 by_cases h : (eds l).any (onE p) = true
 ·rw [if_pos h,if_pos h]
 ·rw [if_neg h,if_neg h]
  have hB : ∀ e ∈ eds l,B2 e.1∧B2 e.2:=fun e he=>by
   obtain ⟨i,hi⟩:=Qck he
   obtain ⟨h1,h2,h3⟩:=eds_get hi
   exact ⟨mayB_B2 (Qj.1 hm _ (Qd h2)),mayB_B2 (Qj.1 hm _ (Qd h3))⟩
  have hoff : ∀ e ∈ eds l,¬ OnE (qp p) (qe e):=fun e he ho=>by
   apply h
   rw [Qas]
   exact ⟨e,he,(onE_meets hp (hB e he).1 (hB e he).2).2 ho⟩
  rw [par_fold p (eds l) (fun e=>hit (1,0) (sq (qp e.1) (qp p)) (sq (qp e.2) (qp p))) (fun e he=>fl_hit hp (hB e he).1 (hB e he).2 (hoff e he))]
  unfold wn
  rw [Qap]
  simp only [Bool.false_bne,decide_eq_true_eq]
  rfl
end Go.Geo

namespace Go.Geo
open Go Go.Zv
/-! rigid motions of the plane -/
structure Mot where
 c : Rat
 s : Rat
 x : Rat
 y : Rat
 h : c * c + s * s = 1
def Mot.lin (M : Mot) (v : Q2) : Q2:=(M.c * v.1 - M.s * v.2,M.s * v.1 + M.c * v.2)
def Mot.app (M : Mot) (v : Q2) : Q2:=(M.c * v.1 - M.s * v.2 + M.x,M.s * v.1 + M.c * v.2 + M.y)
def Mot.back (M : Mot) (v : Q2) : Q2:=(M.c * (v.1 - M.x) + M.s * (v.2 - M.y),M.c * (v.2 - M.y) - M.s * (v.1 - M.x))
section
variable (M : Mot)
theorem Mot.app_back (z : Q2) : M.app (M.back z) = z:=by
 have:=M.h
 refine Qb7 ?_ ?_ <;> simp only [Mot.app,Mot.back] <;> grind
theorem Mot.sq_app (a b : Q2) : sq (M.app a) (M.app b) = M.lin (sq a b):=by
 refine Qb7 ?_ ?_ <;> simp only [Mot.app,Mot.lin,sq] <;> grind
theorem Mot.xq_lin (u v : Q2) : xq (M.lin u) (M.lin v) = xq u v:=by
 have:=M.h
 unfold xq Mot.lin; simp only
 have e : (M.c * u.1 - M.s * u.2) * (M.s * v.1 + M.c * v.2) - (M.s * u.1 + M.c * u.2) * (M.c * v.1 - M.s * v.2) = (M.c * M.c + M.s * M.s) * (u.1 * v.2 - u.2 * v.1):=by grind
 rw [e,this]; grind
theorem Mot.dq_lin (u v : Q2) : dq (M.lin u) (M.lin v) = dq u v:=by
 have:=M.h
 unfold dq Mot.lin; simp only
 have e : (M.c * u.1 - M.s * u.2) * (M.c * v.1 - M.s * v.2) + (M.s * u.1 + M.c * u.2) * (M.s * v.1 + M.c * v.2) = (M.c * M.c + M.s * M.s) * (u.1 * v.1 + u.2 * v.2):=by grind
 rw [e,this]; grind
theorem Mot.hit_lin (d u v : Q2) : hit (M.lin d) (M.lin u) (M.lin v) = hit d u v:=by
 unfold hit; simp only [Mot.xq_lin]
theorem Mot.on_app (z a b : Q2) : OnE (M.app z) (M.app a,M.app b) ↔ OnE z (a,b):=by
 unfold OnE OnV; simp only [Mot.sq_app,Mot.xq_lin,Mot.dq_lin]
theorem Mot.meets_app (a b c d : Q2) : Meets (M.app a) (M.app b) (M.app c) (M.app d) ↔ Meets a b c d:=by
 constructor
 ·rintro ⟨z,h1,h2⟩
  rw [← M.app_back z,M.on_app] at h1 h2
  exact ⟨_,h1,h2⟩
 ·rintro ⟨z,h1,h2⟩
  exact ⟨M.app z,(M.on_app ..).2 h1,(M.on_app ..).2 h2⟩
end
theorem ptn_map {l : List Pt} (f : Pt → Pt) (h : 0 < l.length) (k : Nat) : ptn (l.map f) k = f (ptn l k):=by
 have h1:=ptn_mod (l:=l.map f) (k:=k) (by simpa using h)
 rw [Qb,Qan,ptn_mod h] at h1
 simpa using h1.symm
theorem eds_map (f : Pt → Pt) (l : List Pt) : eds (l.map f) = (eds l).map fun e=>(f e.1,f e.2):=by
 by_cases h : 0 < l.length
 ·rw [eds_range,eds_range,Qb,Qap]
  refine Qal fun k _=>?_
  simp only [Function.comp_apply,edn,ptn_map f h]
 ·have : l = []:=List.length_eq_zero_iff.1 (by omega)
  subst this; rfl
theorem tel_r (g : Nat → Rat) (n : Nat) : ((List.range n).map fun k=>g (k + 1) - g k).sum = g n - g 0:=by
 induction n with
 | zero=>simp only [List.range_zero,Q0,List.sum_nil]; grind
 | succ n ih =>
   rw [Qa8,Ql,List.sum_append,ih]
   simp only [Qk,Q0,Qb2,List.sum_nil]; grind
theorem eds_tel_r (l : List Pt) (g : Pt → Rat) : ((eds l).map fun e=>g e.2 - g e.1).sum = 0:=by
 rw [eds_range,Qap]
 have:=tel_r (fun k=>g (ptn l k)) l.length
 have e : ptn l l.length = ptn l 0:=by have:=ptn_per l 0; rwa [Qbe] at this
 rw [e] at this
 have e2 : g (ptn l 0) - g (ptn l 0) = 0:=by grind
 rw [e2] at this
 exact this
theorem eds_mem {l : List Pt} {e : Pt × Pt} (h : e ∈ eds l) : e.1 ∈ l∧e.2 ∈ l:=by
 obtain ⟨i,hi⟩:=Qck h
 obtain ⟨h1,h2,h3⟩:=eds_get hi
 exact ⟨Qd h2,Qd h3⟩
theorem dE_xq (e : Pt × Pt) : ((dE e : Int) : Rat) = xq (qp e.1) (qp e.2):=by
 unfold dE xq qp; rw [Qch,Qbs,Qbs]
theorem any_congr2 {α : Type} {l : List α} {f g : α → Bool} (h : ∀ x ∈ l,f x = g x) : l.any f = l.any g:=by
 rw [Qa3,Qas,Qas]
 exact ⟨fun ⟨x,hx,hp⟩=>⟨x,hx,by rw [← h x hx]; exact hp⟩,fun ⟨x,hx,hp⟩=>⟨x,hx,by rw [h x hx]; exact hp⟩⟩
structure Moved (M : Mot) (f : Pt → Pt) (l : List Pt) : Prop where
 may : l.all mayB = true
 may' : (l.map f).all mayB = true
 mv : ∀ p ∈ l,qp (f p) = M.app (qp p)
section
variable {M : Mot} {f : Pt → Pt} {l : List Pt}
theorem Moved.area (h : Moved M f l) : ((eds (l.map f)).map dE).sum = ((eds l).map dE).sum:=by
 rw [← Rat.intCast_inj,sum_cast,sum_cast,eds_map,Qap,Qap,Qap]
 have h0:=eds_tel_r l (fun p=>xq (M.x,M.y) (M.lin (qp p)))
 have : ((eds l).map (((fun x : Int=>(x : Rat)) ∘ dE) ∘ fun e=>(f e.1,f e.2))) = (eds l).map fun e=>((dE e : Int) : Rat) + (xq (M.x,M.y) (M.lin (qp e.2)) - xq (M.x,M.y) (M.lin (qp e.1))):=by
  refine Qal fun e he=>?_
  obtain ⟨h1,h2⟩:=eds_mem he
  simp only [Function.comp_apply]
  rw [dE_xq,dE_xq]
  simp only
  rw [h.mv _ h1,h.mv _ h2,← M.xq_lin (qp e.1)]
  unfold xq Mot.app Mot.lin; simp only; grind
 rw [this]
 have add : ∀ (m : List (Pt × Pt)) (u v : Pt × Pt → Rat),(m.map fun e=>u e + v e).sum = (m.map u).sum + (m.map v).sum:=by
  intro m u v
  induction m with
  | nil=>simp only [Q0,List.sum_nil]; grind
  | cons e m ih=>simp only [Qk,Qb2,ih]; grind
 rw [add,h0]
 have : ((eds l).map ((fun x : Int=>(x : Rat)) ∘ dE)) = (eds l).map fun e=>((dE e : Int) : Rat):=rfl
 rw [this]; grind
theorem Moved.pt (h : Moved M f l) (h0 : 0 < l.length) (k : Nat) : qp (ptn (l.map f) k) = M.app (qp (ptn l k)):=by
 rw [ptn_map f h0,h.mv _ (ptn_mem k h0)]
theorem Moved.len (_h : Moved M f l) : (l.map f).length = l.length:=Qb ..
theorem Moved.sim (h : Moved M f l) : simB (l.map f) = simB l:=by
 by_cases h0 : 0 < l.length
 ·have hb:=ptn_B h.may h0
  have hb':=ptn_B h.may' (by rw [h.len]; exact h0)
  have hori : ∀ i,decide (oriE (ptn (l.map f) i) (ptn (l.map f) (i + 1)) (ptn (l.map f) (i + 2)) = 0) = decide (oriE (ptn l i) (ptn l (i + 1)) (ptn l (i + 2)) = 0):=fun i=>by
   unfold oriE
   rw [crW_B (hb i).1 (hb i).2 (hb (i + 1)).1 (hb (i + 1)).2 (hb (i + 2)).1 (hb (i + 2)).2,crW_B (hb' i).1 (hb' i).2 (hb' (i + 1)).1 (hb' (i + 1)).2 (hb' (i + 2)).1 (hb' (i + 2)).2]
   have e : cr (ptn (l.map f) i).1 (ptn (l.map f) i).2 (ptn (l.map f) (i + 1)).1 (ptn (l.map f) (i + 1)).2 (ptn (l.map f) (i + 2)).1 (ptn (l.map f) (i + 2)).2 = cr (ptn l i).1 (ptn l i).2 (ptn l (i + 1)).1 (ptn l (i + 1)).2 (ptn l (i + 2)).1 (ptn l (i + 2)).2:=by
    rw [← Rat.intCast_inj,← xq_int,← xq_int,h.pt h0,h.pt h0,h.pt h0,M.sq_app,M.sq_app,M.xq_lin]
   rw [e]
  have hcut : ∀ i k,cutE (edn (l.map f) i) (edn (l.map f) k) = cutE (edn l i) (edn l k):=fun i k=>by
   unfold edn
   rw [Qa3,cut_meets (hb' _) (hb' _) (hb' _) (hb' _),cut_meets (hb _) (hb _) (hb _) (hb _),h.pt h0,h.pt h0,h.pt h0,h.pt h0,M.meets_app]
  have h2 : ∀ i,bad2 (l.map f) i = bad2 l i:=fun i=>funext fun k=>by unfold bad2; rw [h.len,hcut]
  have h1 : bad1 (l.map f) = bad1 l:=funext fun i=>by unfold bad1; rw [hori,h2,h.len]
  unfold simB
  rw [h1,h.len]
 ·have : l = []:=List.length_eq_zero_iff.1 (by omega)
  subst this; rfl
theorem Moved.areaW (h : Moved M f l) (h12 : l.length≤12) : areaW (l.map f) = areaW l:=by
 rw [areaW_val (by rw [h.len]; exact h12) h.may',areaW_val h12 h.may,h.area]
theorem Moved.val (h : Moved M f l) : valB (l.map f) = valB l:=by
 unfold valB
 rw [h.len,h.may,h.may',h.sim]
 by_cases h12 : l.length≤12
 ·rw [h.areaW h12]
 ·simp [h12]
theorem Moved.loc (h : Moved M f l) {p : Pt} (hp : B2 p) (hp' : B2 (f p)) (hm : qp (f p) = M.app (qp p)) : locI (l.map f) (f p) = locI l p:=by
 have hbe : ∀ e ∈ eds l,(B2 e.1∧B2 e.2)∧B2 (f e.1)∧B2 (f e.2):=fun e he=>by
  obtain ⟨h1,h2⟩:=eds_mem he
  refine ⟨⟨mayB_B2 (Qj.1 h.may _ h1),mayB_B2 (Qj.1 h.may _ h2)⟩,mayB_B2 (Qj.1 h.may' _ ?_),mayB_B2 (Qj.1 h.may' _ ?_)⟩
  ·exact Q6.2 ⟨_,h1,rfl⟩
  ·exact Q6.2 ⟨_,h2,rfl⟩
 have hqe : ∀ e ∈ eds l,qe (f e.1,f e.2) = (M.app (qp e.1),M.app (qp e.2)):=fun e he=>by
  obtain ⟨h1,h2⟩:=eds_mem he
  unfold qe; simp only; rw [h.mv _ h1,h.mv _ h2]
 have hon : ∀ e ∈ eds l,onE (f p) (f e.1,f e.2) = onE p e:=fun e he=>by
  obtain ⟨⟨b1,b2⟩,b3,b4⟩:=hbe e he
  rw [Qa3,onE_meets hp' b3 b4,onE_meets hp b1 b2,hqe e he,hm,M.on_app]
  rfl
 rw [locI_wn h.may' hp',locI_wn h.may hp]
 have e1 : (eds (l.map f)).any (onE (f p)) = (eds l).any (onE p):=by
  rw [eds_map,List.any_map]
  exact any_congr2 fun e he=>hon e he
 rw [e1]
 by_cases ho : (eds l).any (onE p) = true
 ·rw [if_pos ho,if_pos ho]
 ·rw [if_neg ho,if_neg ho]
  have hoff : ∀ e ∈ eds l,¬ OnE (qp p) (qe e):=fun e he hx=>ho (by
   rw [Qas]
   exact ⟨e,he,(onE_meets hp (hbe e he).1.1 (hbe e he).1.2).2 hx⟩)
  have e2 : wn (1,0) (qp (f p)) ((eds (l.map f)).map qe) = wn (1,0) (qp p) ((eds l).map qe):=by
   have hd : ∃ d : Q2,M.lin d = (1,0):=⟨(M.c,-M.s),by
    have:=M.h
    refine Qb7 ?_ ?_ <;> simp only [Mot.lin] <;> grind⟩
   obtain ⟨d,hd⟩:=hd
   have hdn : d ≠ (0,0):=fun e=>by
    rw [e] at hd
    refine d10 ?_
    rw [← hd]
    refine Qb7 ?_ ?_ <;> simp only [Mot.lin] <;> grind
   have hp0 : Path (pqf l 0) (pqf l 0) ((eds l).map qe):=by
    have:=chn_path (pqf l) 0 l.length
    rw [← eds_chn,Qbe] at this
    have e : pqf l l.length = pqf l 0:=by unfold pqf; rw [show l.length = 0 + l.length by omega,ptn_per]
    rw [e] at this
    exact this
   rw [wn_dir hp0 d10 hdn (fun g hg=>by
    obtain ⟨e,he,rfl⟩:=Q6.1 hg
    exact hoff e he)]
   rw [← hd,hm,eds_map]
   unfold wn
   rw [Qap,Qap,Qap]
   congr 1
   refine Qal fun e he=>?_
   simp only [Function.comp_apply]
   rw [hqe e he]
   simp only
   rw [M.sq_app,M.sq_app,M.hit_lin]; rfl
  rw [e2]
end
end Go.Geo

namespace Go.Geo
open Go Go.Zv
def cs : Nat → Int × Int
 | 0=>(65,0) | 1=>(63,16) | 2=>(60,25) | 3=>(56,33) | 4=>(52,39) | 5=>(39,52) | 6=>(33,56) | 7=>(25,60) | 8=>(16,63)
 | 9=>(0,65) | 10=>(-16,63) | 11=>(-25,60) | 12=>(-33,56) | 13=>(-39,52) | 14=>(-52,39) | 15=>(-56,33) | 16=>(-60,25) | 17=>(-63,16)
 | 18=>(-65,0) | 19=>(-63,-16) | 20=>(-60,-25) | 21=>(-56,-33) | 22=>(-52,-39) | 23=>(-39,-52) | 24=>(-33,-56) | 25=>(-25,-60) | 26=>(-16,-63)
 | 27=>(0,-65) | 28=>(16,-63) | 29=>(25,-60) | 30=>(33,-56) | 31=>(39,-52) | 32=>(52,-39) | 33=>(56,-33) | 34=>(60,-25) | 35=>(63,-16)
 | _=>(65,0)
def csI (q : Int) : Int × Int:=cs (q % 36).toNat
theorem cases36 {k : Int} (h1 : 0≤k) (h2 : k < 36) : k = 0 ∨ k = 1 ∨ k = 2 ∨ k = 3 ∨ k = 4 ∨ k = 5 ∨ k = 6 ∨ k = 7 ∨ k = 8 ∨ k = 9 ∨ k = 10 ∨ k = 11 ∨ k = 12 ∨ k = 13 ∨ k = 14 ∨ k = 15 ∨ k = 16 ∨ k = 17 ∨ k = 18 ∨ k = 19 ∨ k = 20 ∨ k = 21 ∨ k = 22 ∨ k = 23 ∨ k = 24 ∨ k = 25 ∨ k = 26 ∨ k = 27 ∨ k = 28 ∨ k = 29 ∨ k = 30 ∨ k = 31 ∨ k = 32 ∨ k = 33 ∨ k = 34 ∨ k = 35:=by omega
theorem csI_facts (q : Int) : (-65≤(csI q).1∧(csI q).1≤65)∧(-65≤(csI q).2∧(csI q).2≤65)∧(csI q).1 * (csI q).1 + (csI q).2 * (csI q).2 = 4225∧(csI (-q)).1 = (csI q).1∧(csI (-q)).2 = -(csI q).2:=by
 have h1 : 0≤q % 36:=by omega
 have h2 : q % 36 < 36:=by omega
 have h3 : (-q) % 36 = (36 - q % 36) % 36:=by omega
 unfold csI
 rw [h3]
 generalize q % 36 = k at *
 rcases cases36 h1 h2 with rfl | rfl | rfl | rfl | rfl | rfl | rfl | rfl | rfl | rfl | rfl | rfl | rfl | rfl | rfl | rfl | rfl | rfl | rfl | rfl | rfl | rfl | rfl | rfl | rfl | rfl | rfl | rfl | rfl | rfl | rfl | rfl | rfl | rfl | rfl | rfl <;> decide
def rx (q : Int) (p : Pt) : Int:=p.1 * (csI q).1 - p.2 * (csI q).2
def ry (q : Int) (p : Pt) : Int:=p.1 * (csI q).2 + p.2 * (csI q).1
def exB (q : Int) (p : Pt) : Bool:=decide ((rx q p).tmod 65 = 0) && decide ((ry q p).tmod 65 = 0)
def rqP (q : Int) (p : Pt) : Pt:=((rx q p).tdiv 65,(ry q p).tdiv 65)
def rzP (q : Int) (p : Pt) : Pt:=if exB q p = true then rqP q p else (0,0)
def rMot (q : Int) : Mot where
 c:=(((csI q).1 : Int) : Rat) / 65
 s:=(((csI q).2 : Int) : Rat) / 65
 x:=0
 y:=0
 h := by
   have h:=(csI_facts q).2.2.1
   have h2 : (((csI q).1 * (csI q).1 + (csI q).2 * (csI q).2 : Int) : Rat) = ((4225 : Int) : Rat):=by rw [h]
   rw [Qcy,Qbs,Qbs] at h2
   have : ((4225 : Int) : Rat) = 4225:=rfl
   grind
end Go.Geo

namespace Go.Geo
open Go Go.Zv
theorem eds_path (l : List Pt) : Path (pqf l 0) (pqf l 0) ((eds l).map qe):=by
 have:=chn_path (pqf l) 0 l.length
 rw [← eds_chn,Qbe] at this
 have e : pqf l l.length = pqf l 0:=by unfold pqf; rw [show l.length = 0 + l.length by omega,ptn_per]
 rw [e] at this
 exact this
theorem eds_B {l : List Pt} (hm : l.all mayB = true) {e : Pt × Pt} (he : e ∈ eds l) : B2 e.1∧B2 e.2:=by
 obtain ⟨h1,h2⟩:=eds_mem he
 exact ⟨mayB_B2 (Qj.1 hm _ h1),mayB_B2 (Qj.1 hm _ h2)⟩
theorem off_iff {l : List Pt} {p : Pt} (hm : l.all mayB = true) (hp : B2 p) : (eds l).any (onE p) = false ↔ ∀ e ∈ eds l,¬ OnE (qp p) (qe e):=by
 rw [Qa2]
 constructor
 ·intro h e he ho
  exact h e he ((onE_meets hp (eds_B hm he).1 (eds_B hm he).2).2 ho)
 ·intro h e he ho
  exact h e he ((onE_meets hp (eds_B hm he).1 (eds_B hm he).2).1 ho)
theorem loc_side {l : List Pt} (hm : l.all mayB = true) {p : Pt} (hp : B2 p) {d : Q2} (hd : d ≠ (0,0)) (h : ∀ q ∈ l,xq d (sq (qp q) (qp p)) < 0) : locI l p = -1:=by
 have hoff : ∀ e ∈ eds l,¬ OnE (qp p) (qe e):=fun e he ho=>by
  obtain ⟨h1,h2⟩:=eds_mem he
  obtain ⟨s,s0,s1,hs⟩:=on_param ho
  have k1:=h _ h1
  have k2:=h _ h2
  have e0 : (1 - s) * xq d (sq (qp e.1) (qp p)) + s * xq d (sq (qp e.2) (qp p)) = 0:=by
   have hz : xq d (sq (qp p) (qp p)) = 0:=by unfold xq sq; grind
   conv at hz=>lhs; arg 2; arg 1; rw [hs]
   rw [← hz]; unfold xq sq onp; grind
  by_cases hs0 : s = 0
  ·rw [hs0] at e0; grind
  ·have m1:=Qz (show 0≤1 - s by grind) (show 0 ≤ -xq d (sq (qp e.1) (qp p)) by grind)
   have m2:=Qbb (show 0 < s by grind) (show 0 < -xq d (sq (qp e.2) (qp p)) by grind)
   grind
 have ho:=(off_iff hm hp).2 hoff
 rw [locI_wn hm hp,ho,wn_dir (eds_path l) d10 hd (fun g hg=>by
  obtain ⟨e,he,rfl⟩:=Q6.1 hg
  exact hoff e he),wn_none_left fun g hg=>by
  obtain ⟨e,he,rfl⟩:=Q6.1 hg
  obtain ⟨h1,h2⟩:=eds_mem he
  have k1:=h _ h1
  have k2:=h _ h2
  unfold qe; simp only
  constructor <;> grind]
 simp
theorem loc_side' {l : List Pt} (hm : l.all mayB = true) {p : Pt} (hp : B2 p) {d : Q2} (hd : d ≠ (0,0)) (h : ∀ q ∈ l,0 < xq d (sq (qp q) (qp p))) : locI l p = -1:=by
 refine loc_side hm hp (d:=(-d.1,-d.2)) (fun e=>hd ?_) fun q hq=>?_
 ·simp only [Prod.mk.injEq] at e
  refine Qb7 ?_ ?_ <;> simp only <;> grind
 ·have:=h q hq
  have e : xq (-d.1,-d.2) (sq (qp q) (qp p)) = -xq d (sq (qp q) (qp p)):=by unfold xq; grind
  rw [e]; grind
theorem loc_walk {l : List Pt} (hm : l.all mayB = true) {p q : Pt} (hp : B2 p) (hq : B2 q) (h : ∀ e ∈ eds l,cutE e (p,q) = false) : locI l p = locI l q∧locI l p ≠ 0:=by
 have hM : ∀ e ∈ eds l,¬ Meets (qp e.1) (qp e.2) (qp p) (qp q):=fun e he hx=>by
  have:=(cut_meets (eds_B hm he).1 (eds_B hm he).2 hp hq).2 hx
  have h2:=h e he
  rw [show e = (e.1,e.2) from rfl,this] at h2
  cases h2
 have h1 : ∀ e ∈ eds l,¬ OnE (qp p) (qe e):=fun e he ho=>hM e he ⟨qp p,ho,on_left _ _⟩
 have h2 : ∀ e ∈ eds l,¬ OnE (qp q) (qe e):=fun e he ho=>hM e he ⟨qp q,ho,on_right _ _⟩
 have hw : wn (1,0) (qp p) ((eds l).map qe) = wn (1,0) (qp q) ((eds l).map qe):=wn_walk (eds_path l) d10 fun g hg=>by
  obtain ⟨e,he,rfl⟩:=Q6.1 hg
  exact hM e he
 rw [locI_wn hm hp,locI_wn hm hq,(off_iff hm hp).2 h1,(off_iff hm hq).2 h2,hw]
 refine ⟨rfl,?_⟩
 simp only [Qh,if_false]
 split <;> decide
end Go.Geo

namespace Go.Geo
open Go Go.Zv
/-! intersections of polygons -/
def beyB (e : Pt × Pt) (l : List Pt) : Bool:=l.all fun p=>decide (oriE e.1 e.2 p < 0)
def insB (p : List Pt) (i : Int) (q : List Pt) : Bool:=decide (0≤i) && (decide (i < p.length) && decide (locI q (ptn p i.toNat) ≠ -1))
def fcJ (a b : List Pt) (i : Nat) : Option Nat:=(List.range b.length).find? fun j=>cutE (edn a i) (edn b j)
def fcE (a b : List Pt) : Option Nat:=(List.range a.length).find? fun i=>(fcJ a b i).isSome
def fcA (a b : List Pt) : Option Nat:=(List.range a.length).find? fun i=>insB a i b
def FC (a b : List Pt) : Option (Int × Int × Int) :=
 match fcE a b with
 | some i=>Option.map (fun j : Nat=>((1 : Int),(i : Int),(j : Int))) (fcJ a b i)
 | none=>match fcA a b with
   | some i=>some (2,(i : Int),0)
   | none=>Option.map (fun j : Nat=>((3 : Int),(0 : Int),(j : Int))) (fcA b a)
def sepAt (a b : List Pt) (d : Int) : Bool:=decide (0≤d∧d < a.length) && beyB (edn a d.toNat) b
def isepB (a b : List Pt) (o d : Int) : Bool:=if o = 1 then sepAt b a d else decide (o = 0) && sepAt a b d
def icnB (a b : List Pt) (k i j : Int) : Bool :=
 if k = 1 then decide (0≤i∧i < a.length) && (decide (0≤j∧j < b.length) && cutE (edn a i.toNat) (edn b j.toNat))
 else if k = 2 then decide (j = 0) && insB a i b
 else if k = 3 then decide (i = 0) && insB b j a
 else false
def rgtE (l : List Pt) (i k : Nat) : Bool:=decide (oriE (ptn l i) (ptn l (i + 1)) (ptn l k) < 0)
def cvxB (l : List Pt) : Bool:=!(List.range l.length).any fun i=>(List.range l.length).any (rgtE l i)
end Go.Geo

/- The engine, part 33: a loop that leaves at the first index of a kind. -/
namespace Go.Zv
theorem loop_first (G : St → Option Out) (S : Nat → St) (n : Nat) (P : Nat → Bool) (R : Nat → Option Out → Prop) (e : Option Out)
  (stop : G (S n) = e)
  (step : ∀ k,k < n → (P k = true → R k (G (S k)))∧(P k = false → G (S k) = G (S (k + 1)))) :
  (∀ j,(List.range n).find? P = some j → R j (G (S 0)))∧((List.range n).find? P = none → G (S 0) = e):=by
 have h:=loop_P (σ:=Unit) G (fun k _=>S k) n (fun _ _=>True)
  (fun k _ o=>(∀ j,k≤j → j < n → P j = true → (∀ i,k≤i → i < j → P i = false) → R j o)∧((∀ j,k≤j → j < n → P j = false) → o = e))
  (fun _ _=>⟨fun j h1 h2=>by omega,fun _=>stop⟩) (fun k _ hk _=>by
   have hs:=step k hk
   cases hp : P k with
   | true =>
     left
     refine ⟨fun j h1 h2 h3 h4=>?_,fun h=>by have:=h k (Q8 _) hk; rw [hp] at this; cases this⟩
     by_cases e : j = k
     ·subst e; exact hs.1 hp
     ·have:=h4 k (Q8 _) (by omega); rw [hp] at this; cases this
   | false =>
     right
     refine ⟨(),trivial,hs.2 hp,fun o ho=>⟨fun j h1 h2 h3 h4=>?_,fun h=>ho.2 fun j h1 h2=>h j (by omega) h2⟩⟩
     by_cases e : j = k
     ·subst e; rw [hp] at h3; cases h3
     ·exact ho.1 j (by omega) h2 h3 fun i h5 h6=>h4 i (by omega) h6) 0 () (by omega) trivial
 refine ⟨fun j hj=>?_,fun hn=>?_⟩
 ·rw [List.find?_range_eq_some] at hj
  obtain ⟨h1,h2,h3⟩:=hj
  exact h.1 j (by omega) (Qq.1 h2) h1 fun i _ hi=>by have:=h3 i hi; simpa using this
 ·rw [List.find?_eq_none] at hn
  exact h.2 fun j _ hj=>by have:=hn j (Qq.2 hj); simpa using this
end Go.Zv

namespace Go.Proofs.YtbpneedpcccpaaaGreat.G
open Go Go.Zv
open Go.Geo
def trP (p q : Pt) : Pt:=(w64 (q.1 + p.1),w64 (q.2 + p.2))
abbrev FR40 (l : List Pt) : List Env:=[[(6,.fn (Fn.func 64) [] [.ptr 768 0]),(5,.vs (l.map c2)),(0,.vs (l.map c2)),(3,.ptr 768 0)]]
theorem c31 (l : List Pt) (hl : l.length≤1000000000) (px py : Int) : pc E 31 [.vs (l.map c2),.agg [.z px,.z py]] = some (.vs ((l.map (trP (px,py))).map c2)):=by
 have lp:=loop_idx (σ:=Unit) (fun S=>(K E A63_L0 S).bind (blockR 0 (some [5]) [7,17,18]))
  (fun k _=>⟨[(1,.fn (Fn.func 64) [] [.ptr 768 0]),(5,.bs 1049856 0 ((l.take k).map (fun q=>c2 (trP (px,py) q))).length),(8,.vs (l.map c2)),(9,.z l.length),(10,.z k)],FR40 l,[(1049856,.row 2 ((l.take k).map (fun q=>c2 (trP (px,py) q)))),(1049600,.row 2 []),(1024,.row 2 []),(768,.box [.z px,.z py])],1⟩)
  l.length (fun _ _=>True)
  (fun _ _=>some (.ex .nrm ⟨[(5,.bs 1049856 0 (l.map (fun q=>c2 (trP (px,py) q))).length)],FR40 l,[(1049856,.row 2 (l.map (fun q=>c2 (trP (px,py) q)))),(1049600,.row 2 []),(1024,.row 2 []),(768,.box [.z px,.z py])],1⟩))
  (fun _ _=>by
   show (K E A63_L0 _).bind _ = _
   rw [Qbn,A63_L0_eq]; simp +contextual -implicitDefEqProofs (maxSteps:=2000000) only [go_sem,A63_L0b,Qp])
  (fun k x hk _=>.inr ⟨(),trivial,by
   have hget : l[k]? = some (l[k]'hk):=Qf _
   have ht : l.take (k + 1) = l.take k++[l[k]'hk]:=by rw [Qa4,hget]; rfl
   rw [ht,Ql]
   generalize l[k]'hk = p at *
   have g1:=get_c2 hget
   have h1 : (k : Int) < l.length:=by omega
   have h0 : (0 : Int)≤k:=by omega
   have hw:=wr_k (k:=k) (by omega)
   have o1:=c65 p.1 p.2 px py
   have hr : ((l.take k).map (fun q=>c2 (trP (px,py) q))).length≤999999999:=by rw [Qb,Qbp]; omega
   generalize (l.take k).map (fun q=>c2 (trP (px,py) q)) = rows at *
   obtain ⟨x,y⟩:=p
   simp only at o1
   show (K E A63_L0 _).bind _ = (K E A63_L0 _).bind _
   conv=>lhs; rw [A63_L0_eq]
   simp +contextual -implicitDefEqProofs (maxSteps:=2000000) only [go_sem,FR40,A63_L0b,Qb,h0,h1,g1,hw,hr,o1,E_64,A64,trP,c2,Qk,Q0,Qm],rfl⟩) 0 () (by omega) trivial
 simp only [Qn,Qv,Qcq,Q0,Qa0] at lp
 have ht : List.take l.length (List.map (fun q=>c2 (trP (px,py) q)) l) = List.map (fun q=>c2 (trP (px,py) q)) l:=Qr (by simp)
 rw [pc_eq]; simp +contextual -implicitDefEqProofs (maxSteps:=2000000) only [go_sem,ht,E_31,A31,E_63,A63,Qb,lp,Qap,Function.comp_def]
def Bd9 (l : List Pt) : Prop:=∀ p ∈ l,(-1000000000≤p.1∧p.1≤1000000000)∧(-1000000000≤p.2∧p.2≤1000000000)
theorem c116 (l : List Pt) : pc E 116 [.vs (l.map c2)] = some (.fn (.func 130) [] [.fp [.vs (l.map c2)]]):=by
 have h:=cl_c2 l
 rw [pc_eq]; simp +contextual -implicitDefEqProofs (maxSteps:=2000000) only [go_sem,E_116,A116,h]
abbrev FR47 (l : List Pt) : Env:=[(3,.ptr 768 0),(4,.ptr 1024 0),(5,.ptr 1280 0),(9,.fn (Fn.func 130) [] [.fp [.vs (l.map c2)]])]
theorem c117 (p q : List Pt) (hq : q.length≤1000000000) (i : Int) : pc E 117 [.vs (p.map c2),.z i,.vs (q.map c2)] = some (.bool (insB p i q)):=by
 unfold insB
 by_cases h1 : 0≤i
 ·by_cases h2 : i < p.length
  ·have hi : i.toNat < p.length:=by omega
   have g:=get_c2 (ptn_get hi)
   have o1:=c26 q hq (ptn p i.toNat).1 (ptn p i.toNat).2
   rw [show ((ptn p i.toNat).1,(ptn p i.toNat).2) = ptn p i.toNat from rfl] at o1
   have e : ((i.toNat : Nat) : Int) = i:=by omega
   generalize locI q (ptn p i.toNat) = lo at *
   have hn : (lo != -1) = decide (lo ≠ -1):=by rw [bne,Qbd,decide_not]
   rw [pc_eq]; simp +contextual -implicitDefEqProofs (maxSteps:=2000000) only [go_sem,E_117,A117,h1,h2,Qb,g,e,o1,hn,decide_true,Q1]
  ·rw [pc_eq]; simp +contextual -implicitDefEqProofs (maxSteps:=2000000) only [go_sem,E_117,A117,h1,h2,Qb,decide_true,decide_false,Q1,Qt]
 ·rw [pc_eq]; simp +contextual -implicitDefEqProofs (maxSteps:=2000000) only [go_sem,E_117,A117,h1,Qb,decide_true,decide_false,Qt]
abbrev FR17 (a : List Pt) : Env:=[(0,.vs (a.map c2)),(3,.ptr 768 0),(4,.ptr 1024 0),(5,.ptr 1280 0),(13,.fn (Fn.func 130) [] [.fp [.vs (a.map c2)]])]
abbrev FI17 (b : List Pt) : Env:=[(4,.ptr 1024 0),(5,.ptr 1280 0),(6,.ptr 2098688 0),(7,.ptr 2098944 0),(17,.fn (Fn.func 130) [] [.fp [.vs (b.map c2)]])]
abbrev FF17 (a b : List Pt) (k ax ay bx by_ k1 : Int) (k1m : Nat) : List Env:=[FI17 b,[(0,.yl 3121153)],[(0,.yl 1024000)],[(23,.agg [.z ax,.z ay,.z bx,.z by_]),(22,.agg [.z bx,.z by_]),(21,.fp [.z bx,.z by_]),(20,.z k1m),(19,.z a.length),(18,.vs (a.map c2)),(17,.z k1),(16,.z k),(15,.vs (a.map c2)),(14,.agg [.z ax,.z ay]),(13,.z k),(12,.yl 1024000),(0,.yl 1024000),(1,.fp [.vs (a.map c2)]),(3,.z k),(4,.ptr 1049600 0),(5,.vs (a.map c2)),(6,.z a.length),(7,.z k)],FR17 a,[(0,.yl 1024000)]]
abbrev OO17 (a b : List Pt) (k ax ay bx by_ : Int) (st : LSt) (pe : AEx) (ok : Bool) (c0 c1 c2' : Int) : Heap:=[(3121153,.loop (FI17 b) [18,19] A88_R2a A88_R2b st pe),(2098944,.box [.z ax,.z ay,.z bx,.z by_]),(2098688,.box [.z k]),(1049600,.box [.z ax,.z ay]),(1024000,.loop (FR17 a) [14,15] A88_R3a A88_R3b LSt.busy AEx.nrm),(1280,.box [.bool ok]),(1024,.box [.z c0,.z c1,.z c2']),(768,.box [.vs (b.map c2)])]
theorem in17 (a b : List Pt) (hb : b.length≤1000000000) (k : Nat) (ax ay bx by_ k1 : Int) (k1m : Nat) (he : edn a k = ((ax,ay),(bx,by_))) :
  (∀ j,fcJ a b k = some j → (K E A130_L0 ⟨[(0,.yl 3121153),(1,.fp [.vs (b.map c2)]),(5,.vs (b.map c2)),(6,.z b.length),(7,.z 0)],FF17 a b k ax ay bx by_ k1 k1m,OO17 a b k ax ay bx by_ .ready .nrm false 0 0 0,3⟩).bind (blockR 0 (some []) [3,4,24]) =
   some (.ex .ret ⟨[(0,.yl 3121153),(1,.fp [.vs (b.map c2)]),(5,.vs (b.map c2)),(6,.z b.length),(7,.z j),(25,.bool true)],FF17 a b k ax ay bx by_ k1 k1m,OO17 a b k ax ay bx by_ .done .ret true 1 k j,3⟩)) ∧
  (fcJ a b k = none → (K E A130_L0 ⟨[(0,.yl 3121153),(1,.fp [.vs (b.map c2)]),(5,.vs (b.map c2)),(6,.z b.length),(7,.z 0)],FF17 a b k ax ay bx by_ k1 k1m,OO17 a b k ax ay bx by_ .ready .nrm false 0 0 0,3⟩).bind (blockR 0 (some []) [3,4,24]) =
   some (.ex .nrm ⟨[],FF17 a b k ax ay bx by_ k1 k1m,OO17 a b k ax ay bx by_ .ready .nrm false 0 0 0,3⟩)):=by
 have lp:=loop_first (fun S=>(K E A130_L0 S).bind (blockR 0 (some []) [3,4,24]))
  (fun j=>⟨[(0,.yl 3121153),(1,.fp [.vs (b.map c2)]),(5,.vs (b.map c2)),(6,.z b.length),(7,.z j)],FF17 a b k ax ay bx by_ k1 k1m,OO17 a b k ax ay bx by_ .ready .nrm false 0 0 0,3⟩)
  b.length (fun j=>cutE (edn a k) (edn b j))
  (fun j o=>o = some (.ex .ret ⟨[(0,.yl 3121153),(1,.fp [.vs (b.map c2)]),(5,.vs (b.map c2)),(6,.z b.length),(7,.z j),(25,.bool true)],FF17 a b k ax ay bx by_ k1 k1m,OO17 a b k ax ay bx by_ .done .ret true 1 k j,3⟩))
  (some (.ex .nrm ⟨[],FF17 a b k ax ay bx by_ k1 k1m,OO17 a b k ax ay bx by_ .ready .nrm false 0 0 0,3⟩))
  (by
   show (K E A130_L0 _).bind _ = _
   rw [A130_L0_eq]; simp +contextual -implicitDefEqProofs (maxSteps:=2000000) only [go_sem,A130_L0b,Qp])
  (fun j hj=>by
   rw [he]
   obtain ⟨_,g1,g2⟩:=eds_get (edn_get hj)
   have g1:=get_c2 g1
   have g2:=get_c2 g2
   obtain ⟨m1,m2,m3,m4,m5⟩:=mod_nat hj hb
   have hw:=wr_k (k:=j) (by omega)
   have h1 : (j : Int) < b.length:=by omega
   have h0 : (0 : Int)≤j:=by omega
   generalize edn b j = e at *
   obtain ⟨⟨cx,cy⟩,⟨dx,dy⟩⟩:=e
   have o1:=c96 ax ay bx by_ cx cy dx dy
   unfold cutE
   simp only
   refine ⟨fun hp=>?_,fun hp=>?_⟩
   ·rw [hp] at o1
    show (K E A130_L0 _).bind _ = _
    rw [A130_L0_eq]
    simp +contextual -implicitDefEqProofs (maxSteps:=2000000) only [go_sem,OO17,FF17,FI17,FR17,A130_L0b,A88_R2a,A88_R2b,Qb,h0,h1,g1,g2,m1,m2,m3,m4,m5,hw,o1]
   ·rw [hp] at o1
    show (K E A130_L0 _).bind _ = (K E A130_L0 _).bind _
    conv=>lhs; rw [A130_L0_eq]
    simp +contextual -implicitDefEqProofs (maxSteps:=2000000) only [go_sem,OO17,FF17,FI17,FR17,A130_L0b,A88_R2a,A88_R2b,Qb,h0,h1,g1,g2,m1,m2,m3,m4,m5,hw,o1])
 simp only [Qn,Qv] at lp
 exact lp
abbrev O17 (b : List Pt) (ok : Bool) (c0 c1 c2' : Int) : Heap:=[(1280,.box [.bool ok]),(1024,.box [.z c0,.z c1,.z c2']),(768,.box [.vs (b.map c2)])]
theorem out17 (a b : List Pt) (ha : a.length≤1000000000) (hb : b.length≤1000000000) :
  (∀ i,fcE a b = some i → ∀ j,fcJ a b i = some j → (K E A130_L0 ⟨[(0,.yl 1024000),(1,.fp [.vs (a.map c2)]),(5,.vs (a.map c2)),(6,.z a.length),(7,.z 0)],[FR17 a,[(0,.yl 1024000)]],(1024000,.loop (FR17 a) [14,15] A88_R3a A88_R3b LSt.ready AEx.nrm)::O17 b false 0 0 0,1⟩).bind (blockR 0 (some []) [3,4,24]) =
   some (.ex .ret ⟨[(0,.yl 1024000),(1,.fp [.vs (a.map c2)]),(5,.vs (a.map c2)),(6,.z a.length),(7,.z i),(25,.bool true)],[FR17 a,[(0,.yl 1024000)]],(1024000,.loop (FR17 a) [14,15] A88_R3a A88_R3b LSt.done AEx.ret)::O17 b true 1 i j,1⟩)) ∧
  (fcE a b = none → (K E A130_L0 ⟨[(0,.yl 1024000),(1,.fp [.vs (a.map c2)]),(5,.vs (a.map c2)),(6,.z a.length),(7,.z 0)],[FR17 a,[(0,.yl 1024000)]],(1024000,.loop (FR17 a) [14,15] A88_R3a A88_R3b LSt.ready AEx.nrm)::O17 b false 0 0 0,1⟩).bind (blockR 0 (some []) [3,4,24]) =
   some (.ex .nrm ⟨[],[FR17 a,[(0,.yl 1024000)]],(1024000,.loop (FR17 a) [14,15] A88_R3a A88_R3b LSt.ready AEx.nrm)::O17 b false 0 0 0,1⟩)):=by
 have h45:=c116 b
 have lp:=loop_first (fun S=>(K E A130_L0 S).bind (blockR 0 (some []) [3,4,24]))
  (fun k=>⟨[(0,.yl 1024000),(1,.fp [.vs (a.map c2)]),(5,.vs (a.map c2)),(6,.z a.length),(7,.z k)],[FR17 a,[(0,.yl 1024000)]],(1024000,.loop (FR17 a) [14,15] A88_R3a A88_R3b LSt.ready AEx.nrm)::O17 b false 0 0 0,1⟩)
  a.length (fun i=>(fcJ a b i).isSome)
  (fun i o=>∀ j,fcJ a b i = some j → o = some (.ex .ret ⟨[(0,.yl 1024000),(1,.fp [.vs (a.map c2)]),(5,.vs (a.map c2)),(6,.z a.length),(7,.z i),(25,.bool true)],[FR17 a,[(0,.yl 1024000)]],(1024000,.loop (FR17 a) [14,15] A88_R3a A88_R3b LSt.done AEx.ret)::O17 b true 1 i j,1⟩))
  (some (.ex .nrm ⟨[],[FR17 a,[(0,.yl 1024000)]],(1024000,.loop (FR17 a) [14,15] A88_R3a A88_R3b LSt.ready AEx.nrm)::O17 b false 0 0 0,1⟩))
  (by
   show (K E A130_L0 _).bind _ = _
   rw [A130_L0_eq]; simp +contextual -implicitDefEqProofs (maxSteps:=2000000) only [go_sem,A130_L0b,Qp])
  (fun k hk=>by
   obtain ⟨_,g1,g2⟩:=eds_get (edn_get hk)
   have g1:=get_c2 g1
   have g2:=get_c2 g2
   obtain ⟨m1,m2,m3,m4,m5⟩:=mod_nat hk ha
   have hw:=wr_k (k:=k) (by omega)
   have h1 : (k : Int) < a.length:=by omega
   have h0 : (0 : Int)≤k:=by omega
   have q:=in17 a b hb k (edn a k).1.1 (edn a k).1.2 (edn a k).2.1 (edn a k).2.2 (k + 1 : Nat) ((k + 1) % a.length) rfl
   generalize fcJ a b k = ff at *
   generalize edn a k = e at *
   obtain ⟨⟨ax,ay⟩,⟨bx,by_⟩⟩:=e
   simp only at g1 g2 q
   cases ff with
   | some j =>
     refine ⟨fun _ j' hj=>?_,fun h=>(by cases h)⟩
     cases hj
     have q:=q.1 j rfl
     simp only [OO17,FF17,FI17,FR17,A88_R2a,A88_R2b,A88_R3a,A88_R3b,A88_R2] at q
     show (K E A130_L0 _).bind _ = _
     rw [A130_L0_eq]
     simp +contextual -implicitDefEqProofs (maxSteps:=2000000) only [go_sem,O17,FR17,A130_L0b,A88_R2a,A88_R2b,A88_R3a,A88_R3b,A88_R2,Qb,h0,h1,g1,g2,m1,m2,m3,m4,m5,hw,h45,E_130,A130,q]
   | none =>
     refine ⟨fun h=>(by cases h),fun _=>?_⟩
     have q:=q.2 rfl
     simp only [OO17,FF17,FI17,FR17,A88_R2a,A88_R2b,A88_R3a,A88_R3b,A88_R2] at q
     show (K E A130_L0 _).bind _ = (K E A130_L0 _).bind _
     conv=>lhs; rw [A130_L0_eq]
     simp +contextual -implicitDefEqProofs (maxSteps:=2000000) only [go_sem,O17,FR17,A130_L0b,A88_R2a,A88_R2b,A88_R3a,A88_R3b,A88_R2,Qb,h0,h1,g1,g2,m1,m2,m3,m4,m5,hw,h45,E_130,A130,q])
 simp only [Qn,Qv] at lp
 exact lp
theorem l17_1 (a b : List Pt) (ha : a.length≤1000000000) (hb : b.length≤1000000000) :
  (∀ i,fcA a b = some i → (K E A88_L1 ⟨[(0,.vs (a.map c2)),(3,.ptr 768 0),(4,.ptr 1024 0),(5,.ptr 1280 0),(33,.z a.length),(34,.z 0)],[],O17 b false 0 0 0,0⟩).bind (blockR 4 (some [0,3,4,5]) [40]) = some (.ex .ret ⟨[(4,.ptr 1024 0),(5,.ptr 1280 0)],[],O17 b true 2 i 0,0⟩)) ∧
  (fcA a b = none → (K E A88_L1 ⟨[(0,.vs (a.map c2)),(3,.ptr 768 0),(4,.ptr 1024 0),(5,.ptr 1280 0),(33,.z a.length),(34,.z 0)],[],O17 b false 0 0 0,0⟩).bind (blockR 4 (some [0,3,4,5]) [40]) = some (.ex .nrm ⟨[(0,.vs (a.map c2)),(3,.ptr 768 0),(4,.ptr 1024 0),(5,.ptr 1280 0)],[],O17 b false 0 0 0,0⟩)):=by
 have lp:=loop_first (fun S=>(K E A88_L1 S).bind (blockR 4 (some [0,3,4,5]) [40]))
  (fun k=>⟨[(0,.vs (a.map c2)),(3,.ptr 768 0),(4,.ptr 1024 0),(5,.ptr 1280 0),(33,.z a.length),(34,.z k)],[],O17 b false 0 0 0,0⟩)
  a.length (fun i=>insB a i b)
  (fun i o=>o = some (.ex .ret ⟨[(4,.ptr 1024 0),(5,.ptr 1280 0)],[],O17 b true 2 i 0,0⟩))
  (some (.ex .nrm ⟨[(0,.vs (a.map c2)),(3,.ptr 768 0),(4,.ptr 1024 0),(5,.ptr 1280 0)],[],O17 b false 0 0 0,0⟩))
  (by
   show (K E A88_L1 _).bind _ = _
   rw [A88_L1_eq]; simp +contextual -implicitDefEqProofs (maxSteps:=2000000) only [go_sem,A88_L1b,Qp])
  (fun k hk=>by
   have hw:=wr_k (k:=k) (by omega)
   have h1 : (k : Int) < a.length:=by omega
   have o1:=c117 a b hb k
   refine ⟨fun hp=>?_,fun hp=>?_⟩
   ·rw [hp] at o1
    show (K E A88_L1 _).bind _ = _
    rw [A88_L1_eq]
    simp +contextual -implicitDefEqProofs (maxSteps:=2000000) only [go_sem,O17,A88_L1b,h1,hw,o1]
   ·rw [hp] at o1
    show (K E A88_L1 _).bind _ = (K E A88_L1 _).bind _
    conv=>lhs; rw [A88_L1_eq]
    simp +contextual -implicitDefEqProofs (maxSteps:=2000000) only [go_sem,O17,A88_L1b,h1,hw,o1])
 simp only [Qn,Qv] at lp
 exact lp
theorem l17_0 (a b : List Pt) (ha : a.length≤1000000000) (hb : b.length≤1000000000) :
  (∀ i,fcA b a = some i → (K E A88_L0 ⟨[(0,.vs (a.map c2)),(3,.ptr 768 0),(4,.ptr 1024 0),(5,.ptr 1280 0),(45,.z b.length),(46,.z 0)],[],O17 b false 0 0 0,0⟩).bind (blockR 6 (some [4,5]) [52]) = some (.ex .ret ⟨[(4,.ptr 1024 0),(5,.ptr 1280 0)],[],O17 b true 3 0 i,0⟩)) ∧
  (fcA b a = none → (K E A88_L0 ⟨[(0,.vs (a.map c2)),(3,.ptr 768 0),(4,.ptr 1024 0),(5,.ptr 1280 0),(45,.z b.length),(46,.z 0)],[],O17 b false 0 0 0,0⟩).bind (blockR 6 (some [4,5]) [52]) = some (.ex .nrm ⟨[(4,.ptr 1024 0),(5,.ptr 1280 0)],[],O17 b false 0 0 0,0⟩)):=by
 have lp:=loop_first (fun S=>(K E A88_L0 S).bind (blockR 6 (some [4,5]) [52]))
  (fun k=>⟨[(0,.vs (a.map c2)),(3,.ptr 768 0),(4,.ptr 1024 0),(5,.ptr 1280 0),(45,.z b.length),(46,.z k)],[],O17 b false 0 0 0,0⟩)
  b.length (fun i=>insB b i a)
  (fun i o=>o = some (.ex .ret ⟨[(4,.ptr 1024 0),(5,.ptr 1280 0)],[],O17 b true 3 0 i,0⟩))
  (some (.ex .nrm ⟨[(4,.ptr 1024 0),(5,.ptr 1280 0)],[],O17 b false 0 0 0,0⟩))
  (by
   show (K E A88_L0 _).bind _ = _
   rw [A88_L0_eq]; simp +contextual -implicitDefEqProofs (maxSteps:=2000000) only [go_sem,A88_L0b,Qp])
  (fun k hk=>by
   have hw:=wr_k (k:=k) (by omega)
   have h1 : (k : Int) < b.length:=by omega
   have o1:=c117 b a ha k
   refine ⟨fun hp=>?_,fun hp=>?_⟩
   ·rw [hp] at o1
    show (K E A88_L0 _).bind _ = _
    rw [A88_L0_eq]
    simp +contextual -implicitDefEqProofs (maxSteps:=2000000) only [go_sem,O17,A88_L0b,h1,hw,o1]
   ·rw [hp] at o1
    show (K E A88_L0 _).bind _ = (K E A88_L0 _).bind _
    conv=>lhs; rw [A88_L0_eq]
    simp +contextual -implicitDefEqProofs (maxSteps:=2000000) only [go_sem,O17,A88_L0b,h1,hw,o1])
 simp only [Qn,Qv] at lp
 exact lp
def conV : Option (Int × Int × Int) → LV
 | some (k,i,j)=>.tup [.agg [.z k,.z i,.z j],.bool true]
 | none=>.tup [.agg [.z 0,.z 0,.z 0],.bool false]
theorem c88 (a b : List Pt) (ha : a.length≤1000000000) (hb : b.length≤1000000000) : pc E 88 [.vs (a.map c2),.vs (b.map c2)] = some (conV (FC a b)):=by
 have h45:=c116 a
 have q3:=out17 a b ha hb
 have q1:=l17_1 a b ha hb
 have q0:=l17_0 a b ha hb
 simp only [FR17,O17] at q3 q1 q0
 unfold FC
 cases h1 : fcE a b with
 | some i =>
   have hs : ∃ j,fcJ a b i = some j:=by
    unfold fcE at h1
    rw [List.find?_range_eq_some] at h1
    exact Qcn.1 h1.1
   obtain ⟨j,hj⟩:=hs
   have q:=q3.1 i h1 j hj
   simp only [hj,Qay,conV]
   rw [pc_eq]; simp +contextual -implicitDefEqProofs (maxSteps:=2000000) only [go_sem,E_88,A88,h45,E_130,A130,A88_R3,Qb,q]
 | none =>
   have q:=q3.2 h1
   simp only
   cases h2 : fcA a b with
   | some i =>
     have r:=q1.1 i h2
     simp only [conV]
     rw [pc_eq]; simp +contextual -implicitDefEqProofs (maxSteps:=2000000) only [go_sem,E_88,A88,h45,E_130,A130,A88_R3,Qb,q,r]
   | none =>
     have r:=q1.2 h2
     cases h3 : fcA b a with
     | some j =>
       have s:=q0.1 j h3
       simp only [Qay,conV]
       rw [pc_eq]; simp +contextual -implicitDefEqProofs (maxSteps:=2000000) only [go_sem,E_88,A88,h45,E_130,A130,A88_R3,Qb,q,r,s]
     | none =>
       have s:=q0.2 h3
       simp only [Option.map_none,conV]
       rw [pc_eq]; simp +contextual -implicitDefEqProofs (maxSteps:=2000000) only [go_sem,E_88,A88,h45,E_130,A130,A88_R3,Qb,q,r,s]
theorem c57 (a b : List Pt) (ha : a.length≤1000000000) (hb : b.length≤1000000000) : pc E 57 [.vs (a.map c2),.vs (b.map c2)] = some (.bool (FC a b).isSome):=by
 have h:=c88 a b ha hb
 cases hf : FC a b with
 | none=>rw [hf] at h; simp only [conV] at h; rw [pc_eq]; simp +contextual -implicitDefEqProofs (maxSteps:=2000000) only [go_sem,E_57,A57,h,Option.isSome_none]
 | some t=>obtain ⟨k,i,j⟩:=t; rw [hf] at h; simp only [conV] at h; rw [pc_eq]; simp +contextual -implicitDefEqProofs (maxSteps:=2000000) only [go_sem,E_57,A57,h,Option.isSome_some]
end Go.Proofs.YtbpneedpcccpaaaGreat.G

namespace Go.Geo
open Go Go.Zv
/-! the parts of a cell: names, numbers, polygons -/
def c1 (n : Int) : List LV:=[.z n]
def t1 (s : List UInt8) : List LV:=[.str s]
def p1 (l : List Pt) : List LV:=[.vs (l.map c2)]
def letB (c : UInt8) : Bool:=(decide ((97 : Int)≤c.toNat) && decide ((c.toNat : Int)≤122)) || (decide ((65 : Int)≤c.toNat) && decide ((c.toNat : Int)≤90))
def badC (c : UInt8) : Bool:=!letB c && (!decide ((c.toNat : Int) = 95) && (decide ((c.toNat : Int) < 48) || decide ((57 : Int) < c.toNat)))
def nameB (s : List UInt8) : Bool:=decide (1≤s.length) && (decide (s.length≤12) && (letB (s.getD 0 0) && !(s.drop 1).any badC))
def ulB (l : List Int) (b : Int) (i : Nat) : Bool:=(decide (l.getD i 0 < 0) || decide (b≤l.getD i 0)) || (List.range i).any fun k=>decide (l.getD k 0 = l.getD i 0)
def unlB (l : List Int) (b : Int) : Bool:=!(List.range l.length).any (ulB l b)
def nmB (l : List (List UInt8)) (i : Nat) : Bool:=!nameB (l.getD i []) || (List.range i).any fun k=>decide (l.getD k [] = l.getD i [])
def nmsB (l : List (List UInt8)) : Bool:=!(List.range l.length).any (nmB l)
def polB (l : List (List Pt)) : Bool:=decide (l.length≤16) && l.all valB
def shpI (l : List Pt) (i : Nat) : Bool:=((decide ((ptn l i).1 < -10) || decide (10 < (ptn l i).1)) || (decide ((ptn l i).2 < -10) || decide (10 < (ptn l i).2))) || (List.range l.length).any fun k=>decide (oriE (ptn l i) (ptn l (i + 1)) (ptn l k) < 0)
def shpB (l : List Pt) : Bool:=decide (l.length≤4) && (valB l && !(List.range l.length).any (shpI l))
structure Plc where
 nm : List UInt8
 x : Int
 y : Int
 dx : Int
 dy : Int
 dn : Int
structure Prt where
 nm : List UInt8
 sh : List Pt
 at_ : Int
def plv (p : Plc) : List LV:=[.str p.nm,.z p.x,.z p.y,.z p.dx,.z p.dy,.z p.dn]
def prv (p : Prt) : List LV:=[.str p.nm,.vs (p.sh.map c2),.z p.at_]
instance : Inhabited Plc:=⟨⟨[],0,0,0,0,0⟩⟩
instance : Inhabited Prt:=⟨⟨[],[],0⟩⟩
def dirB (x y : Int) : Bool:=decide (-274625≤x) && (decide (x≤274625) && (decide (-274625≤y) && (decide (y≤274625) && decide (x * x + y * y = 75418890625))))
def badP (p : Plc) : Bool:=!decide (p.x.tmod 16 = 0) || (!decide (p.y.tmod 16 = 0) || (decide (373490000 < mxI p.x p.y) || (decide (mnI p.x p.y < -373490000) || (!decide (p.dn = 3) || !dirB p.dx p.dy))))
def plcB (l : List Plc) : Bool:=!l.any badP && (decide (l.length≤16) && nmsB (l.map (·.nm)))
def prtB (l : List Prt) (m : Int) : Bool:=(!l.any fun p=>!shpB p.sh) && (decide (l.length≤8) && (nmsB (l.map (·.nm)) && unlB (l.map (·.at_)) m))
def bouB (v a j : Int) : Bool:=decide (1≤v) && (decide (v≤8) && (decide (1≤a) && (decide (a≤4) && (decide (1≤j) && decide (j≤2)))))
theorem get_m {α : Type} (f : α → List LV) {l : List α} {i : Nat} {p : α} (h : l[i]? = some p) : (l.map f)[i]? = some (f p):=by
 rw [Qan,h]; rfl
theorem getD_of {α : Type} {l : List α} {i : Nat} (d : α) (h : i < l.length) : l[i]? = some (l.getD i d):=by
 rw [Qcb,Qf h]; rfl
end Go.Geo

namespace Go.Proofs.YtbpneedpcccpaaaGreat.G
open Go Go.Zv
open Go.Geo
theorem c123 (c : UInt8) : pc E 123 [.int .u8 c.toNat] = some (.bool (letB c)):=by
 unfold letB
 by_cases h1 : (97 : Int)≤c.toNat <;> by_cases h2 : (c.toNat : Int)≤122 <;> by_cases h3 : (65 : Int)≤c.toNat <;> by_cases h4 : (c.toNat : Int)≤90 <;> rw [pc_eq] <;> simp +contextual -implicitDefEqProofs (maxSteps:=2000000) only [go_sem,E_123,A123,h1,h2,h3,h4,decide_true,decide_false]
theorem in126 (s : List UInt8) (hs : s.length≤12) (h0 : 1≤s.length) :
  ((s.drop 1).any badC = true → (K E A103_L0 ⟨[(0,.str s),(3,.z 1)],[],[],0⟩).bind (blockR 0 (some []) [2,3,27]) = some (.ex .ret ⟨[(2,.bool false)],[],[],0⟩)) ∧
  ((s.drop 1).any badC = false → (K E A103_L0 ⟨[(0,.str s),(3,.z 1)],[],[],0⟩).bind (blockR 0 (some []) [2,3,27]) = some (.ex .nrm ⟨[],[],[],0⟩)):=by
 have lp:=loop_leave (σ:=Unit) (fun S=>(K E A103_L0 S).bind (blockR 0 (some []) [2,3,27]))
  (fun j _=>⟨[(0,.str s),(3,.z (1 + j : Nat))],[],[],0⟩)
  (s.drop 1) (fun _ _=>()) badC
  (fun o=>o = some (.ex .ret ⟨[(2,.bool false)],[],[],0⟩))
  (fun _=>some (.ex .nrm ⟨[],[],[],0⟩))
  (fun x=>by
   rw [Qbx]
   have h1 : ¬ ((1 + (s.length - 1) : Nat) : Int) < s.length:=by omega
   show (K E A103_L0 _).bind _ = _
   rw [A103_L0_eq]; simp +contextual -implicitDefEqProofs (maxSteps:=2000000) only [go_sem,A103_L0b,h1])
  (fun j c x hj he=>by
   rw [Qbx] at hj
   rw [Qbl] at he
   have hw : IntKind.i64.wrap (((1 + j : Nat) : Int) + 1) = ((1 + (j + 1) : Nat) : Int):=by rw [wr_k (by omega)]; rfl
   have h1 : ((1 + j : Nat) : Int) < s.length:=by omega
   have h2 : (0 : Int)≤((1 + j : Nat) : Int):=by omega
   generalize 1 + j = k at *
   have o1:=c123 c
   have hu : u8 c = .int .u8 c.toNat:=rfl
   unfold badC
   have b2 : ((c.toNat : Int) != 95) = !decide ((c.toNat : Int) = 95):=by rw [bne,Qbd]
   generalize (c.toNat : Int) = v at *
   generalize letB c = b1 at *
   generalize decide (v = 95) = u2 at *
   refine ⟨fun h=>?_,fun h=>?_⟩
   ·show (K E A103_L0 _).bind _ = _
    rw [A103_L0_eq]
    by_cases k1 : v < 48 <;> by_cases k2 : 57 < v <;> simp only [k1,k2,decide_true,decide_false] at h <;> cases b1 <;> cases u2 <;> first | (exact absurd h (by decide)) | simp +contextual -implicitDefEqProofs (maxSteps:=2000000) only [go_sem,A103_L0b,h1,h2,he,hu,hw,o1,b2,k1,k2,Qai,Qa5]
   ·show (K E A103_L0 _).bind _ = (K E A103_L0 _).bind _
    conv=>lhs; rw [A103_L0_eq]
    by_cases k1 : v < 48 <;> by_cases k2 : 57 < v <;> simp only [k1,k2,decide_true,decide_false] at h <;> cases b1 <;> cases u2 <;> first | (exact absurd h (by decide)) | simp +contextual -implicitDefEqProofs (maxSteps:=2000000) only [go_sem,A103_L0b,h1,h2,he,hu,hw,o1,b2,k1,k2,Qai,Qa5])
  ()
 exact lp
theorem c103 (s : List UInt8) : pc E 103 [.str s] = some (.bool (nameB s)):=by
 unfold nameB
 by_cases k1 : (s.length : Int) < 1
 ·have k1' : ¬ 1≤s.length:=by omega
  rw [pc_eq]; simp +contextual -implicitDefEqProofs (maxSteps:=2000000) only [go_sem,E_103,A103,k1,k1',decide_true,decide_false]
 ·have k1' : 1≤s.length:=by omega
  by_cases k2 : (12 : Int) < s.length
  ·have k2' : ¬ s.length≤12:=by omega
   rw [pc_eq]; simp +contextual -implicitDefEqProofs (maxSteps:=2000000) only [go_sem,E_103,A103,k1,k1',k2,k2',decide_true,decide_false]
  ·have k2' : s.length≤12:=by omega
   have g:=getD_of (0 : UInt8) (l:=s) (i:=0) (by omega)
   have o:=c123 (s.getD 0 0)
   have q:=in126 s k2' k1'
   have hu : ∀ c : UInt8,u8 c = .int .u8 c.toNat:=fun _=>rfl
   generalize s.getD 0 0 = c at *
   generalize (s.drop 1).any badC = b at *
   cases hb : letB c <;> rw [hb] at o
   ·rw [pc_eq]; simp +contextual -implicitDefEqProofs (maxSteps:=2000000) only [go_sem,E_103,A103,k1,k1',k2,k2',g,hu,o,decide_true,decide_false]
   ·cases b
    ·have q:=q.2 rfl
     rw [pc_eq]; simp +contextual -implicitDefEqProofs (maxSteps:=2000000) only [go_sem,E_103,A103,k1,k1',k2,k2',g,hu,o,q,decide_true,decide_false]
    ·have q:=q.1 rfl
     rw [pc_eq]; simp +contextual -implicitDefEqProofs (maxSteps:=2000000) only [go_sem,E_103,A103,k1,k1',k2,k2',g,hu,o,q,decide_true,decide_false]
theorem in104 (l : List Int) (b : Int) (hl : l.length≤1000) (i : Nat) (hi : i < l.length) :
  (((List.range i).any fun k=>decide (l.getD k 0 = l.getD i 0)) = true → (K E A42_L0 ⟨[(0,.vs (l.map c1)),(1,.z b),(5,.z i),(6,.z 0)],[],[],0⟩).bind (blockR 2 (some [0,1,5]) [4,6]) = some (.ex .ret ⟨[(4,.bool false)],[],[],0⟩)) ∧
  (((List.range i).any fun k=>decide (l.getD k 0 = l.getD i 0)) = false → (K E A42_L0 ⟨[(0,.vs (l.map c1)),(1,.z b),(5,.z i),(6,.z 0)],[],[],0⟩).bind (blockR 2 (some [0,1,5]) [4,6]) = some (.ex .nrm ⟨[(0,.vs (l.map c1)),(1,.z b),(5,.z i)],[],[],0⟩)):=by
 have lp:=loop_leave (σ:=Unit) (fun S=>(K E A42_L0 S).bind (blockR 2 (some [0,1,5]) [4,6]))
  (fun j _=>⟨[(0,.vs (l.map c1)),(1,.z b),(5,.z i),(6,.z j)],[],[],0⟩)
  (List.range i) (fun _ _=>()) (fun k=>decide (l.getD k 0 = l.getD i 0))
  (fun o=>o = some (.ex .ret ⟨[(4,.bool false)],[],[],0⟩))
  (fun _=>some (.ex .nrm ⟨[(0,.vs (l.map c1)),(1,.z b),(5,.z i)],[],[],0⟩))
  (fun x=>by
   rw [Qx]
   show (K E A42_L0 _).bind _ = _
   rw [A42_L0_eq]; simp +contextual -implicitDefEqProofs (maxSteps:=2000000) only [go_sem,A42_L0b,Qp])
  (fun j j' x hj he=>by
   rw [Qx] at hj
   rw [range_get hj] at he
   cases he
   have g1:=get_m c1 (getD_of (0 : Int) (l:=l) (i:=i) hi)
   have g2:=get_m c1 (getD_of (0 : Int) (l:=l) (i:=j) (by omega))
   simp only [c1] at g1 g2
   have hw:=wr_k (k:=j) (by omega)
   have h1 : (j : Int) < i:=by omega
   have h2 : (0 : Int)≤j:=by omega
   have h3 : (0 : Int)≤i:=by omega
   have h4 : (i : Int) < l.length:=by omega
   have h5 : (j : Int) < l.length:=by omega
   generalize l.getD i 0 = u at *
   generalize l.getD j 0 = v at *
   refine ⟨fun h=>?_,fun h=>?_⟩
   ·have h:=of_decide_eq_true h
    subst h
    show (K E A42_L0 _).bind _ = _
    rw [A42_L0_eq]
    simp +contextual -implicitDefEqProofs (maxSteps:=2000000) only [go_sem,A42_L0b,h1,h2,h3,h4,h5,g1,g2,hw,Qb,beq_self_eq_true]
   ·have h:=of_decide_eq_false h
    have h' : (v == u) = false:=by simpa using h
    show (K E A42_L0 _).bind _ = (K E A42_L0 _).bind _
    conv=>lhs; rw [A42_L0_eq]
    simp +contextual -implicitDefEqProofs (maxSteps:=2000000) only [go_sem,A42_L0b,h1,h2,h3,h4,h5,g1,g2,hw,Qb,h,h'])
  ()
 exact lp
theorem c42 (l : List Int) (b : Int) (hl : l.length≤1000) : pc E 42 [.vs (l.map c1),.z b] = some (.bool (unlB l b)):=by
 have lp:=loop_leave (σ:=Unit) (fun S=>(K E A42_L1 S).bind (blockR 0 (some []) [4,5,6]))
  (fun j _=>⟨[(0,.vs (l.map c1)),(1,.z b),(5,.z j)],[],[],0⟩)
  (List.range l.length) (fun _ _=>()) (ulB l b)
  (fun o=>o = some (.ex .ret ⟨[(4,.bool false)],[],[],0⟩))
  (fun _=>some (.ex .nrm ⟨[],[],[],0⟩))
  (fun x=>by
   rw [Qx]
   show (K E A42_L1 _).bind _ = _
   rw [A42_L1_eq]; simp +contextual -implicitDefEqProofs (maxSteps:=2000000) only [go_sem,A42_L1b,Qp,Qb])
  (fun i j' x hj he=>by
   rw [Qx] at hj
   rw [range_get hj] at he
   cases he
   have g1:=get_m c1 (getD_of (0 : Int) (l:=l) (i:=i) hj)
   simp only [c1] at g1
   have hw:=wr_k (k:=i) (by omega)
   have h3 : (0 : Int)≤i:=by omega
   have h4 : (i : Int) < l.length:=by omega
   have q:=in104 l b hl i hj
   unfold ulB
   generalize ((List.range i).any fun k=>decide (l.getD k 0 = l.getD i 0)) = t at *
   generalize l.getD i 0 = u at *
   refine ⟨fun h=>?_,fun h=>?_⟩
   ·show (K E A42_L1 _).bind _ = _
    rw [A42_L1_eq]
    by_cases k1 : u < 0
    ·simp +contextual -implicitDefEqProofs (maxSteps:=2000000) only [go_sem,A42_L1b,h3,h4,g1,hw,Qb,k1]
    ·by_cases k2 : b≤u
     ·simp +contextual -implicitDefEqProofs (maxSteps:=2000000) only [go_sem,A42_L1b,h3,h4,g1,hw,Qb,k1,k2]
     ·cases t
      ·simp only [k1,k2,decide_false] at h; exact absurd h (by decide)
      ·have q:=q.1 rfl
       simp +contextual -implicitDefEqProofs (maxSteps:=2000000) only [go_sem,A42_L1b,h3,h4,g1,hw,Qb,k1,k2,q]
   ·show (K E A42_L1 _).bind _ = (K E A42_L1 _).bind _
    conv=>lhs; rw [A42_L1_eq]
    by_cases k1 : u < 0
    ·simp only [k1,decide_true,Qao] at h; exact absurd h (by decide)
    ·by_cases k2 : b≤u
     ·simp only [k1,k2,decide_true,decide_false,Qao,Qah] at h; exact absurd h (by decide)
     ·cases t
      ·have q:=q.2 rfl
       simp +contextual -implicitDefEqProofs (maxSteps:=2000000) only [go_sem,A42_L1b,h3,h4,g1,hw,Qb,k1,k2,q]
      ·simp only [k1,k2,decide_false,Qaq] at h; exact absurd h (by decide))
  ()
 unfold unlB
 generalize (List.range l.length).any (ulB l b) = t at *
 simp only [Qn,Qv] at lp
 cases t
 ·have lp:=lp.2 rfl
  rw [pc_eq]; simp +contextual -implicitDefEqProofs (maxSteps:=2000000) only [go_sem,E_42,A42,lp]
 ·have lp:=lp.1 rfl
  rw [pc_eq]; simp +contextual -implicitDefEqProofs (maxSteps:=2000000) only [go_sem,E_42,A42,lp]
end Go.Proofs.YtbpneedpcccpaaaGreat.G

namespace Go.Proofs.YtbpneedpcccpaaaGreat.R
open Go Go.Zv
open Go.Geo
theorem c124 (ax ay bx by_ px py : Int) : pc E 124 [.agg [.z ax,.z ay],.agg [.z bx,.z by_],.agg [.z px,.z py]] = some (.z (crW ax ay bx by_ px py)):=by
 rw [pc_eq]; simp +contextual -implicitDefEqProofs (maxSteps:=2000000) only [go_sem,E_124,A124,crW]
theorem c104 (ax ay bx by_ px py : Int) : pc E 104 [.agg [.z ax,.z ay],.agg [.z bx,.z by_],.agg [.z px,.z py]] = some (.z (sgn (crW ax ay bx by_ px py))):=by
 rw [pc_eq]; simp +contextual -implicitDefEqProofs (maxSteps:=2000000) only [go_sem,E_104,A104,c124,decide_eq_true_eq]
 unfold sgn; split <;> (try split) <;> rfl
end Go.Proofs.YtbpneedpcccpaaaGreat.R

namespace Go.Geo
open Go Go.Zv
def rbad2 (l : List Pt) (i j : Nat) : Bool:=(decide (i ≠ 0) || decide (i + 2 + j ≠ l.length - 1)) && cutE (edn l i) (edn l (i + 2 + j))
def rbad1 (l : List Pt) (i : Nat) : Bool:=decide (oriE (ptn l i) (ptn l (i + 1)) (ptn l (i + 2)) = 0) || (List.range (l.length - (i + 2))).any (rbad2 l i)
theorem cutE_comm {a b c d : Pt} (ha : B2 a) (hb : B2 b) (hc : B2 c) (hd : B2 d) : cutE (c,d) (a,b) = cutE (a,b) (c,d):=by
 unfold cutE; exact cut_s2 (B8_of ha hb hc hd)
theorem adjB_false {n i k : Nat} (hi : i < n) (hk : k < n) : adjB n i k = false ↔ k ≠ i∧k ≠ i + 1∧i ≠ k + 1 ∧ ¬ (i = 0∧k = n - 1) ∧ ¬ (k = 0∧i = n - 1):=by
 unfold adjB
 simp only [Qba,decide_eq_false_iff_not]
 have e1 : (i + 1) % n = if i + 1 = n then 0 else i + 1:=by
  split
  ·next h=>rw [h,Nat.mod_self]
  ·exact Qc8 (by omega)
 have e2 : (k + 1) % n = if k + 1 = n then 0 else k + 1:=by
  split
  ·next h=>rw [h,Nat.mod_self]
  ·exact Qc8 (by omega)
 rw [e1,e2]
 split <;> split <;> omega
theorem simB_right {l : List Pt} (hm : l.all mayB = true) (h0 : 0 < l.length) : simB l = !(List.range l.length).any (rbad1 l):=by
 unfold simB
 congr 1
 rw [Qa3,Qas,Qas]
 constructor
 ·rintro ⟨i,hi,hb⟩
  have hi':=Qq.1 hi
  unfold bad1 at hb
  rw [Qau,Qas] at hb
  rcases hb with hb | ⟨k,hk,hb⟩
  ·exact ⟨i,hi,by unfold rbad1; rw [hb]; rfl⟩
  ·have hk':=Qq.1 hk
   unfold bad2 at hb
   rw [Qg,Qam] at hb
   obtain ⟨ha,hc⟩:=hb
   obtain ⟨a1,a2,a3,a4,a5⟩:=(adjB_false hi' hk').1 ha
   by_cases hlt : i < k
   ·refine ⟨i,hi,?_⟩
    unfold rbad1
    rw [Qau,Qas]
    refine .inr ⟨k - (i + 2),Qq.2 (by omega),?_⟩
    unfold rbad2
    rw [show i + 2 + (k - (i + 2)) = k by omega,hc,Qax,Qau,decide_eq_true_eq,decide_eq_true_eq]
    omega
   ·refine ⟨k,hk,?_⟩
    unfold rbad1
    rw [Qau,Qas]
    refine .inr ⟨i - (k + 2),Qq.2 (by omega),?_⟩
    unfold rbad2
    have hs : cutE (edn l k) (edn l i) = cutE (edn l i) (edn l k):=cutE_comm (ptn_B hm h0 i) (ptn_B hm h0 (i + 1)) (ptn_B hm h0 k) (ptn_B hm h0 (k + 1))
    rw [show k + 2 + (i - (k + 2)) = i by omega,hs,hc,Qax,Qau,decide_eq_true_eq,decide_eq_true_eq]
    omega
 ·rintro ⟨i,hi,hb⟩
  have hi':=Qq.1 hi
  unfold rbad1 at hb
  rw [Qau,Qas] at hb
  refine ⟨i,hi,?_⟩
  unfold bad1
  rcases hb with hb | ⟨j,hj,hb⟩
  ·rw [hb]; rfl
  ·have hj':=Qq.1 hj
   unfold rbad2 at hb
   rw [Qg,Qau,decide_eq_true_eq,decide_eq_true_eq] at hb
   obtain ⟨ha,hc⟩:=hb
   rw [Qau,Qas]
   refine .inr ⟨i + 2 + j,Qq.2 (by omega),?_⟩
   unfold bad2
   rw [(adjB_false hi' (by omega)).2 (by omega),hc]; rfl
end Go.Geo

namespace Go.Proofs.YtbpneedpcccpaaaGreat.R
open Go Go.Zv
open Go.Geo
theorem mayB_iff' {p : Pt} : mayB p = true ↔ (-439400000≤p.1∧p.1≤439400000)∧(-439400000≤p.2∧p.2≤439400000):=by
 unfold mayB mxI mnI
 simp only [Qg,decide_eq_true_eq]
 split <;> split <;> omega
theorem c97 (x y : Int) : pc E 97 [.agg [.z x,.z y]] = some (.bool (mayB (x,y))):=by
 have hw : IntKind.i64.wrap (-439400000) = -439400000:=by decide
 cases hb : mayB (x,y) with
 | true =>
   rw [mayB_iff'] at hb
   obtain ⟨⟨h1,h2⟩,h3,h4⟩:=hb
   simp only at h1 h2 h3 h4
   rw [pc_eq]; simp +contextual -implicitDefEqProofs (maxSteps:=2000000) only [go_sem,E_97,A97,h1,h2,h3,h4,hw]
 | false =>
   have hn : ¬ ((-439400000≤x∧x≤439400000)∧(-439400000≤y∧y≤439400000)):=fun h=>by rw [mayB_iff'.2 h] at hb; cases hb
   by_cases h1 : -439400000≤x
   ·by_cases h2 : x≤439400000
    ·by_cases h3 : -439400000≤y
     ·have h4 : ¬ y≤439400000:=by omega
      rw [pc_eq]; simp +contextual -implicitDefEqProofs (maxSteps:=2000000) only [go_sem,E_97,A97,h1,h2,h3,h4,hw,decide_false]
     ·rw [pc_eq]; simp +contextual -implicitDefEqProofs (maxSteps:=2000000) only [go_sem,E_97,A97,h1,h2,h3,hw,decide_false]
    ·rw [pc_eq]; simp +contextual -implicitDefEqProofs (maxSteps:=2000000) only [go_sem,E_97,A97,h1,h2,hw,decide_false]
   ·rw [pc_eq]; simp +contextual -implicitDefEqProofs (maxSteps:=2000000) only [go_sem,E_97,A97,h1,hw,decide_false]
theorem c98 (ax ay bx by_ px py : Int) : pc E 98 [.agg [.z ax,.z ay],.agg [.z bx,.z by_],.agg [.z px,.z py]] = some (.z (crW ax ay bx by_ px py)):=by
 rw [pc_eq]; simp +contextual -implicitDefEqProofs (maxSteps:=2000000) only [go_sem,E_98,A98,crW]
theorem c122 (n : Int) : pc E 122 [.z n] = some (.z (sgn n)):=by
 have hw : IntKind.i64.wrap (-1) = -1:=by decide
 unfold sgn
 by_cases h1 : 0 < n
 ·have h1' : n > 0:=h1
  rw [pc_eq]; simp +contextual -implicitDefEqProofs (maxSteps:=2000000) only [go_sem,E_122,A122,h1,h1',hw]
 ·by_cases h2 : n < 0
  ·rw [pc_eq]; simp +contextual -implicitDefEqProofs (maxSteps:=2000000) only [go_sem,E_122,A122,h1,h2,hw,gt_iff_lt]
  ·rw [pc_eq]; simp +contextual -implicitDefEqProofs (maxSteps:=2000000) only [go_sem,E_122,A122,h1,h2,hw,gt_iff_lt]
theorem c132 (a b x : Int) : pc E 132 [.z a,.z b,.z x] = some (.bool (decide (mnI a b≤x) && decide (x≤mxI a b))):=by
 have hv : (decide (mnI a b≤x) && decide (x≤mxI a b)) = ((decide (a≤x) && decide (x≤b)) || (decide (b≤x) && decide (x≤a))):=by
  unfold mnI mxI
  rw [Qa3]
  simp only [Qg,Qau,decide_eq_true_eq]
  split <;> split <;> omega
 rw [hv]
 by_cases h1 : a≤x <;> by_cases h2 : x≤b <;> by_cases h3 : b≤x <;> by_cases h4 : x≤a <;> rw [pc_eq] <;> simp +contextual -implicitDefEqProofs (maxSteps:=2000000) only [go_sem,E_132,A132,h1,h2,h3,h4,decide_true,decide_false]
theorem c119 (ax ay bx by_ px py : Int) : pc E 119 [.agg [.z ax,.z ay],.agg [.z bx,.z by_],.agg [.z px,.z py]] = some (.bool (onB ax ay bx by_ px py)):=by
 have o1:=c98 ax ay bx by_ px py
 have o2:=c132 ax bx px
 have o3:=c132 ay by_ py
 have hv : onB ax ay bx by_ px py = (decide (crW ax ay bx by_ px py = 0) && ((decide (mnI ax bx≤px) && decide (px≤mxI ax bx)) && (decide (mnI ay by_≤py) && decide (py≤mxI ay by_)))):=by
  unfold onB withinB
  rw [show decide (sgn (crW ax ay bx by_ px py) = 0) = decide (crW ax ay bx by_ px py = 0) from decide_eq_decide.2 sgn_eq0,Bool.and_comm,Qc3]
 rw [hv]
 generalize (decide (mnI ax bx≤px) && decide (px≤mxI ax bx)) = b1 at *
 generalize (decide (mnI ay by_≤py) && decide (py≤mxI ay by_)) = b2 at *
 generalize crW ax ay bx by_ px py = c at *
 by_cases h1 : c = 0
 ·subst h1
  cases b1 <;> rw [pc_eq] <;> simp +contextual -implicitDefEqProofs (maxSteps:=2000000) only [go_sem,E_119,A119,o1,o2,o3,decide_true,beq_self_eq_true]
 ·have h1' : (c == 0) = false:=by simpa using h1
  rw [pc_eq]; simp +contextual -implicitDefEqProofs (maxSteps:=2000000) only [go_sem,E_119,A119,o1,o2,o3,h1,h1',decide_false]
theorem c100 (ax ay bx by_ cx cy dx dy : Int) : pc E 100 [.agg [.z ax,.z ay],.agg [.z bx,.z by_],.agg [.z cx,.z cy],.agg [.z dx,.z dy]] = some (.bool (cutB ax ay bx by_ cx cy dx dy)):=by
 rw [← cut_eq_B]
 have q1:=c119 ax ay bx by_ cx cy
 have q2:=c119 ax ay bx by_ dx dy
 have q3:=c119 cx cy dx dy ax ay
 have q4:=c119 cx cy dx dy bx by_
 have s1:=c98 ax ay bx by_ cx cy
 have s2:=c98 ax ay bx by_ dx dy
 have s3:=c98 cx cy dx dy ax ay
 have s4:=c98 cx cy dx dy bx by_
 have t1:=c122 (crW ax ay bx by_ cx cy)
 have t2:=c122 (crW ax ay bx by_ dx dy)
 have t3:=c122 (crW cx cy dx dy ax ay)
 have t4:=c122 (crW cx cy dx dy bx by_)
 cases h1 : onB ax ay bx by_ cx cy with
 | true=>rw [h1] at q1; rw [pc_eq]; simp +contextual -implicitDefEqProofs (maxSteps:=2000000) only [go_sem,E_100,A100,q1]
 | false =>
   cases h2 : onB ax ay bx by_ dx dy with
   | true=>rw [h1] at q1; rw [h2] at q2; rw [pc_eq]; simp +contextual -implicitDefEqProofs (maxSteps:=2000000) only [go_sem,E_100,A100,q1,q2]
   | false =>
     cases h3 : onB cx cy dx dy ax ay with
     | true=>rw [h1] at q1; rw [h2] at q2; rw [h3] at q3; rw [pc_eq]; simp +contextual -implicitDefEqProofs (maxSteps:=2000000) only [go_sem,E_100,A100,q1,q2,q3]
     | false =>
       cases h4 : onB cx cy dx dy bx by_ with
       | true=>rw [h1] at q1; rw [h2] at q2; rw [h3] at q3; rw [h4] at q4; rw [pc_eq]; simp +contextual -implicitDefEqProofs (maxSteps:=2000000) only [go_sem,E_100,A100,q1,q2,q3,q4]
       | false =>
         rw [h1] at q1; rw [h2] at q2; rw [h3] at q3; rw [h4] at q4
         have e1 : IntKind.i64.wrap (sgn (crW ax ay bx by_ cx cy) * sgn (crW ax ay bx by_ dx dy)) = sdI ax ay bx by_ cx cy dx dy:=rfl
         have e2 : IntKind.i64.wrap (sgn (crW cx cy dx dy ax ay) * sgn (crW cx cy dx dy bx by_)) = sdI cx cy dx dy ax ay bx by_:=rfl
         generalize sdI ax ay bx by_ cx cy dx dy = u at *
         generalize sdI cx cy dx dy ax ay bx by_ = v at *
         by_cases k1 : u < 0 <;> by_cases k2 : v < 0 <;> rw [pc_eq] <;> simp +contextual -implicitDefEqProofs (maxSteps:=2000000) only [go_sem,E_100,A100,q1,q2,q3,q4,s1,s2,s3,s4,t1,t2,t3,t4,e1,e2,k1,k2,decide_true,decide_false]
theorem c99 (l : List Pt) (hl : l.length≤1000000000) (h0 : 0 < l.length) (k : Nat) (hk : k≤1000000000) : pc E 99 [.vs (l.map c2),.z k] = some (.agg [.z (ptn l k).1,.z (ptn l k).2]):=by
 have g:=get_c2 (ptn_mod (l:=l) (k:=k) h0)
 have h:=Qdr k h0
 have m1 : ((k : Nat) : Int).tmod (l.length : Int) = ((k % l.length : Nat) : Int):=by rw [Qbh (Int.natCast_nonneg k)]; rfl
 have m2 : ¬ (l.length : Int) = 0:=by omega
 have m3 : ((l.length : Int) == 0) = false:=beq_eq_false_iff_ne.2 m2
 have m4 : (0 : Int)≤((k % l.length : Nat) : Int):=Int.natCast_nonneg _
 have m5 : ((k % l.length : Nat) : Int) < l.length:=Int.ofNat_lt.2 h
 rw [pc_eq]; simp +contextual -implicitDefEqProofs (maxSteps:=2000000) only [go_sem,E_99,A99,Qb,g,m1,m2,m3,m4,m5]
theorem c101 (l : List Pt) (hl : l.length≤999999999) : pc E 101 [.vs (l.map c2)] = some (.z (areaW l)):=by
 have lp:=loop_foldl (fun S=>(K E A101_L0 S).bind (blockR 0 (some [3]) [4,5,6,15,19]))
  (fun k (x : Int)=>⟨[(0,.vs (l.map c2)),(3,.z x),(4,.z k)],[],[],0⟩)
  (eds l) arF (fun _=>True) (fun k e x hk he _=>⟨trivial,by
   have hk' : k < l.length:=by rw [eds_len] at hk; exact hk
   rw [edn_get hk'] at he
   cases he
   have g1:=c99 l (by omega) (by omega) k (by omega)
   have g2:=c99 l (by omega) (by omega) (k + 1) (by omega)
   have hw:=wr_k (k:=k) (by omega)
   have h1 : (k : Int) < l.length:=by omega
   have h0 : (0 : Int)≤k:=by omega
   unfold edn
   generalize ptn l k = p at *
   generalize ptn l (k + 1) = q at *
   obtain ⟨px,py⟩:=p
   obtain ⟨qx,qy⟩:=q
   show (K E A101_L0 _).bind _ = (K E A101_L0 _).bind _
   conv=>lhs; rw [A101_L0_eq]
   simp +contextual -implicitDefEqProofs (maxSteps:=2000000) only [go_sem,A101_L0b,Qb,h0,h1,g1,g2,hw]
   have e : IntKind.i64.wrap (IntKind.i64.wrap (x + IntKind.i64.wrap (px * qy)) - IntKind.i64.wrap (py * qx)) = arF x ((px,py),(qx,qy)):=by
    have a1:=w64_sub (x + w64 (px * qy)) (w64 (py * qx))
    have a2:=w64_add' x (w64 (px * qy) - w64 (py * qx))
    unfold w64 at a1 a2; unfold arF w64
    rw [a1,a2]; congr 1; omega
   rw [e]⟩) 0 trivial
 have stop : ∀ x : Int,(K E A101_L0 ⟨[(0,.vs (l.map c2)),(3,.z x),(4,.z l.length)],[],[],0⟩).bind (blockR 0 (some [3]) [4,5,6,15,19]) = some (.ex .nrm ⟨[(3,.z x)],[],[],0⟩):=fun x=>by
  rw [A101_L0_eq]; simp +contextual -implicitDefEqProofs (maxSteps:=2000000) only [go_sem,A101_L0b,Qp,Qb]
 rw [eds_len] at lp
 simp only [stop,Qn,Qv] at lp
 rw [pc_eq]; simp +contextual -implicitDefEqProofs (maxSteps:=2000000) only [go_sem,E_101,A101,Qb,lp,areaW]
theorem in30 (l : List Pt) (hl : l.length≤12) (i : Nat) (hi : i < l.length) :
  ((List.range (l.length - (i + 2))).any (rbad2 l i) = true → (K E A73_L0 ⟨[(0,.vs (l.map c2)),(3,.z l.length),(5,.z i),(6,.z (i + 2 : Nat))],[],[],0⟩).bind (blockR 4 (some [0,3,5]) [2,6,62,66,69,73,74]) = some (.ex .ret ⟨[(2,.bool false)],[],[],0⟩)) ∧
  ((List.range (l.length - (i + 2))).any (rbad2 l i) = false → (K E A73_L0 ⟨[(0,.vs (l.map c2)),(3,.z l.length),(5,.z i),(6,.z (i + 2 : Nat))],[],[],0⟩).bind (blockR 4 (some [0,3,5]) [2,6,62,66,69,73,74]) = some (.ex .nrm ⟨[(0,.vs (l.map c2)),(3,.z l.length),(5,.z i)],[],[],0⟩)):=by
 exact loop_leave (σ:=Unit) (fun S=>(K E A73_L0 S).bind (blockR 4 (some [0,3,5]) [2,6,62,66,69,73,74]))
  (fun j _=>⟨[(0,.vs (l.map c2)),(3,.z l.length),(5,.z i),(6,.z (i + 2 + j : Nat))],[],[],0⟩)
  (List.range (l.length - (i + 2))) (fun _ _=>()) (rbad2 l i)
  (fun o=>o = some (.ex .ret ⟨[(2,.bool false)],[],[],0⟩))
  (fun _=>some (.ex .nrm ⟨[(0,.vs (l.map c2)),(3,.z l.length),(5,.z i)],[],[],0⟩))
  (fun x=>by
   rw [Qx]
   have h1 : ¬ ((i + 2 + (l.length - (i + 2)) : Nat) : Int) < l.length:=by omega
   show (K E A73_L0 _).bind _ = _
   rw [A73_L0_eq]; simp +contextual -implicitDefEqProofs (maxSteps:=2000000) only [go_sem,A73_L0b,h1])
  (fun j j' x hj he=>by
   rw [Qx] at hj
   rw [range_get hj] at he
   cases he
   have g1:=c99 l (by omega) (by omega) i (by omega)
   have g2:=c99 l (by omega) (by omega) (i + 1) (by omega)
   have g3:=c99 l (by omega) (by omega) (i + 2 + j) (by omega)
   have g4:=c99 l (by omega) (by omega) (i + 2 + j + 1) (by omega)
   have hw:=wr_k (k:=i) (by omega)
   have hw2:=wr_k (k:=i + 2 + j) (by omega)
   have h1 : ((i + 2 + j : Nat) : Int) < l.length:=by omega
   have hs : IntKind.i64.wrap ((l.length : Int) - 1) = (l.length : Int) - 1:=wrap_small (by omega) (by omega)
   unfold rbad2 edn cutE
   have en : decide (i + 2 + j ≠ l.length - 1) = !decide (((i + 2 + j : Nat) : Int) = (l.length : Int) - 1):=by
    rw [← decide_not]; exact decide_eq_decide.2 (by omega)
   have ei : decide (i ≠ 0) = !decide ((i : Int) = 0):=by rw [← decide_not]; exact decide_eq_decide.2 (by omega)
   rw [en,ei]
   have b1 : (((i + 2 + j : Nat) : Int) != (l.length : Int) - 1) = !decide (((i + 2 + j : Nat) : Int) = (l.length : Int) - 1):=by
    rw [bne,Qbd]
   have b2 : ((i : Int) != 0) = !decide ((i : Int) = 0):=by rw [bne,Qbd]
   generalize decide ((i : Int) = 0) = u1 at *
   generalize decide (((i + 2 + j : Nat) : Int) = (l.length : Int) - 1) = u2 at *
   rw [show i + 2 + (j + 1) = i + 2 + j + 1 by omega]
   generalize i + 2 + j = k at *
   generalize ptn l i = p1 at *
   generalize ptn l (i + 1) = p2 at *
   generalize ptn l k = p3 at *
   generalize ptn l (k + 1) = p4 at *
   have o1:=c100 p1.1 p1.2 p2.1 p2.2 p3.1 p3.2 p4.1 p4.2
   simp only
   generalize cutB p1.1 p1.2 p2.1 p2.2 p3.1 p3.2 p4.1 p4.2 = cc at *
   refine ⟨fun h=>?_,fun h=>?_⟩
   ·show (K E A73_L0 _).bind _ = _
    rw [A73_L0_eq]
    cases u1 <;> cases u2 <;> cases cc <;> first | (exact absurd h (by decide)) | simp +contextual -implicitDefEqProofs (maxSteps:=2000000) only [go_sem,A73_L0b,h1,hs,b1,b2,Qai,Qa5,hw,hw2,g1,g2,g3,g4,o1]
   ·show (K E A73_L0 _).bind _ = (K E A73_L0 _).bind _
    conv=>lhs; rw [A73_L0_eq]
    cases u1 <;> cases u2 <;> cases cc <;> first | (exact absurd h (by decide)) | simp +contextual -implicitDefEqProofs (maxSteps:=2000000) only [go_sem,A73_L0b,h1,hs,b1,b2,Qai,Qa5,hw,hw2,g1,g2,g3,g4,o1])
  ()
theorem may30 (l : List Pt) (hl : l.length≤12) :
  (l.any (fun p=>!mayB p) = true → (K E A73_L2 ⟨[(0,.vs (l.map c2)),(3,.z l.length),(4,.z 0)],[],[],0⟩).bind (blockR 0 (some [0,3]) [2,4,24]) = some (.ex .ret ⟨[(2,.bool false)],[],[],0⟩)) ∧
  (l.any (fun p=>!mayB p) = false → (K E A73_L2 ⟨[(0,.vs (l.map c2)),(3,.z l.length),(4,.z 0)],[],[],0⟩).bind (blockR 0 (some [0,3]) [2,4,24]) = some (.ex .nrm ⟨[(0,.vs (l.map c2)),(3,.z l.length)],[],[],0⟩)):=by
 have lp:=loop_leave (σ:=Unit) (fun S=>(K E A73_L2 S).bind (blockR 0 (some [0,3]) [2,4,24]))
  (fun k _=>⟨[(0,.vs (l.map c2)),(3,.z l.length),(4,.z k)],[],[],0⟩)
  l (fun _ _=>()) (fun p=>!mayB p)
  (fun o=>o = some (.ex .ret ⟨[(2,.bool false)],[],[],0⟩))
  (fun _=>some (.ex .nrm ⟨[(0,.vs (l.map c2)),(3,.z l.length)],[],[],0⟩))
  (fun x=>by
   show (K E A73_L2 _).bind _ = _
   rw [A73_L2_eq]; simp +contextual -implicitDefEqProofs (maxSteps:=2000000) only [go_sem,A73_L2b,Qp])
  (fun k p x hk hp=>by
   have g1:=get_c2 hp
   have h1 : (k : Int) < l.length:=by omega
   have h0 : (0 : Int)≤k:=by omega
   have hw:=wr_k (k:=k) (by omega)
   obtain ⟨px,py⟩:=p
   have o1:=c97 px py
   refine ⟨fun h=>?_,fun h=>?_⟩
   ·simp only [Qam] at h
    rw [h] at o1
    show (K E A73_L2 _).bind _ = _
    rw [A73_L2_eq]
    simp +contextual -implicitDefEqProofs (maxSteps:=2000000) only [go_sem,A73_L2b,Qb,h0,h1,g1,hw,o1]
   ·simp only [Bool.not_eq_false'] at h
    rw [h] at o1
    show (K E A73_L2 _).bind _ = (K E A73_L2 _).bind _
    conv=>lhs; rw [A73_L2_eq]
    simp +contextual -implicitDefEqProofs (maxSteps:=2000000) only [go_sem,A73_L2b,Qb,h0,h1,g1,hw,o1])
  ()
 simp only [Qn,Qv] at lp
 exact lp
theorem out30 (l : List Pt) (hl : l.length≤12) (h0 : 0 < l.length) :
  ((List.range l.length).any (rbad1 l) = true → (K E A73_L1 ⟨[(0,.vs (l.map c2)),(3,.z l.length),(5,.z 0)],[],[],0⟩).bind (blockR 2 (some [0]) [2,5,6,33,37,41,42,62,66,69,73,74]) = some (.ex .ret ⟨[(2,.bool false)],[],[],0⟩)) ∧
  ((List.range l.length).any (rbad1 l) = false → (K E A73_L1 ⟨[(0,.vs (l.map c2)),(3,.z l.length),(5,.z 0)],[],[],0⟩).bind (blockR 2 (some [0]) [2,5,6,33,37,41,42,62,66,69,73,74]) = some (.ex .nrm ⟨[(0,.vs (l.map c2))],[],[],0⟩)):=by
 have lp:=loop_leave (σ:=Unit) (fun S=>(K E A73_L1 S).bind (blockR 2 (some [0]) [2,5,6,33,37,41,42,62,66,69,73,74]))
  (fun k _=>⟨[(0,.vs (l.map c2)),(3,.z l.length),(5,.z k)],[],[],0⟩)
  (List.range l.length) (fun _ _=>()) (rbad1 l)
  (fun o=>o = some (.ex .ret ⟨[(2,.bool false)],[],[],0⟩))
  (fun _=>some (.ex .nrm ⟨[(0,.vs (l.map c2))],[],[],0⟩))
  (fun x=>by
   rw [Qx]
   show (K E A73_L1 _).bind _ = _
   rw [A73_L1_eq]; simp +contextual -implicitDefEqProofs (maxSteps:=2000000) only [go_sem,A73_L1b,Qp])
  (fun i i' x hi he=>by
   rw [Qx] at hi
   rw [range_get hi] at he
   cases he
   have g1:=c99 l (by omega) (by omega) i (by omega)
   have g2:=c99 l (by omega) (by omega) (i + 1) (by omega)
   have g3:=c99 l (by omega) (by omega) (i + 2) (by omega)
   have hw:=wr_k (k:=i) (by omega)
   have hw2:=G.wr_2 (k:=i) (by omega)
   have h1 : (i : Int) < l.length:=by omega
   have o1:=c98 (ptn l i).1 (ptn l i).2 (ptn l (i + 1)).1 (ptn l (i + 1)).2 (ptn l (i + 2)).1 (ptn l (i + 2)).2
   have q:=in30 l hl i hi
   unfold rbad1 oriE
   rw [show decide (sgn (crW (ptn l i).1 (ptn l i).2 (ptn l (i + 1)).1 (ptn l (i + 1)).2 (ptn l (i + 2)).1 (ptn l (i + 2)).2) = 0) = decide (crW (ptn l i).1 (ptn l i).2 (ptn l (i + 1)).1 (ptn l (i + 1)).2 (ptn l (i + 2)).1 (ptn l (i + 2)).2 = 0) from decide_eq_decide.2 sgn_eq0]
   generalize (List.range (l.length - (i + 2))).any (rbad2 l i) = b2 at *
   generalize crW (ptn l i).1 (ptn l i).2 (ptn l (i + 1)).1 (ptn l (i + 1)).2 (ptn l (i + 2)).1 (ptn l (i + 2)).2 = s at *
   by_cases hs : s = 0
   ·subst hs
    refine ⟨fun _=>?_,fun h=>by simp at h⟩
    show (K E A73_L1 _).bind _ = _
    rw [A73_L1_eq]
    simp +contextual -implicitDefEqProofs (maxSteps:=2000000) only [go_sem,A73_L1b,h1,hw,hw2,g1,g2,g3,o1,beq_self_eq_true]
   ·have hs' : (s == 0) = false:=by simpa using hs
    cases b2 with
    | true =>
      refine ⟨fun _=>?_,fun h=>by simp at h⟩
      have q:=q.1 rfl
      show (K E A73_L1 _).bind _ = _
      rw [A73_L1_eq]
      simp +contextual -implicitDefEqProofs (maxSteps:=2000000) only [go_sem,A73_L1b,h1,hw,hw2,g1,g2,g3,o1,hs,hs',q]
    | false =>
      refine ⟨fun h=>by simp [hs] at h,fun _=>?_⟩
      have q:=q.2 rfl
      show (K E A73_L1 _).bind _ = (K E A73_L1 _).bind _
      conv=>lhs; rw [A73_L1_eq]
      simp +contextual -implicitDefEqProofs (maxSteps:=2000000) only [go_sem,A73_L1b,h1,hw,hw2,g1,g2,g3,o1,hs,hs',q])
  ()
 simp only [Qn,Qv] at lp
 exact lp
theorem c73 (l : List Pt) : pc E 73 [.vs (l.map c2)] = some (.bool (valB l)):=by
 have hv : valB l = (decide (3≤l.length) && (decide (l.length≤12) && (l.all mayB && (simB l && decide (0 < areaW l))))):=rfl
 rw [hv]
 by_cases k1 : (l.length : Int) < 3
 ·have k1' : ¬ 3≤l.length:=by omega
  rw [pc_eq]; simp +contextual -implicitDefEqProofs (maxSteps:=2000000) only [go_sem,E_73,A73,Qb,k1,k1',decide_true,decide_false]
 ·have k1' : 3≤l.length:=by omega
  by_cases k2 : (12 : Int) < l.length
  ·have k2' : ¬ l.length≤12:=by omega
   rw [pc_eq]; simp +contextual -implicitDefEqProofs (maxSteps:=2000000) only [go_sem,E_73,A73,Qb,k1,k1',k2,k2',decide_true,decide_false]
  ·have k2' : l.length≤12:=by omega
   have e : (l.any fun p=>!mayB p) = !l.all mayB:=by rw [List.all_eq_not_any_not]; simp
   have h1:=may30 l k2'
   have h2:=out30 l k2' (by omega)
   have h3:=c101 l (by omega)
   rw [e] at h1
   cases ha : l.all mayB <;> rw [ha] at h1
   ·have h1:=h1.1 rfl
    rw [pc_eq]; simp +contextual -implicitDefEqProofs (maxSteps:=2000000) only [go_sem,E_73,A73,Qb,k1,k1',k2,k2',h1,decide_true,decide_false]
   ·have h1:=h1.2 rfl
    rw [simB_right ha (by omega)]
    cases hs : (List.range l.length).any (rbad1 l) <;> rw [hs] at h2
    ·have h2:=h2.2 rfl
     by_cases k3 : 0 < areaW l
     ·rw [pc_eq]; simp +contextual -implicitDefEqProofs (maxSteps:=2000000) only [go_sem,E_73,A73,Qb,k1,k1',k2,k2',h1,h2,h3,k3,decide_true,decide_false]
     ·rw [pc_eq]; simp +contextual -implicitDefEqProofs (maxSteps:=2000000) only [go_sem,E_73,A73,Qb,k1,k1',k2,k2',h1,h2,h3,k3,decide_true,decide_false]
    ·have h2:=h2.1 rfl
     rw [pc_eq]; simp +contextual -implicitDefEqProofs (maxSteps:=2000000) only [go_sem,E_73,A73,Qb,k1,k1',k2,k2',h1,h2,decide_true,decide_false]
end Go.Proofs.YtbpneedpcccpaaaGreat.R

namespace Go.Proofs.YtbpneedpcccpaaaGreat.G
open Go Go.Zv
open Go.Geo
theorem in114 (l : List (List UInt8)) (hl : l.length≤1000) (i : Nat) (hi : i < l.length) :
  (((List.range i).any fun k=>decide (l.getD k [] = l.getD i [])) = true → (K E A75_L0 ⟨[(0,.vs (l.map t1)),(3,.z i),(4,.z 0)],[],[],0⟩).bind (blockR 2 (some [0,3]) [2,4]) = some (.ex .ret ⟨[(2,.bool false)],[],[],0⟩)) ∧
  (((List.range i).any fun k=>decide (l.getD k [] = l.getD i [])) = false → (K E A75_L0 ⟨[(0,.vs (l.map t1)),(3,.z i),(4,.z 0)],[],[],0⟩).bind (blockR 2 (some [0,3]) [2,4]) = some (.ex .nrm ⟨[(0,.vs (l.map t1)),(3,.z i)],[],[],0⟩)):=by
 have lp:=loop_leave (σ:=Unit) (fun S=>(K E A75_L0 S).bind (blockR 2 (some [0,3]) [2,4]))
  (fun j _=>⟨[(0,.vs (l.map t1)),(3,.z i),(4,.z j)],[],[],0⟩)
  (List.range i) (fun _ _=>()) (fun k=>decide (l.getD k [] = l.getD i []))
  (fun o=>o = some (.ex .ret ⟨[(2,.bool false)],[],[],0⟩))
  (fun _=>some (.ex .nrm ⟨[(0,.vs (l.map t1)),(3,.z i)],[],[],0⟩))
  (fun x=>by
   rw [Qx]
   show (K E A75_L0 _).bind _ = _
   rw [A75_L0_eq]; simp +contextual -implicitDefEqProofs (maxSteps:=2000000) only [go_sem,A75_L0b,Qp])
  (fun j j' x hj he=>by
   rw [Qx] at hj
   rw [range_get hj] at he
   cases he
   have g1:=get_m t1 (getD_of ([] : List UInt8) (l:=l) (i:=i) hi)
   have g2:=get_m t1 (getD_of ([] : List UInt8) (l:=l) (i:=j) (by omega))
   simp only [t1] at g1 g2
   have hw:=wr_k (k:=j) (by omega)
   have h1 : (j : Int) < i:=by omega
   have h2 : (0 : Int)≤j:=by omega
   have h3 : (0 : Int)≤i:=by omega
   have h4 : (i : Int) < l.length:=by omega
   have h5 : (j : Int) < l.length:=by omega
   generalize l.getD i [] = u at *
   generalize l.getD j [] = v at *
   refine ⟨fun h=>?_,fun h=>?_⟩
   ·have h:=of_decide_eq_true h
    subst h
    show (K E A75_L0 _).bind _ = _
    rw [A75_L0_eq]
    simp +contextual -implicitDefEqProofs (maxSteps:=2000000) only [go_sem,A75_L0b,h1,h2,h3,h4,h5,g1,g2,hw,Qb,beq_self_eq_true]
   ·have h:=of_decide_eq_false h
    have h' : (v == u) = false:=by simpa using h
    show (K E A75_L0 _).bind _ = (K E A75_L0 _).bind _
    conv=>lhs; rw [A75_L0_eq]
    simp +contextual -implicitDefEqProofs (maxSteps:=2000000) only [go_sem,A75_L0b,h1,h2,h3,h4,h5,g1,g2,hw,Qb,h,h'])
  ()
 exact lp
theorem c75 (l : List (List UInt8)) (hl : l.length≤1000) : pc E 75 [.vs (l.map t1)] = some (.bool (nmsB l)):=by
 have lp:=loop_leave (σ:=Unit) (fun S=>(K E A75_L1 S).bind (blockR 0 (some []) [2,3,4,15]))
  (fun j _=>⟨[(0,.vs (l.map t1)),(3,.z j)],[],[],0⟩)
  (List.range l.length) (fun _ _=>()) (nmB l)
  (fun o=>o = some (.ex .ret ⟨[(2,.bool false)],[],[],0⟩))
  (fun _=>some (.ex .nrm ⟨[],[],[],0⟩))
  (fun x=>by
   rw [Qx]
   show (K E A75_L1 _).bind _ = _
   rw [A75_L1_eq]; simp +contextual -implicitDefEqProofs (maxSteps:=2000000) only [go_sem,A75_L1b,Qp,Qb])
  (fun i j' x hj he=>by
   rw [Qx] at hj
   rw [range_get hj] at he
   cases he
   have g1:=get_m t1 (getD_of ([] : List UInt8) (l:=l) (i:=i) hj)
   simp only [t1] at g1
   have hw:=wr_k (k:=i) (by omega)
   have h3 : (0 : Int)≤i:=by omega
   have h4 : (i : Int) < l.length:=by omega
   have q:=in114 l hl i hj
   have o:=c103 (l.getD i [])
   unfold nmB
   generalize ((List.range i).any fun k=>decide (l.getD k [] = l.getD i [])) = t at *
   generalize l.getD i [] = u at *
   cases hb : nameB u <;> rw [hb] at o
   ·refine ⟨fun h=>?_,fun h=>absurd h (by simp)⟩
    show (K E A75_L1 _).bind _ = _
    rw [A75_L1_eq]
    simp +contextual -implicitDefEqProofs (maxSteps:=2000000) only [go_sem,A75_L1b,h3,h4,g1,hw,Qb,o]
   ·cases t
    ·refine ⟨fun h=>absurd h (by simp),fun h=>?_⟩
     have q:=q.2 rfl
     show (K E A75_L1 _).bind _ = (K E A75_L1 _).bind _
     conv=>lhs; rw [A75_L1_eq]
     simp +contextual -implicitDefEqProofs (maxSteps:=2000000) only [go_sem,A75_L1b,h3,h4,g1,hw,Qb,o,q]
    ·refine ⟨fun h=>?_,fun h=>absurd h (by simp)⟩
     have q:=q.1 rfl
     show (K E A75_L1 _).bind _ = _
     rw [A75_L1_eq]
     simp +contextual -implicitDefEqProofs (maxSteps:=2000000) only [go_sem,A75_L1b,h3,h4,g1,hw,Qb,o,q])
  ()
 unfold nmsB
 generalize (List.range l.length).any (nmB l) = t at *
 simp only [Qn,Qv] at lp
 cases t
 ·have lp:=lp.2 rfl
  rw [pc_eq]; simp +contextual -implicitDefEqProofs (maxSteps:=2000000) only [go_sem,E_75,A75,lp]
 ·have lp:=lp.1 rfl
  rw [pc_eq]; simp +contextual -implicitDefEqProofs (maxSteps:=2000000) only [go_sem,E_75,A75,lp]
theorem in115 (l : List Pt) (hl : l.length≤4) (i : Nat) (hi : i < l.length) :
  (((List.range l.length).any fun k=>decide (oriE (ptn l i) (ptn l (i + 1)) (ptn l k) < 0)) = true → (K E A76_L0 ⟨[(0,.vs (l.map c2)),(3,.z i),(4,.z 0)],[],[],0⟩).bind (blockR 2 (some [0,3]) [2,4,71]) = some (.ex .ret ⟨[(2,.bool false)],[],[],0⟩)) ∧
  (((List.range l.length).any fun k=>decide (oriE (ptn l i) (ptn l (i + 1)) (ptn l k) < 0)) = false → (K E A76_L0 ⟨[(0,.vs (l.map c2)),(3,.z i),(4,.z 0)],[],[],0⟩).bind (blockR 2 (some [0,3]) [2,4,71]) = some (.ex .nrm ⟨[(0,.vs (l.map c2)),(3,.z i)],[],[],0⟩)):=by
 have lp:=loop_leave (σ:=Unit) (fun S=>(K E A76_L0 S).bind (blockR 2 (some [0,3]) [2,4,71]))
  (fun j _=>⟨[(0,.vs (l.map c2)),(3,.z i),(4,.z j)],[],[],0⟩)
  (List.range l.length) (fun _ _=>()) (fun k=>decide (oriE (ptn l i) (ptn l (i + 1)) (ptn l k) < 0))
  (fun o=>o = some (.ex .ret ⟨[(2,.bool false)],[],[],0⟩))
  (fun _=>some (.ex .nrm ⟨[(0,.vs (l.map c2)),(3,.z i)],[],[],0⟩))
  (fun x=>by
   rw [Qx]
   show (K E A76_L0 _).bind _ = _
   rw [A76_L0_eq]; simp +contextual -implicitDefEqProofs (maxSteps:=2000000) only [go_sem,A76_L0b,Qp,Qb])
  (fun j j' x hj he=>by
   rw [Qx] at hj
   rw [range_get hj] at he
   cases he
   have g1:=get_c2 (ptn_get (l:=l) hi)
   have g2:=get_c2 (ptn_get (l:=l) hj)
   have g3:=get_c2 (ptn_mod (l:=l) (k:=i + 1) (by omega))
   obtain ⟨m1,m2,m3,m4,m5⟩:=mod_nat (k:=i) (n:=l.length) hi (by omega)
   have hw:=wr_k (k:=j) (by omega)
   have hw2:=wr_k (k:=i) (by omega)
   have h2 : (0 : Int)≤j:=by omega
   have h3 : (0 : Int)≤i:=by omega
   have h4 : (i : Int) < l.length:=by omega
   have h5 : (j : Int) < l.length:=by omega
   have o:=R.c104 (ptn l i).1 (ptn l i).2 (ptn l (i + 1)).1 (ptn l (i + 1)).2 (ptn l j).1 (ptn l j).2
   unfold oriE
   generalize sgn (crW (ptn l i).1 (ptn l i).2 (ptn l (i + 1)).1 (ptn l (i + 1)).2 (ptn l j).1 (ptn l j).2) = v at *
   generalize ptn l i = p1 at *
   generalize ptn l (i + 1) = p2 at *
   generalize ptn l j = p3 at *
   refine ⟨fun h=>?_,fun h=>?_⟩
   ·have h:=of_decide_eq_true h
    show (K E A76_L0 _).bind _ = _
    rw [A76_L0_eq]
    simp +contextual -implicitDefEqProofs (maxSteps:=2000000) only [go_sem,A76_L0b,h2,h3,h4,h5,g1,g2,g3,m1,m2,m3,m4,m5,hw,hw2,Qb,o,h]
   ·have h:=of_decide_eq_false h
    show (K E A76_L0 _).bind _ = (K E A76_L0 _).bind _
    conv=>lhs; rw [A76_L0_eq]
    simp +contextual -implicitDefEqProofs (maxSteps:=2000000) only [go_sem,A76_L0b,h2,h3,h4,h5,g1,g2,g3,m1,m2,m3,m4,m5,hw,hw2,Qb,o,h])
  ()
 exact lp
theorem c76 (l : List Pt) : pc E 76 [.vs (l.map c2)] = some (.bool (shpB l)):=by
 unfold shpB
 by_cases k1 : (4 : Int) < l.length
 ·have k1' : ¬ l.length≤4:=by omega
  rw [pc_eq]; simp +contextual -implicitDefEqProofs (maxSteps:=2000000) only [go_sem,E_76,A76,Qb,k1,k1',decide_true,decide_false]
 ·have k1' : l.length≤4:=by omega
  have hv:=R.c73 l
  cases hb : valB l <;> rw [hb] at hv
  ·rw [pc_eq]; simp +contextual -implicitDefEqProofs (maxSteps:=2000000) only [go_sem,E_76,A76,Qb,k1,k1',hv,decide_true,decide_false]
  ·have lp:=loop_leave (σ:=Unit) (fun S=>(K E A76_L1 S).bind (blockR 0 (some []) [2,3,4,71]))
    (fun j _=>⟨[(0,.vs (l.map c2)),(3,.z j)],[],[],0⟩)
    (List.range l.length) (fun _ _=>()) (shpI l)
    (fun o=>o = some (.ex .ret ⟨[(2,.bool false)],[],[],0⟩))
    (fun _=>some (.ex .nrm ⟨[],[],[],0⟩))
    (fun x=>by
     rw [Qx]
     show (K E A76_L1 _).bind _ = _
     rw [A76_L1_eq]; simp +contextual -implicitDefEqProofs (maxSteps:=2000000) only [go_sem,A76_L1b,Qp,Qb])
    (fun i j' x hj he=>by
     rw [Qx] at hj
     rw [range_get hj] at he
     cases he
     have g1:=get_c2 (ptn_get (l:=l) hj)
     have hw:=wr_k (k:=i) (by omega)
     have h3 : (0 : Int)≤i:=by omega
     have h4 : (i : Int) < l.length:=by omega
     have q:=in115 l k1' i hj
     unfold shpI
     generalize ((List.range l.length).any fun k=>decide (oriE (ptn l i) (ptn l (i + 1)) (ptn l k) < 0)) = t at *
     generalize ptn l i = p at *
     obtain ⟨px,py⟩:=p
     simp only at g1
     by_cases a1 : px < -10 <;> by_cases a2 : 10 < px <;> by_cases a3 : py < -10 <;> by_cases a4 : 10 < py <;> cases t <;> simp only [a1,a2,a3,a4,decide_true,decide_false,Qaq,Qb0,Qao,Qah] <;> refine ⟨fun h=>?_,fun h=>?_⟩ <;> first
      | (exact absurd h (by decide))
      | (have q:=q.1 rfl
         show (K E A76_L1 _).bind _ = some _
         rw [A76_L1_eq]
         simp +contextual -implicitDefEqProofs (maxSteps:=2000000) only [go_sem,A76_L1b,h3,h4,g1,hw,Qb,a1,a2,a3,a4,q])
      | (have q:=q.2 rfl
         show (K E A76_L1 _).bind _ = (K E A76_L1 _).bind _
         conv=>lhs; rw [A76_L1_eq]
         simp +contextual -implicitDefEqProofs (maxSteps:=2000000) only [go_sem,A76_L1b,h3,h4,g1,hw,Qb,a1,a2,a3,a4,q])
      | (show (K E A76_L1 _).bind _ = some _
         rw [A76_L1_eq]
         simp +contextual -implicitDefEqProofs (maxSteps:=2000000) only [go_sem,A76_L1b,h3,h4,g1,hw,Qb,a1,a2,a3,a4]))
    ()
   generalize (List.range l.length).any (shpI l) = t at *
   simp only [Qn,Qv] at lp
   cases t
   ·have lp:=lp.2 rfl
    rw [pc_eq]; simp +contextual -implicitDefEqProofs (maxSteps:=2000000) only [go_sem,E_76,A76,Qb,k1,k1',hv,lp,decide_true,decide_false]
   ·have lp:=lp.1 rfl
    rw [pc_eq]; simp +contextual -implicitDefEqProofs (maxSteps:=2000000) only [go_sem,E_76,A76,Qb,k1,k1',hv,lp,decide_true,decide_false]
theorem c38 (l : List (List Pt)) : pc E 38 [.vs (l.map p1)] = some (.bool (polB l)):=by
 unfold polB
 by_cases k1 : (16 : Int) < l.length
 ·have k1' : ¬ l.length≤16:=by omega
  rw [pc_eq]; simp +contextual -implicitDefEqProofs (maxSteps:=2000000) only [go_sem,E_38,A38,Qb,k1,k1',decide_true,decide_false]
 ·have k1' : l.length≤16:=by omega
  have lp:=loop_leave (σ:=Unit) (fun S=>(K E A38_L0 S).bind (blockR 0 (some []) [2,3,17]))
   (fun j _=>⟨[(0,.vs (l.map p1)),(3,.z j)],[],[],0⟩)
   l (fun _ _=>()) (fun p=>!valB p)
   (fun o=>o = some (.ex .ret ⟨[(2,.bool false)],[],[],0⟩))
   (fun _=>some (.ex .nrm ⟨[],[],[],0⟩))
   (fun x=>by
    show (K E A38_L0 _).bind _ = _
    rw [A38_L0_eq]; simp +contextual -implicitDefEqProofs (maxSteps:=2000000) only [go_sem,A38_L0b,Qp,Qb])
   (fun i p x hj he=>by
    have g1:=get_m p1 he
    simp only [p1] at g1
    have hw:=wr_k (k:=i) (by omega)
    have h3 : (0 : Int)≤i:=by omega
    have h4 : (i : Int) < l.length:=by omega
    have o:=R.c73 p
    cases hb : valB p <;> rw [hb] at o
    ·refine ⟨fun _=>?_,fun h=>absurd h (by decide)⟩
     show (K E A38_L0 _).bind _ = _
     rw [A38_L0_eq]
     simp +contextual -implicitDefEqProofs (maxSteps:=2000000) only [go_sem,A38_L0b,h3,h4,g1,hw,Qb,o]
    ·refine ⟨fun h=>absurd h (by decide),fun _=>?_⟩
     show (K E A38_L0 _).bind _ = (K E A38_L0 _).bind _
     conv=>lhs; rw [A38_L0_eq]
     simp +contextual -implicitDefEqProofs (maxSteps:=2000000) only [go_sem,A38_L0b,h3,h4,g1,hw,Qb,o])
   ()
  have e : (l.any fun p=>!valB p) = !l.all valB:=by rw [List.all_eq_not_any_not]; simp
  rw [e] at lp
  simp only [Qn,Qv] at lp
  cases ha : l.all valB <;> rw [ha] at lp
  ·have lp:=lp.1 rfl
   rw [pc_eq]; simp +contextual -implicitDefEqProofs (maxSteps:=2000000) only [go_sem,E_38,A38,Qb,k1,k1',lp,decide_true,decide_false]
  ·have lp:=lp.2 rfl
   rw [pc_eq]; simp +contextual -implicitDefEqProofs (maxSteps:=2000000) only [go_sem,E_38,A38,Qb,k1,k1',lp,decide_true,decide_false]
end Go.Proofs.YtbpneedpcccpaaaGreat.G

namespace Go.Proofs.YtbpneedpcccpaaaGreat.G
open Go Go.Zv
open Go.Geo
theorem c102_3 : pc E 102 [.z 3] = some (.z 274625):=by rw [pc_eq]; simp +contextual -implicitDefEqProofs (maxSteps:=2000000) only [go_sem,E_102,A102,A102_L0_eq,A102_L0b]
theorem c84g (x y : Int) : pc E 74 [.agg [.z x,.z y,.z 3]] = some (.bool (dirB x y)):=by
 have h:=c102_3
 have hn : IntKind.i64.wrap (-274625) = -274625:=by decide
 have h0 : ¬ ((3 : Int) < 0):=by omega
 have h2 : ¬ ((3 : Int) < 3):=by omega
 unfold dirB
 by_cases k1 : -274625≤x
 ·by_cases k2 : x≤274625
  ·by_cases k3 : -274625≤y
   ·by_cases k4 : y≤274625
    ·have m1:=mul_bd (A:=274625) (C:=274625) (x:=x) (y:=x) (by omega) (by omega) (by omega) (by omega)
     have m2:=mul_bd (A:=274625) (C:=274625) (x:=y) (y:=y) (by omega) (by omega) (by omega) (by omega)
     have w1 : IntKind.i64.wrap (x * x) = x * x:=wrap_small (by omega) (by omega)
     have w2 : IntKind.i64.wrap (y * y) = y * y:=wrap_small (by omega) (by omega)
     have w3 : IntKind.i64.wrap (274625 * 274625) = 75418890625:=by decide
     have w4 : IntKind.i64.wrap (x * x + y * y) = x * x + y * y:=wrap_small (by omega) (by omega)
     have b : (x * x + y * y == 75418890625) = decide (x * x + y * y = 75418890625):=Qbd _ _
     generalize decide (x * x + y * y = 75418890625) = d at *
     rw [pc_eq]; simp +contextual -implicitDefEqProofs (maxSteps:=2000000) only [go_sem,E_74,A74,h,hn,h0,h2,k1,k2,k3,k4,w1,w2,w3,w4,b,decide_true,decide_false]
    ·rw [pc_eq]; simp +contextual -implicitDefEqProofs (maxSteps:=2000000) only [go_sem,E_74,A74,h,hn,h0,h2,k1,k2,k3,k4,decide_true,decide_false]
   ·rw [pc_eq]; simp +contextual -implicitDefEqProofs (maxSteps:=2000000) only [go_sem,E_74,A74,h,hn,h0,h2,k1,k2,k3,decide_true,decide_false]
  ·rw [pc_eq]; simp +contextual -implicitDefEqProofs (maxSteps:=2000000) only [go_sem,E_74,A74,h,hn,h0,h2,k1,k2,decide_true,decide_false]
 ·rw [pc_eq]; simp +contextual -implicitDefEqProofs (maxSteps:=2000000) only [go_sem,E_74,A74,h,hn,h0,h2,k1,decide_true,decide_false]
theorem c37 (v a j : Int) : pc E 37 [.agg [.z v,.z a,.z j]] = some (.bool (bouB v a j)):=by
 unfold bouB
 by_cases k1 : 1≤v
 ·by_cases k2 : v≤8
  ·by_cases k3 : 1≤a
   ·by_cases k4 : a≤4
    ·by_cases k5 : 1≤j
     ·by_cases k6 : j≤2 <;> rw [pc_eq] <;> simp +contextual -implicitDefEqProofs (maxSteps:=2000000) only [go_sem,E_37,A37,k1,k2,k3,k4,k5,k6,decide_true,decide_false]
     ·rw [pc_eq]; simp +contextual -implicitDefEqProofs (maxSteps:=2000000) only [go_sem,E_37,A37,k1,k2,k3,k4,k5,decide_true,decide_false]
    ·rw [pc_eq]; simp +contextual -implicitDefEqProofs (maxSteps:=2000000) only [go_sem,E_37,A37,k1,k2,k3,k4,decide_true,decide_false]
   ·rw [pc_eq]; simp +contextual -implicitDefEqProofs (maxSteps:=2000000) only [go_sem,E_37,A37,k1,k2,k3,decide_true,decide_false]
  ·rw [pc_eq]; simp +contextual -implicitDefEqProofs (maxSteps:=2000000) only [go_sem,E_37,A37,k1,k2,decide_true,decide_false]
 ·rw [pc_eq]; simp +contextual -implicitDefEqProofs (maxSteps:=2000000) only [go_sem,E_37,A37,k1,decide_true,decide_false]
end Go.Proofs.YtbpneedpcccpaaaGreat.G

namespace Go.Proofs.YtbpneedpcccpaaaGreat.G
open Go Go.Zv
open Go.Geo
theorem w16 (x : Int) : IntKind.i64.wrap (x.tmod 16) = x.tmod 16:=by
 have h:=Qdb x (show (0 : Int) < 16 by omega)
 have h2:=Qdc x (show (0 : Int) < 16 by omega)
 exact wrap_small (by omega) (by omega)
def nm1 (l : List Plc) (k : Nat) : List (List LV):=(l.take k).map fun p=>t1 p.nm
theorem nm1_len (l) (k : Nat) (h : k≤l.length) : (nm1 l k).length = k:=by simp [nm1]; omega
theorem nm1_succ {l : List Plc} {k : Nat} {p : Plc} (h : l[k]? = some p) : nm1 l k++[[.str p.nm]] = nm1 l (k + 1):=by
 unfold nm1; rw [Qa4,h]; simp [t1]
theorem lp102 (l : List Plc) (hl : l.length≤16) :
  (l.any badP = true → ∃ X,(K E A40_L0 ⟨[(0,.vs (l.map plv)),(3,.bs 768 0 0),(4,.z 0)],[],[(768,.row 1 [])],0⟩).bind (blockR 0 (some [0,3]) [2,4,5,19,62]) = some (.ex .ret ⟨[(2,.bool false)],[],X,0⟩)) ∧
  (l.any badP = false → (K E A40_L0 ⟨[(0,.vs (l.map plv)),(3,.bs 768 0 0),(4,.z 0)],[],[(768,.row 1 [])],0⟩).bind (blockR 0 (some [0,3]) [2,4,5,19,62]) = some (.ex .nrm ⟨[(0,.vs (l.map plv)),(3,.bs 768 0 l.length)],[],[(768,.row 1 (nm1 l l.length))],0⟩)):=by
 have lp:=loop_leave (σ:=Unit) (fun S=>(K E A40_L0 S).bind (blockR 0 (some [0,3]) [2,4,5,19,62]))
  (fun k _=>⟨[(0,.vs (l.map plv)),(3,.bs 768 0 k),(4,.z k)],[],[(768,.row 1 (nm1 l k))],0⟩)
  l (fun _ _=>()) badP
  (fun o=>∃ X,o = some (.ex .ret ⟨[(2,.bool false)],[],X,0⟩))
  (fun _=>some (.ex .nrm ⟨[(0,.vs (l.map plv)),(3,.bs 768 0 l.length)],[],[(768,.row 1 (nm1 l l.length))],0⟩))
  (fun x=>by
   show (K E A40_L0 _).bind _ = _
   rw [A40_L0_eq]; simp +contextual -implicitDefEqProofs (maxSteps:=2000000) only [go_sem,A40_L0b,Qp,Qb])
  (fun k p x hk hp=>by
   have g1:=get_m plv hp
   simp only [plv] at g1
   have hw:=wr_k (k:=k) (by omega)
   have h3 : (0 : Int)≤k:=by omega
   have h4 : (k : Int) < l.length:=by omega
   have wl:=nm1_len l k (by omega)
   have wt : (nm1 l k).take k = nm1 l k:=Qr (by omega)
   have e:=nm1_succ hp
   have hb : k + 1≤1000000000:=by omega
   have b1 : (p.x.tmod 16 != 0) = !decide (p.x.tmod 16 = 0):=by rw [bne,Qbd]
   have b2 : (p.y.tmod 16 != 0) = !decide (p.y.tmod 16 = 0):=by rw [bne,Qbd]
   have w1:=w16 p.x
   have w2:=w16 p.y
   have o:=c84g p.dx p.dy
   unfold badP
   have hlen : (l.map plv).length = l.length:=Qb ..
   generalize (l.map plv) = rows at *
   generalize nm1 l k = ns at *
   generalize nm1 l (k + 1) = ns' at *
   generalize decide (p.x.tmod 16 = 0) = u1 at *
   generalize decide (p.y.tmod 16 = 0) = u2 at *
   have ret : ∀ X : Heap,(K E A40_L0 ⟨[(0,.vs rows),(3,.bs 768 0 k),(4,.z k)],[],[(768,.row 1 ns)],0⟩).bind (blockR 0 (some [0,3]) [2,4,5,19,62]) = some (.ex .ret ⟨[(2,.bool false)],[],X,0⟩) → ∃ X,(K E A40_L0 ⟨[(0,.vs rows),(3,.bs 768 0 k),(4,.z k)],[],[(768,.row 1 ns)],0⟩).bind (blockR 0 (some [0,3]) [2,4,5,19,62]) = some (.ex .ret ⟨[(2,.bool false)],[],X,0⟩):=fun X h=>⟨X,h⟩
   by_cases k3 : 373490000 < mxI p.x p.y
   ·simp only [k3,decide_true,Qao,Qaq]
    refine ⟨fun _=>ret [(4864,.row 1 [[.str p.nm]]),(768,.row 1 ns')] ?_,fun h=>absurd h (by decide)⟩
    rw [A40_L0_eq]
    cases u1 <;> cases u2 <;> simp +contextual -implicitDefEqProofs (maxSteps:=2000000) only [go_sem,A40_L0b,hlen,h3,h4,g1,hw,w1,w2,b1,b2,k3,wl,wt,e,hb,Q8,Qai,Qa5]
   by_cases k4 : mnI p.x p.y < -373490000
   ·simp only [k3,k4,decide_true,decide_false,Qao,Qaq]
    refine ⟨fun _=>ret [(4864,.row 1 [[.str p.nm]]),(768,.row 1 ns')] ?_,fun h=>absurd h (by decide)⟩
    rw [A40_L0_eq]
    cases u1 <;> cases u2 <;> simp +contextual -implicitDefEqProofs (maxSteps:=2000000) only [go_sem,A40_L0b,hlen,h3,h4,g1,hw,w1,w2,b1,b2,k3,k4,wl,wt,e,hb,Q8,Qai,Qa5]
   by_cases k5 : p.dn = 3
   ·rw [k5] at g1
    generalize dirB p.dx p.dy = u3 at *
    simp only [k3,k4,k5,decide_true,decide_false,Qai,Qah]
    cases u1 <;> cases u2 <;> cases u3 <;> refine ⟨fun h=>?_,fun h=>?_⟩ <;> first
     | (exact absurd h (by decide))
     | (refine ret [(4864,.row 1 [[.str p.nm]]),(768,.row 1 ns')] ?_
        rw [A40_L0_eq]
        simp +contextual -implicitDefEqProofs (maxSteps:=2000000) only [go_sem,A40_L0b,hlen,h3,h4,g1,hw,w1,w2,b1,b2,k3,k4,o,wl,wt,e,hb,Q8,Qai,Qa5])
     | (show (K E A40_L0 _).bind _ = (K E A40_L0 _).bind _
        conv=>lhs; rw [A40_L0_eq]
        simp +contextual -implicitDefEqProofs (maxSteps:=2000000) only [go_sem,A40_L0b,hlen,h3,h4,g1,hw,w1,w2,b1,b2,k3,k4,o,wl,wt,e,hb,Q8,Qai,Qa5])
   ·have b5 : (p.dn != 3) = true:=by simp [k5]
    simp only [k3,k4,k5,decide_true,decide_false,Qa5,Qao,Qaq]
    refine ⟨fun _=>ret [(4864,.row 1 [[.str p.nm]]),(768,.row 1 ns')] ?_,fun h=>absurd h (by decide)⟩
    rw [A40_L0_eq]
    cases u1 <;> cases u2 <;> simp +contextual -implicitDefEqProofs (maxSteps:=2000000) only [go_sem,A40_L0b,hlen,h3,h4,g1,hw,w1,w2,b1,b2,b5,k3,k4,k5,wl,wt,e,hb,Q8,Qai,Qa5])
  ()
 simp only [Qn,Qv,show nm1 l 0 = [] from rfl] at lp
 exact lp
theorem c40 (l : List Plc) (hl : l.length≤16) : pc E 40 [.vs (l.map plv)] = some (.bool (plcB l)):=by
 have lp:=lp102 l hl
 have hn:=c75 (l.map (·.nm)) (by rw [Qb]; omega)
 have e : (l.map (·.nm)).map t1 = nm1 l l.length:=by unfold nm1; rw [Qbn,Qap]; rfl
 rw [e] at hn
 have wl:=nm1_len l l.length (Q8 _)
 have wt : (nm1 l l.length).take l.length = nm1 l l.length:=Qr (by omega)
 have k16 : (l.length : Int)≤16:=by omega
 unfold plcB
 rw [decide_eq_true hl]
 generalize nm1 l l.length = ns at *
 cases hb : l.any badP <;> rw [hb] at lp
 ·have lp:=lp.2 rfl
  rw [pc_eq]; simp +contextual -implicitDefEqProofs (maxSteps:=2000000) only [go_sem,E_40,A40,lp,Qb,k16,hn,wl,wt,Q8,Qa5,Q1]
 ·obtain ⟨X,lp⟩:=lp.1 rfl
  rw [pc_eq]; simp +contextual -implicitDefEqProofs (maxSteps:=2000000) only [go_sem,E_40,A40,lp,Qai,Qt]
end Go.Proofs.YtbpneedpcccpaaaGreat.G

namespace Go.Proofs.YtbpneedpcccpaaaGreat.G
open Go Go.Zv
open Go.Geo
def pn1 (l : List Prt) (k : Nat) : List (List LV):=(l.take k).map fun p=>t1 p.nm
def pa1 (l : List Prt) (k : Nat) : List (List LV):=(l.take k).map fun p=>c1 p.at_
theorem pn1_len (l) (k : Nat) (h : k≤l.length) : (pn1 l k).length = k:=by simp [pn1]; omega
theorem pa1_len (l) (k : Nat) (h : k≤l.length) : (pa1 l k).length = k:=by simp [pa1]; omega
theorem pn1_succ {l : List Prt} {k : Nat} {p : Prt} (h : l[k]? = some p) : pn1 l k++[[.str p.nm]] = pn1 l (k + 1):=by
 unfold pn1; rw [Qa4,h]; simp [t1]
theorem pa1_succ {l : List Prt} {k : Nat} {p : Prt} (h : l[k]? = some p) : pa1 l k++[[.z p.at_]] = pa1 l (k + 1):=by
 unfold pa1; rw [Qa4,h]; simp [c1]
theorem lp103 (l : List Prt) (hl : l.length≤8) (m : Int) :
  ((l.any fun p=>!shpB p.sh) = true → ∃ X,(K E A41_L0 ⟨[(0,.vs (l.map prv)),(1,.z m),(5,.bs 1280 0 0),(6,.bs 1536 0 0),(7,.z 0)],[],[(1536,.row 1 []),(1280,.row 1 [])],0⟩).bind (blockR 0 (some [0,1,5,6]) [4,7,20,28,35]) = some (.ex .ret ⟨[(4,.bool false)],[],X,0⟩)) ∧
  ((l.any fun p=>!shpB p.sh) = false → (K E A41_L0 ⟨[(0,.vs (l.map prv)),(1,.z m),(5,.bs 1280 0 0),(6,.bs 1536 0 0),(7,.z 0)],[],[(1536,.row 1 []),(1280,.row 1 [])],0⟩).bind (blockR 0 (some [0,1,5,6]) [4,7,20,28,35]) = some (.ex .nrm ⟨[(0,.vs (l.map prv)),(1,.z m),(5,.bs 1280 0 l.length),(6,.bs 1536 0 l.length)],[],[(1536,.row 1 (pa1 l l.length)),(1280,.row 1 (pn1 l l.length))],0⟩)):=by
 have lp:=loop_leave (σ:=Unit) (fun S=>(K E A41_L0 S).bind (blockR 0 (some [0,1,5,6]) [4,7,20,28,35]))
  (fun k _=>⟨[(0,.vs (l.map prv)),(1,.z m),(5,.bs 1280 0 k),(6,.bs 1536 0 k),(7,.z k)],[],[(1536,.row 1 (pa1 l k)),(1280,.row 1 (pn1 l k))],0⟩)
  l (fun _ _=>()) (fun p=>!shpB p.sh)
  (fun o=>∃ X,o = some (.ex .ret ⟨[(4,.bool false)],[],X,0⟩))
  (fun _=>some (.ex .nrm ⟨[(0,.vs (l.map prv)),(1,.z m),(5,.bs 1280 0 l.length),(6,.bs 1536 0 l.length)],[],[(1536,.row 1 (pa1 l l.length)),(1280,.row 1 (pn1 l l.length))],0⟩))
  (fun x=>by
   show (K E A41_L0 _).bind _ = _
   rw [A41_L0_eq]; simp +contextual -implicitDefEqProofs (maxSteps:=2000000) only [go_sem,A41_L0b,Qp,Qb])
  (fun k p x hk hp=>by
   have g1:=get_m prv hp
   simp only [prv] at g1
   have hw:=wr_k (k:=k) (by omega)
   have h3 : (0 : Int)≤k:=by omega
   have h4 : (k : Int) < l.length:=by omega
   have wl:=pn1_len l k (by omega)
   have wt : (pn1 l k).take k = pn1 l k:=Qr (by omega)
   have wl2:=pa1_len l k (by omega)
   have wt2 : (pa1 l k).take k = pa1 l k:=Qr (by omega)
   have e:=pn1_succ hp
   have e2:=pa1_succ hp
   have hb : k + 1≤1000000000:=by omega
   have o:=c76 p.sh
   have hlen : (l.map prv).length = l.length:=Qb ..
   generalize (l.map prv) = rows at *
   generalize pn1 l k = ns at *
   generalize pn1 l (k + 1) = ns' at *
   generalize pa1 l k = as_ at *
   generalize pa1 l (k + 1) = as' at *
   cases hb2 : shpB p.sh <;> rw [hb2] at o
   ·refine ⟨fun _=>⟨[(7168,.row 1 [[.z p.at_]]),(5120,.row 1 [[.str p.nm]]),(1536,.row 1 as'),(1280,.row 1 ns')],?_⟩,fun h=>absurd h (by decide)⟩
    show (K E A41_L0 _).bind _ = _
    rw [A41_L0_eq]
    simp +contextual -implicitDefEqProofs (maxSteps:=2000000) only [go_sem,A41_L0b,hlen,h3,h4,g1,hw,wl,wt,wl2,wt2,e,e2,hb,o,Q8]
   ·refine ⟨fun h=>absurd h (by decide),fun _=>?_⟩
    show (K E A41_L0 _).bind _ = (K E A41_L0 _).bind _
    conv=>lhs; rw [A41_L0_eq]
    simp +contextual -implicitDefEqProofs (maxSteps:=2000000) only [go_sem,A41_L0b,hlen,h3,h4,g1,hw,wl,wt,wl2,wt2,e,e2,hb,o,Q8])
  ()
 simp only [Qn,Qv,show pn1 l 0 = [] from rfl,show pa1 l 0 = [] from rfl] at lp
 exact lp
theorem c41 (l : List Prt) (hl : l.length≤8) (m : Int) : pc E 41 [.vs (l.map prv),.z m] = some (.bool (prtB l m)):=by
 have lp:=lp103 l hl m
 have hn:=c75 (l.map (·.nm)) (by rw [Qb]; omega)
 have ha:=c42 (l.map (·.at_)) m (by rw [Qb]; omega)
 have e : (l.map (·.nm)).map t1 = pn1 l l.length:=by unfold pn1; rw [Qbn,Qap]; rfl
 have e2 : (l.map (·.at_)).map c1 = pa1 l l.length:=by unfold pa1; rw [Qbn,Qap]; rfl
 rw [e] at hn
 rw [e2] at ha
 have wl:=pn1_len l l.length (Q8 _)
 have wt : (pn1 l l.length).take l.length = pn1 l l.length:=Qr (by omega)
 have wl2:=pa1_len l l.length (Q8 _)
 have wt2 : (pa1 l l.length).take l.length = pa1 l l.length:=Qr (by omega)
 have k16 : (l.length : Int)≤8:=by omega
 unfold prtB
 rw [decide_eq_true hl]
 generalize pn1 l l.length = ns at *
 generalize pa1 l l.length = as_ at *
 generalize unlB (l.map (·.at_)) m = u2 at *
 generalize nmsB (l.map (·.nm)) = u1 at *
 cases hb : (l.any fun p=>!shpB p.sh) <;> rw [hb] at lp
 ·have lp:=lp.2 rfl
  cases u1 <;> rw [pc_eq] <;> simp +contextual -implicitDefEqProofs (maxSteps:=2000000) only [go_sem,E_41,A41,lp,Qb,k16,hn,ha,wl,wt,wl2,wt2,Q8,Qa5,Q1,Qt]
 ·obtain ⟨X,lp⟩:=lp.1 rfl
  rw [pc_eq]; simp +contextual -implicitDefEqProofs (maxSteps:=2000000) only [go_sem,E_41,A41,lp,Qai,Qt]
end Go.Proofs.YtbpneedpcccpaaaGreat.G

namespace Go.Geo
open Go Go.Zv
/-! a polygon cut in two -/
section
variable {a : List Pt} {k : Nat}
def cut1 (a : List Pt) (k : Nat) : List Pt:=a.take (k + 1)
def cut2 (a : List Pt) (k : Nat) : List Pt:=ptn a 0::a.drop k
end
end Go.Geo

namespace Go.Geo
open Go Go.Zv
theorem edn_mem {l : List Pt} {i : Nat} (h : i < l.length) : edn l i ∈ eds l:=Qd (edn_get h)
end Go.Geo

namespace Go.Geo
open Go Go.Zv
theorem find_some {n : Nat} {P : Nat → Bool} : ((List.range n).find? P).isSome = (List.range n).any P:=by
 rw [Qa3,List.find?_isSome,Qas]
theorem FC_isSome (a b : List Pt) : (FC a b).isSome = ((List.range a.length).any (fun i=>(List.range b.length).any fun j=>cutE (edn a i) (edn b j)) || ((List.range a.length).any (fun i=>insB a i b) || (List.range b.length).any (fun j=>insB b j a))):=by
 have e1 : (fcE a b).isSome = (List.range a.length).any (fun i=>(List.range b.length).any fun j=>cutE (edn a i) (edn b j)):=by
  unfold fcE; rw [find_some]
  exact any_congr2 fun i _=>by unfold fcJ; rw [find_some]
 have e2 : (fcA a b).isSome = (List.range a.length).any (fun i=>insB a i b):=by unfold fcA; rw [find_some]
 have e3 : (fcA b a).isSome = (List.range b.length).any (fun i=>insB b i a):=by unfold fcA; rw [find_some]
 rw [← e1,← e2,← e3]
 unfold FC
 cases h1 : fcE a b with
 | some i =>
   have : (fcJ a b i).isSome = true:=by
    unfold fcE at h1
    rw [List.find?_range_eq_some] at h1
    exact h1.1
   simp [this]
 | none =>
   cases h2 : fcA a b with
   | some i=>simp
   | none=>simp
theorem cutE_comm' {a b : List Pt} (ha : a.all mayB = true) (hb : b.all mayB = true) (a0 : 0 < a.length) (b0 : 0 < b.length) (i j : Nat) : cutE (edn b j) (edn a i) = cutE (edn a i) (edn b j):=by
 have h1:=ptn_B ha a0 i
 have h2:=ptn_B ha a0 (i + 1)
 have h3:=ptn_B hb b0 j
 have h4:=ptn_B hb b0 (j + 1)
 unfold edn cutE; exact cut_s2 (B8_of h1 h2 h3 h4)
theorem cutE_sw {a b c d : Pt} (ha : B2 a) (hb : B2 b) (hc : B2 c) (hd : B2 d) : cutE (c,d) (a,b) = cutE (a,b) (c,d):=by
 unfold cutE; exact cut_s2 (B8_of ha hb hc hd)
theorem any_swap {n m : Nat} (f : Nat → Nat → Bool) : ((List.range n).any fun i=>(List.range m).any (f i)) = (List.range m).any fun j=>(List.range n).any fun i=>f i j:=by
 rw [Qa3]
 simp only [Qas]
 exact ⟨fun ⟨i,hi,j,hj,h⟩=>⟨j,hj,i,hi,h⟩,fun ⟨j,hj,i,hi,h⟩=>⟨i,hi,j,hj,h⟩⟩
theorem FC_comm {a b : List Pt} (A : Val a) (B : Val b) : (FC a b).isSome = (FC b a).isSome:=by
 have a3:=A.n3
 have b3:=B.n3
 rw [FC_isSome,FC_isSome,any_swap]
 have : ((List.range b.length).any fun j=>(List.range a.length).any fun i=>cutE (edn a i) (edn b j)) = (List.range b.length).any fun j=>(List.range a.length).any fun i=>cutE (edn b j) (edn a i) :=
  any_congr2 fun j _=>any_congr2 fun i _=>(cutE_comm' A.may B.may (by omega) (by omega) i j).symm
 rw [this]
 cases ((List.range b.length).any fun j=>(List.range a.length).any fun i=>cutE (edn b j) (edn a i)) <;> cases ((List.range a.length).any fun i=>insB a i b) <;> cases ((List.range b.length).any fun j=>insB b j a) <;> rfl
theorem cr_lin (P Q x : Pt) (y : Pt) : xq (sq (qp Q) (qp P)) (sq (qp y) (qp x)) = ((cr P.1 P.2 Q.1 Q.2 y.1 y.2 - cr P.1 P.2 Q.1 Q.2 x.1 x.2 : Int) : Rat):=by
 rw [Qch,← xq_int,← xq_int]; unfold xq sq; grind
theorem sep_no {a b : List Pt} (A : Val a) (B : Val b) {P Q : Pt} (hP : B2 P) (hQ : B2 Q) (h1 : ∀ p ∈ a,0≤cr P.1 P.2 Q.1 Q.2 p.1 p.2) (h2 : ∀ q ∈ b,cr P.1 P.2 Q.1 Q.2 q.1 q.2 < 0) :
  (∀ e ∈ eds a,∀ f ∈ eds b,cutE e f = false)∧(∀ p ∈ a,locI b p = -1) ∧ ∀ q ∈ b,locI a q = -1:=by
 have b3:=B.n3
 have hd : sq (qp Q) (qp P) ≠ (0,0):=by
  intro e
  have hq:=h2 _ (ptn_mem (l:=b) 0 (by omega))
  have:=xq_int P Q (ptn b 0)
  rw [e] at this
  have z : xq (0,0) (sq (qp (ptn b 0)) (qp P)) = 0:=by unfold xq; grind
  rw [z] at this
  have:=Qb8.2 hq
  grind
 refine ⟨fun e he f hf=>?_,fun p hp=>?_,fun q hq=>?_⟩
 ·cases hc : cutE e f with
  | false=>rfl
  | true =>
    exfalso
    obtain ⟨e1,e2⟩:=eds_B A.may he
    obtain ⟨f1,f2⟩:=eds_B B.may hf
    obtain ⟨z,z1,z2⟩:=(cut_meets e1 e2 f1 f2).1 hc
    obtain ⟨m1,m2⟩:=eds_mem he
    obtain ⟨m3,m4⟩:=eds_mem hf
    obtain ⟨s,s0,s1,hs⟩:=on_param z1
    obtain ⟨t,t0,t1,ht⟩:=on_param z2
    have k1:=Rat.intCast_nonneg.2 (h1 _ m1)
    have k2:=Rat.intCast_nonneg.2 (h1 _ m2)
    have k3:=Qb8.2 (h2 _ m3)
    have k4:=Qb8.2 (h2 _ m4)
    rw [← xq_int] at k1 k2 k3 k4
    have w1 : xq (sq (qp Q) (qp P)) (sq z (qp P)) = (1 - s) * xq (sq (qp Q) (qp P)) (sq (qp e.1) (qp P)) + s * xq (sq (qp Q) (qp P)) (sq (qp e.2) (qp P)):=by rw [hs]; unfold xq sq onp; grind
    have w2 : xq (sq (qp Q) (qp P)) (sq z (qp P)) = (1 - t) * xq (sq (qp Q) (qp P)) (sq (qp f.1) (qp P)) + t * xq (sq (qp Q) (qp P)) (sq (qp f.2) (qp P)):=by rw [ht]; unfold xq sq onp; grind
    have n1:=Qz (show 0≤1 - s by grind) k1
    have n2:=Qz s0 k2
    have n3 : xq (sq (qp Q) (qp P)) (sq z (qp P)) < 0:=by
     rw [w2]
     by_cases ht0 : t = 0
     ·rw [ht0]; grind
     ·have n3:=Qz (show 0≤1 - t by grind) (show 0 ≤ -xq (sq (qp Q) (qp P)) (sq (qp f.1) (qp P)) by grind)
      have n4:=Qbb (show 0 < t by grind) (show 0 < -xq (sq (qp Q) (qp P)) (sq (qp f.2) (qp P)) by grind)
      grind
    rw [w1] at n3
    grind
 ·refine loc_side B.may (mayB_B2 (Qj.1 A.may _ hp)) hd fun q hq=>?_
  rw [cr_lin,Qb8]
  have:=h1 p hp; have:=h2 q hq; omega
 ·refine loc_side' A.may (mayB_B2 (Qj.1 B.may _ hq)) hd fun p hp=>?_
  rw [cr_lin,Qdo]
  have:=h1 p hp; have:=h2 q hq; omega
theorem ori_sgn {P Q x : Pt} (hP : B2 P) (hQ : B2 Q) (hx : B2 x) : oriE P Q x < 0 ↔ cr P.1 P.2 Q.1 Q.2 x.1 x.2 < 0:=by
 unfold oriE
 rw [crW_B hP.1 hP.2 hQ.1 hQ.2 hx.1 hx.2]
 unfold sgn; repeat' split
 all_goals omega
theorem sepAt_no {a b : List Pt} (A : Val a) (B : Val b) (hc : cvxB a = true) {d : Int} (h : sepAt a b d = true) : (∀ e ∈ eds a,∀ f ∈ eds b,cutE e f = false)∧(∀ p ∈ a,locI b p = -1) ∧ ∀ q ∈ b,locI a q = -1:=by
 have a3:=A.n3
 unfold sepAt at h
 rw [Qg,decide_eq_true_eq] at h
 obtain ⟨hd,hb⟩:=h
 have b1:=ptn_B A.may (by omega) d.toNat
 have b2:=ptn_B A.may (by omega) (d.toNat + 1)
 refine sep_no A B b1 b2 (fun p hp=>?_) fun q hq=>?_
 ·unfold cvxB at hc
  rw [Qam,Qa2] at hc
  have h1:=hc d.toNat (Qq.2 (by omega))
  rw [Bool.not_eq_true,Qa2] at h1
  obtain ⟨k,hk,rfl⟩:=Qc9 hp
  have h2:=h1 k (Qq.2 hk)
  have e : a[k] = ptn a k:=by
   have:=ptn_get hk
   rw [Qf hk] at this
   simpa using this
  unfold rgtE at h2
  rw [decide_eq_true_eq,ori_sgn b1 b2 (ptn_B A.may (by omega) k)] at h2
  rw [e]; omega
 ·unfold beyB at hb
  have:=Qj.1 hb q hq
  rw [decide_eq_true_eq] at this
  exact (ori_sgn b1 b2 (mayB_B2 (Qj.1 B.may _ hq))).1 this
theorem ins_false {a b : List Pt} {i : Int} (h : ∀ p ∈ a,locI b p = -1) : insB a i b = false:=by
 unfold insB
 by_cases h1 : 0≤i
 ·by_cases h2 : i < a.length
  ·have:=h _ (Qd (ptn_get (l:=a) (k:=i.toNat) (by omega)))
   simp [this]
  ·simp [h2]
 ·simp [h1]
theorem no_contact {a b : List Pt} (h1 : ∀ e ∈ eds a,∀ f ∈ eds b,cutE e f = false) (h2 : ∀ p ∈ a,locI b p = -1) (h3 : ∀ q ∈ b,locI a q = -1) : (FC a b).isSome = false ∧ ∀ k i j,icnB a b k i j = false:=by
 constructor
 ·rw [FC_isSome]
  simp only [Qba,Qa2]
  refine ⟨fun i hi h=>?_,fun i _=>by rw [ins_false h2]; simp,fun i _=>by rw [ins_false h3]; simp⟩
  rw [Qas] at h
  obtain ⟨j,hj,h⟩:=h
  rw [h1 _ (edn_mem (Qq.1 hi)) _ (edn_mem (Qq.1 hj))] at h
  cases h
 ·intro k i j
  unfold icnB
  by_cases k1 : k = 1
  ·rw [if_pos k1]
   by_cases hi : 0≤i∧i < a.length
   ·by_cases hj : 0≤j∧j < b.length
    ·rw [h1 _ (edn_mem (l:=a) (i:=i.toNat) (by omega)) _ (edn_mem (l:=b) (i:=j.toNat) (by omega))]; simp
    ·simp [hj]
   ·simp [hi]
  ·rw [if_neg k1,ins_false h2,ins_false h3]; simp
theorem isep_no {a b : List Pt} (A : Val a) (B : Val b) {o d : Int} (ca : o = 0 → cvxB a = true) (cb : o = 1 → cvxB b = true) (h : isepB a b o d = true) : (FC a b).isSome = false ∧ ∀ k i j,icnB a b k i j = false:=by
 unfold isepB at h
 by_cases ho : o = 1
 ·rw [if_pos ho] at h
  obtain ⟨h1,h2,h3⟩:=sepAt_no B A (cb ho) h
  refine no_contact (fun e he f hf=>?_) h3 h2
  obtain ⟨e1,e2⟩:=eds_B A.may he
  obtain ⟨f1,f2⟩:=eds_B B.may hf
  have:=cutE_sw f1 f2 e1 e2
  rw [show (e.1,e.2) = e from rfl,show (f.1,f.2) = f from rfl] at this
  rw [this]; exact h1 f hf e he
 ·rw [if_neg ho,Qg,decide_eq_true_eq] at h
  obtain ⟨h1,h2,h3⟩:=sepAt_no A B (ca h.1) h.2
  exact no_contact h1 h2 h3
/-! the criterion -/
theorem loc_same {a b : List Pt} (A : Val a) (B : Val b) (h : ∀ i j,i < a.length → j < b.length → cutE (edn a i) (edn b j) = false) : ∀ i,i < a.length → locI b (ptn a i) = locI b (ptn a 0):=by
 have a3:=A.n3
 have b3:=B.n3
 intro i
 induction i with
 | zero=>intro _; rfl
 | succ i ih =>
   intro hi
   rw [← ih (by omega)]
   refine ((loc_walk B.may (ptn_B A.may (by omega) i) (ptn_B A.may (by omega) (i + 1)) fun e he=>?_).1).symm
   rw [eds_range,Q6] at he
   obtain ⟨j,hj,rfl⟩:=he
   have hj:=Qq.1 hj
   have:=cutE_comm' A.may B.may (by omega) (by omega) i j
   show cutE (edn b j) (edn a i) = false
   rw [this]; exact h i j (by omega) hj
theorem loc_vals (l : List Pt) (p : Pt) : locI l p = 0 ∨ locI l p = 1 ∨ locI l p = -1:=by
 unfold locI; split
 ·exact .inl rfl
 ·split
  ·exact .inr (.inl rfl)
  ·exact .inr (.inr rfl)
theorem criterion {a b : List Pt} (A : Val a) (B : Val b) : (FC a b).isSome = ((List.range a.length).any (fun i=>(List.range b.length).any fun j=>cutE (edn a i) (edn b j)) || (decide (0≤locI b (ptn a 0)) || decide (0≤locI a (ptn b 0)))):=by
 have a3:=A.n3
 have b3:=B.n3
 rw [FC_isSome]
 cases hc : (List.range a.length).any (fun i=>(List.range b.length).any fun j=>cutE (edn a i) (edn b j)) with
 | true=>rfl
 | false =>
   have hn : ∀ i j,i < a.length → j < b.length → cutE (edn a i) (edn b j) = false:=fun i j hi hj=>by
    have h1:=Qa2.1 hc i (Qq.2 hi)
    rw [Bool.not_eq_true] at h1
    have h2:=Qa2.1 h1 j (Qq.2 hj)
    simpa using h2
   have key : ∀ {a b : List Pt},Val a → Val b → (∀ i j,i < a.length → j < b.length → cutE (edn a i) (edn b j) = false) → (List.range a.length).any (fun i=>insB a i b) = decide (0≤locI b (ptn a 0)):=by
    intro a b A B hn
    have a3:=A.n3
    have hs:=loc_same A B hn
    have lv:=loc_vals b (ptn a 0)
    rw [Qa3,Qas,decide_eq_true_eq]
    constructor
    ·rintro ⟨i,hi,h⟩
     have hi:=Qq.1 hi
     unfold insB at h
     simp only [Qg,decide_eq_true_eq] at h
     have:=h.2.2
     rw [Int.toNat_natCast,hs i hi] at this
     omega
    ·intro h
     refine ⟨0,Qq.2 (by omega),?_⟩
     unfold insB
     simp only [Qg,decide_eq_true_eq]
     refine ⟨by omega,by omega,?_⟩
     show locI b (ptn a 0) ≠ -1
     omega
   rw [key A B hn,key B A fun i j hi hj=>by rw [cutE_comm' A.may B.may (by omega) (by omega)]; exact hn j i hj hi]
end Go.Geo

namespace Go.Geo
open Go Go.Zv
theorem find_congr {n : Nat} {f g : Nat → Bool} (h : ∀ i,i < n → f i = g i) : (List.range n).find? f = (List.range n).find? g:=by
 have : ∀ l : List Nat,(∀ i ∈ l,f i = g i) → l.find? f = l.find? g:=by
  intro l
  induction l with
  | nil=>intro _; rfl
  | cons a l ih =>
    intro h
    rw [List.find?_cons,List.find?_cons,h a (by simp),ih fun i hi=>h i (by simp [hi])]
 exact this _ fun i hi=>h i (Qq.1 hi)
theorem FC_moved {a b : List Pt} {M : Mot} {f : Pt → Pt} (ha : Moved M f a) (hb : Moved M f b) (a0 : 0 < a.length) (b0 : 0 < b.length) : FC (a.map f) (b.map f) = FC a b:=by
 have ba:=ptn_B ha.may a0
 have bb:=ptn_B hb.may b0
 have ba':=ptn_B ha.may' (by rw [ha.len]; exact a0)
 have bb':=ptn_B hb.may' (by rw [hb.len]; exact b0)
 have hcut : ∀ i j,cutE (edn (a.map f) i) (edn (b.map f) j) = cutE (edn a i) (edn b j):=fun i j=>by
  unfold edn
  rw [Qa3,cut_meets (ba' _) (ba' _) (bb' _) (bb' _),cut_meets (ba _) (ba _) (bb _) (bb _),ha.pt a0,ha.pt a0,hb.pt b0,hb.pt b0,M.meets_app]
 have ins : ∀ {a b : List Pt},Moved M f a → Moved M f b → 0 < a.length → ∀ i : Nat,i < a.length → insB (a.map f) i (b.map f) = insB a i b:=by
  intro a b ha hb a0 i hi
  unfold insB
  rw [ha.len,Int.toNat_natCast,ptn_map f a0]
  have hm:=ptn_mem (l:=a) i a0
  have:=hb.loc (p:=ptn a i) (ptn_B ha.may a0 i) (by
   have:=ptn_B ha.may' (by rw [ha.len]; exact a0) i
   rw [ptn_map f a0] at this
   exact this) (ha.mv _ hm)
  rw [this]
 have e1 : ∀ i,fcJ (a.map f) (b.map f) i = fcJ a b i:=fun i=>by
  unfold fcJ; rw [hb.len]; exact find_congr fun j _=>hcut i j
 have e2 : fcE (a.map f) (b.map f) = fcE a b:=by
  unfold fcE; rw [ha.len]; exact find_congr fun i _=>by rw [e1]
 have e3 : fcA (a.map f) (b.map f) = fcA a b:=by
  unfold fcA; rw [ha.len]; exact find_congr fun i hi=>ins ha hb a0 i hi
 have e4 : fcA (b.map f) (a.map f) = fcA b a:=by
  unfold fcA; rw [hb.len]; exact find_congr fun i hi=>ins hb ha b0 i hi
 unfold FC
 rw [e2,e3,e4]
 cases fcE a b with
 | some i=>simp only [e1]
 | none=>rfl
end Go.Geo

namespace Go.Proofs.YtbpneedpcccpaaaGreat.G
open Go Go.Zv
open Go.Geo
def gapI (l m : List (Int × Int)) : Int:=if l = [] ∨ m = [] then 0 else
 mxI (mxI (mxI (mxI 0 (w64 ((bbL m).1 - (bbH l).1))) (w64 ((bbL m).2 - (bbH l).2))) (w64 ((bbL l).1 - (bbH m).1))) (w64 ((bbL l).2 - (bbH m).2))
end Go.Proofs.YtbpneedpcccpaaaGreat.G

namespace Go.Proofs.YtbpneedpcccpaaaGreat.R
open Go Go.Zv
open Go.Geo
end Go.Proofs.YtbpneedpcccpaaaGreat.R

namespace Go.Geo
open Go Go.Zv
def cntE (p : Pt) (e : Pt × Pt) : Bool:=(decide (e.1.2≤p.2) && (decide (p.2 < e.2.2) && decide (0 < crW e.1.1 e.1.2 e.2.1 e.2.2 p.1 p.2))) || (decide (e.2.2≤p.2) && (decide (p.2 < e.1.2) && decide (0 < crW e.2.1 e.2.2 e.1.1 e.1.2 p.1 p.2)))
def hasF (p : Pt) (x : Int) (e : Pt × Pt) : Int:=if cntE p e = true then w64 (x + 1) else x
def tcJ (a b : List Pt) (k : Int) (i : Nat) : Option Nat:=(List.range b.length).find? fun j=>icnB a b k i j
def tcI (a b : List Pt) (k : Int) : Option Nat:=(List.range a.length).find? fun i=>(tcJ a b k i).isSome
def TC (a b : List Pt) : Option (Int × Int × Int) :=
 match tcI a b 1 with
 | some i=>Option.map (fun j : Nat=>((1 : Int),(i : Int),(j : Int))) (tcJ a b 1 i)
 | none=>match tcI a b 2 with
   | some i=>Option.map (fun j : Nat=>((2 : Int),(i : Int),(j : Int))) (tcJ a b 2 i)
   | none=>match tcI a b 3 with
     | some i=>Option.map (fun j : Nat=>((3 : Int),(i : Int),(j : Int))) (tcJ a b 3 i)
     | none=>none
end Go.Geo
namespace Go.Proofs.YtbpneedpcccpaaaGreat.R
open Go Go.Zv
open Go.Geo
end Go.Proofs.YtbpneedpcccpaaaGreat.R

namespace Go.Proofs.YtbpneedpcccpaaaGreat.R
open Go Go.Zv
open Go.Geo
end Go.Proofs.YtbpneedpcccpaaaGreat.R

namespace Go.Proofs.YtbpneedpcccpaaaGreat.R
open Go Go.Zv
open Go.Geo
open Go.Proofs.YtbpneedpcccpaaaGreat.G (conV)
abbrev O18 (k i j : Int) : Heap:=[(1024,.box [.z k,.z i,.z j])]
end Go.Proofs.YtbpneedpcccpaaaGreat.R

/- The engine, part 32: a call without free variables, evaluated with fuel. -/
namespace Go.Zv
theorem pc_of_run {E : FuncId → Option AFn} (n : Nat) {f : FuncId} {args : List LV} {v : LV} (h : pureCall (run E n) f args = some v) : pc E f args = some v :=
 (nice_pure f args).mono (fun _ _ h=>Run_iff.2 ⟨n,h⟩) h
end Go.Zv

namespace Go.Geo
open Go Go.Zv
/-! a polygon made larger; a polygon turned, made larger and moved -/
theorem cr_k (k ax ay bx by_ px py : Int) : cr (k * ax) (k * ay) (k * bx) (k * by_) (k * px) (k * py) = k * k * cr ax ay bx by_ px py:=by
 unfold cr; grind
theorem sgn_k {k : Int} (hk : 0 < k) (n : Int) : sgn (k * k * n) = sgn n:=by
 have h:=Qca hk hk
 unfold sgn
 by_cases h1 : n > 0
 ·rw [if_pos h1,if_pos (Qca h h1)]
 ·by_cases h2 : n < 0
  ·have:=Qce h h2
   rw [if_neg h1,if_neg (by omega),if_pos h2,if_pos this]
  ·have : n = 0:=by omega
   subst this; simp
theorem mn_k {k : Int} (hk : 0 < k) (a b : Int) : mnI (k * a) (k * b) = k * mnI a b:=by
 have h : ∀ x y : Int,k * x≤k * y ↔ x≤y:=fun x y=>Int.mul_le_mul_left hk
 have h' : ∀ x y : Int,k * x < k * y ↔ x < y:=fun x y=>Int.mul_lt_mul_left hk
 unfold mnI; split <;> split <;> simp_all <;> omega
theorem mx_k {k : Int} (hk : 0 < k) (a b : Int) : mxI (k * a) (k * b) = k * mxI a b:=by
 have h : ∀ x y : Int,k * x≤k * y ↔ x≤y:=fun x y=>Int.mul_le_mul_left hk
 have h' : ∀ x y : Int,k * x < k * y ↔ x < y:=fun x y=>Int.mul_lt_mul_left hk
 unfold mxI; split <;> split <;> simp_all <;> omega
theorem within_k {k : Int} (hk : 0 < k) (ax ay bx by_ px py : Int) : withinB (k * ax) (k * ay) (k * bx) (k * by_) (k * px) (k * py) = withinB ax ay bx by_ px py:=by
 have h : ∀ x y : Int,decide (k * x≤k * y) = decide (x≤y):=fun x y=>decide_eq_decide.2 (Int.mul_le_mul_left hk)
 unfold withinB
 rw [mn_k hk,mx_k hk,mn_k hk,mx_k hk,h,h,h,h]
def big (k : Int) (p : Pt) : Pt:=(k * p.1,k * p.2)
theorem crW_k {k : Int} {a b p : Pt} (ha : B2 a) (hb : B2 b) (hp : B2 p) (ha' : B2 (big k a)) (hb' : B2 (big k b)) (hp' : B2 (big k p)) : crW (big k a).1 (big k a).2 (big k b).1 (big k b).2 (big k p).1 (big k p).2 = k * k * crW a.1 a.2 b.1 b.2 p.1 p.2:=by
 rw [crW_B ha'.1 ha'.2 hb'.1 hb'.2 hp'.1 hp'.2,crW_B ha.1 ha.2 hb.1 hb.2 hp.1 hp.2]
 exact cr_k ..
theorem cut_k {k : Int} (hk : 0 < k) {a b c d : Pt} (ha : B2 a) (hb : B2 b) (hc : B2 c) (hd : B2 d) (ha' : B2 (big k a)) (hb' : B2 (big k b)) (hc' : B2 (big k c)) (hd' : B2 (big k d)) : cutE (big k a,big k b) (big k c,big k d) = cutE (a,b) (c,d):=by
 have w : ∀ a b p : Pt,withinB (big k a).1 (big k a).2 (big k b).1 (big k b).2 (big k p).1 (big k p).2 = withinB a.1 a.2 b.1 b.2 p.1 p.2:=fun a b p=>within_k hk ..
 unfold cutE cutB endsB sdI
 simp only
 rw [crW_k ha hb hc ha' hb' hc',crW_k ha hb hd ha' hb' hd',crW_k hc hd ha hc' hd' ha',crW_k hc hd hb hc' hd' hb',w,w,w,w,sgn_k hk,sgn_k hk,sgn_k hk,sgn_k hk]
theorem dE_k (k : Int) (e : Pt × Pt) : dE (big k e.1,big k e.2) = k * k * dE e:=by
 unfold dE big; grind
theorem sum_k (k : Int) (l : List Int) : (l.map fun x=>k * x).sum = k * l.sum:=by
 induction l with
 | nil=>simp
 | cons x l ih=>simp only [Qk,Qb2,ih]; grind
theorem val_big {k : Int} (hk : 0 < k) {l : List Pt} (h : Val l) (hm : (l.map (big k)).all mayB = true) : Val (l.map (big k)):=by
 have h0 : 0 < l.length:=by have:=h.n3; omega
 have hlen : (l.map (big k)).length = l.length:=Qb ..
 have hb:=ptn_B h.may h0
 have hb':=fun i=>ptn_B hm (by rw [hlen]; exact h0) i
 simp only [ptn_map (big k) h0] at hb'
 refine ⟨by rw [hlen]; exact h.n3,by rw [hlen]; exact h.n12,hm,?_,?_⟩
 ·rw [← h.sim]
  have hori : ∀ i,decide (oriE (ptn (l.map (big k)) i) (ptn (l.map (big k)) (i + 1)) (ptn (l.map (big k)) (i + 2)) = 0) = decide (oriE (ptn l i) (ptn l (i + 1)) (ptn l (i + 2)) = 0):=fun i=>by
   rw [ptn_map _ h0,ptn_map _ h0,ptn_map _ h0]
   unfold oriE
   rw [crW_k (hb _) (hb _) (hb _) (hb' _) (hb' _) (hb' _),sgn_k hk]
  have hcut : ∀ i j,cutE (edn (l.map (big k)) i) (edn (l.map (big k)) j) = cutE (edn l i) (edn l j):=fun i j=>by
   unfold edn
   rw [ptn_map _ h0,ptn_map _ h0,ptn_map _ h0,ptn_map _ h0]
   exact cut_k hk (hb _) (hb _) (hb _) (hb _) (hb' _) (hb' _) (hb' _) (hb' _)
  have h2 : ∀ i,bad2 (l.map (big k)) i = bad2 l i:=fun i=>funext fun j=>by unfold bad2; rw [hlen,hcut]
  have h1 : bad1 (l.map (big k)) = bad1 l:=funext fun i=>by unfold bad1; rw [hori,h2,hlen]
  unfold simB
  rw [h1,hlen]
 ·have ha:=h.area
  rw [areaW_val h.n12 h.may] at ha
  rw [areaW_val (by rw [hlen]; exact h.n12) hm,eds_map,Qap]
  have e : (eds l).map (dE ∘ fun e=>(big k e.1,big k e.2)) = ((eds l).map dE).map fun x=>(k * k) * x:=by
   rw [Qap]
   exact Qal fun e _=>dE_k k e
  rw [e,sum_k]
  exact Qca (Qca hk hk) ha
def simP (ax ay X Y : Int) (p : Pt) : Pt:=(ax + 16 * (p.1 * X - p.2 * Y),ay + 16 * (p.1 * Y + p.2 * X))
theorem val_simP {ax ay X Y : Int} {l : List Pt} (h : Val l) (hl : ∀ p ∈ l,(-10≤p.1∧p.1≤10)∧(-10≤p.2∧p.2≤10)) (hn : X * X + Y * Y = 274625 * 274625) (hm : (l.map (simP ax ay X Y)).all mayB = true) : Val (l.map (simP ax ay X Y)):=by
 have hbig : (l.map (big 4394000)).all mayB = true:=by
  rw [Qj]; intro q hq
  obtain ⟨p,hp,rfl⟩:=Q6.1 hq
  have:=hl p hp
  rw [mayB_iff]; simp only [big]; omega
 have hv:=val_big (k:=4394000) (by omega) h hbig
 have hq : ((X : Rat) * (274625 : Rat)⁻¹) * ((X : Rat) * (274625 : Rat)⁻¹) + ((Y : Rat) * (274625 : Rat)⁻¹) * ((Y : Rat) * (274625 : Rat)⁻¹) = 1:=by
  have e : (X : Rat) * X + Y * Y = 274625 * 274625:=by
   have:=congrArg (fun z : Int=>(z : Rat)) hn
   simpa only [Qcy,Qbs,Rat.intCast_ofNat] using this
  grind
 let M : Mot:=⟨(X : Rat) * (274625 : Rat)⁻¹,(Y : Rat) * (274625 : Rat)⁻¹,ax,ay,hq⟩
 let f : Pt → Pt:=fun p=>simP ax ay X Y (p.1 / 4394000,p.2 / 4394000)
 have ef : ∀ p : Pt,f (big 4394000 p) = simP ax ay X Y p:=fun p=>by
  simp only [f,big]
  rw [Int.mul_ediv_cancel_left _ (by omega),Int.mul_ediv_cancel_left _ (by omega)]
 have em : (l.map (big 4394000)).map f = l.map (simP ax ay X Y):=by
  rw [Qap]; exact Qal fun p _=>ef p
 have hmv : Moved M f (l.map (big 4394000)):=by
  refine ⟨hbig,by rw [em]; exact hm,fun q hq=>?_⟩
  obtain ⟨p,hp,rfl⟩:=Q6.1 hq
  rw [ef]
  refine Qb7 ?_ ?_ <;> simp only [qp,simP,big,Mot.app,M,Qcy,Qch,Qbs,Rat.intCast_ofNat] <;> grind
 rw [← val_iff,← em,hmv.val,val_iff]
 exact hv
end Go.Geo

namespace Go.Proofs.YtbpneedpcccpaaaGreat
open Go Go.Zv
theorem wr_nat {n : Nat} (h : n < 9223372036854775808) : IntKind.i64.wrap (n : Int) = n:=by
 simp [IntKind.wrap,IntKind.signed,IntKind.bits]; omega
theorem wr_succ {n : Nat} (h : n + 1 < 9223372036854775808) : IntKind.i64.wrap ((n : Int) + 1) = ((n + 1 : Nat) : Int):=by
 have:=wr_nat h; simpa using this
theorem tmod_pos {x n : Int} (h : 0≤x) : x.tmod n = x % n:=Qbh h
theorem tmod36 (q : Int) : (if q.tmod 36 < 0 then q.tmod 36 + 36 else q.tmod 36) = q % 36:=by
 by_cases h : 0≤q
 ·rw [tmod_pos h]; split <;> omega
 ·obtain ⟨p,rfl⟩ : ∃ p : Int,q = -p:=⟨-q,by omega⟩
  rw [Int.neg_tmod,tmod_pos (by omega)]
  split <;> omega
theorem tb36 (q : Int) : -36 < q.tmod 36∧q.tmod 36 < 36:=⟨Qdb q (by omega),Qdc q (by omega)⟩
theorem c139 (q : Int) : pc E 139 [.z q] = some (.z (q % 36)):=by
 have h:=tmod36 q
 have hb:=tb36 q
 have w : IntKind.i64.wrap (q.tmod 36 + 36) = q.tmod 36 + 36:=wrap_small (by omega) (by omega)
 by_cases hc : q.tmod 36 < 0
 ·rw [if_pos hc] at h
  have w2 : IntKind.i64.wrap (q % 36) = q % 36:=wrap_small (by omega) (by omega)
  rw [pc_eq]; simp +contextual -implicitDefEqProofs (maxSteps:=2000000) only [go_sem,E_139,A139,hc,w,h,w2]
 ·rw [if_neg hc] at h
  rw [h] at hc
  rw [pc_eq]; simp +contextual -implicitDefEqProofs (maxSteps:=2000000) only [go_sem,E_139,A139,h,hc]
theorem c140 : pc E 140 [] = some (.agg [.z 65,.z 0,.z 63,.z 16,.z 60,.z 25,.z 56,.z 33,.z 52,.z 39,.z 39,.z 52,.z 33,.z 56,.z 25,.z 60,.z 16,.z 63]):=by
 rw [pc_eq]; simp +contextual -implicitDefEqProofs (maxSteps:=2000000) only [go_sem,E_140,A140]
theorem c136 (x y : Int) (h1 : -1000000000000≤y) (h2 : y≤1000000000000) : pc E 136 [.agg [.z x,.z y]] = some (.agg [.z (-y),.z x]):=by
 have w : IntKind.i64.wrap (0 - y) = -y:=by rw [wrap_small (by omega) (by omega)]; omega
 rw [pc_eq]; simp +contextual -implicitDefEqProofs (maxSteps:=2000000) only [go_sem,E_136,A136,w]
def cs : Nat → Int × Int
 | 0=>(65,0) | 1=>(63,16) | 2=>(60,25) | 3=>(56,33) | 4=>(52,39) | 5=>(39,52) | 6=>(33,56) | 7=>(25,60) | 8=>(16,63)
 | 9=>(0,65) | 10=>(-16,63) | 11=>(-25,60) | 12=>(-33,56) | 13=>(-39,52) | 14=>(-52,39) | 15=>(-56,33) | 16=>(-60,25) | 17=>(-63,16)
 | 18=>(-65,0) | 19=>(-63,-16) | 20=>(-60,-25) | 21=>(-56,-33) | 22=>(-52,-39) | 23=>(-39,-52) | 24=>(-33,-56) | 25=>(-25,-60) | 26=>(-16,-63)
 | 27=>(0,-65) | 28=>(16,-63) | 29=>(25,-60) | 30=>(33,-56) | 31=>(39,-52) | 32=>(52,-39) | 33=>(56,-33) | 34=>(60,-25) | 35=>(63,-16)
 | _=>(65,0)
def csI (q : Int) : Int × Int:=cs (q % 36).toNat
theorem cases36 {k : Int} (h1 : 0≤k) (h2 : k < 36) : k = 0 ∨ k = 1 ∨ k = 2 ∨ k = 3 ∨ k = 4 ∨ k = 5 ∨ k = 6 ∨ k = 7 ∨ k = 8 ∨ k = 9 ∨ k = 10 ∨ k = 11 ∨ k = 12 ∨ k = 13 ∨ k = 14 ∨ k = 15 ∨ k = 16 ∨ k = 17 ∨ k = 18 ∨ k = 19 ∨ k = 20 ∨ k = 21 ∨ k = 22 ∨ k = 23 ∨ k = 24 ∨ k = 25 ∨ k = 26 ∨ k = 27 ∨ k = 28 ∨ k = 29 ∨ k = 30 ∨ k = 31 ∨ k = 32 ∨ k = 33 ∨ k = 34 ∨ k = 35:=by omega
theorem left_ok (x y : Int) (h1 : -65≤y) (h2 : y≤65) : pc E 136 [.agg [.z x,.z y]] = some (.agg [.z (-y),.z x]):=c136 x y (by omega) (by omega)
end Go.Proofs.YtbpneedpcccpaaaGreat

namespace Go.Proofs.YtbpneedpcccpaaaGreat
open Go Go.Zv
theorem c138 (q : Int) : pc E 138 [.z q] = some (.tup [.z (csI q).1,.z (csI q).2]):=by
 have h:=c139 q
 have h1 : 0≤q % 36:=by omega
 have h2 : q % 36 < 36:=by omega
 unfold csI
 generalize q % 36 = k at *
 rcases cases36 h1 h2 with rfl | rfl | rfl | rfl | rfl | rfl | rfl | rfl | rfl | rfl | rfl | rfl | rfl | rfl | rfl | rfl | rfl | rfl | rfl | rfl | rfl | rfl | rfl | rfl | rfl | rfl | rfl | rfl | rfl | rfl | rfl | rfl | rfl | rfl | rfl | rfl <;>
  (rw [pc_eq]; simp +contextual -implicitDefEqProofs (maxSteps:=2000000) only [go_sem,E_138,A138,h,c140,A138_L0_eq,A138_L0b,Int.reduceTDiv,Int.reduceTMod,left_ok,Int.neg_neg]) <;> rfl
theorem c129 (q : Int) : pc E 129 [.z q] = some (.z (q % 36)):=by
 have hb:=tb36 q
 have w1 : IntKind.i64.wrap (q.tmod 36 + 36) = q.tmod 36 + 36:=wrap_small (by omega) (by omega)
 have e : (q.tmod 36 + 36).tmod 36 = q % 36:=by
  rw [tmod_pos (by omega)]
  have:=tmod36 q
  split at this <;> omega
 rw [pc_eq]; simp +contextual -implicitDefEqProofs (maxSteps:=2000000) only [go_sem,E_129,A129,w1,e]
theorem c111 (q : Int) : pc E 111 [.z q] = some (.tup [.z (csI q).1,.z (csI q).2]):=by
 have h:=c129 q
 have h1 : 0≤q % 36:=by omega
 have h2 : q % 36 < 36:=by omega
 unfold csI
 generalize q % 36 = k at *
 rcases cases36 h1 h2 with rfl | rfl | rfl | rfl | rfl | rfl | rfl | rfl | rfl | rfl | rfl | rfl | rfl | rfl | rfl | rfl | rfl | rfl | rfl | rfl | rfl | rfl | rfl | rfl | rfl | rfl | rfl | rfl | rfl | rfl | rfl | rfl | rfl | rfl | rfl | rfl <;>
  (rw [pc_eq]; simp +contextual -implicitDefEqProofs (maxSteps:=2000000) only [go_sem,E_111,A111,h,A111_L0_eq,A111_L0b,Int.reduceTDiv,Int.reduceTMod,Int.neg_neg]) <;> rfl
end Go.Proofs.YtbpneedpcccpaaaGreat

namespace Go.Proofs.YtbpneedpcccpaaaGreat
open Go Go.Zv
theorem sq_nn (x : Int) : 0≤x * x:=by
 rcases Int.lt_or_le x 0 with h | h
 ·have:=Qa6 (show 0 ≤ -x by omega) (show 0 ≤ -x by omega); rwa [Int.neg_mul_neg] at this
 ·exact Qa6 h h
theorem sq_lt {r x : Int} (hr : 0≤r) (h : r < x) : r * r < x * x:=by
 have h1 : r * r≤r * x:=Qag (by omega) hr
 have h2 : r * x < x * x:=Int.mul_lt_mul_of_pos_right h (by omega)
 omega
theorem abs_of_sq {x r : Int} (hr : 0≤r) (h : x * x≤r * r) : -r≤x∧x≤r:=by
 constructor
 ·refine Int.not_lt.1 fun hx=>?_
  have h1 : r * r < (-x) * (-x):=sq_lt hr (by omega)
  rw [Int.neg_mul_neg] at h1; omega
 ·refine Int.not_lt.1 fun hx=>?_
  have h1 : r * r < x * x:=sq_lt hr hx
  omega
structure VD (x y r : Int) : Prop where
 r0 : 0≤r
 eq : x * x + y * y = r * r
theorem VD.x {x y r : Int} (h : VD x y r) : -r≤x∧x≤r:=abs_of_sq h.r0 (by have:=sq_nn y; have:=h.eq; omega)
theorem VD.y {x y r : Int} (h : VD x y r) : -r≤y∧y≤r:=abs_of_sq h.r0 (by have:=sq_nn x; have:=h.eq; omega)
theorem cs_norm (k : Nat) : (cs k).1 * (cs k).1 + (cs k).2 * (cs k).2 = 65 * 65:=by
 unfold cs; split <;> rfl
theorem csI_norm (q : Int) : (csI q).1 * (csI q).1 + (csI q).2 * (csI q).2 = 65 * 65:=cs_norm _
theorem csV (q : Int) : VD (csI q).1 (csI q).2 65:=⟨by omega,csI_norm q⟩
theorem VD.mul {x y r c s t : Int} (h : VD x y r) (k : VD c s t) : VD (x * c - y * s) (x * s + y * c) (r * t):=by
 refine ⟨Qa6 h.r0 k.r0,?_⟩
 have e : (x * c - y * s) * (x * c - y * s) + (x * s + y * c) * (x * s + y * c) = (x * x + y * y) * (c * c + s * s):=by grind
 rw [e,h.eq,k.eq]; grind
theorem c102_0 : pc E 102 [.z 0] = some (.z 1):=by rw [pc_eq]; simp +contextual -implicitDefEqProofs (maxSteps:=2000000) only [go_sem,E_102,A102,A102_L0_eq,A102_L0b]
theorem c102_1 : pc E 102 [.z 1] = some (.z 65):=by rw [pc_eq]; simp +contextual -implicitDefEqProofs (maxSteps:=2000000) only [go_sem,E_102,A102,A102_L0_eq,A102_L0b]
theorem c102_2 : pc E 102 [.z 2] = some (.z 4225):=by rw [pc_eq]; simp +contextual -implicitDefEqProofs (maxSteps:=2000000) only [go_sem,E_102,A102,A102_L0_eq,A102_L0b]
theorem c102_3 : pc E 102 [.z 3] = some (.z 274625):=by rw [pc_eq]; simp +contextual -implicitDefEqProofs (maxSteps:=2000000) only [go_sem,E_102,A102,A102_L0_eq,A102_L0b]
theorem c126_0 : pc E 126 [.z 0] = some (.z 1):=by rw [pc_eq]; simp +contextual -implicitDefEqProofs (maxSteps:=2000000) only [go_sem,E_126,A126,A126_L0_eq,A126_L0b]
theorem c126_1 : pc E 126 [.z 1] = some (.z 65):=by rw [pc_eq]; simp +contextual -implicitDefEqProofs (maxSteps:=2000000) only [go_sem,E_126,A126,A126_L0_eq,A126_L0b]
theorem c126_2 : pc E 126 [.z 2] = some (.z 4225):=by rw [pc_eq]; simp +contextual -implicitDefEqProofs (maxSteps:=2000000) only [go_sem,E_126,A126,A126_L0_eq,A126_L0b]
theorem c126_3 : pc E 126 [.z 3] = some (.z 274625):=by rw [pc_eq]; simp +contextual -implicitDefEqProofs (maxSteps:=2000000) only [go_sem,E_126,A126,A126_L0_eq,A126_L0b]
def p65 : Nat → Int
 | 0=>1 | 1=>65 | 2=>4225 | _=>274625
theorem c102 (n : Nat) (h : n≤3) : pc E 102 [.z n] = some (.z (p65 n)):=by
 rcases (show n = 0 ∨ n = 1 ∨ n = 2 ∨ n = 3 by omega) with rfl | rfl | rfl | rfl
 ·exact c102_0
 ·exact c102_1
 ·exact c102_2
 ·exact c102_3
theorem c126 (n : Nat) (h : n≤3) : pc E 126 [.z n] = some (.z (p65 n)):=by
 rcases (show n = 0 ∨ n = 1 ∨ n = 2 ∨ n = 3 by omega) with rfl | rfl | rfl | rfl
 ·exact c126_0
 ·exact c126_1
 ·exact c126_2
 ·exact c126_3
theorem p65_bd (n : Nat) : 1≤p65 n∧p65 n≤274625:=by unfold p65; split <;> omega
theorem p65_succ {n : Nat} (h : n≤2) : p65 n * 65 = p65 (n + 1):=by
 rcases (show n = 0 ∨ n = 1 ∨ n = 2 by omega) with rfl | rfl | rfl <;> rfl
theorem mul_bd {x y A C : Int} (h1 : -A≤x) (h2 : x≤A) (h3 : -C≤y) (h4 : y≤C) : -(A * C)≤x * y∧x * y≤A * C:=by
 have a1 : 0≤A:=by omega
 have b1 : 0≤C:=by omega
 have e1:=Qa6 (show 0≤A - x by omega) (show 0≤C + y by omega)
 have e2:=Qa6 (show 0≤A + x by omega) (show 0≤C - y by omega)
 have e3:=Qa6 (show 0≤A - x by omega) (show 0≤C - y by omega)
 have e4:=Qa6 (show 0≤A + x by omega) (show 0≤C + y by omega)
 constructor <;> grind
theorem c128 (x y q : Int) (hx : -274625≤x∧x≤274625) (hy : -274625≤y∧y≤274625) : pc E 128 [.agg [.z x,.z y],.z q] = some (.agg [.z (x * (csI q).1 - y * (csI q).2),.z (x * (csI q).2 + y * (csI q).1)]):=by
 have h:=c138 q
 have v:=csV q
 have b1:=v.x
 have b2:=v.y
 generalize (csI q).1 = c at *
 generalize (csI q).2 = s at *
 have m1:=mul_bd hx.1 hx.2 b1.1 b1.2
 have m2:=mul_bd hx.1 hx.2 b2.1 b2.2
 have m3:=mul_bd hy.1 hy.2 b1.1 b1.2
 have m4:=mul_bd hy.1 hy.2 b2.1 b2.2
 have w1 : IntKind.i64.wrap (x * c) = x * c:=wrap_small (by omega) (by omega)
 have w2 : IntKind.i64.wrap (x * s) = x * s:=wrap_small (by omega) (by omega)
 have w3 : IntKind.i64.wrap (y * c) = y * c:=wrap_small (by omega) (by omega)
 have w4 : IntKind.i64.wrap (y * s) = y * s:=wrap_small (by omega) (by omega)
 have w5 : IntKind.i64.wrap (x * c - y * s) = x * c - y * s:=wrap_small (by omega) (by omega)
 have w6 : IntKind.i64.wrap (x * s + y * c) = x * s + y * c:=wrap_small (by omega) (by omega)
 rw [pc_eq]; simp +contextual -implicitDefEqProofs (maxSteps:=2000000) only [go_sem,E_128,A128,h,w1,w2,w3,w4,w5,w6]
end Go.Proofs.YtbpneedpcccpaaaGreat

namespace Go.Proofs.YtbpneedpcccpaaaGreat
open Go Go.Zv
theorem c127 (x y : Int) (n : Nat) (h3 : n≤3) (hv : VD x y (p65 n)) : pc E 127 [.agg [.z x,.z y,.z n]] = some (.bool true):=by
 have h:=c126 n h3
 have hx:=hv.x
 have hy:=hv.y
 have he:=hv.eq
 have pb:=p65_bd n
 have h0 : ¬ ((n : Int) < 0):=by omega
 have h2 : ¬ ((3 : Int) < n):=by omega
 generalize p65 n = r at *
 have m1:=mul_bd (A:=274625) (C:=274625) (x:=x) (y:=x) (by omega) (by omega) (by omega) (by omega)
 have m2:=mul_bd (A:=274625) (C:=274625) (x:=y) (y:=y) (by omega) (by omega) (by omega) (by omega)
 have m3:=mul_bd (A:=274625) (C:=274625) (x:=r) (y:=r) (by omega) (by omega) (by omega) (by omega)
 have w1 : IntKind.i64.wrap (x * x) = x * x:=wrap_small (by omega) (by omega)
 have w2 : IntKind.i64.wrap (y * y) = y * y:=wrap_small (by omega) (by omega)
 have w3 : IntKind.i64.wrap (r * r) = r * r:=wrap_small (by omega) (by omega)
 have w4 : IntKind.i64.wrap (x * x + y * y) = r * r:=by rw [he]; exact w3
 have w5 : IntKind.i64.wrap (0 - r) = -r:=by rw [wrap_small (by omega) (by omega)]; omega
 rw [pc_eq]; simp +contextual -implicitDefEqProofs (maxSteps:=2000000) only [go_sem,E_127,A127,E_137,A137,h,h0,h2,hx.1,hx.2,hy.1,hy.2,w1,w2,w3,w4,w5]
theorem c74 (x y : Int) (n : Nat) (h3 : n≤3) (hv : VD x y (p65 n)) : pc E 74 [.agg [.z x,.z y,.z n]] = some (.bool true):=by
 have h:=c102 n h3
 have hx:=hv.x
 have hy:=hv.y
 have he:=hv.eq
 have pb:=p65_bd n
 have h0 : ¬ ((n : Int) < 0):=by omega
 have h2 : ¬ ((3 : Int) < n):=by omega
 generalize p65 n = r at *
 have m1:=mul_bd (A:=274625) (C:=274625) (x:=x) (y:=x) (by omega) (by omega) (by omega) (by omega)
 have m2:=mul_bd (A:=274625) (C:=274625) (x:=y) (y:=y) (by omega) (by omega) (by omega) (by omega)
 have m3:=mul_bd (A:=274625) (C:=274625) (x:=r) (y:=r) (by omega) (by omega) (by omega) (by omega)
 have w1 : IntKind.i64.wrap (x * x) = x * x:=wrap_small (by omega) (by omega)
 have w2 : IntKind.i64.wrap (y * y) = y * y:=wrap_small (by omega) (by omega)
 have w3 : IntKind.i64.wrap (r * r) = r * r:=wrap_small (by omega) (by omega)
 have w4 : IntKind.i64.wrap (x * x + y * y) = r * r:=by rw [he]; exact w3
 have w5 : IntKind.i64.wrap (0 - r) = -r:=by rw [wrap_small (by omega) (by omega)]; omega
 rw [pc_eq]; simp +contextual -implicitDefEqProofs (maxSteps:=2000000) only [go_sem,E_74,A74,h,h0,h2,hx.1,hx.2,hy.1,hy.2,w1,w2,w3,w4,w5]
def cx (x y q : Int) : Int:=x * (csI q).1 - y * (csI q).2
def cy (x y q : Int) : Int:=x * (csI q).2 + y * (csI q).1
theorem cV {x y : Int} {n : Nat} (hn : n≤2) (h : VD x y (p65 n)) (q : Int) : VD (cx x y q) (cy x y q) (p65 (n + 1)):=by
 have:=h.mul (csV q)
 rwa [p65_succ hn] at this
theorem VD.bd {x y : Int} {n : Nat} (h : VD x y (p65 n)) : (-274625≤x∧x≤274625)∧(-274625≤y∧y≤274625):=by
 have:=h.x; have:=h.y; have:=p65_bd n; omega
theorem c110 (x y q : Int) (n : Nat) (hn : n≤2) (hv : VD x y (p65 n)) : pc E 110 [.agg [.z x,.z y,.z n],.z q] = some (.agg [.z (cx x y q),.z (cy x y q),.z (n + 1 : Nat)]):=by
 have h:=c127 x y n (by omega) hv
 have h2:=c128 x y q hv.bd.1 hv.bd.2
 have h3 : ((n : Int) == 3) = false:=by simp; omega
 have w:=wr_succ (n:=n) (by omega)
 rw [← cx,← cy] at h2
 rw [pc_eq]; simp +contextual -implicitDefEqProofs (maxSteps:=2000000) only [go_sem,E_110,A110,h,h2,h3,w]
theorem c85 (x y q : Int) (n : Nat) (hn : n≤2) (hv : VD x y (p65 n)) : pc E 85 [.agg [.z x,.z y,.z n],.z q] = some (.agg [.z (cx x y q),.z (cy x y q),.z (n + 1 : Nat)]):=by
 have h:=c74 x y n (by omega) hv
 have h2:=c111 q
 have h3 : ((n : Int) == 3) = false:=by simp; omega
 have w:=wr_succ (n:=n) (by omega)
 have v:=csV q
 have b1:=v.x
 have b2:=v.y
 have hx:=hv.bd.1
 have hy:=hv.bd.2
 unfold cx cy
 generalize (csI q).1 = c at *
 generalize (csI q).2 = s at *
 have m1:=mul_bd hx.1 hx.2 b1.1 b1.2
 have m2:=mul_bd hx.1 hx.2 b2.1 b2.2
 have m3:=mul_bd hy.1 hy.2 b1.1 b1.2
 have m4:=mul_bd hy.1 hy.2 b2.1 b2.2
 have w1 : IntKind.i64.wrap (x * c) = x * c:=wrap_small (by omega) (by omega)
 have w2 : IntKind.i64.wrap (x * s) = x * s:=wrap_small (by omega) (by omega)
 have w3 : IntKind.i64.wrap (y * c) = y * c:=wrap_small (by omega) (by omega)
 have w4 : IntKind.i64.wrap (y * s) = y * s:=wrap_small (by omega) (by omega)
 have w5 : IntKind.i64.wrap (x * c - y * s) = x * c - y * s:=wrap_small (by omega) (by omega)
 have w6 : IntKind.i64.wrap (x * s + y * c) = x * s + y * c:=wrap_small (by omega) (by omega)
 rw [pc_eq]; simp +contextual -implicitDefEqProofs (maxSteps:=2000000) only [go_sem,E_85,A85,h,h2,h3,w,w1,w2,w3,w4,w5,w6]
def u65 : Nat → Int
 | 0=>4394000 | 1=>67600 | 2=>1040 | _=>16
theorem tdiv_u : ∀ n : Nat,(4394000 : Int).tdiv (p65 n) = u65 n
 | 0=>rfl | 1=>rfl | 2=>rfl | _ + 3=>rfl
theorem u65_p : ∀ n : Nat,u65 n * p65 n = 4394000
 | 0=>rfl | 1=>rfl | 2=>rfl | _ + 3=>rfl
theorem u65_bd (n : Nat) : 16≤u65 n∧u65 n≤4394000:=by unfold u65; split <;> omega
theorem ux_bd {x y : Int} {n : Nat} (hv : VD x y (p65 n)) (m : Int) (hm : 0≤m∧m≤40) : (-175760000≤m * u65 n * x∧m * u65 n * x≤175760000)∧(-175760000≤m * u65 n * y∧m * u65 n * y≤175760000):=by
 have hx:=hv.x
 have hy:=hv.y
 have e:=u65_p n
 have pb:=p65_bd n
 have ub:=u65_bd n
 generalize p65 n = r at *
 generalize u65 n = u at *
 have mu : 0≤m * u:=Qa6 hm.1 (by omega)
 have k1 : m * u * r≤175760000:=by
  have : m * u * r = m * 4394000:=by rw [Int.mul_assoc,e]
  omega
 have a1:=Qag hx.1 mu
 have a2:=Qag hx.2 mu
 have a3:=Qag hy.1 mu
 have a4:=Qag hy.2 mu
 rw [Int.mul_neg] at a1 a3
 omega
theorem mu_bd (n : Nat) (m : Int) (hm : 0≤m∧m≤40) : 0≤m * u65 n∧m * u65 n≤175760000:=by
 have ub:=u65_bd n
 have:=mul_bd (A:=40) (C:=4394000) (x:=m) (y:=u65 n) (by omega) (by omega) (by omega) (by omega)
 exact ⟨Qa6 hm.1 (by omega),by omega⟩
theorem c109 (x y : Int) (n : Nat) (hn : n≤3) (hv : VD x y (p65 n)) (m : Int) (hm : 0≤m∧m≤40) : pc E 109 [.agg [.z x,.z y,.z n],.z m] = some (.agg [.z (m * u65 n * x),.z (m * u65 n * y)]):=by
 have h:=c126 n hn
 have t:=tdiv_u n
 have b:=ux_bd hv m hm
 have mb:=mu_bd n m hm
 have ub:=u65_bd n
 have pb:=p65_bd n
 have nz : ¬ (p65 n = 0):=by omega
 generalize p65 n = r at *
 generalize u65 n = u at *
 have w0 : IntKind.i64.wrap u = u:=wrap_small (by omega) (by omega)
 have w1 : IntKind.i64.wrap (m * u) = m * u:=wrap_small (by omega) (by omega)
 have w2 : IntKind.i64.wrap (m * u * x) = m * u * x:=wrap_small (by omega) (by omega)
 have w3 : IntKind.i64.wrap (m * u * y) = m * u * y:=wrap_small (by omega) (by omega)
 rw [pc_eq]; simp +contextual -implicitDefEqProofs (maxSteps:=2000000) only [go_sem,E_109,A109,h,t,w0,w1,w2,w3,nz]
theorem c83 (x y : Int) (n : Nat) (hn : n≤3) (hv : VD x y (p65 n)) (m : Int) (hm : 0≤m∧m≤40) : pc E 83 [.agg [.z x,.z y,.z n],.z m] = some (.agg [.z (m * u65 n * x),.z (m * u65 n * y)]):=by
 have h:=c102 n hn
 have t:=tdiv_u n
 have b:=ux_bd hv m hm
 have mb:=mu_bd n m hm
 have ub:=u65_bd n
 have pb:=p65_bd n
 have nz : ¬ (p65 n = 0):=by omega
 generalize p65 n = r at *
 generalize u65 n = u at *
 have w0 : IntKind.i64.wrap u = u:=wrap_small (by omega) (by omega)
 have w1 : IntKind.i64.wrap (m * u) = m * u:=wrap_small (by omega) (by omega)
 have w2 : IntKind.i64.wrap (m * u * x) = m * u * x:=wrap_small (by omega) (by omega)
 have w3 : IntKind.i64.wrap (m * u * y) = m * u * y:=wrap_small (by omega) (by omega)
 rw [pc_eq]; simp +contextual -implicitDefEqProofs (maxSteps:=2000000) only [go_sem,E_83,A83,h,t,w0,w1,w2,w3,nz]
end Go.Proofs.YtbpneedpcccpaaaGreat

namespace Go.Proofs.YtbpneedpcccpaaaGreat
open Go Go.Zv
structure Arm where
 bx : Int
 by_ : Int
 l0 : Int
 l1 : Int
 l2 : Int
 w : Int
 lo0 : Int
 lo1 : Int
 lo2 : Int
 hi0 : Int
 hi1 : Int
 hi2 : Int
abbrev avc (a : Arm) : List LV:=[.z a.bx,.z a.by_,.z a.l0,.z a.l1,.z a.l2,.z a.w,.z a.lo0,.z a.lo1,.z a.lo2,.z a.hi0,.z a.hi1,.z a.hi2]
abbrev av (a : Arm) : LV:=.agg (avc a)
abbrev jv (q0 q1 q2 : Int) : LV:=.agg [.z q0,.z q1,.z q2]
structure OKa (a : Arm) : Prop where
 l0 : 1≤a.l0∧a.l0≤40
 l1 : 1≤a.l1∧a.l1≤40
 l2 : 1≤a.l2∧a.l2≤40
 w : 1≤a.w∧a.w≤4
 j0 : -17≤a.lo0∧a.lo0≤a.hi0∧a.hi0≤18
 j1 : -17≤a.lo1∧a.lo1≤a.hi1∧a.hi1≤18
 j2 : -17≤a.lo2∧a.lo2≤a.hi2∧a.hi2≤18
 bx : -((100 - (a.w + a.l0 + a.l1 + a.l2)) * 4394000)≤a.bx∧a.bx≤(100 - (a.w + a.l0 + a.l1 + a.l2)) * 4394000
 by_ : -((100 - (a.w + a.l0 + a.l1 + a.l2)) * 4394000)≤a.by_∧a.by_≤(100 - (a.w + a.l0 + a.l1 + a.l2)) * 4394000
 mx : a.bx.tmod 16 = 0
 my : a.by_.tmod 16 = 0
theorem VD0 : VD 1 0 (p65 0):=⟨by simp [p65],by simp [p65]⟩
abbrev dirs (q0 q1 q2 : Int) : List LV:=[.z (cx 1 0 q0),.z (cy 1 0 q0),.z 1,.z (cx (cx 1 0 q0) (cy 1 0 q0) q1),.z (cy (cx 1 0 q0) (cy 1 0 q0) q1),.z 2,
 .z (cx (cx (cx 1 0 q0) (cy 1 0 q0) q1) (cy (cx 1 0 q0) (cy 1 0 q0) q1) q2),.z (cy (cx (cx 1 0 q0) (cy 1 0 q0) q1) (cy (cx 1 0 q0) (cy 1 0 q0) q1) q2),.z 3]
theorem c81 (a : Arm) (q0 q1 q2 : Int) : pc E 81 [av a,jv q0 q1 q2] = some (.agg (dirs q0 q1 q2)):=by
 have v1:=cV (n:=0) (by omega) VD0 q0
 have v2:=cV (n:=1) (by omega) v1 q1
 have h1:=c110 1 0 q0 0 (by omega) VD0
 have h2:=c110 _ _ q1 1 (by omega) v1
 have h3:=c110 _ _ q2 2 (by omega) v2
 simp only [Qn,Qv,Qcg,Qbe,Nat.reduceAdd,Qby] at h1 h2 h3
 unfold dirs
 generalize cx 1 0 q0 = x1 at *
 generalize cy 1 0 q0 = y1 at *
 generalize cx x1 y1 q1 = x2 at *
 generalize cy x1 y1 q1 = y2 at *
 rw [pc_eq]; simp +contextual -implicitDefEqProofs (maxSteps:=2000000) only [go_sem,E_81,A81,A81_L0_eq,A81_L0b,h1,h2,h3]
theorem c52 (a : Arm) (q0 q1 q2 : Int) : pc E 52 [av a,jv q0 q1 q2] = some (.agg (dirs q0 q1 q2)):=by
 have v1:=cV (n:=0) (by omega) VD0 q0
 have v2:=cV (n:=1) (by omega) v1 q1
 have h1:=c85 1 0 q0 0 (by omega) VD0
 have h2:=c85 _ _ q1 1 (by omega) v1
 have h3:=c85 _ _ q2 2 (by omega) v2
 simp only [Qn,Qv,Qcg,Qbe,Nat.reduceAdd,Qby] at h1 h2 h3
 unfold dirs
 generalize cx 1 0 q0 = x1 at *
 generalize cy 1 0 q0 = y1 at *
 generalize cx x1 y1 q1 = x2 at *
 generalize cy x1 y1 q1 = y2 at *
 rw [pc_eq]; simp +contextual -implicitDefEqProofs (maxSteps:=2000000) only [go_sem,E_52,A52,h1,h2,h3]
end Go.Proofs.YtbpneedpcccpaaaGreat

namespace Go.Proofs.YtbpneedpcccpaaaGreat
open Go Go.Zv
theorem c65 (ax ay bx by_ : Int) : pc E 65 [.agg [.z ax,.z ay],.agg [.z bx,.z by_]] = some (.agg [.z (IntKind.i64.wrap (ax + bx)),.z (IntKind.i64.wrap (ay + by_))]):=by
 rw [pc_eq]; simp +contextual -implicitDefEqProofs (maxSteps:=2000000) only [go_sem,E_65,A65]
theorem c84 (ax ay bx by_ : Int) : pc E 84 [.agg [.z ax,.z ay],.agg [.z bx,.z by_]] = some (.agg [.z (IntKind.i64.wrap (ax + bx)),.z (IntKind.i64.wrap (ay + by_))]):=by
 rw [pc_eq]; simp +contextual -implicitDefEqProofs (maxSteps:=2000000) only [go_sem,E_84,A84]
theorem c94 (ax ay bx by_ : Int) : pc E 94 [.agg [.z ax,.z ay],.agg [.z bx,.z by_]] = some (.agg [.z (IntKind.i64.wrap (ax - bx)),.z (IntKind.i64.wrap (ay - by_))]):=by
 rw [pc_eq]; simp +contextual -implicitDefEqProofs (maxSteps:=2000000) only [go_sem,E_94,A94]
structure Pts where
 x1 : Int
 y1 : Int
 x2 : Int
 y2 : Int
 x3 : Int
 y3 : Int
def dd (q0 q1 q2 : Int) : Pts:=⟨cx 1 0 q0,cy 1 0 q0,cx (cx 1 0 q0) (cy 1 0 q0) q1,cy (cx 1 0 q0) (cy 1 0 q0) q1,cx (cx (cx 1 0 q0) (cy 1 0 q0) q1) (cy (cx 1 0 q0) (cy 1 0 q0) q1) q2,cy (cx (cx 1 0 q0) (cy 1 0 q0) q1) (cy (cx 1 0 q0) (cy 1 0 q0) q1) q2⟩
structure DV (d : Pts) : Prop where
 v1 : VD d.x1 d.y1 (p65 1)
 v2 : VD d.x2 d.y2 (p65 2)
 v3 : VD d.x3 d.y3 (p65 3)
theorem ddV (q0 q1 q2 : Int) : DV (dd q0 q1 q2):=⟨cV (n:=0) (by omega) VD0 q0,cV (n:=1) (by omega) (cV (n:=0) (by omega) VD0 q0) q1,cV (n:=2) (by omega) (cV (n:=1) (by omega) (cV (n:=0) (by omega) VD0 q0) q1) q2⟩
abbrev ddv (d : Pts) : List LV:=[.z d.x1,.z d.y1,.z 1,.z d.x2,.z d.y2,.z 2,.z d.x3,.z d.y3,.z 3]
theorem c81' (a : Arm) (q0 q1 q2 : Int) : pc E 81 [av a,jv q0 q1 q2] = some (.agg (ddv (dd q0 q1 q2))):=c81 a q0 q1 q2
theorem c52' (a : Arm) (q0 q1 q2 : Int) : pc E 52 [av a,jv q0 q1 q2] = some (.agg (ddv (dd q0 q1 q2))):=c52 a q0 q1 q2
def pp (a : Arm) (d : Pts) : Pts:=⟨a.bx + a.l0 * 67600 * d.x1,a.by_ + a.l0 * 67600 * d.y1,a.bx + a.l0 * 67600 * d.x1 + a.l1 * 1040 * d.x2,a.by_ + a.l0 * 67600 * d.y1 + a.l1 * 1040 * d.y2,
 a.bx + a.l0 * 67600 * d.x1 + a.l1 * 1040 * d.x2 + a.l2 * 16 * d.x3,a.by_ + a.l0 * 67600 * d.y1 + a.l1 * 1040 * d.y2 + a.l2 * 16 * d.y3⟩
abbrev ppv (a : Arm) (p : Pts) : List LV:=[.z a.bx,.z a.by_,.z p.x1,.z p.y1,.z p.x2,.z p.y2,.z p.x3,.z p.y3]
structure Bds (a : Arm) (d : Pts) : Prop where
 o0x : -175760000≤a.l0 * 67600 * d.x1∧a.l0 * 67600 * d.x1≤175760000
 o0y : -175760000≤a.l0 * 67600 * d.y1∧a.l0 * 67600 * d.y1≤175760000
 o1x : -175760000≤a.l1 * 1040 * d.x2∧a.l1 * 1040 * d.x2≤175760000
 o1y : -175760000≤a.l1 * 1040 * d.y2∧a.l1 * 1040 * d.y2≤175760000
 o2x : -175760000≤a.l2 * 16 * d.x3∧a.l2 * 16 * d.x3≤175760000
 o2y : -175760000≤a.l2 * 16 * d.y3∧a.l2 * 16 * d.y3≤175760000
 bx : -439400000≤a.bx∧a.bx≤439400000
 by_ : -439400000≤a.by_∧a.by_≤439400000
theorem bds {a : Arm} (h : OKa a) {d : Pts} (v : DV d) : Bds a d:=by
 have a1:=ux_bd v.v1 a.l0 (by have:=h.l0; omega)
 have a2:=ux_bd v.v2 a.l1 (by have:=h.l1; omega)
 have a3:=ux_bd v.v3 a.l2 (by have:=h.l2; omega)
 exact ⟨a1.1,a1.2,a2.1,a2.2,a3.1,a3.2,by have:=h.bx; have:=h.w; have:=h.l0; have:=h.l1; have:=h.l2; omega,by have:=h.by_; have:=h.w; have:=h.l0; have:=h.l1; have:=h.l2; omega⟩
theorem c80 (a : Arm) (h : OKa a) (q0 q1 q2 : Int) : pc E 80 [av a,jv q0 q1 q2] = some (.agg (ppv a (pp a (dd q0 q1 q2)))):=by
 have hd:=c81' a q0 q1 q2
 have v:=ddV q0 q1 q2
 have b:=bds h v
 have k1:=c109 _ _ 1 (by omega) v.v1 a.l0 (by have:=h.l0; omega)
 have k2:=c109 _ _ 2 (by omega) v.v2 a.l1 (by have:=h.l1; omega)
 have k3:=c109 _ _ 3 (by omega) v.v3 a.l2 (by have:=h.l2; omega)
 simp only [u65,Qcg,Qby] at k1 k2 k3
 generalize dd q0 q1 q2 = d at *
 obtain ⟨o0x,o0y,o1x,o1y,o2x,o2y,bx,by_⟩:=b
 unfold pp
 have g1:=c65 a.bx a.by_ (a.l0 * 67600 * d.x1) (a.l0 * 67600 * d.y1)
 rw [wrap_small (by omega) (by omega),wrap_small (by omega) (by omega)] at g1
 have g2:=c65 (a.bx + a.l0 * 67600 * d.x1) (a.by_ + a.l0 * 67600 * d.y1) (a.l1 * 1040 * d.x2) (a.l1 * 1040 * d.y2)
 rw [wrap_small (by omega) (by omega),wrap_small (by omega) (by omega)] at g2
 have g3:=c65 (a.bx + a.l0 * 67600 * d.x1 + a.l1 * 1040 * d.x2) (a.by_ + a.l0 * 67600 * d.y1 + a.l1 * 1040 * d.y2) (a.l2 * 16 * d.x3) (a.l2 * 16 * d.y3)
 rw [wrap_small (by omega) (by omega),wrap_small (by omega) (by omega)] at g3
 generalize a.l0 * 67600 * d.x1 = e1 at *
 generalize a.l0 * 67600 * d.y1 = e2 at *
 generalize a.l1 * 1040 * d.x2 = e3 at *
 generalize a.l1 * 1040 * d.y2 = e4 at *
 generalize a.l2 * 16 * d.x3 = e5 at *
 generalize a.l2 * 16 * d.y3 = e6 at *
 rw [pc_eq]; simp +contextual -implicitDefEqProofs (maxSteps:=2000000) only [go_sem,E_80,A80,A80_L0_eq,A80_L0b,hd,k1,k2,k3,E_108,A108,g1,g2,g3]
theorem c51 (a : Arm) (h : OKa a) (q0 q1 q2 : Int) : pc E 51 [av a,jv q0 q1 q2] = some (.agg (ppv a (pp a (dd q0 q1 q2)))):=by
 have hd:=c52' a q0 q1 q2
 have v:=ddV q0 q1 q2
 have b:=bds h v
 have k1:=c83 _ _ 1 (by omega) v.v1 a.l0 (by have:=h.l0; omega)
 have k2:=c83 _ _ 2 (by omega) v.v2 a.l1 (by have:=h.l1; omega)
 have k3:=c83 _ _ 3 (by omega) v.v3 a.l2 (by have:=h.l2; omega)
 simp only [u65,Qcg,Qby] at k1 k2 k3
 generalize dd q0 q1 q2 = d at *
 obtain ⟨o0x,o0y,o1x,o1y,o2x,o2y,bx,by_⟩:=b
 unfold pp
 have g1:=c84 a.bx a.by_ (a.l0 * 67600 * d.x1) (a.l0 * 67600 * d.y1)
 rw [wrap_small (by omega) (by omega),wrap_small (by omega) (by omega)] at g1
 have g2:=c84 (a.bx + a.l0 * 67600 * d.x1) (a.by_ + a.l0 * 67600 * d.y1) (a.l1 * 1040 * d.x2) (a.l1 * 1040 * d.y2)
 rw [wrap_small (by omega) (by omega),wrap_small (by omega) (by omega)] at g2
 have g3:=c84 (a.bx + a.l0 * 67600 * d.x1 + a.l1 * 1040 * d.x2) (a.by_ + a.l0 * 67600 * d.y1 + a.l1 * 1040 * d.y2) (a.l2 * 16 * d.x3) (a.l2 * 16 * d.y3)
 rw [wrap_small (by omega) (by omega),wrap_small (by omega) (by omega)] at g3
 generalize a.l0 * 67600 * d.x1 = e1 at *
 generalize a.l0 * 67600 * d.y1 = e2 at *
 generalize a.l1 * 1040 * d.x2 = e3 at *
 generalize a.l1 * 1040 * d.y2 = e4 at *
 generalize a.l2 * 16 * d.x3 = e5 at *
 generalize a.l2 * 16 * d.y3 = e6 at *
 rw [pc_eq]; simp +contextual -implicitDefEqProofs (maxSteps:=2000000) only [go_sem,E_51,A51,A51_L0_eq,A51_L0b,hd,k1,k2,k3,g1,g2,g3]
end Go.Proofs.YtbpneedpcccpaaaGreat

namespace Go.Proofs.YtbpneedpcccpaaaGreat
open Go Go.Zv
theorem c125 (x y : Int) (h : -1000000000≤y∧y≤1000000000) : pc E 125 [.agg [.z x,.z y]] = some (.agg [.z (-y),.z x]):=by
 have h1:=c136 x y (by omega) (by omega)
 rw [pc_eq]; simp +contextual -implicitDefEqProofs (maxSteps:=2000000) only [go_sem,E_125,A125,h1]
def lkc (fx fy tx ty ox oy : Int) : List (Int × Int):=[(fx + oy,fy - ox),(tx + oy,ty - ox),(tx - oy,ty + ox),(fx - oy,fy + ox)]
abbrev pt (p : Int × Int) : LV:=.agg [.z p.1,.z p.2]
def c2 (p : Int × Int) : List LV:=[.z p.1,.z p.2]
theorem c105 (a : Arm) (hw : 0≤a.w∧a.w≤40) (q0 q1 q2 x y : Int) (n : Nat) (hn : n≤3) (hv : VD x y (p65 n)) (fx fy tx ty : Int) (h1 : -1000000000≤fx∧fx≤1000000000) (h2 : -1000000000≤fy∧fy≤1000000000) (h3 : -1000000000≤tx∧tx≤1000000000) (h4 : -1000000000≤ty∧ty≤1000000000) :
  pc E 105 [.agg [.z a.bx,.z a.by_,.z a.l0,.z a.l1,.z a.l2,.z a.w,.z a.lo0,.z a.lo1,.z a.lo2,.z a.hi0,.z a.hi1,.z a.hi2,.z q0,.z q1,.z q2],.agg [.z x,.z y,.z n],.agg [.z fx,.z fy],.agg [.z tx,.z ty]] =
  some (.os 2 ((lkc fx fy tx ty (a.w * u65 n * x) (a.w * u65 n * y)).map c2)):=by
 have k:=c109 x y n hn hv a.w hw
 have b:=ux_bd hv a.w hw
 generalize a.w * u65 n * x = ox at *
 generalize a.w * u65 n * y = oy at *
 have r:=c125 ox oy (by omega)
 have s1:=c94 fx fy (-oy) ox
 rw [wrap_small (by omega) (by omega),wrap_small (by omega) (by omega),show fx - -oy = fx + oy by omega] at s1
 have s2:=c94 tx ty (-oy) ox
 rw [wrap_small (by omega) (by omega),wrap_small (by omega) (by omega),show tx - -oy = tx + oy by omega] at s2
 have s3:=c65 tx ty (-oy) ox
 rw [wrap_small (by omega) (by omega),wrap_small (by omega) (by omega),show tx + -oy = tx - oy by omega] at s3
 have s4:=c65 fx fy (-oy) ox
 rw [wrap_small (by omega) (by omega),wrap_small (by omega) (by omega),show fx + -oy = fx - oy by omega] at s4
 rw [pc_eq]; simp +contextual -implicitDefEqProofs (maxSteps:=2000000) only [go_sem,E_105,A105,k,r,s1,s2,s3,s4,lkc,c2,Qk,Q0]
end Go.Proofs.YtbpneedpcccpaaaGreat

namespace Go.Proofs.YtbpneedpcccpaaaGreat
open Go Go.Zv
def lks (a : Arm) (d : Pts) : List (List (Int × Int)) :=
 [lkc a.bx a.by_ (pp a d).x1 (pp a d).y1 (a.w * 67600 * d.x1) (a.w * 67600 * d.y1),
  lkc (pp a d).x1 (pp a d).y1 (pp a d).x2 (pp a d).y2 (a.w * 1040 * d.x2) (a.w * 1040 * d.y2),
  lkc (pp a d).x2 (pp a d).y2 (pp a d).x3 (pp a d).y3 (a.w * 16 * d.x3) (a.w * 16 * d.y3)]
abbrev lkv (l : List (Int × Int)) : LV:=.vs (l.map c2)
theorem lkc_len (a b c d e f : Int) : (lkc a b c d e f).length = 4:=rfl
theorem c78 (a : Arm) (h : OKa a) (q0 q1 q2 : Int) : pc E 78 [av a,jv q0 q1 q2] = some (.agg ((lks a (dd q0 q1 q2)).map lkv)):=by
 have h1:=c81' a q0 q1 q2
 have h2:=c80 a h q0 q1 q2
 have v:=ddV q0 q1 q2
 have b:=bds h v
 obtain ⟨o0x,o0y,o1x,o1y,o2x,o2y,bx,by_⟩:=b
 have hw : 0≤a.w∧a.w≤40:=by have:=h.w; omega
 generalize dd q0 q1 q2 = d at *
 have k1:=c105 a hw q0 q1 q2 _ _ 1 (by omega) v.v1 a.bx a.by_ (pp a d).x1 (pp a d).y1 (by omega) (by omega) (by simp only [pp]; omega) (by simp only [pp]; omega)
 have k2:=c105 a hw q0 q1 q2 _ _ 2 (by omega) v.v2 (pp a d).x1 (pp a d).y1 (pp a d).x2 (pp a d).y2 (by simp only [pp]; omega) (by simp only [pp]; omega) (by simp only [pp]; omega) (by simp only [pp]; omega)
 have k3:=c105 a hw q0 q1 q2 _ _ 3 (by omega) v.v3 (pp a d).x2 (pp a d).y2 (pp a d).x3 (pp a d).y3 (by simp only [pp]; omega) (by simp only [pp]; omega) (by simp only [pp]; omega) (by simp only [pp]; omega)
 simp only [u65,Qcg,Qby] at k1 k2 k3
 unfold lks
 have t : ∀ l : List (Int × Int),l.length = 4 → (l.map c2).take 4 = l.map c2:=fun l hl=>Qr (by simp [hl])
 have t1:=t _ (lkc_len a.bx a.by_ (pp a d).x1 (pp a d).y1 (a.w * 67600 * d.x1) (a.w * 67600 * d.y1))
 have t2:=t _ (lkc_len (pp a d).x1 (pp a d).y1 (pp a d).x2 (pp a d).y2 (a.w * 1040 * d.x2) (a.w * 1040 * d.y2))
 have t3:=t _ (lkc_len (pp a d).x2 (pp a d).y2 (pp a d).x3 (pp a d).y3 (a.w * 16 * d.x3) (a.w * 16 * d.y3))
 have n1:=lkc_len a.bx a.by_ (pp a d).x1 (pp a d).y1 (a.w * 67600 * d.x1) (a.w * 67600 * d.y1)
 have n2:=lkc_len (pp a d).x1 (pp a d).y1 (pp a d).x2 (pp a d).y2 (a.w * 1040 * d.x2) (a.w * 1040 * d.y2)
 have n3:=lkc_len (pp a d).x2 (pp a d).y2 (pp a d).x3 (pp a d).y3 (a.w * 16 * d.x3) (a.w * 16 * d.y3)
 generalize lkc a.bx a.by_ (pp a d).x1 (pp a d).y1 (a.w * 67600 * d.x1) (a.w * 67600 * d.y1) = L1 at *
 generalize lkc (pp a d).x1 (pp a d).y1 (pp a d).x2 (pp a d).y2 (a.w * 1040 * d.x2) (a.w * 1040 * d.y2) = L2 at *
 generalize lkc (pp a d).x2 (pp a d).y2 (pp a d).x3 (pp a d).y3 (a.w * 16 * d.x3) (a.w * 16 * d.y3) = L3 at *
 rw [pc_eq]; simp +contextual -implicitDefEqProofs (maxSteps:=2000000) only [go_sem,E_78,A78,A78_L0_eq,A78_L0b,h1,h2,k1,k2,k3,Qb,t1,t2,t3,n1,n2,n3,Qk,Q0]
end Go.Proofs.YtbpneedpcccpaaaGreat

namespace Go.Proofs.YtbpneedpcccpaaaGreat
open Go Go.Zv
def fr (a : Arm) : Int:=(100 - (a.w + a.l0 + a.l1 + a.l2)) * 4394000
open Classical in
noncomputable def okB (a : Arm) : Bool:=decide (OKa a)
open Classical in
theorem okF {a : Arm} (h : OKa a → False) : okB a = false:=by unfold okB; exact decide_eq_false h
open Classical in
theorem okT {a : Arm} (h : OKa a) : okB a = true:=by unfold okB; exact decide_eq_true h
open Classical in
structure Pre (a : Arm) : Prop where
 l0 : 1≤a.l0∧a.l0≤40
 l1 : 1≤a.l1∧a.l1≤40
 l2 : 1≤a.l2∧a.l2≤40
 w : 1≤a.w∧a.w≤4
 j0 : -17≤a.lo0∧a.lo0≤a.hi0∧a.hi0≤18
 j1 : -17≤a.lo1∧a.lo1≤a.hi1∧a.hi1≤18
 j2 : -17≤a.lo2∧a.lo2≤a.hi2∧a.hi2≤18
theorem mn_iff (a b x : Int) : x≤mnI a b ↔ x≤a∧x≤b:=by unfold mnI; split <;> omega
theorem mx_iff (a b x : Int) : mxI a b≤x ↔ a≤x∧b≤x:=by unfold mxI; split <;> omega
theorem ok_inv {a : Arm} (h : OKa a) : (a.bx.tmod 16 = 0∧a.by_.tmod 16 = 0) ∧ -(fr a)≤mnI a.bx a.by_∧mxI a.bx a.by_≤fr a:=by
 rw [mn_iff,mx_iff]
 exact ⟨⟨h.mx,h.my⟩,⟨h.bx.1,h.by_.1⟩,⟨h.bx.2,h.by_.2⟩⟩
end Go.Proofs.YtbpneedpcccpaaaGreat

namespace Go.Proofs.YtbpneedpcccpaaaGreat
open Go Go.Zv
def farB (a : Arm) : Bool:=decide (1000000000 < a.bx) || (decide (a.bx < -1000000000) || (decide (1000000000 < a.by_) || decide (a.by_ < -1000000000)))
theorem c71 (a : Arm) : pc E 71 [av a] = some (.bool (farB a)):=by
 unfold farB
 by_cases g0 : 1000000000 < a.bx
 ·rw [pc_eq]; simp +contextual -implicitDefEqProofs (maxSteps:=2000000) only [go_sem,E_71,A71,g0]
 ·by_cases g1 : a.bx < -1000000000
  ·rw [pc_eq]; simp +contextual -implicitDefEqProofs (maxSteps:=2000000) only [go_sem,E_71,A71,g0,g1]
  ·by_cases g2 : 1000000000 < a.by_
   ·rw [pc_eq]; simp +contextual -implicitDefEqProofs (maxSteps:=2000000) only [go_sem,E_71,A71,g0,g1,g2]
   ·rw [pc_eq]; simp +contextual -implicitDefEqProofs (maxSteps:=2000000) only [go_sem,E_71,A71,g0,g1,g2]
def ab (n : Int) : Int:=if n < 0 then -n else n
theorem c72 (n : Int) (h : -2000000000≤n∧n≤2000000000) : pc E 72 [.z n] = some (.z (ab n)):=by
 have w : IntKind.i64.wrap (0 - n) = -n:=by rw [wrap_small (by omega) (by omega)]; omega
 unfold ab
 by_cases h : n < 0
 ·rw [pc_eq]; simp +contextual -implicitDefEqProofs (maxSteps:=2000000) only [go_sem,E_72,A72,h,w]
 ·rw [pc_eq]; simp +contextual -implicitDefEqProofs (maxSteps:=2000000) only [go_sem,E_72,A72,h]
theorem ok_inv2 {a : Arm} (h : OKa a) : farB a = false∧ab a.bx + (a.w + a.l0 + a.l1 + a.l2) * 4394000≤439400000∧ab a.by_ + (a.w + a.l0 + a.l1 + a.l2) * 4394000≤439400000:=by
 obtain ⟨k1,k2,k3,k4,k5,k6,k7,k8,k9,_,_⟩:=h
 refine ⟨?_,?_,?_⟩
 ·unfold farB; simp only [Qba,decide_eq_false_iff_not]; omega
 ·unfold ab; split <;> omega
 ·unfold ab; split <;> omega
theorem ok_of2 {a : Arm} (h : Pre a) (mx : a.bx.tmod 16 = 0) (my : a.by_.tmod 16 = 0) (h1 : ab a.bx + (a.w + a.l0 + a.l1 + a.l2) * 4394000≤439400000) (h2 : ab a.by_ + (a.w + a.l0 + a.l1 + a.l2) * 4394000≤439400000) : OKa a:=by
 unfold ab at h1 h2
 exact ⟨h.l0,h.l1,h.l2,h.w,h.j0,h.j1,h.j2,by split at h1 <;> omega,by split at h2 <;> omega,mx,my⟩
theorem c16p (a : Arm) (h : Pre a) (hf : farB a = false) (mx : a.bx.tmod 16 = 0) (my : a.by_.tmod 16 = 0) : pc E 35 [av a] = some (.bool (okB a)):=by
 have hf2:=hf
 unfold farB at hf2
 simp only [Qba,decide_eq_false_iff_not] at hf2
 have h46:=c71 a
 rw [hf] at h46
 have hx:=c72 a.bx (by omega)
 have hy:=c72 a.by_ (by omega)
 have bx : 0≤ab a.bx∧ab a.bx≤1000000000:=by unfold ab; split <;> omega
 have by_ : 0≤ab a.by_∧ab a.by_≤1000000000:=by unfold ab; split <;> omega
 obtain ⟨l0,l1,l2,w,j0,j1,j2⟩:=h
 have p : Pre a:=⟨l0,l1,l2,w,j0,j1,j2⟩
 have g0 : ¬ a.l0 < 1:=by omega
 have g1 : ¬ 40 < a.l0:=by omega
 have g2 : ¬ a.lo0 < -17:=by omega
 have g2' : ¬ 18 < a.lo0:=by omega
 have g3 : ¬ 18 < a.hi0:=by omega
 have g3' : ¬ a.hi0 < -17:=by omega
 have g4 : ¬ a.hi0 < a.lo0:=by omega
 have g5 : ¬ a.l1 < 1:=by omega
 have g6 : ¬ 40 < a.l1:=by omega
 have g7 : ¬ a.lo1 < -17:=by omega
 have g7' : ¬ 18 < a.lo1:=by omega
 have g8 : ¬ 18 < a.hi1:=by omega
 have g8' : ¬ a.hi1 < -17:=by omega
 have g9 : ¬ a.hi1 < a.lo1:=by omega
 have g10 : ¬ a.l2 < 1:=by omega
 have g11 : ¬ 40 < a.l2:=by omega
 have g12 : ¬ a.lo2 < -17:=by omega
 have g12' : ¬ 18 < a.lo2:=by omega
 have g13 : ¬ 18 < a.hi2:=by omega
 have g13' : ¬ a.hi2 < -17:=by omega
 have g14 : ¬ a.hi2 < a.lo2:=by omega
 have g15 : ¬ a.w < 1:=by omega
 have g16 : ¬ 4 < a.w:=by omega
 have w1 : IntKind.i64.wrap (a.w + a.l0) = a.w + a.l0:=wrap_small (by omega) (by omega)
 have w2 : IntKind.i64.wrap (a.w + a.l0 + a.l1) = a.w + a.l0 + a.l1:=wrap_small (by omega) (by omega)
 have w3 : IntKind.i64.wrap (a.w + a.l0 + a.l1 + a.l2) = a.w + a.l0 + a.l1 + a.l2:=wrap_small (by omega) (by omega)
 have w4 : IntKind.i64.wrap ((a.w + a.l0 + a.l1 + a.l2) * 4394000) = (a.w + a.l0 + a.l1 + a.l2) * 4394000:=wrap_small (by omega) (by omega)
 have w5 : IntKind.i64.wrap (ab a.bx + (a.w + a.l0 + a.l1 + a.l2) * 4394000) = ab a.bx + (a.w + a.l0 + a.l1 + a.l2) * 4394000:=wrap_small (by omega) (by omega)
 have w6 : IntKind.i64.wrap (ab a.by_ + (a.w + a.l0 + a.l1 + a.l2) * 4394000) = ab a.by_ + (a.w + a.l0 + a.l1 + a.l2) * 4394000:=wrap_small (by omega) (by omega)
 by_cases h1 : ab a.bx + (a.w + a.l0 + a.l1 + a.l2) * 4394000≤439400000
 ·by_cases h2 : ab a.by_ + (a.w + a.l0 + a.l1 + a.l2) * 4394000≤439400000
  ·have hv:=okT (ok_of2 p mx my h1 h2)
   rw [pc_eq]; simp +contextual -implicitDefEqProofs (maxSteps:=2000000) only [go_sem,E_35,A35,A35_L0_eq,A35_L0b,hv,h46,hx,hy,g0,g1,g2,g2',g3,g3',g4,g5,g6,g7,g7',g8,g8',g9,g10,g11,g12,g12',g13,g13',g14,g15,g16,w1,w2,w3,w4,w5,w6,mx,my,h1,h2,bne_self_eq_false]
  ·have hv:=okF (fun h=>h2 (ok_inv2 h).2.2)
   rw [pc_eq]; simp +contextual -implicitDefEqProofs (maxSteps:=2000000) only [go_sem,E_35,A35,A35_L0_eq,A35_L0b,hv,h46,hx,hy,g0,g1,g2,g2',g3,g3',g4,g5,g6,g7,g7',g8,g8',g9,g10,g11,g12,g12',g13,g13',g14,g15,g16,w1,w2,w3,w4,w5,w6,mx,my,h1,h2,bne_self_eq_false]
 ·have hv:=okF (fun h=>h1 (ok_inv2 h).2.1)
  rw [pc_eq]; simp +contextual -implicitDefEqProofs (maxSteps:=2000000) only [go_sem,E_35,A35,A35_L0_eq,A35_L0b,hv,h46,hx,hy,g0,g1,g2,g2',g3,g3',g4,g5,g6,g7,g7',g8,g8',g9,g10,g11,g12,g12',g13,g13',g14,g15,g16,w1,w2,w3,w4,w5,w6,mx,my,h1,bne_self_eq_false]
theorem c35 (a : Arm) : pc E 35 [av a] = some (.bool (okB a)):=by
 have h46:=c71 a
 cases hf : farB a with
 | true =>
   have hv:=okF (fun h=>by have:=(ok_inv2 h).1; rw [hf] at this; cases this)
   rw [hf] at h46
   rw [pc_eq]; simp +contextual -implicitDefEqProofs (maxSteps:=2000000) only [go_sem,E_35,A35,hv,h46]
 | false =>
   rw [hf] at h46
   by_cases mx : a.bx.tmod 16 = 0
   ·by_cases my : a.by_.tmod 16 = 0
    ·by_cases hp : Pre a
     ·exact c16p a hp hf mx my
     ·have hv : okB a = false:=okF (fun h=>hp ⟨h.l0,h.l1,h.l2,h.w,h.j0,h.j1,h.j2⟩)
      by_cases g15 : a.w < 1
      ·rw [pc_eq]; simp +contextual -implicitDefEqProofs (maxSteps:=2000000) only [go_sem,E_35,A35,A35_L0_eq,A35_L0b,hv,h46,mx,my,bne_self_eq_false,g15]
      ·by_cases g16 : 4 < a.w
       ·rw [pc_eq]; simp +contextual -implicitDefEqProofs (maxSteps:=2000000) only [go_sem,E_35,A35,A35_L0_eq,A35_L0b,hv,h46,mx,my,bne_self_eq_false,g15,g16]
       ·by_cases g0 : a.l0 < 1
        ·rw [pc_eq]; simp +contextual -implicitDefEqProofs (maxSteps:=2000000) only [go_sem,E_35,A35,A35_L0_eq,A35_L0b,hv,h46,mx,my,bne_self_eq_false,g15,g16,g0]
        ·by_cases g1 : 40 < a.l0
         ·rw [pc_eq]; simp +contextual -implicitDefEqProofs (maxSteps:=2000000) only [go_sem,E_35,A35,A35_L0_eq,A35_L0b,hv,h46,mx,my,bne_self_eq_false,g15,g16,g0,g1]
         ·by_cases g2 : a.lo0 < -17
          ·rw [pc_eq]; simp +contextual -implicitDefEqProofs (maxSteps:=2000000) only [go_sem,E_35,A35,A35_L0_eq,A35_L0b,hv,h46,mx,my,bne_self_eq_false,g15,g16,g0,g1,g2]
          ·by_cases g2' : 18 < a.lo0
           ·rw [pc_eq]; simp +contextual -implicitDefEqProofs (maxSteps:=2000000) only [go_sem,E_35,A35,A35_L0_eq,A35_L0b,hv,h46,mx,my,bne_self_eq_false,g15,g16,g0,g1,g2,g2']
           ·by_cases g3' : a.hi0 < -17
            ·rw [pc_eq]; simp +contextual -implicitDefEqProofs (maxSteps:=2000000) only [go_sem,E_35,A35,A35_L0_eq,A35_L0b,hv,h46,mx,my,bne_self_eq_false,g15,g16,g0,g1,g2,g2',g3']
            ·by_cases g3 : 18 < a.hi0
             ·rw [pc_eq]; simp +contextual -implicitDefEqProofs (maxSteps:=2000000) only [go_sem,E_35,A35,A35_L0_eq,A35_L0b,hv,h46,mx,my,bne_self_eq_false,g15,g16,g0,g1,g2,g2',g3',g3]
             ·by_cases g4 : a.hi0 < a.lo0
              ·rw [pc_eq]; simp +contextual -implicitDefEqProofs (maxSteps:=2000000) only [go_sem,E_35,A35,A35_L0_eq,A35_L0b,hv,h46,mx,my,bne_self_eq_false,g15,g16,g0,g1,g2,g2',g3',g3,g4]
              ·by_cases g5 : a.l1 < 1
               ·rw [pc_eq]; simp +contextual -implicitDefEqProofs (maxSteps:=2000000) only [go_sem,E_35,A35,A35_L0_eq,A35_L0b,hv,h46,mx,my,bne_self_eq_false,g15,g16,g0,g1,g2,g2',g3',g3,g4,g5]
               ·by_cases g6 : 40 < a.l1
                ·rw [pc_eq]; simp +contextual -implicitDefEqProofs (maxSteps:=2000000) only [go_sem,E_35,A35,A35_L0_eq,A35_L0b,hv,h46,mx,my,bne_self_eq_false,g15,g16,g0,g1,g2,g2',g3',g3,g4,g5,g6]
                ·by_cases g7 : a.lo1 < -17
                 ·rw [pc_eq]; simp +contextual -implicitDefEqProofs (maxSteps:=2000000) only [go_sem,E_35,A35,A35_L0_eq,A35_L0b,hv,h46,mx,my,bne_self_eq_false,g15,g16,g0,g1,g2,g2',g3',g3,g4,g5,g6,g7]
                 ·by_cases g7' : 18 < a.lo1
                  ·rw [pc_eq]; simp +contextual -implicitDefEqProofs (maxSteps:=2000000) only [go_sem,E_35,A35,A35_L0_eq,A35_L0b,hv,h46,mx,my,bne_self_eq_false,g15,g16,g0,g1,g2,g2',g3',g3,g4,g5,g6,g7,g7']
                  ·by_cases g8' : a.hi1 < -17
                   ·rw [pc_eq]; simp +contextual -implicitDefEqProofs (maxSteps:=2000000) only [go_sem,E_35,A35,A35_L0_eq,A35_L0b,hv,h46,mx,my,bne_self_eq_false,g15,g16,g0,g1,g2,g2',g3',g3,g4,g5,g6,g7,g7',g8']
                   ·by_cases g8 : 18 < a.hi1
                    ·rw [pc_eq]; simp +contextual -implicitDefEqProofs (maxSteps:=2000000) only [go_sem,E_35,A35,A35_L0_eq,A35_L0b,hv,h46,mx,my,bne_self_eq_false,g15,g16,g0,g1,g2,g2',g3',g3,g4,g5,g6,g7,g7',g8',g8]
                    ·by_cases g9 : a.hi1 < a.lo1
                     ·rw [pc_eq]; simp +contextual -implicitDefEqProofs (maxSteps:=2000000) only [go_sem,E_35,A35,A35_L0_eq,A35_L0b,hv,h46,mx,my,bne_self_eq_false,g15,g16,g0,g1,g2,g2',g3',g3,g4,g5,g6,g7,g7',g8',g8,g9]
                     ·by_cases g10 : a.l2 < 1
                      ·rw [pc_eq]; simp +contextual -implicitDefEqProofs (maxSteps:=2000000) only [go_sem,E_35,A35,A35_L0_eq,A35_L0b,hv,h46,mx,my,bne_self_eq_false,g15,g16,g0,g1,g2,g2',g3',g3,g4,g5,g6,g7,g7',g8',g8,g9,g10]
                      ·by_cases g11 : 40 < a.l2
                       ·rw [pc_eq]; simp +contextual -implicitDefEqProofs (maxSteps:=2000000) only [go_sem,E_35,A35,A35_L0_eq,A35_L0b,hv,h46,mx,my,bne_self_eq_false,g15,g16,g0,g1,g2,g2',g3',g3,g4,g5,g6,g7,g7',g8',g8,g9,g10,g11]
                       ·by_cases g12 : a.lo2 < -17
                        ·rw [pc_eq]; simp +contextual -implicitDefEqProofs (maxSteps:=2000000) only [go_sem,E_35,A35,A35_L0_eq,A35_L0b,hv,h46,mx,my,bne_self_eq_false,g15,g16,g0,g1,g2,g2',g3',g3,g4,g5,g6,g7,g7',g8',g8,g9,g10,g11,g12]
                        ·by_cases g12' : 18 < a.lo2
                         ·rw [pc_eq]; simp +contextual -implicitDefEqProofs (maxSteps:=2000000) only [go_sem,E_35,A35,A35_L0_eq,A35_L0b,hv,h46,mx,my,bne_self_eq_false,g15,g16,g0,g1,g2,g2',g3',g3,g4,g5,g6,g7,g7',g8',g8,g9,g10,g11,g12,g12']
                         ·by_cases g13' : a.hi2 < -17
                          ·rw [pc_eq]; simp +contextual -implicitDefEqProofs (maxSteps:=2000000) only [go_sem,E_35,A35,A35_L0_eq,A35_L0b,hv,h46,mx,my,bne_self_eq_false,g15,g16,g0,g1,g2,g2',g3',g3,g4,g5,g6,g7,g7',g8',g8,g9,g10,g11,g12,g12',g13']
                          ·by_cases g13 : 18 < a.hi2
                           ·rw [pc_eq]; simp +contextual -implicitDefEqProofs (maxSteps:=2000000) only [go_sem,E_35,A35,A35_L0_eq,A35_L0b,hv,h46,mx,my,bne_self_eq_false,g15,g16,g0,g1,g2,g2',g3',g3,g4,g5,g6,g7,g7',g8',g8,g9,g10,g11,g12,g12',g13',g13]
                           ·by_cases g14 : a.hi2 < a.lo2
                            ·rw [pc_eq]; simp +contextual -implicitDefEqProofs (maxSteps:=2000000) only [go_sem,E_35,A35,A35_L0_eq,A35_L0b,hv,h46,mx,my,bne_self_eq_false,g15,g16,g0,g1,g2,g2',g3',g3,g4,g5,g6,g7,g7',g8',g8,g9,g10,g11,g12,g12',g13',g13,g14]
                            ·exfalso; exact hp ⟨by omega,by omega,by omega,by omega,by omega,by omega,by omega⟩
    ·have hv:=okF (fun h=>my (ok_inv h).1.2)
     have my' : (a.by_.tmod 16 != 0) = true:=by simpa using my
     by_cases g15 : a.w < 1
     ·rw [pc_eq]; simp +contextual -implicitDefEqProofs (maxSteps:=2000000) only [go_sem,E_35,A35,hv,h46,mx,my,my',bne_self_eq_false,g15]
     ·by_cases g16 : 4 < a.w
      ·rw [pc_eq]; simp +contextual -implicitDefEqProofs (maxSteps:=2000000) only [go_sem,E_35,A35,hv,h46,mx,my,my',bne_self_eq_false,g15,g16]
      ·rw [pc_eq]; simp +contextual -implicitDefEqProofs (maxSteps:=2000000) only [go_sem,E_35,A35,hv,h46,mx,my,my',bne_self_eq_false,g15,g16]
   ·have hv:=okF (fun h=>mx (ok_inv h).1.1)
    have mx' : (a.bx.tmod 16 != 0) = true:=by simpa using mx
    by_cases g15 : a.w < 1
    ·rw [pc_eq]; simp +contextual -implicitDefEqProofs (maxSteps:=2000000) only [go_sem,E_35,A35,hv,h46,mx,mx',g15]
    ·by_cases g16 : 4 < a.w
     ·rw [pc_eq]; simp +contextual -implicitDefEqProofs (maxSteps:=2000000) only [go_sem,E_35,A35,hv,h46,mx,mx',g15,g16]
     ·rw [pc_eq]; simp +contextual -implicitDefEqProofs (maxSteps:=2000000) only [go_sem,E_35,A35,hv,h46,mx,mx',g15,g16]
end Go.Proofs.YtbpneedpcccpaaaGreat

namespace Go.Proofs.YtbpneedpcccpaaaGreat
open Go Go.Zv
structure Lim (a : Arm) (q0 q1 q2 : Int) : Prop where
 a0 : a.lo0≤q0∧q0≤a.hi0
 a1 : a.lo1≤q1∧q1≤a.hi1
 a2 : a.lo2≤q2∧q2≤a.hi2
def limB (a : Arm) (q0 q1 q2 : Int) : Bool:=decide (a.lo0≤q0∧q0≤a.hi0∧a.lo1≤q1∧q1≤a.hi1∧a.lo2≤q2∧q2≤a.hi2)
theorem limT {a : Arm} {q0 q1 q2 : Int} (h : Lim a q0 q1 q2) : limB a q0 q1 q2 = true:=decide_eq_true ⟨h.a0.1,h.a0.2,h.a1.1,h.a1.2,h.a2.1,h.a2.2⟩
theorem limF {a : Arm} {q0 q1 q2 : Int} (h : ¬ Lim a q0 q1 q2) : limB a q0 q1 q2 = false:=decide_eq_false fun k=>h ⟨⟨k.1,k.2.1⟩,⟨k.2.2.1,k.2.2.2.1⟩,⟨k.2.2.2.2.1,k.2.2.2.2.2⟩⟩
theorem c43 (a : Arm) (q0 q1 q2 : Int) : pc E 43 [av a,jv q0 q1 q2] = some (.bool (limB a q0 q1 q2)):=by
 by_cases g0 : q0 < a.lo0
 ·have hv:=limF (a:=a) (q0:=q0) (q1:=q1) (q2:=q2) (fun h=>by obtain ⟨h1,h2,h3⟩:=h; omega)
  rw [pc_eq]; simp +contextual -implicitDefEqProofs (maxSteps:=2000000) only [go_sem,E_43,A43,A43_L0_eq,A43_L0b,hv,g0]
 ·by_cases g1 : a.hi0 < q0
  ·have hv:=limF (a:=a) (q0:=q0) (q1:=q1) (q2:=q2) (fun h=>by obtain ⟨h1,h2,h3⟩:=h; omega)
   rw [pc_eq]; simp +contextual -implicitDefEqProofs (maxSteps:=2000000) only [go_sem,E_43,A43,A43_L0_eq,A43_L0b,hv,g0,g1]
  ·by_cases g2 : q1 < a.lo1
   ·have hv:=limF (a:=a) (q0:=q0) (q1:=q1) (q2:=q2) (fun h=>by obtain ⟨h1,h2,h3⟩:=h; omega)
    rw [pc_eq]; simp +contextual -implicitDefEqProofs (maxSteps:=2000000) only [go_sem,E_43,A43,A43_L0_eq,A43_L0b,hv,g0,g1,g2]
   ·by_cases g3 : a.hi1 < q1
    ·have hv:=limF (a:=a) (q0:=q0) (q1:=q1) (q2:=q2) (fun h=>by obtain ⟨h1,h2,h3⟩:=h; omega)
     rw [pc_eq]; simp +contextual -implicitDefEqProofs (maxSteps:=2000000) only [go_sem,E_43,A43,A43_L0_eq,A43_L0b,hv,g0,g1,g2,g3]
    ·by_cases g4 : q2 < a.lo2
     ·have hv:=limF (a:=a) (q0:=q0) (q1:=q1) (q2:=q2) (fun h=>by obtain ⟨h1,h2,h3⟩:=h; omega)
      rw [pc_eq]; simp +contextual -implicitDefEqProofs (maxSteps:=2000000) only [go_sem,E_43,A43,A43_L0_eq,A43_L0b,hv,g0,g1,g2,g3,g4]
     ·by_cases g5 : a.hi2 < q2
      ·have hv:=limF (a:=a) (q0:=q0) (q1:=q1) (q2:=q2) (fun h=>by obtain ⟨h1,h2,h3⟩:=h; omega)
       rw [pc_eq]; simp +contextual -implicitDefEqProofs (maxSteps:=2000000) only [go_sem,E_43,A43,A43_L0_eq,A43_L0b,hv,g0,g1,g2,g3,g4,g5]
      ·have hv:=limT (a:=a) (q0:=q0) (q1:=q1) (q2:=q2) ⟨by omega,by omega,by omega⟩
       rw [pc_eq]; simp +contextual -implicitDefEqProofs (maxSteps:=2000000) only [go_sem,E_43,A43,A43_L0_eq,A43_L0b,hv,g0,g1,g2,g3,g4,g5]
theorem c36 (a : Arm) (q0 q1 q2 : Int) : pc E 36 [av a,jv q0 q1 q2] = some (.bool (limB a q0 q1 q2)):=by
 by_cases g0 : q0 < a.lo0
 ·have hv:=limF (a:=a) (q0:=q0) (q1:=q1) (q2:=q2) (fun h=>by obtain ⟨h1,h2,h3⟩:=h; omega)
  rw [pc_eq]; simp +contextual -implicitDefEqProofs (maxSteps:=2000000) only [go_sem,E_36,A36,A36_L0_eq,A36_L0b,hv,g0]
 ·by_cases g1 : a.hi0 < q0
  ·have hv:=limF (a:=a) (q0:=q0) (q1:=q1) (q2:=q2) (fun h=>by obtain ⟨h1,h2,h3⟩:=h; omega)
   rw [pc_eq]; simp +contextual -implicitDefEqProofs (maxSteps:=2000000) only [go_sem,E_36,A36,A36_L0_eq,A36_L0b,hv,g0,g1]
  ·by_cases g2 : q1 < a.lo1
   ·have hv:=limF (a:=a) (q0:=q0) (q1:=q1) (q2:=q2) (fun h=>by obtain ⟨h1,h2,h3⟩:=h; omega)
    rw [pc_eq]; simp +contextual -implicitDefEqProofs (maxSteps:=2000000) only [go_sem,E_36,A36,A36_L0_eq,A36_L0b,hv,g0,g1,g2]
   ·by_cases g3 : a.hi1 < q1
    ·have hv:=limF (a:=a) (q0:=q0) (q1:=q1) (q2:=q2) (fun h=>by obtain ⟨h1,h2,h3⟩:=h; omega)
     rw [pc_eq]; simp +contextual -implicitDefEqProofs (maxSteps:=2000000) only [go_sem,E_36,A36,A36_L0_eq,A36_L0b,hv,g0,g1,g2,g3]
    ·by_cases g4 : q2 < a.lo2
     ·have hv:=limF (a:=a) (q0:=q0) (q1:=q1) (q2:=q2) (fun h=>by obtain ⟨h1,h2,h3⟩:=h; omega)
      rw [pc_eq]; simp +contextual -implicitDefEqProofs (maxSteps:=2000000) only [go_sem,E_36,A36,A36_L0_eq,A36_L0b,hv,g0,g1,g2,g3,g4]
     ·by_cases g5 : a.hi2 < q2
      ·have hv:=limF (a:=a) (q0:=q0) (q1:=q1) (q2:=q2) (fun h=>by obtain ⟨h1,h2,h3⟩:=h; omega)
       rw [pc_eq]; simp +contextual -implicitDefEqProofs (maxSteps:=2000000) only [go_sem,E_36,A36,A36_L0_eq,A36_L0b,hv,g0,g1,g2,g3,g4,g5]
      ·have hv:=limT (a:=a) (q0:=q0) (q1:=q1) (q2:=q2) ⟨by omega,by omega,by omega⟩
       rw [pc_eq]; simp +contextual -implicitDefEqProofs (maxSteps:=2000000) only [go_sem,E_36,A36,A36_L0_eq,A36_L0b,hv,g0,g1,g2,g3,g4,g5]
def jt (lo hi r : Int) : Int:=lo + r % (hi - lo + 1)
theorem jt_in {lo hi r : Int} (h : lo≤hi) : lo≤jt lo hi r∧jt lo hi r≤hi:=by
 unfold jt
 have h1:=Qdn r (show hi - lo + 1 ≠ 0 by omega)
 have h2:=Qdd r (show 0 < hi - lo + 1 by omega)
 omega
theorem jt_lim {a : Arm} (h : OKa a) (r0 r1 r2 : Int) : Lim a (jt a.lo0 a.hi0 r0) (jt a.lo1 a.hi1 r1) (jt a.lo2 a.hi2 r2):=⟨jt_in h.j0.2.1,jt_in h.j1.2.1,jt_in h.j2.2.1⟩
theorem c82 (a : Arm) (h : OKa a) (r0 r1 r2 : Int) (h0 : 0≤r0∧r0≤255) (h1 : 0≤r1∧r1≤255) (h2 : 0≤r2∧r2≤255) :
  pc E 82 [av a,.agg [.int .u8 r0,.int .u8 r1,.int .u8 r2]] = some (jv (jt a.lo0 a.hi0 r0) (jt a.lo1 a.hi1 r1) (jt a.lo2 a.hi2 r2)):=by
 have j0:=h.j0
 have j1:=h.j1
 have j2:=h.j2
 have l:=jt_lim h r0 r1 r2
 have l0:=l.a0
 have l1:=l.a1
 have l2:=l.a2
 have a0 : IntKind.i64.wrap r0 = r0:=wrap_small (by omega) (by omega)
 have a1 : IntKind.i64.wrap r1 = r1:=wrap_small (by omega) (by omega)
 have a2 : IntKind.i64.wrap r2 = r2:=wrap_small (by omega) (by omega)
 have b0 : IntKind.i64.wrap (a.hi0 - a.lo0) = a.hi0 - a.lo0:=wrap_small (by omega) (by omega)
 have b1 : IntKind.i64.wrap (a.hi1 - a.lo1) = a.hi1 - a.lo1:=wrap_small (by omega) (by omega)
 have b2 : IntKind.i64.wrap (a.hi2 - a.lo2) = a.hi2 - a.lo2:=wrap_small (by omega) (by omega)
 have d0 : IntKind.i64.wrap (a.hi0 - a.lo0 + 1) = a.hi0 - a.lo0 + 1:=wrap_small (by omega) (by omega)
 have d1 : IntKind.i64.wrap (a.hi1 - a.lo1 + 1) = a.hi1 - a.lo1 + 1:=wrap_small (by omega) (by omega)
 have d2 : IntKind.i64.wrap (a.hi2 - a.lo2 + 1) = a.hi2 - a.lo2 + 1:=wrap_small (by omega) (by omega)
 have z0 : ¬ (a.hi0 - a.lo0 + 1 = 0):=by omega
 have z1 : ¬ (a.hi1 - a.lo1 + 1 = 0):=by omega
 have z2 : ¬ (a.hi2 - a.lo2 + 1 = 0):=by omega
 have m0 : r0.tmod (a.hi0 - a.lo0 + 1) = r0 % (a.hi0 - a.lo0 + 1):=tmod_pos h0.1
 have m1 : r1.tmod (a.hi1 - a.lo1 + 1) = r1 % (a.hi1 - a.lo1 + 1):=tmod_pos h1.1
 have m2 : r2.tmod (a.hi2 - a.lo2 + 1) = r2 % (a.hi2 - a.lo2 + 1):=tmod_pos h2.1
 have e0 : IntKind.i64.wrap (a.lo0 + r0 % (a.hi0 - a.lo0 + 1)) = jt a.lo0 a.hi0 r0:=wrap_small (n:=jt a.lo0 a.hi0 r0) (by omega) (by omega)
 have e1 : IntKind.i64.wrap (a.lo1 + r1 % (a.hi1 - a.lo1 + 1)) = jt a.lo1 a.hi1 r1:=wrap_small (n:=jt a.lo1 a.hi1 r1) (by omega) (by omega)
 have e2 : IntKind.i64.wrap (a.lo2 + r2 % (a.hi2 - a.lo2 + 1)) = jt a.lo2 a.hi2 r2:=wrap_small (n:=jt a.lo2 a.hi2 r2) (by omega) (by omega)
 rw [pc_eq]; simp +contextual -implicitDefEqProofs (maxSteps:=2000000) only [go_sem,E_82,A82,A82_L0_eq,A82_L0b,a0,a1,a2,b0,b1,b2,d0,d1,d2,z0,z1,z2,m0,m1,m2,e0,e1,e2]
def st1 (q0 q1 q2 : Int) (k : Int) (b : Int) : Int × Int × Int:=if k = 0 then (q0 + b,q1,q2) else if k = 1 then (q0,q1 + b,q2) else (q0,q1,q2 + b)
def stp (a : Arm) (q0 q1 q2 k b : Int) : LV :=
 if (0≤k∧k≤2)∧(b = 1 ∨ b = -1)∧limB a (st1 q0 q1 q2 k b).1 (st1 q0 q1 q2 k b).2.1 (st1 q0 q1 q2 k b).2.2 = true then .tup [jv (st1 q0 q1 q2 k b).1 (st1 q0 q1 q2 k b).2.1 (st1 q0 q1 q2 k b).2.2,.bool true]
 else .tup [jv 0 0 0,.bool false]
end Go.Proofs.YtbpneedpcccpaaaGreat

namespace Go.Proofs.YtbpneedpcccpaaaGreat
open Go Go.Zv
def up12 (n : Int) : Int:=-((-n) / 12)
end Go.Proofs.YtbpneedpcccpaaaGreat

namespace Go.Proofs.YtbpneedpcccpaaaGreat
open Go Go.Zv
structure Cel where
 a : Arm
 b : Arm
 h0 : Int
 h1 : Int
 h2 : Int
 h3 : Int
 h4 : Int
 h5 : Int
 fx : List (List LV)
 pl : List (List LV)
 pt : List (List LV)
 bt : List (List LV)
 per : Int
 lv : Int
 la : Int
 lj : Int
 mv : Int
 ma : Int
 mj : Int
 zn : List (List LV)
 gap : Int
 slow : Int
abbrev cec (c : Cel) : List LV:=[.z c.a.bx,.z c.a.by_,.z c.a.l0,.z c.a.l1,.z c.a.l2,.z c.a.w,.z c.a.lo0,.z c.a.lo1,.z c.a.lo2,.z c.a.hi0,.z c.a.hi1,.z c.a.hi2,.z c.b.bx,.z c.b.by_,.z c.b.l0,.z c.b.l1,.z c.b.l2,.z c.b.w,.z c.b.lo0,.z c.b.lo1,.z c.b.lo2,.z c.b.hi0,.z c.b.hi1,.z c.b.hi2,.z c.h0,.z c.h1,.z c.h2,.z c.h3,.z c.h4,.z c.h5,.vs c.fx,.vs c.pl,.vs c.pt,.vs c.bt,.z c.per,.z c.lv,.z c.la,.z c.lj,.z c.mv,.z c.ma,.z c.mj,.vs c.zn,.z c.gap,.z c.slow]
abbrev pos (x0 x1 x2 y0 y1 y2 : Int) : LV:=.agg [.z x0,.z x1,.z x2,.z y0,.z y1,.z y2]
end Go.Proofs.YtbpneedpcccpaaaGreat

namespace Go.Proofs.YtbpneedpcccpaaaGreat
open Go Go.Zv
structure Bk (p l u d m : Int) : Prop where
 w1 : IntKind.i64.wrap (12 * l) = 12 * l
 w2 : IntKind.i64.wrap (12 * u) = 12 * u
 w3 : IntKind.i64.wrap (u - l) = u - l
 a1 : ¬ (p < 12 * l)
 a2 : ¬ (12 * u < p)
 a3 : ¬ (1 < u - l)
 w4 : IntKind.i64.wrap (p.tmod 12) = p.tmod 12
 a4 : (p.tmod 12 == 0) = (l == u)
 a5 : ¬ (d < l)
 a6 : ¬ (m < u)
end Go.Proofs.YtbpneedpcccpaaaGreat

namespace Go.Proofs.YtbpneedpcccpaaaGreat
open Go Go.Zv
structure Cl where
 a : Arm
 b : Arm
 h0 : Int
 h1 : Int
 h2 : Int
 h3 : Int
 h4 : Int
 h5 : Int
 fx : List (List Go.Geo.Pt)
 pl : List Go.Geo.Plc
 pt : List Go.Geo.Prt
 bt : List Int
 per : Int
 lv : Int
 la : Int
 lj : Int
 mv : Int
 ma : Int
 mj : Int
 zn : List (List Go.Geo.Pt)
 gap : Int
 slow : Int
abbrev Cl.cel (c : Cl) : Cel:=⟨c.a,c.b,c.h0,c.h1,c.h2,c.h3,c.h4,c.h5,c.fx.map Go.Geo.p1,c.pl.map Go.Geo.plv,c.pt.map Go.Geo.prv,c.bt.map Go.Geo.c1,c.per,c.lv,c.la,c.lj,c.mv,c.ma,c.mj,c.zn.map Go.Geo.p1,c.gap,c.slow⟩
def zrows (l : List (List Go.Geo.Pt)) (k : Nat) : List (List LV):=(l.take k).map Go.Geo.p1
theorem zrows_len (l) (k : Nat) (h : k≤l.length) : (zrows l k).length = k:=by simp [zrows]; omega
theorem zrows_succ {l : List (List Go.Geo.Pt)} {k : Nat} {p : List Go.Geo.Pt} (h : l[k]? = some p) : zrows l k++[[.vs (p.map Go.Geo.c2)]] = zrows l (k + 1):=by
 unfold zrows; rw [Qa4,h]; simp [Go.Geo.p1]
theorem c39 (c : Cl) (hl : c.zn.length≤1000) : pc E 39 [.agg (cec c.cel)] = some (.os 1 (c.zn.map Go.Geo.p1)):=by
 have lp:=loop_to (fun S=>(K E A39_L0 S).bind (blockR 0 (some [3]) [4,19]))
  (fun k=>⟨[(1,.ptr 256 0),(3,.bs 768 0 k),(4,.z k)],[],[(768,.row 1 (zrows c.zn k)),(512,.row 1 []),(256,.box (cec c.cel))],0⟩) c.zn.length (fun k hk=>by
   have hget : c.zn[k]? = some (c.zn[k]'hk):=Qf hk
   generalize c.zn[k]'hk = p at *
   have g1 : (c.zn.map Go.Geo.p1)[k]? = some [.vs (p.map Go.Geo.c2)]:=by rw [Qan,hget]; rfl
   have hw:=Go.Geo.wr_k (k:=k) (by omega)
   have h3 : (0 : Int)≤k:=by omega
   have h4 : (k : Int) < c.zn.length:=by omega
   have wl:=zrows_len c.zn k (by omega)
   have wt : (zrows c.zn k).take k = zrows c.zn k:=Qr (by omega)
   have e:=zrows_succ hget
   have hb : k + 1≤1000000000:=by omega
   have hlen : (c.zn.map Go.Geo.p1).length = c.zn.length:=Qb ..
   show (K E A39_L0 _).bind _ = (K E A39_L0 _).bind _
   conv=>lhs; rw [A39_L0_eq]
   generalize zrows c.zn k = rs at *
   generalize zrows c.zn (k + 1) = rs' at *
   unfold cec
   simp only [Cl.cel]
   generalize c.zn.map Go.Geo.p1 = zr at *
   simp +contextual -implicitDefEqProofs (maxSteps:=2000000) only [go_sem,A39_L0b,h3,h4,g1,hw,wl,wt,e,hb,hlen,Q8])
 have stop : (K E A39_L0 ⟨[(1,.ptr 256 0),(3,.bs 768 0 c.zn.length),(4,.z c.zn.length)],[],[(768,.row 1 (zrows c.zn c.zn.length)),(512,.row 1 []),(256,.box (cec c.cel))],0⟩).bind (blockR 0 (some [3]) [4,19]) =
   some (.ex .nrm ⟨[(3,.bs 768 0 c.zn.length)],[],[(768,.row 1 (zrows c.zn c.zn.length)),(512,.row 1 []),(256,.box (cec c.cel))],0⟩):=by
  rw [A39_L0_eq]
  have hlen : (c.zn.map Go.Geo.p1).length = c.zn.length:=Qb ..
  unfold cec
  simp only [Cl.cel]
  generalize c.zn.map Go.Geo.p1 = zr at *
  simp +contextual -implicitDefEqProofs (maxSteps:=2000000) only [go_sem,A39_L0b,Qp,hlen]
 have lp:=lp.trans stop
 simp only [Qn,Qv,show zrows c.zn 0 = [] from rfl] at lp
 have e : zrows c.zn c.zn.length = c.zn.map Go.Geo.p1:=by unfold zrows; rw [Qbn]
 rw [e] at lp
 have ht : (c.zn.map Go.Geo.p1).take c.zn.length = c.zn.map Go.Geo.p1:=Qr (by simp)
 have hlen : (c.zn.map Go.Geo.p1).length = c.zn.length:=Qb ..
 unfold cec at lp ⊢
 simp only [Cl.cel] at lp ⊢
 generalize c.zn.map Go.Geo.p1 = zr at *
 rw [pc_eq]; simp +contextual -implicitDefEqProofs (maxSteps:=2000000) only [go_sem,E_39,A39,lp,ht,hlen,Q8]
end Go.Proofs.YtbpneedpcccpaaaGreat

namespace Go.Proofs.YtbpneedpcccpaaaGreat
open Go Go.Zv
open Go.Geo (polB plcB prtB unlB bouB)
def C73a : ACode:=.reg none [
 ⟨some 1,.box (.t 0),none,true⟩,
 ⟨some 2,.as (.c (.bool false)),none,true⟩] (some [1]) []
def C73b : ACode:=.seq (
.reg none [
 ⟨some 3,.as (.c (.z 0)),none,true⟩] (some [1,3]) []) (
(.block 0 (
A12_L0) (some [1]) [2,3,4,5,16,24]))
def C73c : ACode:=.seq (
.reg none [
 ⟨some 66,.fad 31 (.t 1),none,true⟩,
 ⟨some 67,.load false 1 (.t 66),none,true⟩,
 ⟨some 68,.len 0 (.t 67),none,true⟩,
 ⟨some 69,.bin .gtr (.t 68) (.c (.z 16)),none,true⟩,
 ⟨some 70,.mv (.t 69),none,true⟩,
 ⟨some 71,.fad 32 (.t 1),some (70,false),true⟩,
 ⟨some 72,.load false 1 (.t 71),some (70,false),true⟩,
 ⟨some 73,.len 0 (.t 72),some (70,false),true⟩,
 ⟨some 74,.bin .gtr (.t 73) (.c (.z 8)),some (70,false),true⟩,
 ⟨some 75,.pick (.t 70) (.c (.bool true)) (.t 74),none,true⟩,
 ⟨some 76,.mv (.t 75),none,true⟩,
 ⟨some 77,.fad 33 (.t 1),some (76,false),true⟩,
 ⟨some 78,.load false 1 (.t 77),some (76,false),true⟩,
 ⟨some 79,.len 0 (.t 78),some (76,false),true⟩,
 ⟨some 80,.bin .gtr (.t 79) (.c (.z 16)),some (76,false),true⟩,
 ⟨some 81,.pick (.t 76) (.c (.bool true)) (.t 80),none,true⟩] (some [1,81]) []) (
(.cond (.t 81) (
 (.seq (
 .reg none [
  ⟨some 2,.as (.c (.bool false)),none,true⟩] (some [2]) []) (
 .ret))) (
 .skip)))
def C73l : ACode:=.reg none [
 ⟨some 82,.fad 35 (.t 1),none,true⟩,
 ⟨some 83,.load true 3 (.t 82),none,true⟩,
 ⟨some 84,.call 37 [.t 83],none,true⟩,
 ⟨some 85,.mv (.t 84),none,true⟩,
 ⟨some 86,.fad 38 (.t 1),some (85,true),true⟩,
 ⟨some 87,.load true 3 (.t 86),some (85,true),true⟩,
 ⟨some 88,.call 37 [.t 87],some (85,true),true⟩,
 ⟨some 89,.pick (.t 85) (.t 88) (.c (.bool false)),none,true⟩,
 ⟨some 90,.mv (.t 89),none,true⟩,
 ⟨some 91,.fad 38 (.t 1),some (90,true),true⟩,
 ⟨some 92,.fad 0 (.t 91),some (90,true),true⟩,
 ⟨some 93,.load false 1 (.t 92),some (90,true),true⟩,
 ⟨some 94,.fad 35 (.t 1),some (90,true),true⟩,
 ⟨some 95,.fad 0 (.t 94),some (90,true),true⟩,
 ⟨some 96,.load false 1 (.t 95),some (90,true),true⟩,
 ⟨some 97,.bin .leq (.t 93) (.t 96),some (90,true),true⟩,
 ⟨some 98,.pick (.t 90) (.t 97) (.c (.bool false)),none,true⟩,
 ⟨some 99,.mv (.t 98),none,true⟩,
 ⟨some 100,.fad 38 (.t 1),some (99,true),true⟩,
 ⟨some 101,.fad 1 (.t 100),some (99,true),true⟩,
 ⟨some 102,.load false 1 (.t 101),some (99,true),true⟩,
 ⟨some 103,.fad 35 (.t 1),some (99,true),true⟩,
 ⟨some 104,.fad 1 (.t 103),some (99,true),true⟩,
 ⟨some 105,.load false 1 (.t 104),some (99,true),true⟩,
 ⟨some 106,.bin .leq (.t 102) (.t 105),some (99,true),true⟩,
 ⟨some 107,.pick (.t 99) (.t 106) (.c (.bool false)),none,true⟩,
 ⟨some 108,.mv (.t 107),none,true⟩,
 ⟨some 109,.fad 38 (.t 1),some (108,true),true⟩,
 ⟨some 110,.fad 2 (.t 109),some (108,true),true⟩,
 ⟨some 111,.load false 1 (.t 110),some (108,true),true⟩,
 ⟨some 112,.fad 35 (.t 1),some (108,true),true⟩,
 ⟨some 113,.fad 2 (.t 112),some (108,true),true⟩,
 ⟨some 114,.load false 1 (.t 113),some (108,true),true⟩,
 ⟨some 115,.bin .leq (.t 111) (.t 114),some (108,true),true⟩,
 ⟨some 116,.pick (.t 108) (.t 115) (.c (.bool false)),none,true⟩,
 ⟨some 6,.as (.t 116),none,true⟩] (some [1,6]) []
def C73t : ACode:=.seq (.reg none [
 ⟨some 117,.fad 30 (.t 1),none,true⟩,
 ⟨some 118,.load false 1 (.t 117),none,true⟩,
 ⟨some 119,.call 38 [.t 118],none,true⟩,
 ⟨some 120,.mv (.t 119),none,true⟩,
 ⟨some 121,.load true 44 (.t 1),some (120,true),true⟩,
 ⟨some 122,.call 39 [.t 121],some (120,true),true⟩,
 ⟨some 123,.call 38 [.t 122],some (120,true),true⟩,
 ⟨some 124,.pick (.t 120) (.t 123) (.c (.bool false)),none,true⟩,
 ⟨some 125,.mv (.t 124),none,true⟩,
 ⟨some 126,.fad 31 (.t 1),some (125,true),true⟩,
 ⟨some 127,.load false 1 (.t 126),some (125,true),true⟩,
 ⟨some 128,.call 40 [.t 127],some (125,true),true⟩,
 ⟨some 129,.pick (.t 125) (.t 128) (.c (.bool false)),none,true⟩,
 ⟨some 130,.mv (.t 129),none,true⟩,
 ⟨some 131,.fad 32 (.t 1),some (130,true),true⟩,
 ⟨some 132,.load false 1 (.t 131),some (130,true),true⟩,
 ⟨some 133,.fad 31 (.t 1),some (130,true),true⟩,
 ⟨some 134,.load false 1 (.t 133),some (130,true),true⟩,
 ⟨some 135,.len 0 (.t 134),some (130,true),true⟩,
 ⟨some 136,.call 41 [.t 132,.t 135],some (130,true),true⟩,
 ⟨some 137,.pick (.t 130) (.t 136) (.c (.bool false)),none,true⟩,
 ⟨some 138,.mv (.t 137),none,true⟩,
 ⟨some 139,.fad 33 (.t 1),some (138,true),true⟩,
 ⟨some 140,.load false 1 (.t 139),some (138,true),true⟩,
 ⟨some 141,.fad 31 (.t 1),some (138,true),true⟩,
 ⟨some 142,.load false 1 (.t 141),some (138,true),true⟩,
 ⟨some 143,.len 0 (.t 142),some (138,true),true⟩,
 ⟨some 144,.call 42 [.t 140,.t 143],some (138,true),true⟩,
 ⟨some 145,.pick (.t 138) (.t 144) (.c (.bool false)),none,true⟩,
 ⟨some 146,.mv (.t 145),none,true⟩,
 ⟨some 147,.fad 34 (.t 1),some (146,true),true⟩,
 ⟨some 148,.load false 1 (.t 147),some (146,true),true⟩,
 ⟨some 149,.bin .geq (.t 148) (.c (.z 0)),some (146,true),true⟩,
 ⟨some 150,.pick (.t 146) (.t 149) (.c (.bool false)),none,true⟩,
 ⟨some 151,.mv (.t 150),none,true⟩,
 ⟨some 152,.fad 34 (.t 1),some (151,true),true⟩,
 ⟨some 153,.load false 1 (.t 152),some (151,true),true⟩,
 ⟨some 154,.bin .leq (.t 153) (.c (.z 100)),some (151,true),true⟩,
 ⟨some 155,.pick (.t 151) (.t 154) (.c (.bool false)),none,true⟩,
 ⟨some 156,.mv (.t 155),none,true⟩,
 ⟨some 157,.mv (.t 6),some (156,true),true⟩,
 ⟨some 158,.pick (.t 156) (.t 157) (.c (.bool false)),none,true⟩,
 ⟨some 159,.mv (.t 158),none,true⟩,
 ⟨some 160,.fad 42 (.t 1),some (159,true),true⟩,
 ⟨some 161,.load false 1 (.t 160),some (159,true),true⟩,
 ⟨some 162,.bin .geq (.t 161) (.c (.z 0)),some (159,true),true⟩,
 ⟨some 163,.pick (.t 159) (.t 162) (.c (.bool false)),none,true⟩,
 ⟨some 164,.mv (.t 163),none,true⟩,
 ⟨some 165,.fad 42 (.t 1),some (164,true),true⟩,
 ⟨some 166,.load false 1 (.t 165),some (164,true),true⟩,
 ⟨some 167,.bin .leq (.t 166) (.c (.z 20)),some (164,true),true⟩,
 ⟨some 168,.pick (.t 164) (.t 167) (.c (.bool false)),none,true⟩,
 ⟨some 169,.mv (.t 168),none,true⟩,
 ⟨some 170,.fad 43 (.t 1),some (169,true),true⟩,
 ⟨some 171,.load false 1 (.t 170),some (169,true),true⟩,
 ⟨some 172,.bin .geq (.t 171) (.c (.z 1)),some (169,true),true⟩,
 ⟨some 173,.pick (.t 169) (.t 172) (.c (.bool false)),none,true⟩,
 ⟨some 174,.mv (.t 173),none,true⟩,
 ⟨some 175,.fad 43 (.t 1),some (174,true),true⟩,
 ⟨some 176,.load false 1 (.t 175),some (174,true),true⟩,
 ⟨some 177,.bin .leq (.t 176) (.c (.z 8)),some (174,true),true⟩,
 ⟨some 178,.pick (.t 174) (.t 177) (.c (.bool false)),none,true⟩,
 ⟨some 2,.as (.t 178),none,true⟩] (some [2]) [1]) .ret
theorem A12_s : A12 = .code [.t 2] (.seq C73a (.seq C73b (.seq C73c (.seq C73l C73t)))):=rfl
def rchX (a : Arm) (x : Int) : Int:=8 * mxI x (-x) + 39546000 * (a.l0 + a.l1 + a.l2 + 15)
structure RW (a : Arm) (x : Int) : Prop where
 w1 : IntKind.i64.wrap (a.l0 + a.l1) = a.l0 + a.l1
 w2 : IntKind.i64.wrap (a.l0 + a.l1 + a.l2) = a.l0 + a.l1 + a.l2
 w3 : IntKind.i64.wrap (a.l0 + a.l1 + a.l2 + 15) = a.l0 + a.l1 + a.l2 + 15
 w4 : IntKind.i64.wrap (39546000 * (a.l0 + a.l1 + a.l2 + 15)) = 39546000 * (a.l0 + a.l1 + a.l2 + 15)
 w5 : IntKind.i64.wrap (0 - x) = -x
 w6 : IntKind.i64.wrap (8 * mxI x (-x)) = 8 * mxI x (-x)
 w7 : IntKind.i64.wrap (8 * mxI x (-x) + 39546000 * (a.l0 + a.l1 + a.l2 + 15)) = rchX a x
theorem rw_ok {a : Arm} (h : OKa a) {x : Int} (hx : -439400000≤x∧x≤439400000) : RW a x:=by
 have h0:=h.l0
 have h1:=h.l1
 have h2:=h.l2
 have hm : -439400000≤mxI x (-x)∧mxI x (-x)≤439400000:=by unfold mxI; split <;> omega
 refine ⟨wrap_small (by omega) (by omega),wrap_small (by omega) (by omega),wrap_small (by omega) (by omega),wrap_small (by omega) (by omega),?_,wrap_small (by omega) (by omega),?_⟩
 ·rw [wrap_small (by omega) (by omega)]; omega
 unfold rchX
 exact wrap_small (by omega) (by omega)
theorem bx_bd {a : Arm} (h : OKa a) : (-439400000≤a.bx∧a.bx≤439400000)∧(-439400000≤a.by_∧a.by_≤439400000):=by
 have h0:=h.l0
 have h1:=h.l1
 have h2:=h.l2
 have h3:=h.w
 have h4:=h.bx
 have h5:=h.by_
 omega
noncomputable def armOK (a : Arm) (q0 q1 q2 : Int) : Bool:=okB a && (limB a q0 q1 q2 && (!decide (3515200000 < rchX a a.bx) && !decide (3515200000 < rchX a a.by_)))
def limsB (c : Cl) : Bool:=bouB c.lv c.la c.lj && (bouB c.mv c.ma c.mj && (decide (c.mv≤c.lv) && (decide (c.ma≤c.la) && decide (c.mj≤c.lj))))
def restB (c : Cl) : Bool:=polB c.fx && (polB c.zn && (plcB c.pl && (prtB c.pt c.pl.length && (unlB c.bt c.pl.length && (decide (0≤c.per) && (decide (c.per≤100) && (limsB c && (decide (0≤c.gap) && (decide (c.gap≤20) && (decide (1≤c.slow) && decide (c.slow≤8)))))))))))
noncomputable def rightB (c : Cl) : Bool:=armOK c.a c.h0 c.h1 c.h2 && (armOK c.b c.h3 c.h4 c.h5 && (decide ((c.pl.length : Int)≤16) && (decide ((c.pt.length : Int)≤8) && (decide ((c.bt.length : Int)≤16) && restB c))))
end Go.Proofs.YtbpneedpcccpaaaGreat

namespace Go.Proofs.YtbpneedpcccpaaaGreat
open Go Go.Zv
open Go.Geo (polB plcB prtB unlB bouB)
theorem lims73 (c : Cl) : K E C73l ⟨[(1,.ptr 256 0),(81,.bool false)],[],[(256,.box (cec c.cel))],0⟩ = some (.ex .nrm ⟨[(1,.ptr 256 0),(6,.bool (limsB c))],[],[(256,.box (cec c.cel))],0⟩):=by
 have q1:=G.c37 c.lv c.la c.lj
 have q2:=G.c37 c.mv c.ma c.mj
 unfold limsB cec
 generalize bouB c.lv c.la c.lj = u1 at *
 generalize bouB c.mv c.ma c.mj = u2 at *
 cases u1
 ·simp +contextual -implicitDefEqProofs (maxSteps:=2000000) only [go_sem,C73l,q1,Qt]
 cases u2
 ·simp +contextual -implicitDefEqProofs (maxSteps:=2000000) only [go_sem,C73l,q1,q2,Qt,Q3]
 by_cases m3 : c.mv≤c.lv
 ·by_cases m4 : c.ma≤c.la
  ·by_cases m5 : c.mj≤c.lj <;> simp +contextual -implicitDefEqProofs (maxSteps:=2000000) only [go_sem,C73l,q1,q2,m3,m4,m5,decide_true,decide_false]
  ·simp +contextual -implicitDefEqProofs (maxSteps:=2000000) only [go_sem,C73l,q1,q2,m3,m4,decide_true,decide_false]
 ·simp +contextual -implicitDefEqProofs (maxSteps:=2000000) only [go_sem,C73l,q1,q2,m3,decide_true,decide_false]
end Go.Proofs.YtbpneedpcccpaaaGreat

namespace Go.Proofs.YtbpneedpcccpaaaGreat
open Go Go.Zv
open Go.Geo (polB plcB prtB unlB bouB)
def XT (c : Cl) : Heap:=if polB c.fx = true then [(31232,.row 1 (c.zn.map Go.Geo.p1))] else []
theorem tail73 (c : Cl) (hz : c.zn.length≤1000) (hp : c.pl.length≤16) (ht : c.pt.length≤8) (hb : c.bt.length≤16) : K E C73t ⟨[(1,.ptr 256 0),(6,.bool (limsB c))],[],[(256,.box (cec c.cel))],0⟩ = some (.ex .ret ⟨[(2,.bool (restB c))],[],XT c,0⟩):=by
 have q3:=G.c38 c.fx
 have q4:=G.c38 c.zn
 have q5:=c39 c hz
 have q6:=G.c40 c.pl (by omega)
 have q7:=G.c41 c.pt (by omega) c.pl.length
 have q8:=G.c42 c.bt c.pl.length (by omega)
 have z1 : (c.zn.map Go.Geo.p1).length = c.zn.length:=Qb ..
 have z2 : (c.zn.map Go.Geo.p1).take c.zn.length = c.zn.map Go.Geo.p1:=Qr (by simp)
 have z3 : c.zn.length≤c.zn.length:=Q8 _
 have y1 : (c.pl.map Go.Geo.plv).length = c.pl.length:=Qb ..
 unfold restB XT
 generalize polB c.fx = u3 at *
 generalize polB c.zn = u4 at *
 generalize plcB c.pl = u5 at *
 generalize prtB c.pt c.pl.length = u6 at *
 generalize unlB c.bt c.pl.length = u7 at *
 generalize limsB c = lm at *
 unfold cec at q5 ⊢
 simp only [Cl.cel] at q5 ⊢
 generalize c.fx.map Go.Geo.p1 = r1 at *
 generalize c.pl.map Go.Geo.plv = r2 at *
 generalize c.pt.map Go.Geo.prv = r3 at *
 generalize c.bt.map Go.Geo.c1 = r4 at *
 generalize c.zn.map Go.Geo.p1 = r5 at *
 cases u3
 ·simp +contextual -implicitDefEqProofs (maxSteps:=2000000) only [go_sem,C73t,q3,q4,q5,q6,q7,q8,z1,z2,z3,y1,Qt,Q3,Q1,Qax,decide_true,decide_false,Qh]
 cases u4
 ·simp +contextual -implicitDefEqProofs (maxSteps:=2000000) only [go_sem,C73t,q3,q4,q5,q6,q7,q8,z1,z2,z3,y1,Qt,Q3,Q1,Qax,decide_true,decide_false,Qh]
 cases u5
 ·simp +contextual -implicitDefEqProofs (maxSteps:=2000000) only [go_sem,C73t,q3,q4,q5,q6,q7,q8,z1,z2,z3,y1,Qt,Q3,Q1,Qax,decide_true,decide_false,Qh]
 cases u6
 ·simp +contextual -implicitDefEqProofs (maxSteps:=2000000) only [go_sem,C73t,q3,q4,q5,q6,q7,q8,z1,z2,z3,y1,Qt,Q3,Q1,Qax,decide_true,decide_false,Qh]
 cases u7
 ·simp +contextual -implicitDefEqProofs (maxSteps:=2000000) only [go_sem,C73t,q3,q4,q5,q6,q7,q8,z1,z2,z3,y1,Qt,Q3,Q1,Qax,decide_true,decide_false,Qh]
 by_cases e1 : 0≤c.per
 rotate_left
 ·simp +contextual -implicitDefEqProofs (maxSteps:=2000000) only [go_sem,C73t,q3,q4,q5,q6,q7,q8,z1,z2,z3,y1,e1,Qt,Q3,Q1,Qax,decide_true,decide_false,Qh]
 by_cases e2 : c.per≤100
 rotate_left
 ·simp +contextual -implicitDefEqProofs (maxSteps:=2000000) only [go_sem,C73t,q3,q4,q5,q6,q7,q8,z1,z2,z3,y1,e1,e2,Qt,Q3,Q1,Qax,decide_true,decide_false,Qh]
 cases lm
 ·simp +contextual -implicitDefEqProofs (maxSteps:=2000000) only [go_sem,C73t,q3,q4,q5,q6,q7,q8,z1,z2,z3,y1,e1,e2,Qt,Q3,Q1,Qax,decide_true,decide_false,Qh]
 by_cases e3 : 0≤c.gap
 rotate_left
 ·simp +contextual -implicitDefEqProofs (maxSteps:=2000000) only [go_sem,C73t,q3,q4,q5,q6,q7,q8,z1,z2,z3,y1,e1,e2,e3,Qt,Q3,Q1,Qax,decide_true,decide_false,Qh]
 by_cases e4 : c.gap≤20
 rotate_left
 ·simp +contextual -implicitDefEqProofs (maxSteps:=2000000) only [go_sem,C73t,q3,q4,q5,q6,q7,q8,z1,z2,z3,y1,e1,e2,e3,e4,Qt,Q3,Q1,Qax,decide_true,decide_false,Qh]
 by_cases e5 : 1≤c.slow
 rotate_left
 ·simp +contextual -implicitDefEqProofs (maxSteps:=2000000) only [go_sem,C73t,q3,q4,q5,q6,q7,q8,z1,z2,z3,y1,e1,e2,e3,e4,e5,Qt,Q3,Q1,Qax,decide_true,decide_false,Qh]
 by_cases e9 : c.slow≤8
 ·simp +contextual -implicitDefEqProofs (maxSteps:=2000000) only [go_sem,C73t,q3,q4,q5,q6,q7,q8,z1,z2,z3,y1,e1,e2,e3,e4,e5,e9,Qt,Q3,Q1,Qax,decide_true,decide_false,Qh]
 ·simp +contextual -implicitDefEqProofs (maxSteps:=2000000) only [go_sem,C73t,q3,q4,q5,q6,q7,q8,z1,z2,z3,y1,e1,e2,e3,e4,e5,e9,Qt,Q3,Q1,Qax,decide_true,decide_false,Qh]
end Go.Proofs.YtbpneedpcccpaaaGreat

namespace Go.Proofs.YtbpneedpcccpaaaGreat
open Go Go.Zv
open Go.Geo (polB plcB prtB unlB bouB)
theorem loop73 (c : Cl) : (armOK c.a c.h0 c.h1 c.h2 && armOK c.b c.h3 c.h4 c.h5) = true∧K E C73b ⟨[(1,.ptr 256 0)],[],[(256,.box (cec c.cel))],0⟩ = some (.ex .nrm ⟨[(1,.ptr 256 0)],[],[(256,.box (cec c.cel))],0⟩) ∨
  (armOK c.a c.h0 c.h1 c.h2 && armOK c.b c.h3 c.h4 c.h5) = false ∧ ∃ X,K E C73b ⟨[(1,.ptr 256 0)],[],[(256,.box (cec c.cel))],0⟩ = some (.ex .ret ⟨[(2,.bool false)],[],X,0⟩):=by
 have o16a:=c35 c.a
 have o18a:=c36 c.a c.h0 c.h1 c.h2
 by_cases oka : OKa c.a
 rotate_left
 ·rw [okF oka] at o16a
  refine .inr ⟨by unfold armOK; simp [okF oka],[(1024,.box (avc c.a)),(256,.box (cec c.cel))],?_⟩
  unfold cec
  simp +contextual -implicitDefEqProofs (maxSteps:=2000000) only [go_sem,C73b,A12_L0_eq,A12_L0b,o16a]
 rw [okT oka] at o16a
 cases hla : limB c.a c.h0 c.h1 c.h2 <;> rw [hla] at o18a
 ·refine .inr ⟨by unfold armOK; simp [okT oka,hla],[(1024,.box (avc c.a)),(256,.box (cec c.cel))],?_⟩
  unfold cec
  simp +contextual -implicitDefEqProofs (maxSteps:=2000000) only [go_sem,C73b,A12_L0_eq,A12_L0b,o16a,o18a]
 obtain ⟨a1,a2,a3,a4,a5,a6,a7⟩:=rw_ok oka (bx_bd oka).1
 obtain ⟨_,_,_,_,a15,a16,a17⟩:=rw_ok oka (bx_bd oka).2
 by_cases r1a : 3515200000 < rchX c.a c.a.bx
 ·refine .inr ⟨by unfold armOK; simp [okT oka,hla,r1a],[(256,.box (cec c.cel))],?_⟩
  unfold cec
  simp +contextual -implicitDefEqProofs (maxSteps:=2000000) only [go_sem,C73b,A12_L0_eq,A12_L0b,o16a,o18a,a1,a2,a3,a4,a5,a6,a7,r1a]
 by_cases r2a : 3515200000 < rchX c.a c.a.by_
 ·refine .inr ⟨by unfold armOK; simp [okT oka,hla,r1a,r2a],[(256,.box (cec c.cel))],?_⟩
  unfold cec
  simp +contextual -implicitDefEqProofs (maxSteps:=2000000) only [go_sem,C73b,A12_L0_eq,A12_L0b,o16a,o18a,a1,a2,a3,a4,a5,a6,a7,r1a,a15,a16,a17,r2a]
 have o16b:=c35 c.b
 have o18b:=c36 c.b c.h3 c.h4 c.h5
 by_cases okb : OKa c.b
 rotate_left
 ·rw [okF okb] at o16b
  refine .inr ⟨by unfold armOK; simp [okT oka,hla,r1a,r2a,okF okb],[(1024,.box (avc c.b)),(256,.box (cec c.cel))],?_⟩
  unfold cec
  simp +contextual -implicitDefEqProofs (maxSteps:=2000000) only [go_sem,C73b,A12_L0_eq,A12_L0b,o16a,o18a,a1,a2,a3,a4,a5,a6,a7,r1a,a15,a16,a17,r2a,o16b]
 rw [okT okb] at o16b
 cases hlb : limB c.b c.h3 c.h4 c.h5 <;> rw [hlb] at o18b
 ·refine .inr ⟨by unfold armOK; simp [okT oka,hla,r1a,r2a,okT okb,hlb],[(1024,.box (avc c.b)),(256,.box (cec c.cel))],?_⟩
  unfold cec
  simp +contextual -implicitDefEqProofs (maxSteps:=2000000) only [go_sem,C73b,A12_L0_eq,A12_L0b,o16a,o18a,a1,a2,a3,a4,a5,a6,a7,r1a,a15,a16,a17,r2a,o16b,o18b]
 obtain ⟨b1,b2,b3,b4,b5,b6,b7⟩:=rw_ok okb (bx_bd okb).1
 obtain ⟨_,_,_,_,b15,b16,b17⟩:=rw_ok okb (bx_bd okb).2
 by_cases r1b : 3515200000 < rchX c.b c.b.bx
 ·refine .inr ⟨by unfold armOK; simp [okT oka,hla,r1a,r2a,okT okb,hlb,r1b],[(256,.box (cec c.cel))],?_⟩
  unfold cec
  simp +contextual -implicitDefEqProofs (maxSteps:=2000000) only [go_sem,C73b,A12_L0_eq,A12_L0b,o16a,o18a,a1,a2,a3,a4,a5,a6,a7,r1a,a15,a16,a17,r2a,o16b,o18b,b1,b2,b3,b4,b5,b6,b7,r1b]
 by_cases r2b : 3515200000 < rchX c.b c.b.by_
 ·refine .inr ⟨by unfold armOK; simp [okT oka,hla,r1a,r2a,okT okb,hlb,r1b,r2b],[(256,.box (cec c.cel))],?_⟩
  unfold cec
  simp +contextual -implicitDefEqProofs (maxSteps:=2000000) only [go_sem,C73b,A12_L0_eq,A12_L0b,o16a,o18a,a1,a2,a3,a4,a5,a6,a7,r1a,a15,a16,a17,r2a,o16b,o18b,b1,b2,b3,b4,b5,b6,b7,r1b,b15,b16,b17,r2b]
 refine .inl ⟨by unfold armOK; simp [okT oka,hla,r1a,r2a,okT okb,hlb,r1b,r2b],?_⟩
 unfold cec
 simp +contextual -implicitDefEqProofs (maxSteps:=2000000) only [go_sem,C73b,A12_L0_eq,A12_L0b,o16a,o18a,a1,a2,a3,a4,a5,a6,a7,r1a,a15,a16,a17,r2a,o16b,o18b,b1,b2,b3,b4,b5,b6,b7,r1b,b15,b16,b17,r2b]
end Go.Proofs.YtbpneedpcccpaaaGreat

namespace Go.Proofs.YtbpneedpcccpaaaGreat
open Go Go.Zv
open Go.Geo (polB plcB prtB unlB bouB)
theorem c12 (c : Cl) (hz : c.zn.length≤1000) : pc E 12 [.agg (cec c.cel)] = some (.bool (rightB c)):=by
 have hv : rightB c = ((armOK c.a c.h0 c.h1 c.h2 && armOK c.b c.h3 c.h4 c.h5) && (decide ((c.pl.length : Int)≤16) && (decide ((c.pt.length : Int)≤8) && (decide ((c.bt.length : Int)≤16) && restB c)))):=by unfold rightB; rw [Qc3]
 rw [hv]
 rcases loop73 c with ⟨h1,lp⟩ | ⟨h1,X,lp⟩
 ·rw [h1,Q1]
  have y1 : (c.pl.map Go.Geo.plv).length = c.pl.length:=Qb ..
  have y2 : (c.pt.map Go.Geo.prv).length = c.pt.length:=Qb ..
  have y3 : (c.bt.map Go.Geo.c1).length = c.bt.length:=Qb ..
  have ls:=lims73 c
  have tl:=tail73 c hz
  unfold cec at lp ls tl ⊢
  by_cases l1 : (16 : Int) < c.pl.length
  ·rw [decide_eq_false (show ¬ (c.pl.length : Int)≤16 by omega)]
   rw [pc_eq]; simp +contextual -implicitDefEqProofs (maxSteps:=2000000) only [go_sem,E_12,A12_s,C73a,C73c,lp,y1,l1,Qt]
  by_cases l2 : (8 : Int) < c.pt.length
  ·rw [decide_eq_false (show ¬ (c.pt.length : Int)≤8 by omega)]
   rw [pc_eq]; simp +contextual -implicitDefEqProofs (maxSteps:=2000000) only [go_sem,E_12,A12_s,C73a,C73c,lp,y1,y2,l1,l2,Qt,Q3]
  by_cases l3 : (16 : Int) < c.bt.length
  ·rw [decide_eq_false (show ¬ (c.bt.length : Int)≤16 by omega)]
   rw [pc_eq]; simp +contextual -implicitDefEqProofs (maxSteps:=2000000) only [go_sem,E_12,A12_s,C73a,C73c,lp,y1,y2,y3,l1,l2,l3,Qt,Q3]
  rw [decide_eq_true (show (c.pl.length : Int)≤16 by omega),decide_eq_true (show (c.pt.length : Int)≤8 by omega),decide_eq_true (show (c.bt.length : Int)≤16 by omega)]
  have tl:=tl (by omega) (by omega) (by omega)
  rw [pc_eq]; simp +contextual -implicitDefEqProofs (maxSteps:=2000000) only [go_sem,E_12,A12_s,C73a,C73c,lp,ls,tl,y1,y2,y3,l1,l2,l3]
 ·rw [h1,Qt]
  unfold cec at lp ⊢
  rw [pc_eq]; simp +contextual -implicitDefEqProofs (maxSteps:=2000000) only [go_sem,E_12,A12_s,C73a,lp]
end Go.Proofs.YtbpneedpcccpaaaGreat
