/- Part of the proof: what functions of the program compute, over the evaluation that the engine's texts tie to the machine. -/
import Derived.Test.YtjmnepfdhkabfaaZvA
namespace Go.Zv
set_option autoImplicit false
/-! The translation of the machine's code -/
def tsize (P : Program) (t : TypeId) : Option Nat := (P.info? t).map (·.size)
def cellLV : Value → Option LV
  | .bool b => some (.bool b)
  | .int k n => some (.int k n)
  | .string s => some (.str s.data.toList)
  | .pointer none => some .nilp
  | .slice none 0 0 => some (.nils 0)
  | .map none => some .nilm
  | .nilFunc => some .nilf
  | _ => none
def constLV : Value → Option LV
  | .agg cs => (cs.toList.mapM cellLV).map .agg
  | v => cellLV v
/-- for each cell of a type: how many cells an element has, where it is a slice -/
def strides (P : Program) : Nat → TypeId → List Nat
  | 0, _ => []
  | d + 1, t => match P.underlying t with
    | some (.slice e) => [(tsize P e).getD 0]
    | some (.struct fs) => fs.toList.flatMap fun f => strides P d f.type
    | some (.array n e) => (List.replicate n (strides P d e)).flatten
    | _ => [0]
def withSt : List LV → List Nat → List LV
  | .nils _ :: l, st :: m => .nils st :: withSt l m
  | v :: l, _ :: m => v :: withSt l m
  | l, [] => l
  | [], _ => []
def typed (P : Program) (t : TypeId) : LV → LV
  | .agg cs => .agg (withSt cs (strides P 20 t))
  | .nils _ => .nils ((strides P 20 t).headD 0)
  | v => v
def zeroLV (P : Program) (t : TypeId) : Option LV := match P.info? t with
  | some i => match i.zero with | some v => (constLV v).map (typed P t) | none => none
  | none => none
def toOpd : Operand → Option Opd
  | .tmp t => some (.t t)
  | .const v => (constLV v).map .c
  | .func f => some (.fu f)
  | .global _ => none
def toOpdT (P : Program) (t : TypeId) : Operand → Option Opd
  | .const v => (constLV v).map fun v => .c (typed P t v)
  | x => toOpd x
def toArgs (P : Program) (ts : Array TypeId) (l : Array Operand) : Option (List Opd) := l.toList.zipIdx.mapM fun (x, i) => toOpdT P (ts.getD i 0) x
def toOpds (l : Array Operand) : Option (List Opd) := l.toList.mapM toOpd
def isAggT (P : Program) (t : TypeId) : Option Bool := match P.underlying t with
  | some (.struct _) | some (.array _ _) => some true
  | some _ => some false
  | none => none
def flatF (k : TypeId → Option (List Nat)) : Nat → List Field → Option (List Nat)
  | _, [] => some []
  | off, f :: l => if f.name = "_" ∨ f.offset ≠ off then none else
    (k f.type).bind fun m => (flatF k (off + m.length) l).map (m ++ ·)
/-- only numbers, bools and strings, no field that is named '_', the fields one behind the other: the kind of each cell -/
def flatT (P : Program) : Nat → TypeId → Option (List Nat)
  | 0, _ => none
  | d + 1, t => match P.underlying t with
    | some (.int _) => if tsize P t = some 1 then some [0] else none
    | some .bool => if tsize P t = some 1 then some [1] else none
    | some .string => if tsize P t = some 1 then some [2] else none
    | some (.struct fs) => if P.stoodInHeld t = true then none else (flatF (flatT P d) 0 fs.toList).bind fun l => if tsize P t = some l.length then some l else none
    | some (.array n e) => (flatT P d e).bind fun l => if tsize P t = some (n * l.length) then some ((List.replicate n l).flatten) else none
    | _ => none
def optOpd : Option Operand → Option (Option Opd)
  | none => some none
  | some x => (toOpd x).map some
def smallB (P : Program) (t : TypeId) : Bool := match P.info? t, zeroLV P t with
  | some i, some z => decide (i.bytes ≤ 16384) && decide (0 < i.size) && decide (z.cells.length = i.size)
  | _, _ => false

def toOp1 (P : Program) (ty : TypeId) (op : Op) : Option AOp := match op with
  | .move x => (toOpd x).map .mv
  | .assign x => (toOpdT P ty x).map .as
  | .pick c a b => do some (.pick (← toOpd c) (← toOpd a) (← toOpd b))
  | .alloc e => do some (.alloc (← zeroLV P e).cells)
  | .box e v => do some (.box (← toOpdT P e v))
  | .build t ps => match P.underlying t with
    | some (.struct fs) => do
      if (fs.all fun f => (tsize P f.type).isSome) = true then some () else none
      let l ← ps.toList.mapM fun (p : Nat × Operand) => do
        let f ← fs[p.1]?
        some (f.offset, ← tsize P f.type, ← toOpdT P f.type p.2)
      some (.build (← zeroLV P t).cells l)
    | some (.array _ e) => do
      let n ← tsize P e
      let l ← ps.toList.mapM fun (p : Nat × Operand) => do some (p.1 * n, n, ← toOpdT P e p.2)
      some (.build (← zeroLV P t).cells l)
    | _ => none
  | .buildSlice t n ps => match P.underlying t with
    | some (.slice e) => do
      let st ← tsize P e
      if st = 0 ∨ n * st > 16777216 then none
      let l ← ps.toList.mapM fun (p : Nat × Operand) => do some (p.1, ← toOpdT P e p.2)
      some (.bsl st n (← zeroLV P e).cells l)
    | _ => none
  | .load t a => do some (.load (← isAggT P t) (← tsize P t) (← toOpd a))
  | .store t a v => do some (.store (← tsize P t) (← toOpd a) (← toOpdT P t v))
  | .nilCheck x => (toOpd x).map .nilc
  | .binOp op t x y _ => match P.underlying t with
    | some (.int _) | some .string => do some (.bin op (← toOpd x) (← toOpd y))
    | some .bool => if op = .eql ∨ op = .neq then do some (.bib (decide (op = .neq)) (← toOpd x) (← toOpd y)) else none
    | some (.struct _) | some (.array _ _) =>
      if (op = .eql ∨ op = .neq) ∧ P.eqGuardType P.depth t = false then do some (.eqa (decide (op = .neq)) (← flatT P 20 t) (← toOpd x) (← toOpd y)) else none
    | some (.slice _) => match op, y with
      | .eql, .const (.slice none 0 0) => (toOpd x).map (.isn false)
      | .neq, .const (.slice none 0 0) => (toOpd x).map (.isn true)
      | _, _ => none
    | _ => none
  | .unOp op _ x => (toOpd x).map (.un op)
  | .convert src dst x => match P.underlying src, P.underlying dst with
    | some (.int _), some (.int k) => (toOpd x).map (.conv k)
    | some .string, some .string => (toOpd x).map fun y => .slt y none none
    | some (.slice e), some .string => if P.underlying e matches some (.int .u8) then (toOpd x).map .b2s else none
    | _, _ => none
  | .makeFunc fn a b => do some (.mkf fn (← toOpds a) (← toOpds b))
  | .makeMap _ none => some .mkm
  | .makeMap t (some (.const (.int _ _))) => if P.underlying t matches some (.map _ _) then some .mkm else none
  | .makeSlice t l c => match P.underlying t with
    | some (.slice e) => if smallB P e then do some (.mks (← tsize P e) (← zeroLV P e).cells (← toOpd l) (← toOpd c)) else none
    | _ => none
  | .slice t x lo hi none => match P.underlying t with
    | some (.slice e) => do some (.sls (← tsize P e) (← toOpd x) (← optOpd lo) (← optOpd hi))
    | some .string => do some (.slt (← toOpd x) (← optOpd lo) (← optOpd hi))
    | some (.array n e) => do some (.sla n (← tsize P e) (← toOpd x) (← optOpd lo) (← optOpd hi))
    | _ => none
  | .slice t x none (some (.const (.int _ 0))) (some (.const (.int _ 0))) => match P.underlying t with
    | some (.slice e) => do some (.zc (← tsize P e) (← toOpd x))
    | _ => none
  | .slice t x (some (.const (.int _ 0))) (some (.const (.int _ 0))) (some (.const (.int _ 0))) => match P.underlying t with
    | some (.slice e) => do some (.zc (← tsize P e) (← toOpd x))
    | _ => none
  | .fieldAddr t x f => match P.underlying t with
    | some (.struct fs) => do
      let f ← fs[f]?
      if (← tsize P f.type) = 0 then none
      some (.fad f.offset (← toOpd x))
    | _ => none
  | .field t x f => match P.underlying t with
    | some (.struct fs) => do
      let f ← fs[f]?
      some (.fld (← isAggT P f.type) f.offset (← tsize P f.type) (← toOpd x))
    | _ => none
  | .indexAddr t x i => match P.underlying t with
    | some (.slice e) => do
      if (← tsize P e) = 0 then none
      some (.ias (← tsize P e) (← toOpd x) (← toOpd i))
    | some (.array n e) => do
      if (← tsize P e) = 0 then none
      some (.iaa n (← tsize P e) (← toOpd x) (← toOpd i))
    | _ => none
  | .index t x i => match P.underlying t with
    | some (.array n e) => do some (.ixa (← isAggT P e) n (← tsize P e) (← toOpd x) (← toOpd i))
    | some .string => do some (.ixt (← toOpd x) (← toOpd i))
    | _ => none
  | .lookup t x k ok => match P.underlying t with
    | some (.map kt e) => do some (.lkp ((if (← isAggT P kt) then 1 else 0) :: (← flatT P 20 kt)) (← zeroLV P e) ok (← toOpd x) (← toOpd k))
    | _ => none
  | .mapUpdate t m k v | .insert t m k v => match P.underlying t with
    | some (.map kt _) => do some (.mpu ((if (← isAggT P kt) then 1 else 0) :: (← flatT P 20 kt)) (← toOpd m) (← toOpd k) (← toOpd v))
    | _ => none
  | .extract x i => do some (.ext (← toOpd x) i)
  | .call c => match c.callee with
    | .value (.func f) => (toArgs P c.argTypes c.args).map (.call f)
    | .value x => do some (.cal (← toOpd x) (← toArgs P c.argTypes c.args))
    | .builtin .len => match (c.argTypes[0]?).bind P.underlying, c.args.toList with
      | some (.slice _), [x] => (toOpd x).map (.len 0)
      | some .string, [x] => (toOpd x).map (.len 1)
      | some (.map _ _), [x] => (toOpd x).map (.len 2)
      | some (.array n _), [_] => some (.lena n)
      | _, _ => none
    | .builtin .append => match (c.argTypes[0]?).bind P.underlying, (c.argTypes[1]?).bind P.underlying, c.args.toList with
      | some (.slice e), some (.int _), [s, x] => if smallB P e then do some (.apz (← tsize P e) (← zeroLV P e).cells (← toOpd s) (← toOpd x)) else none
      | some (.slice e), some _, [s, x] => if smallB P e then do some (.app (← tsize P e) (← toOpd s) (← toOpd x)) else none
      | _, _, _ => none
    | .builtin .copy => match (c.argTypes[0]?).bind P.underlying, c.args.toList with
      | some (.slice e), [s, x] => do some (.cpy (← tsize P e) (← toOpd s) (← toOpd x))
      | _, _ => none
    | .builtin .cap => match (c.argTypes[0]?).bind P.underlying, c.args.toList with
      | some (.slice _), [x] => (toOpd x).map .capn
      | some (.array n _), [_] => some (.lena n)
      | _, _ => none
    | .builtin .min => (toOpds c.args).map .mn
    | .builtin .max => (toOpds c.args).map .mx
    | _ => none
  | _ => none

def toOp (P : Program) (ty : TypeId) (op : Op) : AOp := (toOp1 P ty op).getD .bad

def toOper (P : Program) (N : Nat) (ops : Array Oper) (o : Oper) : Option AOper :=
  if (match o.dst with | some d => decide (d < N) | none => true) = true then
    match o.guard with
    | none => some { dst := o.dst, op := toOp P o.type o.op, grd := none }
    | some (j, b) => match (ops[j]?).bind (·.dst) with
      | some d => some { dst := o.dst, op := toOp P o.type o.op, grd := some (d, b) }
      | none => none
  else none

/-! Regions that draw their order -/
/-- loc: it touches no memory; rdh: it reads memory; cre: it makes some; sto: it writes some; noi: no other may come before or behind it -/
inductive OKind where | loc | rdh | cre | sto | noi deriving DecidableEq
def kindOf : AOp → OKind
  | .mv _ | .as _ | .pick .. | .build .. | .nilc _ | .bin .. | .bib .. | .eqa .. | .un .. | .conv .. | .mkf .. | .slt .. | .sla .. | .fad .. | .fld .. | .iaa .. | .ixa .. | .ixt .. | .zc .. | .capn _ | .isn .. | .ext .. | .lena _ | .mn _ | .mx _ => .loc
  | .load .. | .len .. | .b2s _ | .lkp .. | .ias .. | .sls .. | .call .. | .cal .. => .rdh
  | .alloc _ | .box _ | .bsl .. | .mks .. => .cre
  | .store .. => .sto
  | .mkm | .mpu .. | .app .. | .apz .. | .cpy .. | .bad => .noi
def opdT : Opd → List Nat | .t n => [n] | _ => []
def ooT : Option Opd → List Nat | some x => opdT x | none => []
/-- the temporaries that it looks at -/
def opT : AOp → List Nat
  | .mv x | .as x | .box x | .load _ _ x | .nilc x | .un _ x | .conv _ x | .b2s x | .fad _ x | .fld _ _ _ x | .ext x _ | .len _ x | .zc _ x | .capn x | .isn _ x => opdT x
  | .pick a b c | .mpu _ a b c => opdT a ++ (opdT b ++ opdT c)
  | .alloc _ | .mkm | .lena _ | .bad => []
  | .build _ ps => (ps.map fun p => opdT p.2.2).flatten
  | .bsl _ _ _ ps => (ps.map fun p => opdT p.2).flatten
  | .store _ a b | .bin _ a b | .bib _ a b | .eqa _ _ a b | .mks _ _ a b | .ias _ a b | .iaa _ _ a b | .ixa _ _ _ a b | .ixt a b | .lkp _ _ _ a b | .app _ a b | .apz _ _ a b | .cpy _ a b => opdT a ++ opdT b
  | .mkf _ a b => (a.map opdT).flatten ++ (b.map opdT).flatten
  | .sls _ x a b | .slt x a b | .sla _ _ x a b => opdT x ++ (ooT a ++ ooT b)
  | .call _ l | .mn l | .mx l => (l.map opdT).flatten
  | .cal f l => opdT f ++ (l.map opdT).flatten
def grdT : Option (Nat × Bool) → List Nat | some (g, _) => [g] | none => []
/-- is operation i before j (or j before i)? -/
def ordd (b : Array Nat) (i j : Nat) : Bool := (b.getD j 0).testBit i || (b.getD i 0).testBit j
def makes (p : AOper) : Bool := kindOf p.op matches .cre | .rdh
def chkOf (b : Array Nat) (l : List (AOper × Nat)) (o : AOper) (i : Nat) : Chk :=
  let x := l.filter fun p => p.2 != i && !ordd b i p.2
  let un := x.filterMap fun p => if makes p.1 = true then p.1.dst else none
  if x.isEmpty = true then .free else
  .dr un
    (match o.op with
     | .load .. => (x.map fun p => match p.1.op with | .store _ x _ => (opdT x).filter fun t => !un.contains t | _ => []).flatten
     | .store _ x _ => (opdT x).filter fun t => l.any fun p => (kindOf p.1.op matches .cre) && p.1.dst == some t
     | _ => [])
def chkQs : Chk → List Nat | .dr _ qs => qs | .free => []
def chkUn : Chk → List Nat | .dr un _ => un | .free => []
/-- what it looks at, all told -/
def seesT (q : Chk) (o : AOper) : List Nat := opT o.op ++ (grdT o.grd ++ chkQs q)
def dstApart (o p : AOper) (q : Chk) : Bool := match o.dst with | some d => !(seesT q p).contains d && p.dst != some d | none => true
/-- may they come in either order? -/
def pairOk (a c : OKind) (oa oc : AOp) : Bool := match a, c with
  | .noi, _ | _, .noi => false
  | .sto, .sto => false
  | .rdh, .sto => match oa, oc with | .load .., .store _ (.t _) _ => true | .ias .., _ | .sls .., _ => true | _, _ => false
  | .sto, .rdh => match oc, oa with | .load .., .store _ (.t _) _ => true | .ias .., _ | .sls .., _ => true | _, _ => false
  | _, _ => true
def unOk (q : Chk) (p : AOper) : Bool := !makes p || match p.dst with | some d => (chkUn q).contains d | none => false
def qsOk (q r : Chk) (o p : AOper) : Bool := match o.op, p.op with | .load .., .store _ (.t t) _ => (chkQs q).contains t || ((chkUn q).contains t && chkQs r == [t]) | _, _ => true
def indep (o : Chk × AOper) (p : Chk × AOper) : Bool :=
  dstApart o.2 p.2 p.1 && dstApart p.2 o.2 o.1 && pairOk (kindOf o.2.op) (kindOf p.2.op) o.2.op p.2.op &&
  unOk o.1 p.2 && unOk p.1 o.2 && qsOk o.1 p.1 o.2 p.2 && qsOk p.1 o.1 p.2 o.2 && !(o.1 matches .free) && !(p.1 matches .free)
def regOk (b : Array Nat) (l : List ((Chk × AOper) × Nat)) : Bool :=
  (l.all fun p => decide (b.getD p.2 0 < 2 ^ p.2)) && l.all fun o => l.all fun p => !(decide (o.2 < p.2)) || (b.getD p.2 0).testBit o.2 || indep o.1 p.1
def toReg (P : Program) (N : Nat) (ops : Array Oper) (draw : Bool) : Option ACode :=
  match ops.toList.mapM (toOper P N ops) with
  | none => none
  | some l =>
    if draw = true then
      let b := Region.before ops
      let q := l.zipIdx.map fun p => chkOf b l.zipIdx p.1 p.2
      if regOk b (q.zip l).zipIdx = true then some (.reg (some q) l none []) else some .bad
    else some (.reg none l none [])

def toCode (P : Program) (N : Nat) : Code → Option ACode
  | .skip => some .skip
  | .region _ ops draw => toReg P N ops draw
  | .seq a b => match toCode P N a, toCode P N b with
    | some a, some b => some (.seq a b)
    | _, _ => none
  | .cond c a b => match toOpd c, toCode P N a, toCode P N b with
    | some c, some a, some b => some (.cond c a b)
    | _, _, _ => none
  | .block id b => match toCode P N b with | some b => some (.block id b none []) | none => none
  | .loop b => match toCode P N b with | some b => some (.loop b none []) | none => none
  | .rangeFunc f ps a b => match toOpd f, toCode P N a, toCode P N b with
    | some f, some a, some b => if (ps.toList.all fun d => decide (d < N)) = true then some (.rf 0 f ps.toList a b) else none
    | _, _, _ => none
  | .exit id => some (.exit id)
  | .scope b => match toCode P N b with | some b => some (.scope b) | none => none
  | .ret => some .ret
  | .label _ | .goto _ | .refuse _ => some .bad
def toRes (P : Program) : ResultVar → Option ARes
  | .tmp t => some (.t t)
  | .cell a t => do some (.cell (← isAggT P t) (← tsize P t) a)
def toFn (P : Program) (f : Func) : Option AFn := match f.body with
  | none => none
  | some b => match f.results.toList.mapM (toRes P), toCode P f.ntmps b with
    | some r, some c => some (.code r c)
    | _, _ => none

def strip : ACode → ACode
  | .reg q ops _ _ => .reg q (ops.map fun o => { o with fz := true }) none []
  | .seq a b => .seq (strip a) (strip b)
  | .cond c a b => .cond c (strip a) (strip b)
  | .block id b _ _ => .block id (strip b) none []
  | .loop b _ _ => .loop (strip b) none []
  | .rf _ f ps a b => .rf 0 f ps (strip a) (strip b)
  | .scope b => .scope (strip b)
  | c => c
def AFn.strip : AFn → AFn
  | .code r b => .code r (Zv.strip b)
  | .prim g => .prim g
end Go.Zv
