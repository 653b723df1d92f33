/- The engine, part 1: values, operations and one step of the evaluation. Not tied to a program. -/
import GoSem.Step
namespace Go.Zv
set_option autoImplicit false

/-! Values -/
inductive LV where
  | any
  | undef
  | int (k : IntKind) (n : Int)
  | bool (b : Bool)
  | str (s : List UInt8)
  | agg (cs : List LV)
  | tup (vs : List LV)
  | vs (xs : List (List LV))
  | os (st : Nat) (xs : List (List LV))
  | nils (st : Nat)
  | nul
  | emp
  | bs (id off len : Nat)
  | bb (id off st len : Nat)
  | ptr (id off : Nat)
  | ep (id i off : Nat)
  | fp (cs : List LV)
  | nilp
  | fn (f : Fn) (first cap : List LV)
  | nilf
  | mp (id : Nat)
  | om (es : List (LV × LV))
  | nilm
  | yl (id : Nat)
  deriving Inhabited

abbrev Env := List (Nat × LV)

def tget : Env → Nat → LV
  | [], _ => .any
  | (k, v) :: r, n => if k = n then v else tget r n

inductive Opd where
  | t (n : Nat)
  | c (v : LV)
  | fu (n : FuncId)
  deriving Inhabited

inductive AOp where
  | mv (x : Opd)
  | as (x : Opd)
  | pick (c a b : Opd)
  | alloc (z : List LV)
  | box (x : Opd)
  | build (z : List LV) (ps : List (Nat × Nat × Opd))
  | bsl (st n : Nat) (z : List LV) (ps : List (Nat × Opd))
  | load (ag : Bool) (n : Nat) (x : Opd)
  | store (n : Nat) (x v : Opd)
  | nilc (x : Opd)
  | bin (op : BinOp) (x y : Opd)
  | bib (neg : Bool) (x y : Opd)
  | eqa (neg : Bool) (ks : List Nat) (x y : Opd)
  | un (op : UnOp) (x : Opd)
  | conv (k : IntKind) (x : Opd)
  | b2s (x : Opd)
  | mkf (f : Fn) (first cap : List Opd)
  | mkm
  | mks (st : Nat) (z : List LV) (len cap : Opd)
  | sls (st : Nat) (x : Opd) (lo hi : Option Opd)
  | slt (x : Opd) (lo hi : Option Opd)
  | sla (n st : Nat) (x : Opd) (lo hi : Option Opd)
  | fad (off : Nat) (x : Opd)
  | fld (ag : Bool) (off n : Nat) (x : Opd)
  | ias (st : Nat) (x i : Opd)
  | iaa (len st : Nat) (x i : Opd)
  | ixa (ag : Bool) (len st : Nat) (x i : Opd)
  | ixt (x i : Opd)
  | lkp (ks : List Nat) (z : LV) (ok : Bool) (x k : Opd)
  | mpu (ks : List Nat) (x k v : Opd)
  | zc (st : Nat) (x : Opd)
  | capn (x : Opd)
  | isn (neg : Bool) (x : Opd)
  | bad
  | ext (x : Opd) (i : Nat)
  | call (f : FuncId) (args : List Opd)
  | cal (f : Opd) (args : List Opd)
  | len (k : Nat) (x : Opd)
  | lena (n : Nat)
  | app (st : Nat) (s x : Opd)
  | apz (st : Nat) (z : List LV) (s n : Opd)
  | cpy (st : Nat) (s x : Opd)
  | mn (xs : List Opd)
  | mx (xs : List Opd)
  deriving Inhabited

structure AOper where
  dst : Option Nat
  op : AOp
  grd : Option (Nat × Bool)
  fz : Bool := true
  deriving Inhabited
/-- what is asked of an operation of a region that draws its order -/
inductive Chk where
  | free
  | dr (un qs : List Nat)
  deriving Inhabited

inductive ACode where
  | skip
  | reg (q : Option (List Chk)) (ops : List AOper) (mask : Option (List Nat)) (drop : List Nat)
  | seq (a b : ACode)
  | cond (c : Opd) (a b : ACode)
  | block (id : Nat) (b : ACode) (mask : Option (List Nat)) (drop : List Nat)
  | loop (b : ACode) (mask : Option (List Nat)) (drop : List Nat)
  | rf (rid : Nat) (f : Opd) (ps : List Nat) (asg body : ACode)
  | exit (id : Nat)
  | scope (b : ACode)
  | ret
  | bad
  deriving Inhabited

inductive LSt where | ready | busy | done deriving DecidableEq, Inhabited
inductive AEx where | nrm | exit (id : Nat) | ret deriving DecidableEq, Inhabited

inductive Obj where
  | box (cs : List LV)
  | row (st : Nat) (xs : List (List LV))
  | map (es : List (LV × LV))
  | loop (T : Env) (ps : List Nat) (asg body : ACode) (st : LSt) (pend : AEx)
  deriving Inhabited

abbrev Heap := List (Nat × Obj)

structure St where
  T : Env
  F : List Env
  O : Heap
  lvl : Nat
  deriving Inhabited

def oget : Heap → Nat → Option Obj
  | [], _ => none
  | (k, v) :: r, n => if k = n then some v else oget r n
def oset : Heap → Nat → Obj → Heap
  | [], _, _ => []
  | (k, v) :: r, n, o => if k = n then (k, o) :: r else (k, v) :: oset r n o
def odel : Heap → Nat → Heap
  | [], _ => []
  | (k, v) :: r, n => if k = n then odel r n else (k, v) :: odel r n

/-! Replacing the references to one object -/
inductive Rep where
  | kill
  | frz (xs : List (List LV))

def fpAt (off : Nat) : Option (List LV) → LV
  | some x => .fp (x.drop off)
  | none => .any
def Rep.bs : Rep → Nat → Nat → LV
  | .kill, _, _ => .any
  | .frz xs, off, len => if off + len ≤ xs.length then .vs ((xs.drop off).take len) else .any
def Rep.ep : Rep → Nat → Nat → LV
  | .kill, _, _ => .any
  | .frz xs, i, off => fpAt off xs[i]?

mutual
def LV.sub (r : Rep) (id : Nat) : LV → LV
  | .agg cs => .agg (LV.subs r id cs)
  | .tup cs => .tup (LV.subs r id cs)
  | .fn f a b => .fn f (LV.subs r id a) (LV.subs r id b)
  | .bs i off len => if i = id then r.bs off len else .bs i off len
  | .bb i off st len => if i = id then .any else .bb i off st len
  | .ptr i off => if i = id then .any else .ptr i off
  | .ep i j off => if i = id then r.ep j off else .ep i j off
  | .mp i => if i = id then .any else .mp i
  | .yl i => if i = id then .any else .yl i
  | .any => .any
  | .undef => .undef
  | .int k n => .int k n
  | .bool b => .bool b
  | .str s => .str s
  | .vs xs => .vs xs
  | .os st xs => .os st xs
  | .nils st => .nils st
  | .nul => .nul
  | .emp => .emp
  | .fp cs => .fp cs
  | .nilp => .nilp
  | .nilf => .nilf
  | .om es => .om es
  | .nilm => .nilm
def LV.subs (r : Rep) (id : Nat) : List LV → List LV
  | [] => []
  | v :: l => LV.sub r id v :: LV.subs r id l
end

def Env.sub (r : Rep) (id : Nat) : Env → Env
  | [] => []
  | (k, v) :: l => (k, LV.sub r id v) :: Env.sub r id l
def Envs.sub (r : Rep) (id : Nat) : List Env → List Env
  | [] => []
  | v :: l => Env.sub r id v :: Envs.sub r id l
def Obj.sub (r : Rep) (id : Nat) : Obj → Obj
  | .box cs => .box (LV.subs r id cs)
  | .loop T ps a b st p => .loop (Env.sub r id T) ps a b st p
  | .row st xs => .row st xs
  | .map es => .map es
def Heap.sub (r : Rep) (id : Nat) : Heap → Heap
  | [] => []
  | (k, v) :: l => (k, Obj.sub r id v) :: Heap.sub r id l
def St.sub (r : Rep) (id : Nat) (s : St) : St :=
  { s with T := Env.sub r id s.T, F := Envs.sub r id s.F, O := Heap.sub r id s.O }
def repOf : Obj → Rep
  | .row _ xs => .frz xs
  | .box _ => .kill
  | .map _ => .kill
  | .loop .. => .kill
def freeO (id : Nat) (s : St) : Option Obj → St
  | none => s
  | some o => St.sub (repOf o) id { s with O := odel s.O id }
/-- the object goes; what referred to it holds its contents or nothing -/
def St.free (id : Nat) (s : St) : St := freeO id s (oget s.O id)
def St.frees : List Nat → St → St
  | [], s => s
  | i :: l, s => St.frees l (St.free i s)
def St.push (id : Nat) (o : Obj) (s : St) : St := { s with O := (id, o) :: s.O }
def St.new (id : Nat) (o : Obj) (s : St) : St := St.push id o (St.free id s)

def oid (lvl d : Nat) : Nat := lvl * 1048576 + d * 256

def consC (v : LV) (r : List LV × St) : List LV × St := (v :: r.1, r.2)
def isNils : LV → Bool
  | .nils _ => true
  | _ => false
def nilSt : LV → Nat
  | .nils st => st
  | _ => 0
mutual
/-- it refers to no object of that number -/
def LV.apart (id : Nat) : LV → Bool
  | .agg cs => LV.aparts id cs
  | .tup cs => LV.aparts id cs
  | .fn _ a b => LV.aparts id a && LV.aparts id b
  | .bs i _ _ => i != id
  | .bb i _ _ _ => i != id
  | .ptr i _ => i != id
  | .ep i _ _ => i != id
  | .mp i => i != id
  | .yl i => i != id
  | .any | .undef | .int .. | .bool _ | .str _ | .vs _ | .os .. | .nils _ | .nul | .emp | .fp _ | .nilp | .nilf | .om _ | .nilm => true
def LV.aparts (id : Nat) : List LV → Bool
  | [] => true
  | v :: l => LV.apart id v && LV.aparts id l
end
/-- nil slices that enter a variable become rows of their own -/
def rowsOf (all : List LV) : Nat → List LV → St → Option (List LV × St)
  | _, [], s => some ([], s)
  | id, v :: l, s => if isNils v = true then (if LV.aparts id all = true then (rowsOf all (id + 1) l (St.new id (.row (nilSt v) []) s)).map (consC (.bs id 0 0)) else none) else (rowsOf all (id + 1) l s).map (consC v)

def LV.cells : LV → List LV
  | .agg cs => cs
  | v => [v]

def LV.one : LV → Bool
  | .any | .undef | .agg _ | .tup _ | .os .. | .om _ => false
  | .int .. | .bool _ | .str _ | .vs _ | .nils _ | .nul | .emp | .bs .. | .bb .. | .ptr .. | .ep .. | .fp _ | .nilp | .fn .. | .nilf | .mp _ | .nilm | .yl _ => true

mutual
def LV.closed : LV → Bool
  | .agg cs => LV.closeds cs
  | .tup cs => LV.closeds cs
  | .fn _ a b => LV.closeds a && LV.closeds b
  | .bs .. | .bb .. | .ptr .. | .ep .. | .mp .. | .yl .. | .nils _ | .os .. | .om .. => false
  | .any | .undef | .int .. | .bool _ | .str _ | .vs _ | .nul | .emp | .fp _ | .nilp | .nilf | .nilm => true
def LV.closeds : List LV → Bool
  | [] => true
  | v :: l => LV.closed v && LV.closeds l
end

def chunk (st : Nat) : Nat → List LV → List (List LV)
  | 0, _ => []
  | n + 1, cs => cs.take st :: chunk st n (cs.drop st)

def rowElems (off len : Nat) : Option Obj → Option (List (List LV))
  | some (.row _ xs) => if off + len ≤ xs.length then some ((xs.drop off).take len) else none
  | _ => none
def boxElemsC (off st len : Nat) : Option Obj → Option (List (List LV))
  | some (.box cs) => if LV.closeds cs = true ∧ off + len * st ≤ cs.length then some (chunk st len (cs.drop off)) else none
  | _ => none
def u8 (b : UInt8) : LV := .int .u8 b.toNat
def u8s (l : List UInt8) : List (List LV) := l.map fun b => [u8 b]
/-- a slice's elements -/
def elems (O : Heap) : LV → Option (List (List LV))
  | .vs xs => some xs
  | .nils _ => some []
  | .nul => some []
  | .emp => some []
  | .bs id off len => rowElems off len (oget O id)
  | .bb id off st len => boxElemsC off st len (oget O id)
  | .str l => some (u8s l)
  | _ => none

def vsK (v : LV) : Option (List (List LV)) → LV
  | some xs => .vs xs
  | none => v
mutual
/-- by value -/
def LV.cl (O : Heap) : LV → LV
  | .agg cs => .agg (LV.cls O cs)
  | .tup cs => .tup (LV.cls O cs)
  | .fn f a b => .fn f (LV.cls O a) (LV.cls O b)
  | .nils _ => .vs []
  | .bs id off len => vsK (.bs id off len) (rowElems off len (oget O id))
  | .bb id off st len => vsK (.bb id off st len) (boxElemsC off st len (oget O id))
  | .ptr id off => .ptr id off
  | .ep id i off => .ep id i off
  | .mp id => .mp id
  | .yl id => .yl id
  | .any => .any
  | .undef => .undef
  | .int k n => .int k n
  | .bool b => .bool b
  | .str s => .str s
  | .vs xs => .vs xs
  | .os st xs => .os st xs
  | .nul => .nul
  | .emp => .emp
  | .fp cs => .fp cs
  | .nilp => .nilp
  | .nilf => .nilf
  | .om es => .om es
  | .nilm => .nilm
def LV.cls (O : Heap) : List LV → List LV
  | [] => []
  | v :: l => LV.cl O v :: LV.cls O l
end
mutual
/-- the objects whose elements that value shows -/
def LV.ids : LV → List Nat
  | .agg cs => LV.idss cs
  | .tup cs => LV.idss cs
  | .fn _ a b => LV.idss a ++ LV.idss b
  | .bs id _ _ => [id]
  | .bb id _ _ _ => [id]
  | .nils _ | .ptr .. | .ep .. | .mp _ | .yl _ | .any | .undef | .int .. | .bool _ | .str _ | .vs _ | .os .. | .nul | .emp | .fp _ | .nilp | .nilf | .om _ | .nilm => []
def LV.idss : List LV → List Nat
  | [] => []
  | v :: l => LV.ids v ++ LV.idss l
end

def expBs (O : Heap) (id off len : Nat) : Option Obj → LV × Heap
  | some (.row st xs) => if off + len ≤ xs.length then (if off = 0 then .os st (xs.take len) else .vs ((xs.drop off).take len), odel O id) else (.bs id off len, O)
  | _ => (.bs id off len, O)
def expMp (O : Heap) (id : Nat) : Option Obj → LV × Heap
  | some (.map es) => (.om es, odel O id)
  | _ => (.mp id, O)
def delIds : List Nat → Heap → Heap
  | [], O => O
  | i :: l, O => delIds l (odel O i)
/-- what a function hands back, by value -/
def export1 (O : Heap) : LV → LV × Heap
  | .nils st => (.os st [], O)
  | .bs id off len => expBs O id off len (oget O id)
  | .mp id => expMp O id (oget O id)
  | v => (LV.cl O v, delIds (LV.ids v) O)
def exportsK (k : Heap → List LV) (r : LV × Heap) : List LV := r.1 :: k r.2
def exports : List LV → Heap → List LV
  | [], _ => []
  | v :: l, O => exportsK (exports l) (export1 O v)
def LV.closedC : LV → Bool
  | .os .. | .om _ => true
  | .tup _ => false
  | v => LV.closed v
def LV.closedRs : List LV → Bool
  | [] => true
  | v :: l => LV.closedC v && LV.closedRs l
def LV.closedR : LV → Bool
  | .tup cs => LV.closedRs cs
  | v => LV.closedC v
def exportR (O : Heap) : LV → LV
  | .tup vs => .tup (exports vs O)
  | v => (export1 O v).1
def chkR (r : LV) : Option LV := if LV.closedR r = true then some r else none
def exportV (O : Heap) (v : LV) : Option LV := chkR (exportR O v)

/-- what a call handed back, taken in -/
def import1 (id : Nat) (s : St) : LV → LV × St
  | .os st xs => (.bs id 0 xs.length, St.new id (.row st xs) s)
  | .om es => (.mp id, St.new id (.map es) s)
  | v => (v, s)
def importsK (k : St → List LV × St) (r : LV × St) : List LV × St := consC r.1 (k r.2)
def imports : Nat → List LV → St → List LV × St
  | _, [], s => ([], s)
  | id, v :: l, s => importsK (imports (id + 1) l) (import1 id s v)
def tupK (r : List LV × St) : LV × St := (.tup r.1, r.2)
def import_ (id : Nat) (s : St) : LV → LV × St
  | .tup vs => tupK (imports id vs s)
  | v => import1 id s v

def LV.scal : LV → Bool
  | .int .. | .bool _ | .str _ => true
  | _ => false
mutual
/-- it can't show memory that stood before -/
def LV.noVs : LV → Bool
  | .vs xs => xs.isEmpty
  | .fp _ => false
  | .agg cs => LV.noVss cs
  | .tup cs => LV.noVss cs
  | .fn _ a b => LV.noVss a && LV.noVss b
  | .om _ => false
  | .os _ xs => xs.all fun x => x.all LV.scal
  | .nils _ | .bs .. | .bb .. | .ptr .. | .ep .. | .mp _ | .yl _ | .any => false
  | .undef | .int .. | .bool _ | .str _ | .nul | .emp | .nilp | .nilf | .nilm => true
def LV.noVss : List LV → Bool
  | [] => true
  | v :: l => LV.noVs v && LV.noVss l
end

inductive Task where
  | code (c : ACode) (s : St)
  | fn (f : FuncId) (args : List LV) (lvl : Nat) (F : List Env) (O : Heap)
  | rnd (id : Nat) (args : List LV) (lvl : Nat) (F : List Env) (O : Heap)
inductive Out where
  | ex (e : AEx) (s : St)
  | res (v : LV) (F : List Env) (O : Heap)

inductive ARes where
  | t (n : Nat)
  | cell (ag : Bool) (n : Nat) (a : Nat)
inductive AFn where
  | code (res : List ARes) (body : ACode)
  | prim (g : List LV → Option LV)

abbrev Orc := Task → Option Out

def Opd.ev (T : Env) : Opd → LV
  | .t n => tget T n
  | .c v => v
  | .fu f => .fn (.func f) [] []
def evs (T : Env) : List Opd → List LV
  | [] => []
  | x :: l => x.ev T :: evs T l

def bits (k : IntKind) (x : Int) : BitVec k.bits := BitVec.ofInt k.bits x
def binI (op : BinOp) (k : IntKind) (x y : Int) : Option LV :=
  match op with
  | .add => some (.int k (k.wrap (x + y)))
  | .sub => some (.int k (k.wrap (x - y)))
  | .mul => some (.int k (k.wrap (x * y)))
  | .quo => if y = 0 then none else some (.int k (k.wrap (x.tdiv y)))
  | .rem => if y = 0 then none else some (.int k (x.tmod y))
  | .and => some (.int k (k.wrap (bits k x &&& bits k y).toNat))
  | .or => some (.int k (k.wrap (bits k x ||| bits k y).toNat))
  | .xor => some (.int k (k.wrap (bits k x ^^^ bits k y).toNat))
  | .andNot => some (.int k (k.wrap (bits k x &&& ~~~(bits k y)).toNat))
  | .eql => some (.bool (x == y))
  | .neq => some (.bool (x != y))
  | .lss => some (.bool (decide (x < y)))
  | .leq => some (.bool (decide (x ≤ y)))
  | .gtr => some (.bool (decide (x > y)))
  | .geq => some (.bool (decide (x ≥ y)))
  | .shl | .shr => none
def shf (op : BinOp) (k : IntKind) (x y : Int) : Option LV :=
  if y < 0 then none else
  match op with
  | .shl => some (.int k (k.wrap (x * 2 ^ (min y.toNat k.bits))))
  | .shr => some (.int k (x.fdiv (2 ^ (min y.toNat k.bits))))
  | _ => none
def bibV (neg : Bool) : LV → LV → Option LV
  | .bool a, .bool b => some (.bool ((a == b) != neg))
  | _, _ => none
def binT (op : BinOp) (a b : List UInt8) : Option LV := match op with
  | .eql => some (.bool (a == b))
  | .neq => some (.bool (a != b))
  | .add => if a.length + b.length ≤ 1000000000 then some (.str (a ++ b)) else none
  | _ => none
def isShf : BinOp → Bool
  | .shl | .shr => true
  | _ => false
def bin (op : BinOp) : LV → LV → Option LV
  | .int k x, .int k' y => if isShf op = true then shf op k x y else if k = k' then binI op k x y else none
  | .str a, .str b => binT op a b
  | _, _ => none
def eq1 : Nat → LV → LV → Option Bool
  | 0, .int k x, .int k' y => if k = k' then some (x == y) else none
  | 1, .bool a, .bool b => some (a == b)
  | 2, .str a, .str b => some (a == b)
  | _, _, _ => none
def andK (k : Option Bool) (a : Bool) : Option Bool := k.map (a && ·)
def eqs : List Nat → List LV → List LV → Option Bool
  | [], [], [] => some true
  | t :: ts, x :: l, y :: m => (eq1 t x y).bind (andK (eqs ts l m))
  | _, _, _ => none

def setAt (cs : List LV) (off : Nat) (vs : List LV) : List LV := cs.take off ++ (vs ++ cs.drop (off + vs.length))

def fillK (k : List LV → Option (List LV)) (cs : List LV) (off n : Nat) (v : List LV) : Option (List LV) :=
  if v.length = n ∧ off + n ≤ cs.length ∧ v.all LV.one = true then k (setAt cs off v) else none
def fill (T : Env) : List (Nat × Nat × Opd) → List LV → Option (List LV)
  | [], cs => some cs
  | (off, n, x) :: l, cs => fillK (fill T l) cs off n (x.ev T).cells
def fillSK (k : List (List LV) → Option (List (List LV))) (st : Nat) (xs : List (List LV)) (i : Nat) (v : List LV) : Option (List (List LV)) :=
  if v.length = st ∧ i < xs.length ∧ v.all LV.one = true then k (xs.set i v) else none
def fillS (st : Nat) (T : Env) : List (Nat × Opd) → List (List LV) → Option (List (List LV))
  | [], xs => some xs
  | (i, x) :: l, xs => fillSK (fillS st T l) st xs i (x.ev T).cells

/-- the cells that an element of a row may hold: nothing that refers -/
def closedK (s : St) (ids : List Nat) (cs : List LV) : Option (List LV × St) :=
  if LV.closeds cs = true ∧ cs.all LV.one = true then some (cs, St.frees ids s) else none
def closeCells (s : St) (cs : List LV) : Option (List LV × St) := closedK s (LV.idss cs) (LV.cls s.O cs)
def rowsK1 (y : List LV) (r : List (List LV) × St) : Option (List (List LV) × St) := some (y :: r.1, r.2)
def rowsK (k : St → Option (List (List LV) × St)) (r : List LV × St) : Option (List (List LV) × St) := (k r.2).bind (rowsK1 r.1)
def closeRows : List (List LV) → St → Option (List (List LV) × St)
  | [], s => some ([], s)
  | x :: l, s => (closeCells s x).bind (rowsK (closeRows l))

/-- a part of some cells: one cell, or so many -/
def part (ag : Bool) (off n : Nat) (cs : List LV) : Option LV :=
  if ag = true then (if off + n ≤ cs.length then some (.agg ((cs.drop off).take n)) else none) else cs[off]?
def boxPart (ag : Bool) (off n : Nat) : Option Obj → Option LV
  | some (.box cs) => part ag off n cs
  | _ => none
def optPart (ag : Bool) (off n : Nat) : Option (List LV) → Option LV
  | some x => part ag off n x
  | none => none
def rowPart (ag : Bool) (i off n : Nat) : Option Obj → Option LV
  | some (.row _ xs) => optPart ag off n xs[i]?
  | _ => none
def rd (O : Heap) (ag : Bool) (n : Nat) : LV → Option LV
  | .ptr id off => boxPart ag off n (oget O id)
  | .ep id i off => rowPart ag i off n (oget O id)
  | .fp cs => part ag 0 n cs
  | _ => none

def setBox (id off : Nat) (s : St) (cs : List LV) : Option Obj → Option St
  | some (.box bs) => if off + cs.length ≤ bs.length then some { s with O := oset s.O id (.box (setAt bs off cs)) } else none
  | _ => none
def wrBox (id off : Nat) (r : List LV × St) : Option St := setBox id off r.2 r.1 (oget r.2.O id)
def setElt (id st i off : Nat) (s : St) (xs : List (List LV)) (cs : List LV) : Option (List LV) → Option St
  | some y => if off + cs.length ≤ y.length then some { s with O := oset s.O id (.row st (xs.set i (setAt y off cs))) } else none
  | none => none
def setRow (id i off : Nat) (s : St) (cs : List LV) : Option Obj → Option St
  | some (.row st xs) => setElt id st i off s xs cs xs[i]?
  | _ => none
def wrRow (id i off : Nat) (r : List LV × St) : Option St := setRow id i off r.2 r.1 (oget r.2.O id)
def wrAt (s : St) (cs : List LV) : LV → Option St
  | .ptr id off => (rowsOf cs (id + 1 + off) cs s).bind (wrBox id off)
  | .ep id i off => (closeCells s cs).bind (wrRow id i off)
  | _ => none
def wr (s : St) (n : Nat) (x : LV) (cs : List LV) : Option St :=
  if cs.length = n ∧ cs.all LV.one = true then wrAt s cs x else none

def bndV (lim : Nat) : LV → Option Nat
  | .int _ n => if 0 ≤ n ∧ n ≤ lim then some n.toNat else none
  | _ => none
def bnd (T : Env) (dflt lim : Nat) : Option Opd → Option Nat
  | none => some dflt
  | some x => bndV lim (x.ev T)
def lookK (v : LV) (k : Option (Option LV)) (b : Bool) : Option (Option LV) := if b = true then some (some v) else k
def isAg : LV → Bool
  | .agg _ => true
  | _ => false
/-- the same key? first: 1 for a key of several cells -/
def eqKey (ks : List Nat) (k a : LV) : Option Bool := match ks with
  | t :: ts => if isAg k = (t == 1) ∧ isAg a = (t == 1) then eqs ts k.cells a.cells else none
  | [] => none
def lookupE (ks : List Nat) (k : LV) : List (LV × LV) → Option (Option LV)
  | [] => some none
  | (a, v) :: l => (eqKey ks k a).bind (lookK v (lookupE ks k l))
def consE (a w : LV) (m : List (LV × LV)) : Option (List (LV × LV)) := some ((a, w) :: m)
def updK (k v a w : LV) (l : List (LV × LV)) (r : Option (List (LV × LV))) (b : Bool) : Option (List (LV × LV)) :=
  if b = true then some ((k, v) :: l) else r.bind (consE a w)
def updE (ks : List Nat) (k v : LV) : List (LV × LV) → Option (List (LV × LV))
  | [] => some [(k, v)]
  | (a, w) :: l => (eqKey ks k a).bind (updK k v a w l (updE ks k v l))

def fold2 (f : Int → Int → Int) : LV → List LV → Option LV
  | v, [] => some v
  | .int k a, .int k' b :: l => if k = k' then fold2 f (.int k (f a b)) l else none
  | _, _ => none

def lenMp : Option Obj → Option Int
  | some (.map es) => some es.length
  | _ => none
def lenOf (O : Heap) : Nat → LV → Option Int
  | 1, .str s => some s.length
  | 0, .vs xs => some xs.length
  | 0, .nils _ => some 0
  | 0, .nul => some 0
  | 0, .emp => some 0
  | 0, .bs _ _ len => some len
  | 0, .bb _ _ _ len => some len
  | 2, .mp id => lenMp (oget O id)
  | 2, .nilm => some 0
  | _, _ => none

def idsFrom (lvl : Nat) : Heap → List Nat
  | [] => []
  | (k, _) :: l => if lvl * 1048576 ≤ k then k :: idsFrom lvl l else idsFrom lvl l

def numArgs : Nat → List LV → Env
  | _, [] => []
  | i, v :: l => (i, v) :: numArgs (i + 1) l

/-- a call that is evaluated apart: by value in, by value out -/
def resK : Out → Option LV
  | .res v _ O => exportV O v
  | _ => none
def pureCall (R : Orc) (f : FuncId) (args : List LV) : Option LV := (R (.fn f args 0 [] [])).bind resK

def afterPure (_fz : Bool) (id : Nat) (ids : List Nat) (s : St) (r : LV) : Option (LV × St) :=
  if (ids.isEmpty || LV.noVs r) = true then some (import_ id s r) else some (import_ id (St.frees ids s) r)
/-- back from a call that shared the caller's memory: what was made there goes; what is handed back is told what went -/
def popK (s : St) : Option (LV × St) := match s.F with
  | V :: F => some (tget V 0, { s with F := F })
  | [] => none
def afterIn (lvl : Nat) : Out → Option (LV × St)
  | .res v (T :: F) O => popK (St.frees (idsFrom (lvl + 1) O) { T, F := [(0, v)] :: F, O, lvl })
  | _ => none
def callClosed (R : Orc) (fz : Bool) (id : Nat) (f : FuncId) (args : List LV) (s : St) (c : List LV) : Option (LV × St) :=
  if LV.closeds c = true then (pureCall R f c).bind (afterPure fz id (LV.idss args) s)
  else (R (.fn f args (s.lvl + 1) (s.T :: s.F) s.O)).bind (afterIn s.lvl)
def callFn (R : Orc) (fz : Bool) (id : Nat) (f : FuncId) (args : List LV) (s : St) : Option (LV × St) :=
  callClosed R fz id f args s (LV.cls s.O args)

def callV (R : Orc) (fz : Bool) (id : Nat) (f : LV) (args : List LV) (s : St) : Option (LV × St) :=
  match f with
  | .fn (.func f) first cap => callFn R fz id f (first ++ (args ++ cap)) s
  | .yl l => (R (.rnd l args (s.lvl + 1) (s.T :: s.F) s.O)).bind (afterIn s.lvl)
  | _ => none

def ok1 (s : St) (v : LV) : Option (LV × St) := some (v, s)
def okU (s : St) : Option (LV × St) := some (.undef, s)

def asV (id : Nat) (s : St) (v : LV) : Option (LV × St) :=
  if isNils v = true then some (.bs id 0 0, St.new id (.row (nilSt v) []) s) else some (v, s)
def pickV (a b : LV) : LV → Option LV
  | .bool t => some (if t = true then a else b)
  | _ => none
def boxK (id : Nat) (r : List LV × St) : Option (LV × St) := if LV.aparts id r.1 = true then some (.ptr id 0, St.new id (.box r.1) r.2) else none
def boxV (id : Nat) (z : List LV) (s : St) : Option (LV × St) :=
  if z.all LV.one = true then (rowsOf z (id + 1) z s).bind (boxK id) else none
def aggK (cs : List LV) : Option LV := some (.agg cs)
def rowK (id st n : Nat) (r : List (List LV) × St) : Option (LV × St) := some (.bs id 0 n, St.new id (.row st r.1) r.2)
/-- a slice whose elements show memory that still changes: it lies in a box -/
def bslB (id st n : Nat) (s : St) (cs : List LV) : Option (LV × St) := if (cs.all LV.one && LV.aparts id cs) = true then some (.bb id 0 st n, St.new id (.box cs) s) else none
def bslJ (id st n : Nat) (s : St) (xs : List (List LV)) : Option (List (List LV) × St) → Option (LV × St)
  | some r => rowK id st n r
  | none => bslB id st n s xs.flatten
def bslK (id st n : Nat) (s : St) (xs : List (List LV)) : Option (LV × St) := bslJ id st n s xs (closeRows xs s)
def nilcV : LV → Option LV
  | .ptr i o => some (.ptr i o)
  | .ep i j o => some (.ep i j o)
  | .fp cs => some (.fp cs)
  | .fn (.func f) a b => some (.fn (.func f) a b)
  | _ => none
def eqaK (neg : Bool) (b : Bool) : Option LV := some (.bool (b != neg))
def eqaV (neg : Bool) (ks : List Nat) : LV → LV → Option LV
  | .agg a, .agg b => (eqs ks a b).bind (eqaK neg)
  | _, _ => none
def unV : UnOp → LV → Option LV
  | .neg, .int k n => some (.int k (k.wrap (0 - n)))
  | .not, .bool b => some (.bool (!b))
  | _, _ => none
def convV (k : IntKind) : LV → Option LV
  | .int _ n => some (.int k (k.wrap n))
  | _ => none
def byte1 : List LV → Option UInt8
  | [.int .u8 n] => some (UInt8.ofNat n.toNat)
  | _ => none
def bytesK (b : UInt8) (l : List UInt8) : Option (List UInt8) := some (b :: l)
def bytesK2 (k : Option (List UInt8)) (b : UInt8) : Option (List UInt8) := k.bind (bytesK b)
def bytesOf : List (List LV) → Option (List UInt8)
  | [] => some []
  | x :: l => (byte1 x).bind (bytesK2 (bytesOf l))
def strK (l : List UInt8) : Option LV := some (.str l)
def b2sK (xs : List (List LV)) : Option LV := (bytesOf xs).bind strK
def mksV (id : Nat) (z : List LV) (s : St) : LV → LV → Option (LV × St)
  | .int _ n, .int _ m => if 0 ≤ n ∧ n ≤ m ∧ m ≤ 1000000000 ∧ LV.closeds (LV.cls [] z) = true then
      some (.bs id 0 n.toNat, St.new id (.row z.length (List.replicate n.toNat (LV.cls [] z))) s) else none
  | _, _ => none
def cutK2 (f : Nat → Nat → LV) (h l : Nat) : Option LV := some (f h l)
def cutK (T : Env) (lo : Option Opd) (f : Nat → Nat → LV) (h : Nat) : Option LV := (bnd T 0 h lo).bind (cutK2 f h)
def cut (T : Env) (n : Nat) (lo hi : Option Opd) (f : Nat → Nat → LV) : Option LV := (bnd T n n hi).bind (cutK T lo f)
def cutVs (xs : List (List LV)) (h l : Nat) : LV := .vs ((xs.take h).drop l)
def cutBs (id off : Nat) (h l : Nat) : LV := .bs id (off + l) (h - l)
def cutNil (st : Nat) (_ _ : Nat) : LV := .nils st
def cutStr (xs : List UInt8) (h l : Nat) : LV := .str ((xs.take h).drop l)
def cutBb (id off st : Nat) (h l : Nat) : LV := .bb id (off + l * st) st (h - l)
def cutFp (st : Nat) (cs : List LV) (h l : Nat) : LV := .vs (chunk st (h - l) (cs.drop (l * st)))
def allLen (st : Nat) (xs : List (List LV)) : Bool := xs.all fun x => x.length == st
def slsRow (T : Env) (st id off len : Nat) (lo hi : Option Opd) : Option Obj → Option LV
  | some (.row st' _) => if st' = st then cut T len lo hi (cutBs id off) else none
  | _ => none
def slsV (T : Env) (O : Heap) (st : Nat) (lo hi : Option Opd) : LV → Option LV
  | .vs xs => if allLen st xs = true then cut T xs.length lo hi (cutVs xs) else none
  | .bs id off len => slsRow T st id off len lo hi (oget O id)
  | .bb id off st' len => if st' = st then cut T len lo hi (cutBb id off st) else none
  | .nils st' => cut T 0 lo hi (cutNil st')
  | _ => none
def sltV (T : Env) (lo hi : Option Opd) : LV → Option LV
  | .str xs => cut T xs.length lo hi (cutStr xs)
  | _ => none
def slaV (T : Env) (n st : Nat) (lo hi : Option Opd) : LV → Option LV
  | .ptr id off => cut T n lo hi (cutBb id off st)
  | .fp cs => if n * st ≤ cs.length then cut T n lo hi (cutFp st cs) else none
  | _ => none
def fadV (off : Nat) : LV → Option LV
  | .ptr id o => some (.ptr id (o + off))
  | .ep id i o => some (.ep id i (o + off))
  | .fp cs => some (.fp (cs.drop off))
  | _ => none
def fldV (ag : Bool) (off n : Nat) : LV → Option LV
  | .agg cs => part ag off n cs
  | _ => none
def eltK (st : Nat) (c : List LV) : Option LV := if c.length = st then some (.fp c) else none
def iasRow (st id off len : Nat) (n : Int) : Option Obj → Option LV
  | some (.row st' _) => if 0 ≤ n ∧ n < len ∧ st' = st then some (.ep id (off + n.toNat) 0) else none
  | _ => none
def iasI (O : Heap) (st : Nat) (n : Int) : LV → Option LV
  | .vs xs => if 0 ≤ n then (xs[n.toNat]?).bind (eltK st) else none
  | .bs id off len => iasRow st id off len n (oget O id)
  | .bb id off st' len => if 0 ≤ n ∧ n < len ∧ st' = st then some (.ptr id (off + n.toNat * st)) else none
  | _ => none
def iasV (O : Heap) (st : Nat) (x : LV) : LV → Option LV
  | .int _ n => iasI O st n x
  | _ => none
def iaaI (o : Nat) : LV → Option LV
  | .ptr id p => some (.ptr id (p + o))
  | .ep id j p => some (.ep id j (p + o))
  | .fp cs => some (.fp (cs.drop o))
  | _ => none
def iaaV (len st : Nat) (x : LV) : LV → Option LV
  | .int _ n => if 0 ≤ n ∧ n < len then iaaI (n.toNat * st) x else none
  | _ => none
def ixaV (ag : Bool) (len st : Nat) (x : LV) : LV → Option LV
  | .int _ n => if 0 ≤ n ∧ n < len then fldV ag (n.toNat * st) st x else none
  | _ => none
def u8K (b : UInt8) : Option LV := some (u8 b)
def ixtI (n : Int) : LV → Option LV
  | .str l => if 0 ≤ n then (l[n.toNat]?).bind u8K else none
  | _ => none
def ixtV (x : LV) : LV → Option LV
  | .int _ n => ixtI n x
  | _ => none
def lkpK (z : LV) (ok : Bool) : Option LV → Option LV
  | some v => some (if ok = true then .tup [v, .bool true] else v)
  | none => some (if ok = true then .tup [z, .bool false] else z)
def lkpO (ks : List Nat) (k : LV) : Option Obj → Option (Option LV)
  | some (.map es) => lookupE ks k es
  | _ => none
def lkpV (O : Heap) (ks : List Nat) (k : LV) : LV → Option (Option LV)
  | .nilm => (eqKey ks k k).bind fun _ => some none
  | .mp id => (eqKey ks k k).bind fun _ => lkpO ks k (oget O id)
  | _ => none
def mpuK (id : Nat) (s : St) (es : List (LV × LV)) : Option (LV × St) := okU { s with O := oset s.O id (.map es) }
def mpuO (ks : List Nat) (id : Nat) (k v : LV) (s : St) : Option Obj → Option (LV × St)
  | some (.map es) => if LV.closed k = true ∧ LV.closed v = true then (eqKey ks k k).bind fun _ => (updE ks k v es).bind (mpuK id s) else none
  | _ => none
def mpuV (ks : List Nat) (k v : LV) (s : St) : LV → Option (LV × St)
  | .mp id => mpuO ks id k v s (oget s.O id)
  | _ => none
def zcV (st : Nat) : LV → Option LV
  | .vs _ => some (.nils st)
  | .bs .. => some (.nils st)
  | .nils _ => some (.nils st)
  | _ => none
def capV : LV → Option LV
  | .nils _ => some (.int .i64 0)
  | _ => none
def isnV (neg : Bool) : LV → Option LV
  | .nul => some (.bool (true != neg))
  | .emp => some (.bool (false != neg))
  | .vs xs => if xs.isEmpty = true then none else some (.bool (false != neg))
  | _ => none
def extV (i : Nat) : LV → Option LV
  | .tup vs => vs[i]?
  | _ => none
def intK (n : Int) : Option LV := some (.int .i64 n)
def appO (st id off len : Nat) (ys : List (List LV)) (s : St) : Option Obj → Option (LV × St)
  | some (.row st' xs) => if off = 0 ∧ len ≤ xs.length ∧ st' = st ∧ len + ys.length ≤ 1000000000 then
      some (.bs id 0 (len + ys.length), St.sub .kill id { s with O := oset s.O id (.row st (xs.take len ++ ys)) }) else none
  | _ => none
def appV (st d : Nat) (ys : List (List LV)) (s : St) : LV → Option (LV × St)
  | .nils _ => if ys.length ≤ 1000000000 then some (.bs d 0 ys.length, St.new d (.row st ys) s) else none
  | .bs id off len => appO st id off len ys s (oget s.O id)
  | _ => none
def appK (st d : Nat) (b : LV) (s : St) (ys : List (List LV)) : Option (LV × St) :=
  if allLen st ys = true then appV st d ys s b else none
def apzV (z : List LV) (d : Nat) (b : LV) (s : St) : LV → Option (LV × St)
  | .int _ n => if 0 ≤ n ∧ n ≤ 1000000000 ∧ LV.closeds z = true then appV z.length d (List.replicate n.toNat z) s b else none
  | _ => none
def cpyO (st id off len : Nat) (ys : List (List LV)) (s : St) : Option Obj → Option (LV × St)
  | some (.row st' xs) => if allLen st ys = true ∧ st' = st ∧ off + len ≤ xs.length then
      some (.int .i64 (min ys.length len : Nat), { s with O := oset s.O id (.row st (xs.take off ++ (ys.take (min ys.length len) ++ xs.drop (off + min ys.length len)))) }) else none
  | _ => none
def cpyV (st : Nat) (ys : List (List LV)) (s : St) : LV → Option (LV × St)
  | .bs id off len => cpyO st id off len ys s (oget s.O id)
  | _ => none
def cpyK (st : Nat) (b : LV) (s : St) (ys : List (List LV)) : Option (LV × St) := cpyV st ys s b
def foldV (f : Int → Int → Int) : List LV → Option LV
  | v :: l => fold2 f v l
  | [] => none
def mnI (x y : Int) : Int := if y < x then y else x
def mxI (x y : Int) : Int := if y > x then y else x

/-- what an operation that changes nothing answers -/
def valOp (T : Env) (O : Heap) : AOp → Option LV
  | .mv x => some (x.ev T)
  | .pick c a b => pickV (a.ev T) (b.ev T) (c.ev T)
  | .build z ps => (fill T ps z).bind aggK
  | .load ag n x => rd O ag n (x.ev T)
  | .nilc x => nilcV (x.ev T)
  | .bin op x y => bin op (x.ev T) (y.ev T)
  | .bib neg x y => bibV neg (x.ev T) (y.ev T)
  | .eqa neg ks x y => eqaV neg ks (x.ev T) (y.ev T)
  | .un op x => unV op (x.ev T)
  | .conv k x => convV k (x.ev T)
  | .b2s x => (elems O (x.ev T)).bind b2sK
  | .mkf f first cap => some (.fn f (evs T first) (evs T cap))
  | .sls st x lo hi => slsV T O st lo hi (x.ev T)
  | .slt x lo hi => sltV T lo hi (x.ev T)
  | .sla n st x lo hi => slaV T n st lo hi (x.ev T)
  | .fad off x => fadV off (x.ev T)
  | .fld ag off n x => fldV ag off n (x.ev T)
  | .ias st x i => iasV O st (x.ev T) (i.ev T)
  | .iaa len st x i => iaaV len st (x.ev T) (i.ev T)
  | .ixa ag len st x i => ixaV ag len st (x.ev T) (i.ev T)
  | .ixt x i => ixtV (x.ev T) (i.ev T)
  | .lkp ks z ok x k => (lkpV O ks (k.ev T) (x.ev T)).bind (lkpK z ok)
  | .zc st x => zcV st (x.ev T)
  | .capn x => capV (x.ev T)
  | .isn neg x => isnV neg (x.ev T)
  | .ext x i => extV i (x.ev T)
  | .len k x => (lenOf O k (x.ev T)).bind intK
  | .lena n => some (.int .i64 n)
  | .mn xs => foldV mnI (evs T xs)
  | .mx xs => foldV mxI (evs T xs)
  | .as _ | .alloc _ | .box _ | .bsl .. | .store .. | .mkm | .mks .. | .mpu .. | .bad | .call .. | .cal .. | .app .. | .apz .. | .cpy .. => none

def stepOp (R : Orc) (fz : Bool) (d : Nat) (op : AOp) (s : St) : Option (LV × St) :=
  match op with
  | .as x => asV (oid s.lvl d) s (x.ev s.T)
  | .alloc z => boxV (oid s.lvl d) z s
  | .box x => boxV (oid s.lvl d) (x.ev s.T).cells s
  | .bsl st n z ps => if z.length = st then (fillS st s.T ps (List.replicate n z)).bind (bslK (oid s.lvl d) st n s) else none
  | .store n x v => (wr s n (x.ev s.T) (v.ev s.T).cells).bind okU
  | .mkm => some (.mp (oid s.lvl d), St.new (oid s.lvl d) (.map []) s)
  | .mks _st z len cap => mksV (oid s.lvl d) z s (len.ev s.T) (cap.ev s.T)
  | .mpu ks x k v => mpuV ks (k.ev s.T) (v.ev s.T) s (x.ev s.T)
  | .bad => none
  | .call f args => callFn R fz (oid s.lvl d) f (evs s.T args) s
  | .cal f args => callV R fz (oid s.lvl d) (f.ev s.T) (evs s.T args) s
  | .app st b x => (elems s.O (x.ev s.T)).bind (appK st (oid s.lvl d) (b.ev s.T) s)
  | .apz .. => none
  | .cpy st b x => (elems s.O (x.ev s.T)).bind (cpyK st (b.ev s.T) s)
  | op => (valOp s.T s.O op).bind (ok1 s)

def wantV (b : Bool) : LV → Option Bool
  | .bool c => some (c == b)
  | .undef => some false
  | _ => none
def wanted (T : Env) : Option (Nat × Bool) → Option Bool
  | none => some true
  | some (t, b) => wantV b (tget T t)

def putT (d : Option Nat) (v : LV) (s : St) : St := match d with | some d => { s with T := (d, v) :: s.T } | none => s
def putK (k : St → Option St) (d : Option Nat) (r : LV × St) : Option St := k (putT d r.1 r.2)
/-- a value that is closed at once -/
def closeV1 (s : St) (ids : List Nat) (v : LV) : Option (LV × St) := if LV.closed v = true then some (v, St.frees ids s) else none
def closeV (fz : Bool) (r : LV × St) : Option (LV × St) := if fz = true then some r else closeV1 r.2 (LV.ids r.1) (LV.cl r.2.O r.1)
def grdK (R : Orc) (o : AOper) (k : St → Option St) (s : St) (b : Bool) : Option St :=
  if b = true then ((stepOp R true (o.dst.getD 0) o.op s).bind (closeV o.fz)).bind (putK k o.dst) else k (putT o.dst .undef s)
def runOps (R : Orc) : List AOper → St → Option St
  | [], s => some s
  | o :: l, s => (wanted s.T o.grd).bind (grdK R o (runOps R l) s)

def keep (T : Env) : List Nat → Env
  | [] => []
  | k :: l => (k, tget T k) :: keep T l
def slotIds (lvl : Nat) (drop : List Nat) : Heap → List Nat
  | [] => []
  | (k, _) :: l => if drop.contains (k / 256 - lvl * 4096) = true then k :: slotIds lvl drop l else slotIds lvl drop l
def maskK (mask : Option (List Nat)) (s : St) : St := match mask with | some ks => { s with T := keep s.T ks } | none => s
def dropK (drop : List Nat) (s : St) : St := match drop with | [] => s | d :: l => St.frees (slotIds s.lvl (d :: l) s.O) s
def endReg (mask : Option (List Nat)) (drop : List Nat) (s : St) : St := dropK drop (maskK mask s)

/-! A region that draws its order: what an operation does that others may come before or behind -/
/-- without what the operations make that may come behind as well as before -/
def filtO (lvl : Nat) (un : List Nat) : Heap → Heap
  | [] => []
  | (k, v) :: l => if un.contains (k / 256 - lvl * 4096) = true then filtO lvl un l else (k, v) :: filtO lvl un l
def putO (o : Option Obj) (k : Option (LV × St)) : Option (LV × St) := match o with | none => k | some _ => none
/-- a new object -/
def dNew (id : Nat) (o : Obj) (v : LV) (s : St) : Option (LV × St) := putO (oget s.O id) (some (v, St.push id o s))
def dRowsK (id st : Nat) (k : St → Option (List LV × St)) (s : St) : Option Obj → Option (List LV × St)
  | none => (k (St.push id (.row st []) s)).map (consC (.bs id 0 0))
  | some _ => none
def dRows : Nat → List LV → St → Option (List LV × St)
  | _, [], s => some ([], s)
  | id, v :: l, s => if isNils v = true then dRowsK id (nilSt v) (dRows (id + 1) l) s (oget s.O id) else (dRows (id + 1) l s).map (consC v)
def dBoxK (id : Nat) (r : List LV × St) : Option (LV × St) := dNew id (.box r.1) (.ptr id 0) r.2
def dBox (id : Nat) (z : List LV) (s : St) : Option (LV × St) :=
  if z.all LV.one = true ∧ z.length < 200 then (dRows (id + 1) z s).bind (dBoxK id) else none
def dBsl (id st n : Nat) (s : St) (xs : List (List LV)) : Option (LV × St) :=
  if (xs.all fun x => LV.closeds x && x.all LV.one) = true then dNew id (.row st xs) (.bs id 0 n) s else none
def dImp1 (id : Nat) (s : St) : LV → Option (LV × St)
  | .os st xs => dNew id (.row st xs) (.bs id 0 xs.length) s
  | .om _ => none
  | v => some (v, s)
def dImpsK (k : St → Option (List LV × St)) (r : LV × St) : Option (List LV × St) := (k r.2).map (consC r.1)
def dImps : Nat → List LV → St → Option (List LV × St)
  | _, [], s => some ([], s)
  | id, v :: l, s => (dImp1 id s v).bind (dImpsK (dImps (id + 1) l))
def dTup (r : List LV × St) : LV × St := (.tup r.1, r.2)
def dImp (id : Nat) (s : St) : LV → Option (LV × St)
  | .tup vs => if vs.length < 200 then (dImps id vs s).map dTup else none
  | v => dImp1 id s v
def dAfter (id : Nat) (b : Bool) (s : St) (r : LV) : Option (LV × St) := if (b || LV.noVs r) = true then dImp id s r else none
def dCall (R : Orc) (id : Nat) (f : FuncId) (b : Bool) (s : St) (c : List LV) : Option (LV × St) :=
  if LV.closeds c = true then (pureCall R f c).bind (dAfter id b s) else none
def dCal (R : Orc) (id : Nat) (s : St) (O : Heap) (args : List LV) : LV → Option (LV × St)
  | .fn (.func f) first cap => dCall R id f (LV.idss (first ++ (args ++ cap))).isEmpty s (LV.cls O (first ++ (args ++ cap)))
  | _ => none
def dSetBox (id off : Nat) (s : St) (cs : List LV) : Option Obj → Option (LV × St)
  | some (.box bs) => if off + cs.length ≤ bs.length then okU { s with O := oset s.O id (.box (setAt bs off cs)) } else none
  | _ => none
def dSetElt (id st i off : Nat) (s : St) (xs : List (List LV)) (cs : List LV) : Option (List LV) → Option (LV × St)
  | some y => if off + cs.length ≤ y.length then okU { s with O := oset s.O id (.row st (xs.set i (setAt y off cs))) } else none
  | none => none
def dSetRow (id i off : Nat) (s : St) (cs : List LV) : Option Obj → Option (LV × St)
  | some (.row st xs) => dSetElt id st i off s xs cs xs[i]?
  | _ => none
def apartId (id : Nat) : LV → Bool
  | .ptr j _ => j != id
  | .ep j _ _ => j != id
  | .fp _ => true
  | _ => false
def apartQs (T : Env) (id : Nat) : List Nat → Bool
  | [] => true
  | q :: l => apartId id (tget T q) && apartQs T id l
/-- it lies where one of these slots makes its objects -/
def inSlot (lvl : Nat) (qs : List Nat) (id : Nat) : Bool := qs.isEmpty || qs.contains (id / 256 - lvl * 4096)
def dStore (s : St) (O : Heap) (qs : List Nat) (cs : List LV) : LV → Option (LV × St)
  | .ptr id off => if inSlot s.lvl qs id = true then dSetBox id off s cs (oget O id) else none
  | .ep id i off => if inSlot s.lvl qs id = true then dSetRow id i off s cs (oget O id) else none
  | _ => none
/-- what others may write is not what is read here -/
def apartV (T : Env) (qs : List Nat) : LV → Bool
  | .ptr id _ => apartQs T id qs
  | .ep id _ _ => apartQs T id qs
  | .fp _ => true
  | _ => false
def dMks (id : Nat) (z : List LV) (s : St) : LV → LV → Option (LV × St)
  | .int _ n, .int _ m => if 0 ≤ n ∧ n ≤ m ∧ m ≤ 1000000000 ∧ LV.closeds (LV.cls [] z) = true ∧ (LV.cls [] z).all LV.one = true then
      dNew id (.row z.length (List.replicate n.toNat (LV.cls [] z))) (.bs id 0 n.toNat) s else none
  | _, _ => none
def dOp (R : Orc) (un qs : List Nat) (d : Nat) (op : AOp) (s : St) : Option (LV × St) :=
  match op with
  | .as x => ok1 s (x.ev s.T)
  | .alloc z => dBox (oid s.lvl d) z s
  | .box x => dBox (oid s.lvl d) (x.ev s.T).cells s
  | .bsl st n z ps => if z.length = st then (fillS st s.T ps (List.replicate n z)).bind (dBsl (oid s.lvl d) st n s) else none
  | .store n x v => if (v.ev s.T).cells.length = n ∧ (v.ev s.T).cells.all LV.one = true ∧ LV.closeds (v.ev s.T).cells = true then dStore s (filtO s.lvl un s.O) qs (v.ev s.T).cells (x.ev s.T) else none
  | .call f args => dCall R (oid s.lvl d) f (LV.idss (evs s.T args)).isEmpty s (LV.cls (filtO s.lvl un s.O) (evs s.T args))
  | .cal f args => dCal R (oid s.lvl d) s (filtO s.lvl un s.O) (evs s.T args) (f.ev s.T)
  | .mks _st z len cap => dMks (oid s.lvl d) z s (len.ev s.T) (cap.ev s.T)
  | .load ag n x => if qs.isEmpty = true ∨ apartV s.T qs (x.ev s.T) = true then (rd (filtO s.lvl un s.O) ag n (x.ev s.T)).bind (ok1 s) else none
  | .mkm | .mpu .. | .bad | .app .. | .apz .. | .cpy .. => none
  | op => (valOp s.T (filtO s.lvl un s.O) op).bind (ok1 s)
structure Dl where
  v : LV
  news : List (Nat × Obj)
  upd : Option (Nat × Obj)
def dlV (v : LV) : Option Dl := some ⟨v, [], none⟩

def rowsN : Nat → List LV → List LV × List (Nat × Obj)
  | _, [] => ([], [])
  | id, v :: l => if isNils v = true then (.bs id 0 0 :: (rowsN (id + 1) l).1, (id, .row (nilSt v) []) :: (rowsN (id + 1) l).2) else (v :: (rowsN (id + 1) l).1, (rowsN (id + 1) l).2)
def deltaBox (id : Nat) (z : List LV) : Option Dl :=
  if z.all LV.one = true ∧ z.length < 200 then some ⟨.ptr id 0, (rowsN (id + 1) z).2 ++ [(id, .box (rowsN (id + 1) z).1)], none⟩ else none
def deltaBsl (id st n : Nat) (xs : List (List LV)) : Option Dl :=
  if (xs.all fun x => LV.closeds x && x.all LV.one) = true then some ⟨.bs id 0 n, [(id, .row st xs)], none⟩ else none
def imp1N (id : Nat) : LV → Option (LV × List (Nat × Obj))
  | .os st xs => some (.bs id 0 xs.length, [(id, .row st xs)])
  | .om _ => none
  | v => some (v, [])
def impsNK (k : Option (List LV × List (Nat × Obj))) (r : LV × List (Nat × Obj)) : Option (List LV × List (Nat × Obj)) := k.map fun q => (r.1 :: q.1, r.2 ++ q.2)
def impsN : Nat → List LV → Option (List LV × List (Nat × Obj))
  | _, [] => some ([], [])
  | id, v :: l => (imp1N id v).bind (impsNK (impsN (id + 1) l))
def impN (id : Nat) : LV → Option (LV × List (Nat × Obj))
  | .tup vs => if vs.length < 200 then (impsN id vs).map fun q => (.tup q.1, q.2) else none
  | v => imp1N id v
def deltaAfter (id : Nat) (b : Bool) (r : LV) : Option Dl := if (b || LV.noVs r) = true then (impN id r).map fun q => ⟨q.1, q.2, none⟩ else none
def deltaCall (R : Orc) (id : Nat) (f : FuncId) (b : Bool) (c : List LV) : Option Dl :=
  if LV.closeds c = true then (pureCall R f c).bind (deltaAfter id b) else none
def deltaCal (R : Orc) (id : Nat) (V : Heap) (args : List LV) : LV → Option Dl
  | .fn (.func f) first cap => deltaCall R id f (LV.idss (first ++ (args ++ cap))).isEmpty (LV.cls V (first ++ (args ++ cap)))
  | _ => none
def setBoxD (id off : Nat) (cs : List LV) : Option Obj → Option Dl
  | some (.box bs) => if off + cs.length ≤ bs.length then some ⟨.undef, [], some (id, .box (setAt bs off cs))⟩ else none
  | _ => none
def setEltD (id st i off : Nat) (xs : List (List LV)) (cs : List LV) : Option (List LV) → Option Dl
  | some y => if off + cs.length ≤ y.length then some ⟨.undef, [], some (id, .row st (xs.set i (setAt y off cs)))⟩ else none
  | none => none
def setRowD (id i off : Nat) (cs : List LV) : Option Obj → Option Dl
  | some (.row st xs) => setEltD id st i off xs cs xs[i]?
  | _ => none
def deltaStore (lvl : Nat) (V : Heap) (qs : List Nat) (cs : List LV) : LV → Option Dl
  | .ptr id off => if inSlot lvl qs id = true then setBoxD id off cs (oget V id) else none
  | .ep id i off => if inSlot lvl qs id = true then setRowD id i off cs (oget V id) else none
  | _ => none
def deltaMks (id : Nat) (z : List LV) : LV → LV → Option Dl
  | .int _ n, .int _ m => if 0 ≤ n ∧ n ≤ m ∧ m ≤ 1000000000 ∧ LV.closeds (LV.cls [] z) = true ∧ (LV.cls [] z).all LV.one = true then
      some ⟨.bs id 0 n.toNat, [(id, .row z.length (List.replicate n.toNat (LV.cls [] z)))], none⟩ else none
  | _, _ => none
def delta (R : Orc) (qs : List Nat) (lvl d : Nat) (op : AOp) (T : Env) (V : Heap) : Option Dl :=
  match op with
  | .as x => dlV (x.ev T)
  | .alloc z => deltaBox (oid lvl d) z
  | .box x => deltaBox (oid lvl d) (x.ev T).cells
  | .bsl st n z ps => if z.length = st then (fillS st T ps (List.replicate n z)).bind (deltaBsl (oid lvl d) st n) else none
  | .store n x v => if (v.ev T).cells.length = n ∧ (v.ev T).cells.all LV.one = true ∧ LV.closeds (v.ev T).cells = true then deltaStore lvl V qs (v.ev T).cells (x.ev T) else none
  | .call f args => deltaCall R (oid lvl d) f (LV.idss (evs T args)).isEmpty (LV.cls V (evs T args))
  | .cal f args => deltaCal R (oid lvl d) V (evs T args) (f.ev T)
  | .mks _st z len cap => deltaMks (oid lvl d) z (len.ev T) (cap.ev T)
  | .load ag n x => if qs.isEmpty = true ∨ apartV T qs (x.ev T) = true then (rd V ag n (x.ev T)).bind dlV else none
  | .mkm | .mpu .. | .bad | .app .. | .apz .. | .cpy .. => none
  | op => (valOp T V op).bind dlV

def pushAll : List (Nat × Obj) → Heap → Heap
  | [], O => O
  | p :: l, O => pushAll l (p :: O)
def freshAll : List (Nat × Obj) → Heap → Bool
  | [], _ => true
  | p :: l, O => (oget O p.1).isNone && freshAll l (p :: O)
def updO : Option (Nat × Obj) → Heap → Heap
  | some (id, o), O => oset O id o
  | none, O => O
def applyD (s : St) (dl : Dl) : Option (LV × St) := if freshAll dl.news s.O = true then some (dl.v, { s with O := updO dl.upd (pushAll dl.news s.O) }) else none

/-- a slice that is closed at birth: nobody else ever knows the object -/
def frzDl (dl : Dl) : Option Dl := match dl.v, dl.news, dl.upd with
  | .bs id 0 n, [(j, .row _ xs)], none => if id = j ∧ n = xs.length then some ⟨.vs xs, [], none⟩ else none
  | _, _, _ => none
def frzOk (T : Env) : AOp → Bool
  | .bsl _ _ _ ps => ps.all fun p => LV.closed (p.2.ev T)
  | .mks .. => true
  | .call _ args => (LV.idss (evs T args)).isEmpty
  | _ => false
def deltaZ (R : Orc) (qs : List Nat) (lvl d : Nat) (fz : Bool) (op : AOp) (T : Env) (V : Heap) : Option Dl :=
  if fz = true then delta R qs lvl d op T V else if frzOk T op = true then (delta R qs lvl d op T V).bind frzDl else none
def dOpF (R : Orc) (un qs : List Nat) (d : Nat) (op : AOp) (s : St) : Option (LV × St) :=
  (deltaZ R qs s.lvl d false op s.T (filtO s.lvl un s.O)).bind (applyD s)
def chkOp (R : Orc) (q : Chk) (fz : Bool) (d : Nat) (op : AOp) (s : St) : Option (LV × St) :=
  match q with
  | .free => (stepOp R true d op s).bind (closeV fz)
  | .dr un qs => if fz = true then dOp R un qs d op s else dOpF R un qs d op s
def grdD (R : Orc) (q : Chk) (o : AOper) (k : St → Option St) (s : St) (b : Bool) : Option St :=
  if b = true then (chkOp R q o.fz (o.dst.getD 0) o.op s).bind (putK k o.dst) else k (putT o.dst .undef s)
def runD (R : Orc) : List (Chk × AOper) → St → Option St
  | [], s => some s
  | o :: l, s => (wanted s.T o.2.grd).bind (grdD R o.1 o.2 (runD R l) s)
def dsts : List AOper → List Nat
  | [] => []
  | o :: l => match o.dst with | some d => d :: dsts l | none => dsts l
def runQ (R : Orc) (ops : List AOper) (s : St) : Option (List Chk) → Option St
  | none => runOps R ops s
  | some q => runD R (q.zip ops) (dropK (dsts ops) s)

def res1 (s : St) : ARes → Option LV
  | .t n => some (tget s.T n)
  | .cell ag n a => rd s.O ag n (tget s.T a)
def consV (v : LV) (l : List LV) : Option (List LV) := some (v :: l)
def resultsK (k : Option (List LV)) (v : LV) : Option (List LV) := k.bind (consV v)
def resultsL (s : St) : List ARes → Option (List LV)
  | [] => some []
  | r :: l => (res1 s r).bind (resultsK (resultsL s l))
def tuple1 : List LV → LV
  | [v] => v
  | l => .tup l

/-- a witness among the frames: the object has not been another's since -/
def wit (id : Nat) (s : St) : St := { s with F := [(0, .yl id)] :: s.F }
def isYl (id : Nat) : LV → Bool
  | .yl i => i == id
  | _ => false
def unwit (id : Nat) (s : St) : Option St := match s.F with
  | V :: F => if isYl id (tget V 0) = true then some { s with F := F } else none
  | [] => none
def endRfK (id : Nat) (s : St) : Option Obj → Option Out
  | some (.loop _ _ _ _ st p) => if st = .busy then none else some (.ex p (St.free id s))
  | _ => none
def endRf (id : Nat) (s : St) : Option Out := endRfK id s (oget s.O id)
def begRf2 (id : Nat) (ps : List Nat) (asg body : ACode) (s : St) : St := St.push id (.loop s.T ps asg body .ready .nrm) s
def begRf (id : Nat) (ps : List Nat) (asg body : ACode) (s : St) : St := begRf2 id ps asg body (St.free id s)
def endRfR (id : Nat) (r : LV × St) : Option Out := (unwit id r.2).bind (endRf id)
def rfK (R : Orc) (id id2 : Nat) (f : Opd) (s : St) : Option Out := (callV R true id2 (f.ev s.T) [.yl id] (wit id s)).bind (endRfR id)
def outK (s : St) (vs : List LV) : Option Out := some (.res (tuple1 vs) s.F s.O)
def endFn (res : List ARes) (s : St) : Option Out := (resultsL s res).bind (outK s)
def endRndK (id : Nat) (e : AEx) (s : St) : Option Obj → Option Out
  | some (.loop T ps asg body .busy _) =>
    some (.res (.bool (decide (e = .nrm))) s.F (oset s.O id (.loop T ps asg body (if e = .nrm then .ready else .done) e)))
  | _ => none
def endRnd (id : Nat) (e : AEx) (s : St) : Option Out := endRndK id e s (oget s.O id)
def rndBody (id : Nat) : Out → Option Out
  | .ex e s => (unwit id s).bind (endRnd id e)
  | _ => none
def rndMid (R : Orc) (id : Nat) (body : ACode) (s : St) : Option Obj → Option Out
  | some (.loop T ps asg b .ready p) => (R (.code body (wit id { s with O := oset s.O id (.loop T ps asg b .busy p) }))).bind (rndBody id)
  | _ => none
def rndMid1 (R : Orc) (id : Nat) (body : ACode) (s : St) : Option Out := rndMid R id body s (oget s.O id)
def rndAsg (R : Orc) (id : Nat) (body : ACode) : Out → Option Out
  | .ex .nrm s => (unwit id s).bind (rndMid1 R id body)
  | _ => none
def rndBeg (R : Orc) (id : Nat) (args : List LV) (lvl : Nat) (F : List Env) (O : Heap) : Option Obj → Option Out
  | some (.loop T ps asg body .ready _) =>
    if ps.length = args.length then (R (.code asg (wit id { T := (ps.zip args).reverse ++ T, F, O, lvl }))).bind (rndAsg R id body) else none
  | _ => none
def fnEnd (res : List ARes) : Out → Option Out
  | .ex .nrm s => endFn res s
  | .ex .ret s => endFn res s
  | _ => none
def primR (r : LV) : Option Out := some (.res r [] [])
def fnBeg (R : Orc) (args : List LV) (lvl : Nat) (F : List Env) (O : Heap) : AFn → Option Out
  | .code res body => (R (.code body { T := numArgs 0 args, F, O, lvl })).bind (fnEnd res)
  | .prim g => if lvl = 0 ∧ F.isEmpty = true ∧ O.isEmpty = true then (g args).bind primR else none
def seqR (R : Orc) (b : ACode) : Out → Option Out
  | .ex .nrm s => R (.code b s)
  | .ex e s => some (.ex e s)
  | .res .. => none
def condR (x y : Option Out) : LV → Option Out
  | .bool t => if t = true then x else y
  | _ => none
def blockR (id : Nat) (mask : Option (List Nat)) (drop : List Nat) : Out → Option Out
  | .ex (.exit i) s => if i = id then some (.ex .nrm (endReg mask drop s)) else some (.ex (.exit i) s)
  | .ex .nrm s => some (.ex .nrm (endReg mask drop s))
  | .ex .ret s => some (.ex .ret s)
  | .res .. => none
def loopR (R : Orc) (b : ACode) (mask : Option (List Nat)) (drop : List Nat) : Out → Option Out
  | .ex .nrm s => R (.code (.loop b mask drop) (endReg mask drop s))
  | .ex e s => some (.ex e s)
  | .res .. => none
def regR (mask : Option (List Nat)) (drop : List Nat) (s : St) : Option Out := some (.ex .nrm (endReg mask drop s))

def step (E : FuncId → Option AFn) (R : Orc) : Task → Option Out
  | .code .skip s => some (.ex .nrm s)
  | .code (.reg q ops mask drop) s => (runQ R ops s q).bind (regR mask drop)
  | .code (.seq a b) s => (R (.code a s)).bind (seqR R b)
  | .code (.cond c a b) s => condR (R (.code a s)) (R (.code b s)) (c.ev s.T)
  | .code (.block id b mask drop) s => (R (.code b s)).bind (blockR id mask drop)
  | .code (.loop b mask drop) s => (R (.code b s)).bind (loopR R b mask drop)
  | .code (.scope b) s => R (.code b s)
  | .code (.exit id) s => some (.ex (.exit id) s)
  | .code .ret s => some (.ex .ret s)
  | .code .bad _ => none
  | .code (.rf rid f ps asg body) s => rfK R (oid s.lvl 4000 + rid) (oid s.lvl 4001) f (begRf (oid s.lvl 4000 + rid) ps asg body s)
  | .fn f args lvl F O => (E f).bind (fnBeg R args lvl F O)
  | .rnd id args lvl F O => rndBeg R id args lvl F O (oget O id)
end Go.Zv
