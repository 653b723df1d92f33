/- Part of the proof: the evaluation of the program's code and its tie to the machine, or what functions of the program compute over it. -/
import GoSem.Step
import Derived.Orders
set_option autoImplicit false
set_option maxRecDepth 100000
set_option maxHeartbeats 4000000
set_option linter.unusedSimpArgs false
set_option linter.unusedVariables false
/- The engine, part 1: values, operations and one step of the evaluation. Not tied to a program. -/
namespace Go
abbrev Qa:=@Option.bind_eq_some_iff
abbrev Qb:=@List.length_map
abbrev Qc:=@Option.map_eq_some_iff
abbrev Qd:=@List.mem_of_getElem?
abbrev Qe:=@List.getElem?_eq_some_iff
abbrev Qf:=@List.getElem?_eq_getElem
abbrev Qg:=@Bool.and_eq_true
abbrev Qh:=@Bool.false_eq_true
abbrev Qi:=@Array.getD_eq_getD_getElem?
abbrev Qj:=@List.all_eq_true
abbrev Qk:=@List.map_cons
abbrev Ql:=@List.map_append
abbrev Qm:=@List.length_append
abbrev Qn:=@Int.natCast_zero
abbrev Qo:=@List.eq_nil_of_length_eq_zero
abbrev Qp:=@Int.lt_irrefl
abbrev Qq:=@List.mem_range
abbrev Qr:=@List.take_of_length_le
abbrev Qs:=@List.mem_append
abbrev Qt:=@Bool.false_and
abbrev Qu:=@Classical.byContradiction
abbrev Qv:=@Int.ofNat_zero
abbrev Qw:=@List.nil_append
abbrev Qx:=@List.length_range
abbrev Qy:=@List.cons_append
abbrev Qz:=@Rat.mul_nonneg
abbrev Q0:=@List.map_nil
abbrev Q1:=@Bool.true_and
abbrev Q3:=@Bool.and_false
abbrev Q4:=@List.length_cons
abbrev Q5:=@Option.bind_some
abbrev Q6:=@List.mem_map
abbrev Q7:=@List.mem_cons
abbrev Q8:=@Nat.le_refl
abbrev Q9:=@List.flatten_cons
abbrev Qaa:=@Array.getElem?_eq_getElem
abbrev Qab:=@Array.toArray_toList
abbrev Qac:=@Nat.add_mul
abbrev Qad:=@List.mem_filter
abbrev Qae:=@List.mem_singleton
abbrev Qaf:=@Nat.lt_of_lt_of_le
abbrev Qag:=@Int.mul_le_mul_of_nonneg_left
abbrev Qah:=@Bool.false_or
abbrev Qai:=@Bool.not_true
abbrev Qaj:=@Array.getElem?_eq_some_iff
abbrev Qak:=@List.getElem?_take
abbrev Qal:=@List.map_congr_left
abbrev Qam:=@Bool.not_eq_true'
abbrev Qan:=@List.getElem?_map
abbrev Qao:=@Bool.true_or
abbrev Qap:=@List.map_map
abbrev Qaq:=@Bool.or_true
abbrev Qar:=@List.append_assoc
abbrev Qas:=@List.any_eq_true
abbrev Qat:=@List.mem_iff_getElem?
abbrev Qau:=@Bool.or_eq_true
abbrev Qav:=@Array.getElem?_setIfInBounds
abbrev Qaw:=@Array.getElem?_setIfInBounds_ne
abbrev Qax:=@Bool.and_true
abbrev Qay:=@Option.map_some
abbrev Qaz:=@Nat.add_assoc
abbrev Qa0:=@List.length_nil
abbrev Qa1:=@Nat.mul_le_mul_right
abbrev Qa2:=@List.any_eq_false
abbrev Qa3:=@Bool.eq_iff_iff
abbrev Qa4:=@List.take_add_one
abbrev Qa5:=@Bool.not_false
abbrev Qa6:=@Int.mul_nonneg
abbrev Qa7:=@List.foldl_cons
abbrev Qa8:=@List.range_succ
abbrev Qa9:=@Option.getD_some
abbrev Qba:=@Bool.or_eq_false_iff
abbrev Qbb:=@Rat.mul_pos
abbrev Qbc:=@List.append_nil
abbrev Qbd:=@Bool.beq_eq_decide_eq
abbrev Qbe:=@Nat.zero_add
abbrev Qbf:=@Array.all_eq_true_iff_forall_mem
abbrev Qbg:=@List.getElem?_append_right
abbrev Qbh:=@Int.tmod_eq_emod_of_nonneg
abbrev Qbi:=@List.drop_drop
abbrev Qbj:=@List.getElem?_append
abbrev Qbk:=@List.drop_of_length_le
abbrev Qbl:=@List.getElem?_drop
abbrev Qbm:=@List.pairwise_cons
abbrev Qbn:=@List.take_length
abbrev Qbo:=@List.mem_cons_of_mem
abbrev Qbp:=@List.length_take
abbrev Qbq:=@List.mapM_cons
abbrev Qbr:=@List.flatMap_append
abbrev Qbs:=@Rat.intCast_mul
abbrev Qbt:=@List.getElem?_append_left
abbrev Qbu:=@List.getElem?_eq_none_iff
abbrev Qbv:=@List.length_filter_le
abbrev Qbw:=@Classical.choose_spec
abbrev Qbx:=@List.length_drop
abbrev Qby:=@Int.cast_ofNat_Int
abbrev Qbz:=@Int.mul_le_mul_of_nonneg_right
abbrev Qb0:=@Bool.or_false
abbrev Qb1:=@List.all_cons
abbrev Qb2:=@List.sum_cons
abbrev Qb3:=@List.mem_append_left
abbrev Qb4:=@Nat.one_mul
abbrev Qb5:=@List.length_set
abbrev Qb6:=@List.mem_zipIdx_iff_getElem?
abbrev Qb7:=@Prod.ext
abbrev Qb8:=@Rat.intCast_neg_iff
abbrev Qb9:=@List.filterMap_cons
abbrev Qca:=@Int.mul_pos
abbrev Qcb:=@List.getD_eq_getElem?_getD
abbrev Qcc:=@Array.getElem?_map
abbrev Qcd:=@List.drop_eq_getElem_cons
abbrev Qce:=@Int.mul_neg_of_pos_of_neg
abbrev Qcf:=@List.getElem?_zip_eq_some
abbrev Qcg:=@Int.natCast_one
abbrev Qch:=@Rat.intCast_sub
abbrev Qci:=@List.pairwise_append
abbrev Qcj:=@Nat.zero_le
abbrev Qck:=@List.getElem?_of_mem
abbrev Qcl:=@List.size_toArray
abbrev Qcm:=@List.getElem?_set
abbrev Qcn:=@Option.isSome_iff_exists
abbrev Qco:=@List.eq_of_mem_replicate
abbrev Qcp:=@List.replicate_succ
abbrev Qcq:=@List.take_zero
abbrev Qcr:=@List.not_mem_nil
abbrev Qcs:=@List.getElem?_cons_succ
abbrev Qct:=@List.filter_cons_of_pos
abbrev Qcu:=@List.mem_flatten
abbrev Qcv:=@Nat.le_trans
abbrev Qcw:=@Nat.testBit_lt_two_pow
abbrev Qcx:=@Array.empty_append
abbrev Qcy:=@Rat.intCast_add
abbrev Qcz:=@List.take_append_drop
abbrev Qc0:=@List.mem_append_right
abbrev Qc1:=@List.filter_congr
abbrev Qc2:=@List.ext_getElem?
abbrev Qc3:=@Bool.and_assoc
abbrev Qc4:=@Nat.pow_le_pow_right
abbrev Qc5:=@List.range_eq_range'
abbrev Qc6:=@List.mem_flatMap
abbrev Qc7:=@List.reverse_nil
abbrev Qc8:=@Nat.mod_eq_of_lt
abbrev Qc9:=@List.getElem_of_mem
abbrev Qda:=@Bool.and_self
abbrev Qdb:=@Int.lt_tmod_of_pos
abbrev Qdc:=@Int.tmod_lt_of_pos
abbrev Qdd:=@Int.emod_lt_of_pos
abbrev Qde:=@Int.sub_eq_add_neg
abbrev Qdf:=@List.append_of_mem
abbrev Qdg:=@Array.append_empty
abbrev Qdh:=@Nat.add_zero
abbrev Qdi:=@List.any_nil
abbrev Qdj:=@Int.lt_trichotomy
abbrev Qdk:=@List.getElem_mem
abbrev Qdl:=@List.mapM_nil
abbrev Qdm:=@Int.le_refl
abbrev Qdn:=@Int.emod_nonneg
abbrev Qdo:=@Rat.intCast_pos
abbrev Qdp:=@List.drop_zero
abbrev Qdq:=@Nat.mul_le_mul
abbrev Qdr:=@Nat.mod_lt
abbrev Qds:=@Rat.inv_pos
end Go
namespace Go.Zv

/-! Values -/
inductive LV where
 | any
 | undef
 | int (k : IntKind) (n : Int)
 | bool (b : Bool)
 | str (s : List UInt8)
 | agg (cs : List LV)
 | tup (vs : List LV)
 | vs (xs : List (List LV))
 | os (st : Nat) (xs : List (List LV))
 | nils (st : Nat)
 | nul
 | emp
 | bs (id off len : Nat)
 | bb (id off st len : Nat)
 | ptr (id off : Nat)
 | ep (id i off : Nat)
 | fp (cs : List LV)
 | nilp
 | fn (f : Fn) (first cap : List LV)
 | nilf
 | mp (id : Nat)
 | om (es : List (LV × LV))
 | nilm
 | yl (id : Nat)
 deriving Inhabited

abbrev Env:=List (Nat × LV)

def tget : Env → Nat → LV
 | [],_=>.any
 | (k,v)::r,n=>if k = n then v else tget r n

inductive Opd where
 | t (n : Nat)
 | c (v : LV)
 | fu (n : FuncId)
 deriving Inhabited

inductive AOp where
 | mv (x : Opd)
 | as (x : Opd)
 | pick (c a b : Opd)
 | alloc (z : List LV)
 | box (x : Opd)
 | build (z : List LV) (ps : List (Nat × Nat × Opd))
 | bsl (st n : Nat) (z : List LV) (ps : List (Nat × Opd))
 | load (ag : Bool) (n : Nat) (x : Opd)
 | store (n : Nat) (x v : Opd)
 | nilc (x : Opd)
 | bin (op : BinOp) (x y : Opd)
 | bib (neg : Bool) (x y : Opd)
 | eqa (neg : Bool) (ks : List Nat) (x y : Opd)
 | un (op : UnOp) (x : Opd)
 | conv (k : IntKind) (x : Opd)
 | b2s (x : Opd)
 | mkf (f : Fn) (first cap : List Opd)
 | mkm
 | mks (st : Nat) (z : List LV) (len cap : Opd)
 | sls (st : Nat) (x : Opd) (lo hi : Option Opd)
 | slt (x : Opd) (lo hi : Option Opd)
 | sla (n st : Nat) (x : Opd) (lo hi : Option Opd)
 | fad (off : Nat) (x : Opd)
 | fld (ag : Bool) (off n : Nat) (x : Opd)
 | ias (st : Nat) (x i : Opd)
 | iaa (len st : Nat) (x i : Opd)
 | ixa (ag : Bool) (len st : Nat) (x i : Opd)
 | ixt (x i : Opd)
 | lkp (ks : List Nat) (z : LV) (ok : Bool) (x k : Opd)
 | mpu (ks : List Nat) (x k v : Opd)
 | zc (st : Nat) (x : Opd)
 | capn (x : Opd)
 | isn (neg : Bool) (x : Opd)
 | bad
 | ext (x : Opd) (i : Nat)
 | call (f : FuncId) (args : List Opd)
 | cal (f : Opd) (args : List Opd)
 | len (k : Nat) (x : Opd)
 | lena (n : Nat)
 | app (st : Nat) (s x : Opd)
 | apz (st : Nat) (z : List LV) (s n : Opd)
 | cpy (st : Nat) (s x : Opd)
 | mn (xs : List Opd)
 | mx (xs : List Opd)
 deriving Inhabited

structure AOper where
 dst : Option Nat
 op : AOp
 grd : Option (Nat × Bool)
 fz : Bool:=true
 deriving Inhabited
@[reducible] def LV.z (n : Int) : LV := .int .i64 n
@[reducible] def s_ (d : Nat) (o : AOp) : AOper:=⟨some d,o,none,true⟩
@[reducible] def n_ (o : AOp) : AOper:=⟨none,o,none,true⟩
@[reducible] def t_ (d g : Nat) (o : AOp) : AOper := ⟨some d, o, some (g, true), true⟩
@[reducible] def f_ (d g : Nat) (o : AOp) : AOper := ⟨some d, o, some (g, false), true⟩
@[reducible] def i0_ : LV:=.int .i64 0
@[reducible] def m_ (d t : Nat) : AOper:=⟨some d,.mv (.t t),none,true⟩
@[reducible] def b_ (d : Nat) (o : BinOp) (t u : Nat) : AOper:=⟨some d,.bin o (.t t) (.t u),none,true⟩
@[reducible] def l_ (d : Nat) (a : Bool) (n t : Nat) : AOper:=⟨some d,.load a n (.t t),none,true⟩
inductive Chk where
 | free
 | dr (un qs : List Nat)
 | loc
 | alt (w : List Nat) (ps : List (List Nat))
 | lit (w b t : List Nat)
 deriving Inhabited

inductive ACode where
 | skip
 | reg (q : Option (List Chk)) (ops : List AOper) (mask : Option (List Nat)) (drop : List Nat)
 | seq (a b : ACode)
 | cond (c : Opd) (a b : ACode)
 | block (id : Nat) (b : ACode) (mask : Option (List Nat)) (drop : List Nat)
 | loop (b : ACode) (mask : Option (List Nat)) (drop : List Nat)
 | rf (rid : Nat) (f : Opd) (ps : List Nat) (asg body : ACode)
 | exit (id : Nat)
 | scope (b : ACode)
 | ret
 | bad
 deriving Inhabited

@[reducible] def r_ (l : List AOper) (m d : List Nat) : ACode:=.reg none l (some m) d
inductive LSt where | ready | busy | done deriving DecidableEq,Inhabited
inductive AEx where | nrm | exit (id : Nat) | ret deriving DecidableEq,Inhabited

inductive Obj where
 | box (cs : List LV)
 | row (st : Nat) (xs : List (List LV))
 | map (es : List (LV × LV))
 | loop (T : Env) (ps : List Nat) (asg body : ACode) (st : LSt) (pend : AEx)
 deriving Inhabited

abbrev Heap:=List (Nat × Obj)

structure St where
 T : Env
 F : List Env
 O : Heap
 lvl : Nat
 deriving Inhabited

def oget : Heap → Nat → Option Obj
 | [],_=>none
 | (k,v)::r,n=>if k = n then some v else oget r n
def oset : Heap → Nat → Obj → Heap
 | [],_,_=>[]
 | (k,v)::r,n,o=>if k = n then (k,o)::r else (k,v)::oset r n o
def odel : Heap → Nat → Heap
 | [],_=>[]
 | (k,v)::r,n=>if k = n then odel r n else (k,v)::odel r n

/-! Replacing the references to one object -/
inductive Rep where
 | kill
 | frz (xs : List (List LV))

def fpAt (off : Nat) : Option (List LV) → LV
 | some x=>.fp (x.drop off)
 | none=>.any
def Rep.bs : Rep → Nat → Nat → LV
 | .kill,_,_=>.any
 | .frz xs,off,len=>if off + len≤xs.length then .vs ((xs.drop off).take len) else .any
def Rep.ep : Rep → Nat → Nat → LV
 | .kill,_,_=>.any
 | .frz xs,i,off=>fpAt off xs[i]?

mutual
def LV.sub (r : Rep) (id : Nat) : LV → LV
 | .agg cs=>.agg (LV.subs r id cs)
 | .tup cs=>.tup (LV.subs r id cs)
 | .fn f a b=>.fn f (LV.subs r id a) (LV.subs r id b)
 | .bs i off len=>if i = id then r.bs off len else .bs i off len
 | .bb i off st len=>if i = id then .any else .bb i off st len
 | .ptr i off=>if i = id then .any else .ptr i off
 | .ep i j off=>if i = id then r.ep j off else .ep i j off
 | .mp i=>if i = id then .any else .mp i
 | .yl i=>if i = id then .any else .yl i
 | .any=>.any
 | .undef=>.undef
 | .int k n=>.int k n
 | .bool b=>.bool b
 | .str s=>.str s
 | .vs xs=>.vs xs
 | .os st xs=>.os st xs
 | .nils st=>.nils st
 | .nul=>.nul
 | .emp=>.emp
 | .fp cs=>.fp cs
 | .nilp=>.nilp
 | .nilf=>.nilf
 | .om es=>.om es
 | .nilm=>.nilm
def LV.subs (r : Rep) (id : Nat) : List LV → List LV
 | []=>[]
 | v::l=>LV.sub r id v::LV.subs r id l
end

def Env.sub (r : Rep) (id : Nat) : Env → Env
 | []=>[]
 | (k,v)::l=>(k,LV.sub r id v)::Env.sub r id l
def Envs.sub (r : Rep) (id : Nat) : List Env → List Env
 | []=>[]
 | v::l=>Env.sub r id v::Envs.sub r id l
def Obj.sub (r : Rep) (id : Nat) : Obj → Obj
 | .box cs=>.box (LV.subs r id cs)
 | .loop T ps a b st p=>.loop (Env.sub r id T) ps a b st p
 | .row st xs=>.row st xs
 | .map es=>.map es
def Heap.sub (r : Rep) (id : Nat) : Heap → Heap
 | []=>[]
 | (k,v)::l=>(k,Obj.sub r id v)::Heap.sub r id l
def St.sub (r : Rep) (id : Nat) (s : St) : St :=
 { s with T:=Env.sub r id s.T,F:=Envs.sub r id s.F,O:=Heap.sub r id s.O }
def repOf : Obj → Rep
 | .row _ xs=>.frz xs
 | .box _=>.kill
 | .map _=>.kill
 | .loop .. => .kill
def freeO (id : Nat) (s : St) : Option Obj → St
 | none=>s
 | some o=>St.sub (repOf o) id { s with O:=odel s.O id }
def St.free (id : Nat) (s : St) : St:=freeO id s (oget s.O id)
def St.frees : List Nat → St → St
 | [],s=>s
 | i::l,s=>St.frees l (St.free i s)
def St.push (id : Nat) (o : Obj) (s : St) : St:={ s with O:=(id,o)::s.O }
def St.new (id : Nat) (o : Obj) (s : St) : St:=St.push id o (St.free id s)

def oid (lvl d : Nat) : Nat:=lvl * 1048576 + d * 256

def consC (v : LV) (r : List LV × St) : List LV × St:=(v::r.1,r.2)
def isNils : LV → Bool
 | .nils _=>true
 | _=>false
def nilSt : LV → Nat
 | .nils st=>st
 | _=>0
mutual
def LV.apart (id : Nat) : LV → Bool
 | .agg cs=>LV.aparts id cs
 | .tup cs=>LV.aparts id cs
 | .fn _ a b=>LV.aparts id a && LV.aparts id b
 | .bs i _ _=>i != id
 | .bb i _ _ _=>i != id
 | .ptr i _=>i != id
 | .ep i _ _=>i != id
 | .mp i=>i != id
 | .yl i=>i != id
 | .any | .undef | .int .. | .bool _ | .str _ | .vs _ | .os .. | .nils _ | .nul | .emp | .fp _ | .nilp | .nilf | .om _ | .nilm=>true
def LV.aparts (id : Nat) : List LV → Bool
 | []=>true
 | v::l=>LV.apart id v && LV.aparts id l
end
def rowsOf (all : List LV) : Nat → List LV → St → Option (List LV × St)
 | _,[],s=>some ([],s)
 | id,v::l,s=>if isNils v = true then (if LV.aparts id all = true then (rowsOf all (id + 1) l (St.new id (.row (nilSt v) []) s)).map (consC (.bs id 0 0)) else none) else (rowsOf all (id + 1) l s).map (consC v)

def LV.cells : LV → List LV
 | .agg cs=>cs
 | v=>[v]

def LV.one : LV → Bool
 | .any | .undef | .agg _ | .tup _ | .os .. | .om _=>false
 | .int .. | .bool _ | .str _ | .vs _ | .nils _ | .nul | .emp | .bs .. | .bb .. | .ptr .. | .ep .. | .fp _ | .nilp | .fn .. | .nilf | .mp _ | .nilm | .yl _=>true

mutual
def LV.closed : LV → Bool
 | .agg cs=>LV.closeds cs
 | .tup cs=>LV.closeds cs
 | .fn _ a b=>LV.closeds a && LV.closeds b
 | .bs .. | .bb .. | .ptr .. | .ep .. | .mp .. | .yl .. | .nils _ | .os .. | .om .. => false
 | .any | .undef | .int .. | .bool _ | .str _ | .vs _ | .nul | .emp | .fp _ | .nilp | .nilf | .nilm=>true
def LV.closeds : List LV → Bool
 | []=>true
 | v::l=>LV.closed v && LV.closeds l
end

def chunk (st : Nat) : Nat → List LV → List (List LV)
 | 0,_=>[]
 | n + 1,cs=>cs.take st::chunk st n (cs.drop st)

def rowElems (off len : Nat) : Option Obj → Option (List (List LV))
 | some (.row _ xs)=>if off + len≤xs.length then some ((xs.drop off).take len) else none
 | _=>none
def boxElemsC (off st len : Nat) : Option Obj → Option (List (List LV))
 | some (.box cs)=>if LV.closeds cs = true∧off + len * st≤cs.length then some (chunk st len (cs.drop off)) else none
 | _=>none
def u8 (b : UInt8) : LV:=.int .u8 b.toNat
def u8s (l : List UInt8) : List (List LV):=l.map fun b=>[u8 b]
def elems (O : Heap) : LV → Option (List (List LV))
 | .vs xs=>some xs
 | .nils _=>some []
 | .nul=>some []
 | .emp=>some []
 | .bs id off len=>rowElems off len (oget O id)
 | .bb id off st len=>boxElemsC off st len (oget O id)
 | .str l=>some (u8s l)
 | _=>none

def vsK (v : LV) : Option (List (List LV)) → LV
 | some xs=>.vs xs
 | none=>v
mutual
def LV.cl (O : Heap) : LV → LV
 | .agg cs=>.agg (LV.cls O cs)
 | .tup cs=>.tup (LV.cls O cs)
 | .fn f a b=>.fn f (LV.cls O a) (LV.cls O b)
 | .nils _=>.vs []
 | .bs id off len=>vsK (.bs id off len) (rowElems off len (oget O id))
 | .bb id off st len=>vsK (.bb id off st len) (boxElemsC off st len (oget O id))
 | .ptr id off=>.ptr id off
 | .ep id i off=>.ep id i off
 | .mp id=>.mp id
 | .yl id=>.yl id
 | .any=>.any
 | .undef=>.undef
 | .int k n=>.int k n
 | .bool b=>.bool b
 | .str s=>.str s
 | .vs xs=>.vs xs
 | .os st xs=>.os st xs
 | .nul=>.nul
 | .emp=>.emp
 | .fp cs=>.fp cs
 | .nilp=>.nilp
 | .nilf=>.nilf
 | .om es=>.om es
 | .nilm=>.nilm
def LV.cls (O : Heap) : List LV → List LV
 | []=>[]
 | v::l=>LV.cl O v::LV.cls O l
end
mutual
def LV.ids : LV → List Nat
 | .agg cs=>LV.idss cs
 | .tup cs=>LV.idss cs
 | .fn _ a b=>LV.idss a++LV.idss b
 | .bs id _ _=>[id]
 | .bb id _ _ _=>[id]
 | .nils _ | .ptr .. | .ep .. | .mp _ | .yl _ | .any | .undef | .int .. | .bool _ | .str _ | .vs _ | .os .. | .nul | .emp | .fp _ | .nilp | .nilf | .om _ | .nilm=>[]
def LV.idss : List LV → List Nat
 | []=>[]
 | v::l=>LV.ids v++LV.idss l
end

def expBs (O : Heap) (id off len : Nat) : Option Obj → LV × Heap
 | some (.row st xs)=>if off + len≤xs.length then (if off = 0 then .os st (xs.take len) else .vs ((xs.drop off).take len),odel O id) else (.bs id off len,O)
 | _=>(.bs id off len,O)
def expMp (O : Heap) (id : Nat) : Option Obj → LV × Heap
 | some (.map es)=>(.om es,odel O id)
 | _=>(.mp id,O)
def delIds : List Nat → Heap → Heap
 | [],O=>O
 | i::l,O=>delIds l (odel O i)
def fpK (v : LV) (off : Nat) : Option Obj → LV
 | some (.box xs)=>if LV.closeds xs = true then .fp (xs.drop off) else v
 | _=>v
def expP (O : Heap) : LV → LV
 | .ptr id off=>fpK (.ptr id off) off (oget O id)
 | v=>LV.cl O v
def expPs (O : Heap) : List LV → List LV
 | []=>[]
 | v::l=>expP O v::expPs O l
def LV.idP : LV → List Nat
 | .ptr id _=>[id]
 | v=>LV.ids v
def LV.idPs : List LV → List Nat
 | []=>[]
 | v::l=>LV.idP v++LV.idPs l
def export1 (O : Heap) : LV → LV × Heap
 | .nils st=>(.os st [],O)
 | .bs id off len=>expBs O id off len (oget O id)
 | .mp id=>expMp O id (oget O id)
 | .fn f a b=>(.fn f (LV.cls O a) (expPs O b),delIds (LV.idss a++LV.idPs b) O)
 | v=>(LV.cl O v,delIds (LV.ids v) O)
def exportsK (k : Heap → List LV) (r : LV × Heap) : List LV:=r.1::k r.2
def exports : List LV → Heap → List LV
 | [],_=>[]
 | v::l,O=>exportsK (exports l) (export1 O v)
def LV.closedC : LV → Bool
 | .os .. | .om _=>true
 | .tup _=>false
 | v=>LV.closed v
def LV.closedRs : List LV → Bool
 | []=>true
 | v::l=>LV.closedC v && LV.closedRs l
def LV.closedR : LV → Bool
 | .tup cs=>LV.closedRs cs
 | v=>LV.closedC v
def exportR (O : Heap) : LV → LV
 | .tup vs=>.tup (exports vs O)
 | v=>(export1 O v).1
def chkR (r : LV) : Option LV:=if LV.closedR r = true then some r else none
def exportV (O : Heap) (v : LV) : Option LV:=chkR (exportR O v)

def import1 (id : Nat) (s : St) : LV → LV × St
 | .os st xs=>(.bs id 0 xs.length,St.new id (.row st xs) s)
 | .om es=>(.mp id,St.new id (.map es) s)
 | v=>(v,s)
def importsK (k : St → List LV × St) (r : LV × St) : List LV × St:=consC r.1 (k r.2)
def imports : Nat → List LV → St → List LV × St
 | _,[],s=>([],s)
 | id,v::l,s=>importsK (imports (id + 1) l) (import1 id s v)
def tupK (r : List LV × St) : LV × St:=(.tup r.1,r.2)
def import_ (id : Nat) (s : St) : LV → LV × St
 | .tup vs=>tupK (imports id vs s)
 | v=>import1 id s v

def LV.scal : LV → Bool
 | .int .. | .bool _ | .str _=>true
 | _=>false
mutual
def LV.noVs : LV → Bool
 | .vs xs=>xs.isEmpty
 | .fp _=>false
 | .agg cs=>LV.noVss cs
 | .tup cs=>LV.noVss cs
 | .fn _ a b=>LV.noVss a && LV.noVss b
 | .om _=>false
 | .os _ xs=>xs.all fun x=>x.all LV.scal
 | .nils _ | .bs .. | .bb .. | .ptr .. | .ep .. | .mp _ | .yl _ | .any=>false
 | .undef | .int .. | .bool _ | .str _ | .nul | .emp | .nilp | .nilf | .nilm=>true
def LV.noVss : List LV → Bool
 | []=>true
 | v::l=>LV.noVs v && LV.noVss l
end

inductive Task where
 | code (c : ACode) (s : St)
 | fn (f : FuncId) (args : List LV) (lvl : Nat) (F : List Env) (O : Heap)
 | rnd (id : Nat) (args : List LV) (lvl : Nat) (F : List Env) (O : Heap)
inductive Out where
 | ex (e : AEx) (s : St)
 | res (v : LV) (F : List Env) (O : Heap)

inductive ARes where
 | t (n : Nat)
 | cell (ag : Bool) (n : Nat) (a : Nat)
inductive AFn where
 | code (res : List ARes) (body : ACode)
 | two (res : List ARes) (body : ACode)

abbrev Orc:=Task → Option Out

def Opd.ev (T : Env) : Opd → LV
 | .t n=>tget T n
 | .c v=>v
 | .fu f=>.fn (.func f) [] []
def evs (T : Env) : List Opd → List LV
 | []=>[]
 | x::l=>x.ev T::evs T l

def bits (k : IntKind) (x : Int) : BitVec k.bits:=BitVec.ofInt k.bits x
def binI (op : BinOp) (k : IntKind) (x y : Int) : Option LV :=
 match op with
 | .add=>some (.int k (k.wrap (x + y)))
 | .sub=>some (.int k (k.wrap (x - y)))
 | .mul=>some (.int k (k.wrap (x * y)))
 | .quo=>if y = 0 then none else some (.int k (k.wrap (x.tdiv y)))
 | .rem=>if y = 0 then none else some (.int k (x.tmod y))
 | .and=>some (.int k (k.wrap (bits k x &&& bits k y).toNat))
 | .or=>some (.int k (k.wrap (bits k x ||| bits k y).toNat))
 | .xor=>some (.int k (k.wrap (bits k x ^^^ bits k y).toNat))
 | .andNot=>some (.int k (k.wrap (bits k x &&& ~~~(bits k y)).toNat))
 | .eql=>some (.bool (x == y))
 | .neq=>some (.bool (x != y))
 | .lss=>some (.bool (decide (x < y)))
 | .leq=>some (.bool (decide (x≤y)))
 | .gtr=>some (.bool (decide (x > y)))
 | .geq=>some (.bool (decide (x ≥ y)))
 | .shl | .shr=>none
def shf (op : BinOp) (k : IntKind) (x y : Int) : Option LV :=
 if y < 0 then none else
 match op with
 | .shl=>some (.int k (k.wrap (x * 2 ^ (min y.toNat k.bits))))
 | .shr=>some (.int k (x.fdiv (2 ^ (min y.toNat k.bits))))
 | _=>none
def bibV (neg : Bool) : LV → LV → Option LV
 | .bool a,.bool b=>some (.bool ((a == b) != neg))
 | _,_=>none
def binT (op : BinOp) (a b : List UInt8) : Option LV:=match op with
 | .eql=>some (.bool (a == b))
 | .neq=>some (.bool (a != b))
 | .add=>if a.length + b.length≤1000000000 then some (.str (a++b)) else none
 | _=>none
def isShf : BinOp → Bool
 | .shl | .shr=>true
 | _=>false
def bin (op : BinOp) : LV → LV → Option LV
 | .int k x,.int k' y=>if isShf op = true then shf op k x y else if k = k' then binI op k x y else none
 | .str a,.str b=>binT op a b
 | _,_=>none
def eq1 : Nat → LV → LV → Option Bool
 | 0,.int k x,.int k' y=>if k = k' then some (x == y) else none
 | 1,.bool a,.bool b=>some (a == b)
 | 2,.str a,.str b=>some (a == b)
 | _,_,_=>none
def andK (k : Option Bool) (a : Bool) : Option Bool:=k.map (a && ·)
def eqs : List Nat → List LV → List LV → Option Bool
 | [],[],[]=>some true
 | t::ts,x::l,y::m=>(eq1 t x y).bind (andK (eqs ts l m))
 | _,_,_=>none

def setAt (cs : List LV) (off : Nat) (vs : List LV) : List LV:=cs.take off++(vs++cs.drop (off + vs.length))

def fillK (k : List LV → Option (List LV)) (cs : List LV) (off n : Nat) (v : List LV) : Option (List LV) :=
 if v.length = n∧off + n≤cs.length∧v.all LV.one = true then k (setAt cs off v) else none
def fill (T : Env) : List (Nat × Nat × Opd) → List LV → Option (List LV)
 | [],cs=>some cs
 | (off,n,x)::l,cs=>fillK (fill T l) cs off n (x.ev T).cells
def fillSK (k : List (List LV) → Option (List (List LV))) (st : Nat) (xs : List (List LV)) (i : Nat) (v : List LV) : Option (List (List LV)) :=
 if v.length = st∧i < xs.length∧v.all LV.one = true then k (xs.set i v) else none
def fillS (st : Nat) (T : Env) : List (Nat × Opd) → List (List LV) → Option (List (List LV))
 | [],xs=>some xs
 | (i,x)::l,xs=>fillSK (fillS st T l) st xs i (x.ev T).cells

def closedK (s : St) (ids : List Nat) (cs : List LV) : Option (List LV × St) :=
 if LV.closeds cs = true∧cs.all LV.one = true then some (cs,St.frees ids s) else none
def closeCells (s : St) (cs : List LV) : Option (List LV × St):=closedK s (LV.idss cs) (LV.cls s.O cs)
def rowsK1 (y : List LV) (r : List (List LV) × St) : Option (List (List LV) × St):=some (y::r.1,r.2)
def rowsK (k : St → Option (List (List LV) × St)) (r : List LV × St) : Option (List (List LV) × St):=(k r.2).bind (rowsK1 r.1)
def closeRows : List (List LV) → St → Option (List (List LV) × St)
 | [],s=>some ([],s)
 | x::l,s=>(closeCells s x).bind (rowsK (closeRows l))

def part (ag : Bool) (off n : Nat) (cs : List LV) : Option LV :=
 if ag = true then (if off + n≤cs.length then some (.agg ((cs.drop off).take n)) else none) else cs[off]?
def boxPart (ag : Bool) (off n : Nat) : Option Obj → Option LV
 | some (.box cs)=>part ag off n cs
 | _=>none
def optPart (ag : Bool) (off n : Nat) : Option (List LV) → Option LV
 | some x=>part ag off n x
 | none=>none
def rowPart (ag : Bool) (i off n : Nat) : Option Obj → Option LV
 | some (.row _ xs)=>optPart ag off n xs[i]?
 | _=>none
def rd (O : Heap) (ag : Bool) (n : Nat) : LV → Option LV
 | .ptr id off=>boxPart ag off n (oget O id)
 | .ep id i off=>rowPart ag i off n (oget O id)
 | .fp cs=>part ag 0 n cs
 | _=>none

def setBox (id off : Nat) (s : St) (cs : List LV) : Option Obj → Option St
 | some (.box bs)=>if off + cs.length≤bs.length then some { s with O:=oset s.O id (.box (setAt bs off cs)) } else none
 | _=>none
def wrBox (id off : Nat) (r : List LV × St) : Option St:=setBox id off r.2 r.1 (oget r.2.O id)
def setElt (id st i off : Nat) (s : St) (xs : List (List LV)) (cs : List LV) : Option (List LV) → Option St
 | some y=>if off + cs.length≤y.length then some { s with O:=oset s.O id (.row st (xs.set i (setAt y off cs))) } else none
 | none=>none
def setRow (id i off : Nat) (s : St) (cs : List LV) : Option Obj → Option St
 | some (.row st xs)=>setElt id st i off s xs cs xs[i]?
 | _=>none
def wrRow (id i off : Nat) (r : List LV × St) : Option St:=setRow id i off r.2 r.1 (oget r.2.O id)
def wrAt (s : St) (cs : List LV) : LV → Option St
 | .ptr id off=>(rowsOf cs (id + 1 + off) cs s).bind (wrBox id off)
 | .ep id i off=>(closeCells s cs).bind (wrRow id i off)
 | _=>none
def wr (s : St) (n : Nat) (x : LV) (cs : List LV) : Option St :=
 if cs.length = n∧cs.all LV.one = true then wrAt s cs x else none

def bndV (lim : Nat) : LV → Option Nat
 | .int _ n=>if 0≤n∧n≤lim then some n.toNat else none
 | _=>none
def bnd (T : Env) (dflt lim : Nat) : Option Opd → Option Nat
 | none=>some dflt
 | some x=>bndV lim (x.ev T)
def lookK (v : LV) (k : Option (Option LV)) (b : Bool) : Option (Option LV):=k.bind fun r=>if b = true then some (some v) else some r
def isAg : LV → Bool
 | .agg _=>true
 | _=>false
def eqKey (ks : List Nat) (k a : LV) : Option Bool:=match ks with
 | t::ts=>if isAg k = (t == 1)∧isAg a = (t == 1) then eqs ts k.cells a.cells else none
 | []=>none
def lookupE (ks : List Nat) (k : LV) : List (LV × LV) → Option (Option LV)
 | []=>some none
 | (a,v)::l=>(eqKey ks k a).bind (lookK v (lookupE ks k l))
def consE (a w : LV) (m : List (LV × LV)) : Option (List (LV × LV)):=some ((a,w)::m)
def updK (k v a w : LV) (l : List (LV × LV)) (r : Option (List (LV × LV))) (b : Bool) : Option (List (LV × LV)) :=
 r.bind fun m=>if b = true then some ((k,v)::l) else consE a w m
def updE (ks : List Nat) (k v : LV) : List (LV × LV) → Option (List (LV × LV))
 | []=>some [(k,v)]
 | (a,w)::l=>(eqKey ks k a).bind (updK k v a w l (updE ks k v l))

def fold2 (f : Int → Int → Int) : LV → List LV → Option LV
 | v,[]=>some v
 | .int k a,.int k' b::l=>if k = k' then fold2 f (.int k (f a b)) l else none
 | _,_=>none

def lenMp : Option Obj → Option Int
 | some (.map es)=>some es.length
 | _=>none
def lenOf (O : Heap) : Nat → LV → Option Int
 | 1,.str s=>some s.length
 | 0,.vs xs=>some xs.length
 | 0,.nils _=>some 0
 | 0,.nul=>some 0
 | 0,.emp=>some 0
 | 0,.bs _ _ len=>some len
 | 0,.bb _ _ _ len=>some len
 | 2,.mp id=>lenMp (oget O id)
 | 2,.nilm=>some 0
 | _,_=>none

def idsFrom (lvl : Nat) : Heap → List Nat
 | []=>[]
 | (k,_)::l=>if lvl * 1048576≤k then k::idsFrom lvl l else idsFrom lvl l

def numArgs : Nat → List LV → Env
 | _,[]=>[]
 | i,v::l=>(i,v)::numArgs (i + 1) l

def resK : Out → Option LV
 | .res v _ O=>exportV O v
 | _=>none
def pureCall (R : Orc) (f : FuncId) (args : List LV) : Option LV:=(R (.fn f args 0 [] [])).bind resK

def afterPure (_fz : Bool) (id : Nat) (ids : List Nat) (s : St) (r : LV) : Option (LV × St) :=
 if (ids.isEmpty || LV.noVs r) = true then some (import_ id s r) else some (import_ id (St.frees ids s) r)
def popK (s : St) : Option (LV × St):=match s.F with
 | V::F=>some (tget V 0,{ s with F:=F })
 | []=>none
def afterIn (lvl : Nat) : Out → Option (LV × St)
 | .res v (T::F) O=>popK (St.frees (idsFrom (lvl + 1) O) { T,F:=[(0,v)]::F,O,lvl })
 | _=>none
def callClosed (R : Orc) (fz : Bool) (id : Nat) (f : FuncId) (args : List LV) (s : St) (c : List LV) : Option (LV × St) :=
 if LV.closeds c = true then (pureCall R f c).bind (afterPure fz id (LV.idss args) s)
 else (R (.fn f args (s.lvl + 1) (s.T::s.F) s.O)).bind (afterIn s.lvl)
def callFn (R : Orc) (fz : Bool) (id : Nat) (f : FuncId) (args : List LV) (s : St) : Option (LV × St) :=
 callClosed R fz id f args s (LV.cls s.O args)

def callV (R : Orc) (fz : Bool) (id : Nat) (f : LV) (args : List LV) (s : St) : Option (LV × St) :=
 match f with
 | .fn (.func f) first cap=>callFn R fz id f (first++(args++cap)) s
 | .yl l=>(R (.rnd l args (s.lvl + 1) (s.T::s.F) s.O)).bind (afterIn s.lvl)
 | _=>none

def ok1 (s : St) (v : LV) : Option (LV × St):=some (v,s)
def okU (s : St) : Option (LV × St):=some (.undef,s)

def asV (id : Nat) (s : St) (v : LV) : Option (LV × St) :=
 if isNils v = true then some (.bs id 0 0,St.new id (.row (nilSt v) []) s) else some (v,s)
def pickV (a b : LV) : LV → Option LV
 | .bool t=>some (if t = true then a else b)
 | _=>none
def boxK (id : Nat) (r : List LV × St) : Option (LV × St):=if LV.aparts id r.1 = true then some (.ptr id 0,St.new id (.box r.1) r.2) else none
def boxV (id : Nat) (z : List LV) (s : St) : Option (LV × St) :=
 if z.all LV.one = true then (rowsOf z (id + 1) z s).bind (boxK id) else none
def aggK (cs : List LV) : Option LV:=some (.agg cs)
def rowK (id st n : Nat) (r : List (List LV) × St) : Option (LV × St):=some (.bs id 0 n,St.new id (.row st r.1) r.2)
def bslB (id st n : Nat) (s : St) (cs : List LV) : Option (LV × St):=if (cs.all LV.one && LV.aparts id cs) = true then some (.bb id 0 st n,St.new id (.box cs) s) else none
def bslJ (id st n : Nat) (s : St) (xs : List (List LV)) : Option (List (List LV) × St) → Option (LV × St)
 | some r=>rowK id st n r
 | none=>bslB id st n s xs.flatten
def bslK (id st n : Nat) (s : St) (xs : List (List LV)) : Option (LV × St):=bslJ id st n s xs (closeRows xs s)
def nilcV : LV → Option LV
 | .ptr i o=>some (.ptr i o)
 | .ep i j o=>some (.ep i j o)
 | .fp cs=>some (.fp cs)
 | .fn (.func f) a b=>some (.fn (.func f) a b)
 | _=>none
def eqaK (neg : Bool) (b : Bool) : Option LV:=some (.bool (b != neg))
def eqaV (neg : Bool) (ks : List Nat) : LV → LV → Option LV
 | .agg a,.agg b=>(eqs ks a b).bind (eqaK neg)
 | _,_=>none
def unV : UnOp → LV → Option LV
 | .neg,.int k n=>some (.int k (k.wrap (0 - n)))
 | .not,.bool b=>some (.bool (!b))
 | _,_=>none
def convV (k : IntKind) : LV → Option LV
 | .int _ n=>some (.int k (k.wrap n))
 | _=>none
def byte1 : List LV → Option UInt8
 | [.int .u8 n]=>some (UInt8.ofNat n.toNat)
 | _=>none
def bytesK (b : UInt8) (l : List UInt8) : Option (List UInt8):=some (b::l)
def bytesK2 (k : Option (List UInt8)) (b : UInt8) : Option (List UInt8):=k.bind (bytesK b)
def bytesOf : List (List LV) → Option (List UInt8)
 | []=>some []
 | x::l=>(byte1 x).bind (bytesK2 (bytesOf l))
def strK (l : List UInt8) : Option LV:=some (.str l)
def b2sK (xs : List (List LV)) : Option LV:=(bytesOf xs).bind strK
def mksV (id : Nat) (z : List LV) (s : St) : LV → LV → Option (LV × St)
 | .int _ n,.int _ m=>if 0≤n∧n≤m∧m≤1000000000∧LV.closeds (LV.cls [] z) = true then
   some (.bs id 0 n.toNat,St.new id (.row z.length (List.replicate n.toNat (LV.cls [] z))) s) else none
 | _,_=>none
def cutK2 (f : Nat → Nat → LV) (h l : Nat) : Option LV:=some (f h l)
def cutK (T : Env) (lo : Option Opd) (f : Nat → Nat → LV) (h : Nat) : Option LV:=(bnd T 0 h lo).bind (cutK2 f h)
def cut (T : Env) (n : Nat) (lo hi : Option Opd) (f : Nat → Nat → LV) : Option LV:=(bnd T n n hi).bind (cutK T lo f)
def cutVs (xs : List (List LV)) (h l : Nat) : LV:=.vs ((xs.take h).drop l)
def cutBs (id off : Nat) (h l : Nat) : LV:=.bs id (off + l) (h - l)
def cutNil (st : Nat) (_ _ : Nat) : LV:=.nils st
def cutStr (xs : List UInt8) (h l : Nat) : LV:=.str ((xs.take h).drop l)
def cutBb (id off st : Nat) (h l : Nat) : LV:=.bb id (off + l * st) st (h - l)
def cutFp (st : Nat) (cs : List LV) (h l : Nat) : LV:=.vs (chunk st (h - l) (cs.drop (l * st)))
def allLen (st : Nat) (xs : List (List LV)) : Bool:=xs.all fun x=>x.length == st
def slsRow (T : Env) (st id off len : Nat) (lo hi : Option Opd) : Option Obj → Option LV
 | some (.row st' _)=>if st' = st then cut T len lo hi (cutBs id off) else none
 | _=>none
def slsV (T : Env) (O : Heap) (st : Nat) (lo hi : Option Opd) : LV → Option LV
 | .vs xs=>if allLen st xs = true then cut T xs.length lo hi (cutVs xs) else none
 | .bs id off len=>slsRow T st id off len lo hi (oget O id)
 | .bb id off st' len=>if st' = st then cut T len lo hi (cutBb id off st) else none
 | .nils st'=>cut T 0 lo hi (cutNil st')
 | .nul=>cut T 0 lo hi (cutNil st)
 | _=>none
def sltV (T : Env) (lo hi : Option Opd) : LV → Option LV
 | .str xs=>cut T xs.length lo hi (cutStr xs)
 | _=>none
def slaV (T : Env) (n st : Nat) (lo hi : Option Opd) : LV → Option LV
 | .ptr id off=>cut T n lo hi (cutBb id off st)
 | .fp cs=>if n * st≤cs.length then cut T n lo hi (cutFp st cs) else none
 | _=>none
def fadV (off : Nat) : LV → Option LV
 | .ptr id o=>some (.ptr id (o + off))
 | .ep id i o=>some (.ep id i (o + off))
 | .fp cs=>some (.fp (cs.drop off))
 | _=>none
def fldV (ag : Bool) (off n : Nat) : LV → Option LV
 | .agg cs=>part ag off n cs
 | _=>none
def eltK (st : Nat) (c : List LV) : Option LV:=if c.length = st then some (.fp c) else none
def iasRow (st id off len : Nat) (n : Int) : Option Obj → Option LV
 | some (.row st' _)=>if 0≤n∧n < len∧st' = st then some (.ep id (off + n.toNat) 0) else none
 | _=>none
def iasI (O : Heap) (st : Nat) (n : Int) : LV → Option LV
 | .vs xs=>if 0≤n then (xs[n.toNat]?).bind (eltK st) else none
 | .bs id off len=>iasRow st id off len n (oget O id)
 | .bb id off st' len=>if 0≤n∧n < len∧st' = st then some (.ptr id (off + n.toNat * st)) else none
 | _=>none
def iasV (O : Heap) (st : Nat) (x : LV) : LV → Option LV
 | .int _ n=>iasI O st n x
 | _=>none
def iaaI (o : Nat) : LV → Option LV
 | .ptr id p=>some (.ptr id (p + o))
 | .ep id j p=>some (.ep id j (p + o))
 | .fp cs=>some (.fp (cs.drop o))
 | _=>none
def iaaV (len st : Nat) (x : LV) : LV → Option LV
 | .int _ n=>if 0≤n∧n < len then iaaI (n.toNat * st) x else none
 | _=>none
def ixaV (ag : Bool) (len st : Nat) (x : LV) : LV → Option LV
 | .int _ n=>if 0≤n∧n < len then fldV ag (n.toNat * st) st x else none
 | _=>none
def u8K (b : UInt8) : Option LV:=some (u8 b)
def ixtI (n : Int) : LV → Option LV
 | .str l=>if 0≤n then (l[n.toNat]?).bind u8K else none
 | _=>none
def ixtV (x : LV) : LV → Option LV
 | .int _ n=>ixtI n x
 | _=>none
def lkpK (z : LV) (ok : Bool) : Option LV → Option LV
 | some v=>some (if ok = true then .tup [v,.bool true] else v)
 | none=>some (if ok = true then .tup [z,.bool false] else z)
def lkpO (ks : List Nat) (k : LV) : Option Obj → Option (Option LV)
 | some (.map es)=>lookupE ks k es
 | _=>none
def lkpV (O : Heap) (ks : List Nat) (k : LV) : LV → Option (Option LV)
 | .nilm=>(eqKey ks k k).bind fun _=>some none
 | .mp id=>(eqKey ks k k).bind fun _=>lkpO ks k (oget O id)
 | _=>none
def mpuK (id : Nat) (s : St) (es : List (LV × LV)) : Option (LV × St):=okU { s with O:=oset s.O id (.map es) }
def mpuO (ks : List Nat) (id : Nat) (k v : LV) (s : St) : Option Obj → Option (LV × St)
 | some (.map es)=>if LV.closed k = true∧LV.closed v = true then (eqKey ks k k).bind fun _=>(updE ks k v es).bind (mpuK id s) else none
 | _=>none
def mpuV (ks : List Nat) (k v : LV) (s : St) : LV → Option (LV × St)
 | .mp id=>mpuO ks id k v s (oget s.O id)
 | _=>none
def zcV (st : Nat) : LV → Option LV
 | .vs _=>some (.nils st)
 | .bs .. => some (.nils st)
 | .nils _=>some (.nils st)
 | _=>none
def capV : LV → Option LV
 | .nils _=>some (.int .i64 0)
 | .nul=>some (.int .i64 0)
 | _=>none
def isnV (neg : Bool) : LV → Option LV
 | .nul=>some (.bool (true != neg))
 | .emp=>some (.bool (false != neg))
 | .vs xs=>if xs.isEmpty = true then none else some (.bool (false != neg))
 | _=>none
def extV (i : Nat) : LV → Option LV
 | .tup vs=>vs[i]?
 | _=>none
def intK (n : Int) : Option LV:=some (.int .i64 n)
def appO (st id off len : Nat) (ys : List (List LV)) (s : St) : Option Obj → Option (LV × St)
 | some (.row st' xs)=>if off + len≤xs.length∧st' = st∧len + ys.length≤1000000000 then
   some (.bs id 0 (len + ys.length),St.sub .kill id { s with O:=oset s.O id (.row st ((xs.drop off).take len++ys)) }) else none
 | _=>none
def appV (st d : Nat) (ys : List (List LV)) (s : St) : LV → Option (LV × St)
 | .nils _=>if ys.length≤1000000000 then some (.bs d 0 ys.length,St.new d (.row st ys) s) else none
 | .nul=>if ys.length≤1000000000 then some (.bs d 0 ys.length,St.new d (.row st ys) s) else none
 | .bs id off len=>appO st id off len ys s (oget s.O id)
 | _=>none
def appK (st d : Nat) (b : LV) (s : St) (ys : List (List LV)) : Option (LV × St) :=
 if allLen st ys = true then appV st d ys s b else none
def foldV (f : Int → Int → Int) : List LV → Option LV
 | v::l=>fold2 f v l
 | []=>none
def mnI (x y : Int) : Int:=if y < x then y else x
def mxI (x y : Int) : Int:=if y > x then y else x

def valOp (T : Env) (O : Heap) : AOp → Option LV
 | .mv x=>some (x.ev T)
 | .pick c a b=>pickV (a.ev T) (b.ev T) (c.ev T)
 | .build z ps=>(fill T ps z).bind aggK
 | .load ag n x=>rd O ag n (x.ev T)
 | .nilc x=>nilcV (x.ev T)
 | .bin op x y=>bin op (x.ev T) (y.ev T)
 | .bib neg x y=>bibV neg (x.ev T) (y.ev T)
 | .eqa neg ks x y=>eqaV neg ks (x.ev T) (y.ev T)
 | .un op x=>unV op (x.ev T)
 | .conv k x=>convV k (x.ev T)
 | .b2s x=>(elems O (x.ev T)).bind b2sK
 | .mkf f first cap=>some (.fn f (evs T first) (evs T cap))
 | .sls st x lo hi=>slsV T O st lo hi (x.ev T)
 | .slt x lo hi=>sltV T lo hi (x.ev T)
 | .sla n st x lo hi=>slaV T n st lo hi (x.ev T)
 | .fad off x=>fadV off (x.ev T)
 | .fld ag off n x=>fldV ag off n (x.ev T)
 | .ias st x i=>iasV O st (x.ev T) (i.ev T)
 | .iaa len st x i=>iaaV len st (x.ev T) (i.ev T)
 | .ixa ag len st x i=>ixaV ag len st (x.ev T) (i.ev T)
 | .ixt x i=>ixtV (x.ev T) (i.ev T)
 | .lkp ks z ok x k=>(lkpV O ks (k.ev T) (x.ev T)).bind (lkpK z ok)
 | .zc st x=>zcV st (x.ev T)
 | .capn x=>capV (x.ev T)
 | .isn neg x=>isnV neg (x.ev T)
 | .ext x i=>extV i (x.ev T)
 | .len k x=>(lenOf O k (x.ev T)).bind intK
 | .lena n=>some (.int .i64 n)
 | .mn xs=>foldV mnI (evs T xs)
 | .mx xs=>foldV mxI (evs T xs)
 | .as _ | .alloc _ | .box _ | .bsl .. | .store .. | .mkm | .mks .. | .mpu .. | .bad | .call .. | .cal .. | .app .. | .apz .. | .cpy .. => none

def stepOp (R : Orc) (fz : Bool) (d : Nat) (op : AOp) (s : St) : Option (LV × St) :=
 match op with
 | .as x=>asV (oid s.lvl d) s (x.ev s.T)
 | .alloc z=>boxV (oid s.lvl d) z s
 | .box x=>boxV (oid s.lvl d) (x.ev s.T).cells s
 | .bsl st n z ps=>if z.length = st then (fillS st s.T ps (List.replicate n z)).bind (bslK (oid s.lvl d) st n s) else none
 | .store n x v=>(wr s n (x.ev s.T) (v.ev s.T).cells).bind okU
 | .mkm=>some (.mp (oid s.lvl d),St.new (oid s.lvl d) (.map []) s)
 | .mks _st z len cap=>mksV (oid s.lvl d) z s (len.ev s.T) (cap.ev s.T)
 | .mpu ks x k v=>mpuV ks (k.ev s.T) (v.ev s.T) s (x.ev s.T)
 | .bad=>none
 | .call f args=>callFn R fz (oid s.lvl d) f (evs s.T args) s
 | .cal f args=>callV R fz (oid s.lvl d) (f.ev s.T) (evs s.T args) s
 | .app st b x=>(elems s.O (x.ev s.T)).bind (appK st (oid s.lvl d) (b.ev s.T) s)
 | .apz .. => none
 | .cpy .. => none
 | op=>(valOp s.T s.O op).bind (ok1 s)

def wantV (b : Bool) : LV → Option Bool
 | .bool c=>some (c == b)
 | .undef=>some false
 | _=>none
def wanted (T : Env) : Option (Nat × Bool) → Option Bool
 | none=>some true
 | some (t,b)=>wantV b (tget T t)

def putT (d : Option Nat) (v : LV) (s : St) : St:=match d with | some d=>{ s with T:=(d,v)::s.T } | none=>s
def putK (k : St → Option St) (d : Option Nat) (r : LV × St) : Option St:=k (putT d r.1 r.2)
def closeV1 (s : St) (ids : List Nat) (v : LV) : Option (LV × St):=if LV.closed v = true then some (v,St.frees ids s) else none
def closeV (fz : Bool) (r : LV × St) : Option (LV × St):=if fz = true then some r else closeV1 r.2 (LV.ids r.1) (LV.cl r.2.O r.1)
def stepF (R : Orc) (fz : Bool) (d : Nat) (op : AOp) (s : St) : Option (LV × St) :=
 match fz,op with
 | false,.call f args=>(R (.fn f (evs s.T args) (s.lvl + 1) (s.T::s.F) s.O)).bind (afterIn s.lvl)
 | fz,op=>(stepOp R true d op s).bind (closeV fz)
def grdK (R : Orc) (o : AOper) (k : St → Option St) (s : St) (b : Bool) : Option St :=
 if b = true then (stepF R o.fz (o.dst.getD 0) o.op s).bind (putK k o.dst) else k (putT o.dst .undef s)
def runOps (R : Orc) : List AOper → St → Option St
 | [],s=>some s
 | o::l,s=>(wanted s.T o.grd).bind (grdK R o (runOps R l) s)

def keep (T : Env) : List Nat → Env
 | []=>[]
 | k::l=>(k,tget T k)::keep T l
def slotIds (lvl : Nat) (drop : List Nat) : Heap → List Nat
 | []=>[]
 | (k,_)::l=>if (drop.contains (k / 256 - lvl * 4096) || drop.contains (k - lvl * 1048576 + 1000000)) = true then k::slotIds lvl drop l else slotIds lvl drop l
def maskK (mask : Option (List Nat)) (s : St) : St:=match mask with | some ks=>{ s with T:=keep s.T ks } | none=>s
def dropK (drop : List Nat) (s : St) : St:=match drop with | []=>s | d::l=>St.frees (slotIds s.lvl (d::l) s.O) s
def endReg (mask : Option (List Nat)) (drop : List Nat) (s : St) : St:=dropK drop (maskK mask s)

/-! A region that draws its order: what an operation does that others may come before or behind -/
def filtO (lvl : Nat) (un : List Nat) : Heap → Heap
 | []=>[]
 | (k,v)::l=>if un.contains (k / 256 - lvl * 4096) = true then filtO lvl un l else (k,v)::filtO lvl un l
def putO (o : Option Obj) (k : Option (LV × St)) : Option (LV × St):=match o with | none=>k | some _=>none
def dNew (id : Nat) (o : Obj) (v : LV) (s : St) : Option (LV × St):=putO (oget s.O id) (some (v,St.push id o s))
def dRowsK (id st : Nat) (k : St → Option (List LV × St)) (s : St) : Option Obj → Option (List LV × St)
 | none=>(k (St.push id (.row st []) s)).map (consC (.bs id 0 0))
 | some _=>none
def dRows : Nat → List LV → St → Option (List LV × St)
 | _,[],s=>some ([],s)
 | id,v::l,s=>if isNils v = true then dRowsK id (nilSt v) (dRows (id + 1) l) s (oget s.O id) else (dRows (id + 1) l s).map (consC v)
def dBoxK (id : Nat) (r : List LV × St) : Option (LV × St):=dNew id (.box r.1) (.ptr id 0) r.2
def dBox (id : Nat) (z : List LV) (s : St) : Option (LV × St) :=
 if z.all LV.one = true∧z.length < 200 then (dRows (id + 1) z s).bind (dBoxK id) else none
def fixR (xs : List (List LV)) : List (List LV):=xs.map (LV.cls [])
def dBsl (id st n : Nat) (s : St) (xs : List (List LV)) : Option (LV × St) :=
 if ((fixR xs).all fun x=>LV.closeds x && x.all LV.one) = true then dNew id (.row st (fixR xs)) (.bs id 0 n) s else none
def dImp1 (id : Nat) (s : St) : LV → Option (LV × St)
 | .os st xs=>dNew id (.row st xs) (.bs id 0 xs.length) s
 | .om es=>dNew id (.map es) (.mp id) s
 | v=>some (v,s)
def dImpsK (k : St → Option (List LV × St)) (r : LV × St) : Option (List LV × St):=(k r.2).map (consC r.1)
def dImps : Nat → List LV → St → Option (List LV × St)
 | _,[],s=>some ([],s)
 | id,v::l,s=>(dImp1 id s v).bind (dImpsK (dImps (id + 1) l))
def dTup (r : List LV × St) : LV × St:=(.tup r.1,r.2)
def dImp (id : Nat) (s : St) : LV → Option (LV × St)
 | .tup vs=>if vs.length < 200 then (dImps id vs s).map dTup else none
 | v=>dImp1 id s v
def dAfter (id : Nat) (b : Bool) (s : St) (r : LV) : Option (LV × St):=if (b || LV.noVs r) = true then dImp id s r else none
def dCall (R : Orc) (id : Nat) (f : FuncId) (b : Bool) (s : St) (c : List LV) : Option (LV × St) :=
 if LV.closeds c = true then (pureCall R f c).bind (dAfter id b s) else none
def dCal (R : Orc) (id : Nat) (s : St) (O : Heap) (args : List LV) : LV → Option (LV × St)
 | .fn (.func f) first cap=>dCall R id f (LV.idss (first++(args++cap))).isEmpty s (LV.cls O (first++(args++cap)))
 | _=>none
def dSetBox (id off : Nat) (s : St) (cs : List LV) : Option Obj → Option (LV × St)
 | some (.box bs)=>if off + cs.length≤bs.length then okU { s with O:=oset s.O id (.box (setAt bs off cs)) } else none
 | _=>none
def dSetElt (id st i off : Nat) (s : St) (xs : List (List LV)) (cs : List LV) : Option (List LV) → Option (LV × St)
 | some y=>if off + cs.length≤y.length then okU { s with O:=oset s.O id (.row st (xs.set i (setAt y off cs))) } else none
 | none=>none
def dSetRow (id i off : Nat) (s : St) (cs : List LV) : Option Obj → Option (LV × St)
 | some (.row st xs)=>dSetElt id st i off s xs cs xs[i]?
 | _=>none
def apartId (id : Nat) : LV → Bool
 | .ptr j _=>j != id
 | .ep j _ _=>j != id
 | .fp _=>true
 | _=>false
def apartQs (T : Env) (id : Nat) : List Nat → Bool
 | []=>true
 | q::l=>apartId id (tget T q) && apartQs T id l
def inSlot (lvl : Nat) (qs : List Nat) (id : Nat) : Bool:=qs.isEmpty || qs.contains (id / 256 - lvl * 4096)
def dStore (s : St) (O : Heap) (qs : List Nat) (cs : List LV) : LV → Option (LV × St)
 | .ptr id off=>if inSlot s.lvl qs id = true then dSetBox id off s cs (oget O id) else none
 | .ep id i off=>if inSlot s.lvl qs id = true then dSetRow id i off s cs (oget O id) else none
 | _=>none
def apartV (T : Env) (qs : List Nat) : LV → Bool
 | .ptr id _=>apartQs T id qs
 | .ep id _ _=>apartQs T id qs
 | .fp _=>true
 | _=>false
def dMks (id : Nat) (z : List LV) (s : St) : LV → LV → Option (LV × St)
 | .int _ n,.int _ m=>if 0≤n∧n≤m∧m≤1000000000∧LV.closeds (LV.cls [] z) = true∧(LV.cls [] z).all LV.one = true then
   dNew id (.row z.length (List.replicate n.toNat (LV.cls [] z))) (.bs id 0 n.toNat) s else none
 | _,_=>none
def dOp (R : Orc) (un qs : List Nat) (d : Nat) (op : AOp) (s : St) : Option (LV × St) :=
 match op with
 | .as x=>ok1 s (x.ev s.T)
 | .alloc z=>dBox (oid s.lvl d) z s
 | .box x=>dBox (oid s.lvl d) (x.ev s.T).cells s
 | .bsl st n z ps=>if z.length = st then (fillS st s.T ps (List.replicate n z)).bind (dBsl (oid s.lvl d) st n s) else none
 | .store n x v=>if (v.ev s.T).cells.length = n∧(v.ev s.T).cells.all LV.one = true∧LV.closeds (v.ev s.T).cells = true then dStore s (filtO s.lvl un s.O) qs (v.ev s.T).cells (x.ev s.T) else none
 | .call f args=>dCall R (oid s.lvl d) f (LV.idss (evs s.T args)).isEmpty s (LV.cls (filtO s.lvl un s.O) (evs s.T args))
 | .cal f args=>dCal R (oid s.lvl d) s (filtO s.lvl un s.O) (evs s.T args) (f.ev s.T)
 | .mks _st z len cap=>dMks (oid s.lvl d) z s (len.ev s.T) (cap.ev s.T)
 | .load ag n x=>if qs.isEmpty = true ∨ apartV s.T qs (x.ev s.T) = true then (rd (filtO s.lvl un s.O) ag n (x.ev s.T)).bind (ok1 s) else none
 | .mkm | .mpu .. | .bad | .app .. | .apz .. | .cpy .. => none
 | op=>(valOp s.T (filtO s.lvl un s.O) op).bind (ok1 s)
structure Dl where
 v : LV
 news : List (Nat × Obj)
 upd : Option (Nat × Obj)
def dlV (v : LV) : Option Dl:=some ⟨v,[],none⟩

def rowsN : Nat → List LV → List LV × List (Nat × Obj)
 | _,[]=>([],[])
 | id,v::l=>if isNils v = true then (.bs id 0 0::(rowsN (id + 1) l).1,(id,.row (nilSt v) [])::(rowsN (id + 1) l).2) else (v::(rowsN (id + 1) l).1,(rowsN (id + 1) l).2)
def deltaBox (id : Nat) (z : List LV) : Option Dl :=
 if z.all LV.one = true∧z.length < 200 then some ⟨.ptr id 0,(rowsN (id + 1) z).2++[(id,.box (rowsN (id + 1) z).1)],none⟩ else none
def deltaBsl (id st n : Nat) (xs : List (List LV)) : Option Dl :=
 if ((fixR xs).all fun x=>LV.closeds x && x.all LV.one) = true then some ⟨.bs id 0 n,[(id,.row st (fixR xs))],none⟩ else none
def imp1N (id : Nat) : LV → Option (LV × List (Nat × Obj))
 | .os st xs=>some (.bs id 0 xs.length,[(id,.row st xs)])
 | .om es=>some (.mp id,[(id,.map es)])
 | v=>some (v,[])
def impsNK (k : Option (List LV × List (Nat × Obj))) (r : LV × List (Nat × Obj)) : Option (List LV × List (Nat × Obj)):=k.map fun q=>(r.1::q.1,r.2++q.2)
def impsN : Nat → List LV → Option (List LV × List (Nat × Obj))
 | _,[]=>some ([],[])
 | id,v::l=>(imp1N id v).bind (impsNK (impsN (id + 1) l))
def impN (id : Nat) : LV → Option (LV × List (Nat × Obj))
 | .tup vs=>if vs.length < 200 then (impsN id vs).map fun q=>(.tup q.1,q.2) else none
 | v=>imp1N id v
def deltaAfter (id : Nat) (b : Bool) (r : LV) : Option Dl:=if (b || LV.noVs r) = true then (impN id r).map fun q=>⟨q.1,q.2,none⟩ else none
def deltaCall (R : Orc) (id : Nat) (f : FuncId) (b : Bool) (c : List LV) : Option Dl :=
 if LV.closeds c = true then (pureCall R f c).bind (deltaAfter id b) else none
def deltaCal (R : Orc) (id : Nat) (V : Heap) (args : List LV) : LV → Option Dl
 | .fn (.func f) first cap=>deltaCall R id f (LV.idss (first++(args++cap))).isEmpty (LV.cls V (first++(args++cap)))
 | _=>none
def setBoxD (id off : Nat) (cs : List LV) : Option Obj → Option Dl
 | some (.box bs)=>if off + cs.length≤bs.length then some ⟨.undef,[],some (id,.box (setAt bs off cs))⟩ else none
 | _=>none
def setEltD (id st i off : Nat) (xs : List (List LV)) (cs : List LV) : Option (List LV) → Option Dl
 | some y=>if off + cs.length≤y.length then some ⟨.undef,[],some (id,.row st (xs.set i (setAt y off cs)))⟩ else none
 | none=>none
def setRowD (id i off : Nat) (cs : List LV) : Option Obj → Option Dl
 | some (.row st xs)=>setEltD id st i off xs cs xs[i]?
 | _=>none
def deltaStore (lvl : Nat) (V : Heap) (qs : List Nat) (cs : List LV) : LV → Option Dl
 | .ptr id off=>if inSlot lvl qs id = true then setBoxD id off cs (oget V id) else none
 | .ep id i off=>if inSlot lvl qs id = true then setRowD id i off cs (oget V id) else none
 | _=>none
def deltaMks (id : Nat) (z : List LV) : LV → LV → Option Dl
 | .int _ n,.int _ m=>if 0≤n∧n≤m∧m≤1000000000∧LV.closeds (LV.cls [] z) = true∧(LV.cls [] z).all LV.one = true then
   some ⟨.bs id 0 n.toNat,[(id,.row z.length (List.replicate n.toNat (LV.cls [] z)))],none⟩ else none
 | _,_=>none
def delta (R : Orc) (qs : List Nat) (lvl d : Nat) (op : AOp) (T : Env) (V : Heap) : Option Dl :=
 match op with
 | .as x=>dlV (x.ev T)
 | .alloc z=>deltaBox (oid lvl d) z
 | .box x=>deltaBox (oid lvl d) (x.ev T).cells
 | .bsl st n z ps=>if z.length = st then (fillS st T ps (List.replicate n z)).bind (deltaBsl (oid lvl d) st n) else none
 | .store n x v=>if (v.ev T).cells.length = n∧(v.ev T).cells.all LV.one = true∧LV.closeds (v.ev T).cells = true then deltaStore lvl V qs (v.ev T).cells (x.ev T) else none
 | .call f args=>deltaCall R (oid lvl d) f (LV.idss (evs T args)).isEmpty (LV.cls V (evs T args))
 | .cal f args=>deltaCal R (oid lvl d) V (evs T args) (f.ev T)
 | .mks _st z len cap=>deltaMks (oid lvl d) z (len.ev T) (cap.ev T)
 | .load ag n x=>if qs.isEmpty = true ∨ apartV T qs (x.ev T) = true then (rd V ag n (x.ev T)).bind dlV else none
 | .mkm | .mpu .. | .bad | .app .. | .apz .. | .cpy .. => none
 | op=>(valOp T V op).bind dlV

def pushAll : List (Nat × Obj) → Heap → Heap
 | [],O=>O
 | p::l,O=>pushAll l (p::O)
def freshAll : List (Nat × Obj) → Heap → Bool
 | [],_=>true
 | p::l,O=>(oget O p.1).isNone && freshAll l (p::O)
def updO : Option (Nat × Obj) → Heap → Heap
 | some (id,o),O=>oset O id o
 | none,O=>O
def applyD (s : St) (dl : Dl) : Option (LV × St):=if freshAll dl.news s.O = true then some (dl.v,{ s with O:=updO dl.upd (pushAll dl.news s.O) }) else none

def frzDl (dl : Dl) : Option Dl:=match dl.v,dl.news,dl.upd with
 | .bs id 0 n,[(j,.row _ xs)],none=>if id = j∧n = xs.length then some ⟨.vs xs,[],none⟩ else none
 | _,_,_=>none
def frzOk (T : Env) : AOp → Bool
 | .bsl _ _ _ ps=>ps.all fun p=>LV.closed (LV.cl [] (p.2.ev T))
 | .mks .. => true
 | .call _ args=>(LV.idss (evs T args)).isEmpty
 | _=>false
def deltaZ (R : Orc) (qs : List Nat) (lvl d : Nat) (fz : Bool) (op : AOp) (T : Env) (V : Heap) : Option Dl :=
 if fz = true then delta R qs lvl d op T V else if frzOk T op = true then (delta R qs lvl d op T V).bind frzDl else none
def dOpF (R : Orc) (un qs : List Nat) (d : Nat) (op : AOp) (s : St) : Option (LV × St) :=
 (deltaZ R qs s.lvl d false op s.T (filtO s.lvl un s.O)).bind (applyD s)
def uniqV : LV → Bool
 | .int .. | .bool _ | .str _ | .ptr .. | .ep .. => true
 | _=>false
def uniqK (v : LV) : Option LV:=if uniqV v = true then some v else none
def uniqF : LV → Bool
 | .int .. | .bool _ | .str _ | .fn _ [] []=>true
 | _=>false
def uniqA : LV → Bool
 | .agg cs=>cs.all uniqF
 | _=>false
def uniqAK (v : LV) : Option LV:=if uniqA v = true then some v else none
def locV (T : Env) : AOp → Option LV
 | .mv x=>some (x.ev T)
 | .bin op x y=>(bin op (x.ev T) (y.ev T)).bind uniqK
 | .fad off x=>fadV off (x.ev T)
 | .iaa len st x i=>iaaV len st (x.ev T) (i.ev T)
 | .build z ps=>((fill T ps z).bind aggK).bind uniqAK
 | _=>none
def chkOp (R : Orc) (q : Chk) (fz : Bool) (d : Nat) (op : AOp) (s : St) : Option (LV × St) :=
 match q with
 | .free=>(stepOp R true d op s).bind (closeV fz)
 | .dr un qs=>if fz = true then dOp R un qs d op s else dOpF R un qs d op s
 | .loc=>if fz = true then (locV s.T op).bind (ok1 s) else none
 | .alt _ _=>none
 | .lit .. => none
def grdD (R : Orc) (q : Chk) (o : AOper) (k : St → Option St) (s : St) (b : Bool) : Option St :=
 if b = true then (chkOp R q o.fz (o.dst.getD 0) o.op s).bind (putK k o.dst) else k (putT o.dst .undef s)
def runD (R : Orc) : List (Chk × AOper) → St → Option St
 | [],s=>some s
 | o::l,s=>(wanted s.T o.2.grd).bind (grdD R o.1 o.2 (runD R l) s)
def dsts : List AOper → List Nat
 | []=>[]
 | o::l=>match o.dst with | some d=>d::dsts l | none=>dsts l
/-! a region that is evaluated in every order -/
mutual
def LV.same : LV → LV → Bool
 | .any=>fun b=>match b with | .any=>true | _=>false
 | .undef=>fun b=>match b with | .undef=>true | _=>false
 | .int k n=>fun b=>match b with | .int k' n'=>k == k' && n == n' | _=>false
 | .bool t=>fun b=>match b with | .bool t'=>t == t' | _=>false
 | .str l=>fun b=>match b with | .str l'=>l == l' | _=>false
 | .agg cs=>fun b=>match b with | .agg ds=>LV.sames cs ds | _=>false
 | .tup cs=>fun b=>match b with | .tup ds=>LV.sames cs ds | _=>false
 | .vs xs=>fun b=>match b with | .vs ys=>LV.samess xs ys | _=>false
 | .os st xs=>fun b=>match b with | .os st' ys=>st == st' && LV.samess xs ys | _=>false
 | .nils n=>fun b=>match b with | .nils m=>n == m | _=>false
 | .nul=>fun b=>match b with | .nul=>true | _=>false
 | .emp=>fun b=>match b with | .emp=>true | _=>false
 | .bs i o n=>fun b=>match b with | .bs i' o' n'=>i == i' && (o == o' && n == n') | _=>false
 | .bb i o t n=>fun b=>match b with | .bb i' o' t' n'=>i == i' && (o == o' && (t == t' && n == n')) | _=>false
 | .ptr i o=>fun b=>match b with | .ptr i' o'=>i == i' && o == o' | _=>false
 | .ep i j o=>fun b=>match b with | .ep i' j' o'=>i == i' && (j == j' && o == o') | _=>false
 | .fp cs=>fun b=>match b with | .fp ds=>LV.sames cs ds | _=>false
 | .nilp=>fun b=>match b with | .nilp=>true | _=>false
 | .fn f x y=>fun b=>match b with | .fn f' x' y'=>decide (f = f') && (LV.sames x x' && LV.sames y y') | _=>false
 | .nilf=>fun b=>match b with | .nilf=>true | _=>false
 | .mp i=>fun b=>match b with | .mp j=>i == j | _=>false
 | .om es=>fun b=>match b with | .om fs=>LV.samep es fs | _=>false
 | .nilm=>fun b=>match b with | .nilm=>true | _=>false
 | .yl i=>fun b=>match b with | .yl j=>i == j | _=>false
def LV.sames : List LV → List LV → Bool
 | []=>fun m=>match m with | []=>true | _::_=>false
 | v::l=>fun m=>match m with | []=>false | u::m=>LV.same v u && LV.sames l m
def LV.samess : List (List LV) → List (List LV) → Bool
 | []=>fun m=>match m with | []=>true | _::_=>false
 | v::l=>fun m=>match m with | []=>false | u::m=>LV.sames v u && LV.samess l m
def LV.same1 : LV × LV → LV × LV → Bool
 | (a,b)=>fun q=>LV.same a q.1 && LV.same b q.2
def LV.samep : List (LV × LV) → List (LV × LV) → Bool
 | []=>fun m=>match m with | []=>true | _::_=>false
 | v::l=>fun m=>match m with | []=>false | u::m=>LV.same1 v u && LV.samep l m
end
def nthOps (q : Chk) (ops : List AOper) : List Nat → List (Chk × AOper)
 | []=>[]
 | i::l=>match ops[i]? with
   | some o=>(q,o)::nthOps q ops l
   | none=>nthOps q ops l
/-! a map that is made of its entries, in whatever order -/
def litOp (T : Env) (d : Nat) : Option AOper → Option (List Nat × LV × LV)
 | some ⟨none,.mpu ks (.t e) k v,none,true⟩=>if e = d then some (ks,k.ev T,v.ev T) else none
 | _=>none
def litPs (ops : List AOper) (T : Env) (d : Nat) : List Nat → Option (List (List Nat × LV × LV))
 | []=>some []
 | u::us=>(litOp T d ops[u]?).bind fun p=>(litPs ops T d us).bind fun l=>some (p::l)
def litApart (p q : List Nat × LV × LV) : Bool:=q.1 == p.1 && (eqKey p.1 p.2.1 q.2.1 == some false && eqKey p.1 q.2.1 p.2.1 == some false)
def litOk : List (List Nat × LV × LV) → Bool
 | []=>true
 | p::l=>(LV.closed p.2.1 && LV.closed p.2.2) && ((eqKey p.1 p.2.1 p.2.1).isSome && (l.all (litApart p) && litOk l))
def litS (d : Nat) (s : St) (es : List (LV × LV)) : St:={ St.new (oid s.lvl d) (.map es) s with T:=(d,.mp (oid s.lvl d))::(St.new (oid s.lvl d) (.map es) s).T }
def litK (d : Nat) (s : St) (l : List (List Nat × LV × LV)) : Option St:=if litOk l = true then some (litS d s (l.map (·.2))) else none
def litM (ops : List AOper) (s : St) (us : List Nat) : Option AOper → Option St
 | some ⟨some d,.mkm,none,true⟩=>(litPs ops (litS d s []).T d us).bind (litK d s)
 | _=>none
def litR (ops : List AOper) (s : St) : List Nat → Option St
 | []=>none
 | m::us=>litM ops s us ops[m]?
def runQ (R : Orc) (ops : List AOper) (s : St) : Option (List Chk) → Option St
 | none=>runOps R ops s
 | some [.alt _ _]=>none
 | some [.lit w b t]=>(runD R (nthOps .loc ops w) (dropK (dsts ops) s)).bind fun s1=>(litR ops s1 b).bind fun s2=>runD R (nthOps .free ops t) s2
 | some q=>runD R (q.zip ops) (dropK (dsts ops) s)

def res1 (s : St) : ARes → Option LV
 | .t n=>some (tget s.T n)
 | .cell ag n a=>rd s.O ag n (tget s.T a)
def consV (v : LV) (l : List LV) : Option (List LV):=some (v::l)
def resultsK (k : Option (List LV)) (v : LV) : Option (List LV):=k.bind (consV v)
def resultsL (s : St) : List ARes → Option (List LV)
 | []=>some []
 | r::l=>(res1 s r).bind (resultsK (resultsL s l))
def tuple1 : List LV → LV
 | [v]=>v
 | l=>.tup l

def wit (id : Nat) (s : St) : St:={ s with F:=[(0,.yl id)]::s.F }
def isYl (id : Nat) : LV → Bool
 | .yl i=>i == id
 | _=>false
def unwit (id : Nat) (s : St) : Option St:=match s.F with
 | V::F=>if isYl id (tget V 0) = true then some { s with F:=F } else none
 | []=>none
def endRfK (id : Nat) (s : St) : Option Obj → Option Out
 | some (.loop _ _ _ _ st p)=>if st = .busy then none else some (.ex p (St.free id s))
 | _=>none
def endRf (id : Nat) (s : St) : Option Out:=endRfK id s (oget s.O id)
def begRf2 (id : Nat) (ps : List Nat) (asg body : ACode) (s : St) : St:=St.push id (.loop s.T ps asg body .ready .nrm) s
def begRf (id : Nat) (ps : List Nat) (asg body : ACode) (s : St) : St:=begRf2 id ps asg body (St.free id s)
def endRfR (id : Nat) (r : LV × St) : Option Out:=(unwit id r.2).bind (endRf id)
def rfK (R : Orc) (id id2 : Nat) (f : Opd) (s : St) : Option Out:=(callV R true id2 (f.ev s.T) [.yl id] (wit id s)).bind (endRfR id)
def outK (s : St) (vs : List LV) : Option Out:=some (.res (tuple1 vs) s.F s.O)
def endFn (res : List ARes) (s : St) : Option Out:=(resultsL s res).bind (outK s)
def endRndK (id : Nat) (e : AEx) (s : St) : Option Obj → Option Out
 | some (.loop T ps asg body .busy _) =>
   some (.res (.bool (decide (e = .nrm))) s.F (oset s.O id (.loop T ps asg body (if e = .nrm then .ready else .done) e)))
 | _=>none
def endRnd (id : Nat) (e : AEx) (s : St) : Option Out:=endRndK id e s (oget s.O id)
def rndBody (id : Nat) : Out → Option Out
 | .ex e s=>(unwit id s).bind (endRnd id e)
 | _=>none
def rndMid (R : Orc) (id : Nat) (body : ACode) (s : St) : Option Obj → Option Out
 | some (.loop T ps asg b .ready p)=>(R (.code body (wit id { s with O:=oset s.O id (.loop T ps asg b .busy p) }))).bind (rndBody id)
 | _=>none
def rndMid1 (R : Orc) (id : Nat) (body : ACode) (s : St) : Option Out:=rndMid R id body s (oget s.O id)
def rndAsg (R : Orc) (id : Nat) (body : ACode) : Out → Option Out
 | .ex .nrm s=>(unwit id s).bind (rndMid1 R id body)
 | _=>none
def rndBeg (R : Orc) (id : Nat) (args : List LV) (lvl : Nat) (F : List Env) (O : Heap) : Option Obj → Option Out
 | some (.loop T ps asg body .ready _) =>
   if ps.length = args.length then (R (.code asg (wit id { T:=(ps.zip args).reverse++T,F,O,lvl }))).bind (rndAsg R id body) else none
 | _=>none
def fnEnd (res : List ARes) : Out → Option Out
 | .ex .nrm s=>endFn res s
 | .ex .ret s=>endFn res s
 | _=>none
def isE : List LV → Bool
 | [.vs []]=>true
 | _=>false
def twoS (r : LV × St) : Out:=.res r.1 r.2.F r.2.O
def twoI (r1 r2 : LV) : Option Out:=if LV.same r1 r2 = true then some (twoS (import_ 0 ⟨[],[],[],0⟩ r1)) else none
def fnCode (R : Orc) (res : List ARes) (body : ACode) (args : List LV) (lvl : Nat) (F : List Env) (O : Heap) : Option Out:=(R (.code body { T:=numArgs 0 args,F,O,lvl })).bind (fnEnd res)
def twoK (R : Orc) (res : List ARes) (body : ACode) (r1 : LV) : Option Out:=((fnCode R res body [.emp] 0 [] []).bind resK).bind (twoI r1)
def fnTwo (R : Orc) (res : List ARes) (body : ACode) : Option Out:=((fnCode R res body [.nul] 0 [] []).bind resK).bind (twoK R res body)
def fnBeg (R : Orc) (args : List LV) (lvl : Nat) (F : List Env) (O : Heap) : AFn → Option Out
 | .code res body=>(R (.code body { T:=numArgs 0 args,F,O,lvl })).bind (fnEnd res)
 | .two res body=>if isE args = true then (if lvl = 0∧F.isEmpty = true∧O.isEmpty = true then fnTwo R res body else none) else fnCode R res body args lvl F O
def seqR (R : Orc) (b : ACode) : Out → Option Out
 | .ex .nrm s=>R (.code b s)
 | .ex e s=>some (.ex e s)
 | .res .. => none
def condR (x y : Option Out) : LV → Option Out
 | .bool t=>if t = true then x else y
 | _=>none
def blockR (id : Nat) (mask : Option (List Nat)) (drop : List Nat) : Out → Option Out
 | .ex (.exit i) s=>if i = id then some (.ex .nrm (endReg mask drop s)) else some (.ex (.exit i) s)
 | .ex .nrm s=>some (.ex .nrm (endReg mask drop s))
 | .ex .ret s=>some (.ex .ret s)
 | .res .. => none
def loopR (R : Orc) (b : ACode) (mask : Option (List Nat)) (drop : List Nat) : Out → Option Out
 | .ex .nrm s=>R (.code (.loop b mask drop) (endReg mask drop s))
 | .ex e s=>some (.ex e s)
 | .res .. => none
def regR (mask : Option (List Nat)) (drop : List Nat) (s : St) : Option Out:=some (.ex .nrm (endReg mask drop s))

def step (E : FuncId → Option AFn) (R : Orc) : Task → Option Out
 | .code .skip s=>some (.ex .nrm s)
 | .code (.reg q ops mask drop) s=>(runQ R ops s q).bind (regR mask drop)
 | .code (.seq a b) s=>(R (.code a s)).bind (seqR R b)
 | .code (.cond c a b) s=>condR (R (.code a s)) (R (.code b s)) (c.ev s.T)
 | .code (.block id b mask drop) s=>(R (.code b s)).bind (blockR id mask drop)
 | .code (.loop b mask drop) s=>(R (.code b s)).bind (loopR R b mask drop)
 | .code (.scope b) s=>R (.code b s)
 | .code (.exit id) s=>some (.ex (.exit id) s)
 | .code .ret s=>some (.ex .ret s)
 | .code .bad _=>none
 | .code (.rf rid f ps asg body) s=>rfK R (oid s.lvl 4000 + rid) (oid s.lvl 4001) f (begRf (oid s.lvl 4000 + rid) ps asg body s)
 | .fn f args lvl F O=>(E f).bind (fnBeg R args lvl F O)
 | .rnd id args lvl F O=>rndBeg R id args lvl F O (oget O id)
end Go.Zv

namespace Go.Zv
/-! The translation of the machine's code -/
def tsize (P : Program) (t : TypeId) : Option Nat:=(P.info? t).map (·.size)
def cellLV : Value → Option LV
 | .bool b=>some (.bool b)
 | .int k n=>some (.int k n)
 | .string s=>some (.str s.data.toList)
 | .pointer none=>some .nilp
 | .slice none 0 0=>some (.nils 0)
 | .map none=>some .nilm
 | .nilFunc=>some .nilf
 | _=>none
def constLV : Value → Option LV
 | .agg cs=>(cs.toList.mapM cellLV).map .agg
 | v=>cellLV v
def strides (P : Program) : Nat → TypeId → List Nat
 | 0,_=>[]
 | d + 1,t=>match P.underlying t with
   | some (.slice e)=>[(tsize P e).getD 0]
   | some (.struct fs)=>fs.toList.flatMap fun f=>strides P d f.type
   | some (.array n e)=>(List.replicate n (strides P d e)).flatten
   | _=>[0]
def withSt : List LV → List Nat → List LV
 | .nils _::l,st::m=>.nils st::withSt l m
 | v::l,_::m=>v::withSt l m
 | l,[]=>l
 | [],_=>[]
def typed (P : Program) (t : TypeId) : LV → LV
 | .agg cs=>.agg (withSt cs (strides P 20 t))
 | .nils _=>.nils ((strides P 20 t).headD 0)
 | v=>v
def zeroLV (P : Program) (t : TypeId) : Option LV:=match P.info? t with
 | some i=>match i.zero with | some v=>(constLV v).map (typed P t) | none=>none
 | none=>none
def toOpd : Operand → Option Opd
 | .tmp t=>some (.t t)
 | .const v=>(constLV v).map .c
 | .func f=>some (.fu f)
 | .global _=>none
def toOpdT (P : Program) (t : TypeId) : Operand → Option Opd
 | .const v=>(constLV v).map fun v=>.c (typed P t v)
 | x=>toOpd x
def argNul : Opd → Opd
 | .c (.nils _)=>.c .nul
 | x=>x
def toArgs (P : Program) (ts : Array TypeId) (l : Array Operand) : Option (List Opd):=(l.toList.zipIdx.mapM fun (x,i)=>(toOpdT P (ts.getD i 0) x).map argNul)
def toOpds (l : Array Operand) : Option (List Opd):=l.toList.mapM toOpd
def isAggT (P : Program) (t : TypeId) : Option Bool:=match P.underlying t with
 | some (.struct _) | some (.array _ _)=>some true
 | some _=>some false
 | none=>none
def flatF (k : TypeId → Option (List Nat)) : Nat → List Field → Option (List Nat)
 | _,[]=>some []
 | off,f::l=>if f.name = "_" ∨ f.offset ≠ off then none else
   (k f.type).bind fun m=>(flatF k (off + m.length) l).map (m ++ ·)
def flatT (P : Program) : Nat → TypeId → Option (List Nat)
 | 0,_=>none
 | d + 1,t=>match P.underlying t with
   | some (.int _)=>if tsize P t = some 1 then some [0] else none
   | some .bool=>if tsize P t = some 1 then some [1] else none
   | some .string=>if tsize P t = some 1 then some [2] else none
   | some (.struct fs)=>if P.stoodInHeld t = true then none else (flatF (flatT P d) 0 fs.toList).bind fun l=>if tsize P t = some l.length then some l else none
   | some (.array n e)=>(flatT P d e).bind fun l=>if tsize P t = some (n * l.length) then some ((List.replicate n l).flatten) else none
   | _=>none
def optOpd : Option Operand → Option (Option Opd)
 | none=>some none
 | some x=>(toOpd x).map some
def smallB (P : Program) (t : TypeId) : Bool:=match P.info? t,zeroLV P t with
 | some i,some z=>decide (i.bytes≤16384) && decide (0 < i.size) && decide (z.cells.length = i.size)
 | _,_=>false

def toOp1 (P : Program) (ty : TypeId) (op : Op) : Option AOp:=match op with
 | .move x=>(toOpd x).map .mv
 | .assign x=>(toOpdT P ty x).map .as
 | .pick c a b=>do some (.pick (← toOpd c) (← toOpd a) (← toOpd b))
 | .alloc e=>do some (.alloc (← zeroLV P e).cells)
 | .box e v=>do some (.box (← toOpdT P e v))
 | .build t ps=>match P.underlying t with
   | some (.struct fs)=>do
     if (fs.all fun f=>(tsize P f.type).isSome) = true then some () else none
     let l ← ps.toList.mapM fun (p : Nat × Operand)=>do
      let f ← fs[p.1]?
      some (f.offset,← tsize P f.type,← toOpdT P f.type p.2)
     some (.build (← zeroLV P t).cells l)
   | some (.array _ e)=>do
     let n ← tsize P e
     let l ← ps.toList.mapM fun (p : Nat × Operand)=>do some (p.1 * n,n,← toOpdT P e p.2)
     some (.build (← zeroLV P t).cells l)
   | _=>none
 | .buildSlice t n ps=>match P.underlying t with
   | some (.slice e)=>do
     let st ← tsize P e
     if st = 0 ∨ n * st > 16777216 then none
     let l ← ps.toList.mapM fun (p : Nat × Operand)=>do some (p.1,← toOpdT P e p.2)
     some (.bsl st n (← zeroLV P e).cells l)
   | _=>none
 | .load t a=>do some (.load (← isAggT P t) (← tsize P t) (← toOpd a))
 | .store t a v=>do some (.store (← tsize P t) (← toOpd a) (← toOpdT P t v))
 | .nilCheck x=>(toOpd x).map .nilc
 | .binOp op t x y _=>match P.underlying t with
   | some (.int _) | some .string=>do some (.bin op (← toOpd x) (← toOpd y))
   | some .bool=>if op = .eql ∨ op = .neq then do some (.bib (decide (op = .neq)) (← toOpd x) (← toOpd y)) else none
   | some (.struct _) | some (.array _ _) =>
     if (op = .eql ∨ op = .neq)∧P.eqGuardType P.depth t = false then do some (.eqa (decide (op = .neq)) (← flatT P 20 t) (← toOpd x) (← toOpd y)) else none
   | some (.slice _)=>match op,y with
     | .eql,.const (.slice none 0 0)=>(toOpd x).map (.isn false)
     | .neq,.const (.slice none 0 0)=>(toOpd x).map (.isn true)
     | _,_=>none
   | _=>none
 | .unOp op _ x=>(toOpd x).map (.un op)
 | .convert src dst x=>match P.underlying src,P.underlying dst with
   | some (.int _),some (.int k)=>(toOpd x).map (.conv k)
   | some .string,some .string=>(toOpd x).map fun y=>.slt y none none
   | some (.slice e),some .string=>if P.underlying e matches some (.int .u8) then (toOpd x).map .b2s else none
   | _,_=>none
 | .makeFunc fn a b=>do some (.mkf fn (← toOpds a) (← toOpds b))
 | .makeMap _ none=>some .mkm
 | .makeMap t (some (.const (.int _ _)))=>if P.underlying t matches some (.map _ _) then some .mkm else none
 | .makeSlice t l c=>match P.underlying t with
   | some (.slice e)=>if smallB P e then do some (.mks (← tsize P e) (← zeroLV P e).cells (← toOpd l) (← toOpd c)) else none
   | _=>none
 | .slice t x lo hi none=>match P.underlying t with
   | some (.slice e)=>do some (.sls (← tsize P e) (← toOpd x) (← optOpd lo) (← optOpd hi))
   | some .string=>do some (.slt (← toOpd x) (← optOpd lo) (← optOpd hi))
   | some (.array n e)=>do some (.sla n (← tsize P e) (← toOpd x) (← optOpd lo) (← optOpd hi))
   | _=>none
 | .slice t x none (some (.const (.int _ 0))) (some (.const (.int _ 0)))=>match P.underlying t with
   | some (.slice e)=>do some (.zc (← tsize P e) (← toOpd x))
   | _=>none
 | .slice t x (some (.const (.int _ 0))) (some (.const (.int _ 0))) (some (.const (.int _ 0)))=>match P.underlying t with
   | some (.slice e)=>do some (.zc (← tsize P e) (← toOpd x))
   | _=>none
 | .fieldAddr t x f=>match P.underlying t with
   | some (.struct fs)=>do
     let f ← fs[f]?
     if (← tsize P f.type) = 0 then none
     some (.fad f.offset (← toOpd x))
   | _=>none
 | .field t x f=>match P.underlying t with
   | some (.struct fs)=>do
     let f ← fs[f]?
     some (.fld (← isAggT P f.type) f.offset (← tsize P f.type) (← toOpd x))
   | _=>none
 | .indexAddr t x i=>match P.underlying t with
   | some (.slice e)=>do
     if (← tsize P e) = 0 then none
     some (.ias (← tsize P e) (← toOpd x) (← toOpd i))
   | some (.array n e)=>do
     if (← tsize P e) = 0 then none
     some (.iaa n (← tsize P e) (← toOpd x) (← toOpd i))
   | _=>none
 | .index t x i=>match P.underlying t with
   | some (.array n e)=>do some (.ixa (← isAggT P e) n (← tsize P e) (← toOpd x) (← toOpd i))
   | some .string=>do some (.ixt (← toOpd x) (← toOpd i))
   | _=>none
 | .lookup t x k ok=>match P.underlying t with
   | some (.map kt e)=>do some (.lkp ((if (← isAggT P kt) then 1 else 0)::(← flatT P 20 kt)) (← zeroLV P e) ok (← toOpd x) (← toOpd k))
   | _=>none
 | .mapUpdate t m k v | .insert t m k v=>match P.underlying t with
   | some (.map kt _)=>do some (.mpu ((if (← isAggT P kt) then 1 else 0)::(← flatT P 20 kt)) (← toOpd m) (← toOpd k) (← toOpd v))
   | _=>none
 | .extract x i=>do some (.ext (← toOpd x) i)
 | .call c=>match c.callee with
   | .value (.func f)=>(toArgs P c.argTypes c.args).map (.call f)
   | .value x=>do some (.cal (← toOpd x) (← toArgs P c.argTypes c.args))
   | .builtin .len=>match (c.argTypes[0]?).bind P.underlying,c.args.toList with
     | some (.slice _),[x]=>(toOpd x).map (.len 0)
     | some .string,[x]=>(toOpd x).map (.len 1)
     | some (.map _ _),[x]=>(toOpd x).map (.len 2)
     | some (.array n _),[_]=>some (.lena n)
     | _,_=>none
   | .builtin .append=>match (c.argTypes[0]?).bind P.underlying,(c.argTypes[1]?).bind P.underlying,c.args.toList with
     | some (.slice e),some (.int _),[s,x]=>if smallB P e then do some (.apz (← tsize P e) (← zeroLV P e).cells (← toOpd s) (← toOpd x)) else none
     | some (.slice e),some _,[s,x]=>if smallB P e then do some (.app (← tsize P e) (← toOpd s) (← toOpd x)) else none
     | _,_,_=>none
   | .builtin .copy=>match (c.argTypes[0]?).bind P.underlying,c.args.toList with
     | some (.slice e),[s,x]=>do some (.cpy (← tsize P e) (← toOpd s) (← toOpd x))
     | _,_=>none
   | .builtin .cap=>match (c.argTypes[0]?).bind P.underlying,c.args.toList with
     | some (.slice _),[x]=>(toOpd x).map .capn
     | some (.array n _),[_]=>some (.lena n)
     | _,_=>none
   | .builtin .min=>(toOpds c.args).map .mn
   | .builtin .max=>(toOpds c.args).map .mx
   | _=>none
 | _=>none

def toOp (P : Program) (ty : TypeId) (op : Op) : AOp:=(toOp1 P ty op).getD .bad

def toOper (P : Program) (N : Nat) (ops : Array Oper) (o : Oper) : Option AOper :=
 if (match o.dst with | some d=>decide (d < N) | none=>true) = true then
  match o.guard with
  | none=>some { dst:=o.dst,op:=toOp P o.type o.op,grd:=none }
  | some (j,b)=>match (ops[j]?).bind (·.dst) with
    | some d=>some { dst:=o.dst,op:=toOp P o.type o.op,grd:=some (d,b) }
    | none=>none
 else none

/-! Regions that draw their order -/
inductive OKind where | loc | rdh | cre | sto | noi deriving DecidableEq
def kindOf : AOp → OKind
 | .mv _ | .as _ | .pick .. | .build .. | .nilc _ | .bin .. | .bib .. | .eqa .. | .un .. | .conv .. | .mkf .. | .slt .. | .sla .. | .fad .. | .fld .. | .iaa .. | .ixa .. | .ixt .. | .zc .. | .capn _ | .isn .. | .ext .. | .lena _ | .mn _ | .mx _=>.loc
 | .load .. | .len .. | .b2s _ | .lkp .. | .ias .. | .sls .. | .call .. | .cal .. => .rdh
 | .alloc _ | .box _ | .bsl .. | .mks .. => .cre
 | .store .. => .sto
 | .mkm | .mpu .. | .app .. | .apz .. | .cpy .. | .bad=>.noi
def opdT : Opd → List Nat | .t n=>[n] | _=>[]
def ooT : Option Opd → List Nat | some x=>opdT x | none=>[]
def opT : AOp → List Nat
 | .mv x | .as x | .box x | .load _ _ x | .nilc x | .un _ x | .conv _ x | .b2s x | .fad _ x | .fld _ _ _ x | .ext x _ | .len _ x | .zc _ x | .capn x | .isn _ x=>opdT x
 | .pick a b c | .mpu _ a b c=>opdT a++(opdT b++opdT c)
 | .alloc _ | .mkm | .lena _ | .bad=>[]
 | .build _ ps=>(ps.map fun p=>opdT p.2.2).flatten
 | .bsl _ _ _ ps=>(ps.map fun p=>opdT p.2).flatten
 | .store _ a b | .bin _ a b | .bib _ a b | .eqa _ _ a b | .mks _ _ a b | .ias _ a b | .iaa _ _ a b | .ixa _ _ _ a b | .ixt a b | .lkp _ _ _ a b | .app _ a b | .apz _ _ a b | .cpy _ a b=>opdT a++opdT b
 | .mkf _ a b=>(a.map opdT).flatten++(b.map opdT).flatten
 | .sls _ x a b | .slt x a b | .sla _ _ x a b=>opdT x++(ooT a++ooT b)
 | .call _ l | .mn l | .mx l=>(l.map opdT).flatten
 | .cal f l=>opdT f++(l.map opdT).flatten
def grdT : Option (Nat × Bool) → List Nat | some (g,_)=>[g] | none=>[]
def ordd (b : Array Nat) (i j : Nat) : Bool:=(b.getD j 0).testBit i || (b.getD i 0).testBit j
def makes (p : AOper) : Bool:=kindOf p.op matches .cre | .rdh
def chkOf (b : Array Nat) (l : List (AOper × Nat)) (o : AOper) (i : Nat) : Chk :=
 let x:=l.filter fun p=>p.2 != i && !ordd b i p.2
 let un:=x.filterMap fun p=>if makes p.1 = true then p.1.dst else none
 if x.isEmpty = true then .free else
 .dr un
  (match o.op with
   | .load .. => (x.map fun p=>match p.1.op with | .store _ x _=>(opdT x).filter fun t=>!un.contains t | _=>[]).flatten
   | .store _ x _=>(opdT x).filter fun t=>l.any fun p=>(kindOf p.1.op matches .cre) && p.1.dst == some t
   | _=>[])
def chkQs : Chk → List Nat | .dr _ qs=>qs | .free=>[] | .loc=>[] | .alt .. => [] | .lit .. => []
def chkUn : Chk → List Nat | .dr un _=>un | .free=>[] | .loc=>[] | .alt .. => [] | .lit .. => []
def seesT (q : Chk) (o : AOper) : List Nat:=opT o.op++(grdT o.grd++chkQs q)
def dstApart (o p : AOper) (q : Chk) : Bool:=match o.dst with | some d=>!(seesT q p).contains d && p.dst != some d | none=>true
def pairOk (a c : OKind) (oa oc : AOp) : Bool:=match a,c with
 | .noi,_ | _,.noi=>false
 | .sto,.sto=>false
 | .rdh,.sto=>match oa,oc with | .load ..,.store _ (.t _) _=>true | .ias ..,_ | .sls ..,_=>true | _,_=>false
 | .sto,.rdh=>match oc,oa with | .load ..,.store _ (.t _) _=>true | .ias ..,_ | .sls ..,_=>true | _,_=>false
 | _,_=>true
def unOk (q : Chk) (p : AOper) : Bool:=!makes p || match p.dst with | some d=>(chkUn q).contains d | none=>false
def qsOk (q r : Chk) (o p : AOper) : Bool:=match o.op,p.op with | .load ..,.store _ (.t t) _=>(chkQs q).contains t || ((chkUn q).contains t && chkQs r == [t]) | _,_=>true
def indep (o : Chk × AOper) (p : Chk × AOper) : Bool :=
 dstApart o.2 p.2 p.1 && dstApart p.2 o.2 o.1 && pairOk (kindOf o.2.op) (kindOf p.2.op) o.2.op p.2.op &&
 unOk o.1 p.2 && unOk p.1 o.2 && qsOk o.1 p.1 o.2 p.2 && qsOk p.1 o.1 p.2 o.2 && !(o.1 matches .free | .loc | .alt .. | .lit ..) && !(p.1 matches .free | .loc | .alt .. | .lit ..)
def regOk (b : Array Nat) (l : List ((Chk × AOper) × Nat)) : Bool :=
 (l.all fun p=>decide (b.getD p.2 0 < 2 ^ p.2)) && l.all fun o=>l.all fun p=>!(decide (o.2 < p.2)) || (b.getD p.2 0).testBit o.2 || indep o.1 p.1
/-! A region with a call that shares memory: what looks at temporaries alone goes first -/
def locOp : AOp → Bool
 | .mv _ | .bin .. | .fad .. | .iaa .. => true
 | _=>false
def isCalA : AOp → Bool
 | .call .. | .cal .. | .app .. | .apz .. | .cpy .. | .mpu .. | .mkm=>true
 | _=>false
def wsetG (b : Array Nat) : Nat → List AOper → List Bool → List Bool
 | _,[],acc=>acc
 | i,o::l,acc=>wsetG b (i + 1) l (acc++[locOp o.op && ((List.range i).all fun j=>!(b.getD i 0).testBit j || acc.getD j false)])
def wset (b : Array Nat) (l : List AOper) : List Bool:=wsetG b 0 l []
def wantW (b : Array Nat) (l : List (AOper × Nat)) (W : List Bool) : Bool :=
 l.any fun p=>isCalA p.1.op && !W.getD p.2 false && (l.any fun r=>r.2 != p.2 && !ordd b p.2 r.2) && (l.all fun r=>r.2 == p.2 || ordd b p.2 r.2 || W.getD r.2 false)
def permW (b : Array Nat) (l : List (AOper × Nat)) (W : List Bool) : List (Nat × (Chk × AOper)) :=
 ((l.filter fun p=>W.getD p.2 false).map fun p=>(p.2,(Chk.loc,p.1))) ++
 ((l.filter fun p=>!W.getD p.2 false).map fun p=>(p.2,(chkOf b (l.filter fun r=>!W.getD r.2 false) p.1 p.2,p.1)))
def apartAt (ops : Array Oper) (i j : Nat) : Bool:=match ops[i]?,ops[j]? with
 | some x,some y=>Oper.apart ops x y
 | _,_=>false
def okW (ops : Array Oper) (b : Array Nat) (W : List Bool) (m : List (Nat × (Chk × AOper))) : Bool :=
 Region.noSelect ops &&
 (m.all fun p=>decide (b.getD p.1 0 < 2 ^ p.1) && (!W.getD p.1 false || (locOp p.2.2.op && m.all fun r=>!(b.getD p.1 0).testBit r.1 || W.getD r.1 false))) &&
 (m.all fun o=>m.all fun p=>!(decide (o.1 < p.1)) || (b.getD p.1 0).testBit o.1 || (if (W.getD o.1 false || W.getD p.1 false) = true then apartAt ops o.1 p.1 else indep o.2 p.2))
def useW (ops : Array Oper) (l : List AOper) : Bool :=
 wantW (Region.before ops) l.zipIdx (wset (Region.before ops) l) && okW ops (Region.before ops) (wset (Region.before ops) l) (permW (Region.before ops) l.zipIdx (wset (Region.before ops) l))
def regW (ops : Array Oper) (l : List AOper) : List (Nat × (Chk × AOper)):=permW (Region.before ops) l.zipIdx (wset (Region.before ops) l)
/-! A region that is evaluated in every order: the operations that look at temporaries alone first -/
def lins (b : Array Nat) : Nat → List Nat → List (List Nat)
 | 0,_=>[[]]
 | n + 1,rem=>rem.flatMap fun i=>if (rem.all fun j=>!(b.getD i 0).testBit j) = true then (lins b n (rem.erase i)).map (i :: ·) else []
def altA (n : Nat) (W : List Bool) : List Nat:=(List.range n).filter fun i=>W.getD i false
def altB (n : Nat) (W : List Bool) : List Nat:=(List.range n).filter fun i=>!W.getD i false
def altPs (b : Array Nat) (n : Nat) (W : List Bool) : List (List Nat):=lins b (altB n W).length (altB n W)
def okA (ops : Array Oper) (b : Array Nat) (W : List Bool) (l : List AOper) : Bool :=
 Region.noSelect ops &&
 ((List.range ops.size).all fun i=>decide (b.getD i 0 < 2 ^ i) && (!W.getD i false || (match l[i]? with | some o=>locOp o.op | none=>false) && (List.range ops.size).all fun j=>!(b.getD i 0).testBit j || W.getD j false)) &&
 (List.range ops.size).all fun i=>(List.range ops.size).all fun j=>!(decide (i < j)) || (b.getD j 0).testBit i || !(W.getD i false || W.getD j false) || apartAt ops i j
def useA (ops : Array Oper) (l : List AOper) : Bool :=
 okA ops (Region.before ops) (wset (Region.before ops) l) l && decide ((altB ops.size (wset (Region.before ops) l)).length≤9) && decide ((altPs (Region.before ops) ops.size (wset (Region.before ops) l)).length≤12)
def wantA (b : Array Nat) (l : List AOper) (W : List Bool) : Bool :=
 l.zipIdx.any fun p=>(match p.1.op with | .cal .. => true | _=>false) && !W.getD p.2 false && l.zipIdx.any fun r=>(match r.1.op with | .load .. => true | _=>false) && !W.getD r.2 false && !ordd b p.2 r.2
/-! a region that makes a map of its entries -/
def locOp2 : AOp → Bool
 | .mv _ | .bin .. | .fad .. | .iaa .. | .build .. => true
 | _=>false
def wsetG2 (b : Array Nat) : Nat → List AOper → List Bool → List Bool
 | _,[],acc=>acc
 | i,o::l,acc=>wsetG2 b (i + 1) l (acc++[locOp2 o.op && ((List.range i).all fun j=>!(b.getD i 0).testBit j || acc.getD j false)])
def wset2 (b : Array Nat) (l : List AOper) : List Bool:=wsetG2 b 0 l []
def okA2 (ops : Array Oper) (b : Array Nat) (W : List Bool) (l : List AOper) : Bool :=
 Region.noSelect ops &&
 ((List.range ops.size).all fun i=>decide (b.getD i 0 < 2 ^ i) && (!W.getD i false || (match l[i]? with | some o=>locOp2 o.op | none=>false) && (List.range ops.size).all fun j=>!(b.getD i 0).testBit j || W.getD j false)) &&
 (List.range ops.size).all fun i=>(List.range ops.size).all fun j=>!(decide (i < j)) || (b.getD j 0).testBit i || !(W.getD i false || W.getD j false) || apartAt ops i j
def headB (b : Array Nat) : List Nat → Bool
 | []=>false
 | m::us=>us.all fun u=>(b.getD u 0).testBit m
def tailB (b : Array Nat) (pre : List Nat) : List Nat → Bool
 | []=>true
 | x::r=>(pre.all fun j=>(b.getD x 0).testBit j) && tailB b (pre++[x]) r
def litN (l : List AOper) (B : List Nat) : Nat:=1 + (B.tail.takeWhile fun i=>match l[i]? with | some o=>(match o.op with | .mpu .. => true | _=>false) | none=>false).length
def useL (ops : Array Oper) (l : List AOper) : Bool :=
 okA2 ops (Region.before ops) (wset2 (Region.before ops) l) l && (headB (Region.before ops) ((altB ops.size (wset2 (Region.before ops) l)).take (litN l (altB ops.size (wset2 (Region.before ops) l)))) && tailB (Region.before ops) ((altB ops.size (wset2 (Region.before ops) l)).take (litN l (altB ops.size (wset2 (Region.before ops) l)))) ((altB ops.size (wset2 (Region.before ops) l)).drop (litN l (altB ops.size (wset2 (Region.before ops) l)))))
def toReg (P : Program) (N : Nat) (ops : Array Oper) (draw : Bool) : Option ACode :=
 match ops.toList.mapM (toOper P N ops) with
 | none=>none
 | some l =>
   if draw = true then
    if useW ops l = true then some (.reg (some ((regW ops l).map fun p=>p.2.1)) ((regW ops l).map fun p=>p.2.2) none []) else
    let b:=Region.before ops
    let q:=l.zipIdx.map fun p=>chkOf b l.zipIdx p.1 p.2
    if wantA b l (wset b l) = false∧regOk b (q.zip l).zipIdx = true then some (.reg (some q) l none []) else
    if useA ops l = true then some (.reg (some [.alt (altA ops.size (wset b l)) (altPs b ops.size (wset b l))]) l none []) else
    if useL ops l = true then some (.reg (some [.lit (altA ops.size (wset2 b l)) ((altB ops.size (wset2 b l)).take (litN l (altB ops.size (wset2 b l)))) ((altB ops.size (wset2 b l)).drop (litN l (altB ops.size (wset2 b l))))]) l none []) else some .bad
   else some (.reg none l none [])

def toCode (P : Program) (N : Nat) : Code → Option ACode
 | .skip=>some .skip
 | .region _ ops draw=>toReg P N ops draw
 | .seq a b=>match toCode P N a,toCode P N b with
   | some a,some b=>some (.seq a b)
   | _,_=>none
 | .cond c a b=>match toOpd c,toCode P N a,toCode P N b with
   | some c,some a,some b=>some (.cond c a b)
   | _,_,_=>none
 | .block id b=>match toCode P N b with | some b=>some (.block id b none []) | none=>none
 | .loop b=>match toCode P N b with | some b=>some (.loop b none []) | none=>none
 | .rangeFunc f ps a b=>match toOpd f,toCode P N a,toCode P N b with
   | some f,some a,some b=>if (ps.toList.all fun d=>decide (d < N)) = true then some (.rf 0 f ps.toList a b) else none
   | _,_,_=>none
 | .exit id=>some (.exit id)
 | .scope b=>match toCode P N b with | some b=>some (.scope b) | none=>none
 | .ret=>some .ret
 | .label _=>some .skip
 | .goto _ | .refuse _=>some .bad
def toRes (P : Program) : ResultVar → Option ARes
 | .tmp t=>some (.t t)
 | .cell a t=>do some (.cell (← isAggT P t) (← tsize P t) a)
def toFn (P : Program) (f : Func) : Option AFn:=match f.body with
 | none=>none
 | some b=>match f.results.toList.mapM (toRes P),toCode P f.ntmps b with
   | some r,some c=>some (.code r c)
   | _,_=>none

def strip : ACode → ACode
 | .reg q ops _ _=>.reg q (ops.map fun o=>{ o with fz:=true }) none []
 | .seq a b=>.seq (strip a) (strip b)
 | .cond c a b=>.cond c (strip a) (strip b)
 | .block id b _ _=>.block id (strip b) none []
 | .loop b _ _=>.loop (strip b) none []
 | .rf _ f ps a b=>.rf 0 f ps (strip a) (strip b)
 | .scope b=>.scope (strip b)
 | c=>c
def AFn.strip : AFn → AFn
 | .code r b=>.code r (Zv.strip b)
 | .two r b=>.code r (Zv.strip b)
end Go.Zv

/- The engine, part 3: the evaluation as a whole: the limit of the finite ones. -/
namespace Go.Zv

def Le (R R' : Orc) : Prop:=∀ t r,R t = some r → R' t = some r

def run (E : FuncId → Option AFn) : Nat → Orc
 | 0,_=>none
 | n + 1,t=>step E (run E n) t
open Classical in
noncomputable def Run (E : FuncId → Option AFn) : Orc:=fun t =>
 if h : ∃ n r,run E n t = some r then some (Classical.choose (Qbw h)) else none

structure Nice {α : Type} (g : Orc → Option α) : Prop where
 mono : ∀ {R R' : Orc},Le R R' → ∀ {r},g R = some r → g R' = some r
 fin : ∀ {R : Nat → Orc} {W : Orc},(∀ n m,n≤m → Le (R n) (R m)) → (∀ t r,W t = some r → ∃ n,R n t = some r) →
  ∀ {r},g W = some r → ∃ n,g (R n) = some r

theorem nice_R (t : Task) : Nice fun R=>R t:=⟨fun h=>h _ _,fun _ hW=>hW _ _⟩
theorem nice_const {α : Type} (x : Option α) : Nice fun _=>x:=⟨fun _ _ h=>h,fun _ _ _ h=>⟨0,h⟩⟩
theorem nice_bind {α β : Type} {g : Orc → Option α} {k : Orc → α → Option β} (hg : Nice g) (hk : ∀ a,Nice fun R=>k R a) :
  Nice fun R=>(g R).bind (k R):=by
 refine ⟨fun {R R'} hl {r} h=>?_,fun {R W} hm hW {r} h=>?_⟩
 ·obtain ⟨a,ha,hb⟩:=Qa.1 h
  exact Qa.2 ⟨a,hg.mono hl ha,(hk a).mono hl hb⟩
 ·obtain ⟨a,ha,hb⟩:=Qa.1 h
  obtain ⟨n,hn⟩:=hg.fin hm hW ha
  obtain ⟨m,hm2⟩:=(hk a).fin hm hW hb
  exact ⟨max n m,Qa.2 ⟨a,hg.mono (hm n _ (by omega)) hn,(hk a).mono (hm m _ (by omega)) hm2⟩⟩
theorem nice_ite {α : Type} {c : Prop} [Decidable c] {g g' : Orc → Option α} (h : Nice g) (h' : Nice g') : Nice fun R=>if c then g R else g' R:=by
 by_cases hc : c
 ·simpa [hc] using h
 ·simpa [hc] using h'

theorem nice_pure (f : FuncId) (args : List LV) : Nice fun R=>pureCall R f args :=
 nice_bind (nice_R _) fun _=>nice_const _
theorem nice_callFn (fz id f args s) : Nice fun R=>callFn R fz id f args s :=
 nice_ite (g:=fun R=>(pureCall R f (LV.cls s.O args)).bind _) (nice_bind (nice_pure _ _) fun _=>nice_const _) (nice_bind (nice_R _) fun _=>nice_const _)
theorem nice_callV (fz id f args s) : Nice fun R=>callV R fz id f args s:=by
 unfold callV
 split
 ·exact nice_callFn ..
 ·exact nice_bind (nice_R _) fun _=>nice_const _
 ·exact nice_const none
theorem nice_stepOp (fz d op s) : Nice fun R=>stepOp R fz d op s:=by
 cases op <;> first
  | exact nice_callFn ..
  | exact nice_callV ..
  | exact nice_const _
theorem nice_stepF (fz d op s) : Nice fun R=>stepF R fz d op s:=by
 unfold stepF
 split
 ·exact nice_bind (nice_R _) fun _=>nice_const _
 ·exact nice_bind (nice_stepOp ..) fun _=>nice_const _
theorem nice_runOps (ops : List AOper) : ∀ s,Nice fun R=>runOps R ops s:=by
 induction ops with
 | nil=>intro s; exact nice_const _
 | cons o l ih =>
   intro s
   exact nice_bind (nice_const _) fun b=>nice_ite (g:=fun R=>(stepF R o.fz (o.dst.getD 0) o.op s).bind (putK (runOps R l) o.dst)) (g':=fun R=>runOps R l (putT o.dst .undef s)) (nice_bind (nice_stepF ..) fun r=>ih _) (ih _)
theorem nice_dCall (id f b s c) : Nice fun R=>dCall R id f b s c :=
 nice_ite (g:=fun R=>(pureCall R f c).bind _) (nice_bind (nice_pure _ _) fun _=>nice_const _) (nice_const _)
theorem nice_dCal (id s O args f) : Nice fun R=>dCal R id s O args f:=by
 unfold dCal
 split
 ·exact nice_dCall ..
 ·exact nice_const _
theorem nice_dOp (un qs d op s) : Nice fun R=>dOp R un qs d op s:=by
 cases op <;> first
  | exact nice_dCall ..
  | exact nice_dCal ..
  | exact nice_const _
theorem nice_deltaCall (id f b c) : Nice fun R=>deltaCall R id f b c :=
 nice_ite (g:=fun R=>(pureCall R f c).bind _) (nice_bind (nice_pure _ _) fun _=>nice_const _) (nice_const _)
theorem nice_deltaCal (id V args f) : Nice fun R=>deltaCal R id V args f:=by
 unfold deltaCal
 split
 ·exact nice_deltaCall ..
 ·exact nice_const _
theorem nice_delta (qs lvl d op T V) : Nice fun R=>delta R qs lvl d op T V:=by
 cases op <;> first
  | exact nice_deltaCall ..
  | exact nice_deltaCal ..
  | exact nice_const _
theorem nice_dOpF (un qs d op s) : Nice fun R=>dOpF R un qs d op s :=
 nice_bind (nice_ite (nice_delta ..) (nice_ite (nice_bind (nice_delta ..) fun _=>nice_const _) (nice_const _))) fun _=>nice_const _
theorem nice_chkOp (q fz d op s) : Nice fun R=>chkOp R q fz d op s:=by
 cases q
 ·exact nice_bind (nice_stepOp ..) fun _=>nice_const _
 ·exact nice_ite (nice_dOp ..) (nice_dOpF ..)
 ·exact nice_const _
 ·exact nice_const _
 ·exact nice_const _
theorem nice_runD (ops : List (Chk × AOper)) : ∀ s,Nice fun R=>runD R ops s:=by
 induction ops with
 | nil=>intro s; exact nice_const _
 | cons o l ih =>
   intro s
   exact nice_bind (nice_const _) fun b=>nice_ite (g:=fun R=>(chkOp R o.1 o.2.fz (o.2.dst.getD 0) o.2.op s).bind (putK (runD R l) o.2.dst)) (g':=fun R=>runD R l (putT o.2.dst .undef s)) (nice_bind (nice_chkOp ..) fun r=>ih _) (ih _)
theorem nice_runQ (ops s q) : Nice fun R=>runQ R ops s q:=by
 rcases q with _ | q
 ·exact nice_runOps ..
 ·rcases q with _ | ⟨x,_ | ⟨y,q⟩⟩
  ·exact nice_runD ..
  ·cases x
   case alt w ps=>exact nice_const _
   case lit w b t=>exact nice_bind (nice_runD ..) fun a=>nice_bind (nice_const _) fun b=>nice_runD ..
   all_goals exact nice_runD ..
  ·cases x <;> exact nice_runD ..
theorem nice_step (E : FuncId → Option AFn) (t : Task) : Nice fun R=>step E R t:=by
 cases t with
 | code c s =>
   cases c with
   | skip=>exact nice_const _
   | reg q ops m d=>exact nice_bind (nice_runQ ..) fun _=>nice_const _
   | seq a b=>exact nice_bind (nice_R _) fun o=>by unfold seqR; split; exact nice_R _; exact nice_const _; exact nice_const _
   | cond c a b=>simp only [step]; unfold condR; split; exact nice_ite (nice_R _) (nice_R _); exact nice_const _
   | block id b m d=>exact nice_bind (nice_R _) fun _=>nice_const _
   | loop b m d=>exact nice_bind (nice_R _) fun o=>by unfold loopR; split; exact nice_R _; exact nice_const _; exact nice_const _
   | rf rid f ps a b=>exact nice_bind (nice_callV ..) fun _=>nice_const _
   | exit id=>exact nice_const _
   | scope b=>exact nice_R _
   | ret=>exact nice_const _
   | bad=>exact nice_const _
 | fn f args lvl F O=>exact nice_bind (nice_const _) fun fn=>by cases fn with
   | code res body=>exact nice_bind (nice_R _) fun _=>nice_const _
   | two res body =>
     refine nice_ite (nice_ite ?_ (nice_const _)) (nice_bind (nice_R _) fun _=>nice_const _)
     exact nice_bind (nice_bind (nice_bind (nice_R _) fun _=>nice_const _) fun _=>nice_const _) fun _=>nice_bind (nice_bind (nice_bind (nice_R _) fun _=>nice_const _) fun _=>nice_const _) fun _=>nice_const _
 | rnd id args lvl F O =>
   simp only [step]
   unfold rndBeg
   split
   ·refine nice_ite (nice_bind (nice_R _) fun o=>?_) (nice_const _)
    unfold rndAsg
    split
    ·refine nice_bind (nice_const _) fun s=>?_
     unfold rndMid1 rndMid
     split
     ·exact nice_bind (nice_R _) fun _=>nice_const _
     ·exact nice_const none
    ·exact nice_const none
   ·exact nice_const none

theorem run_succ (E : FuncId → Option AFn) (n : Nat) : Le (run E n) (run E (n + 1)):=by
 induction n with
 | zero=>intro t r h; cases h
 | succ n ih=>exact fun t r h=>(nice_step E t).mono ih h
theorem run_le (E : FuncId → Option AFn) (n m : Nat) (h : n≤m) : Le (run E n) (run E m):=by
 induction h with
 | refl=>intro t r h; exact h
 | step _ ih=>intro t r h; exact run_succ E _ _ _ (ih t r h)

theorem Run_iff {E : FuncId → Option AFn} {t : Task} {r : Out} : Run E t = some r ↔ ∃ n,run E n t = some r:=by
 unfold Run
 constructor
 ·intro h
  split at h
  ·rename_i hx
   cases h
   exact ⟨_,Qbw (Qbw hx)⟩
  ·cases h
 ·rintro ⟨n,h⟩
  have hx : ∃ n r,run E n t = some r:=⟨n,r,h⟩
  rw [dif_pos hx]
  have h2:=Qbw (Qbw hx)
  have ha:=run_le E _ _ (Nat.le_max_left n (Classical.choose hx)) _ _ h
  have hb:=run_le E _ _ (Nat.le_max_right n (Classical.choose hx)) _ _ h2
  rw [ha] at hb
  cases hb; rfl

theorem Run_eq (E : FuncId → Option AFn) (t : Task) : Run E t = step E (Run E) t:=by
 cases h : step E (Run E) t with
 | some r =>
   obtain ⟨n,hn⟩:=(nice_step E t).fin (run_le E) (fun t r h=>Run_iff.1 h) h
   exact Run_iff.2 ⟨n + 1,hn⟩
 | none =>
   cases h2 : Run E t with
   | none=>rfl
   | some r =>
     obtain ⟨n,hn⟩:=Run_iff.1 h2
     cases n with
     | zero=>cases hn
     | succ n =>
       have:=(nice_step E t).mono (R:=run E n) (R':=Run E) (fun t r h=>Run_iff.2 ⟨n,h⟩) hn
       rw [h] at this; cases this
end Go.Zv

/- The engine, part 4: the rules of evaluation, for simp. -/
namespace Go.Zv
noncomputable def K (E : FuncId → Option AFn) (c : ACode) (s : St) : Option Out:=Run E (.code c s)
noncomputable def pc (E : FuncId → Option AFn) (f : FuncId) (args : List LV) : Option LV:=pureCall (Run E) f args
def expK (O : Heap) (vs : List LV) : Option LV:=exportV O (tuple1 vs)
def fnK (res : List ARes) : Out → Option LV
 | .ex .nrm s=>(resultsL s res).bind (expK s.O)
 | .ex .ret s=>(resultsL s res).bind (expK s.O)
 | _=>none
noncomputable def codeK (E : FuncId → Option AFn) (res : List ARes) (body : ACode) (args : List LV) : Option LV:=(K E body ⟨numArgs 0 args,[],[],0⟩).bind (fnK res)
def impE (r : LV × St) : Option LV:=exportV r.2.O r.1
def twoR (r1 r2 : LV) : Option LV:=if LV.same r1 r2 = true then impE (import_ 0 ⟨[],[],[],0⟩ r1) else none
noncomputable def callK (E : FuncId → Option AFn) (args : List LV) : AFn → Option LV
 | .code res body=>(K E body ⟨numArgs 0 args,[],[],0⟩).bind (fnK res)
 | .two res body=>if isE args = true then (codeK E res body [.nul]).bind fun r1=>(codeK E res body [.emp]).bind (twoR r1) else codeK E res body args
mutual
theorem LV.same_eq : ∀ (a b : LV),LV.same a b = true → a = b
 | .any,b,h=>by cases b <;> simp [LV.same] at h ⊢
 | .undef,b,h=>by cases b <;> simp [LV.same] at h ⊢
 | .nul,b,h=>by cases b <;> simp [LV.same] at h ⊢
 | .emp,b,h=>by cases b <;> simp [LV.same] at h ⊢
 | .nilp,b,h=>by cases b <;> simp [LV.same] at h ⊢
 | .nilf,b,h=>by cases b <;> simp [LV.same] at h ⊢
 | .nilm,b,h=>by cases b <;> simp [LV.same] at h ⊢
 | .int k n,b,h=>by cases b <;> simp [LV.same] at h ⊢; exact h
 | .bool t,b,h=>by cases b <;> simp [LV.same] at h ⊢; exact h
 | .str l,b,h=>by cases b <;> simp [LV.same] at h ⊢; exact h
 | .agg cs,b,h=>by
   cases b <;> simp only [LV.same,Qh] at h
   rw [LV.sames_eq cs _ h]
 | .tup cs,b,h=>by
   cases b <;> simp only [LV.same,Qh] at h
   rw [LV.sames_eq cs _ h]
 | .fp cs,b,h=>by
   cases b <;> simp only [LV.same,Qh] at h
   rw [LV.sames_eq cs _ h]
 | .vs xs,b,h=>by
   cases b <;> simp only [LV.same,Qh] at h
   rw [LV.samess_eq xs _ h]
 | .os st xs,b,h=>by
   cases b <;> simp only [LV.same,Qh,Qg,beq_iff_eq] at h
   rw [h.1,LV.samess_eq xs _ h.2]
 | .nils n,b,h=>by cases b <;> simp [LV.same] at h ⊢; exact h
 | .bs i o n,b,h=>by cases b <;> simp [LV.same] at h ⊢; exact h
 | .bb i o t n,b,h=>by cases b <;> simp [LV.same] at h ⊢; exact h
 | .ptr i o,b,h=>by cases b <;> simp [LV.same] at h ⊢; exact h
 | .ep i j o,b,h=>by cases b <;> simp [LV.same] at h ⊢; exact h
 | .fn f x y,b,h=>by
   cases b <;> simp only [LV.same,Qh,Qg,decide_eq_true_eq] at h
   rw [h.1,LV.sames_eq x _ h.2.1,LV.sames_eq y _ h.2.2]
 | .mp i,b,h=>by cases b <;> simp [LV.same] at h ⊢; exact h
 | .om es,b,h=>by
   cases b <;> simp only [LV.same,Qh] at h
   rw [LV.samep_eq es _ h]
 | .yl i,b,h=>by cases b <;> simp [LV.same] at h ⊢; exact h
theorem LV.sames_eq : ∀ (l m : List LV),LV.sames l m = true → l = m
 | [],m,h=>by cases m <;> simp [LV.sames] at h ⊢
 | v::l,m,h=>by
   cases m <;> simp only [LV.sames,Qh,Qg] at h
   rw [LV.same_eq v _ h.1,LV.sames_eq l _ h.2]
theorem LV.samess_eq : ∀ (l m : List (List LV)),LV.samess l m = true → l = m
 | [],m,h=>by cases m <;> simp [LV.samess] at h ⊢
 | v::l,m,h=>by
   cases m <;> simp only [LV.samess,Qh,Qg] at h
   rw [LV.sames_eq v _ h.1,LV.samess_eq l _ h.2]
theorem LV.same1_eq : ∀ (p q : LV × LV),LV.same1 p q = true → p = q
 | (a,b),(x,y),h=>by
   simp only [LV.same1,Qg] at h
   rw [LV.same_eq a _ h.1,LV.same_eq b _ h.2]
theorem LV.samep_eq : ∀ (l m : List (LV × LV)),LV.samep l m = true → l = m
 | [],m,h=>by cases m <;> simp [LV.samep] at h ⊢
 | v::l,m,h=>by
   cases m <;> simp only [LV.samep,Qh,Qg] at h
   rw [LV.same1_eq v _ h.1,LV.samep_eq l _ h.2]
end
section
variable {E : FuncId → Option AFn}
theorem code_pc (res : List ARes) (body : ACode) (args : List LV) : (fnCode (Run E) res body args 0 [] []).bind resK = codeK E res body args:=by
 unfold fnCode codeK K
 cases Run E (.code body ⟨numArgs 0 args,[],[],0⟩) with
 | none=>rfl
 | some o =>
   simp only [Q5]
   cases o with
   | res v F O=>rfl
   | ex e s=>cases e <;> simp only [fnK,fnEnd,endFn] <;> (try rfl) <;> cases resultsL s res <;> rfl
theorem pc_eq (f : FuncId) (args : List LV) : pc E f args = (E f).bind (callK E args):=by
 unfold pc pureCall
 rw [Run_eq]
 simp only [step]
 cases E f with
 | none=>rfl
 | some fn =>
   cases fn with
   | code res body=>exact code_pc res body args
   | two res body =>
     simp only [Q5,fnBeg,callK]
     split
     ·simp only [List.isEmpty_nil,and_self,if_true,fnTwo]
      rw [code_pc]
      cases codeK E res body [.nul] with
      | none=>rfl
      | some r1 =>
        simp only [Q5,twoK]
        rw [code_pc]
        cases codeK E res body [.emp] with
        | none=>rfl
        | some r2 =>
          simp only [Q5,twoI,twoR]
          split <;> rfl
     ·exact code_pc res body args
theorem callK_eq (args : List LV) (res : List ARes) (body : ACode) : callK E args (.code res body) = (K E body ⟨numArgs 0 args,[],[],0⟩).bind (fnK res):=rfl
theorem fnK_ret (res : List ARes) (s : St) : fnK res (.ex .ret s) = (resultsL s res).bind (expK s.O):=rfl
theorem expK_1 (O : Heap) (v : LV) : expK O [v] = exportV O v:=rfl
theorem expK_2 (O : Heap) (v w : LV) (l : List LV) : expK O (v::w::l) = exportV O (.tup (v::w::l)):=rfl
theorem K_skip (s : St) : K E .skip s = some (.ex .nrm s):=by unfold K; rw [Run_eq]; rfl
theorem K_reg (q ops mask drop) (s : St) : K E (.reg q ops mask drop) s = (runQ (Run E) ops s q).bind (regR mask drop):=by unfold K; rw [Run_eq]; rfl
noncomputable def seqK (E : FuncId → Option AFn) (b : ACode) : Out → Option Out:=seqR (Run E) b
theorem K_seq (a b) (s : St) : K E (.seq a b) s = (K E a s).bind (seqK E b):=by unfold K; rw [Run_eq]; rfl
theorem seqK_nrm (b) (s : St) : seqK E b (.ex .nrm s) = K E b s:=rfl
theorem seqK_ret (b) (s : St) : seqK E b (.ex .ret s) = some (.ex .ret s):=rfl
theorem seqK_exit (b i) (s : St) : seqK E b (.ex (.exit i) s) = some (.ex (.exit i) s):=rfl
theorem K_cond (c a b) (s : St) : K E (.cond c a b) s = condR (K E a s) (K E b s) (c.ev s.T):=by unfold K; rw [Run_eq]; rfl
theorem condR_bool (x y : Option Out) (t : Bool) : condR x y (.bool t) = if t = true then x else y:=rfl
theorem K_block (id b mask drop) (s : St) : K E (.block id b mask drop) s = (K E b s).bind (blockR id mask drop):=by unfold K; rw [Run_eq]; rfl
theorem blockR_nrm (id mask drop) (s : St) : blockR id mask drop (.ex .nrm s) = some (.ex .nrm (endReg mask drop s)):=rfl
theorem blockR_ret (id mask drop) (s : St) : blockR id mask drop (.ex .ret s) = some (.ex .ret s):=rfl
theorem blockR_exit (id mask drop i) (s : St) : blockR id mask drop (.ex (.exit i) s) = if i = id then some (.ex .nrm (endReg mask drop s)) else some (.ex (.exit i) s):=rfl
noncomputable def loopK (E : FuncId → Option AFn) (b : ACode) (mask : Option (List Nat)) (drop : List Nat) : Out → Option Out:=loopR (Run E) b mask drop
theorem K_loop (b mask drop) (s : St) : K E (.loop b mask drop) s = (K E b s).bind (loopK E b mask drop):=by unfold K; rw [Run_eq]; rfl
noncomputable def loopF (E : FuncId → Option AFn) (L : ACode) (mask : Option (List Nat)) (drop : List Nat) : Out → Option Out
 | .ex .nrm s=>K E L (endReg mask drop s)
 | .ex e s=>some (.ex e s)
 | .res .. => none
theorem loop_fold {L b : ACode} {mask : Option (List Nat)} {drop : List Nat} (h : L = .loop b mask drop) (s : St) : K E L s = (K E b s).bind (loopF E L mask drop):=by
 subst h
 rw [K_loop]
 refine congrArg (fun f=>(K E b s).bind f) (funext fun o=>?_)
 cases o with
 | res v F O=>rfl
 | ex e s=>cases e <;> rfl
theorem loopF_nrm (L mask drop) (s : St) : loopF E L mask drop (.ex .nrm s) = K E L (endReg mask drop s):=rfl
theorem loopF_ret (L mask drop) (s : St) : loopF E L mask drop (.ex .ret s) = some (.ex .ret s):=rfl
theorem loopF_exit (L mask drop i) (s : St) : loopF E L mask drop (.ex (.exit i) s) = some (.ex (.exit i) s):=rfl
theorem K_exit (id) (s : St) : K E (.exit id) s = some (.ex (.exit id) s):=by unfold K; rw [Run_eq]; rfl
theorem K_ret (s : St) : K E .ret s = some (.ex .ret s):=by unfold K; rw [Run_eq]; rfl
theorem callClosed_run (T : Env) (F : List Env) (O : Heap) (lvl : Nat) (fz id f args) (c : List LV) : callClosed (Run E) fz id f args ⟨T,F,O,lvl⟩ c =
  if LV.closeds c = true then (pc E f c).bind (afterPure fz id (LV.idss args) ⟨T,F,O,lvl⟩)
  else (Run E (.fn f args (lvl + 1) (T::F) O)).bind (afterIn lvl):=rfl
theorem bind_ite {α β : Type} {c : Prop} [Decidable c] (x y : Option α) (k : α → Option β) : (if c then x else y).bind k = if c then x.bind k else y.bind k:=by
 split <;> rfl

section
variable (R : Orc) (l : List AOper) (T : Env) (F : List Env) (O : Heap) (lvl : Nat) (s : St)
theorem runOps_nil : runOps R [] s = some s:=rfl
theorem runOps_cons (o : AOper) : runOps R (o::l) s = (wanted s.T o.grd).bind (grdK R o (runOps R l) s):=rfl
theorem grdK_eq (d : Option Nat) (op g) (k : St → Option St) (b : Bool) : grdK R ⟨d,op,g,true⟩ k s b =
  if b = true then (stepOp R true (d.getD 0) op s).bind (putK k d) else k (putT d .undef s):=by
 simp only [grdK,stepF]
 cases stepOp R true (d.getD 0) op s <;> rfl
theorem putK_eq (k : St → Option St) (d : Option Nat) (v : LV) : putK k d (v,s) = k (putT d v s):=rfl
theorem putT_some (d : Nat) (v : LV) : putT (some d) v ⟨T,F,O,lvl⟩ = ⟨(d,v)::T,F,O,lvl⟩:=rfl
theorem putT_none (v : LV) : putT none v s = s:=rfl
theorem wanted_none : wanted T none = some true:=rfl
theorem wanted_some (t : Nat) (b : Bool) : wanted T (some (t,b)) = wantV b (tget T t):=rfl
theorem wantV_bool (b c : Bool) : wantV b (.bool c) = some (c == b):=rfl
theorem wantV_undef (b : Bool) : wantV b .undef = some false:=rfl
theorem tget_cons (k n : Nat) (v : LV) (r : Env) : tget ((k,v)::r) n = if k = n then v else tget r n:=rfl
theorem oget_nil (n : Nat) : oget [] n = none:=rfl
theorem oget_cons (k n : Nat) (v : Obj) (r : Heap) : oget ((k,v)::r) n = if k = n then some v else oget r n:=rfl
theorem oset_cons (k n : Nat) (v o : Obj) (r : Heap) : oset ((k,v)::r) n o = if k = n then (k,o)::r else (k,v)::oset r n o:=rfl
theorem odel_nil (n : Nat) : odel [] n = []:=rfl
theorem odel_cons (k n : Nat) (v : Obj) (r : Heap) : odel ((k,v)::r) n = if k = n then odel r n else (k,v)::odel r n:=rfl
theorem ev_t (n : Nat) : Opd.ev T (.t n) = tget T n:=rfl
theorem ev_c (v : LV) : Opd.ev T (.c v) = v:=rfl
theorem ev_fu (f : FuncId) : Opd.ev T (.fu f) = .fn (.func f) [] []:=rfl
theorem evs_nil : evs T [] = []:=rfl
theorem evs_cons (x : Opd) (l : List Opd) : evs T (x::l) = x.ev T::evs T l:=rfl
theorem ok1_eq (v : LV) : ok1 s v = some (v,s):=rfl
theorem okU_eq : okU s = some (.undef,s):=rfl
-- regions that draw
theorem runQ_none (ops) : runQ R ops s none = runOps R ops s:=rfl
theorem runQ_free (ops q) : runQ R ops s (some (.free::q)) = runD R ((.free::q).zip ops) (dropK (dsts ops) s):=by cases q <;> rfl
theorem runQ_dr (ops q a b) : runQ R ops s (some (.dr a b::q)) = runD R ((.dr a b::q).zip ops) (dropK (dsts ops) s):=by cases q <;> rfl
theorem runQ_loc (ops q) : runQ R ops s (some (.loc::q)) = runD R ((.loc::q).zip ops) (dropK (dsts ops) s):=by cases q <;> rfl
def nthK (q : Chk) (r : List (Chk × AOper)) : Option AOper → List (Chk × AOper)
 | some o=>(q,o)::r
 | none=>r
mutual
theorem LV.same_self : ∀ a : LV,LV.same a a = true
 | .any=>rfl
 | .undef=>rfl
 | .nul=>rfl
 | .emp=>rfl
 | .nilp=>rfl
 | .nilf=>rfl
 | .nilm=>rfl
 | .int k n=>by simp [LV.same]
 | .bool t=>by simp [LV.same]
 | .str l=>by simp [LV.same]
 | .agg cs=>by simp only [LV.same]; exact LV.sames_self cs
 | .tup cs=>by simp only [LV.same]; exact LV.sames_self cs
 | .vs xs=>by simp only [LV.same]; exact LV.samess_self xs
 | .os st xs=>by simp only [LV.same,LV.samess_self xs,beq_self_eq_true,Qda]
 | .nils n=>by simp [LV.same]
 | .bs i o n=>by simp [LV.same]
 | .bb i o t n=>by simp [LV.same]
 | .ptr i o=>by simp [LV.same]
 | .ep i j o=>by simp [LV.same]
 | .fp cs=>by simp only [LV.same]; exact LV.sames_self cs
 | .fn f x y=>by simp only [LV.same,LV.sames_self x,LV.sames_self y,decide_true,Qda]
 | .mp i=>by simp [LV.same]
 | .om es=>by simp only [LV.same]; exact LV.samep_self es
 | .yl i=>by simp [LV.same]
theorem LV.sames_self : ∀ l : List LV,LV.sames l l = true
 | []=>rfl
 | v::l=>by simp only [LV.sames,LV.same_self v,LV.sames_self l,Qda]
theorem LV.samess_self : ∀ l : List (List LV),LV.samess l l = true
 | []=>rfl
 | v::l=>by simp only [LV.samess,LV.sames_self v,LV.samess_self l,Qda]
theorem LV.same1_self : ∀ p : LV × LV,LV.same1 p p = true
 | (a,b)=>by simp only [LV.same1,LV.same_self a,LV.same_self b,Qda]
theorem LV.samep_self : ∀ l : List (LV × LV),LV.samep l l = true
 | []=>rfl
 | v::l=>by simp only [LV.samep,LV.same1_self v,LV.samep_self l,Qda]
end
theorem zip_cons {α β : Type} (a : α) (b : β) (l m) : (a::l).zip (b::m) = (a,b)::l.zip m:=rfl
theorem dsts_nil : dsts [] = []:=rfl
theorem dsts_some (d : Nat) (op g fz) : dsts (⟨some d,op,g,fz⟩::l) = d::dsts l:=rfl
theorem dsts_none (op g fz) : dsts (⟨none,op,g,fz⟩::l) = dsts l:=rfl
theorem runD_nil : runD R [] s = some s:=rfl
theorem runD_cons (q) (o : AOper) (m : List (Chk × AOper)) : runD R ((q,o)::m) s = (wanted s.T o.grd).bind (grdD R q o (runD R m) s):=rfl
theorem grdD_eq (q) (d : Option Nat) (op g fz) (k : St → Option St) (b : Bool) : grdD R q ⟨d,op,g,fz⟩ k s b =
  if b = true then (chkOp R q fz (d.getD 0) op s).bind (putK k d) else k (putT d .undef s):=rfl
theorem chkOp_free (d op) : chkOp R .free true d op s = stepOp R true d op s:=by
 simp only [chkOp]
 cases stepOp R true d op s <;> rfl
theorem chkOp_dr (un qs d op) : chkOp R (.dr un qs) true d op s = dOp R un qs d op s:=rfl
theorem chkOp_loc (d op) (T : Env) (F : List Env) (O : Heap) (lvl : Nat) : chkOp R .loc true d op ⟨T,F,O,lvl⟩ = (locV T op).bind (ok1 ⟨T,F,O,lvl⟩):=rfl
theorem lo_mv (T : Env) (x) : locV T (.mv x) = some (x.ev T):=rfl
theorem lo_bin (T : Env) (op x y) : locV T (.bin op x y) = (bin op (x.ev T) (y.ev T)).bind uniqK:=rfl
theorem lo_fad (T : Env) (off x) : locV T (.fad off x) = fadV off (x.ev T):=rfl
theorem lo_iaa (T : Env) (len st x i) : locV T (.iaa len st x i) = iaaV len st (x.ev T) (i.ev T):=rfl
theorem uniqK_int (k n) : uniqK (.int k n) = some (.int k n):=rfl
theorem uniqK_bool (b) : uniqK (.bool b) = some (.bool b):=rfl
theorem filtO_nil (un) : filtO lvl un [] = []:=rfl
theorem filtO_cons (un k v) : filtO lvl un ((k,v)::O) = if un.contains (k / 256 - lvl * 4096) = true then filtO lvl un O else (k,v)::filtO lvl un O:=rfl
theorem dNew_eq (id o v) : dNew id o v s = putO (oget s.O id) (some (v,St.push id o s)):=rfl
theorem putO_none (k) : putO none k = k:=rfl
theorem dRows_nil (id) : dRows id [] s = some ([],s):=rfl
theorem dRows_cons (id v) (l : List LV) : dRows id (v::l) s = if isNils v = true then dRowsK id (nilSt v) (dRows (id + 1) l) s (oget s.O id) else (dRows (id + 1) l s).map (consC v):=rfl
theorem dRowsK_none (id st k) : dRowsK id st k s none = (k (St.push id (.row st []) s)).map (consC (.bs id 0 0)):=rfl
theorem dBox_eq (id) (z : List LV) : dBox id z s = if z.all LV.one = true∧z.length < 200 then (dRows (id + 1) z s).bind (dBoxK id) else none:=rfl
theorem dBoxK_eq (id cs) : dBoxK id (cs,s) = dNew id (.box cs) (.ptr id 0) s:=rfl
mutual
theorem cl_closed : ∀ v : LV,LV.closed v = true → LV.cl [] v = v
 | .agg cs,h=>by simp only [LV.cl,LV.closed] at h ⊢; rw [cls_closed cs h]
 | .tup cs,h=>by simp only [LV.cl,LV.closed] at h ⊢; rw [cls_closed cs h]
 | .fn f a b,h=>by simp only [LV.cl,LV.closed,Qg] at h ⊢; rw [cls_closed a h.1,cls_closed b h.2]
 | .nils _,h=>by simp [LV.closed] at h
 | .bs ..,h=>by simp [LV.closed] at h
 | .bb ..,h=>by simp [LV.closed] at h
 | .ptr ..,_ | .ep ..,_ | .mp _,_ | .yl _,_ | .any,_ | .undef,_ | .int ..,_ | .bool _,_ | .str _,_ | .vs _,_ | .os ..,_ | .nul,_ | .emp,_ | .fp _,_ | .nilp,_ | .nilf,_ | .om _,_ | .nilm,_=>rfl
theorem cls_closed : ∀ l : List LV,LV.closeds l = true → LV.cls [] l = l
 | [],_=>rfl
 | v::l,h=>by
   simp only [LV.closeds,Qg] at h
   simp only [LV.cls]
   rw [cl_closed v h.1,cls_closed l h.2]
end
theorem fixR_closed (xs : List (List LV)) (h : (xs.all fun x=>LV.closeds x && x.all LV.one) = true) : fixR xs = xs:=by
 unfold fixR
 induction xs with
 | nil=>rfl
 | cons x l ih =>
   simp only [Qb1,Qg] at h
   rw [Qk,cls_closed x h.1.1,ih (by simpa using h.2)]
theorem dBsl_eq (id st n xs) : dBsl id st n s xs = if (xs.all fun x=>LV.closeds x && x.all LV.one) = true then dNew id (.row st xs) (.bs id 0 n) s else if ((xs.map (LV.cls [])).all fun x=>LV.closeds x && x.all LV.one) = true then dNew id (.row st (xs.map (LV.cls []))) (.bs id 0 n) s else none:=by
 split
 ·rename_i h
  unfold dBsl
  rw [fixR_closed xs h,if_pos h]
 ·rfl
theorem dImp_agg (id l) : dImp id s (.agg l) = some (.agg l,s):=rfl
theorem dImp_int (id k n) : dImp id s (.int k n) = some (.int k n,s):=rfl
theorem dImp_bool (id b) : dImp id s (.bool b) = some (.bool b,s):=rfl
theorem dImp_vs (id b) : dImp id s (.vs b) = some (.vs b,s):=rfl
theorem dAfter_eq (id b r) : dAfter id b s r = if (b || LV.noVs r) = true then dImp id s r else none:=rfl
theorem dCall_run (E) (id f b) (c : List LV) : dCall (Run E) id f b s c = if LV.closeds c = true then (pc E f c).bind (dAfter id b s) else none:=rfl
theorem dSetBox_eq (id off cs bs) : dSetBox id off s cs (some (.box bs)) = if off + cs.length≤bs.length then okU { s with O:=oset s.O id (.box (setAt bs off cs)) } else none:=rfl
theorem apartId_ptr (id j o) : apartId id (.ptr j o) = (j != id):=rfl
theorem apartQs_nil (id) : apartQs T id [] = true:=rfl
theorem apartQs_cons (id q l) : apartQs T id (q::l) = (apartId id (tget T q) && apartQs T id l):=rfl
theorem dStore_ptr (T : Env) (F : List Env) (U O : Heap) (lvl : Nat) (qs cs id off) : dStore ⟨T,F,U,lvl⟩ O qs cs (.ptr id off) = if inSlot lvl qs id = true then dSetBox id off ⟨T,F,U,lvl⟩ cs (oget O id) else none:=rfl
theorem inSlot_eq (qs id) : inSlot lvl qs id = (qs.isEmpty || qs.contains (id / 256 - lvl * 4096)):=rfl
theorem apartV_ptr (qs id o) : apartV T qs (.ptr id o) = apartQs T id qs:=rfl
theorem apartV_fp (qs cs) : apartV T qs (.fp cs) = true:=rfl
section
variable (un qs : List Nat) (d : Nat)
theorem do_as (x) : dOp R un qs d (.as x) s = ok1 s (x.ev s.T):=rfl
theorem do_alloc (T : Env) (F : List Env) (O : Heap) (lvl : Nat) (z) : dOp R un qs d (.alloc z) ⟨T,F,O,lvl⟩ = dBox (oid lvl d) z ⟨T,F,O,lvl⟩:=rfl
theorem do_bsl (T : Env) (F : List Env) (O : Heap) (lvl : Nat) (st n z ps) : dOp R un qs d (.bsl st n z ps) ⟨T,F,O,lvl⟩ = if z.length = st then (fillS st T ps (List.replicate n z)).bind (dBsl (oid lvl d) st n ⟨T,F,O,lvl⟩) else none:=rfl
theorem do_store (T : Env) (F : List Env) (O : Heap) (lvl : Nat) (n x v) : dOp R un qs d (.store n x v) ⟨T,F,O,lvl⟩ = if (v.ev T).cells.length = n∧(v.ev T).cells.all LV.one = true∧LV.closeds (v.ev T).cells = true then dStore ⟨T,F,O,lvl⟩ (filtO lvl un O) qs (v.ev T).cells (x.ev T) else none:=rfl
theorem do_call (T : Env) (F : List Env) (O : Heap) (lvl : Nat) (f args) : dOp R un qs d (.call f args) ⟨T,F,O,lvl⟩ = dCall R (oid lvl d) f (LV.idss (evs T args)).isEmpty ⟨T,F,O,lvl⟩ (LV.cls (filtO lvl un O) (evs T args)):=rfl
theorem do_mv (x) : dOp R un qs d (.mv x) s = ok1 s (x.ev s.T):=rfl
theorem do_build (z ps) : dOp R un qs d (.build z ps) s = ((fill s.T ps z).bind aggK).bind (ok1 s):=rfl
theorem do_load (T : Env) (F : List Env) (O : Heap) (lvl : Nat) (ag n x) : dOp R un qs d (.load ag n x) ⟨T,F,O,lvl⟩ = if qs.isEmpty = true ∨ apartV T qs (x.ev T) = true then (rd (filtO lvl un O) ag n (x.ev T)).bind (ok1 ⟨T,F,O,lvl⟩) else none:=rfl
theorem do_bin (op x y) : dOp R un qs d (.bin op x y) s = (bin op (x.ev s.T) (y.ev s.T)).bind (ok1 s):=rfl
theorem do_conv (k x) : dOp R un qs d (.conv k x) s = (convV k (x.ev s.T)).bind (ok1 s):=rfl
theorem do_fad (off x) : dOp R un qs d (.fad off x) s = (fadV off (x.ev s.T)).bind (ok1 s):=rfl
theorem do_ias (T : Env) (F : List Env) (O : Heap) (lvl : Nat) (st x i) : dOp R un qs d (.ias st x i) ⟨T,F,O,lvl⟩ = (iasV (filtO lvl un O) st (x.ev T) (i.ev T)).bind (ok1 ⟨T,F,O,lvl⟩):=rfl
theorem do_iaa (len st x i) : dOp R un qs d (.iaa len st x i) s = (iaaV len st (x.ev s.T) (i.ev s.T)).bind (ok1 s):=rfl
theorem do_ixa (ag len st x i) : dOp R un qs d (.ixa ag len st x i) s = (ixaV ag len st (x.ev s.T) (i.ev s.T)).bind (ok1 s):=rfl
theorem do_len (T : Env) (F : List Env) (O : Heap) (lvl : Nat) (k x) : dOp R un qs d (.len k x) ⟨T,F,O,lvl⟩ = ((lenOf (filtO lvl un O) k (x.ev T)).bind intK).bind (ok1 ⟨T,F,O,lvl⟩):=rfl
end
-- the operations
variable (fz : Bool) (d : Nat)
theorem so_mv (x) : stepOp R fz d (.mv x) s = ok1 s (x.ev s.T):=rfl
theorem so_as (T : Env) (F : List Env) (O : Heap) (lvl : Nat) (x) : stepOp R fz d (.as x) ⟨T,F,O,lvl⟩ = asV (oid lvl d) ⟨T,F,O,lvl⟩ (x.ev T):=rfl
theorem so_pick (c a b) : stepOp R fz d (.pick c a b) s = (pickV (a.ev s.T) (b.ev s.T) (c.ev s.T)).bind (ok1 s):=rfl
theorem so_alloc (T : Env) (F : List Env) (O : Heap) (lvl : Nat) (z) : stepOp R fz d (.alloc z) ⟨T,F,O,lvl⟩ = boxV (oid lvl d) z ⟨T,F,O,lvl⟩:=rfl
theorem so_box (T : Env) (F : List Env) (O : Heap) (lvl : Nat) (x) : stepOp R fz d (.box x) ⟨T,F,O,lvl⟩ = boxV (oid lvl d) (x.ev T).cells ⟨T,F,O,lvl⟩:=rfl
theorem so_build (z ps) : stepOp R fz d (.build z ps) s = ((fill s.T ps z).bind aggK).bind (ok1 s):=rfl
theorem so_bsl (T : Env) (F : List Env) (O : Heap) (lvl : Nat) (st n z ps) : stepOp R fz d (.bsl st n z ps) ⟨T,F,O,lvl⟩ = if z.length = st then (fillS st T ps (List.replicate n z)).bind (bslK (oid lvl d) st n ⟨T,F,O,lvl⟩) else none:=rfl
theorem so_load (ag n x) : stepOp R fz d (.load ag n x) s = (rd s.O ag n (x.ev s.T)).bind (ok1 s):=rfl
theorem so_store (n x v) : stepOp R fz d (.store n x v) s = (wr s n (x.ev s.T) (v.ev s.T).cells).bind okU:=rfl
theorem so_bin (op x y) : stepOp R fz d (.bin op x y) s = (bin op (x.ev s.T) (y.ev s.T)).bind (ok1 s):=rfl
theorem so_bib (neg x y) : stepOp R fz d (.bib neg x y) s = (bibV neg (x.ev s.T) (y.ev s.T)).bind (ok1 s):=rfl
theorem so_eqa (neg ks x y) : stepOp R fz d (.eqa neg ks x y) s = (eqaV neg ks (x.ev s.T) (y.ev s.T)).bind (ok1 s):=rfl
theorem so_un (op x) : stepOp R fz d (.un op x) s = (unV op (x.ev s.T)).bind (ok1 s):=rfl
theorem so_conv (k x) : stepOp R fz d (.conv k x) s = (convV k (x.ev s.T)).bind (ok1 s):=rfl
theorem so_mkf (f a b) : stepOp R fz d (.mkf f a b) s = ok1 s (.fn f (evs s.T a) (evs s.T b)):=rfl
theorem so_mkm (T : Env) (F : List Env) (O : Heap) (lvl : Nat) : stepOp R fz d .mkm ⟨T,F,O,lvl⟩ = some (.mp (oid lvl d),St.new (oid lvl d) (.map []) ⟨T,F,O,lvl⟩):=rfl
theorem so_mks (T : Env) (F : List Env) (O : Heap) (lvl : Nat) (st z a b) : stepOp R fz d (.mks st z a b) ⟨T,F,O,lvl⟩ = mksV (oid lvl d) z ⟨T,F,O,lvl⟩ (a.ev T) (b.ev T):=rfl
theorem so_sls (st x lo hi) : stepOp R fz d (.sls st x lo hi) s = (slsV s.T s.O st lo hi (x.ev s.T)).bind (ok1 s):=rfl
theorem so_fad (off x) : stepOp R fz d (.fad off x) s = (fadV off (x.ev s.T)).bind (ok1 s):=rfl
theorem so_ias (st x i) : stepOp R fz d (.ias st x i) s = (iasV s.O st (x.ev s.T) (i.ev s.T)).bind (ok1 s):=rfl
theorem so_iaa (len st x i) : stepOp R fz d (.iaa len st x i) s = (iaaV len st (x.ev s.T) (i.ev s.T)).bind (ok1 s):=rfl
theorem so_ixa (ag len st x i) : stepOp R fz d (.ixa ag len st x i) s = (ixaV ag len st (x.ev s.T) (i.ev s.T)).bind (ok1 s):=rfl
theorem so_ixt (x i) : stepOp R fz d (.ixt x i) s = (ixtV (x.ev s.T) (i.ev s.T)).bind (ok1 s):=rfl
theorem so_lkp (ks z ok x k) : stepOp R fz d (.lkp ks z ok x k) s = ((lkpV s.O ks (k.ev s.T) (x.ev s.T)).bind (lkpK z ok)).bind (ok1 s):=rfl
theorem so_mpu (ks x k v) : stepOp R fz d (.mpu ks x k v) s = mpuV ks (k.ev s.T) (v.ev s.T) s (x.ev s.T):=rfl
theorem so_ext (x i) : stepOp R fz d (.ext x i) s = (extV i (x.ev s.T)).bind (ok1 s):=rfl
theorem so_call (T : Env) (F : List Env) (O : Heap) (lvl : Nat) (f args) : stepOp R fz d (.call f args) ⟨T,F,O,lvl⟩ = callFn R fz (oid lvl d) f (evs T args) ⟨T,F,O,lvl⟩:=rfl
theorem so_cal (T : Env) (F : List Env) (O : Heap) (lvl : Nat) (f args) : stepOp R fz d (.cal f args) ⟨T,F,O,lvl⟩ = callV R fz (oid lvl d) (f.ev T) (evs T args) ⟨T,F,O,lvl⟩:=rfl
theorem so_len (k x) : stepOp R fz d (.len k x) s = ((lenOf s.O k (x.ev s.T)).bind intK).bind (ok1 s):=rfl
theorem so_app (T : Env) (F : List Env) (O : Heap) (lvl : Nat) (st b x) : stepOp R fz d (.app st b x) ⟨T,F,O,lvl⟩ = (elems O (x.ev T)).bind (appK st (oid lvl d) (b.ev T) ⟨T,F,O,lvl⟩):=rfl
theorem so_mn (xs) : stepOp R fz d (.mn xs) s = (foldV mnI (evs s.T xs)).bind (ok1 s):=rfl
theorem so_mx (xs) : stepOp R fz d (.mx xs) s = (foldV mxI (evs s.T xs)).bind (ok1 s):=rfl
end
theorem binI_add (k x y) : binI .add k x y = some (.int k (k.wrap (x + y))):=rfl
theorem binI_sub (k x y) : binI .sub k x y = some (.int k (k.wrap (x - y))):=rfl
theorem binI_mul (k x y) : binI .mul k x y = some (.int k (k.wrap (x * y))):=rfl
theorem binI_quo (k x y) : binI .quo k x y = if y = 0 then none else some (.int k (k.wrap (x.tdiv y))):=rfl
theorem binI_rem (k x y) : binI .rem k x y = if y = 0 then none else some (.int k (x.tmod y)):=rfl
theorem binI_eql (k x y) : binI .eql k x y = some (.bool (x == y)):=rfl
theorem binI_neq (k x y) : binI .neq k x y = some (.bool (x != y)):=rfl
theorem binI_lss (k x y) : binI .lss k x y = some (.bool (decide (x < y))):=rfl
theorem binI_leq (k x y) : binI .leq k x y = some (.bool (decide (x≤y))):=rfl
theorem binI_gtr (k x y) : binI .gtr k x y = some (.bool (decide (x > y))):=rfl
theorem binI_geq (k x y) : binI .geq k x y = some (.bool (decide (x ≥ y))):=rfl
theorem bin_int (op k k' x y) : bin op (.int k x) (.int k' y) = if isShf op = true then shf op k x y else if k = k' then binI op k x y else none:=rfl
theorem bibV_eq (neg a b) : bibV neg (.bool a) (.bool b) = some (.bool ((a == b) != neg)):=rfl
theorem bin_str (op a b) : bin op (.str a) (.str b) = binT op a b:=rfl
theorem binT_eql (a b) : binT .eql a b = some (.bool (a == b)):=rfl
theorem pickV_eq (a b : LV) (t : Bool) : pickV a b (.bool t) = some (if t = true then a else b):=rfl
theorem aggK_eq (cs : List LV) : aggK cs = some (.agg cs):=rfl
theorem intK_eq (n : Int) : intK n = some (.int .i64 n):=rfl
theorem eqaK_t (b : Bool) : eqaK true b = some (.bool (!b)):=by simp [eqaK]
theorem eqaV_eq (neg ks a b) : eqaV neg ks (.agg a) (.agg b) = (eqs ks a b).bind (eqaK neg):=rfl
theorem eq1_int (k k' x y) : eq1 0 (.int k x) (.int k' y) = if k = k' then some (x == y) else none:=rfl
theorem eqs_nil : eqs [] [] [] = some true:=rfl
theorem eqs_cons (t ts x l y m) : eqs (t::ts) (x::l) (y::m) = (eq1 t x y).bind (andK (eqs ts l m)):=rfl
theorem andK_some (a b : Bool) : andK (some a) b = some (b && a):=rfl
theorem unV_neg (k n) : unV .neg (.int k n) = some (.int k (k.wrap (0 - n))):=rfl
theorem unV_not (b) : unV .not (.bool b) = some (.bool (!b)):=rfl
theorem convV_eq (k k' n) : convV k (.int k' n) = some (.int k (k.wrap n)):=rfl
theorem cells_agg (cs) : LV.cells (.agg cs) = cs:=rfl
theorem cells_int (k n) : LV.cells (.int k n) = [.int k n]:=rfl
theorem cells_bool (b) : LV.cells (.bool b) = [.bool b]:=rfl
theorem cells_str (b) : LV.cells (.str b) = [.str b]:=rfl
theorem cells_vs (b) : LV.cells (.vs b) = [.vs b]:=rfl
theorem cells_nils (st) : LV.cells (.nils st) = [.nils st]:=rfl
theorem cells_bs (a b c) : LV.cells (.bs a b c) = [.bs a b c]:=rfl
theorem rd_ptr (O ag n id off) : rd O ag n (.ptr id off) = boxPart ag off n (oget O id):=rfl
theorem rd_ep (O ag n id i off) : rd O ag n (.ep id i off) = rowPart ag i off n (oget O id):=rfl
theorem rd_fp (O ag n cs) : rd O ag n (.fp cs) = part ag 0 n cs:=rfl
theorem boxPart_eq (ag off n cs) : boxPart ag off n (some (.box cs)) = part ag off n cs:=rfl
theorem rowPart_eq (ag i off n st xs) : rowPart ag i off n (some (.row st xs)) = optPart ag off n xs[i]?:=rfl
theorem optPart_eq (ag off n x) : optPart ag off n (some x) = part ag off n x:=rfl
theorem part_t (off n cs) : part true off n cs = if off + n≤cs.length then some (.agg ((cs.drop off).take n)) else none:=rfl
theorem part_f (off n cs) : part false off n cs = cs[off]?:=rfl
-- writing
theorem wr_eq (s n x cs) : wr s n x cs = if cs.length = n∧cs.all LV.one = true then wrAt s cs x else none:=rfl
theorem wrAt_ptr (s cs id off) : wrAt s cs (.ptr id off) = (rowsOf cs (id + 1 + off) cs s).bind (wrBox id off):=rfl
theorem wrAt_ep (s cs id i off) : wrAt s cs (.ep id i off) = (closeCells s cs).bind (wrRow id i off):=rfl
theorem wrBox_eq (id off cs s) : wrBox id off (cs,s) = setBox id off s cs (oget s.O id):=rfl
theorem setBox_eq (id off T F O lvl cs bs) : setBox id off ⟨T,F,O,lvl⟩ cs (some (.box bs)) = if off + cs.length≤bs.length then some ⟨T,F,oset O id (.box (setAt bs off cs)),lvl⟩ else none:=rfl
theorem wrRow_eq (id i off cs s) : wrRow id i off (cs,s) = setRow id i off s cs (oget s.O id):=rfl
theorem setRow_eq (id i off s cs st xs) : setRow id i off s cs (some (.row st xs)) = setElt id st i off s xs cs xs[i]?:=rfl
theorem setElt_eq (id st i off T F O lvl xs cs y) : setElt id st i off ⟨T,F,O,lvl⟩ xs cs (some y) = if off + cs.length≤y.length then some ⟨T,F,oset O id (.row st (xs.set i (setAt y off cs))),lvl⟩ else none:=rfl
theorem setAt_eq (cs off vs) : setAt cs off vs = cs.take off++(vs++cs.drop (off + vs.length)):=rfl
theorem closeCells_eq (s cs) : closeCells s cs = closedK s (LV.idss cs) (LV.cls s.O cs):=rfl
theorem closedK_eq (s ids cs) : closedK s ids cs = if LV.closeds cs = true∧cs.all LV.one = true then some (cs,St.frees ids s) else none:=rfl
theorem closeRows_nil (s) : closeRows [] s = some ([],s):=rfl
theorem closeRows_cons (s x l) : closeRows (x::l) s = (closeCells s x).bind (rowsK (closeRows l)):=rfl
theorem rowsK_eq (k cs s) : rowsK k (cs,s) = (k s).bind (rowsK1 cs):=rfl
theorem rowsK1_eq (y l s) : rowsK1 y (l,s) = some (y::l,s):=rfl
theorem isNils_nils (st) : isNils (.nils st) = true:=rfl
theorem nilSt_nils (st) : nilSt (.nils st) = st:=rfl
theorem isNils_int (k n) : isNils (.int k n) = false:=rfl
theorem isNils_bool (b) : isNils (.bool b) = false:=rfl
theorem isNils_str (b) : isNils (.str b) = false:=rfl
theorem isNils_vs (b) : isNils (.vs b) = false:=rfl
theorem isNils_bs (a b c) : isNils (.bs a b c) = false:=rfl
theorem isNils_fn (a b c) : isNils (.fn a b c) = false:=rfl
theorem isNils_nilf : isNils .nilf = false:=rfl
theorem isNils_mp (a) : isNils (.mp a) = false:=rfl
theorem rowsOf_nil (all id s) : rowsOf all id [] s = some ([],s):=rfl
theorem rowsOf_cons (all id v l s) : rowsOf all id (v::l) s = if isNils v = true then (if LV.aparts id all = true then (rowsOf all (id + 1) l (St.new id (.row (nilSt v) []) s)).map (consC (.bs id 0 0)) else none) else (rowsOf all (id + 1) l s).map (consC v):=rfl
theorem consC_eq (v l s) : consC v (l,s) = (v::l,s):=rfl
theorem new_eq (id o s) : St.new id o s = St.push id o (St.free id s):=rfl
theorem push_eq (id o T F O lvl) : St.push id o ⟨T,F,O,lvl⟩ = ⟨T,F,(id,o)::O,lvl⟩:=rfl
theorem free_eq (id s) : St.free id s = freeO id s (oget s.O id):=rfl
theorem freeO_none (id s) : freeO id s none = s:=rfl
theorem freeO_some (id T F O lvl o) : freeO id ⟨T,F,O,lvl⟩ (some o) = ⟨Env.sub (repOf o) id T,Envs.sub (repOf o) id F,Heap.sub (repOf o) id (odel O id),lvl⟩:=rfl
theorem sub_eq (r id T F O lvl) : St.sub r id ⟨T,F,O,lvl⟩ = ⟨Env.sub r id T,Envs.sub r id F,Heap.sub r id O,lvl⟩:=rfl
theorem repOf_box (cs) : repOf (.box cs) = .kill:=rfl
theorem repOf_row (st xs) : repOf (.row st xs) = .frz xs:=rfl
theorem repOf_map (xs) : repOf (.map xs) = .kill:=rfl
theorem repOf_loop (a b c d e f) : repOf (.loop a b c d e f) = .kill:=rfl
theorem frees_nil (s) : St.frees [] s = s:=rfl
theorem frees_cons (i l s) : St.frees (i::l) s = St.frees l (St.free i s):=rfl
theorem esub_nil (r id) : Env.sub r id [] = []:=rfl
theorem esub_cons (r id k v l) : Env.sub r id ((k,v)::l) = (k,LV.sub r id v)::Env.sub r id l:=rfl
theorem essub_nil (r id) : Envs.sub r id [] = []:=rfl
theorem essub_cons (r id v l) : Envs.sub r id (v::l) = Env.sub r id v::Envs.sub r id l:=rfl
theorem hsub_nil (r id) : Heap.sub r id [] = []:=rfl
theorem hsub_cons (r id k v l) : Heap.sub r id ((k,v)::l) = (k,Obj.sub r id v)::Heap.sub r id l:=rfl
theorem osub_box (r id cs) : Obj.sub r id (.box cs) = .box (LV.subs r id cs):=rfl
theorem osub_row (r id st xs) : Obj.sub r id (.row st xs) = .row st xs:=rfl
theorem osub_map (r id xs) : Obj.sub r id (.map xs) = .map xs:=rfl
theorem osub_loop (r id T ps a b st p) : Obj.sub r id (.loop T ps a b st p) = .loop (Env.sub r id T) ps a b st p:=rfl
theorem rbs_kill (a b) : Rep.bs .kill a b = .any:=rfl
theorem rbs_frz (xs a b) : Rep.bs (.frz xs) a b = if a + b≤xs.length then .vs ((xs.drop a).take b) else .any:=rfl
theorem boxV_eq (id z s) : boxV id z s = if z.all LV.one = true then (rowsOf z (id + 1) z s).bind (boxK id) else none:=rfl
theorem boxK_eq (id cs s) : boxK id (cs,s) = if LV.aparts id cs = true then some (.ptr id 0,St.new id (.box cs) s) else none:=rfl
theorem afterIn_eq (lvl v T F O) : afterIn lvl (.res v (T::F) O) = popK (St.frees (idsFrom (lvl + 1) O) { T,F:=[(0,v)]::F,O,lvl }):=rfl
theorem popK_eq (T V F O lvl) : popK ⟨T,V::F,O,lvl⟩ = some (tget V 0,⟨T,F,O,lvl⟩):=rfl
theorem idsFrom_nil (lvl) : idsFrom lvl [] = []:=rfl
theorem idsFrom_cons (lvl k v l) : idsFrom lvl ((k,v)::l) = if lvl * 1048576≤k then k::idsFrom lvl l else idsFrom lvl l:=rfl
theorem asV_eq (id s v) : asV id s v = if isNils v = true then some (.bs id 0 0,St.new id (.row (nilSt v) []) s) else some (v,s):=rfl
theorem bslK_eq (id st n s xs) : bslK id st n s xs = bslJ id st n s xs (closeRows xs s):=rfl
theorem bslJ_some (id st n s xs r) : bslJ id st n s xs (some r) = rowK id st n r:=rfl
theorem rowK_eq (id st n xs s) : rowK id st n (xs,s) = some (.bs id 0 n,St.new id (.row st xs) s):=rfl
theorem fill_nil (T cs) : fill T [] cs = some cs:=rfl
theorem fill_cons (T off n x l cs) : fill T ((off,n,x)::l) cs = fillK (fill T l) cs off n (x.ev T).cells:=rfl
theorem fillK_eq (k cs off n v) : fillK k cs off n v = if v.length = n∧off + n≤cs.length∧v.all LV.one = true then k (setAt cs off v) else none:=rfl
theorem fillS_nil (st T cs) : fillS st T [] cs = some cs:=rfl
theorem fillS_cons (st T i x l cs) : fillS st T ((i,x)::l) cs = fillSK (fillS st T l) st cs i (x.ev T).cells:=rfl
theorem fillSK_eq (k st xs i v) : fillSK k st xs i v = if v.length = st∧i < xs.length∧v.all LV.one = true then k (xs.set i v) else none:=rfl
theorem fadV_ptr (o id p) : fadV o (.ptr id p) = some (.ptr id (p + o)):=rfl
theorem fadV_ep (o id i p) : fadV o (.ep id i p) = some (.ep id i (p + o)):=rfl
theorem fadV_fp (o cs) : fadV o (.fp cs) = some (.fp (cs.drop o)):=rfl
theorem fldV_agg (ag o n cs) : fldV ag o n (.agg cs) = part ag o n cs:=rfl
theorem iasV_int (O st x k n) : iasV O st x (.int k n) = iasI O st n x:=rfl
theorem iasI_vs (O st n xs) : iasI O st n (.vs xs) = if 0≤n then (xs[n.toNat]?).bind (eltK st) else none:=rfl
theorem iasI_bs (O st n id off len) : iasI O st n (.bs id off len) = iasRow st id off len n (oget O id):=rfl
theorem iasRow_eq (st id off len n st' xs) : iasRow st id off len n (some (.row st' xs)) = if 0≤n∧n < (len : Int)∧st' = st then some (.ep id (off + n.toNat) 0) else none:=rfl
theorem eltK_eq (st c) : eltK st c = if c.length = st then some (.fp c) else none:=rfl
theorem iaaV_int (len st x k n) : iaaV len st x (.int k n) = if 0≤n∧n < (len : Int) then iaaI (n.toNat * st) x else none:=rfl
theorem iaaI_ptr (o id p) : iaaI o (.ptr id p) = some (.ptr id (p + o)):=rfl
theorem iaaI_fp (o cs) : iaaI o (.fp cs) = some (.fp (cs.drop o)):=rfl
theorem ixaV_int (ag len st x k n) : ixaV ag len st x (.int k n) = if 0≤n∧n < (len : Int) then fldV ag (n.toNat * st) st x else none:=rfl
theorem ixtV_int (x k n) : ixtV x (.int k n) = ixtI n x:=rfl
theorem ixtI_str (n l) : ixtI n (.str l) = if 0≤n then (l[n.toNat]?).bind u8K else none:=rfl
theorem u8K_eq (b) : u8K b = some (u8 b):=rfl
theorem extV_tup (i l) : extV i (.tup l) = l[i]?:=rfl
theorem lenOf_vs (O xs) : lenOf O 0 (.vs xs) = some (xs.length : Int):=rfl
theorem lenOf_bs (O a b c) : lenOf O 0 (.bs a b c) = some (c : Int):=rfl
theorem lkpV_mp (O ks k id) : lkpV O ks k (.mp id) = (eqKey ks k k).bind fun _=>lkpO ks k (oget O id):=rfl
theorem lkpO_eq (ks k es) : lkpO ks k (some (.map es)) = lookupE ks k es:=rfl
theorem eqKey_eq (t ts k a) : eqKey (t::ts) k a = if isAg k = (t == 1)∧isAg a = (t == 1) then eqs ts k.cells a.cells else none:=rfl
theorem isAg_agg (cs) : isAg (.agg cs) = true:=rfl
theorem isAg_int (k n) : isAg (.int k n) = false:=rfl
theorem lookK_eq (v k b) : lookK v k b = k.bind fun r=>if b = true then some (some v) else some r:=rfl
theorem lkpK_some (z ok v) : lkpK z ok (some v) = some (if ok = true then .tup [v,.bool true] else v):=rfl
theorem lkpK_none (z ok) : lkpK z ok none = some (if ok = true then .tup [z,.bool false] else z):=rfl
theorem mpuV_mp (ks k v s id) : mpuV ks k v s (.mp id) = mpuO ks id k v s (oget s.O id):=rfl
theorem mpuO_eq (ks id k v s es) : mpuO ks id k v s (some (.map es)) = if LV.closed k = true∧LV.closed v = true then (eqKey ks k k).bind fun _=>(updE ks k v es).bind (mpuK id s) else none:=rfl
theorem mpuK_eq (id s es) : mpuK id s es = okU { s with O:=oset s.O id (.map es) }:=rfl
theorem updK_eq (k v a w l r b) : updK k v a w l r b = r.bind fun m=>if b = true then some ((k,v)::l) else consE a w m:=rfl
theorem consE_eq (a w m) : consE a w m = some ((a,w)::m):=rfl
theorem lenOf_str (O xs) : lenOf O 1 (.str xs) = some (xs.length : Int):=rfl
theorem elems_vs (O xs) : elems O (.vs xs) = some xs:=rfl
theorem elems_bs (O a b c) : elems O (.bs a b c) = rowElems b c (oget O a):=rfl
theorem rowElems_eq (a b st xs) : rowElems a b (some (.row st xs)) = if a + b≤xs.length then some ((xs.drop a).take b) else none:=rfl
theorem vsK_some (v xs) : vsK v (some xs) = .vs xs:=rfl
theorem appK_eq (st d b s ys) : appK st d b s ys = if allLen st ys = true then appV st d ys s b else none:=rfl
theorem appV_bs (st d ys s id off len) : appV st d ys s (.bs id off len) = appO st id off len ys s (oget s.O id):=rfl
theorem appO_row (st id off len ys T F O lvl st' xs) : appO st id off len ys ⟨T,F,O,lvl⟩ (some (.row st' xs)) =
  if off + len≤xs.length∧st' = st∧len + ys.length≤1000000000 then
   some (.bs id 0 (len + ys.length),St.sub .kill id ⟨T,F,oset O id (.row st ((xs.drop off).take len++ys)),lvl⟩) else none:=rfl
theorem allLen_eq (st xs) : allLen st xs = xs.all fun x=>x.length == st:=rfl
theorem mksV_int (id z s k n k' m) : mksV id z s (.int k n) (.int k' m) = if 0≤n∧n≤m∧m≤1000000000∧LV.closeds (LV.cls [] z) = true then
   some (.bs id 0 n.toNat,St.new id (.row z.length (List.replicate n.toNat (LV.cls [] z))) s) else none:=rfl
theorem foldV_cons (f v l) : foldV f (v::l) = fold2 f v l:=rfl
theorem fold2_nil (f v) : fold2 f v [] = some v:=by cases v <;> rfl
theorem fold2_cons (f k a k' b l) : fold2 f (.int k a) (.int k' b::l) = if k = k' then fold2 f (.int k (f a b)) l else none:=rfl
-- slicing
theorem bnd_none (T d l) : bnd T d l none = some d:=rfl
theorem bnd_some (T d l x) : bnd T d l (some x) = bndV l (x.ev T):=rfl
theorem bndV_int (lim : Nat) (k n) : bndV lim (.int k n) = if 0≤n∧n≤(lim : Int) then some n.toNat else none:=rfl
theorem cut_eq (T n lo hi f) : cut T n lo hi f = (bnd T n n hi).bind (cutK T lo f):=rfl
theorem cutK_eq (T lo f h) : cutK T lo f h = (bnd T 0 h lo).bind (cutK2 f h):=rfl
theorem cutK2_eq (f : Nat → Nat → LV) (h l) : cutK2 f h l = some (f h l):=rfl
theorem slsV_vs (T O st lo hi xs) : slsV T O st lo hi (.vs xs) = if allLen st xs = true then cut T xs.length lo hi (cutVs xs) else none:=rfl
theorem cutVs_eq (xs h l) : cutVs xs h l = .vs ((xs.take h).drop l):=rfl
theorem callFn_eq (R fz id f args s) : callFn R fz id f args s = callClosed R fz id f args s (LV.cls s.O args):=rfl
theorem callV_fn (R fz id f a b args s) : callV R fz id (.fn (.func f) a b) args s = callFn R fz id f (a++(args++b)) s:=rfl
theorem afterPure_eq (fz id ids s r) : afterPure fz id ids s r = if (ids.isEmpty || LV.noVs r) = true then some (import_ id s r) else some (import_ id (St.frees ids s) r):=rfl
theorem import_tup (id s l) : import_ id s (.tup l) = tupK (imports id l s):=rfl
theorem import_agg (id s l) : import_ id s (.agg l) = (.agg l,s):=rfl
theorem import_int (id s k n) : import_ id s (.int k n) = (.int k n,s):=rfl
theorem import_bool (id s b) : import_ id s (.bool b) = (.bool b,s):=rfl
theorem import_vs (id s b) : import_ id s (.vs b) = (.vs b,s):=rfl
theorem import_fn (id s a b c) : import_ id s (.fn a b c) = (.fn a b c,s):=rfl
theorem import_os (id s st xs) : import_ id s (.os st xs) = (.bs id 0 xs.length,St.new id (.row st xs) s):=rfl
theorem import_om (id s xs) : import_ id s (.om xs) = (.mp id,St.new id (.map xs) s):=rfl
theorem tupK_eq (l s) : tupK (l,s) = (.tup l,s):=rfl
theorem imports_nil (id s) : imports id [] s = ([],s):=rfl
theorem imports_cons (id v l s) : imports id (v::l) s = importsK (imports (id + 1) l) (import1 id s v):=rfl
theorem importsK_eq (k : St → List LV × St) (v s) : importsK k (v,s) = consC v (k s):=rfl
theorem import1_agg (id s l) : import1 id s (.agg l) = (.agg l,s):=rfl
theorem import1_int (id s k n) : import1 id s (.int k n) = (.int k n,s):=rfl
theorem import1_bool (id s b) : import1 id s (.bool b) = (.bool b,s):=rfl
theorem exportV_eq (O v) : exportV O v = chkR (exportR O v):=rfl
theorem chkR_eq (r) : chkR r = if LV.closedR r = true then some r else none:=rfl
theorem exportR_tup (O l) : exportR O (.tup l) = .tup (exports l O):=rfl
theorem exportR_agg (O l) : exportR O (.agg l) = .agg (LV.cls O l):=rfl
theorem exportR_int (O k n) : exportR O (.int k n) = .int k n:=rfl
theorem exportR_bool (O b) : exportR O (.bool b) = .bool b:=rfl
theorem exportR_vs (O b) : exportR O (.vs b) = .vs b:=rfl
theorem exportR_fn (O a b c) : exportR O (.fn a b c) = .fn a (LV.cls O b) (expPs O c):=rfl
theorem exportR_bs (O a b c) : exportR O (.bs a b c) = (expBs O a b c (oget O a)).1:=rfl
theorem expBs_row (O id off len st xs) : expBs O id off len (some (.row st xs)) = if off + len≤xs.length then (if off = 0 then .os st (xs.take len) else .vs ((xs.drop off).take len),odel O id) else (.bs id off len,O):=rfl
theorem exports_nil (O) : exports [] O = []:=rfl
theorem exports_cons (O v l) : exports (v::l) O = exportsK (exports l) (export1 O v):=rfl
theorem exportsK_eq (k : Heap → List LV) (v O) : exportsK k (v,O) = v::k O:=rfl
theorem export1_agg (O l) : export1 O (.agg l) = (.agg (LV.cls O l),delIds (LV.idss l) O):=rfl
theorem expPs_nil (O) : expPs O [] = []:=rfl
theorem expPs_cons (O v l) : expPs O (v::l) = expP O v::expPs O l:=rfl
theorem expP_ptr (O i o) : expP O (.ptr i o) = fpK (.ptr i o) o (oget O i):=rfl
theorem fpK_box (v o xs) : fpK v o (some (.box xs)) = if LV.closeds xs = true then .fp (xs.drop o) else v:=rfl
theorem delIds_nil (O) : delIds [] O = O:=rfl
theorem delIds_cons (i l O) : delIds (i::l) O = delIds l (odel O i):=rfl
theorem export1_int (O k n) : export1 O (.int k n) = (.int k n,O):=rfl
theorem export1_bool (O b) : export1 O (.bool b) = (.bool b,O):=rfl
theorem closedC_agg (l) : LV.closedC (.agg l) = LV.closeds l:=by simp only [LV.closedC,LV.closed]
theorem closedC_int (k n) : LV.closedC (.int k n) = true:=by simp only [LV.closedC,LV.closed]
theorem closedC_bool (b) : LV.closedC (.bool b) = true:=by simp only [LV.closedC,LV.closed]
theorem closedR_os (st xs) : LV.closedR (.os st xs) = true:=by simp only [LV.closedR,LV.closedC]
theorem closedR_tup (l) : LV.closedR (.tup l) = LV.closedRs l:=rfl
theorem closedR_agg (l) : LV.closedR (.agg l) = LV.closeds l:=by simp only [LV.closedR,LV.closedC,LV.closed]
theorem closedR_int (k n) : LV.closedR (.int k n) = true:=by simp only [LV.closedR,LV.closedC,LV.closed]
theorem closedR_bool (b) : LV.closedR (.bool b) = true:=by simp only [LV.closedR,LV.closedC,LV.closed]
theorem closedR_vs (b) : LV.closedR (.vs b) = true:=by simp only [LV.closedR,LV.closedC,LV.closed]
theorem closedR_fn (a b c) : LV.closedR (.fn a b c) = (LV.closeds b && LV.closeds c):=by simp only [LV.closedR,LV.closedC,LV.closed]
theorem endReg_eq (mask drop s) : endReg mask drop s = dropK drop (maskK mask s):=rfl
theorem maskK_some (ks T F O lvl) : maskK (some ks) ⟨T,F,O,lvl⟩ = ⟨keep T ks,F,O,lvl⟩:=rfl
theorem dropK_nil (s) : dropK [] s = s:=rfl
theorem dropK_cons (T : Env) (F : List Env) (O : Heap) (lvl : Nat) (d l) : dropK (d::l) ⟨T,F,O,lvl⟩ = St.frees (slotIds lvl (d::l) O) ⟨T,F,O,lvl⟩:=rfl
theorem keep_nil (T) : keep T [] = []:=rfl
theorem keep_cons (T k l) : keep T (k::l) = (k,tget T k)::keep T l:=rfl
theorem slotIds_nil (lvl drop) : slotIds lvl drop [] = []:=rfl
theorem slotIds_cons (lvl drop k o l) : slotIds lvl drop ((k,o)::l) = if (drop.contains (k / 256 - lvl * 4096) || drop.contains (k - lvl * 1048576 + 1000000)) = true then k::slotIds lvl drop l else slotIds lvl drop l:=rfl
theorem regR_eq (mask drop s) : regR mask drop s = some (.ex .nrm (endReg mask drop s)):=rfl
theorem res1_t (s n) : res1 s (.t n) = some (tget s.T n):=rfl
theorem res1_cell (s ag n a) : res1 s (.cell ag n a) = rd s.O ag n (tget s.T a):=rfl
theorem resultsL_nil (s) : resultsL s [] = some []:=rfl
theorem resultsL_cons (s r l) : resultsL s (r::l) = (res1 s r).bind (resultsK (resultsL s l)):=rfl
theorem resultsK_eq (k v) : resultsK k v = k.bind (consV v):=rfl
theorem consV_eq (v l) : consV v l = some (v::l):=rfl
theorem numArgs_nil (i) : numArgs i [] = []:=rfl
theorem numArgs_cons (i v l) : numArgs i (v::l) = (i,v)::numArgs (i + 1) l:=rfl
end
end Go.Zv
