/- The engine, part 25: what an operation of a drawn region does: a value, new objects, one change. -/
import Derived.Test.YtojjdhdflhcdkaaZvS19
namespace Go.Zv
set_option autoImplicit false
set_option linter.unusedVariables false
set_option linter.unusedSimpArgs false

structure Dl where
  v : LV
  news : List (Nat × Obj)
  upd : Option (Nat × Obj)
def dlV (v : LV) : Option Dl := some ⟨v, [], none⟩

def rowsN : Nat → List LV → List LV × List (Nat × Obj)
  | _, [] => ([], [])
  | id, v :: l => if isNils v = true then (.bs id 0 0 :: (rowsN (id + 1) l).1, (id, .row (nilSt v) []) :: (rowsN (id + 1) l).2) else (v :: (rowsN (id + 1) l).1, (rowsN (id + 1) l).2)
def deltaBox (id : Nat) (z : List LV) : Option Dl :=
  if z.all LV.one = true ∧ z.length < 200 then some ⟨.ptr id 0, (rowsN (id + 1) z).2 ++ [(id, .box (rowsN (id + 1) z).1)], none⟩ else none
def deltaBsl (id st n : Nat) (xs : List (List LV)) : Option Dl :=
  if (xs.all fun x => LV.closeds x && x.all LV.one) = true then some ⟨.bs id 0 n, [(id, .row st xs)], none⟩ else none
def imp1N (id : Nat) : LV → Option (LV × List (Nat × Obj))
  | .os st xs => some (.bs id 0 xs.length, [(id, .row st xs)])
  | .om _ => none
  | v => some (v, [])
def impsNK (k : Option (List LV × List (Nat × Obj))) (r : LV × List (Nat × Obj)) : Option (List LV × List (Nat × Obj)) := k.map fun q => (r.1 :: q.1, r.2 ++ q.2)
def impsN : Nat → List LV → Option (List LV × List (Nat × Obj))
  | _, [] => some ([], [])
  | id, v :: l => (imp1N id v).bind (impsNK (impsN (id + 1) l))
def impN (id : Nat) : LV → Option (LV × List (Nat × Obj))
  | .tup vs => if vs.length < 200 then (impsN id vs).map fun q => (.tup q.1, q.2) else none
  | v => imp1N id v
def deltaAfter (id : Nat) (b : Bool) (r : LV) : Option Dl := if (b || LV.noVs r) = true then (impN id r).map fun q => ⟨q.1, q.2, none⟩ else none
def deltaCall (R : Orc) (id : Nat) (f : FuncId) (b : Bool) (c : List LV) : Option Dl :=
  if LV.closeds c = true then (pureCall R f c).bind (deltaAfter id b) else none
def deltaCal (R : Orc) (id : Nat) (V : Heap) (args : List LV) : LV → Option Dl
  | .fn (.func f) first cap => deltaCall R id f (LV.idss (first ++ (args ++ cap))).isEmpty (LV.cls V (first ++ (args ++ cap)))
  | _ => none
def setBoxD (id off : Nat) (cs : List LV) : Option Obj → Option Dl
  | some (.box bs) => if off + cs.length ≤ bs.length then some ⟨.undef, [], some (id, .box (setAt bs off cs))⟩ else none
  | _ => none
def setEltD (id st i off : Nat) (xs : List (List LV)) (cs : List LV) : Option (List LV) → Option Dl
  | some y => if off + cs.length ≤ y.length then some ⟨.undef, [], some (id, .row st (xs.set i (setAt y off cs)))⟩ else none
  | none => none
def setRowD (id i off : Nat) (cs : List LV) : Option Obj → Option Dl
  | some (.row st xs) => setEltD id st i off xs cs xs[i]?
  | _ => none
def deltaStore (lvl : Nat) (V : Heap) (qs : List Nat) (cs : List LV) : LV → Option Dl
  | .ptr id off => if inSlot lvl qs id = true then setBoxD id off cs (oget V id) else none
  | .ep id i off => if inSlot lvl qs id = true then setRowD id i off cs (oget V id) else none
  | _ => none
def deltaMks (id : Nat) (z : List LV) : LV → LV → Option Dl
  | .int _ n, .int _ m => if 0 ≤ n ∧ n ≤ m ∧ m ≤ 1000000000 ∧ LV.closeds (LV.cls [] z) = true ∧ (LV.cls [] z).all LV.one = true then
      some ⟨.bs id 0 n.toNat, [(id, .row z.length (List.replicate n.toNat (LV.cls [] z)))], none⟩ else none
  | _, _ => none
def delta (R : Orc) (qs : List Nat) (lvl d : Nat) (op : AOp) (T : Env) (V : Heap) : Option Dl :=
  match op with
  | .as x => dlV (x.ev T)
  | .alloc z => deltaBox (oid lvl d) z
  | .box x => deltaBox (oid lvl d) (x.ev T).cells
  | .bsl st n z ps => if z.length = st then (fillS st T ps (List.replicate n z)).bind (deltaBsl (oid lvl d) st n) else none
  | .store n x v => if (v.ev T).cells.length = n ∧ (v.ev T).cells.all LV.one = true ∧ LV.closeds (v.ev T).cells = true then deltaStore lvl V qs (v.ev T).cells (x.ev T) else none
  | .call f args => deltaCall R (oid lvl d) f (LV.idss (evs T args)).isEmpty (LV.cls V (evs T args))
  | .cal f args => deltaCal R (oid lvl d) V (evs T args) (f.ev T)
  | .mks _st z len cap => deltaMks (oid lvl d) z (len.ev T) (cap.ev T)
  | .load ag n x => if qs.isEmpty = true ∨ apartV T qs (x.ev T) = true then (rd V ag n (x.ev T)).bind dlV else none
  | .mkm | .mpu .. | .bad | .app .. | .apz .. | .cpy .. => none
  | op => (valOp T V op).bind dlV

def pushAll : List (Nat × Obj) → Heap → Heap
  | [], O => O
  | p :: l, O => pushAll l (p :: O)
def freshAll : List (Nat × Obj) → Heap → Bool
  | [], _ => true
  | p :: l, O => (oget O p.1).isNone && freshAll l (p :: O)
def updO : Option (Nat × Obj) → Heap → Heap
  | some (id, o), O => oset O id o
  | none, O => O
def applyD (s : St) (dl : Dl) : Option (LV × St) := if freshAll dl.news s.O = true then some (dl.v, { s with O := updO dl.upd (pushAll dl.news s.O) }) else none

theorem pushAll_append (l m : List (Nat × Obj)) (O : Heap) : pushAll (l ++ m) O = pushAll m (pushAll l O) := by
  induction l generalizing O with
  | nil => rfl
  | cons p l ih => exact ih (p :: O)
theorem freshAll_append (l m : List (Nat × Obj)) (O : Heap) : freshAll (l ++ m) O = (freshAll l O && freshAll m (pushAll l O)) := by
  induction l generalizing O with
  | nil => simp [freshAll, pushAll]
  | cons p l ih => simp [freshAll, pushAll, ih, Bool.and_assoc]

theorem dRows_ap : ∀ (z : List LV) (id : Nat) (s : St), dRows id z s = if freshAll (rowsN id z).2 s.O = true then some ((rowsN id z).1, { s with O := pushAll (rowsN id z).2 s.O }) else none
  | [], id, s => by simp [dRows, rowsN, freshAll, pushAll]
  | v :: l, id, s => by
    simp only [dRows, rowsN]
    split
    · cases ho : oget s.O id with
      | none =>
        simp only [dRowsK, dRows_ap l (id + 1), St.push, freshAll, ho, Option.isNone_none, Bool.true_and, pushAll]
        split <;> rfl
      | some o => simp [dRowsK, freshAll, ho]
    · simp only [dRows_ap l (id + 1)]
      split <;> rfl
theorem dNew_ap (id : Nat) (o : Obj) (v : LV) (s : St) : dNew id o v s = applyD s ⟨v, [(id, o)], none⟩ := by
  simp only [dNew, applyD, freshAll, Bool.and_true, pushAll, updO, St.push]
  cases oget s.O id <;> rfl
theorem dBox_ap (id : Nat) (z : List LV) (s : St) : dBox id z s = (deltaBox id z).bind (applyD s) := by
  unfold dBox deltaBox
  split
  · rw [dRows_ap]
    simp only [Option.bind_some, applyD, freshAll_append, pushAll_append, updO]
    split
    · rename_i h
      simp only [Option.bind_some, dBoxK, dNew_ap, applyD, h, Bool.true_and, updO]
    · rename_i h
      simp [h]
  · rfl
theorem dBsl_ap (id st n : Nat) (s : St) (xs : List (List LV)) : dBsl id st n s xs = (deltaBsl id st n xs).bind (applyD s) := by
  unfold dBsl deltaBsl
  split
  · rw [dNew_ap]; rfl
  · rfl
theorem dImp1_ap (id : Nat) (s : St) (v : LV) : dImp1 id s v = (imp1N id v).bind fun q => applyD s ⟨q.1, q.2, none⟩ := by
  cases v <;> first | rfl | (simp only [dImp1, imp1N, dNew_ap, Option.bind_some])
theorem applyD_v (s : St) (v : LV) (l : List (Nat × Obj)) : applyD s ⟨v, l, none⟩ = if freshAll l s.O = true then some (v, { s with O := pushAll l s.O }) else none := rfl
theorem dImps_ap : ∀ (l : List LV) (id : Nat) (s : St), dImps id l s = (impsN id l).bind fun q => if freshAll q.2 s.O = true then some (q.1, { s with O := pushAll q.2 s.O }) else none
  | [], id, s => by simp [dImps, impsN, freshAll, pushAll]
  | v :: l, id, s => by
    simp only [dImps, impsN, dImp1_ap]
    cases h1 : imp1N id v with
    | none => rfl
    | some q =>
      simp only [Option.bind_some, applyD_v, impsNK]
      by_cases hf : freshAll q.2 s.O = true
      · simp only [hf, if_true, Option.bind_some, dImpsK, dImps_ap l (id + 1)]
        cases h2 : impsN (id + 1) l with
        | none => rfl
        | some r =>
          simp only [Option.bind_some, Option.map_some, freshAll_append, hf, Bool.true_and, pushAll_append]
          split <;> rfl
      · rw [if_neg hf]
        cases h2 : impsN (id + 1) l with
        | none => rfl
        | some r => simp [freshAll_append, hf]
theorem imp_nt {id : Nat} {s : St} {v : LV} (h : ∀ vs, v ≠ .tup vs) : dImp id s v = dImp1 id s v ∧ impN id v = imp1N id v := by
  cases v <;> first | exact ⟨rfl, rfl⟩ | exact absurd rfl (h _)
theorem dImp_ap (id : Nat) (s : St) (v : LV) : dImp id s v = (impN id v).bind fun q => applyD s ⟨q.1, q.2, none⟩ := by
  by_cases ht : ∃ vs, v = .tup vs
  · obtain ⟨vs, rfl⟩ := ht
    simp only [dImp, impN]
    split
    · rw [dImps_ap]
      cases h : impsN id vs with
      | none => rfl
      | some q =>
        simp only [Option.bind_some, Option.map_some, applyD_v]
        split <;> rfl
    · rfl
  · obtain ⟨h1, h2⟩ := imp_nt (id := id) (s := s) (v := v) fun vs e => ht ⟨vs, e⟩
    rw [h1, h2]; exact dImp1_ap _ _ _
theorem dCall_ap (R : Orc) (id : Nat) (f : FuncId) (b : Bool) (s : St) (c : List LV) : dCall R id f b s c = (deltaCall R id f b c).bind (applyD s) := by
  unfold dCall deltaCall
  split
  · cases pureCall R f c with
    | none => rfl
    | some r =>
      simp only [Option.bind_some, dAfter, deltaAfter]
      split
      · rw [dImp_ap]; cases impN id r <;> rfl
      · rfl
  · rfl
theorem dStore_ap (s : St) (V : Heap) (qs : List Nat) (cs : List LV) (x : LV) : dStore s V qs cs x = (deltaStore s.lvl V qs cs x).bind (applyD s) := by
  cases x <;> try rfl
  · rename_i id off
    simp only [dStore, deltaStore]
    split
    · cases oget V id with
      | none => rfl
      | some o => cases o with
        | box bs => simp only [dSetBox, setBoxD]; split <;> rfl
        | _ => rfl
    · rfl
  · rename_i id i off
    simp only [dStore, deltaStore]
    split
    · cases oget V id with
      | none => rfl
      | some o => cases o with
        | row st xs =>
          simp only [dSetRow, setRowD]
          cases xs[i]? with
          | none => rfl
          | some y => simp only [dSetElt, setEltD]; split <;> rfl
        | _ => rfl
    · rfl
theorem dMks_ap (id : Nat) (z : List LV) (s : St) (x y : LV) : dMks id z s x y = (deltaMks id z x y).bind (applyD s) := by
  cases x <;> try rfl
  cases y <;> try rfl
  simp only [dMks, deltaMks]
  split
  · rw [dNew_ap]; rfl
  · rfl
theorem val_eq (s : St) (o : Option LV) : o.bind (ok1 s) = (o.bind dlV).bind (applyD s) := by cases o <;> rfl

theorem dOp_delta (R : Orc) (un qs : List Nat) (d : Nat) (op : AOp) (s : St) : dOp R un qs d op s = (delta R qs s.lvl d op s.T (filtO s.lvl un s.O)).bind (applyD s) := by
  cases op <;> first
    | rfl
    | exact dBox_ap ..
    | exact dCall_ap ..
    | exact dMks_ap ..
    | exact val_eq ..
    | skip
  case bsl st n z ps =>
    simp only [dOp, delta]
    split
    · cases fillS st s.T ps (List.replicate n z) with
      | none => rfl
      | some xs => exact dBsl_ap ..
    · rfl
  case load ag n x =>
    simp only [dOp, delta]
    split
    · exact val_eq ..
    · rfl
  case store n x v =>
    simp only [dOp, delta]
    split
    · exact dStore_ap ..
    · rfl
  case cal f args =>
    simp only [dOp, delta]
    cases h : f.ev s.T <;> try rfl
    rename_i fn first cap
    cases fn <;> first | rfl | exact dCall_ap ..
end Go.Zv
