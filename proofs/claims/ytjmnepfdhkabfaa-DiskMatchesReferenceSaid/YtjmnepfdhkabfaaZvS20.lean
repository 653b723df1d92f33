/- The engine, part 25: what an operation of a drawn region does: a value, new objects, one change. -/
import Derived.Test.YtjmnepfdhkabfaaZvS19
namespace Go.Zv
set_option autoImplicit false
set_option linter.unusedVariables false
set_option linter.unusedSimpArgs false

theorem pushAll_append (l m : List (Nat × Obj)) (O : Heap) : pushAll (l ++ m) O = pushAll m (pushAll l O) := by
  induction l generalizing O with
  | nil => rfl
  | cons p l ih => exact ih (p :: O)
theorem freshAll_append (l m : List (Nat × Obj)) (O : Heap) : freshAll (l ++ m) O = (freshAll l O && freshAll m (pushAll l O)) := by
  induction l generalizing O with
  | nil => simp [freshAll, pushAll]
  | cons p l ih => simp [freshAll, pushAll, ih, Bool.and_assoc]

theorem dRows_ap : ∀ (z : List LV) (id : Nat) (s : St), dRows id z s = if freshAll (rowsN id z).2 s.O = true then some ((rowsN id z).1, { s with O := pushAll (rowsN id z).2 s.O }) else none
  | [], id, s => by simp [dRows, rowsN, freshAll, pushAll]
  | v :: l, id, s => by
    simp only [dRows, rowsN]
    split
    · cases ho : oget s.O id with
      | none =>
        simp only [dRowsK, dRows_ap l (id + 1), St.push, freshAll, ho, Option.isNone_none, Bool.true_and, pushAll]
        split <;> rfl
      | some o => simp [dRowsK, freshAll, ho]
    · simp only [dRows_ap l (id + 1)]
      split <;> rfl
theorem dNew_ap (id : Nat) (o : Obj) (v : LV) (s : St) : dNew id o v s = applyD s ⟨v, [(id, o)], none⟩ := by
  simp only [dNew, applyD, freshAll, Bool.and_true, pushAll, updO, St.push]
  cases oget s.O id <;> rfl
theorem dBox_ap (id : Nat) (z : List LV) (s : St) : dBox id z s = (deltaBox id z).bind (applyD s) := by
  unfold dBox deltaBox
  split
  · rw [dRows_ap]
    simp only [Option.bind_some, applyD, freshAll_append, pushAll_append, updO]
    split
    · rename_i h
      simp only [Option.bind_some, dBoxK, dNew_ap, applyD, h, Bool.true_and, updO]
    · rename_i h
      simp [h]
  · rfl
theorem dBsl_ap (id st n : Nat) (s : St) (xs : List (List LV)) : dBsl id st n s xs = (deltaBsl id st n xs).bind (applyD s) := by
  unfold dBsl deltaBsl
  split
  · rw [dNew_ap]; rfl
  · rfl
theorem dImp1_ap (id : Nat) (s : St) (v : LV) : dImp1 id s v = (imp1N id v).bind fun q => applyD s ⟨q.1, q.2, none⟩ := by
  cases v <;> first | rfl | (simp only [dImp1, imp1N, dNew_ap, Option.bind_some])
theorem applyD_v (s : St) (v : LV) (l : List (Nat × Obj)) : applyD s ⟨v, l, none⟩ = if freshAll l s.O = true then some (v, { s with O := pushAll l s.O }) else none := rfl
theorem dImps_ap : ∀ (l : List LV) (id : Nat) (s : St), dImps id l s = (impsN id l).bind fun q => if freshAll q.2 s.O = true then some (q.1, { s with O := pushAll q.2 s.O }) else none
  | [], id, s => by simp [dImps, impsN, freshAll, pushAll]
  | v :: l, id, s => by
    simp only [dImps, impsN, dImp1_ap]
    cases h1 : imp1N id v with
    | none => rfl
    | some q =>
      simp only [Option.bind_some, applyD_v, impsNK]
      by_cases hf : freshAll q.2 s.O = true
      · simp only [hf, if_true, Option.bind_some, dImpsK, dImps_ap l (id + 1)]
        cases h2 : impsN (id + 1) l with
        | none => rfl
        | some r =>
          simp only [Option.bind_some, Option.map_some, freshAll_append, hf, Bool.true_and, pushAll_append]
          split <;> rfl
      · rw [if_neg hf]
        cases h2 : impsN (id + 1) l with
        | none => rfl
        | some r => simp [freshAll_append, hf]
theorem imp_nt {id : Nat} {s : St} {v : LV} (h : ∀ vs, v ≠ .tup vs) : dImp id s v = dImp1 id s v ∧ impN id v = imp1N id v := by
  cases v <;> first | exact ⟨rfl, rfl⟩ | exact absurd rfl (h _)
theorem dImp_ap (id : Nat) (s : St) (v : LV) : dImp id s v = (impN id v).bind fun q => applyD s ⟨q.1, q.2, none⟩ := by
  by_cases ht : ∃ vs, v = .tup vs
  · obtain ⟨vs, rfl⟩ := ht
    simp only [dImp, impN]
    split
    · rw [dImps_ap]
      cases h : impsN id vs with
      | none => rfl
      | some q =>
        simp only [Option.bind_some, Option.map_some, applyD_v]
        split <;> rfl
    · rfl
  · obtain ⟨h1, h2⟩ := imp_nt (id := id) (s := s) (v := v) fun vs e => ht ⟨vs, e⟩
    rw [h1, h2]; exact dImp1_ap _ _ _
theorem dCall_ap (R : Orc) (id : Nat) (f : FuncId) (b : Bool) (s : St) (c : List LV) : dCall R id f b s c = (deltaCall R id f b c).bind (applyD s) := by
  unfold dCall deltaCall
  split
  · cases pureCall R f c with
    | none => rfl
    | some r =>
      simp only [Option.bind_some, dAfter, deltaAfter]
      split
      · rw [dImp_ap]; cases impN id r <;> rfl
      · rfl
  · rfl
theorem dStore_ap (s : St) (V : Heap) (qs : List Nat) (cs : List LV) (x : LV) : dStore s V qs cs x = (deltaStore s.lvl V qs cs x).bind (applyD s) := by
  cases x <;> try rfl
  · rename_i id off
    simp only [dStore, deltaStore]
    split
    · cases oget V id with
      | none => rfl
      | some o => cases o with
        | box bs => simp only [dSetBox, setBoxD]; split <;> rfl
        | _ => rfl
    · rfl
  · rename_i id i off
    simp only [dStore, deltaStore]
    split
    · cases oget V id with
      | none => rfl
      | some o => cases o with
        | row st xs =>
          simp only [dSetRow, setRowD]
          cases xs[i]? with
          | none => rfl
          | some y => simp only [dSetElt, setEltD]; split <;> rfl
        | _ => rfl
    · rfl
theorem dMks_ap (id : Nat) (z : List LV) (s : St) (x y : LV) : dMks id z s x y = (deltaMks id z x y).bind (applyD s) := by
  cases x <;> try rfl
  cases y <;> try rfl
  simp only [dMks, deltaMks]
  split
  · rw [dNew_ap]; rfl
  · rfl
theorem val_eq (s : St) (o : Option LV) : o.bind (ok1 s) = (o.bind dlV).bind (applyD s) := by cases o <;> rfl

theorem dOp_delta (R : Orc) (un qs : List Nat) (d : Nat) (op : AOp) (s : St) : dOp R un qs d op s = (delta R qs s.lvl d op s.T (filtO s.lvl un s.O)).bind (applyD s) := by
  cases op <;> first
    | rfl
    | exact dBox_ap ..
    | exact dCall_ap ..
    | exact dMks_ap ..
    | exact val_eq ..
    | skip
  case bsl st n z ps =>
    simp only [dOp, delta]
    split
    · cases fillS st s.T ps (List.replicate n z) with
      | none => rfl
      | some xs => exact dBsl_ap ..
    · rfl
  case load ag n x =>
    simp only [dOp, delta]
    split
    · exact val_eq ..
    · rfl
  case store n x v =>
    simp only [dOp, delta]
    split
    · exact dStore_ap ..
    · rfl
  case cal f args =>
    simp only [dOp, delta]
    cases h : f.ev s.T <;> try rfl
    rename_i fn first cap
    cases fn <;> first | rfl | exact dCall_ap ..
end Go.Zv
