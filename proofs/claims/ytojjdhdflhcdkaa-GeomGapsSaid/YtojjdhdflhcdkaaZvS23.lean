/- The engine, part 28: an operation of a drawn region is sound. -/
import Derived.Test.YtojjdhdflhcdkaaZvS22
namespace Go.Zv
set_option autoImplicit false
set_option linter.unusedVariables false
set_option linter.unusedSimpArgs false
section
variable {P : Program} {c : Cx} {w w' : World} {s : St} {tmps : Array Value} {Ts : List (Array Value)}

/-- fewer objects -/
def Sub (V O : Heap) : Prop := ∀ id o, oget V id = some o → oget O id = some o
theorem sub_filt (lvl : Nat) (un : List Nat) (O : Heap) : Sub (filtO lvl un O) O := fun id o h => by
  rw [oget_filt] at h
  split at h
  · cases h
  · exact h
theorem rd_sub {V O : Heap} (h : Sub V O) {ag : Bool} {n : Nat} {x v : LV} (hr : rd V ag n x = some v) : rd O ag n x = some v := by
  cases x <;> simp only [rd] at hr ⊢
  all_goals first
    | exact hr
    | (cases ho : oget V _ with
       | none => rw [ho] at hr; cases hr
       | some o => rw [ho] at hr; rw [h _ _ ho]; exact hr)
theorem elems_sub {V O : Heap} (h : Sub V O) {x : LV} {v : List (List LV)} (hr : elems V x = some v) : elems O x = some v := by
  cases x <;> simp only [elems] at hr ⊢
  all_goals first
    | exact hr
    | (cases ho : oget V _ with
       | none => rw [ho] at hr; cases hr
       | some o => rw [ho] at hr; rw [h _ _ ho]; exact hr)
theorem len_sub {V O : Heap} (h : Sub V O) {k : Nat} {x : LV} {v : Int} (hr : lenOf V k x = some v) : lenOf O k x = some v := by
  by_cases hm : k = 2 ∧ ∃ id, x = .mp id
  · obtain ⟨rfl, id, rfl⟩ := hm
    simp only [lenOf] at hr ⊢
    cases ho : oget V id with
    | none => rw [ho] at hr; cases hr
    | some o => rw [ho] at hr; rw [h _ _ ho]; exact hr
  · have e : lenOf O k x = lenOf V k x := by
      unfold lenOf
      split <;> first
        | rfl
        | exact absurd ⟨rfl, _, rfl⟩ hm
    rw [e]; exact hr
theorem lkp_sub {V O : Heap} (h : Sub V O) {ks : List Nat} {k x : LV} {v : Option LV} (hr : lkpV V ks k x = some v) : lkpV O ks k x = some v := by
  cases x <;> simp only [lkpV] at hr ⊢
  all_goals first
    | exact hr
    | (obtain ⟨b, hb, hr⟩ := Option.bind_eq_some_iff.1 hr
       rw [hb]
       simp only [Option.bind_some]
       cases ho : oget V _ with
       | none => rw [ho] at hr; cases hr
       | some o => rw [ho] at hr; rw [h _ _ ho]; exact hr)
theorem ias_sub {V O : Heap} (h : Sub V O) {st : Nat} {x i v : LV} (hr : iasV V st x i = some v) : iasV O st x i = some v := by
  cases i <;> simp only [iasV] at hr ⊢
  all_goals first
    | exact hr
    | skip
  cases x <;> simp only [iasI] at hr ⊢
  all_goals first
    | exact hr
    | (cases ho : oget V _ with
       | none => rw [ho] at hr; cases hr
       | some o => rw [ho] at hr; rw [h _ _ ho]; exact hr)
theorem sls_sub {V O : Heap} (h : Sub V O) {T : Env} {st : Nat} {lo hi : Option Opd} {x v : LV} (hr : slsV T V st lo hi x = some v) : slsV T O st lo hi x = some v := by
  cases x <;> simp only [slsV] at hr ⊢
  all_goals first
    | exact hr
    | (cases ho : oget V _ with
       | none => rw [ho] at hr; cases hr
       | some o => rw [ho] at hr; rw [h _ _ ho]; exact hr)
theorem valOp_sub {V O : Heap} (h : Sub V O) {T : Env} {op : AOp} {v : LV} (hr : valOp T V op = some v) : valOp T O op = some v := by
  cases op <;> simp only [valOp] at hr ⊢
  all_goals first
    | exact hr
    | exact rd_sub h hr
    | exact ias_sub h hr
    | exact sls_sub h hr
    | (obtain ⟨b, hb, hr⟩ := Option.bind_eq_some_iff.1 hr
       first
         | (rw [elems_sub h hb]; exact hr)
         | (rw [len_sub h hb]; exact hr)
         | (rw [lkp_sub h hb]; exact hr))

theorem io_none (H : SR P c s tmps Ts w) {id : Nat} (h : oget s.O id = none) : c.io id = none := by
  cases hi : c.io id with
  | none => rfl
  | some hh => obtain ⟨o, e⟩ := H.dom id hh hi; rw [h] at e; cases e
theorem aparts_of {id : Nat} : ∀ {l : List LV}, (∀ (i : Nat) (x : LV), l[i]? = some x → LV.apart id x = true) → LV.aparts id l = true
  | [], _ => rfl
  | v :: l, h => by
    simp only [LV.aparts, Bool.and_eq_true]
    exact ⟨h 0 v rfl, aparts_of fun i x hx => h (i + 1) x (by simpa using hx)⟩
theorem VR.apart_of {id : Nat} (hn : c.io id = none) {x : LV} {v : Value} (h : VR c x v) : LV.apart id x = true := by
  have ne : ∀ {j : Nat} {hh : Home}, c.io j = some hh → (j != id) = true := fun {j hh} hj => by
    simp only [bne_iff_ne, ne_eq]
    intro e; subst e; rw [hn] at hj; cases hj
  induction h with
  | agg cs vs hl h ih =>
    exact aparts_of fun i x hx => by
      have hi : i < cs.length := (List.getElem?_eq_some_iff.1 hx).1
      exact ih i x _ hx (List.getElem?_eq_getElem (hl ▸ hi))
  | tup cs vs hl h ih =>
    exact aparts_of fun i x hx => by
      have hi : i < cs.length := (List.getElem?_eq_some_iff.1 hx).1
      exact ih i x _ hx (List.getElem?_eq_getElem (hl ▸ hi))
  | fn f xs ys us vs hl hl2 h h2 ih ih2 =>
    simp only [LV.apart, Bool.and_eq_true]
    exact ⟨aparts_of fun i x hx => by
      have hi : i < xs.length := (List.getElem?_eq_some_iff.1 hx).1
      exact ih i x _ hx (List.getElem?_eq_getElem (hl ▸ hi)), aparts_of fun i x hx => by
      have hi : i < ys.length := (List.getElem?_eq_some_iff.1 hx).1
      exact ih2 i x _ hx (List.getElem?_eq_getElem (hl2 ▸ hi))⟩
  | bs id off len h a cap hcap hi h0 h1 => exact ne hi
  | bb id off st len h a cap hcap hi h1 => exact ne hi
  | ptr id off h hi => exact ne hi
  | ep id i off h hi hn => exact ne hi
  | mp id h hi => exact ne hi
  | yl id h hi => exact ne hi
  | _ => rfl
theorem free_none {id : Nat} (h : oget s.O id = none) : St.free id s = s := by unfold St.free; rw [h]; rfl
theorem new_push {id : Nat} (o : Obj) (h : oget s.O id = none) : St.new id o s = St.push id o s := by unfold St.new; rw [free_none h]

theorem rows_d {all : List LV} {O0 : Heap} (hap : ∀ id, oget O0 id = none → LV.aparts id all = true) : ∀ {l : List LV} {id : Nat} {s : St} {r : List LV × St}, (∀ j, oget s.O j = none → oget O0 j = none) → dRows id l s = some r → rowsOf all id l s = some r
  | [], id, s, r, _, h => h
  | v :: l, id, s, r, hs, h => by
    simp only [dRows] at h
    simp only [rowsOf]
    split at h
    · rename_i hn
      rw [if_pos hn]
      cases ho : oget s.O id with
      | some o => rw [ho] at h; cases h
      | none =>
        rw [ho] at h
        simp only [dRowsK] at h
        rw [if_pos (hap id (hs id ho)), new_push _ ho]
        obtain ⟨q, hq, rfl⟩ := Option.map_eq_some_iff.1 h
        rw [rows_d hap (fun j hj => ?_) hq]
        · rfl
        · refine hs j ?_
          simp only [St.push, oget] at hj
          split at hj
          · cases hj
          · exact hj
    · rename_i hn
      rw [if_neg hn]
      obtain ⟨q, hq, rfl⟩ := Option.map_eq_some_iff.1 h
      rw [rows_d hap hs hq]; rfl
theorem aparts_rowsN {id : Nat} : ∀ (l : List LV) (k : Nat), id < k → LV.aparts id l = true → LV.aparts id (rowsN k l).1 = true
  | [], _, _, _ => rfl
  | v :: l, k, hk, h => by
    simp only [LV.aparts, Bool.and_eq_true] at h
    simp only [rowsN]
    split
    · simp only [LV.aparts, LV.apart, Bool.and_eq_true]
      exact ⟨by simp; omega, aparts_rowsN l (k + 1) (by omega) h.2⟩
    · simp only [LV.aparts, Bool.and_eq_true]
      exact ⟨h.1, aparts_rowsN l (k + 1) (by omega) h.2⟩
theorem box_d (H : SR P c s tmps Ts w) {z : List LV} {vals : List Value} (hv : VRs c z vals) {id : Nat} {r : LV × St} (h : dBox id z s = some r) : boxV id z s = some r := by
  unfold dBox at h
  split at h
  · rename_i hz
    obtain ⟨q, hq, h⟩ := Option.bind_eq_some_iff.1 h
    have hap : ∀ id, oget s.O id = none → LV.aparts id z = true := fun id ho => aparts_of fun i x hx => by
      obtain ⟨v, _, hxv⟩ := hv.getSome hx
      exact hxv.apart_of (io_none H ho)
    unfold boxV
    rw [if_pos hz.1, rows_d hap (fun j hj => hj) hq, Option.bind_some]
    simp only [dBoxK, dNew] at h
    cases ho : oget q.2.O id with
    | some o => rw [ho] at h; cases h
    | none =>
      rw [ho] at h
      simp only [putO] at h
      have hq2 := hq
      rw [dRows_ap] at hq2
      split at hq2
      · simp only [Option.some.injEq] at hq2
        have ho0 : oget s.O id = none := by
          rw [← hq2] at ho
          have := oget_push id (rowsN (id + 1) z).2 s.O fun p hp e => by have := rowsN_ids z (id + 1) p hp; omega
          rw [← this]; exact ho
        have : LV.aparts id q.1 = true := by rw [← hq2]; exact aparts_rowsN z (id + 1) (by omega) (hap id ho0)
        simp only [boxK]
        rw [if_pos this, new_push _ ho]; exact h
      · cases hq2
  · cases h


end
mutual
theorem cl_closed : ∀ v : LV, LV.closed v = true → (∀ O : Heap, LV.cl O v = v) ∧ LV.ids v = []
  | .agg cs, h => by
    have := cls_closed cs (by simpa [LV.closed] using h)
    exact ⟨fun O => by simp only [LV.cl, this.1 O], by simp only [LV.ids, this.2]⟩
  | .tup cs, h => by
    have := cls_closed cs (by simpa [LV.closed] using h)
    exact ⟨fun O => by simp only [LV.cl, this.1 O], by simp only [LV.ids, this.2]⟩
  | .fn f a b, h => by
    simp only [LV.closed, Bool.and_eq_true] at h
    have h1 := cls_closed a h.1
    have h2 := cls_closed b h.2
    exact ⟨fun O => by simp only [LV.cl, h1.1 O, h2.1 O], by simp [LV.ids, h1.2, h2.2]⟩
  | .bs .., h | .bb .., h | .ptr .., h | .ep .., h | .mp .., h | .yl .., h | .nils _, h | .os .., h | .om .., h => by simp [LV.closed] at h
  | .any, _ | .undef, _ | .int .., _ | .bool _, _ | .str _, _ | .vs _, _ | .nul, _ | .emp, _ | .fp _, _ | .nilp, _ | .nilf, _ | .nilm, _ => ⟨fun _ => by simp only [LV.cl], by simp only [LV.ids]⟩
theorem cls_closed : ∀ l : List LV, LV.closeds l = true → (∀ O : Heap, LV.cls O l = l) ∧ LV.idss l = []
  | [], _ => ⟨fun _ => rfl, rfl⟩
  | v :: l, h => by
    simp only [LV.closeds, Bool.and_eq_true] at h
    have h1 := cl_closed v h.1
    have h2 := cls_closed l h.2
    exact ⟨fun O => by simp only [LV.cls, h1.1 O, h2.1 O], by simp [LV.idss, h1.2, h2.2]⟩
end
section
variable {P : Program} {c : Cx} {w w' : World} {s : St} {tmps : Array Value} {Ts : List (Array Value)}

theorem closeCells_d {cs : List LV} (h : LV.closeds cs = true) (h1 : cs.all LV.one = true) : closeCells s cs = some (cs, s) := by
  obtain ⟨e1, e2⟩ := cls_closed cs h
  unfold closeCells closedK
  rw [e1, e2, if_pos ⟨h, h1⟩]; rfl
theorem closeRows_d : ∀ {xs : List (List LV)}, (xs.all fun x => LV.closeds x && x.all LV.one) = true → closeRows xs s = some (xs, s)
  | [], _ => rfl
  | x :: l, h => by
    simp only [List.all_cons, Bool.and_eq_true] at h
    simp only [closeRows]
    rw [closeCells_d h.1.1 h.1.2]
    simp only [Option.bind_some, rowsK]
    rw [closeRows_d h.2]
    rfl
theorem closed_nils {v : LV} (h : LV.closed v = true) : ¬ isNils v = true := by
  cases v <;> first | (simp [isNils]; done) | (simp [LV.closed] at h)
theorem rowsOf_d {all : List LV} : ∀ {cs : List LV} {id : Nat}, LV.closeds cs = true → rowsOf all id cs s = some (cs, s)
  | [], _, _ => rfl
  | v :: l, id, h => by
    simp only [LV.closeds, Bool.and_eq_true] at h
    simp only [rowsOf]
    rw [if_neg (closed_nils h.1), rowsOf_d h.2]; rfl

theorem store_d {lvl : Nat} {un qs : List Nat} {n : Nat} {x v : Opd} {r : LV × St} (h : dOp (fun _ => none) un qs lvl (.store n x v) s = some r) : (wr s n (x.ev s.T) (v.ev s.T).cells).bind okU = some r := by
  simp only [dOp] at h
  split at h
  · rename_i hc
    obtain ⟨h1, h2, h3⟩ := hc
    unfold wr
    rw [if_pos ⟨h1, h2⟩]
    cases hx : x.ev s.T with
    | ptr id off =>
      rw [hx] at h
      simp only [dStore] at h
      split at h
      · simp only [wrAt]
        rw [rowsOf_d h3]
        simp only [Option.bind_some, wrBox]
        cases ho : oget (filtO s.lvl un s.O) id with
        | none => rw [ho] at h; cases h
        | some o =>
          rw [ho] at h
          rw [sub_filt _ _ _ _ _ ho]
          cases o with
          | box bs =>
            simp only [dSetBox] at h
            simp only [setBox]
            split at h
            · rename_i hl; rw [if_pos hl]; exact h
            · cases h
          | _ => cases h
      · cases h
    | ep id i off =>
      rw [hx] at h
      simp only [dStore] at h
      split at h
      · simp only [wrAt]
        rw [closeCells_d h3 h2]
        simp only [Option.bind_some, wrRow]
        cases ho : oget (filtO s.lvl un s.O) id with
        | none => rw [ho] at h; cases h
        | some o =>
          rw [ho] at h
          rw [sub_filt _ _ _ _ _ ho]
          cases o with
          | row st xs =>
            simp only [dSetRow] at h
            simp only [setRow]
            cases hxi : xs[i]? with
            | none => rw [hxi] at h; cases h
            | some y =>
              rw [hxi] at h
              simp only [dSetElt] at h
              simp only [setElt]
              split at h
              · rename_i hl; rw [if_pos hl]; exact h
              · cases h
          | _ => cases h
      · cases h
    | _ => rw [hx] at h; cases h
  · cases h

def AOp.mk3 : AOp → Nat
  | .alloc _ => 1
  | .box _ => 2
  | .as _ => 3
  | _ => 0
def Op.mk3 : Op → Nat
  | .alloc _ => 1
  | .box .. => 2
  | .assign _ => 3
  | _ => 0
theorem mk3_class {ty : TypeId} {op : Op} : (toOp1 P ty op).all (fun x => x.mk3 == Op.mk3 op) = true := by
  cases op <;> unfold toOp1 <;> simp only [bind] <;>
    repeat' (first | rfl | contradiction | (refine all_map fun _ => ?_) | (refine all_bind fun _ => ?_) | split)
theorem mk3_eq {ty : TypeId} {op : Op} {x : AOp} (h : toOp1 P ty op = some x) : x.mk3 = Op.mk3 op := by
  have := mk3_class (P := P) (ty := ty) (op := op)
  rw [h] at this
  simpa using this

/-- where it answers, it answers what an operation in its place answers -/
theorem dOp_step {a : Act} (H : SR P c s a.tmps Ts w) {R : Orc} {un qs : List Nat} {d : Nat} {o : Oper} {x : AOp} (hop : toOp1 P o.type o.op = some x) (hnc : x.isCall = false) (hnas : ∀ y, x ≠ .as y) {r : LV × St} (h : dOp R un qs d x s = some r) : stepOp R true d x s = some r := by
  have hT := H.T
  have val : ∀ {op : AOp}, (valOp s.T (filtO s.lvl un s.O) op).bind (ok1 s) = some r → (valOp s.T s.O op).bind (ok1 s) = some r := fun h => by
    obtain ⟨v, hv, h⟩ := Option.bind_eq_some_iff.1 h
    rw [valOp_sub (sub_filt _ _ _) hv]; exact h
  cases x with
  | as y => exact absurd rfl (hnas y)
  | alloc z =>
    have hk := mk3_eq hop
    cases ho : o.op with
    | alloc e =>
      rw [ho] at hop
      simp only [toOp1, bind, Option.bind_eq_some_iff, Option.some.injEq] at hop
      obtain ⟨z', hz, e2⟩ := hop
      simp only [AOp.alloc.injEq] at e2
      obtain ⟨i, zv, hi, hzv, hzr⟩ := zeroLV_ok (c := c) hz
      obtain ⟨hzc, _⟩ := cells_VRs hzr (zero_one hz)
      rw [e2] at hzc
      exact box_d H hzc h
    | _ => rw [ho] at hk; cases hk
  | box y =>
    have hk := mk3_eq hop
    cases ho : o.op with
    | box e v =>
      rw [ho] at hop
      simp only [toOp1, bind, Option.bind_eq_some_iff, Option.some.injEq] at hop
      obtain ⟨y', hy, e2⟩ := hop
      simp only [AOp.box.injEq] at e2
      subst e2
      have h' : dBox (oid s.lvl d) (y'.ev s.T).cells s = some r := h
      have hone : (y'.ev s.T).cells.all LV.one = true := by
        unfold dBox at h'
        split at h'
        · rename_i hz; exact hz.1
        · cases h'
      obtain ⟨hc, _⟩ := cells_VRs (opdT_ok hT hy) hone
      exact box_d H hc h
    | _ => rw [ho] at hk; cases hk
  | bsl st n z ps =>
    simp only [dOp] at h
    show (if z.length = st then (fillS st s.T ps (List.replicate n z)).bind (bslK (oid s.lvl d) st n s) else none) = some r
    split at h
    · rename_i hz
      rw [if_pos hz]
      obtain ⟨xs, hx, h⟩ := Option.bind_eq_some_iff.1 h
      rw [hx, Option.bind_some]
      unfold dBsl at h
      split at h
      · rename_i hc
        unfold bslK
        rw [closeRows_d hc, Option.bind_some]
        simp only [rowK]
        unfold dNew at h
        cases ho : oget s.O (oid s.lvl d) with
        | some o => rw [ho] at h; cases h
        | none => rw [ho] at h; rw [new_push _ ho]; exact h
      · cases h
    · cases h
  | store n y v => exact store_d (un := un) (qs := qs) (lvl := d) h
  | mks st z y v =>
    simp only [dOp] at h
    show mksV (oid s.lvl d) z s (y.ev s.T) (v.ev s.T) = some r
    cases h1 : y.ev s.T <;> (try (rw [h1] at h; cases h; done))
    cases h2 : v.ev s.T <;> (try (rw [h1, h2] at h; cases h; done))
    rw [h1, h2] at h
    simp only [dMks] at h
    simp only [mksV]
    split at h
    · rename_i hc
      rw [if_pos ⟨hc.1, hc.2.1, hc.2.2.1, hc.2.2.2.1⟩]
      unfold dNew at h
      cases ho : oget s.O (oid s.lvl d) with
      | some o => rw [ho] at h; cases h
      | none => rw [ho] at h; rw [new_push _ ho]; exact h
    · cases h
  | load ag n y =>
    simp only [dOp] at h
    split at h
    · exact val (op := .load ag n y) h
    · cases h
  | call f l => cases hnc
  | cal f l => cases hnc
  | mkm => cases h
  | mpu ks y k v => cases h
  | bad => cases h
  | app st y v => cases h
  | apz st z y v => cases h
  | cpy st y v => cases h
  | mv y => exact val (op := .mv y) h
  | mkf f a b => exact val (op := .mkf f a b) h
  | lena n => exact val (op := .lena n) h
  | _ => exact val h

/-! calls -/
theorem imp1_d {id : Nat} {v : LV} {r : LV × St} (h : dImp1 id s v = some r) : import1 id s v = r := by
  cases v <;> simp only [dImp1] at h
  all_goals first
    | (simp only [Option.some.injEq] at h; exact h)
    | (unfold dNew at h
       cases ho : oget s.O id with
       | some o => rw [ho] at h; cases h
       | none =>
         rw [ho] at h
         simp only [putO, Option.some.injEq] at h
         simp only [import1]
         rw [new_push _ ho]; exact h)
    | cases h
theorem imps_d : ∀ {l : List LV} {id : Nat} {s : St} {r : List LV × St}, dImps id l s = some r → imports id l s = r
  | [], id, s, r, h => by simp only [dImps, Option.some.injEq] at h; exact h
  | v :: l, id, s, r, h => by
    obtain ⟨q, hq, h⟩ := Option.bind_eq_some_iff.1 (show (dImp1 id s v).bind (dImpsK (dImps (id + 1) l)) = some r from h)
    obtain ⟨q2, hq2, rfl⟩ := Option.map_eq_some_iff.1 h
    simp only [imports, imp1_d hq, importsK, imps_d hq2]
theorem imp_d {id : Nat} {v : LV} {r : LV × St} (h : dImp id s v = some r) : import_ id s v = r := by
  by_cases ht : ∃ vs, v = .tup vs
  · obtain ⟨vs, rfl⟩ := ht
    simp only [dImp] at h
    split at h
    · obtain ⟨q, hq, rfl⟩ := Option.map_eq_some_iff.1 h
      simp only [import_, imps_d hq]; rfl
    · cases h
  · have hn : ∀ vs, v ≠ .tup vs := fun vs e => ht ⟨vs, e⟩
    rw [(imp_nt (s := s) hn).1] at h
    have := imp1_d h
    rw [← this]
    cases v <;> first | rfl | exact absurd rfl (hn _)

theorem dCall_ok {R : Orc} (IH : FnOK P R) (H : SR P c s tmps Ts w) {args : List LV} {vals : List Value} (ha : VRs c args vals) {V : Heap} (hV : Sub V s.O) {id : Nat} {f : FuncId} {v : LV} {s' : St} (h : dCall R id f (LV.idss args).isEmpty s (LV.cls V args) = some (v, s')) :
    ∃ c' u w', SR P c' s' tmps Ts w' ∧ Tr c w c' w' ∧ VR c' v u ∧ CallsTo P f vals.toArray w u w' := by
  unfold dCall at h
  split at h
  · rename_i hcl
    obtain ⟨r, hr, h⟩ := Option.bind_eq_some_iff.1 h
    obtain ⟨o, ho, hr⟩ := Option.bind_eq_some_iff.1 hr
    cases o with
    | ex e s => cases hr
    | res v0 F0 O0 =>
      unfold dAfter at h
      split at h
      · rename_i hb
        have himp := imp_d h
        have hOR : ∀ id o h, oget V id = some o → c.io id = some h → OR P c w h o := fun id o h ho hi => by
          obtain ⟨h', hi', hor⟩ := H.O id o (hV id o ho)
          rw [hi] at hi'; cases hi'; exact hor
        by_cases hemp : (LV.idss args).isEmpty = true
        · have hnil : LV.idss args = [] := by simpa using hemp
          have hv1 : VRs c (LV.cls V args) vals := cls_ok (c1 := c) hOR (fun _ _ _ h => h) (fun _ _ _ h => h) ha (fun id hid => by rw [hnil] at hid; cases hid) hcl
          obtain ⟨d, u, w', Hd, td, hcall⟩ := IH _ _ _ _ _ _ _ _ ho c.bare vals [] w (SR.empty0 H.mu) (VRs.closed (c := c) (c' := c.bare) (fun _ _ _ h => h) hv1 hcl)
          obtain ⟨c', H2, t2, hv2⟩ := back_in H td Hd (v := v0) (u := u) (by simpa [tget] using Hd.T 0) hr id
          rw [himp] at H2 hv2
          exact ⟨c', u, w', H2, t2, hv2, hcall⟩
        · have hno : LV.noVs r = true := by simpa [hemp] using hb
          obtain ⟨c1, H1, t1, _, _, hcov⟩ := H.frees (LV.idss args)
          have hv1 : VRs c1 (LV.cls V args) vals := cls_ok (c1 := c) hOR t1.mu t1.mu ha (fun id hid _ h hi hn y v hy => hcov id hid h hi hn y v hy) hcl
          obtain ⟨d, u, w', Hd, td, hcall⟩ := IH _ _ _ _ _ _ _ _ ho c1.bare vals [] w (SR.empty0 H1.mu) (VRs.closed (c := c1) (c' := c1.bare) (fun _ _ _ h => h) hv1 hcl)
          obtain ⟨c', H2, t2, hv2⟩ := back_noVs H td Hd (v := v0) (u := u) (by simpa [tget] using Hd.T 0) hr hno id
          rw [himp] at H2 hv2
          exact ⟨c', u, w', H2, t2, hv2, hcall⟩
      · cases h
  · cases h

theorem dOp_ok {R : Orc} (IH : FnOK P R) (IHr : RndOK P R) {a : Act} (H : SR P c s a.tmps Ts w) {o : Oper} {d : Nat} {un qs : List Nat} {v : LV} {s' : St} (h : dOp R un qs d (toOp P o.type o.op) s = some (v, s')) :
    ∃ c' u w', SR P c' s' a.tmps Ts w' ∧ Tr c w c' w' ∧ VR c' v u ∧ (∀ c, o.op ≠ .defer c) ∧ Acts P a o w u w' := by
  have hop : toOp1 P o.type o.op = some (toOp P o.type o.op) := by
    cases hh : toOp1 P o.type o.op with
    | some x => simp [toOp, hh]
    | none =>
      have e : toOp P o.type o.op = .bad := by simp [toOp, hh]
      rw [e] at h; cases h
  have hnd := not_defer hop
  have hT := H.T
  have hsub := sub_filt s.lvl un s.O
  generalize hx : toOp P o.type o.op = x at h hop
  by_cases hc : x.isCall = true
  · obtain ⟨cl, ho, hsh⟩ := call_shape hop hc
    rcases hsh with ⟨f, l, rfl, hcal, hm⟩ | ⟨y, y', l, rfl, hcal, hy, hm⟩
    · obtain ⟨c', u, w', H', t', hv, hc⟩ := dCall_ok IH H (args_ok hT hm) hsub h
      obtain ⟨hr, hg⟩ := hc.goes
      refine ⟨c', u, w', H', t', hv, hnd, .inr (.inr ⟨_, ?_, hg⟩)⟩
      have e : ((#[] : Array Value) ++ cl.args.map a.eval) ++ #[] = (cl.args.map a.eval).toList.toArray := by simp only [Array.toArray_toList, Array.empty_append, Array.append_empty]
      simp only [execOp, ho, resolve, hcal, Deferred.ofValue, Act.eval, pure_bind, invoke]
      have e2 : ((#[] : Array Value) ++ cl.args.map (fun x => a.eval x)) ++ #[] = (cl.args.map a.eval).toList.toArray := e
      first | (rw [e]; exact hr) | (rw [e2]; exact hr)
    · have hvf := opd_ok hT hy
      simp only [dOp] at h
      unfold dCal at h
      split at h
      · rename_i f' first cap hfx
        rw [hfx] at hvf
        generalize hq : a.eval y = q at hvf
        cases hvf with
        | fn _ _ _ us vs hl hl2 h1 h2 =>
          obtain ⟨c', u, w', H', t', hv, hc⟩ := dCall_ok IH H (VRs.append ⟨hl, h1⟩ (VRs.append (args_ok hT hm) ⟨hl2, h2⟩)) hsub h
          obtain ⟨hr, hg⟩ := hc.goes
          refine ⟨c', u, w', H', t', hv, hnd, .inr (.inr ⟨_, ?_, hg⟩)⟩
          simp only [execOp, ho, resolve, hcal]
          rw [Sem.run_bind, hq]
          simp only [Deferred.ofValue, Sem.run_pure, Result.andThen_ok, invoke]
          have e : us.toArray ++ cl.args.map a.eval ++ vs.toArray = (us ++ ((cl.args.map a.eval).toList ++ vs)).toArray := by
            have e1 : cl.args.map a.eval = (cl.args.map a.eval).toList.toArray := Array.toArray_toList.symm
            rw [e1]; simp only [List.append_toArray, List.append_assoc]
          have e2 : us.toArray ++ cl.args.map (fun x => a.eval x) ++ vs.toArray = (us ++ ((cl.args.map a.eval).toList ++ vs)).toArray := e
          first | (rw [e]; exact hr) | (rw [e2]; exact hr)
      · cases h
  · by_cases has : ∃ y, x = .as y
    · obtain ⟨y, rfl⟩ := has
      have hk := mk3_eq hop
      cases ho : o.op with
      | assign z =>
        rw [ho] at hop
        simp only [toOp1] at hop
        obtain ⟨y', hy, e⟩ := Option.map_eq_some_iff.1 hop
        simp only [AOp.as.injEq] at e; subst e
        simp only [dOp, ok1, Option.some.injEq, Prod.mk.injEq] at h
        obtain ⟨rfl, rfl⟩ := h
        exact ⟨c, a.eval z, w, H, Tr.refl _ _, opdT_ok hT hy, by rw [← ho]; exact hnd, .inl (by simp [execOp, ho])⟩
      | _ => rw [ho] at hk; cases hk
    · have hs := dOp_step H hop (by simpa using hc) (fun y e => has ⟨y, e⟩) h
      rw [← hx] at hs
      exact op_ok IH IHr H hs
end
end Go.Zv
