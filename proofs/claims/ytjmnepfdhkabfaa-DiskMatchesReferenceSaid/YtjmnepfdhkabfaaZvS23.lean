/- The engine, part 28: an operation of a drawn region is sound. -/
import Derived.Test.YtjmnepfdhkabfaaZvS22
namespace Go.Zv
set_option autoImplicit false
set_option linter.unusedVariables false
set_option linter.unusedSimpArgs false
section
variable {P : Program} {c : Cx} {w w' : World} {s : St} {tmps : Array Value} {Ts : List (Array Value)}

/-- fewer objects -/
def Sub (V O : Heap) : Prop := ∀ id o, oget V id = some o → oget O id = some o
theorem sub_filt (lvl : Nat) (un : List Nat) (O : Heap) : Sub (filtO lvl un O) O := fun id o h => by
  rw [oget_filt] at h
  split at h
  · cases h
  · exact h
theorem rd_sub {V O : Heap} (h : Sub V O) {ag : Bool} {n : Nat} {x v : LV} (hr : rd V ag n x = some v) : rd O ag n x = some v := by
  cases x <;> simp only [rd] at hr ⊢
  all_goals first
    | exact hr
    | (cases ho : oget V _ with
       | none => rw [ho] at hr; cases hr
       | some o => rw [ho] at hr; rw [h _ _ ho]; exact hr)
theorem elems_sub {V O : Heap} (h : Sub V O) {x : LV} {v : List (List LV)} (hr : elems V x = some v) : elems O x = some v := by
  cases x <;> simp only [elems] at hr ⊢
  all_goals first
    | exact hr
    | (cases ho : oget V _ with
       | none => rw [ho] at hr; cases hr
       | some o => rw [ho] at hr; rw [h _ _ ho]; exact hr)
theorem len_sub {V O : Heap} (h : Sub V O) {k : Nat} {x : LV} {v : Int} (hr : lenOf V k x = some v) : lenOf O k x = some v := by
  by_cases hm : k = 2 ∧ ∃ id, x = .mp id
  · obtain ⟨rfl, id, rfl⟩ := hm
    simp only [lenOf] at hr ⊢
    cases ho : oget V id with
    | none => rw [ho] at hr; cases hr
    | some o => rw [ho] at hr; rw [h _ _ ho]; exact hr
  · have e : lenOf O k x = lenOf V k x := by
      unfold lenOf
      split <;> first
        | rfl
        | exact absurd ⟨rfl, _, rfl⟩ hm
    rw [e]; exact hr
theorem lkp_sub {V O : Heap} (h : Sub V O) {ks : List Nat} {k x : LV} {v : Option LV} (hr : lkpV V ks k x = some v) : lkpV O ks k x = some v := by
  cases x <;> simp only [lkpV] at hr ⊢
  all_goals first
    | exact hr
    | (obtain ⟨b, hb, hr⟩ := Option.bind_eq_some_iff.1 hr
       rw [hb]
       simp only [Option.bind_some]
       cases ho : oget V _ with
       | none => rw [ho] at hr; cases hr
       | some o => rw [ho] at hr; rw [h _ _ ho]; exact hr)
theorem ias_sub {V O : Heap} (h : Sub V O) {st : Nat} {x i v : LV} (hr : iasV V st x i = some v) : iasV O st x i = some v := by
  cases i <;> simp only [iasV] at hr ⊢
  all_goals first
    | exact hr
    | skip
  cases x <;> simp only [iasI] at hr ⊢
  all_goals first
    | exact hr
    | (cases ho : oget V _ with
       | none => rw [ho] at hr; cases hr
       | some o => rw [ho] at hr; rw [h _ _ ho]; exact hr)
theorem sls_sub {V O : Heap} (h : Sub V O) {T : Env} {st : Nat} {lo hi : Option Opd} {x v : LV} (hr : slsV T V st lo hi x = some v) : slsV T O st lo hi x = some v := by
  cases x <;> simp only [slsV] at hr ⊢
  all_goals first
    | exact hr
    | (cases ho : oget V _ with
       | none => rw [ho] at hr; cases hr
       | some o => rw [ho] at hr; rw [h _ _ ho]; exact hr)
theorem valOp_sub {V O : Heap} (h : Sub V O) {T : Env} {op : AOp} {v : LV} (hr : valOp T V op = some v) : valOp T O op = some v := by
  cases op <;> simp only [valOp] at hr ⊢
  all_goals first
    | exact hr
    | exact rd_sub h hr
    | exact ias_sub h hr
    | exact sls_sub h hr
    | (obtain ⟨b, hb, hr⟩ := Option.bind_eq_some_iff.1 hr
       first
         | (rw [elems_sub h hb]; exact hr)
         | (rw [len_sub h hb]; exact hr)
         | (rw [lkp_sub h hb]; exact hr))

theorem io_none (H : SR P c s tmps Ts w) {id : Nat} (h : oget s.O id = none) : c.io id = none := by
  cases hi : c.io id with
  | none => rfl
  | some hh => obtain ⟨o, e⟩ := H.dom id hh hi; rw [h] at e; cases e
theorem aparts_of {id : Nat} : ∀ {l : List LV}, (∀ (i : Nat) (x : LV), l[i]? = some x → LV.apart id x = true) → LV.aparts id l = true
  | [], _ => rfl
  | v :: l, h => by
    simp only [LV.aparts, Bool.and_eq_true]
    exact ⟨h 0 v rfl, aparts_of fun i x hx => h (i + 1) x (by simpa using hx)⟩
theorem VR.apart_of {id : Nat} (hn : c.io id = none) {x : LV} {v : Value} (h : VR c x v) : LV.apart id x = true := by
  have ne : ∀ {j : Nat} {hh : Home}, c.io j = some hh → (j != id) = true := fun {j hh} hj => by
    simp only [bne_iff_ne, ne_eq]
    intro e; subst e; rw [hn] at hj; cases hj
  induction h with
  | agg cs vs hl h ih =>
    exact aparts_of fun i x hx => by
      have hi : i < cs.length := (List.getElem?_eq_some_iff.1 hx).1
      exact ih i x _ hx (List.getElem?_eq_getElem (hl ▸ hi))
  | tup cs vs hl h ih =>
    exact aparts_of fun i x hx => by
      have hi : i < cs.length := (List.getElem?_eq_some_iff.1 hx).1
      exact ih i x _ hx (List.getElem?_eq_getElem (hl ▸ hi))
  | fn f xs ys us vs hl hl2 h h2 ih ih2 =>
    simp only [LV.apart, Bool.and_eq_true]
    exact ⟨aparts_of fun i x hx => by
      have hi : i < xs.length := (List.getElem?_eq_some_iff.1 hx).1
      exact ih i x _ hx (List.getElem?_eq_getElem (hl ▸ hi)), aparts_of fun i x hx => by
      have hi : i < ys.length := (List.getElem?_eq_some_iff.1 hx).1
      exact ih2 i x _ hx (List.getElem?_eq_getElem (hl2 ▸ hi))⟩
  | bs id off len h a cap hcap hi h0 h1 => exact ne hi
  | bb id off st len h a cap hcap hi h1 => exact ne hi
  | ptr id off h hi => exact ne hi
  | ep id i off h hi hn => exact ne hi
  | mp id h hi => exact ne hi
  | yl id h hi => exact ne hi
  | _ => rfl
theorem free_none {id : Nat} (h : oget s.O id = none) : St.free id s = s := by unfold St.free; rw [h]; rfl
theorem new_push {id : Nat} (o : Obj) (h : oget s.O id = none) : St.new id o s = St.push id o s := by unfold St.new; rw [free_none h]

theorem rows_d {all : List LV} {O0 : Heap} (hap : ∀ id, oget O0 id = none → LV.aparts id all = true) : ∀ {l : List LV} {id : Nat} {s : St} {r : List LV × St}, (∀ j, oget s.O j = none → oget O0 j = none) → dRows id l s = some r → rowsOf all id l s = some r
  | [], id, s, r, _, h => h
  | v :: l, id, s, r, hs, h => by
    simp only [dRows] at h
    simp only [rowsOf]
    split at h
    · rename_i hn
      rw [if_pos hn]
      cases ho : oget s.O id with
      | some o => rw [ho] at h; cases h
      | none =>
        rw [ho] at h
        simp only [dRowsK] at h
        rw [if_pos (hap id (hs id ho)), new_push _ ho]
        obtain ⟨q, hq, rfl⟩ := Option.map_eq_some_iff.1 h
        rw [rows_d hap (fun j hj => ?_) hq]
        · rfl
        · refine hs j ?_
          simp only [St.push, oget] at hj
          split at hj
          · cases hj
          · exact hj
    · rename_i hn
      rw [if_neg hn]
      obtain ⟨q, hq, rfl⟩ := Option.map_eq_some_iff.1 h
      rw [rows_d hap hs hq]; rfl
theorem aparts_rowsN {id : Nat} : ∀ (l : List LV) (k : Nat), id < k → LV.aparts id l = true → LV.aparts id (rowsN k l).1 = true
  | [], _, _, _ => rfl
  | v :: l, k, hk, h => by
    simp only [LV.aparts, Bool.and_eq_true] at h
    simp only [rowsN]
    split
    · simp only [LV.aparts, LV.apart, Bool.and_eq_true]
      exact ⟨by simp; omega, aparts_rowsN l (k + 1) (by omega) h.2⟩
    · simp only [LV.aparts, Bool.and_eq_true]
      exact ⟨h.1, aparts_rowsN l (k + 1) (by omega) h.2⟩
theorem box_d (H : SR P c s tmps Ts w) {z : List LV} {vals : List Value} (hv : VRs c z vals) {id : Nat} {r : LV × St} (h : dBox id z s = some r) : boxV id z s = some r := by
  unfold dBox at h
  split at h
  · rename_i hz
    obtain ⟨q, hq, h⟩ := Option.bind_eq_some_iff.1 h
    have hap : ∀ id, oget s.O id = none → LV.aparts id z = true := fun id ho => aparts_of fun i x hx => by
      obtain ⟨v, _, hxv⟩ := hv.getSome hx
      exact hxv.apart_of (io_none H ho)
    unfold boxV
    rw [if_pos hz.1, rows_d hap (fun j hj => hj) hq, Option.bind_some]
    simp only [dBoxK, dNew] at h
    cases ho : oget q.2.O id with
    | some o => rw [ho] at h; cases h
    | none =>
      rw [ho] at h
      simp only [putO] at h
      have hq2 := hq
      rw [dRows_ap] at hq2
      split at hq2
      · simp only [Option.some.injEq] at hq2
        have ho0 : oget s.O id = none := by
          rw [← hq2] at ho
          have := oget_push id (rowsN (id + 1) z).2 s.O fun p hp e => by have := rowsN_ids z (id + 1) p hp; omega
          rw [← this]; exact ho
        have : LV.aparts id q.1 = true := by rw [← hq2]; exact aparts_rowsN z (id + 1) (by omega) (hap id ho0)
        simp only [boxK]
        rw [if_pos this, new_push _ ho]; exact h
      · cases hq2
  · cases h


end
mutual
theorem cl_closed : ∀ v : LV, LV.closed v = true → (∀ O : Heap, LV.cl O v = v) ∧ LV.ids v = []
  | .agg cs, h => by
    have := cls_closed cs (by simpa [LV.closed] using h)
    exact ⟨fun O => by simp only [LV.cl, this.1 O], by simp only [LV.ids, this.2]⟩
  | .tup cs, h => by
    have := cls_closed cs (by simpa [LV.closed] using h)
    exact ⟨fun O => by simp only [LV.cl, this.1 O], by simp only [LV.ids, this.2]⟩
  | .fn f a b, h => by
    simp only [LV.closed, Bool.and_eq_true] at h
    have h1 := cls_closed a h.1
    have h2 := cls_closed b h.2
    exact ⟨fun O => by simp only [LV.cl, h1.1 O, h2.1 O], by simp [LV.ids, h1.2, h2.2]⟩
  | .bs .., h | .bb .., h | .ptr .., h | .ep .., h | .mp .., h | .yl .., h | .nils _, h | .os .., h | .om .., h => by simp [LV.closed] at h
  | .any, _ | .undef, _ | .int .., _ | .bool _, _ | .str _, _ | .vs _, _ | .nul, _ | .emp, _ | .fp _, _ | .nilp, _ | .nilf, _ | .nilm, _ => ⟨fun _ => by simp only [LV.cl], by simp only [LV.ids]⟩
theorem cls_closed : ∀ l : List LV, LV.closeds l = true → (∀ O : Heap, LV.cls O l = l) ∧ LV.idss l = []
  | [], _ => ⟨fun _ => rfl, rfl⟩
  | v :: l, h => by
    simp only [LV.closeds, Bool.and_eq_true] at h
    have h1 := cl_closed v h.1
    have h2 := cls_closed l h.2
    exact ⟨fun O => by simp only [LV.cls, h1.1 O, h2.1 O], by simp [LV.idss, h1.2, h2.2]⟩
end
section
variable {P : Program} {c : Cx} {w w' : World} {s : St} {tmps : Array Value} {Ts : List (Array Value)}

theorem closeCells_d {cs : List LV} (h : LV.closeds cs = true) (h1 : cs.all LV.one = true) : closeCells s cs = some (cs, s) := by
  obtain ⟨e1, e2⟩ := cls_closed cs h
  unfold closeCells closedK
  rw [e1, e2, if_pos ⟨h, h1⟩]; rfl
theorem closeRows_d : ∀ {xs : List (List LV)}, (xs.all fun x => LV.closeds x && x.all LV.one) = true → closeRows xs s = some (xs, s)
  | [], _ => rfl
  | x :: l, h => by
    simp only [List.all_cons, Bool.and_eq_true] at h
    simp only [closeRows]
    rw [closeCells_d h.1.1 h.1.2]
    simp only [Option.bind_some, rowsK]
    rw [closeRows_d h.2]
    rfl
theorem closed_nils {v : LV} (h : LV.closed v = true) : ¬ isNils v = true := by
  cases v <;> first | (simp [isNils]; done) | (simp [LV.closed] at h)
theorem rowsOf_d {all : List LV} : ∀ {cs : List LV} {id : Nat}, LV.closeds cs = true → rowsOf all id cs s = some (cs, s)
  | [], _, _ => rfl
  | v :: l, id, h => by
    simp only [LV.closeds, Bool.and_eq_true] at h
    simp only [rowsOf]
    rw [if_neg (closed_nils h.1), rowsOf_d h.2]; rfl

theorem store_d {lvl : Nat} {un qs : List Nat} {n : Nat} {x v : Opd} {r : LV × St} (h : dOp (fun _ => none) un qs lvl (.store n x v) s = some r) : (wr s n (x.ev s.T) (v.ev s.T).cells).bind okU = some r := by
  simp only [dOp] at h
  split at h
  · rename_i hc
    obtain ⟨h1, h2, h3⟩ := hc
    unfold wr
    rw [if_pos ⟨h1, h2⟩]
    cases hx : x.ev s.T with
    | ptr id off =>
      rw [hx] at h
      simp only [dStore] at h
      split at h
      · simp only [wrAt]
        rw [rowsOf_d h3]
        simp only [Option.bind_some, wrBox]
        cases ho : oget (filtO s.lvl un s.O) id with
        | none => rw [ho] at h; cases h
        | some o =>
          rw [ho] at h
          rw [sub_filt _ _ _ _ _ ho]
          cases o with
          | box bs =>
            simp only [dSetBox] at h
            simp only [setBox]
            split at h
            · rename_i hl; rw [if_pos hl]; exact h
            · cases h
          | _ => cases h
      · cases h
    | ep id i off =>
      rw [hx] at h
      simp only [dStore] at h
      split at h
      · simp only [wrAt]
        rw [closeCells_d h3 h2]
        simp only [Option.bind_some, wrRow]
        cases ho : oget (filtO s.lvl un s.O) id with
        | none => rw [ho] at h; cases h
        | some o =>
          rw [ho] at h
          rw [sub_filt _ _ _ _ _ ho]
          cases o with
          | row st xs =>
            simp only [dSetRow] at h
            simp only [setRow]
            cases hxi : xs[i]? with
            | none => rw [hxi] at h; cases h
            | some y =>
              rw [hxi] at h
              simp only [dSetElt] at h
              simp only [setElt]
              split at h
              · rename_i hl; rw [if_pos hl]; exact h
              · cases h
          | _ => cases h
      · cases h
    | _ => rw [hx] at h; cases h
  · cases h

def AOp.mk3 : AOp → Nat
  | .alloc _ => 1
  | .box _ => 2
  | .as _ => 3
  | .mks .. => 4
  | .bsl .. => 5
  | _ => 0
def Op.mk3 : Op → Nat
  | .alloc _ => 1
  | .box .. => 2
  | .assign _ => 3
  | .makeSlice .. => 4
  | .buildSlice .. => 5
  | _ => 0
theorem mk3_class {ty : TypeId} {op : Op} : (toOp1 P ty op).all (fun x => x.mk3 == Op.mk3 op) = true := by
  cases op <;> unfold toOp1 <;> simp only [bind] <;>
    repeat' (first | rfl | contradiction | (refine all_map fun _ => ?_) | (refine all_bind fun _ => ?_) | split)
theorem mk3_eq {ty : TypeId} {op : Op} {x : AOp} (h : toOp1 P ty op = some x) : x.mk3 = Op.mk3 op := by
  have := mk3_class (P := P) (ty := ty) (op := op)
  rw [h] at this
  simpa using this

/-- where it answers, it answers what an operation in its place answers -/
theorem dOp_step {a : Act} (H : SR P c s a.tmps Ts w) {R : Orc} {un qs : List Nat} {d : Nat} {o : Oper} {x : AOp} (hop : toOp1 P o.type o.op = some x) (hnc : x.isCall = false) (hnas : ∀ y, x ≠ .as y) {r : LV × St} (h : dOp R un qs d x s = some r) : stepOp R true d x s = some r := by
  have hT := H.T
  have val : ∀ {op : AOp}, (valOp s.T (filtO s.lvl un s.O) op).bind (ok1 s) = some r → (valOp s.T s.O op).bind (ok1 s) = some r := fun h => by
    obtain ⟨v, hv, h⟩ := Option.bind_eq_some_iff.1 h
    rw [valOp_sub (sub_filt _ _ _) hv]; exact h
  cases x with
  | as y => exact absurd rfl (hnas y)
  | alloc z =>
    have hk := mk3_eq hop
    cases ho : o.op with
    | alloc e =>
      rw [ho] at hop
      simp only [toOp1, bind, Option.bind_eq_some_iff, Option.some.injEq] at hop
      obtain ⟨z', hz, e2⟩ := hop
      simp only [AOp.alloc.injEq] at e2
      obtain ⟨i, zv, hi, hzv, hzr⟩ := zeroLV_ok (c := c) hz
      obtain ⟨hzc, _⟩ := cells_VRs hzr (zero_one hz)
      rw [e2] at hzc
      exact box_d H hzc h
    | _ => rw [ho] at hk; cases hk
  | box y =>
    have hk := mk3_eq hop
    cases ho : o.op with
    | box e v =>
      rw [ho] at hop
      simp only [toOp1, bind, Option.bind_eq_some_iff, Option.some.injEq] at hop
      obtain ⟨y', hy, e2⟩ := hop
      simp only [AOp.box.injEq] at e2
      subst e2
      have h' : dBox (oid s.lvl d) (y'.ev s.T).cells s = some r := h
      have hone : (y'.ev s.T).cells.all LV.one = true := by
        unfold dBox at h'
        split at h'
        · rename_i hz; exact hz.1
        · cases h'
      obtain ⟨hc, _⟩ := cells_VRs (opdT_ok hT hy) hone
      exact box_d H hc h
    | _ => rw [ho] at hk; cases hk
  | bsl st n z ps =>
    simp only [dOp] at h
    show (if z.length = st then (fillS st s.T ps (List.replicate n z)).bind (bslK (oid s.lvl d) st n s) else none) = some r
    split at h
    · rename_i hz
      rw [if_pos hz]
      obtain ⟨xs, hx, h⟩ := Option.bind_eq_some_iff.1 h
      rw [hx, Option.bind_some]
      unfold dBsl at h
      split at h
      · rename_i hc
        unfold bslK
        rw [closeRows_d hc]
        simp only [bslJ, rowK]
        unfold dNew at h
        cases ho : oget s.O (oid s.lvl d) with
        | some o => rw [ho] at h; cases h
        | none => rw [ho] at h; rw [new_push _ ho]; exact h
      · cases h
    · cases h
  | store n y v => exact store_d (un := un) (qs := qs) (lvl := d) h
  | mks st z y v =>
    simp only [dOp] at h
    show mksV (oid s.lvl d) z s (y.ev s.T) (v.ev s.T) = some r
    cases h1 : y.ev s.T <;> (try (rw [h1] at h; cases h; done))
    cases h2 : v.ev s.T <;> (try (rw [h1, h2] at h; cases h; done))
    rw [h1, h2] at h
    simp only [dMks] at h
    simp only [mksV]
    split at h
    · rename_i hc
      rw [if_pos ⟨hc.1, hc.2.1, hc.2.2.1, hc.2.2.2.1⟩]
      unfold dNew at h
      cases ho : oget s.O (oid s.lvl d) with
      | some o => rw [ho] at h; cases h
      | none => rw [ho] at h; rw [new_push _ ho]; exact h
    · cases h
  | load ag n y =>
    simp only [dOp] at h
    split at h
    · exact val (op := .load ag n y) h
    · cases h
  | call f l => cases hnc
  | cal f l => cases hnc
  | mkm => cases h
  | mpu ks y k v => cases h
  | bad => cases h
  | app st y v => cases h
  | apz st z y v => cases h
  | cpy st y v => cases h
  | mv y => exact val (op := .mv y) h
  | mkf f a b => exact val (op := .mkf f a b) h
  | lena n => exact val (op := .lena n) h
  | _ => exact val h

/-! calls -/
theorem imp1_d {id : Nat} {v : LV} {r : LV × St} (h : dImp1 id s v = some r) : import1 id s v = r := by
  cases v <;> simp only [dImp1] at h
  all_goals first
    | (simp only [Option.some.injEq] at h; exact h)
    | (unfold dNew at h
       cases ho : oget s.O id with
       | some o => rw [ho] at h; cases h
       | none =>
         rw [ho] at h
         simp only [putO, Option.some.injEq] at h
         simp only [import1]
         rw [new_push _ ho]; exact h)
    | cases h
theorem imps_d : ∀ {l : List LV} {id : Nat} {s : St} {r : List LV × St}, dImps id l s = some r → imports id l s = r
  | [], id, s, r, h => by simp only [dImps, Option.some.injEq] at h; exact h
  | v :: l, id, s, r, h => by
    obtain ⟨q, hq, h⟩ := Option.bind_eq_some_iff.1 (show (dImp1 id s v).bind (dImpsK (dImps (id + 1) l)) = some r from h)
    obtain ⟨q2, hq2, rfl⟩ := Option.map_eq_some_iff.1 h
    simp only [imports, imp1_d hq, importsK, imps_d hq2]
theorem imp_d {id : Nat} {v : LV} {r : LV × St} (h : dImp id s v = some r) : import_ id s v = r := by
  by_cases ht : ∃ vs, v = .tup vs
  · obtain ⟨vs, rfl⟩ := ht
    simp only [dImp] at h
    split at h
    · obtain ⟨q, hq, rfl⟩ := Option.map_eq_some_iff.1 h
      simp only [import_, imps_d hq]; rfl
    · cases h
  · have hn : ∀ vs, v ≠ .tup vs := fun vs e => ht ⟨vs, e⟩
    rw [(imp_nt (s := s) hn).1] at h
    have := imp1_d h
    rw [← this]
    cases v <;> first | rfl | exact absurd rfl (hn _)

theorem dCall_ok {R : Orc} (IH : FnOK P R) (H : SR P c s tmps Ts w) {args : List LV} {vals : List Value} (ha : VRs c args vals) {V : Heap} (hV : Sub V s.O) {id : Nat} {f : FuncId} {v : LV} {s' : St} (h : dCall R id f (LV.idss args).isEmpty s (LV.cls V args) = some (v, s')) :
    ∃ c' u w', SR P c' s' tmps Ts w' ∧ Tr c w c' w' ∧ VR c' v u ∧ CallsTo P f vals.toArray w u w' := by
  unfold dCall at h
  split at h
  · rename_i hcl
    obtain ⟨r, hr, h⟩ := Option.bind_eq_some_iff.1 h
    obtain ⟨o, ho, hr⟩ := Option.bind_eq_some_iff.1 hr
    cases o with
    | ex e s => cases hr
    | res v0 F0 O0 =>
      unfold dAfter at h
      split at h
      · rename_i hb
        have himp := imp_d h
        have hOR : ∀ id o h, oget V id = some o → c.io id = some h → OR P c w h o := fun id o h ho hi => by
          obtain ⟨h', hi', hor⟩ := H.O id o (hV id o ho)
          rw [hi] at hi'; cases hi'; exact hor
        by_cases hemp : (LV.idss args).isEmpty = true
        · have hnil : LV.idss args = [] := by simpa using hemp
          have hv1 : VRs c (LV.cls V args) vals := cls_ok (c1 := c) hOR (fun _ _ _ h => h) (fun _ _ _ h => h) ha (fun id hid => by rw [hnil] at hid; cases hid) hcl
          obtain ⟨d, u, w', Hd, td, hcall⟩ := IH _ _ _ _ _ _ _ _ ho c.bare vals [] w (SR.empty0 H.mu) (VRs.closed (c := c) (c' := c.bare) (fun _ _ _ h => h) hv1 hcl)
          obtain ⟨c', H2, t2, hv2⟩ := back_in H td Hd (v := v0) (u := u) (by simpa [tget] using Hd.T 0) hr id
          rw [himp] at H2 hv2
          exact ⟨c', u, w', H2, t2, hv2, hcall⟩
        · have hno : LV.noVs r = true := by simpa [hemp] using hb
          obtain ⟨c1, H1, t1, _, _, hcov⟩ := H.frees (LV.idss args)
          have hv1 : VRs c1 (LV.cls V args) vals := cls_ok (c1 := c) hOR t1.mu t1.mu ha (fun id hid _ h hi hn y v hy => hcov id hid h hi hn y v hy) hcl
          obtain ⟨d, u, w', Hd, td, hcall⟩ := IH _ _ _ _ _ _ _ _ ho c1.bare vals [] w (SR.empty0 H1.mu) (VRs.closed (c := c1) (c' := c1.bare) (fun _ _ _ h => h) hv1 hcl)
          obtain ⟨c', H2, t2, hv2⟩ := back_noVs H td Hd (v := v0) (u := u) (by simpa [tget] using Hd.T 0) hr hno id
          rw [himp] at H2 hv2
          exact ⟨c', u, w', H2, t2, hv2, hcall⟩
      · cases h
  · cases h

theorem dOp_ok {R : Orc} (IH : FnOK P R) (IHr : RndOK P R) {a : Act} (H : SR P c s a.tmps Ts w) {o : Oper} {d : Nat} {un qs : List Nat} {v : LV} {s' : St} (h : dOp R un qs d (toOp P o.type o.op) s = some (v, s')) :
    ∃ c' u w', SR P c' s' a.tmps Ts w' ∧ Tr c w c' w' ∧ VR c' v u ∧ (∀ c, o.op ≠ .defer c) ∧ Acts P a o w u w' := by
  have hop : toOp1 P o.type o.op = some (toOp P o.type o.op) := by
    cases hh : toOp1 P o.type o.op with
    | some x => simp [toOp, hh]
    | none =>
      have e : toOp P o.type o.op = .bad := by simp [toOp, hh]
      rw [e] at h; cases h
  have hnd := not_defer hop
  have hT := H.T
  have hsub := sub_filt s.lvl un s.O
  generalize hx : toOp P o.type o.op = x at h hop
  by_cases hc : x.isCall = true
  · obtain ⟨cl, ho, hsh⟩ := call_shape hop hc
    rcases hsh with ⟨f, l, rfl, hcal, hm⟩ | ⟨y, y', l, rfl, hcal, hy, hm⟩
    · obtain ⟨c', u, w', H', t', hv, hc⟩ := dCall_ok IH H (args_ok hT hm) hsub h
      obtain ⟨hr, hg⟩ := hc.goes
      refine ⟨c', u, w', H', t', hv, hnd, .inr (.inr ⟨_, ?_, hg⟩)⟩
      have e : ((#[] : Array Value) ++ cl.args.map a.eval) ++ #[] = (cl.args.map a.eval).toList.toArray := by simp only [Array.toArray_toList, Array.empty_append, Array.append_empty]
      simp only [execOp, ho, resolve, hcal, Deferred.ofValue, Act.eval, pure_bind, invoke]
      have e2 : ((#[] : Array Value) ++ cl.args.map (fun x => a.eval x)) ++ #[] = (cl.args.map a.eval).toList.toArray := e
      first | (rw [e]; exact hr) | (rw [e2]; exact hr)
    · have hvf := opd_ok hT hy
      simp only [dOp] at h
      unfold dCal at h
      split at h
      · rename_i f' first cap hfx
        rw [hfx] at hvf
        generalize hq : a.eval y = q at hvf
        cases hvf with
        | fn _ _ _ us vs hl hl2 h1 h2 =>
          obtain ⟨c', u, w', H', t', hv, hc⟩ := dCall_ok IH H (VRs.append ⟨hl, h1⟩ (VRs.append (args_ok hT hm) ⟨hl2, h2⟩)) hsub h
          obtain ⟨hr, hg⟩ := hc.goes
          refine ⟨c', u, w', H', t', hv, hnd, .inr (.inr ⟨_, ?_, hg⟩)⟩
          simp only [execOp, ho, resolve, hcal]
          rw [Sem.run_bind, hq]
          simp only [Deferred.ofValue, Sem.run_pure, Result.andThen_ok, invoke]
          have e : us.toArray ++ cl.args.map a.eval ++ vs.toArray = (us ++ ((cl.args.map a.eval).toList ++ vs)).toArray := by
            have e1 : cl.args.map a.eval = (cl.args.map a.eval).toList.toArray := Array.toArray_toList.symm
            rw [e1]; simp only [List.append_toArray, List.append_assoc]
          have e2 : us.toArray ++ cl.args.map (fun x => a.eval x) ++ vs.toArray = (us ++ ((cl.args.map a.eval).toList ++ vs)).toArray := e
          first | (rw [e]; exact hr) | (rw [e2]; exact hr)
      · cases h
  · by_cases has : ∃ y, x = .as y
    · obtain ⟨y, rfl⟩ := has
      have hk := mk3_eq hop
      cases ho : o.op with
      | assign z =>
        rw [ho] at hop
        simp only [toOp1] at hop
        obtain ⟨y', hy, e⟩ := Option.map_eq_some_iff.1 hop
        simp only [AOp.as.injEq] at e; subst e
        simp only [dOp, ok1, Option.some.injEq, Prod.mk.injEq] at h
        obtain ⟨rfl, rfl⟩ := h
        exact ⟨c, a.eval z, w, H, Tr.refl _ _, opdT_ok hT hy, by rw [← ho]; exact hnd, .inl (by simp [execOp, ho])⟩
      | _ => rw [ho] at hk; cases hk
    · have hs := dOp_step H hop (by simpa using hc) (fun y e => has ⟨y, e⟩) h
      rw [← hx] at hs
      exact op_ok IH IHr H hs

/-- what makes a slice that nobody else knows -/
theorem Does.frozen (H : SR P c s tmps Ts w) {m : Sem Value} {id st : Nat} {xs : List (List LV)} (hd : Does P c.bare #[] [] w m (.bs id 0 xs.length) ⟨[], [], [(id, .row st xs)], 0⟩) : Does P c tmps Ts w m (.vs xs) s := by
  obtain ⟨u, w', c1, hrun, H1, t1, hv⟩ := hd
  obtain ⟨c2, H2, t2, _, _, hcov⟩ := H1.frees [id]
  have e : LV.cl [(id, .row st xs)] (.bs id 0 xs.length) = .vs xs := by
    simp [LV.cl, rowElems, oget, vsK]
  have hv2 := cl_ok (c1 := c1) (fun i o h ho hi => by
    obtain ⟨h', hi', hor⟩ := H1.O i o ho
    rw [hi] at hi'; cases hi'; exact hor) t2.mu t2.mu hv (fun i hid _ h hi hn y v hy => hcov i (by simpa [LV.ids] using hid) h hi hn y v hy) (by rw [e]; rfl)
  rw [e] at hv2
  obtain ⟨H3, t3⟩ := H.aside (t1.trans t2) H2.mu
  exact ⟨u, w', c.back c2, hrun, H3, t3, VR.closed (c := c2) (c' := c.back c2) (fun _ _ _ h => h) hv2 rfl⟩

theorem frz_inv {dl dl' : Dl} (h : frzDl dl = some dl') : ∃ id st xs, dl = ⟨.bs id 0 xs.length, [(id, .row st xs)], none⟩ ∧ dl' = ⟨.vs xs, [], none⟩ := by
  obtain ⟨v, news, upd⟩ := dl
  unfold frzDl at h
  split at h
  · rename_i id n j st xs h1 h2 h3
    simp only at h1 h2 h3
    subst h1; subst h2; subst h3
    split at h
    · rename_i hc
      obtain ⟨rfl, rfl⟩ := hc
      simp only [Option.some.injEq] at h
      exact ⟨id, st, xs, rfl, h.symm⟩
    · cases h
  · cases h
theorem call_frozen {R : Orc} (IH : FnOK P R) (H : SR P c s tmps Ts w) {args : List LV} {vals : List Value} (ha : VRs c args vals) {V : Heap} (hV : Sub V s.O) {id0 id st : Nat} {f : FuncId} {xs : List (List LV)}
    (hemp : (LV.idss args).isEmpty = true) (h : deltaCall R id0 f (LV.idss args).isEmpty (LV.cls V args) = some ⟨.bs id 0 xs.length, [(id, .row st xs)], none⟩) :
    ∃ c' u w', SR P c' s tmps Ts w' ∧ Tr c w c' w' ∧ VR c' (.vs xs) u ∧ CallsTo P f vals.toArray w u w' := by
  unfold deltaCall at h
  split at h
  case isFalse => cases h
  rename_i hcl
  obtain ⟨r, hr, h⟩ := Option.bind_eq_some_iff.1 h
  obtain ⟨o, ho, hr⟩ := Option.bind_eq_some_iff.1 hr
  cases o with
  | ex e s => cases hr
  | res v0 F0 O0 =>
    have hr' : r = .os st xs := by
      unfold deltaAfter at h
      rw [hemp] at h
      simp only [Bool.true_or, if_true] at h
      obtain ⟨q, hq, h⟩ := Option.map_eq_some_iff.1 h
      simp only [Dl.mk.injEq] at h
      obtain ⟨h1, h2, _⟩ := h
      cases r with
      | os st' ys =>
        simp only [impN, imp1N, Option.some.injEq] at hq; subst hq
        simp only [List.cons.injEq, Prod.mk.injEq, Obj.row.injEq, and_true, true_and] at h2
        obtain ⟨rfl, rfl, rfl⟩ := h2
        rfl
      | tup vs =>
        simp only [impN] at hq
        split at hq
        · obtain ⟨q2, hq2, rfl⟩ := Option.map_eq_some_iff.1 hq
          cases h1
        · cases hq
      | om es => exact absurd (show none = some q from hq) (by simp)
      | _ =>
        have hq := Option.some.inj (show some (_, []) = some q from hq)
        subst hq; cases h2
    subst hr'
    have hOR : ∀ id o h, oget V id = some o → c.io id = some h → OR P c w h o := fun id o h ho hi => by
      obtain ⟨h', hi', hor⟩ := H.O id o (hV id o ho)
      rw [hi] at hi'; cases hi'; exact hor
    have hnil : LV.idss args = [] := by simpa using hemp
    have hv1 : VRs c (LV.cls V args) vals := cls_ok (c1 := c) hOR (fun _ _ _ h => h) (fun _ _ _ h => h) ha (fun id hid => by rw [hnil] at hid; cases hid) hcl
    obtain ⟨d, u, w', Hd, td, hcall⟩ := IH _ _ _ _ _ _ _ _ ho c.bare vals [] w (SR.empty0 H.mu) (VRs.closed (c := c) (c' := c.bare) (fun _ _ _ h => h) hv1 hcl)
    have hv0 : VR d v0 u := by simpa [tget] using Hd.T 0
    obtain ⟨d2, Hd2, t2, _, _, hcov⟩ := Hd.frees (LV.ids v0)
    have e : LV.cl O0 v0 = .vs xs := by
      have hE : exportV O0 v0 = some (.os st xs) := hr
      clear hr
      unfold exportV chkR at hE
      split at hE
      · simp only [Option.some.injEq] at hE
        cases v0 with
        | nils st' => simp only [exportR, export1, LV.os.injEq] at hE; obtain ⟨rfl, rfl⟩ := hE; rfl
        | bs i off len =>
          simp only [exportR, export1] at hE
          cases hg : oget O0 i with
          | none => rw [hg] at hE; simp [expBs] at hE
          | some o =>
            rw [hg] at hE
            cases o with
            | row st' ys =>
              simp only [expBs] at hE
              split at hE
              · rename_i hle
                split at hE
                · rename_i h0
                  subst h0
                  have hr2 : LV.os st' (ys.take len) = LV.os st xs := hE
                  injection hr2 with ha1 hb1
                  subst ha1; subst hb1
                  simp only [LV.cl, hg, rowElems, vsK]
                  rw [if_pos (by omega)]; simp
                · cases hE
              · cases hE
            | _ => simp [expBs] at hE
        | os st' ys => cases hv0
        | bb i2 off st2 len => simp only [exportR, export1, LV.cl] at hE; unfold vsK at hE; split at hE <;> cases hE
        | _ => simp [exportR, export1, LV.cl, expMp] at hE <;> (try (split at hE <;> cases hE))
      · cases hE
    have hv2 := cl_ok (c1 := d) (fun i o h ho hi => by
      obtain ⟨h', hi', hor⟩ := Hd.O i o ho
      rw [hi] at hi'; cases hi'; exact hor) t2.mu t2.mu hv0 (fun i hid _ h hi hn y v hy => hcov i hid h hi hn y v hy) (by rw [e]; rfl)
    rw [e] at hv2
    obtain ⟨H3, t3⟩ := H.aside (td.trans t2) Hd2.mu
    exact ⟨c.back d2, u, w', H3, t3, VR.closed (c := d2) (c' := c.back d2) (fun _ _ _ h => h) hv2 rfl, hcall⟩

set_option maxHeartbeats 2000000 in
theorem dOpF_ok {R : Orc} (IH : FnOK P R) {a : Act} (H : SR P c s a.tmps Ts w) {o : Oper} {d : Nat} {un qs : List Nat} {v : LV} {s' : St} (h : dOpF R un qs d (toOp P o.type o.op) s = some (v, s')) :
    ∃ c' u w', SR P c' s' a.tmps Ts w' ∧ Tr c w c' w' ∧ VR c' v u ∧ (∀ c, o.op ≠ .defer c) ∧ Acts P a o w u w' := by
  unfold dOpF deltaZ at h
  simp only [Bool.false_eq_true, if_false] at h
  obtain ⟨dl', h, ha⟩ := Option.bind_eq_some_iff.1 h
  split at h
  case isFalse => cases h
  rename_i hok
  obtain ⟨dl, hd, hf⟩ := Option.bind_eq_some_iff.1 h
  obtain ⟨id, st, xs, rfl, rfl⟩ := frz_inv hf
  have hs : v = .vs xs ∧ s' = s := by
    simp only [applyD, freshAll, if_true, updO, pushAll, Option.some.injEq, Prod.mk.injEq] at ha
    exact ⟨ha.1.symm, ha.2.symm⟩
  obtain ⟨rfl, rfl⟩ := hs
  have hop : toOp1 P o.type o.op = some (toOp P o.type o.op) := by
    cases hh : toOp1 P o.type o.op with
    | some x => simp [toOp, hh]
    | none =>
      have e : toOp P o.type o.op = .bad := by simp [toOp, hh]
      rw [e] at hok; cases hok
  have hnd := not_defer hop
  have hT := H.T
  have hsub := sub_filt s'.lvl un s'.O
  generalize hx : toOp P o.type o.op = x at hd hok hop
  cases x with
  | call f l =>
    obtain ⟨cl, ho, hsh⟩ := call_shape hop rfl
    rcases hsh with ⟨f', l', he, hcal, hm⟩ | ⟨y, y', l', he, hcal, hy, hm⟩
    · cases he
      obtain ⟨c', u, w', H', t', hv, hc⟩ := call_frozen (id0 := oid s'.lvl d) IH H (args_ok hT hm) hsub hok hd
      obtain ⟨hr, hg⟩ := hc.goes
      refine ⟨c', u, w', H', t', hv, hnd, .inr (.inr ⟨_, ?_, hg⟩)⟩
      have e : ((#[] : Array Value) ++ cl.args.map a.eval) ++ #[] = (cl.args.map a.eval).toList.toArray := by simp only [Array.toArray_toList, Array.empty_append, Array.append_empty]
      simp only [execOp, ho, resolve, hcal, Deferred.ofValue, Act.eval, pure_bind, invoke]
      have e2 : ((#[] : Array Value) ++ cl.args.map (fun x => a.eval x)) ++ #[] = (cl.args.map a.eval).toList.toArray := e
      first | (rw [e]; exact hr) | (rw [e2]; exact hr)
    · cases he
  | mks st' z y v =>
    have hk := mk3_eq hop
    cases ho : o.op with
    | makeSlice t l cp =>
      rw [ho] at hop; simp only [toOp1] at hop
      split at hop
      · rename_i e hu
        split at hop
        · rename_i hsm
          simp only [bind, Option.bind_eq_some_iff, Option.some.injEq] at hop
          obtain ⟨st2, hst, z2, hz, x', hx', y', hy, hop⟩ := hop
          simp only [AOp.mks.injEq] at hop
          obtain ⟨rfl, rfl, rfl, rfl⟩ := hop
          have h1 := opd_ok hT hx'
          have h2 := opd_ok hT hy
          simp only [delta] at hd
          unfold deltaMks at hd
          split at hd
          · rename_i k1 n k2 m e1 e2
            rw [e1] at h1; rw [e2] at h2
            split at hd
            · rename_i hc
              simp only [Option.some.injEq, Dl.mk.injEq, List.cons.injEq, Prod.mk.injEq, and_true, Obj.row.injEq] at hd
              obtain ⟨_, rfl, rfl, rfl⟩ := hd
              have hm : mksV (oid s'.lvl d) z2.cells ⟨[], [], [], 0⟩ (.int k1 n) (.int k2 m) = some (.bs (oid s'.lvl d) 0 (List.replicate n.toNat (LV.cls [] z2.cells)).length, ⟨[], [], [(oid s'.lvl d, .row z2.cells.length (List.replicate n.toNat (LV.cls [] z2.cells)))], 0⟩) := by
                show (if 0 ≤ n ∧ n ≤ m ∧ m ≤ 1000000000 ∧ LV.closeds (LV.cls [] z2.cells) = true then _ else none) = _
                rw [if_pos ⟨hc.1, hc.2.1, hc.2.2.1, hc.2.2.2.1⟩, List.length_replicate]; rfl
              have hdo := mks_does (tmps := #[]) (Ts := []) (SR.empty0 (P := P) H.mu) hu hsm hz hst (show VR c.bare (.int k1 n) (a.eval l) from VR.closed (c := c) (c' := c.bare) (fun _ _ _ h => h) h1 rfl) (show VR c.bare (.int k2 m) (a.eval cp) from VR.closed (c := c) (c' := c.bare) (fun _ _ _ h => h) h2 rfl) hm
              obtain ⟨n2, w', c', g1, g2, g3, g4⟩ := Works.of (o := o) (Does.frozen H hdo) (by simp only [execOp, ho])
              rcases g4 with ⟨u, rfl, hu2⟩ | ⟨rfl, g⟩
              · exact ⟨c', u, w', g2, g3, hu2, fun _ => by simp, .inl g1⟩
              · cases g
            · cases hd
          · cases hd
        · cases hop
      · cases hop
    | _ => rw [ho] at hk; cases hk
  | bsl st' n z ps =>
    have hk := mk3_eq hop
    cases ho : o.op with
    | buildSlice t n' ps' =>
      rw [ho] at hop; simp only [toOp1] at hop
      split at hop
      · rename_i e hu
        simp only [bind, Option.bind_eq_some_iff, Option.some.injEq] at hop
        obtain ⟨st2, hst, hop⟩ := hop
        split at hop
        · simp at hop
        · rename_i hlim
          simp only [Option.bind_eq_some_iff, Option.some.injEq] at hop
          obtain ⟨l, hl, z2, hz, hop⟩ := hop
          simp only [AOp.bsl.injEq] at hop
          obtain ⟨rfl, rfl, rfl, rfl⟩ := hop
          obtain ⟨h1, h2⟩ := mapM_parts hl
          simp only [delta] at hd
          split at hd
          case isFalse => cases hd
          rename_i hzl
          obtain ⟨xs1, hx1, hd⟩ := Option.bind_eq_some_iff.1 hd
          unfold deltaBsl at hd
          split at hd
          case isFalse => cases hd
          rename_i hc
          simp only [Option.some.injEq, Dl.mk.injEq, List.cons.injEq, Prod.mk.injEq, and_true, Obj.row.injEq, LV.bs.injEq, true_and] at hd
          obtain ⟨⟨_, hn⟩, rfl, rfl, rfl⟩ := hd
          have hm : (fillS st2 s'.T l (List.replicate n' z2.cells)).bind (bslK (oid s'.lvl d) st2 n' ⟨[], [], [], 0⟩) = some (.bs (oid s'.lvl d) 0 xs1.length, ⟨[], [], [(oid s'.lvl d, .row st2 xs1)], 0⟩) := by
            rw [hx1, Option.bind_some]
            unfold bslK
            rw [closeRows_d hc]
            simp only [bslJ, rowK]
            rw [← hn]; rfl
          have hdo := bsl_does (tmps := #[]) (Ts := []) (a := a) (ps := ps'.map fun (i, x) => (i, a.eval x)) (SR.empty0 (P := P) H.mu) hu hst hlim hz hzl (by simpa using h1.symm) (fun i p q hp hq => by
            simp only [Array.getElem?_map, Option.map_eq_some_iff] at hq
            obtain ⟨q0, hq0, rfl⟩ := hq
            have := h2 i q0 p (by simpa using hq0) hp
            simp only [Option.bind_eq_some_iff, Option.some.injEq] at this
            obtain ⟨y, hy, rfl⟩ := this
            have hcl := List.all_eq_true.1 hok _ (List.mem_of_getElem? hp)
            exact ⟨rfl, VR.closed (c := c) (c' := c.bare) (fun _ _ _ h => h) (opdT_ok hT hy) hcl⟩) hm
          obtain ⟨n2, w', c', g1, g2, g3, g4⟩ := Works.of (o := o) (m := Instr.buildSlice t n' (ps'.map fun (i, x) => (i, a.eval x))) (Does.frozen H hdo) (by simp only [execOp, ho])
          rcases g4 with ⟨u, rfl, hu2⟩ | ⟨rfl, g⟩
          · exact ⟨c', u, w', g2, g3, hu2, fun _ => by simp, .inl g1⟩
          · cases g
      · cases hop
    | _ => rw [ho] at hk; cases hk
  | _ => cases hok
end
end Go.Zv
