/- The engine, part 13: the operations that make memory or write it. -/
import Derived.Test.YtjmnepfdhkabfaaZvS7
namespace Go.Zv
set_option autoImplicit false
set_option linter.unusedVariables false
set_option linter.unusedSimpArgs false
section
variable {P : Program} {c : Cx} {w : World} {s : St} {tmps : Array Value} {Ts : List (Array Value)}

/-- it is carried out, and the state behind it is what the evaluation says -/
def Does (P : Program) (c : Cx) (tmps : Array Value) (Ts : List (Array Value)) (w : World) (m : Sem Value) (v : LV) (s' : St) : Prop :=
  ∃ u w' c', m.run P w = .ok u w' ∧ SR P c' s' tmps Ts w' ∧ Tr c w c' w' ∧ VR c' v u

mutual
theorem apart_sub {r : Rep} {id : Nat} : ∀ (v : LV), LV.apart id v = true → LV.sub r id v = v
  | .agg cs, h => by simp only [LV.apart] at h; simp only [LV.sub, aparts_subs cs h]
  | .tup cs, h => by simp only [LV.apart] at h; simp only [LV.sub, aparts_subs cs h]
  | .fn f a b, h => by simp only [LV.apart, Bool.and_eq_true] at h; simp only [LV.sub, aparts_subs a h.1, aparts_subs b h.2]
  | .bs i o l, h => by simp only [LV.apart, bne_iff_ne, ne_eq] at h; simp [LV.sub, h]
  | .bb i o st l, h => by simp only [LV.apart, bne_iff_ne, ne_eq] at h; simp [LV.sub, h]
  | .ptr i o, h => by simp only [LV.apart, bne_iff_ne, ne_eq] at h; simp [LV.sub, h]
  | .ep i j o, h => by simp only [LV.apart, bne_iff_ne, ne_eq] at h; simp [LV.sub, h]
  | .mp i, h => by simp only [LV.apart, bne_iff_ne, ne_eq] at h; simp [LV.sub, h]
  | .yl i, h => by simp only [LV.apart, bne_iff_ne, ne_eq] at h; simp [LV.sub, h]
  | .any, _ => rfl
  | .undef, _ => rfl
  | .int .., _ => rfl
  | .bool _, _ => rfl
  | .str _, _ => rfl
  | .vs _, _ => rfl
  | .os .., _ => rfl
  | .nils _, _ => rfl
  | .nul, _ => rfl
  | .emp, _ => rfl
  | .fp _, _ => rfl
  | .nilp, _ => rfl
  | .nilf, _ => rfl
  | .om _, _ => rfl
  | .nilm, _ => rfl
theorem aparts_subs {r : Rep} {id : Nat} : ∀ (l : List LV), LV.aparts id l = true → LV.subs r id l = l
  | [], _ => rfl
  | v :: l, h => by
    simp only [LV.aparts, Bool.and_eq_true] at h
    simp only [LV.subs, apart_sub v h.1, aparts_subs l h.2]
end
theorem aparts_at {id : Nat} : ∀ {l : List LV}, LV.aparts id l = true → ∀ v ∈ l, LV.apart id v = true
  | [], _, v, hv => by cases hv
  | u :: l, h, v, hv => by
    simp only [LV.aparts, Bool.and_eq_true] at h
    cases hv with
    | head => exact h.1
    | tail _ hv => exact aparts_at h.2 v hv
theorem VR.apart {c' : Cx} {id : Nat} {v : LV} {u : Value} (h : VR c v u) (ha : LV.apart id v = true) (hmu : ∀ b o x, c.mu b o = some x → c'.mu b o = some x) (hio : ∀ j hh, j ≠ id → c.io j = some hh → c'.io j = some hh) : VR c' v u := by
  have g : Goes_ c c' id .kill := ⟨hmu, hio, fun xs h => by cases h⟩
  have := h.sub g
  rwa [apart_sub v ha] at this
theorem VRs.apart {c' : Cx} {id : Nat} {l : List LV} {us : List Value} (h : VRs c l us) (ha : LV.aparts id l = true) (hmu : ∀ b o x, c.mu b o = some x → c'.mu b o = some x) (hio : ∀ j hh, j ≠ id → c.io j = some hh → c'.io j = some hh) : VRs c' l us :=
  ⟨h.len, fun i x v hx hv => (h.at_ i x v hx hv).apart (aparts_at ha x (List.mem_of_getElem? hx)) hmu hio⟩

/-- a nil slice becomes a row without memory -/
theorem nilRow (H : SR P c s tmps Ts w) (id st : Nat) (q : Option Addr) :
    ∃ c', SR P c' (St.new id (.row st []) s) tmps Ts w ∧ Tr c w c' w ∧ VR c' (.bs id 0 0) (.slice q 0 0) ∧ (∀ j hh, j ≠ id → c.io j = some hh → c'.io j = some hh) := by
  obtain ⟨c', h1, h2, h3, h4⟩ := H.new (w' := w) id (o := .row st []) (h := ⟨0, 0, st, 0, true, q⟩) (Grew.refl w) (by simp) (fun c' _ _ _ =>
    OR.row [] (fun _ _ => undef) (by simp) (by simp) (Nat.zero_le _) (fun _ => rfl) (by simp) (by simp))
  exact ⟨c', h1, h2, .bs id 0 0 _ q 0 (Nat.le_refl _) h3 (fun _ => ⟨by simp [Home.addr], rfl⟩) (by simp), h4⟩

theorem rowsOf_ok : ∀ {l all : List LV} {id : Nat} {c : Cx} {s : St} {vs : List Value} {l' : List LV} {s' : St}, SR P c s tmps Ts w → VRs c l vs → (∀ x ∈ l, x ∈ all) → rowsOf all id l s = some (l', s') →
    ∃ c', SR P c' s' tmps Ts w ∧ Tr c w c' w ∧ VRs c' l' vs ∧ (∀ x ∈ all, ∀ u, VR c x u → VR c' x u) ∧ (∀ j hh, j < id → c.io j = some hh → c'.io j = some hh)
  | [], all, id, c, s, vs, l', s', H, hl, _, h => by
    simp only [rowsOf, Option.some.injEq, Prod.mk.injEq] at h
    obtain ⟨rfl, rfl⟩ := h
    exact ⟨c, H, Tr.refl _ _, hl, fun _ _ _ h => h, fun _ _ _ h => h⟩
  | v :: l, all, id, c, s, [], l', s', H, hl, _, h => by have := hl.len; simp at this
  | v :: l, all, id, c, s, u :: vs, l', s', H, hl, hsub, h => by
    simp only [rowsOf] at h
    split at h
    · rename_i hn
      split at h
      · rename_i hap
        obtain ⟨r, hr, h⟩ := Option.map_eq_some_iff.1 h
        obtain ⟨l2, s2⟩ := r
        simp only [consC, Prod.mk.injEq] at h
        obtain ⟨rfl, rfl⟩ := h
        have hv : ∃ q, u = .slice q 0 0 := by
          have := hl.head
          cases v <;> simp [isNils] at hn
          cases this; exact ⟨_, rfl⟩
        obtain ⟨q, rfl⟩ := hv
        obtain ⟨c1, H1, t1, hv1, hio1⟩ := nilRow H id (nilSt v) q
        have tr : ∀ x ∈ all, ∀ u, VR c x u → VR c1 x u := fun x hx u hu => hu.apart (aparts_at hap x hx) t1.mu hio1
        have hl1 : VRs c1 l vs := ⟨hl.tail.len, fun i x y hx hy => tr x (hsub x (List.mem_cons_of_mem _ (List.mem_of_getElem? hx))) y (hl.tail.at_ i x y hx hy)⟩
        obtain ⟨c2, H2, t2, hl2, ha2, hio2⟩ := rowsOf_ok H1 hl1 (fun x hx => hsub x (List.mem_cons_of_mem _ hx)) hr
        refine ⟨c2, H2, t1.trans t2, VRs.cons ?_ hl2, fun x hx u hu => ha2 x hx u (tr x hx u hu), fun j hh hj hjj => hio2 j hh (by omega) (hio1 j hh (by omega) hjj)⟩
        cases hv1 with
        | bs _ _ _ hh _ _ hcap hi h0 h1 => exact .bs _ _ _ hh _ _ hcap (hio2 _ _ (by omega) hi) h0 h1
      · cases h
    · obtain ⟨r, hr, h⟩ := Option.map_eq_some_iff.1 h
      obtain ⟨l2, s2⟩ := r
      simp only [consC, Prod.mk.injEq] at h
      obtain ⟨rfl, rfl⟩ := h
      obtain ⟨c2, H2, t2, hl2, ha2, hio2⟩ := rowsOf_ok H hl.tail (fun x hx => hsub x (List.mem_cons_of_mem _ hx)) hr
      exact ⟨c2, H2, t2, VRs.cons (ha2 v (hsub v (by simp)) u hl.head) hl2, ha2, fun j hh hj hjj => hio2 j hh (by omega) hjj⟩

theorem rowsOf_one : ∀ {l all : List LV} {id : Nat} {s : St} {l' : List LV} {s' : St}, rowsOf all id l s = some (l', s') → l.all LV.one = true → l'.all LV.one = true ∧ l'.length = l.length
  | [], all, id, s, l', s', h, _ => by
    simp only [rowsOf, Option.some.injEq, Prod.mk.injEq] at h
    obtain ⟨rfl, rfl⟩ := h; simp
  | v :: l, all, id, s, l', s', h, ho => by
    simp only [List.all_cons, Bool.and_eq_true] at ho
    simp only [rowsOf] at h
    split at h
    · split at h
      · obtain ⟨r, hr, h⟩ := Option.map_eq_some_iff.1 h
        obtain ⟨l2, s2⟩ := r
        simp only [consC, Prod.mk.injEq] at h
        obtain ⟨rfl, rfl⟩ := h
        obtain ⟨h1, h2⟩ := rowsOf_one hr ho.2
        exact ⟨by simp only [List.all_cons, Bool.and_eq_true]; exact ⟨rfl, h1⟩, by simp [h2]⟩
      · cases h
    · obtain ⟨r, hr, h⟩ := Option.map_eq_some_iff.1 h
      obtain ⟨l2, s2⟩ := r
      simp only [consC, Prod.mk.injEq] at h
      obtain ⟨rfl, rfl⟩ := h
      obtain ⟨h1, h2⟩ := rowsOf_one hr ho.2
      exact ⟨by simp only [List.all_cons, Bool.and_eq_true]; exact ⟨ho.1, h1⟩, by simp [h2]⟩

theorem one_all {c : Cx} {cs : List LV} {vs : List Value} (hv : VRs c cs vs) (h : cs.all LV.one = true) : ∀ u ∈ vs, u.oneCell' = true := by
  intro u hu
  obtain ⟨i, hi⟩ := List.mem_iff_getElem?.1 hu
  have hlt : i < vs.length := (List.getElem?_eq_some_iff.1 hi).1
  have hx : cs[i]? = some (cs[i]'(hv.len ▸ hlt)) := List.getElem?_eq_getElem _
  exact (hv.at_ i _ u hx hi).one (List.all_eq_true.1 h _ (List.mem_of_getElem? hx))

/-- a world with one block more -/
theorem cell_push (w : World) (cs : Array Value) (e : TypeId) (i : Nat) : ({ w with heap := w.heap.push (.cells cs e) } : World).cell? ⟨w.heap.size, i, none⟩ = cs[i]? := by
  simp [World.cell?]
theorem frozen_push (w : World) (cs : Array Value) (e : TypeId) (i : Nat) : ({ w with heap := w.heap.push (.cells cs e) } : World).frozen? ⟨w.heap.size, i, none⟩ = false := by
  simp [World.frozen?]

/-- a new variable -/
theorem box_does (H : SR P c s tmps Ts w) {id : Nat} {z : List LV} {u : Value} (hv : VRs c z u.cells.toList) (elem : TypeId) {v : LV} {s' : St} (h : boxV id z s = some (v, s')) :
    Does P c tmps Ts w (do pure (.pointer (some (← newVar elem u)))) v s' := by
  unfold boxV at h
  split at h
  · rename_i ho
    obtain ⟨r, hr, h⟩ := Option.bind_eq_some_iff.1 h
    obtain ⟨l', s1⟩ := r
    simp only [boxK] at h
    split at h
    · rename_i hap
      simp only [Option.some.injEq, Prod.mk.injEq] at h
      obtain ⟨rfl, rfl⟩ := h
      obtain ⟨c1, H1, t1, hl1, _, _⟩ := rowsOf_ok H hv (fun x hx => hx) hr
      have hone := rowsOf_one hr ho
      have h1 := one_all hl1 hone.1
      let w' : World := { w with heap := w.heap.push (.cells u.cells elem) }
      obtain ⟨c2, H2, t2, hi, _⟩ := H1.new (w' := w') id (o := .box l') (h := ⟨w.heap.size, 0, 0, 0, false, none⟩) (Grew.push w _ (by simp [Go.Obj.soft])) (by simp [w']) (fun c' hmu hio hm =>
        OR.box l' u.cells.toList rfl (hl1.apart hap hmu hio) (fun i x hx => ⟨by rw [cell_push]; simpa using hx, frozen_push _ _ _ _, h1 x (List.mem_of_getElem? hx)⟩) (hm rfl))
      exact ⟨.pointer (some ⟨w.heap.size, 0, none⟩), w', c2, by simp [newVar, newRow, w'], H2, t1.trans t2, .ptr id 0 _ hi⟩
    · cases h
  · cases h

/-- a store into cells that may be written -/
theorem only_setCells (w : World) (b o : Nat) (vs : List Value) : Only w (w.setCells b o vs) b := by
  refine ⟨?_, fun b' hb => ?_, fun a => World.frozen?_setCells b vs o w a, ⟨(World.keptBut_setCells b (may := fun _ => True) vs o w (fun _ _ => trivial)).1, (World.keptBut_setCells b (may := fun _ => True) vs o w (fun _ _ => trivial)).2.1⟩, fun r hr => ?_⟩
  · induction vs generalizing o w with
    | nil => rfl
    | cons v vs ih => rw [World.setCells, ih]; simp [World.setCell]
  · induction vs generalizing o w with
    | nil => rfl
    | cons v vs ih => rw [World.setCells, ih]; simp [World.setCell, Array.getElem?_modify, Ne.symm hb]
  · induction vs generalizing o w r with
    | nil => exact ⟨r, hr⟩
    | cons v vs ih => rw [World.setCells]; exact ih (w := w.setCell ⟨b, o, none⟩ v) (o := o + 1) (r := r) (by simp [World.setCell, Array.getElem?_modify, hr])
theorem run_store_ok {t : TypeId} {u : Value} {b o n : Nat} (hn : tsize P t = some n) (hl : u.cells.toList.length = n) (h1 : ∀ x ∈ u.cells.toList, x.oneCell' = true)
    (hc : ∀ j, j < n → (w.cell? ⟨b, o + j, none⟩).isSome = true ∧ w.frozen? ⟨b, o + j, none⟩ = false) :
    (Instr.storeAt t (.pointer (some ⟨b, o, none⟩)) u).run P w = .ok () (w.setCells b o u.cells.toList) := by
  have := run_storeCells_cells (P := P) b o u.cells.toList 0 w (fun j hj => by simpa using (hc j (by omega)).1) (fun j hj => by simpa using (hc j (by omega)).2) h1
  simp only [Nat.add_zero] at this
  have hsz : u.cells.size = n := by simpa using hl
  simp [Instr.storeAt, Instr.sureAddr, storeVar, run_size hn, hsz, this]

theorem setV_get {us ws : List Value} {off : Nat} (hle : off + ws.length ≤ us.length) {i : Nat} {v : Value} (h : (setV us off ws)[i]? = some v) :
    (i < off ∧ us[i]? = some v) ∨ (off ≤ i ∧ i < off + ws.length ∧ ws[i - off]? = some v) ∨ (off + ws.length ≤ i ∧ us[i]? = some v) := by
  unfold setV at h
  rw [List.getElem?_append] at h
  split at h
  · rename_i hlt
    simp at hlt
    left
    rw [List.getElem?_take] at h
    split at h
    · exact ⟨by omega, h⟩
    · cases h
  · rename_i hge
    simp only [List.length_take] at hge h
    have hmin : min off us.length = off := by omega
    rw [hmin] at hge h
    rw [List.getElem?_append] at h
    split at h
    · exact .inr (.inl ⟨by omega, by omega, h⟩)
    · right; right
      rw [List.getElem?_drop] at h
      refine ⟨by omega, ?_⟩
      rwa [show off + ws.length + (i - off - ws.length) = i by omega] at h

/-! by value -/
theorem cls_get (O : Heap) : ∀ (l : List LV) (i : Nat), (LV.cls O l)[i]? = (l[i]?).map (LV.cl O)
  | [], i => by simp [LV.cls]
  | v :: l, 0 => by simp [LV.cls]
  | v :: l, i + 1 => by simp [LV.cls, cls_get O l i]
theorem cls_length (O : Heap) : ∀ (l : List LV), (LV.cls O l).length = l.length
  | [] => rfl
  | v :: l => by simp [LV.cls, cls_length O l]
theorem idss_mem : ∀ {l : List LV} {i : Nat} {x : LV} {id : Nat}, l[i]? = some x → id ∈ LV.ids x → id ∈ LV.idss l
  | [], i, x, id, h, _ => by simp at h
  | v :: l, 0, x, id, h, hm => by simp at h; subst h; simp [LV.idss, hm]
  | v :: l, i + 1, x, id, h, hm => by simp at h; simp only [LV.idss, List.mem_append]; exact .inr (idss_mem h hm)
/-- what a closed value says holds once the memory that it shows is frozen -/
theorem cl_ok {c1 c' : Cx} {O : Heap} (hO : ∀ id o h, oget O id = some o → c.io id = some h → OR P c1 w h o) (hmu : ∀ b o x, c.mu b o = some x → c'.mu b o = some x) (hmu1 : ∀ b o x, c1.mu b o = some x → c'.mu b o = some x)
    {x : LV} {u : Value} (hx : VR c x u) : (∀ id ∈ LV.ids x, oget O id ≠ none → ∀ h, c.io id = some h → h.nul = false → ∀ y v, w.cell? ⟨h.blk, y, none⟩ = some v → c'.mu h.blk y = some v) →
    LV.closed (LV.cl O x) = true → VR c' (LV.cl O x) u := by
  induction hx with
  | any v => exact fun _ _ => .any v
  | undef => exact fun _ _ => .undef
  | int k n => exact fun _ _ => .int k n
  | bool b => exact fun _ _ => .bool b
  | str l => exact fun _ _ => .str l
  | agg cs vs hl h ih =>
    intro hcov hc
    simp only [LV.cl] at hc ⊢
    refine .agg _ vs (by rw [cls_length, hl]) fun i x v hx hv => ?_
    have hcx := closeds_at (by simpa [LV.closed] using hc) hx
    rw [cls_get] at hx
    obtain ⟨y, hy, rfl⟩ := Option.map_eq_some_iff.1 hx
    exact ih i y v hy hv (fun id hid => hcov id (by simp only [LV.ids]; exact idss_mem hy hid)) hcx
  | tup cs vs hl h ih =>
    intro hcov hc
    simp only [LV.cl] at hc ⊢
    refine .tup _ vs (by rw [cls_length, hl]) fun i x v hx hv => ?_
    have hcx := closeds_at (by simpa [LV.closed] using hc) hx
    rw [cls_get] at hx
    obtain ⟨y, hy, rfl⟩ := Option.map_eq_some_iff.1 hx
    exact ih i y v hy hv (fun id hid => hcov id (by simp only [LV.ids]; exact idss_mem hy hid)) hcx
  | vs0 a cap => exact fun _ _ => .vs0 a cap
  | vs xs b o s cap val hne hcap hs hm ho hv ih =>
    exact fun _ _ => (VR.vs xs b o s cap val hne hcap hs hm ho hv).closed hmu rfl
  | nils st a => exact fun _ _ => .vs0 a 0
  | nul => exact fun _ _ => .nul
  | emp a cap => exact fun _ _ => .emp a cap
  | bs id off len hh a cap hcap hi h0 h1 =>
    intro hcov hc
    simp only [LV.cl] at hc ⊢
    cases ho : oget O id with
    | none => rw [ho] at hc; simp [rowElems, vsK, LV.closed] at hc
    | some o =>
      rw [ho] at hc
      have hor := hO id o hh ho hi
      cases hor with
      | row ys val hs hv hl h0' hsp hmm =>
        simp only [rowElems] at hc ⊢
        split
        · rename_i hle
          simp only [vsK]
          have hlen : ((ys.drop off).take len).length = len := by simp; omega
          by_cases hz : len = 0
          · subst hz; simp only [List.take_zero]; exact .vs0 a cap
          · obtain ⟨hn, rfl⟩ := h1 hz
            have hget : ∀ (k : Nat) (x : List LV), ((ys.drop off).take len)[k]? = some x → ys[off + k]? = some x := by
              intro k x hx
              rw [List.getElem?_take] at hx
              split at hx
              · simpa using hx
              · cases hx
            have := VR.vs (c := c') ((ys.drop off).take len) hh.blk (hh.off + off * hh.st) hh.st cap (fun k j => val (off + k) j)
              (by intro e; rw [e] at hlen; simp at hlen; omega) (by rw [hlen]; exact hcap)
              (fun k x hx => hs _ _ (hget k x hx))
              (fun k x j y hx hy => by
                have := (hv _ _ j y (hget k x hx) hy).1
                refine hcov id (by simp [LV.ids]) (by rw [ho]; simp) hh hi hn _ _ ?_
                rw [show hh.off + off * hh.st + k * hh.st + j = hh.off + (off + k) * hh.st + j by rw [Nat.add_mul]; omega]
                exact this)
              (fun k x j y hx hy => (hv _ _ j y (hget k x hx) hy).2.1)
              (fun k x j y hx hy => (hv _ _ j y (hget k x hx) hy).2.2.closed hmu1 (closeds_at (hs _ _ (hget k x hx)).2 hy))
            rwa [hlen] at this
        · rename_i hle
          rw [if_neg hle] at hc
          simp [vsK, LV.closed] at hc
      | box => simp [rowElems, vsK, LV.closed] at hc
      | map => simp [rowElems, vsK, LV.closed] at hc
      | loop => simp [rowElems, vsK, LV.closed] at hc
  | bb id off st len hh a cap hcap hi h1 =>
    intro hcov hc
    simp only [LV.cl] at hc ⊢
    cases ho : oget O id with
    | none => rw [ho] at hc; simp [boxElemsC, vsK, LV.closed] at hc
    | some o =>
      rw [ho] at hc
      have hor := hO id o hh ho hi
      cases hor with
      | box cs vals hn hv hcc hmm =>
        simp only [boxElemsC] at hc ⊢
        split
        · rename_i hle
          simp only [vsK]
          have hlen := chunk_len st len (cs.drop off)
          by_cases hz : len = 0
          · subst hz; simp only [chunk]; exact .vs0 a cap
          · have := h1 hz; subst this
            have hget : ∀ (k : Nat) (x : List LV), (chunk st len (cs.drop off))[k]? = some x → k < len ∧ x = (cs.drop (off + k * st)).take st := by
              intro k x hx
              have h3 := (List.getElem?_eq_some_iff.1 hx).1
              rw [hlen] at h3
              exact ⟨h3, by rw [chunk_get _ _ _ _ _ hx, List.drop_drop]⟩
            have hin : ∀ (k : Nat) (x : List LV) (j : Nat) (y : LV), (chunk st len (cs.drop off))[k]? = some x → x[j]? = some y → cs[off + k * st + j]? = some y := by
              intro k x j y hx hy
              rw [(hget k x hx).2, List.getElem?_take] at hy
              split at hy
              · simpa using hy
              · cases hy
            have key : ∀ (k : Nat) (x : List LV) (j : Nat) (y : LV), (chunk st len (cs.drop off))[k]? = some x → x[j]? = some y → ∃ v, vals.getD (off + k * st + j) undef = v ∧ w.cell? ⟨hh.blk, off + k * st + j, none⟩ = some v ∧ v.oneCell' = true ∧ VR c1 y v ∧ LV.closed y = true := by
              intro k x j y hx hy
              have hy2 := hin k x j y hx hy
              obtain ⟨v, hv1, hv2⟩ := hv.getSome hy2
              obtain ⟨a1, a2, a3⟩ := hcc _ v hv1
              exact ⟨v, by simp [List.getD, hv1], a1, a3, hv2, closeds_at hle.1 hy2⟩
            have := VR.vs (c := c') (chunk st len (cs.drop off)) hh.blk off st cap (fun k j => vals.getD (off + k * st + j) undef)
              (by intro e; rw [e] at hlen; simp at hlen; omega) (by rw [hlen]; exact hcap)
              (fun k x hx => by
                obtain ⟨hk, rfl⟩ := hget k x hx
                refine ⟨?_, closeds_of fun j y hy => closeds_at hle.1 (hin k _ j y hx hy)⟩
                have : (k + 1) * st ≤ len * st := Nat.mul_le_mul_right _ (by omega)
                rw [Nat.add_mul, Nat.one_mul] at this
                simp; omega)
              (fun k x j y hx hy => by
                obtain ⟨v, e, h1, _⟩ := key k x j y hx hy
                rw [e]
                exact hcov id (by simp [LV.ids]) (by rw [ho]; simp) hh hi hn _ _ h1)
              (fun k x j y hx hy => by obtain ⟨v, e, _, h2, _⟩ := key k x j y hx hy; rw [e]; exact h2)
              (fun k x j y hx hy => by obtain ⟨v, e, _, _, h3, h4⟩ := key k x j y hx hy; rw [e]; exact h3.closed hmu1 h4)
            rwa [hlen] at this
        · rename_i hle
          rw [if_neg hle] at hc
          simp [vsK, LV.closed] at hc
      | row => simp [boxElemsC, vsK, LV.closed] at hc
      | map => simp [boxElemsC, vsK, LV.closed] at hc
      | loop => simp [boxElemsC, vsK, LV.closed] at hc
  | ptr id off hh hi => exact fun _ hc => by simp [LV.cl, LV.closed] at hc
  | ep id i off hh hi hn => exact fun _ hc => by simp [LV.cl, LV.closed] at hc
  | fp cs b o val hcl hm ho hv ih => exact fun _ _ => (VR.fp cs b o val hcl hm ho hv).closed hmu rfl
  | nilp => exact fun _ _ => .nilp
  | fn f xs ys us vs hl hl2 h h2 ih ih2 =>
    intro hcov hc
    simp only [LV.cl] at hc ⊢
    simp only [LV.closed, Bool.and_eq_true] at hc
    refine .fn f _ _ us vs (by rw [cls_length, hl]) (by rw [cls_length, hl2]) (fun i x v hx hv => ?_) (fun i x v hx hv => ?_)
    · have hcx := closeds_at hc.1 hx
      rw [cls_get] at hx
      obtain ⟨y, hy, rfl⟩ := Option.map_eq_some_iff.1 hx
      exact ih i y v hy hv (fun id hid => hcov id (by simp only [LV.ids, List.mem_append]; exact .inl (idss_mem hy hid))) hcx
    · have hcx := closeds_at hc.2 hx
      rw [cls_get] at hx
      obtain ⟨y, hy, rfl⟩ := Option.map_eq_some_iff.1 hx
      exact ih2 i y v hy hv (fun id hid => hcov id (by simp only [LV.ids, List.mem_append]; exact .inr (idss_mem hy hid))) hcx
  | nilf => exact fun _ _ => .nilf
  | mp id hh hi => exact fun _ hc => by simp [LV.cl, LV.closed] at hc
  | nilm => exact fun _ _ => .nilm
  | yl id hh hi => exact fun _ hc => by simp [LV.cl, LV.closed] at hc

theorem cls_ok {c1 c' : Cx} {O : Heap} (hO : ∀ id o h, oget O id = some o → c.io id = some h → OR P c1 w h o) (hmu : ∀ b o x, c.mu b o = some x → c'.mu b o = some x) (hmu1 : ∀ b o x, c1.mu b o = some x → c'.mu b o = some x)
    {xs : List LV} {us : List Value} (hx : VRs c xs us) (hcov : ∀ id ∈ LV.idss xs, oget O id ≠ none → ∀ h, c.io id = some h → h.nul = false → ∀ y v, w.cell? ⟨h.blk, y, none⟩ = some v → c'.mu h.blk y = some v)
    (hc : LV.closeds (LV.cls O xs) = true) : VRs c' (LV.cls O xs) us :=
  ⟨by rw [cls_length, hx.len], fun i x v hx' hv => by
    have hcx := closeds_at hc hx'
    rw [cls_get] at hx'
    obtain ⟨y, hy, rfl⟩ := Option.map_eq_some_iff.1 hx'
    exact cl_ok hO hmu hmu1 (hx.at_ i y v hy hv) (fun id hid => hcov id (idss_mem hy hid)) hcx⟩
end
end Go.Zv
