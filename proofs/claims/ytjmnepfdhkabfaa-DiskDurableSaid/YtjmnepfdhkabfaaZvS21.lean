/- The engine, part 26: two operations of a drawn region that may come in either order. -/
import Derived.Test.YtjmnepfdhkabfaaZvS20
namespace Go.Zv
set_option autoImplicit false
set_option linter.unusedVariables false
set_option linter.unusedSimpArgs false

/-! what it depends on -/
theorem ev_congr {T T' : Env} {x : Opd} (h : ∀ t ∈ opdT x, tget T t = tget T' t) : x.ev T = x.ev T' := by
  cases x with
  | t n => exact h n (by simp [opdT])
  | c v => rfl
  | fu f => rfl
theorem evs_congr {T T' : Env} : ∀ {l : List Opd}, (∀ t ∈ (l.map opdT).flatten, tget T t = tget T' t) → evs T l = evs T' l
  | [], _ => rfl
  | x :: l, h => by
    simp only [evs]
    rw [ev_congr (x := x) fun t ht => h t (by simp [ht]), evs_congr fun t ht => h t (by simp only [List.map_cons, List.flatten_cons, List.mem_append]; exact .inr ht)]
theorem fill_congr {T T' : Env} : ∀ {l : List (Nat × Nat × Opd)} {cs : List LV}, (∀ t ∈ (l.map fun p => opdT p.2.2).flatten, tget T t = tget T' t) → fill T l cs = fill T' l cs
  | [], _, _ => rfl
  | (off, n, x) :: l, cs, h => by
    simp only [fill]
    have e : fill T l = fill T' l := funext fun cs => fill_congr fun t ht => h t (by simp only [List.map_cons, List.flatten_cons, List.mem_append]; exact .inr ht)
    rw [ev_congr (x := x) fun t ht => h t (by simp [ht]), e]
theorem fillS_congr {T T' : Env} {st : Nat} : ∀ {l : List (Nat × Opd)} {cs : List (List LV)}, (∀ t ∈ (l.map fun p => opdT p.2).flatten, tget T t = tget T' t) → fillS st T l cs = fillS st T' l cs
  | [], _, _ => rfl
  | (i, x) :: l, cs, h => by
    simp only [fillS]
    have e : fillS st T l = fillS st T' l := funext fun cs => fillS_congr fun t ht => h t (by simp only [List.map_cons, List.flatten_cons, List.mem_append]; exact .inr ht)
    rw [ev_congr (x := x) fun t ht => h t (by simp [ht]), e]
theorem bnd_congr {T T' : Env} {x : Option Opd} (h : ∀ t ∈ ooT x, tget T t = tget T' t) (dflt lim : Nat) : bnd T dflt lim x = bnd T' dflt lim x := by
  cases x with
  | none => rfl
  | some x => simp only [bnd]; rw [ev_congr h]
theorem cut_congr {T T' : Env} {lo hi : Option Opd} (h1 : ∀ t ∈ ooT lo, tget T t = tget T' t) (h2 : ∀ t ∈ ooT hi, tget T t = tget T' t) (n : Nat) (f : Nat → Nat → LV) : cut T n lo hi f = cut T' n lo hi f := by
  unfold cut
  rw [bnd_congr h2]
  congr 1
  funext k
  simp only [cutK]
  rw [bnd_congr h1]
theorem apartQs_congr {T T' : Env} {id : Nat} : ∀ {qs : List Nat}, (∀ t ∈ qs, tget T t = tget T' t) → apartQs T id qs = apartQs T' id qs
  | [], _ => rfl
  | q :: l, h => by simp only [apartQs]; rw [h q (by simp), apartQs_congr fun t ht => h t (by simp [ht])]
theorem apartV_congr {T T' : Env} {qs : List Nat} (h : ∀ t ∈ qs, tget T t = tget T' t) (v : LV) : apartV T qs v = apartV T' qs v := by
  cases v <;> first | rfl | exact apartQs_congr h

theorem delta_T {R : Orc} {qs : List Nat} {lvl d : Nat} {op : AOp} {T T' : Env} {V : Heap} (h : ∀ t ∈ opT op ++ qs, tget T t = tget T' t) : delta R qs lvl d op T V = delta R qs lvl d op T' V := by
  have hq : ∀ t ∈ qs, tget T t = tget T' t := fun t ht => h t (by simp [ht])
  replace h : ∀ t ∈ opT op, tget T t = tget T' t := fun t ht => h t (by simp [ht])
  cases op with
  | mv x => simp only [delta, valOp]; rw [ev_congr h]
  | as x => simp only [delta]; rw [ev_congr h]
  | pick a b c =>
    simp only [delta, valOp]
    rw [ev_congr (x := a) fun t ht => h t (by simp [opT, ht]), ev_congr (x := b) fun t ht => h t (by simp [opT, ht]), ev_congr (x := c) fun t ht => h t (by simp [opT, ht])]
  | alloc z => rfl
  | box x => simp only [delta]; rw [ev_congr h]
  | build z ps => simp only [delta, valOp]; rw [fill_congr h]
  | bsl st n z ps => simp only [delta]; rw [fillS_congr h]
  | load ag n x => simp only [delta]; rw [ev_congr h, apartV_congr hq]
  | store n x v => simp only [delta]; rw [ev_congr (x := x) fun t ht => h t (by simp [opT, ht]), ev_congr (x := v) fun t ht => h t (by simp [opT, ht])]
  | nilc x => simp only [delta, valOp]; rw [ev_congr h]
  | bin op x y => simp only [delta, valOp]; rw [ev_congr (x := x) fun t ht => h t (by simp [opT, ht]), ev_congr (x := y) fun t ht => h t (by simp [opT, ht])]
  | bib op x y => simp only [delta, valOp]; rw [ev_congr (x := x) fun t ht => h t (by simp [opT, ht]), ev_congr (x := y) fun t ht => h t (by simp [opT, ht])]
  | eqa n ks x y => simp only [delta, valOp]; rw [ev_congr (x := x) fun t ht => h t (by simp [opT, ht]), ev_congr (x := y) fun t ht => h t (by simp [opT, ht])]
  | un op x => simp only [delta, valOp]; rw [ev_congr h]
  | conv k x => simp only [delta, valOp]; rw [ev_congr h]
  | b2s x => simp only [delta, valOp]; rw [ev_congr h]
  | mkf f a b => simp only [delta, valOp]; rw [evs_congr (l := a) fun t ht => h t (by simp only [opT, List.mem_append]; exact .inl ht), evs_congr (l := b) fun t ht => h t (by simp only [opT, List.mem_append]; exact .inr ht)]
  | mkm => rfl
  | mks st z a b => simp only [delta]; rw [ev_congr (x := a) fun t ht => h t (by simp [opT, ht]), ev_congr (x := b) fun t ht => h t (by simp [opT, ht])]
  | sls st x lo hi =>
    simp only [delta, valOp]
    rw [ev_congr (x := x) fun t ht => h t (by simp [opT, ht])]
    have hc := fun n f => cut_congr (lo := lo) (hi := hi) (T := T) (T' := T') (fun t ht => h t (by simp [opT, ht])) (fun t ht => h t (by simp [opT, ht])) n f
    cases x.ev T' <;> simp only [slsV, hc]
    unfold slsRow
    split
    · rw [hc]
    · rfl
  | slt x lo hi =>
    simp only [delta, valOp]
    rw [ev_congr (x := x) fun t ht => h t (by simp [opT, ht])]
    have hc := fun n f => cut_congr (lo := lo) (hi := hi) (T := T) (T' := T') (fun t ht => h t (by simp [opT, ht])) (fun t ht => h t (by simp [opT, ht])) n f
    cases x.ev T' <;> simp only [sltV, hc]
  | sla n st x lo hi =>
    simp only [delta, valOp]
    rw [ev_congr (x := x) fun t ht => h t (by simp [opT, ht])]
    have hc := fun n f => cut_congr (lo := lo) (hi := hi) (T := T) (T' := T') (fun t ht => h t (by simp [opT, ht])) (fun t ht => h t (by simp [opT, ht])) n f
    cases x.ev T' <;> simp only [slaV, hc]
  | fad off x => simp only [delta, valOp]; rw [ev_congr h]
  | fld ag off n x => simp only [delta, valOp]; rw [ev_congr h]
  | ias st x y => simp only [delta, valOp]; rw [ev_congr (x := x) fun t ht => h t (by simp [opT, ht]), ev_congr (x := y) fun t ht => h t (by simp [opT, ht])]
  | iaa l st x y => simp only [delta, valOp]; rw [ev_congr (x := x) fun t ht => h t (by simp [opT, ht]), ev_congr (x := y) fun t ht => h t (by simp [opT, ht])]
  | ixa ag l st x y => simp only [delta, valOp]; rw [ev_congr (x := x) fun t ht => h t (by simp [opT, ht]), ev_congr (x := y) fun t ht => h t (by simp [opT, ht])]
  | ixt x y => simp only [delta, valOp]; rw [ev_congr (x := x) fun t ht => h t (by simp [opT, ht]), ev_congr (x := y) fun t ht => h t (by simp [opT, ht])]
  | lkp ks z ok x y => simp only [delta, valOp]; rw [ev_congr (x := x) fun t ht => h t (by simp [opT, ht]), ev_congr (x := y) fun t ht => h t (by simp [opT, ht])]
  | mpu ks x k v => rfl
  | zc st x => simp only [delta, valOp]; rw [ev_congr h]
  | capn x => simp only [delta, valOp]; rw [ev_congr h]
  | isn n x => simp only [delta, valOp]; rw [ev_congr h]
  | bad => rfl
  | ext x i => simp only [delta, valOp]; rw [ev_congr h]
  | call f args => simp only [delta]; rw [evs_congr h]
  | cal f args => simp only [delta]; rw [ev_congr (x := f) fun t ht => h t (by simp only [opT, List.mem_append]; exact .inl ht), evs_congr (l := args) fun t ht => h t (by simp only [opT, List.mem_append]; exact .inr ht)]
  | len k x => simp only [delta, valOp]; rw [ev_congr h]
  | lena n => rfl
  | app st s x => rfl
  | apz st z s x => rfl
  | cpy st s x => rfl
  | mn l => simp only [delta, valOp]; rw [evs_congr h]
  | mx l => simp only [delta, valOp]; rw [evs_congr h]

/-- the same objects -/
def VE (V V' : Heap) : Prop := ∀ id, oget V id = oget V' id
mutual
theorem cl_VE {V V' : Heap} (h : VE V V') : ∀ v : LV, LV.cl V v = LV.cl V' v
  | .agg cs => by simp only [LV.cl]; rw [cls_VE h cs]
  | .tup cs => by simp only [LV.cl]; rw [cls_VE h cs]
  | .fn f a b => by simp only [LV.cl]; rw [cls_VE h a, cls_VE h b]
  | .bs id off len => by simp only [LV.cl]; rw [h id]
  | .bb id off st len => by simp only [LV.cl]; rw [h id]
  | .nils _ | .ptr .. | .ep .. | .mp _ | .yl _ | .any | .undef | .int .. | .bool _ | .str _ | .vs _ | .os .. | .nul | .emp | .fp _ | .nilp | .nilf | .om _ | .nilm => by simp only [LV.cl]
theorem cls_VE {V V' : Heap} (h : VE V V') : ∀ l : List LV, LV.cls V l = LV.cls V' l
  | [] => rfl
  | v :: l => by simp only [LV.cls]; rw [cl_VE h v, cls_VE h l]
end
theorem rd_at {V V' : Heap} {ag : Bool} {n : Nat} {v : LV} (h : ∀ id, (∃ off, v = .ptr id off) ∨ (∃ i off, v = .ep id i off) → oget V id = oget V' id) : rd V ag n v = rd V' ag n v := by
  cases v <;> simp only [rd]
  · rw [h _ (.inl ⟨_, rfl⟩)]
  · rw [h _ (.inr ⟨_, _, rfl⟩)]
theorem elems_VE {V V' : Heap} (h : VE V V') (v : LV) : elems V v = elems V' v := by
  cases v <;> simp only [elems] <;> rw [h]
theorem len_VE {V V' : Heap} (h : VE V V') (k : Nat) (v : LV) : lenOf V k v = lenOf V' k v := by
  unfold lenOf
  split <;> first | rfl | rw [h]
theorem lkp_VE {V V' : Heap} (h : VE V V') (ks : List Nat) (k v : LV) : lkpV V ks k v = lkpV V' ks k v := by
  cases v <;> simp only [lkpV] <;> rw [h]
theorem store_VE {V V' : Heap} (h : VE V V') (lvl : Nat) (qs : List Nat) (cs : List LV) (v : LV) : deltaStore lvl V qs cs v = deltaStore lvl V' qs cs v := by
  cases v <;> simp only [deltaStore] <;> rw [h]
/-- a row stays a row, of the same stride -/
def SameK : Option Obj → Option Obj → Prop
  | some (.row st _), some (.row st' _) => st = st'
  | some (.row _ _), _ => False
  | _, some (.row _ _) => False
  | _, _ => True
theorem SameK.refl (o : Option Obj) : SameK o o := by
  cases o with
  | none => trivial
  | some o => cases o <;> first | trivial | rfl
theorem ias_K {V V' : Heap} (h : ∀ id, SameK (oget V id) (oget V' id)) (st : Nat) (x i : LV) : iasV V st x i = iasV V' st x i := by
  cases i <;> try rfl
  simp only [iasV]
  cases x <;> try rfl
  rename_i k n id off len
  simp only [iasI]
  have := h id
  cases h1 : oget V id with
  | none =>
    cases h2 : oget V' id with
    | none => rfl
    | some o' => cases o' <;> first | rfl | (rw [h1, h2] at this; exact this.elim)
  | some o =>
    cases h2 : oget V' id with
    | none => cases o <;> first | rfl | (rw [h1, h2] at this; exact this.elim)
    | some o' =>
      cases o <;> cases o' <;> first
        | rfl
        | (rw [h1, h2] at this; exact this.elim)
        | (rw [h1, h2] at this; simp only [SameK] at this; subst this; rfl)
theorem sls_K {V V' : Heap} (h : ∀ id, SameK (oget V id) (oget V' id)) (T : Env) (st : Nat) (lo hi : Option Opd) (x : LV) : slsV T V st lo hi x = slsV T V' st lo hi x := by
  cases x <;> try rfl
  rename_i id off len
  simp only [slsV]
  have := h id
  cases h1 : oget V id with
  | none =>
    cases h2 : oget V' id with
    | none => rfl
    | some o' => cases o' <;> first | rfl | (rw [h1, h2] at this; exact this.elim)
  | some o =>
    cases h2 : oget V' id with
    | none => cases o <;> first | rfl | (rw [h1, h2] at this; exact this.elim)
    | some o' =>
      cases o <;> cases o' <;> first
        | rfl
        | (rw [h1, h2] at this; exact this.elim)
        | (rw [h1, h2] at this; simp only [SameK] at this; subst this; rfl)

theorem delta_V {R : Orc} {qs : List Nat} {lvl d : Nat} {op : AOp} {T : Env} {V V' : Heap} (h : VE V V') : delta R qs lvl d op T V = delta R qs lvl d op T V' := by
  cases op <;> try rfl
  case load ag n x => simp only [delta]; rw [rd_at fun id _ => h id]
  case store n x v => simp only [delta, store_VE h]
  case b2s x => simp only [delta, valOp]; rw [elems_VE h]
  case sls st x lo hi => simp only [delta, valOp]; rw [sls_K (V := V) (V' := V') fun id => by rw [h id]; exact SameK.refl _]
  case ias st x i => simp only [delta, valOp]; rw [ias_K (V := V) (V' := V') fun id => by rw [h id]; exact SameK.refl _]
  case lkp ks z ok x k => simp only [delta, valOp]; rw [lkp_VE h]
  case call f args => simp only [delta]; rw [cls_VE h]
  case cal f args =>
    simp only [delta]
    cases f.ev T <;> try rfl
    rename_i fn a b
    cases fn <;> simp only [deltaCal] <;> rw [cls_VE h]
  case len k x => simp only [delta, valOp]; rw [len_VE h]

/-- kinds that don't look at memory -/
theorem delta_noV {R : Orc} {qs : List Nat} {lvl d : Nat} {op : AOp} {T : Env} {V V' : Heap} (h : kindOf op = .loc ∨ kindOf op = .cre) : delta R qs lvl d op T V = delta R qs lvl d op T V' := by
  cases op <;> first | rfl | (rcases h with h | h <;> cases h)

/-! what it brings about -/
theorem rowsN_ids : ∀ (l : List LV) (id : Nat), ∀ p ∈ (rowsN id l).2, id ≤ p.1 ∧ p.1 < id + l.length
  | [], id, p, h => by simp [rowsN] at h
  | v :: l, id, p, h => by
    simp only [rowsN] at h
    split at h
    · simp only [List.mem_cons] at h
      rcases h with rfl | h
      · simp
      · have := rowsN_ids l (id + 1) p h; simp only [List.length_cons]; omega
    · have := rowsN_ids l (id + 1) p h; simp only [List.length_cons]; omega
theorem imp1N_ids {v : LV} {id : Nat} {q : LV × List (Nat × Obj)} (h : imp1N id v = some q) : ∀ p ∈ q.2, p.1 = id := by
  cases v <;> simp only [imp1N, Option.some.injEq, reduceCtorEq] at h <;> subst h <;> simp
theorem impsN_ids : ∀ (l : List LV) (id : Nat) {q : List LV × List (Nat × Obj)}, impsN id l = some q → ∀ p ∈ q.2, id ≤ p.1 ∧ p.1 < id + l.length
  | [], id, q, h, p, hp => by simp only [impsN, Option.some.injEq] at h; subst h; simp at hp
  | v :: l, id, q, h, p, hp => by
    obtain ⟨r, hr, h⟩ := Option.bind_eq_some_iff.1 (show (imp1N id v).bind (impsNK (impsN (id + 1) l)) = some q from h)
    obtain ⟨r2, hr2, rfl⟩ := Option.map_eq_some_iff.1 h
    simp only [List.mem_append] at hp
    rcases hp with hp | hp
    · have := imp1N_ids hr p hp; simp only [List.length_cons]; omega
    · have := impsN_ids l (id + 1) hr2 p hp; simp only [List.length_cons]; omega
theorem impN_ids {v : LV} {id : Nat} {q : LV × List (Nat × Obj)} (h : impN id v = some q) : ∀ p ∈ q.2, id ≤ p.1 ∧ p.1 < id + 256 := by
  by_cases ht : ∃ vs, v = .tup vs
  · obtain ⟨vs, rfl⟩ := ht
    simp only [impN] at h
    split at h
    · obtain ⟨r, hr, rfl⟩ := Option.map_eq_some_iff.1 h
      intro p hp
      have := impsN_ids vs id hr p hp
      omega
    · cases h
  · have e : impN id v = imp1N id v := by cases v <;> first | rfl | exact absurd ⟨_, rfl⟩ ht
    rw [e] at h
    intro p hp
    have := imp1N_ids h p hp
    omega
theorem after_news {R : Orc} {id : Nat} {f : FuncId} {b : Bool} {c : List LV} {dl : Dl} (h : deltaCall R id f b c = some dl) : dl.upd = none ∧ ∀ p ∈ dl.news, id ≤ p.1 ∧ p.1 < id + 256 := by
  unfold deltaCall at h
  split at h
  · obtain ⟨r, hr, h⟩ := Option.bind_eq_some_iff.1 h
    unfold deltaAfter at h
    split at h
    · obtain ⟨q, hq, rfl⟩ := Option.map_eq_some_iff.1 h
      exact ⟨rfl, impN_ids hq⟩
    · cases h
  · cases h
theorem box_news {id : Nat} {z : List LV} {dl : Dl} (h : deltaBox id z = some dl) : dl.upd = none ∧ ∀ p ∈ dl.news, id ≤ p.1 ∧ p.1 < id + 256 := by
  unfold deltaBox at h
  split at h
  · rename_i hz
    simp only [Option.some.injEq] at h; subst h
    refine ⟨rfl, fun p hp => ?_⟩
    simp only [List.mem_append, List.mem_singleton] at hp
    rcases hp with hp | rfl
    · have := rowsN_ids z (id + 1) p hp; omega
    · simp
  · cases h
theorem val_news {o : Option LV} {dl : Dl} (h : o.bind dlV = some dl) : dl.upd = none ∧ dl.news = [] := by
  obtain ⟨v, _, h⟩ := Option.bind_eq_some_iff.1 h
  simp only [dlV, Option.some.injEq] at h; subst h; exact ⟨rfl, rfl⟩

/-- what a store changes -/
structure IsSto (T : Env) (lvl : Nat) (qs : List Nat) (V : Heap) (op : AOp) (i : Nat) (o' : Obj) : Prop where
  st : ∃ n x v, op = .store n x v ∧ ((∃ off, x.ev T = .ptr i off) ∨ ∃ j off, x.ev T = .ep i j off)
  slot : inSlot lvl qs i = true
  old : ∃ o, oget V i = some o ∧ SameK (some o) (some o')
theorem delta_out {R : Orc} {qs : List Nat} {lvl d : Nat} {op : AOp} {T : Env} {V : Heap} {dl : Dl} (h : delta R qs lvl d op T V = some dl) :
    (∀ p ∈ dl.news, p.1 / 256 - lvl * 4096 = d) ∧ (kindOf op = .loc ∨ kindOf op = .sto → dl.news = []) ∧ (kindOf op = .loc ∨ kindOf op = .cre ∨ kindOf op = .rdh → dl.upd = none) ∧ (∀ i o', dl.upd = some (i, o') → dl.news = [] ∧ IsSto T lvl qs V op i o') := by
  have slot : ∀ {p : Nat}, oid lvl d ≤ p ∧ p < oid lvl d + 256 → p / 256 - lvl * 4096 = d := by
    intro p hp
    unfold oid at hp
    omega
  have out : dl.upd = none → (∀ p ∈ dl.news, oid lvl d ≤ p.1 ∧ p.1 < oid lvl d + 256) → (kindOf op = .loc ∨ kindOf op = .sto → dl.news = []) →
      (∀ p ∈ dl.news, p.1 / 256 - lvl * 4096 = d) ∧ (kindOf op = .loc ∨ kindOf op = .sto → dl.news = []) ∧ (kindOf op = .loc ∨ kindOf op = .cre ∨ kindOf op = .rdh → dl.upd = none) ∧ (∀ i o', dl.upd = some (i, o') → dl.news = [] ∧ IsSto T lvl qs V op i o') :=
    fun hu hn hl => ⟨fun p hp => slot (hn p hp), hl, fun _ => hu, fun i o' e => by rw [hu] at e; cases e⟩
  have outV : dl.upd = none ∧ dl.news = [] → (∀ p ∈ dl.news, p.1 / 256 - lvl * 4096 = d) ∧ (kindOf op = .loc ∨ kindOf op = .sto → dl.news = []) ∧ (kindOf op = .loc ∨ kindOf op = .cre ∨ kindOf op = .rdh → dl.upd = none) ∧ (∀ i o', dl.upd = some (i, o') → dl.news = [] ∧ IsSto T lvl qs V op i o') :=
    fun hv => out hv.1 (by rw [hv.2]; simp) (fun _ => hv.2)
  cases op with
  | as x =>
    simp only [delta, dlV, Option.some.injEq] at h
    exact outV (by subst h; exact ⟨rfl, rfl⟩)
  | alloc z => have := box_news h; exact out this.1 this.2 (fun e => by rcases e with e | e <;> cases e)
  | box x => have := box_news h; exact out this.1 this.2 (fun e => by rcases e with e | e <;> cases e)
  | bsl st n z ps =>
    simp only [delta] at h
    split at h
    · obtain ⟨xs, _, h⟩ := Option.bind_eq_some_iff.1 h
      unfold deltaBsl at h
      split at h
      · simp only [Option.some.injEq] at h
        exact out (by subst h; rfl) (by subst h; simp) (fun e => by rcases e with e | e <;> cases e)
      · cases h
    · cases h
  | mks st z a b =>
    simp only [delta] at h
    unfold deltaMks at h
    split at h
    · split at h
      · simp only [Option.some.injEq] at h
        exact out (by subst h; rfl) (by subst h; simp) (fun e => by rcases e with e | e <;> cases e)
      · cases h
    · cases h
  | call f args => have := after_news h; exact out this.1 this.2 (fun e => by rcases e with e | e <;> cases e)
  | cal f args =>
    simp only [delta] at h
    unfold deltaCal at h
    split at h
    · have := after_news h; exact out this.1 this.2 (fun e => by rcases e with e | e <;> cases e)
    · cases h
  | load ag n x =>
    simp only [delta] at h
    split at h
    · exact outV (val_news h)
    · cases h
  | store n x v =>
    simp only [delta] at h
    split at h
    · have key : ∃ i o', dl = ⟨.undef, [], some (i, o')⟩ ∧ IsSto T lvl qs V (.store n x v) i o' := by
        unfold deltaStore at h
        split at h
        · rename_i i off hx
          split at h
          · rename_i hs
            unfold setBoxD at h
            split at h
            · rename_i bs ho
              split at h
              · simp only [Option.some.injEq] at h
                exact ⟨_, _, h.symm, ⟨_, _, _, rfl, .inl ⟨_, hx⟩⟩, hs, _, ho, trivial⟩
              · cases h
            · cases h
          · cases h
        · rename_i i j off hx
          split at h
          · rename_i hs
            unfold setRowD at h
            split at h
            · rename_i st xs ho
              unfold setEltD at h
              split at h
              · split at h
                · simp only [Option.some.injEq] at h
                  exact ⟨_, _, h.symm, ⟨_, _, _, rfl, .inr ⟨_, _, hx⟩⟩, hs, _, ho, rfl⟩
                · cases h
              · cases h
            · cases h
          · cases h
        · cases h
      obtain ⟨i, o', rfl, hk⟩ := key
      exact ⟨by simp, fun e => rfl, fun e => (by rcases e with e | e | e <;> cases e), fun i2 o2 e => by simp only [Option.some.injEq, Prod.mk.injEq] at e; obtain ⟨rfl, rfl⟩ := e; exact ⟨rfl, hk⟩⟩
    · cases h
  | mkm => cases h
  | mpu ks x k v => cases h
  | bad => cases h
  | app st s x => cases h
  | apz st z s x => cases h
  | cpy st s x => cases h
  | mv x => exact outV (val_news (show (valOp T V (.mv x)).bind dlV = some dl from h))
  | mkf f a b => exact outV (val_news (show (valOp T V (.mkf f a b)).bind dlV = some dl from h))
  | lena n => exact outV (val_news (show (valOp T V (.lena n)).bind dlV = some dl from h))
  | _ => exact outV (val_news h)
end Go.Zv
