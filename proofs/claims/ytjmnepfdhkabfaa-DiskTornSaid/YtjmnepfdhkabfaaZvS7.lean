/- The engine, part 12: what becomes of the state where memory is made or written. -/
import Derived.Test.YtjmnepfdhkabfaaZvS6
namespace Go.Zv
set_option autoImplicit false
set_option linter.unusedVariables false
set_option linter.unusedSimpArgs false
section
variable {P : Program} {c : Cx} {w w' : World} {s : St} {tmps : Array Value} {Ts : List (Array Value)}

/-- blocks come, none changes -/
structure Grew (w w' : World) : Prop where
  size : w.heap.size ≤ w'.heap.size
  same : ∀ b, b < w.heap.size → w'.heap[b]? = w.heap[b]?
  frz : ∀ a, w'.frozen? a = w.frozen? a
  env : w'.os = w.os ∧ w'.output = w.output
theorem Grew.loop (g : Grew w w') : ∀ (b : Nat) (r : Loop), w.heap[b]? = some (Go.Obj.loop r) → ∃ r', w'.heap[b]? = some (Go.Obj.loop r') := fun b r h =>
  ⟨r, by rw [g.same b (Array.getElem?_eq_some_iff.1 h).1]; exact h⟩
theorem Grew.refl (w : World) : Grew w w := ⟨Nat.le_refl _, fun _ _ => rfl, fun _ => rfl, rfl, rfl⟩
/-- no cell of it is frozen -/
def Go.Obj.soft : Go.Obj → Bool
  | .cells _ _ (lo, hi) => decide (hi ≤ lo)
  | _ => true
theorem Grew.push (w : World) (o : Go.Obj) (ho : Go.Obj.soft o = true) : Grew w { w with heap := w.heap.push o } :=
  ⟨by simp, fun b hb => by simp [Array.getElem?_push, Nat.ne_of_lt hb], fun a => by
    simp only [World.frozen?, Array.getElem?_push]
    split
    · rename_i c e lo hi heq
      split at heq
      · rename_i hb
        simp only [Option.some.injEq] at heq; subst heq
        simp only [Go.Obj.soft, decide_eq_true_eq] at ho
        rw [hb]
        have : w.heap[w.heap.size]? = none := by simp
        simp only [this]
        rw [Bool.and_eq_false_iff]
        by_cases h : lo ≤ a.off
        · right; simp; omega
        · left; simpa using h
      · rw [heq]
    · rename_i hno
      by_cases hb : a.block = w.heap.size
      · rw [hb]
        have : w.heap[w.heap.size]? = none := by simp
        simp only [this]
      · simp only [hb, if_false] at hno
        cases hh : w.heap[a.block]? with
        | none => rfl
        | some x =>
          cases x with
          | cells c e fr => obtain ⟨lo, hi⟩ := fr; exact absurd hh (hno c e lo hi)
          | _ => rfl, rfl, rfl⟩
theorem Grew.trans {w w1 w2 : World} (h : Grew w w1) (k : Grew w1 w2) : Grew w w2 :=
  ⟨Nat.le_trans h.size k.size, fun b hb => by rw [k.same b (Nat.lt_of_lt_of_le hb h.size), h.same b hb], fun a => (k.frz a).trans (h.frz a), k.env.1.trans h.env.1, k.env.2.trans h.env.2⟩
theorem Grew.drew (w : World) : Grew w w.drew := ⟨Nat.le_refl _, fun _ _ => rfl, fun _ => rfl, rfl, rfl⟩
theorem Grew.cell (g : Grew w w') {b o : Nat} {v : Value} (h : w.cell? ⟨b, o, none⟩ = some v) : w'.cell? ⟨b, o, none⟩ = some v := by
  rw [cell_of_heap (g.same b (lt_of_cell h))]; exact h

theorem OR.mu {h : Home} {o : Obj} (H : OR P c w h o) (hn : h.nul = false) : ∀ x, c.mu h.blk x = none := by
  cases H with
  | box _ _ _ _ _ hm => exact hm
  | row _ _ _ _ _ _ _ hm => exact hm hn
  | map _ _ _ _ _ _ _ hm => exact hm
  | loop _ _ _ _ _ _ _ _ _ _ _ _ _ _ _ _ _ _ hm => exact hm

/-- the world grows -/
theorem SR.grew (H : SR P c s tmps Ts w) (g : Grew w w') : SR P c s tmps Ts w' ∧ Tr c w c w' := by
  refine ⟨⟨H.T, H.Fl, H.F, fun id o ho => ?_, H.dom, H.inj, fun b o v hv => g.cell (H.mu b o v hv), fun id h hi hn => Nat.lt_of_lt_of_le (H.lt id h hi hn) g.size⟩,
    ⟨g.size, fun b hb _ => g.same b hb, fun _ _ _ h => h, fun id h hi hn => .inl ⟨id, h, hi, hn, rfl⟩, g.frz, g.env, fun _ _ _ h => .inl h, g.loop⟩⟩
  obtain ⟨h, hi, hor⟩ := H.O id o ho
  exact ⟨h, hi, hor.mono (fun _ _ _ h => h) (fun _ _ h => h) (fun hn => g.same _ (H.lt id h hi hn)) (fun hn => hor.mu hn)⟩

/-- a new object, where none of that number is -/
theorem SR.push (H : SR P c s tmps Ts w) {id : Nat} (hno : oget s.O id = none) {o : Obj} {h : Home} (g : Grew w w') (hb : h.nul = false → w.heap.size ≤ h.blk ∧ h.blk < w'.heap.size)
    (ho : ∀ c' : Cx, (∀ b o v, c.mu b o = some v → c'.mu b o = some v) → (∀ j hh, c.io j = some hh → c'.io j = some hh) → (h.nul = false → ∀ x, c'.mu h.blk x = none) → OR P c' w' h o) :
    ∃ c', SR P c' (St.push id o s) tmps Ts w' ∧ Tr c w c' w' ∧ c'.io id = some h ∧ (∀ j hh, c.io j = some hh → c'.io j = some hh) ∧ c'.mu = c.mu := by
  obtain ⟨H', t'⟩ := H.grew g
  have hnone : c.io id = none := by
    cases hi : c.io id with
    | none => rfl
    | some hh => obtain ⟨o, e⟩ := H.dom id hh hi; rw [hno] at e; cases e
  let c' : Cx := ⟨c.mu, fun j => if j = id then some h else c.io j⟩
  have hio : ∀ j hh, c.io j = some hh → c'.io j = some hh := fun j hh hj => by
    by_cases e : j = id
    · subst e; rw [hnone] at hj; cases hj
    · simp only [c', if_neg e]; exact hj
  have hmu : ∀ b o v, c.mu b o = some v → c'.mu b o = some v := fun _ _ _ h => h
  have hid : c'.io id = some h := by simp [c']
  have hmn : h.nul = false → ∀ x, c'.mu h.blk x = none := fun hn x => by
    cases hv : c'.mu h.blk x with
    | none => rfl
    | some v =>
      have := lt_of_cell (H.mu _ _ _ hv)
      have := (hb hn).1
      omega
  refine ⟨c', ⟨H'.T.mono hmu hio, H'.Fl, fun i F t hF ht => (H'.F i F t hF ht).mono hmu hio, fun j oo hj => ?_, fun j hh hj => ?_, fun i j h1 h2 hij hi1 hi2 hn1 hn2 => ?_, H'.mu, fun j hh hj hn => ?_⟩, ⟨g.size, fun b hb' _ => g.same b hb', hmu, fun j hh hj hn => ?_, g.frz, g.env, fun _ _ _ h => .inl h, g.loop⟩, hid, hio, rfl⟩
  · simp only [St.push, oget] at hj
    split at hj
    · rename_i e; subst e
      simp only [Option.some.injEq] at hj; subst hj
      exact ⟨h, hid, ho c' hmu hio hmn⟩
    · obtain ⟨hh, hi, hor⟩ := H'.O j oo hj
      exact ⟨hh, hio _ _ hi, hor.mono hmu hio (fun _ => rfl) (fun hn => hor.mu hn)⟩
  · by_cases e : j = id
    · subst e; exact ⟨o, by simp [St.push, oget]⟩
    · simp only [c', if_neg e] at hj
      obtain ⟨o', ho'⟩ := H'.dom j hh hj
      exact ⟨o', by simp [St.push, oget, Ne.symm e, ho']⟩
  · by_cases e1 : i = id
    · subst e1
      have : h1 = h := by rw [hid] at hi1; exact (Option.some.inj hi1).symm
      subst this
      have hj2 : c.io j = some h2 := by simpa only [c', if_neg (Ne.symm hij)] using hi2
      have := H.lt j h2 hj2 hn2
      have := (hb hn1).1
      omega
    · by_cases e2 : j = id
      · subst e2
        have : h2 = h := by rw [hid] at hi2; exact (Option.some.inj hi2).symm
        subst this
        have hi3 : c.io i = some h1 := by simpa only [c', if_neg hij] using hi1
        have := H.lt i h1 hi3 hn1
        have := (hb hn2).1
        omega
      · exact H'.inj i j h1 h2 hij (by simpa only [c', if_neg e1] using hi1) (by simpa only [c', if_neg e2] using hi2) hn1 hn2
  · by_cases e : j = id
    · subst e
      have : hh = h := by rw [hid] at hj; exact (Option.some.inj hj).symm
      subst this; exact (hb hn).2
    · exact H'.lt j hh (by simpa only [c', if_neg e] using hj) hn
  · by_cases e : j = id
    · subst e
      have : hh = h := by rw [hid] at hj; exact (Option.some.inj hj).symm
      subst this; exact .inr (hb hn).1
    · exact .inl ⟨j, hh, by simpa only [c', if_neg e] using hj, hn, rfl⟩

theorem free_gone (s : St) (id : Nat) : oget (St.free id s).O id = none := by
  unfold St.free
  cases h : oget s.O id with
  | none => exact h
  | some o => simp [freeO, St.sub, oget_hsub, oget_odel]

/-- a new object -/
theorem SR.new (H : SR P c s tmps Ts w) (id : Nat) {o : Obj} {h : Home} (g : Grew w w') (hb : h.nul = false → w.heap.size ≤ h.blk ∧ h.blk < w'.heap.size)
    (ho : ∀ c' : Cx, (∀ b o v, c.mu b o = some v → c'.mu b o = some v) → (∀ j hh, j ≠ id → c.io j = some hh → c'.io j = some hh) → (h.nul = false → ∀ x, c'.mu h.blk x = none) → OR P c' w' h o) :
    ∃ c', SR P c' (St.new id o s) tmps Ts w' ∧ Tr c w c' w' ∧ c'.io id = some h ∧ (∀ j hh, j ≠ id → c.io j = some hh → c'.io j = some hh) := by
  obtain ⟨c1, H1, t1, hn, hio, _⟩ := H.free id
  obtain ⟨c2, H2, t2, hid, hio2, hmu⟩ := H1.push (free_gone s id) g hb (fun c' hm hi hx => ho c' (fun b o v hv => hm b o v (t1.mu b o v hv)) (fun j hh hj hjj => hi j hh (by rw [hio j hj]; exact hjj)) hx)
  exact ⟨c2, H2, t1.trans t2, hid, fun j hh hj hjj => hio2 j hh (by rw [hio j hj]; exact hjj)⟩

/-- an object's memory is written: it alone -/
structure Only (w w' : World) (b : Nat) : Prop where
  size : w'.heap.size = w.heap.size
  same : ∀ b', b' ≠ b → w'.heap[b']? = w.heap[b']?
  frz : ∀ a, w'.frozen? a = w.frozen? a
  env : w'.os = w.os ∧ w'.output = w.output
  loop : ∀ r : Loop, w.heap[b]? = some (Go.Obj.loop r) → ∃ r', w'.heap[b]? = some (Go.Obj.loop r')
theorem Only.loops {b : Nat} (h : Only w w' b) : ∀ (b' : Nat) (r : Loop), w.heap[b']? = some (Go.Obj.loop r) → ∃ r', w'.heap[b']? = some (Go.Obj.loop r') := fun b' r hr => by
  by_cases e : b' = b
  · subst e; exact h.loop r hr
  · exact ⟨r, by rw [h.same b' e]; exact hr⟩
theorem SR.upd (H : SR P c s tmps Ts w) {id : Nat} {o o' : Obj} {h : Home} (hget : oget s.O id = some o) (hi : c.io id = some h) (hn : h.nul = false) (hw : Only w w' h.blk) (ho : OR P c w' h o') :
    SR P c { s with O := oset s.O id o' } tmps Ts w' ∧ Tr c w c w' := by
  have hmn := ho.mu hn
  refine ⟨⟨H.T, H.Fl, H.F, fun j oo hj => ?_, fun j hh hj => ?_, H.inj, fun b x v hv => ?_, fun j hh hj hnn => by rw [hw.size]; exact H.lt j hh hj hnn⟩, ⟨by rw [hw.size]; exact Nat.le_refl _, fun b hb hf => hw.same b (fun e => hf id h hi hn e.symm), fun _ _ _ h => h, fun j hh hj hnn => .inl ⟨j, hh, hj, hnn, rfl⟩, hw.frz, hw.env, fun _ _ _ h => .inl h, hw.loops⟩⟩
  · rw [oget_oset] at hj
    split at hj
    · rename_i e; subst e
      rw [hget] at hj; simp only [Option.map_some, Option.some.injEq] at hj; subst hj
      exact ⟨h, hi, ho⟩
    · rename_i e
      obtain ⟨hh, hi2, hor⟩ := H.O j oo hj
      exact ⟨hh, hi2, hor.mono (fun _ _ _ h => h) (fun _ _ h => h) (fun hnn => hw.same _ (H.inj j id hh h e hi2 hi hnn hn)) (fun hnn => hor.mu hnn)⟩
  · obtain ⟨oo, ho2⟩ := H.dom j hh hj
    simp only [oget_oset]
    by_cases e : j = id
    · subst e; exact ⟨o', by simp [hget]⟩
    · exact ⟨oo, by simp [e, ho2]⟩
  · rw [cell_of_heap (hw.same b fun e => by subst e; rw [hmn x] at hv; cases hv)]
    exact H.mu b x v hv

/-- an object's memory is written or it moves: what referred to it refers to nothing -/
theorem SR.move (H : SR P c s tmps Ts w) {id : Nat} {o : Obj} {st : Nat} {ys : List (List LV)} {h h' : Home} (hget : oget s.O id = some o) (hi : c.io id = some h)
    (hsz : w.heap.size ≤ w'.heap.size) (hw : ∀ b, b < w.heap.size → (h.nul = false → b ≠ h.blk) → w'.heap[b]? = w.heap[b]?)
    (hb : h'.nul = false → h'.blk < w'.heap.size ∧ ((h.nul = false ∧ h'.blk = h.blk) ∨ w.heap.size ≤ h'.blk))
    (hfz : ∀ a, w'.frozen? a = w.frozen? a) (henv : w'.os = w.os ∧ w'.output = w.output) (hor0 : h.nul = false → ∀ x, c.mu h.blk x = none) (hlp : ∀ (b : Nat) (r : Loop), w.heap[b]? = some (Go.Obj.loop r) → ∃ r', w'.heap[b]? = some (Go.Obj.loop r'))
    (ho : ∀ c' : Cx, c'.mu = c.mu → (h'.nul = false → ∀ x, c'.mu h'.blk x = none) → OR P c' w' h' (.row st ys)) :
    ∃ c', SR P c' (St.sub .kill id { s with O := oset s.O id (.row st ys) }) tmps Ts w' ∧ Tr c w c' w' ∧ c'.io id = some h' ∧ c'.mu = c.mu := by
  let c' : Cx := ⟨c.mu, fun j => if j = id then some h' else c.io j⟩
  have hid : c'.io id = some h' := by simp [c']
  have hne : ∀ j hh, j ≠ id → c.io j = some hh → c'.io j = some hh := fun j hh hj hjj => by simp only [c', if_neg hj]; exact hjj
  have hmu : ∀ b o v, c.mu b o = some v → c'.mu b o = some v := fun _ _ _ h => h
  have gg : Goes_ c c' id .kill := ⟨hmu, hne, fun xs h => by cases h⟩
  have hmn : h'.nul = false → ∀ x, c'.mu h'.blk x = none := fun hn x => by
    rcases (hb hn).2 with ⟨hn1, e⟩ | hle
    · rw [e]; exact hor0 hn1 x
    · cases hv : c'.mu h'.blk x with
      | none => rfl
      | some v => have := lt_of_cell (H.mu _ _ _ hv); omega
  have hcell : ∀ b x v, c.mu b x = some v → w'.cell? ⟨b, x, none⟩ = some v := fun b x v hv => by
    have := H.mu b x v hv
    rw [cell_of_heap (hw b (lt_of_cell this) fun hn e => by subst e; rw [hor0 hn x] at hv; cases hv)]
    exact this
  refine ⟨c', ⟨H.T.sub gg, by simp only [St.sub, essub_length]; exact H.Fl, fun i F t hF ht => ?_, fun j oo hj => ?_, fun j hh hj => ?_, fun i j h1 h2 hij hi1 hi2 hn1 hn2 => ?_, hcell, fun j hh hj hn => ?_⟩, ⟨hsz, fun b hb' hf => hw b hb' fun hn e => hf id h hi hn e.symm, hmu, fun j hh hj hn => ?_, hfz, henv, fun _ _ _ h => .inl h, hlp⟩, hid, rfl⟩
  · simp only [St.sub, essub_get] at hF
    obtain ⟨F0, hF0, rfl⟩ := Option.map_eq_some_iff.1 hF
    exact (H.F i F0 t hF0 ht).sub gg
  · simp only [St.sub, oget_hsub, oget_oset] at hj
    by_cases e : j = id
    · subst e
      simp only [if_true, hget, Option.map_some, Obj.sub, Option.some.injEq] at hj
      subst hj
      exact ⟨h', hid, ho c' rfl hmn⟩
    · simp only [if_neg e] at hj
      obtain ⟨o0, ho0, rfl⟩ := Option.map_eq_some_iff.1 hj
      obtain ⟨hh, hhi, hhor⟩ := H.O j o0 ho0
      refine ⟨hh, hne j hh e hhi, ?_⟩
      have h3 := hhor.sub gg (fun hn => hhor.mu hn)
      have h4 : hh.nul = false → w'.heap[hh.blk]? = w.heap[hh.blk]? := fun hn => hw _ (H.lt j hh hhi hn) fun hn2 => H.inj j id hh h e hhi hi hn hn2
      exact h3.mono (fun _ _ _ h => h) (fun _ _ h => h) h4 (fun hn => hhor.mu hn)
  · simp only [St.sub, oget_hsub, oget_oset]
    by_cases e : j = id
    · subst e; exact ⟨.row st ys, by simp [hget, Obj.sub]⟩
    · simp only [c', if_neg e] at hj
      obtain ⟨o0, ho0⟩ := H.dom j hh hj
      exact ⟨Obj.sub .kill id o0, by simp [e, ho0]⟩
  · by_cases e1 : i = id
    · subst e1
      have : h1 = h' := by rw [hid] at hi1; exact (Option.some.inj hi1).symm
      subst this
      have hj2 : c.io j = some h2 := by simpa only [c', if_neg (Ne.symm hij)] using hi2
      rcases (hb hn1).2 with ⟨hn, e⟩ | hle
      · rw [e]; exact H.inj i j h h2 hij hi hj2 hn hn2
      · have := H.lt j h2 hj2 hn2; omega
    · by_cases e2 : j = id
      · subst e2
        have : h2 = h' := by rw [hid] at hi2; exact (Option.some.inj hi2).symm
        subst this
        have hi3 : c.io i = some h1 := by simpa only [c', if_neg hij] using hi1
        rcases (hb hn2).2 with ⟨hn, e⟩ | hle
        · rw [e]; exact H.inj i j h1 h hij hi3 hi hn1 hn
        · have := H.lt i h1 hi3 hn1; omega
      · exact H.inj i j h1 h2 hij (by simpa only [c', if_neg e1] using hi1) (by simpa only [c', if_neg e2] using hi2) hn1 hn2
  · by_cases e : j = id
    · subst e
      have : hh = h' := by rw [hid] at hj; exact (Option.some.inj hj).symm
      subst this; exact (hb hn).1
    · exact Nat.lt_of_lt_of_le (H.lt j hh (by simpa only [c', if_neg e] using hj) hn) hsz
  · by_cases e : j = id
    · subst e
      have : hh = h' := by rw [hid] at hj; exact (Option.some.inj hj).symm
      subst this
      rcases (hb hn).2 with ⟨hn2, e⟩ | hle
      · exact .inl ⟨j, h, hi, hn2, e.symm⟩
      · exact .inr hle
    · exact .inl ⟨j, hh, by simpa only [c', if_neg e] using hj, hn, rfl⟩
end
end Go.Zv
