/- The engine, part 14: stores, literals of slices, make, maps. -/
import Derived.Test.YtjmnepfdhkabfaaZvS8
namespace Go.Zv
set_option autoImplicit false
set_option linter.unusedVariables false
set_option linter.unusedSimpArgs false
section
variable {P : Program} {c : Cx} {w : World} {s : St} {tmps : Array Value} {Ts : List (Array Value)}

/-- cells closed by value, one after the other -/
theorem closeCells_ok {c0 : Cx} (H : SR P c s tmps Ts w) (hio : ∀ j hh, c.io j = some hh → c0.io j = some hh) (hmu : ∀ b o x, c0.mu b o = some x → c.mu b o = some x) {xs cs : List LV} {us : List Value} {s' : St} (hx : VRs c0 xs us) (h : closeCells s xs = some (cs, s')) :
    ∃ c', SR P c' s' tmps Ts w ∧ Tr c w c' w ∧ VRs c' cs us ∧ LV.closeds cs = true ∧ cs.all LV.one = true ∧ (∀ j hh, c'.io j = some hh → c.io j = some hh) := by
  unfold closeCells closedK at h
  split at h
  · rename_i hc
    simp only [Option.some.injEq, Prod.mk.injEq] at h
    obtain ⟨rfl, rfl⟩ := h
    obtain ⟨c', H', t', hio', hio2, hcov⟩ := H.frees (LV.idss xs)
    refine ⟨c', H', t', ?_, hc.1, hc.2, hio'⟩
    refine cls_ok (c1 := c) (w := w) (P := P) (fun id o hh ho hi => ?_) (fun b o x hb => t'.mu _ _ _ (hmu _ _ _ hb)) t'.mu hx (fun id hid hne hh hi hn y v hy => ?_) hc.1
    · obtain ⟨h2, hi2, hor⟩ := H.O id o ho
      have := hio id h2 hi2
      rw [hi] at this; cases this
      exact hor
    · obtain ⟨o, ho⟩ := Option.ne_none_iff_exists'.1 hne
      obtain ⟨h2, hi2, hor⟩ := H.O id o ho
      have := hio id h2 hi2
      rw [hi] at this; cases this
      exact hcov id hid hh hi2 hn y v hy
  · cases h

theorem setV_len {us ws : List Value} {off : Nat} (h : off + ws.length ≤ us.length) : (setV us off ws).length = us.length := by
  simp [setV]; omega
/-- the cells behind a store into a part of a variable -/
theorem cells_set {b o : Nat} {us ws : List Value} {off : Nat} (hle : off + ws.length ≤ us.length) (hc : ∀ i v, us[i]? = some v → w.cell? ⟨b, o + i, none⟩ = some v) {i : Nat} {v : Value} (h : (setV us off ws)[i]? = some v) :
    (w.setCells b (o + off) ws).cell? ⟨b, o + i, none⟩ = some v := by
  have hin : ∀ j, j < ws.length → (w.cell? ⟨b, o + off + j, none⟩).isSome = true := fun j hj => by
    have hlt : off + j < us.length := by omega
    have := hc _ _ (List.getElem?_eq_getElem hlt)
    rw [show o + off + j = o + (off + j) by omega, this]; rfl
  rcases setV_get hle h with ⟨h1, h2⟩ | ⟨h1, h2, h3⟩ | ⟨h1, h2⟩
  · rw [World.cell?_setCells_out b ws (o + off) w _ (fun _ _ => .inl (show o + i < o + off by omega))]
    exact hc i v h2
  · have hlt : i - off < ws.length := by omega
    have := World.cell?_setCells_in b ws (o + off) w hin (i - off) hlt
    rw [show o + off + (i - off) = o + i by omega] at this
    rw [this, ← h3, List.getElem?_eq_getElem hlt]
  · rw [World.cell?_setCells_out b ws (o + off) w _ (fun _ _ => .inr (show o + off + ws.length ≤ o + i by omega))]
    exact hc i v h2

theorem store_does (H : SR P c s tmps Ts w) {t : TypeId} {n : Nat} (hn : tsize P t = some n) {x y : LV} {ua uv : Value} (hx : VR c x ua) (hy : VR c y uv) {s' : St} (h : wr s n x y.cells = some s') :
    ∃ w' c', (Instr.storeAt t ua uv).run P w = .ok () w' ∧ SR P c' s' tmps Ts w' ∧ Tr c w c' w' := by
  unfold wr at h
  split at h
  · rename_i hcond
    obtain ⟨hv, h1⟩ := cells_VRs hy hcond.2
    have hlen : uv.cells.toList.length = n := by rw [← hv.len]; exact hcond.1
    unfold wrAt at h
    split at h
    · rename_i id off
      obtain ⟨r, hr, h⟩ := Option.bind_eq_some_iff.1 h
      obtain ⟨l', s1⟩ := r
      obtain ⟨c1, H1, t1, hl1, _, hio1⟩ := rowsOf_ok H hv (fun x hx => hx) hr
      have hone := rowsOf_one hr hcond.2
      simp only [wrBox] at h
      cases hx with
      | ptr _ _ hh hi =>
        have hi1 := hio1 id hh (by omega) hi
        unfold setBox at h
        split at h
        · rename_i bs ho
          split at h
          · rename_i hle
            simp only [Option.some.injEq] at h; subst h
            obtain ⟨h2, hi2, hor⟩ := H1.O id _ ho
            rw [hi1] at hi2; cases hi2
            cases hor with
            | box _ vals hn' hvb hc hm =>
              have hll : l'.length = uv.cells.toList.length := hl1.len
              have hlb := hvb.len
              have hle2 : off + uv.cells.toList.length ≤ vals.length := by omega
              have hcell : ∀ i v, vals[i]? = some v → w.cell? ⟨hh.blk, 0 + i, none⟩ = some v := fun i v hi => by rw [Nat.zero_add]; exact (hc i v hi).1
              have hrun := run_store_ok (P := P) (w := w) (b := hh.blk) (o := off) hn hlen h1 (fun j hj => by
                have hlt : off + j < vals.length := by omega
                obtain ⟨a1, a2, _⟩ := hc _ _ (List.getElem?_eq_getElem hlt)
                exact ⟨by rw [a1]; rfl, a2⟩)
              have hone2 := one_all hl1 hone.1
              obtain ⟨H2, t2⟩ := H1.upd ho hi1 hn' (only_setCells w hh.blk off uv.cells.toList) (o' := .box (setAt bs off l')) (OR.box _ (setV vals off uv.cells.toList) hn' (setAt_VRs hvb hl1) (fun i v hi => by
                have e := cells_set (w := w) (b := hh.blk) (o := 0) hle2 hcell hi
                simp only [Nat.zero_add] at e
                refine ⟨e, ?_, ?_⟩
                · rw [World.frozen?_setCells]
                  have hlt : i < vals.length := by
                    have := (List.getElem?_eq_some_iff.1 hi).1
                    rwa [setV_len hle2] at this
                  exact (hc _ _ (List.getElem?_eq_getElem hlt)).2.1
                · rcases setV_get hle2 hi with ⟨_, h3⟩ | ⟨_, _, h3⟩ | ⟨_, h3⟩
                  · exact (hc _ _ h3).2.2
                  · exact hone2 v (List.mem_of_getElem? h3)
                  · exact (hc _ _ h3).2.2) hm)
              exact ⟨_, c1, hrun, H2, t1.trans t2⟩
          · cases h
        · cases h
    · rename_i id i off
      obtain ⟨r, hr, h⟩ := Option.bind_eq_some_iff.1 h
      obtain ⟨cs, s1⟩ := r
      obtain ⟨c1, H1, t1, hl1, hcl, hone, hio1⟩ := closeCells_ok H (fun _ _ h => h) (fun _ _ _ h => h) hv hr
      simp only [wrRow] at h
      cases hx with
      | ep _ _ _ hh hi hnn =>
        unfold setRow at h
        split at h
        · rename_i st xs ho
          unfold setElt at h
          split at h
          · rename_i e hxi
            split at h
            · rename_i hle
              simp only [Option.some.injEq] at h; subst h
              obtain ⟨h2, hi2, hor⟩ := H1.O id _ ho
              have := hio1 _ _ hi2
              rw [hi] at this; cases this
              cases hor with
              | row _ val hs hvr hl h0 hsp hm =>
                have hlt := (List.getElem?_eq_some_iff.1 hxi).1
                have hel := (hs i e hxi).1
                have hws := hl1.len
                have hsp' := hsp hnn
                have hrun := run_store_ok (P := P) (w := w) (b := hh.blk) (o := hh.off + i * hh.st + off) hn hlen h1 (fun j hj => by
                  have hk : i * hh.st + off + j < hh.cap * hh.st := by
                    have : (i + 1) * hh.st ≤ hh.cap * hh.st := Nat.mul_le_mul_right _ (by omega)
                    rw [Nat.add_mul, Nat.one_mul] at this; omega
                  have := hsp' _ hk
                  rwa [show hh.off + (i * hh.st + off + j) = hh.off + i * hh.st + off + j by omega] at this)
                have hone2 := one_all hl1 hone
                let vals : List Value := (List.range e.length).map (val i)
                have hvals : VRs c1 e vals := VRs.ofFun fun j y hy => (hvr i e j y hxi hy).2.2
                have hvl : vals.length = e.length := by simp [vals]
                have hcellv : ∀ j v, vals[j]? = some v → w.cell? ⟨hh.blk, hh.off + i * hh.st + j, none⟩ = some v ∧ v.oneCell' = true := fun j v hj => by
                  have hjl : j < e.length := by have := (List.getElem?_eq_some_iff.1 hj).1; simpa [vals] using this
                  simp [vals, hjl] at hj
                  subst hj
                  obtain ⟨a1, a2, _⟩ := hvr i e j _ hxi (List.getElem?_eq_getElem hjl)
                  exact ⟨a1, a2⟩
                have hle2 : off + uv.cells.toList.length ≤ vals.length := by omega
                have hnew := setAt_VRs (off := off) hvals hl1
                obtain ⟨H2, t2⟩ := H1.upd ho hi2 hnn (only_setCells w hh.blk (hh.off + i * hh.st + off) uv.cells.toList) (o' := .row hh.st (xs.set i (setAt e off cs)))
                  (OR.row _ (fun k j => if k = i then (setV vals off uv.cells.toList).getD j undef else val k j) (fun k x hk => by
                    rw [List.getElem?_set] at hk
                    split at hk
                    · rename_i e1
                      simp only [Option.some.injEq] at hk; subst hk
                      refine ⟨by rw [setAt_len (by omega)]; exact hel, closeds_of fun j y hy => ?_⟩
                      have hcE := (hs i e hxi).2
                      unfold setAt at hy
                      rw [List.getElem?_append] at hy
                      split at hy
                      · rw [List.getElem?_take] at hy
                        split at hy
                        · exact closeds_at hcE hy
                        · cases hy
                      · rw [List.getElem?_append] at hy
                        split at hy
                        · exact closeds_at hcl hy
                        · rw [List.getElem?_drop] at hy; exact closeds_at hcE hy
                    · exact hs k x hk) (fun k x j y hk hj => by
                    rw [List.getElem?_set] at hk
                    split at hk
                    · rename_i e1; subst e1
                      simp only [Option.some.injEq] at hk; subst hk
                      obtain ⟨v, hv1, hv2⟩ := hnew.getSome hj
                      have e2 : (setV vals off uv.cells.toList).getD j undef = v := by simp [List.getD, hv1]
                      simp only [if_true, e2]
                      refine ⟨cells_set (w := w) (b := hh.blk) (o := hh.off + i * hh.st) hle2 (fun j v hj => (hcellv j v hj).1) hv1, ?_, hv2⟩
                      rcases setV_get hle2 hv1 with ⟨_, h3⟩ | ⟨_, _, h3⟩ | ⟨_, h3⟩
                      · exact (hcellv _ _ h3).2
                      · exact hone2 v (List.mem_of_getElem? h3)
                      · exact (hcellv _ _ h3).2
                    · rename_i e1
                      have e3 : ¬ k = i := fun e => e1 e.symm
                      simp only [if_neg e3]
                      obtain ⟨a1, a2, a3⟩ := hvr k x j y hk hj
                      refine ⟨?_, a2, a3⟩
                      have hjl : j < hh.st := by have := (List.getElem?_eq_some_iff.1 hj).1; rw [(hs k x hk).1] at this; exact this
                      rw [World.cell?_setCells_out hh.blk _ _ w _ (fun _ _ => ?_)]
                      · exact a1
                      · show hh.off + k * hh.st + j < hh.off + i * hh.st + off ∨ hh.off + i * hh.st + off + uv.cells.toList.length ≤ hh.off + k * hh.st + j
                        rcases Nat.lt_or_gt_of_ne e3 with hlt2 | hgt
                        · left
                          have : (k + 1) * hh.st ≤ i * hh.st := Nat.mul_le_mul_right _ hlt2
                          rw [Nat.add_mul, Nat.one_mul] at this; omega
                        · right
                          have : (i + 1) * hh.st ≤ k * hh.st := Nat.mul_le_mul_right _ hgt
                          rw [Nat.add_mul, Nat.one_mul] at this; omega) (by simpa using hl) h0 (fun hn3 k hk => by
                    obtain ⟨a1, a2⟩ := hsp' k hk
                    refine ⟨World.isSome_setCells _ _ _ _ _ a1, by rw [World.frozen?_setCells]; exact a2⟩) hm)
                exact ⟨_, c1, hrun, H2, t1.trans t2⟩
            · cases h
          · cases h
        · cases h
    · cases h
  · cases h

/-! rows -/
theorem flat_len {st : Nat} : ∀ {xs : List (List LV)}, (∀ x ∈ xs, x.length = st) → xs.flatten.length = xs.length * st
  | [], _ => by simp
  | x :: xs, h => by
    rw [List.flatten_cons, List.length_append, flat_len fun y hy => h y (by simp [hy]), h x (by simp), List.length_cons, Nat.add_mul]; omega
theorem flat_get {st : Nat} : ∀ {xs : List (List LV)} {i : Nat} {x : List LV} {j : Nat} {y : LV}, (∀ x ∈ xs, x.length = st) → xs[i]? = some x → x[j]? = some y → xs.flatten[i * st + j]? = some y
  | [], i, x, j, y, _, h, _ => by simp at h
  | z :: xs, 0, x, j, y, hl, h, hy => by
    simp at h; subst h
    rw [List.flatten_cons, Nat.zero_mul, Nat.zero_add, List.getElem?_append_left (List.getElem?_eq_some_iff.1 hy).1]; exact hy
  | z :: xs, i + 1, x, j, y, hl, h, hy => by
    simp at h
    have hz := hl z (by simp)
    rw [List.flatten_cons, List.getElem?_append_right (by rw [hz, Nat.add_mul]; omega), hz]
    have := flat_get (st := st) (fun y hy => hl y (by simp [hy])) h hy
    rwa [show (i + 1) * st + j - st = i * st + j by rw [Nat.add_mul]; omega]

/-- a row, laid down anew: so many elements, and room -/
theorem OR.fresh {c' : Cx} {w' : World} {blk st cap : Nat} {ad : Option Addr} {xs : List (List LV)} {vals : List Value} (hl : ∀ x ∈ xs, x.length = st) (hcl : ∀ x ∈ xs, LV.closeds x = true) (hv : VRs c' xs.flatten vals) (hcap : xs.length ≤ cap)
    (hc : ∀ (j : Nat) (v : Value), vals[j]? = some v → w'.cell? ⟨blk, j, none⟩ = some v ∧ v.oneCell' = true) (hsp : ∀ k, k < cap * st → (w'.cell? ⟨blk, k, none⟩).isSome = true ∧ w'.frozen? ⟨blk, k, none⟩ = false) (hm : ∀ x, c'.mu blk x = none) :
    OR P c' w' ⟨blk, 0, st, cap, false, ad⟩ (.row st xs) := by
  refine OR.row (h := ⟨blk, 0, st, cap, false, ad⟩) xs (fun i j => vals.getD (i * st + j) undef) (fun i x hx => ⟨hl x (List.mem_of_getElem? hx), hcl x (List.mem_of_getElem? hx)⟩) (fun i x j y hx hy => ?_) hcap (by simp) (fun _ k hk => ?_) (fun _ => hm)
  · obtain ⟨v, hv1, hv2⟩ := hv.getSome (flat_get hl hx hy)
    have e : vals.getD (i * st + j) undef = v := by simp [List.getD, hv1]
    rw [e]
    obtain ⟨a1, a2⟩ := hc _ v hv1
    exact ⟨by simpa using a1, a2, hv2⟩
  · simpa using hsp k hk

/-- a new row -/
theorem newRow_ok (H : SR P c s tmps Ts w) (id : Nat) {st cap : Nat} {e : TypeId} {xs : List (List LV)} {vals : List Value} {cells : Array Value} (hl : ∀ x ∈ xs, x.length = st) (hcl : ∀ x ∈ xs, LV.closeds x = true) (hv : VRs c xs.flatten vals) (hcap : xs.length ≤ cap)
    (h1 : ∀ v ∈ vals, v.oneCell' = true) (hc : ∀ (j : Nat) (v : Value), vals[j]? = some v → cells[j]? = some v) (hsz : cap * st ≤ cells.size) :
    ∃ c', SR P c' (St.new id (.row st xs) s) tmps Ts { w with heap := w.heap.push (.cells cells e) } ∧ Tr c w c' { w with heap := w.heap.push (.cells cells e) } ∧ VR c' (.bs id 0 xs.length) (.slice (some ⟨w.heap.size, 0, none⟩) xs.length cap) := by
  obtain ⟨c2, H2, t2, hi, _⟩ := H.new (w' := { w with heap := w.heap.push (.cells cells e) }) id (o := .row st xs) (h := ⟨w.heap.size, 0, st, cap, false, none⟩) (Grew.push w _ (by simp [Go.Obj.soft])) (by simp) (fun c' hmu hio hm =>
    OR.fresh hl hcl ⟨hv.len, fun i x v hx hv' => (hv.at_ i x v hx hv').closed hmu (by
      have := List.mem_of_getElem? hx
      obtain ⟨y, hy, hxy⟩ := List.mem_flatten.1 this
      obtain ⟨k, hk⟩ := List.mem_iff_getElem?.1 hxy
      exact closeds_at (hcl y hy) hk)⟩ hcap (fun j v hj => ⟨by rw [cell_push]; exact hc j v hj, h1 v (List.mem_of_getElem? hj)⟩) (fun k hk => ⟨by rw [cell_push, Array.getElem?_eq_getElem (by omega)]; rfl, frozen_push _ _ _ _⟩) (hm rfl))
  exact ⟨c2, H2, t2, .bs id 0 xs.length _ _ cap hcap hi (fun _ => ⟨rfl, rfl⟩) (fun hz => ⟨rfl, by simp⟩)⟩

theorem asV_does (H : SR P c s tmps Ts w) {id : Nat} {x v : LV} {u : Value} {s' : St} (hx : VR c x u) (h : asV id s x = some (v, s')) : Does P c tmps Ts w (pure u) v s' := by
  unfold asV at h
  split at h
  · rename_i hn
    simp only [Option.some.injEq, Prod.mk.injEq] at h
    obtain ⟨rfl, rfl⟩ := h
    have : ∃ q, u = .slice q 0 0 := by
      cases x <;> simp [isNils] at hn
      cases hx; exact ⟨_, rfl⟩
    obtain ⟨q, rfl⟩ := this
    obtain ⟨c', h1, h2, h3, _⟩ := nilRow H id (nilSt x) q
    exact ⟨_, w, c', rfl, h1, h2, h3⟩
  · simp only [Option.some.injEq, Prod.mk.injEq] at h
    obtain ⟨rfl, rfl⟩ := h
    exact ⟨u, w, c, rfl, H, Tr.refl _ _, hx⟩

theorem mkm_does (H : SR P c s tmps Ts w) (id : Nat) : Does P c tmps Ts w (do pure (.map (some (← newObj (.map #[] 0))))) (.mp id) (St.new id (.map []) s) := by
  obtain ⟨c2, H2, t2, hi, _⟩ := H.new (w' := { w with heap := w.heap.push (.map #[] 0) }) id (o := .map []) (h := ⟨w.heap.size, 0, 0, 0, false, none⟩) (Grew.push w _ rfl) (by simp) (fun c' hmu hio hm =>
    OR.map [] #[] 0 rfl (by simp) rfl (by simp) (hm rfl))
  exact ⟨_, _, c2, by simp, H2, t2, .mp id _ hi⟩

/-- so many zeros -/
theorem zeros_get (z : Array Value) (n j : Nat) (hj : j < n * z.size) : ((Array.range (n * z.size)).map (z[· % z.size]!))[j]? = z[j % z.size]? := by
  have hk : 0 < z.size := by
    rcases Nat.eq_zero_or_pos z.size with h | h
    · rw [h] at hj; simp at hj
    · exact h
  have : j % z.size < z.size := Nat.mod_lt _ hk
  rw [Array.getElem?_eq_getElem this]
  simp [hj, getElem!_pos, this]

theorem flat_rep (z : List LV) : ∀ (n : Nat) (j : Nat), j < n * z.length → (List.replicate n z).flatten[j]? = z[j % z.length]?
  | 0, j, h => by simp at h
  | n + 1, j, h => by
    rw [List.replicate_succ, List.flatten_cons]
    by_cases hj : j < z.length
    · rw [List.getElem?_append_left hj, Nat.mod_eq_of_lt hj]
    · rw [List.getElem?_append_right (by omega), flat_rep z n _ (by rw [Nat.add_mul] at h; omega)]
      rw [← Nat.mod_eq_sub_mod (by omega)]
/-- the values of so many zeros -/
theorem rep_vals {c : Cx} {z : List LV} {vs : List Value} (hv : VRs c z vs) (n : Nat) : VRs c (List.replicate n z).flatten (List.replicate n vs).flatten := by
  induction n with
  | zero => exact VRs.nil c
  | succ n ih => rw [List.replicate_succ, List.replicate_succ, List.flatten_cons, List.flatten_cons]; exact hv.append ih
theorem flat_rep' (z : List Value) : ∀ (n : Nat) (j : Nat), j < n * z.length → (List.replicate n z).flatten[j]? = z[j % z.length]?
  | 0, j, h => by simp at h
  | n + 1, j, h => by
    rw [List.replicate_succ, List.flatten_cons]
    by_cases hj : j < z.length
    · rw [List.getElem?_append_left hj, Nat.mod_eq_of_lt hj]
    · rw [List.getElem?_append_right (by omega), flat_rep' z n _ (by rw [Nat.add_mul] at h; omega)]
      rw [← Nat.mod_eq_sub_mod (by omega)]

theorem cls_nil_closed : ∀ (l : List LV), LV.closeds (LV.cls [] l) = true → True := fun _ _ => trivial
/-- a zero, by value: nil slices show nothing -/
theorem zero_cls {c c' : Cx} (hmu : ∀ b o x, c.mu b o = some x → c'.mu b o = some x) {xs : List LV} {us : List Value} (hx : VRs c xs us) (hc : LV.closeds (LV.cls [] xs) = true) : VRs c' (LV.cls [] xs) us :=
  cls_ok (P := { (default : Program) with }) (w := default) (c1 := c) (fun id o h ho => by simp [oget] at ho) hmu hmu hx (fun id _ hne => absurd rfl hne) hc

theorem mks_does (H : SR P c s tmps Ts w) {id : Nat} {t e : TypeId} {z : LV} {x y v : LV} {ux uy : Value} {s' : St} (ht : P.underlying t = some (.slice e)) (hsm : smallB P e = true) (hz : zeroLV P e = some z) {st : Nat} (hst : tsize P e = some st)
    (hx : VR c x ux) (hy : VR c y uy) (h : mksV id z.cells s x y = some (v, s')) : Does P c tmps Ts w (Instr.makeSlice t ux uy) v s' := by
  unfold mksV at h
  split at h
  · rename_i k n k2 m
    split at h
    · rename_i hb
      obtain ⟨h0, hnm, hm, hcl⟩ := hb
      simp only [Option.some.injEq, Prod.mk.injEq] at h
      obtain ⟨rfl, rfl⟩ := h
      cases hx; cases hy
      obtain ⟨i, zv, hi, hzv, hzr⟩ := zeroLV_ok (c := c) hz
      obtain ⟨hzc, hz1⟩ := cells_VRs hzr (zero_one hz)
      have hzc' := zero_cls (fun _ _ _ h => h) hzc hcl
      unfold smallB at hsm
      rw [hi, hz] at hsm
      simp only [Bool.and_eq_true, decide_eq_true_eq] at hsm
      have hsize : i.size = st := by
        unfold tsize at hst; rw [hi] at hst; simpa using hst
      have hzl : zv.cells.size = st := by
        have := hzc.len
        simp only [Array.length_toList] at this
        omega
      obtain ⟨N, rfl⟩ : ∃ N : Nat, n = N := ⟨n.toNat, by omega⟩
      obtain ⟨M, rfl⟩ : ∃ M : Nat, m = M := ⟨m.toNat, by omega⟩
      have hNM : N ≤ M := by omega
      have hst0 : 0 < st := by omega
      let cells : Array Value := (Array.range (M * st)).map (zv.cells[· % zv.cells.size]!)
      have hrun : (Instr.makeSlice t (.int k N) (.int k2 M)).run P w = .ok (.slice (some ⟨w.heap.size, 0, none⟩) N M) { w with heap := w.heap.push (.cells cells e) } := by
        have wl : IntKind.i64.wrap N = N := by rw [IntKind.wrap_i64]; omega
        have wc : IntKind.i64.wrap M = M := by rw [IntKind.wrap_i64]; omega
        have n2 : ¬ (281474976710656 < (i.bytes : Int) * M) := by
          have h1 : i.bytes * M ≤ 16384 * 1000000000 := Nat.mul_le_mul hsm.1.1 (by omega)
          have : ((i.bytes * M : Nat) : Int) ≤ 16384 * 1000000000 := by omega
          rw [Int.natCast_mul] at this; omega
        have n4 : ¬ ((M : Int) < N) := by omega
        have n5 : ¬ ((M : Int) < 0) := by omega
        have n6 : ¬ ((N : Int) < 0) := by omega
        by_cases hz0 : M = 0
        · have hN0 : N = 0 := by omega
          have w0 : IntKind.i64.wrap 0 = 0 := by rw [IntKind.wrap_i64]; omega
          simp [Instr.makeSlice, run_underlying ht, asInt, asIntOf, typeInfo, sizeOf, hi, newRow, cells, hz0, hN0, w0]
          congr 2
          apply Array.ext <;> simp
        · have hs0 : ¬ st = 0 := by omega
          simp [Instr.makeSlice, run_underlying ht, asInt, asIntOf, typeInfo, sizeOf, hi, wl, wc, n2, n4, n5, n6, newRow, cells, hsize, hz0, hs0, zeroValue, hzv]
          exact fun h0 => absurd h0 (Nat.mul_ne_zero hz0 hs0)
      have hrep := rep_vals hzc' N
      obtain ⟨c2, H2, t2, hv2⟩ := newRow_ok H id (st := st) (cap := M) (e := e) (xs := List.replicate N (LV.cls [] z.cells)) (vals := (List.replicate N zv.cells.toList).flatten) (cells := cells)
        (fun x hx => by rw [List.eq_of_mem_replicate hx, cls_length]; omega) (fun x hx => by rw [List.eq_of_mem_replicate hx]; exact hcl) hrep (by simpa using hNM)
        (fun v hv => by
          obtain ⟨l, hl, hvl⟩ := List.mem_flatten.1 hv
          rw [List.eq_of_mem_replicate hl] at hvl
          exact hz1 v hvl)
        (fun j v hj => by
          have hlt := (List.getElem?_eq_some_iff.1 hj).1
          have hl2 : ((List.replicate N zv.cells.toList).flatten).length = N * st := by simp [hzl]
          rw [hl2] at hlt
          rw [flat_rep' _ _ _ (by simpa [hzl] using hlt)] at hj
          have : j < M * zv.cells.size := by rw [hzl]; exact Nat.lt_of_lt_of_le hlt (Nat.mul_le_mul_right _ hNM)
          have := zeros_get zv.cells M j this
          rw [hzl] at this
          simp only [cells, hzl]
          rw [this]
          simpa [hzl] using hj)
        (by simp [cells])
      rw [List.length_replicate] at hv2
      have hzlen : z.cells.length = st := by omega
      exact ⟨_, _, c2, hrun, by simpa [hzlen] using H2, t2, by simpa using hv2⟩
    · cases h
  · cases h

/-! literals of slices -/
theorem closeRows_ok {c0 : Cx} : ∀ {xs : List (List LV)} {uss : List (List Value)} {c : Cx} {s : St} {ys : List (List LV)} {s' : St}, SR P c s tmps Ts w → (∀ j hh, c.io j = some hh → c0.io j = some hh) → (∀ b o x, c0.mu b o = some x → c.mu b o = some x) →
    xs.length = uss.length → (∀ (i : Nat) (x : List LV) (u : List Value), xs[i]? = some x → uss[i]? = some u → VRs c0 x u) → closeRows xs s = some (ys, s') →
    ∃ c', SR P c' s' tmps Ts w ∧ Tr c w c' w ∧ VRs c' ys.flatten uss.flatten ∧ (∀ y ∈ ys, LV.closeds y = true ∧ y.all LV.one = true) ∧ ys.map List.length = xs.map List.length
  | [], [], c, s, ys, s', H, _, _, _, _, h => by
    simp only [closeRows, Option.some.injEq, Prod.mk.injEq] at h
    obtain ⟨rfl, rfl⟩ := h
    exact ⟨c, H, Tr.refl _ _, VRs.nil c, by simp, rfl⟩
  | [], _ :: _, _, _, _, _, _, _, _, hl, _, _ => by simp at hl
  | _ :: _, [], _, _, _, _, _, _, _, hl, _, _ => by simp at hl
  | x :: xs, u :: uss, c, s, ys, s', H, hio, hmu, hl, hx, h => by
    obtain ⟨r, hr, h⟩ := Option.bind_eq_some_iff.1 h
    obtain ⟨cs, s1⟩ := r
    obtain ⟨r2, hr2, h⟩ := Option.bind_eq_some_iff.1 h
    obtain ⟨ys2, s2⟩ := r2
    simp only [rowsK1, Option.some.injEq, Prod.mk.injEq] at h
    obtain ⟨rfl, rfl⟩ := h
    obtain ⟨c1, H1, t1, hl1, hcl, hone, hio1⟩ := closeCells_ok H hio hmu (hx 0 x u rfl rfl) hr
    obtain ⟨c2, H2, t2, hl2, hcl2, hlen⟩ := closeRows_ok H1 (fun j hh hj => hio j hh (hio1 j hh hj)) (fun b o x hb => t1.mu _ _ _ (hmu _ _ _ hb)) (by simpa using hl) (fun i x u h1 h2 => hx (i + 1) x u (by simpa using h1) (by simpa using h2)) hr2
    refine ⟨c2, H2, t1.trans t2, ?_, fun y hy => ?_, ?_⟩
    · rw [List.flatten_cons, List.flatten_cons]
      exact VRs.append ⟨hl1.len, fun i x v hx hv => (hl1.at_ i x v hx hv).closed t2.mu (closeds_at hcl hx)⟩ hl2
    · rcases List.mem_cons.1 hy with rfl | hy
      · exact ⟨hcl, hone⟩
      · exact hcl2 y hy
    · have e : cs.length = x.length := by
        have h1 := hl1.len; have h2 := (hx 0 x u rfl rfl).len; omega
      simp [e, hlen]

theorem setV_mid {l : List Value} {st : Nat} {uss : List (List Value)} {i : Nat} (hu : ∀ u ∈ uss, u.length = st) (hi : i < uss.length) (hl : l.length = st) : setV uss.flatten (i * st) l = (uss.set i l).flatten := by
  have fl : ∀ (L : List (List Value)), (∀ u ∈ L, u.length = st) → L.flatten.length = L.length * st := by
    intro L
    induction L with
    | nil => simp
    | cons x L ih => intro h; rw [List.flatten_cons, List.length_append, ih fun y hy => h y (by simp [hy]), h x (by simp), List.length_cons, Nat.add_mul]; omega
  have e1 : uss.flatten = (uss.take i).flatten ++ (uss[i] ++ (uss.drop (i + 1)).flatten) := by
    conv => lhs; rw [← List.take_append_drop i uss]
    rw [List.flatten_append, List.drop_eq_getElem_cons hi, List.flatten_cons]
  have e2 : (uss.set i l).flatten = (uss.take i).flatten ++ (l ++ (uss.drop (i + 1)).flatten) := by
    rw [List.set_eq_take_append_cons_drop, if_pos hi, List.flatten_append, List.flatten_cons]
  have e3 : (uss.take i).flatten.length = i * st := by
    rw [fl _ fun u h => hu u (List.mem_of_mem_take h), List.length_take, Nat.min_eq_left (by omega)]
  have e4 : uss[i].length = st := hu _ (List.getElem_mem _)
  rw [e2, e1]
  unfold setV
  rw [List.take_append_of_le_length (by omega), List.take_of_length_le (by omega)]
  congr 2
  rw [List.drop_append, e3, List.drop_eq_nil_of_le (by omega), List.nil_append, List.drop_append, e4]
  rw [show i * st + l.length - i * st = l.length by omega, hl, List.drop_eq_nil_of_le (by omega), List.nil_append, Nat.sub_self, List.drop_zero]

theorem fillS_ok {T : Env} {a : Act} {st : Nat} : ∀ {l : List (Nat × Opd)} {xs xs' : List (List LV)} {uss : List (List Value)} {ps : List (Nat × Value)},
    xs.length = uss.length → (∀ (i : Nat) (x : List LV) (u : List Value), xs[i]? = some x → uss[i]? = some u → VRs c x u) → (∀ u ∈ uss, u.length = st) → fillS st T l xs = some xs' →
    l.length = ps.length → (∀ (i : Nat) (p : Nat × Opd) (q : Nat × Value), l[i]? = some p → ps[i]? = some q → q.1 = p.1 ∧ VR c (p.2.ev T) q.2) →
    ∃ uss' : List (List Value), Instr.fill (fun i => some (i * st, st)) uss.flatten.toArray ps = some uss'.flatten.toArray ∧ xs'.length = uss'.length ∧ xs'.length = xs.length ∧ (∀ (i : Nat) (x : List LV) (u : List Value), xs'[i]? = some x → uss'[i]? = some u → VRs c x u) ∧ (∀ u ∈ uss', u.length = st)
  | [], xs, xs', uss, [], hl, hx, hu, h, _, _ => by
    simp only [fillS, Option.some.injEq] at h; subst h; exact ⟨uss, rfl, hl, rfl, hx, hu⟩
  | [], _, _, _, _ :: _, _, _, _, _, hl, _ => by simp at hl
  | _ :: _, _, _, _, [], _, _, _, _, hl, _ => by simp at hl
  | (i, x) :: l, xs, xs', uss, q :: ps, hl, hx, hu, h, hlp, hp => by
    simp only [fillS, fillSK] at h
    split at h
    · rename_i hc
      obtain ⟨pl, pv⟩ := hp 0 _ q rfl rfl
      obtain ⟨h1, _⟩ := cells_VRs pv hc.2.2
      have hle : q.2.cells.toList.length = st := by rw [← h1.len]; exact hc.1
      have hi : i < uss.length := by omega
      obtain ⟨uss', e1, e2, e3, e4, e5⟩ := fillS_ok (a := a) (xs := xs.set i (x.ev T).cells) (uss := uss.set i q.2.cells.toList) (by simpa using hl) (fun k y u hy huu => by
        rw [List.getElem?_set] at hy huu
        by_cases e : i = k
        · subst e
          rw [if_pos rfl, if_pos (by omega)] at hy huu
          simp only [Option.some.injEq] at hy huu
          subst hy; subst huu; exact h1
        · rw [if_neg e] at hy huu; exact hx k y u hy huu) (fun u hm => by
        rcases List.mem_or_eq_of_mem_set hm with hm | rfl
        · exact hu u hm
        · exact hle) h (by simpa using hlp) (fun k p r hp1 hr => hp (k + 1) p r (by simpa using hp1) (by simpa using hr))
      refine ⟨uss', ?_, e2, by simpa using e3, e4, e5⟩
      obtain ⟨qi, qv⟩ := q
      simp only at pl hle e1
      subst pl
      have fl : uss.flatten.length = uss.length * st := by
        have : ∀ (L : List (List Value)), (∀ u ∈ L, u.length = st) → L.flatten.length = L.length * st := by
          intro L
          induction L with
          | nil => simp
          | cons x L ih => intro h; rw [List.flatten_cons, List.length_append, ih fun y hy => h y (by simp [hy]), h x (by simp), List.length_cons, Nat.add_mul]; omega
        exact this uss hu
      have hsz : qv.cells.size = st := by simpa using hle
      have hbound : qi * st + st ≤ uss.flatten.length := by
        rw [fl]
        have : (qi + 1) * st ≤ uss.length * st := Nat.mul_le_mul_right _ hi
        rw [Nat.add_mul, Nat.one_mul] at this; omega
      simp only [Instr.fill]
      have hcond : (decide (qv.cells.size ≠ st) || decide (qi * st + qv.cells.size > uss.flatten.toArray.size)) = false := by
        rw [hsz]; simp only [ne_eq, not_true_eq_false, decide_false, Bool.false_or, decide_eq_false_iff_not, List.size_toArray]; omega
      rw [if_neg (by rw [hcond]; simp)]
      have h6 := foldl_set0 qv.cells.toList (qi * st) uss.flatten.toArray (by rw [hle]; simpa using hbound)
      simp only [Array.toArray_toList] at h6
      rw [h6, setV_mid hu hi hle]
      exact e1
    · cases h

theorem flat_lenV {st : Nat} : ∀ {xs : List (List Value)}, (∀ x ∈ xs, x.length = st) → xs.flatten.length = xs.length * st
  | [], _ => by simp
  | x :: xs, h => by
    rw [List.flatten_cons, List.length_append, h x (by simp), flat_lenV fun y hy => h y (by simp [hy]), List.length_cons, Nat.add_mul, Nat.one_mul, Nat.add_comm]
theorem VRs_flatten {c : Cx} : ∀ {xs : List (List LV)} {uss : List (List Value)}, xs.length = uss.length → (∀ (i : Nat) (x : List LV) (u : List Value), xs[i]? = some x → uss[i]? = some u → VRs c x u) → VRs c xs.flatten uss.flatten
  | [], [], _, _ => VRs.nil c
  | x :: xs, [], h, _ => by simp at h
  | [], u :: uss, h, _ => by simp at h
  | x :: xs, u :: uss, h, k => by
    rw [List.flatten_cons, List.flatten_cons]
    exact VRs.append (k 0 x u rfl rfl) (VRs_flatten (by simpa using h) fun i x' u' hx hu => k (i + 1) x' u' (by simpa using hx) (by simpa using hu))
theorem bsl_does (H : SR P c s tmps Ts w) {T : Env} {a : Act} {id : Nat} {t e : TypeId} {st n : Nat} {z : LV} {l : List (Nat × Opd)} {ps : Array (Nat × Value)} {v : LV} {s' : St}
    (ht : P.underlying t = some (.slice e)) (hst : tsize P e = some st) (hlim : ¬ (st = 0 ∨ n * st > 16777216)) (hz : zeroLV P e = some z) (hzl : z.cells.length = st) (hl : l.length = ps.size)
    (hp : ∀ (i : Nat) (p : Nat × Opd) (q : Nat × Value), l[i]? = some p → ps[i]? = some q → q.1 = p.1 ∧ VR c (p.2.ev T) q.2) (h : (fillS st T l (List.replicate n z.cells)).bind (bslK id st n s) = some (v, s')) :
    Does P c tmps Ts w (Instr.buildSlice t n ps) v s' := by
  obtain ⟨xs', hf, h⟩ := Option.bind_eq_some_iff.1 h
  obtain ⟨i, zv, hi, hzv, hzr⟩ := zeroLV_ok (c := c) hz
  obtain ⟨hzc, hz1⟩ := cells_VRs hzr (zero_one hz)
  have hzs : zv.cells.size = st := by have := hzc.len; simp only [Array.length_toList] at this; omega
  have hsize : i.size = st := by unfold tsize at hst; rw [hi] at hst; simpa using hst
  simp only [not_or, Nat.not_lt] at hlim
  obtain ⟨uss', e1, e2, e3, e4, e5⟩ := fillS_ok (a := a) (c := c) (uss := List.replicate n zv.cells.toList) (ps := ps.toList) (by simp) (fun k x u hx hu => by
    rw [List.getElem?_replicate] at hx hu
    split at hx
    · rename_i hk
      rw [if_pos hk] at hu
      simp only [Option.some.injEq] at hx hu
      subst hx; subst hu; exact hzc
    · cases hx) (fun u hu => by rw [List.eq_of_mem_replicate hu]; simpa using hzs) hf (by simpa using hl) (fun i p q hpi hqi => hp i p q hpi (by simpa using hqi))
  have hul : uss'.flatten.length = n * st := by
    rw [flat_lenV e5, ← e2, e3]; simp
  have hrun : (Instr.buildSlice t n ps).run P w = .ok (.slice (some ⟨w.heap.size, 0, none⟩) n n) { w with heap := w.heap.push (.cells uss'.flatten.toArray e) } := by
    have hz0 : ((Array.range (n * st)).map (zv.cells[· % zv.cells.size]!)) = (List.replicate n zv.cells.toList).flatten.toArray := by
      apply Array.ext
      · simp [hzs]
      · intro j h1 h2
        have hj : j < n * zv.cells.size := by rw [hzs]; simpa using h1
        have a1 := zeros_get zv.cells n j hj
        have a2 := flat_rep' zv.cells.toList n j (by simpa using hj)
        rw [hzs] at a1
        have b1 : ((Array.range (n * st)).map (zv.cells[· % st]!))[j]? = (List.replicate n zv.cells.toList).flatten[j]? := by
          rw [a1, a2]; simp [hzs]
        simp only [hzs] at h1 ⊢
        rw [Array.getElem?_eq_getElem (by simpa using h1), List.getElem?_eq_getElem (by simpa using h2)] at b1
        simpa using b1
    by_cases hn0 : n * st = 0
    · have hn : n = 0 := by
        rcases Nat.mul_eq_zero.1 hn0 with h | h
        · exact h
        · omega
      subst hn
      have h7 : Instr.fill (fun i => some (i * st, st)) #[] ps.toList = some uss'.flatten.toArray := by simpa using e1
      have hr0 : (Array.range (0 * st)).map ((#[] : Array Value)[· % (#[] : Array Value).size]!) = #[] := by apply Array.ext <;> simp
      simp only [Instr.buildSlice, Sem.run_bind, run_underlying ht, Result.andThen_ok, run_size hst]
      rw [if_neg (by omega), if_pos hn0]
      simp only [Sem.run_bind, Sem.run_pure, Result.andThen_ok, hr0, h7, newRow, run_newObj]
    · have hlim2 : ¬ (16777216 < n * st) := by omega
      rw [← hz0] at e1
      simp only [Instr.buildSlice, Sem.run_bind, run_underlying ht, Result.andThen_ok, run_size hst]
      rw [if_neg (by omega), if_neg hn0]
      simp only [Sem.run_bind, run_zero hi hzv, Sem.run_pure, Result.andThen_ok, e1, newRow, run_newObj]
  unfold bslK at h
  cases hr : closeRows xs' s with
  | some r =>
    rw [hr] at h
    obtain ⟨ys, s1⟩ := r
    simp only [bslJ, rowK, Option.some.injEq, Prod.mk.injEq] at h
    obtain ⟨rfl, rfl⟩ := h
    obtain ⟨c1, H1, t1, hv1, hcl, hlen⟩ := closeRows_ok H (fun _ _ h => h) (fun _ _ _ h => h) e2 e4 hr
    have hyl : ys.length = n := by
      have := congrArg List.length hlen
      simp only [List.length_map] at this
      rw [this, e3]; simp
    have hyst : ∀ y ∈ ys, y.length = st := by
      intro y hy
      obtain ⟨k, hk⟩ := List.mem_iff_getElem?.1 hy
      have h1 : (ys.map List.length)[k]? = some y.length := by simp [hk]
      rw [hlen] at h1
      simp only [List.getElem?_map, Option.map_eq_some_iff] at h1
      obtain ⟨x, hx, hxl⟩ := h1
      have hlt : k < uss'.length := by rw [← e2]; exact (List.getElem?_eq_some_iff.1 hx).1
      have := (e4 k x _ hx (List.getElem?_eq_getElem hlt)).len
      rw [e5 _ (List.getElem_mem _)] at this
      omega
    have hone := one_all hv1 (by
      rw [List.all_eq_true]
      intro x hx
      obtain ⟨y, hy, hxy⟩ := List.mem_flatten.1 hx
      exact List.all_eq_true.1 (hcl y hy).2 x hxy)
    obtain ⟨c2, H2, t2, hv2⟩ := newRow_ok H1 id (cap := n) (e := e) (cells := uss'.flatten.toArray) hyst (fun y hy => (hcl y hy).1) hv1 (by omega) hone (fun j v hj => by simpa using hj) (by simp [hul] : n * st ≤ uss'.flatten.toArray.size)
    exact ⟨.slice (some ⟨w.heap.size, 0, none⟩) n n, _, c2, hrun, H2, t1.trans t2, by rw [hyl] at hv2; exact hv2⟩
  | none =>
    rw [hr] at h
    simp only [bslJ, bslB] at h
    split at h
    · rename_i hc
      simp only [Bool.and_eq_true] at hc
      simp only [Option.some.injEq, Prod.mk.injEq] at h
      obtain ⟨rfl, rfl⟩ := h
      have hv1 : VRs c xs'.flatten uss'.flatten := VRs_flatten e2 e4
      have h1 := one_all hv1 hc.1
      obtain ⟨c2, H2, t2, hi, _⟩ := H.new (w' := { w with heap := w.heap.push (.cells uss'.flatten.toArray e) }) id (o := .box xs'.flatten) (h := ⟨w.heap.size, 0, 0, 0, false, none⟩) (Grew.push w _ (by simp [Go.Obj.soft])) (by simp) (fun c' hmu hio hm =>
        OR.box xs'.flatten uss'.flatten rfl (hv1.apart hc.2 hmu hio) (fun i x hx => ⟨by rw [cell_push]; simpa using hx, frozen_push _ _ _ _, h1 x (List.mem_of_getElem? hx)⟩) (hm rfl))
      exact ⟨.slice (some ⟨w.heap.size, 0, none⟩) n n, _, c2, hrun, H2, t2, .bb id 0 st n _ _ n (Nat.le_refl _) hi (fun _ => rfl)⟩
    · cases h
end
end Go.Zv
