/- The engine, part 15: maps are written; slices grow; copy. -/
import Derived.Test.YtjmnepfdhkabfaaZvS9
import Derived.Laws.AppendOwn
namespace Go.Zv
set_option autoImplicit false
set_option linter.unusedVariables false
set_option linter.unusedSimpArgs false
section
variable {P : Program} {c : Cx} {w : World} {s : St} {tmps : Array Value} {Ts : List (Array Value)}

/-! maps -/
/-- the search finds the entry that the update changes, or none and the update appends -/
theorem updE_look {ks : List Nat} {k v : LV} : ∀ {es es' : List (LV × LV)}, updE ks k v es = some es' →
    (lookupE ks k es = some none ∧ es' = es ++ [(k, v)]) ∨ ∃ i x, i < es.length ∧ lookupE ks k es = some (some x) ∧ es' = es.set i (k, v) ∧ (∀ j a y, j < i → es[j]? = some (a, y) → eqKey ks k a = some false) ∧ ∃ a y, es[i]? = some (a, y) ∧ eqKey ks k a = some true
  | [], es', h => by simp only [updE, Option.some.injEq] at h; subst h; exact .inl ⟨rfl, rfl⟩
  | (a, y) :: es, es', h => by
    obtain ⟨b, hb, h⟩ := Option.bind_eq_some_iff.1 (show (eqKey ks k a).bind _ = some es' from h)
    simp only [updK] at h
    cases b with
    | true =>
      simp only [if_true, Option.some.injEq] at h; subst h
      exact .inr ⟨0, y, by simp, by simp [lookupE, hb, lookK], by simp, by simp, a, y, by simp, hb⟩
    | false =>
      simp only [Bool.false_eq_true, if_false] at h
      obtain ⟨m, hm, h⟩ := Option.bind_eq_some_iff.1 h
      simp only [consE, Option.some.injEq] at h; subst h
      rcases updE_look hm with ⟨h1, rfl⟩ | ⟨i, x, h1, h2, rfl, h3, a', y', h4, h5⟩
      · exact .inl ⟨by simp [lookupE, hb, lookK, h1], by simp⟩
      · refine .inr ⟨i + 1, x, by simpa using h1, by simp [lookupE, hb, lookK, h2], by simp, fun j a2 y2 hj hy => ?_, a', y', by simpa using h4, h5⟩
        cases j with
        | zero => simp at hy; obtain ⟨rfl, rfl⟩ := hy; exact hb
        | succ j => exact h3 j a2 y2 (by omega) (by simpa using hy)

/-- where the search stops -/
theorem findNow_at {t : TypeId} {ks : List Nat} (hK : KeyT P t ks) {d : TypeDesc} (hd : P.underlying t = some d) {k : LV} {u : Value} (hk : VR c k u) : ∀ {es : List (LV × LV)} {en : List MapEntry} {i : Nat}, ER c es en → (∀ j a y, j < i → es[j]? = some (a, y) → eqKey ks k a = some false) → (∃ a y, es[i]? = some (a, y) ∧ eqKey ks k a = some true) → ∀ i0,
    (∃ m, en[i]? = some m ∧ Instr.findNow d u en i0 = some (some (i0 + i, m.val))) ∨ Instr.findNow d u en i0 = none
  | [], en, i, hE, _, ⟨a, y, h, _⟩, i0 => by simp at h
  | e :: es, [], i, hE, _, _, i0 => by have := hE.len; simp at this
  | e :: es, m :: en, 0, hE, _, ⟨a, y, h, hb⟩, i0 => by
    simp at h; subst h
    obtain ⟨_, _, _, hnow⟩ := eqKey_ok (w := default) hK hb hk hE.head.1
    simp only [Instr.findNow]
    rcases hnow d hd with h1 | h1
    · rw [h1]; exact .inl ⟨m, by simp, rfl⟩
    · rw [h1]; exact .inr rfl
  | e :: es, m :: en, i + 1, hE, hf, ⟨a, y, h, hb⟩, i0 => by
    obtain ⟨_, _, _, hnow⟩ := eqKey_ok (w := default) hK (hf 0 e.1 e.2 (by omega) rfl) hk hE.head.1
    simp only [Instr.findNow]
    rcases hnow d hd with h1 | h1
    · rw [h1]
      rcases findNow_at (i := i) hK hd hk hE.tail (fun j a y hj hy => hf (j + 1) a y (by omega) (by simpa using hy)) ⟨a, y, by simpa using h, hb⟩ (i0 + 1) with ⟨m', h2, h3⟩ | h3
      · exact .inl ⟨m', by simpa using h2, by rw [show i0 + (i + 1) = i0 + 1 + i by omega]; exact h3⟩
      · exact .inr h3
    · rw [h1]; exact .inr rfl
theorem findAsking_at {t : TypeId} {ks : List Nat} (hK : KeyT P t ks) {k : LV} {u : Value} (hk : VR c k u) : ∀ {es : List (LV × LV)} {en : List MapEntry} {i : Nat}, ER c es en → (∀ j a y, j < i → es[j]? = some (a, y) → eqKey ks k a = some false) → (∃ a y, es[i]? = some (a, y) ∧ eqKey ks k a = some true) → ∀ i0,
    ∃ m, en[i]? = some m ∧ (Instr.findAsking t u en i0).run P w = .ok (some (i0 + i, m.val)) w
  | [], en, i, hE, _, ⟨a, y, h, _⟩, i0 => by simp at h
  | e :: es, [], i, hE, _, _, i0 => by have := hE.len; simp at this
  | e :: es, m :: en, 0, hE, _, ⟨a, y, h, hb⟩, i0 => by
    simp at h; subst h
    obtain ⟨heq, _, _, _⟩ := eqKey_ok (w := w) hK hb hk hE.head.1
    exact ⟨m, by simp, by simp [Instr.findAsking, heq]⟩
  | e :: es, m :: en, i + 1, hE, hf, ⟨a, y, h, hb⟩, i0 => by
    obtain ⟨heq, _, _, _⟩ := eqKey_ok (w := w) hK (hf 0 e.1 e.2 (by omega) rfl) hk hE.head.1
    obtain ⟨m', h2, h3⟩ := findAsking_at (i := i) hK hk hE.tail (fun j a y hj hy => hf (j + 1) a y (by omega) (by simpa using hy)) ⟨a, y, by simpa using h, hb⟩ (i0 + 1)
    exact ⟨m', by simpa using h2, by simp only [Instr.findAsking, Sem.run_bind, heq, Result.andThen_ok]; rw [show i0 + (i + 1) = i0 + 1 + i by omega]; simpa using h3⟩
theorem findKey_at {t : TypeId} {ks : List Nat} (hK : KeyT P t ks) {k : LV} {u : Value} (hk : VR c k u) {es : List (LV × LV)} {en : List MapEntry} {i : Nat} (hE : ER c es en) (hf : ∀ j a y, j < i → es[j]? = some (a, y) → eqKey ks k a = some false) (hi : ∃ a y, es[i]? = some (a, y) ∧ eqKey ks k a = some true) :
    ∃ m, en[i]? = some m ∧ (Instr.findKey t u en).run P w = .ok (some (i, m.val)) w := by
  obtain ⟨ag, l, hag, hfl, e⟩ := hK.ex
  obtain ⟨d, hd, _⟩ := isAgg_cases hag
  unfold Instr.findKey
  simp only [Sem.run_bind, run_underlying hd, Result.andThen_ok]
  rcases findNow_at hK hd hk hE hf hi 0 with ⟨m, h1, h2⟩ | hn
  · rw [h2]; exact ⟨m, h1, by simp⟩
  · rw [hn]
    obtain ⟨m, h1, h2⟩ := findAsking_at (w := w) hK hk hE hf hi 0
    exact ⟨m, h1, by simpa using h2⟩

theorem mpu_does (H : SR P c s tmps Ts w) {t kt e : TypeId} {ks : List Nat} (ht : P.underlying t = some (.map kt e)) (hK : KeyT P kt ks) {x k y v : LV} {ux uk uy : Value} {s' : St} (hx : VR c x ux) (hk : VR c k uk) (hy : VR c y uy) (h : mpuV ks k y s x = some (v, s')) :
    v = .undef ∧ ∃ w' c', (Instr.mapUpdate t ux uk uy).run P w = .ok () w' ∧ SR P c' s' tmps Ts w' ∧ Tr c w c' w' := by
  unfold mpuV at h
  split at h
  · rename_i id
    unfold mpuO at h
    split at h
    · rename_i es ho
      split at h
      · rename_i hcl
        obtain ⟨b, hb, h⟩ := Option.bind_eq_some_iff.1 h
        obtain ⟨es', he, h⟩ := Option.bind_eq_some_iff.1 h
        simp only [mpuK, okU, Option.some.injEq, Prod.mk.injEq] at h
        obtain ⟨rfl, rfl⟩ := h
        refine ⟨rfl, ?_⟩
        cases hx with
        | mp _ hh hi =>
          obtain ⟨h2, hi2, hor⟩ := H.O _ _ ho
          rw [hi] at hi2; cases hi2
          cases hor with
          | map _ en clock hn hw hl hv hm =>
            have hE : ER c es en.toList := ⟨by simp [hl], fun i e m he hm => hv i e m he (by simpa using hm)⟩
            obtain ⟨_, hck, _, _⟩ := eqKey_ok (w := w) hK hb hk hk
            have only : ∀ ob : Go.Obj, (∀ cc e fr, ob ≠ .cells cc e fr) → Only w { w with heap := w.heap.setIfInBounds hh.blk ob } hh.blk := fun ob hob => by
              refine ⟨by simp, fun b' hb' => by simp [Array.getElem?_setIfInBounds, Ne.symm hb'], fun a => ?_, ⟨rfl, rfl⟩, fun r hr => by rw [hw] at hr; cases hr⟩
              simp only [World.frozen?]
              by_cases e : a.block = hh.blk
              · rw [e, hw]
                have hlt := (Array.getElem?_eq_some_iff.1 hw).1
                simp only [Array.getElem?_setIfInBounds_self_of_lt hlt]
                cases ob with
                | cells cc e fr => exact absurd rfl (hob cc e fr)
                | _ => rfl
              · simp [Array.getElem?_setIfInBounds, Ne.symm e]
            have hlt := (Array.getElem?_eq_some_iff.1 hw).1
            rcases updE_look he with ⟨h1, rfl⟩ | ⟨i, x0, h1, h2, rfl, h3, h4⟩
            · obtain ⟨q, hq, hF⟩ := findKey_ok (w := w) hK hk hE h1
              cases q with
              | some p => exact hF.elim
              | none =>
                let w' : World := { w with heap := w.heap.setIfInBounds hh.blk (.map (en.push { key := uk, val := uy, born := clock }) (clock + 1)) }
                obtain ⟨H2, t2⟩ := H.upd (w' := w') ho hi hn (only _ (by simp)) (o' := .map (es ++ [(k, y)])) (OR.map _ (en.push { key := uk, val := uy, born := clock }) (clock + 1) hn (by simp [w', hlt]) (by simp [hl]) (fun j ee m hj hmj => by
                  rw [List.getElem?_append] at hj
                  rw [Array.getElem?_push] at hmj
                  split at hj
                  · rename_i hlt2
                    rw [if_neg (by omega)] at hmj
                    exact hv j ee m hj hmj
                  · rename_i hge
                    have : j = en.size := by
                      have := (List.getElem?_eq_some_iff.1 hj).1
                      simp at this; omega
                    subst this
                    simp [hl] at hj hmj
                    subst hj; subst hmj
                    exact ⟨hk, hy, hcl.1, hcl.2⟩) hm)
                refine ⟨w', c, ?_, H2, t2⟩
                simp [Instr.mapUpdate, run_underlying ht, getObj, setObj, Sem.run, hw, hck, hq, w']
            · obtain ⟨m, hm1, hq⟩ := findKey_at (w := w) hK hk hE h3 h4
              have hm1' : en[i]? = some m := by simpa using hm1
              obtain ⟨a, y0, h5, h6⟩ := h4
              obtain ⟨_, _, hbits, _⟩ := eqKey_ok (w := w) hK h6 hk (hE.at_ i _ m h5 hm1).1
              let w' : World := { w with heap := w.heap.setIfInBounds hh.blk (.map (en.modify i fun e => { e with key := uk, val := uy }) clock) }
              obtain ⟨H2, t2⟩ := H.upd (w' := w') ho hi hn (only _ (by simp)) (o' := .map (es.set i (k, y))) (OR.map _ (en.modify i fun e => { e with key := uk, val := uy }) clock hn (by simp [w', hlt]) (by simp [hl]) (fun j ee m2 hj hmj => by
                rw [List.getElem?_set] at hj
                rw [Array.getElem?_modify] at hmj
                by_cases e : i = j
                · subst e
                  rw [if_pos rfl, if_pos h1] at hj
                  simp only [if_true, hm1', Option.map_some, Option.some.injEq] at hj hmj
                  subst hj; subst hmj
                  exact ⟨hk, hy, hcl.1, hcl.2⟩
                · rw [if_neg e] at hj
                  simp only [if_neg e] at hmj
                  exact hv j ee m2 hj hmj) hm)
              refine ⟨w', c, ?_, H2, t2⟩
              have hks : Instr.sameBits 10000 m.key uk = true := hbits rfl
              simp [Instr.mapUpdate, run_underlying ht, getObj, setObj, Sem.run, hw, hck, hq, hm1', Instr.keyThatStays, hks, w']
      · cases h
    · cases h
  · cases h
end
end Go.Zv
