/- The engine, part 19: what a function hands back, by value. -/
import Derived.Test.YtjmnepfdhkabfaaZvS13
namespace Go.Zv
set_option autoImplicit false
set_option linter.unusedVariables false
set_option linter.unusedSimpArgs false
section
variable {P : Program} {c : Cx} {w w' : World} {s : St} {tmps : Array Value} {Ts : List (Array Value)}

def rowAtZero (off len : Nat) : Option Obj → Bool
  | some (.row _ xs) => decide (off = 0 ∧ off + len ≤ xs.length)
  | _ => false
def isMap : Option Obj → Bool
  | some (.map _) => true
  | _ => false
/-- the object that is handed over whole -/
def expId1 (O : Heap) : LV → List Nat
  | .bs id off len => if rowAtZero off len (oget O id) = true then [id] else []
  | .mp id => if isMap (oget O id) = true then [id] else []
  | _ => []
def expIds : List LV → Heap → List Nat
  | [], _ => []
  | v :: l, O => expId1 O v ++ expIds l (export1 O v).2

theorem oget_delIds (j : Nat) : ∀ (l : List Nat) (O : Heap), oget (delIds l O) j = if j ∈ l then none else oget O j
  | [], O => by simp [delIds]
  | i :: l, O => by
    rw [delIds, oget_delIds j l]
    by_cases h : j ∈ l
    · simp [h]
    · simp only [if_neg h, List.mem_cons, oget_odel]
      by_cases e : j = i <;> simp [e, h]

/-- what an export leaves of the heap -/
theorem export_heap (O : Heap) (v : LV) (j : Nat) : oget (export1 O v).2 j = none ∨ (oget (export1 O v).2 j = oget O j ∧ j ∉ expId1 O v) := by
  have oth : expId1 O v = [] → (export1 O v).2 = delIds (LV.ids v) O → oget (export1 O v).2 j = none ∨ (oget (export1 O v).2 j = oget O j ∧ j ∉ expId1 O v) := by
    intro h1 h2
    rw [h1, h2, oget_delIds]
    by_cases h : j ∈ LV.ids v
    · left; simp [h]
    · right; simp [h]
  cases v with
  | nils st => right; exact ⟨rfl, by simp [expId1]⟩
  | bs id off len =>
    simp only [export1, expId1]
    cases ho : oget O id with
    | none => right; simp [expBs, rowAtZero]
    | some o =>
      cases o with
      | row st xs =>
        simp only [expBs, rowAtZero]
        by_cases hle : off + len ≤ xs.length
        · simp only [hle, if_true, and_true, decide_eq_true_eq]
          rw [oget_odel]
          by_cases e : j = id
          · left; simp [e]
          · right; simp only [if_neg e, true_and]; split <;> simp [e]
        · right; simp [hle]
      | box => right; simp [expBs, rowAtZero]
      | map => right; simp [expBs, rowAtZero]
      | loop => right; simp [expBs, rowAtZero]
  | mp id =>
    simp only [export1, expId1]
    cases ho : oget O id with
    | none => right; simp [expMp, isMap]
    | some o =>
      cases o with
      | map es =>
        simp only [expMp, isMap, if_true]
        rw [oget_odel]
        by_cases e : j = id
        · left; simp [e]
        · right; simp [e]
      | box => right; simp [expMp, isMap]
      | row => right; simp [expMp, isMap]
      | loop => right; simp [expMp, isMap]
  | _ => exact oth rfl rfl

theorem expId1_some {O : Heap} {v : LV} {j : Nat} (h : j ∈ expId1 O v) : oget O j ≠ none := by
  cases v with
  | bs id off len =>
    simp only [expId1] at h
    split at h
    · rename_i hr
      simp only [List.mem_singleton] at h; subst h
      intro e; rw [e] at hr; simp [rowAtZero] at hr
    · simp at h
  | mp id =>
    simp only [expId1] at h
    split at h
    · rename_i hr
      simp only [List.mem_singleton] at h; subst h
      intro e; rw [e] at hr; simp [isMap] at hr
    · simp at h
  | _ => simp [expId1] at h
theorem expIds_some : ∀ {l : List LV} {O : Heap} {j : Nat}, j ∈ expIds l O → oget O j ≠ none
  | [], O, j, h => by simp [expIds] at h
  | v :: l, O, j, h => by
    simp only [expIds, List.mem_append] at h
    rcases h with h | h
    · exact expId1_some h
    · have := expIds_some h
      rcases export_heap O v j with e | ⟨e, _⟩
      · exact absurd e this
      · rwa [e] at this

theorem OR.take {h : Home} {st : Nat} {xs : List (List LV)} (n : Nat) (H : OR P c w h (.row st xs)) : st = h.st ∧ OR P c w h (.row h.st (xs.take n)) := by
  cases H with
  | row xs val hs hv hl h0 hsp hm =>
    have get : ∀ (i : Nat) (x : List LV), (xs.take n)[i]? = some x → xs[i]? = some x := fun i x hx => by
      rw [List.getElem?_take] at hx
      split at hx
      · exact hx
      · cases hx
    exact ⟨rfl, .row (xs.take n) val (fun i x hx => hs i x (get i x hx)) (fun i x j y hx hy => hv i x j y (get i x hx) hy) (by simp only [List.length_take]; omega) h0 hsp hm⟩

/-- what is covered, what is handed over -/
structure Ex (P : Program) (d d' : Cx) (w : World) (O Oi : Heap) (l : List LV) : Prop where
  sub : ∀ j o, oget Oi j = some o → oget O j = some o
  cov : ∀ j, oget Oi j ≠ none → j ∉ expIds l Oi → ∀ h, d.io j = some h → h.nul = false → ∀ x v, w.cell? ⟨h.blk, x, none⟩ = some v → d'.mu h.blk x = some v
  own : ∀ j ∈ expIds l Oi, ∀ h o, d.io j = some h → oget O j = some o → OR P d' w h o

theorem exports_ok {d d' : Cx} {O : Heap} (hmu : ∀ b o x, d.mu b o = some x → d'.mu b o = some x) (hO : ∀ id o, oget O id = some o → ∃ h, d.io id = some h ∧ OR P d w h o)
    (hinj : ∀ i j h h', i ≠ j → d.io i = some h → d.io j = some h' → h.nul = false → h'.nul = false → h.blk ≠ h'.blk) (hlt : ∀ id h, d.io id = some h → h.nul = false → h.blk < w.heap.size) :
    ∀ {l : List LV} {us : List Value} {Oi : Heap}, Ex P d d' w O Oi l → VRs d l us → LV.closedRs (exports l Oi) = true →
    ∃ hs, Owns P d' w (exports l Oi) us hs ∧ ∀ h, some h ∈ hs → h.nul = false → ∃ j ∈ expIds l Oi, d.io j = some h
  | [], [], Oi, _, _, _ => ⟨[], .nil, by simp⟩
  | [], u :: us, Oi, _, hv, _ => by have := hv.len; simp at this
  | v :: l, [], Oi, _, hv, _ => by have := hv.len; simp at this
  | v :: l, u :: us, Oi, hE, hv, hc => by
    have hc2 : LV.closedC (export1 Oi v).1 = true ∧ LV.closedRs (exports l (export1 Oi v).2) = true := by
      have : LV.closedRs ((export1 Oi v).1 :: exports l (export1 Oi v).2) = true := hc
      simpa [LV.closedRs] using this
    obtain ⟨hs, hO2, hh2⟩ := exports_ok (l := l) (us := us) (Oi := (export1 Oi v).2) hmu hO hinj hlt
      ⟨fun j o hj => by
        rcases export_heap Oi v j with e | ⟨e, _⟩
        · rw [e] at hj; cases hj
        · rw [e] at hj; exact hE.sub j o hj,
       fun j hj hn => by
        rcases export_heap Oi v j with e | ⟨e, hn1⟩
        · exact absurd e hj
        · rw [e] at hj
          exact hE.cov j hj (by simp only [expIds, List.mem_append, not_or]; exact ⟨hn1, hn⟩),
       fun j hj => hE.own j (by simp only [expIds, List.mem_append]; exact .inr hj)⟩ hv.tail hc2.2
    have hO1 : ∀ id o h, oget Oi id = some o → d.io id = some h → OR P d w h o := fun id o h ho hi => by
      obtain ⟨h', hi', hor⟩ := hO id o (hE.sub id o ho)
      rw [hi] at hi'; cases hi'; exact hor
    have head : ∃ ho, Own1 P d' w (export1 Oi v).1 u ho ∧ ∀ h, ho = some h → h.nul = false → ∃ j ∈ expId1 Oi v, d.io j = some h := by
      have hvv := hv.head
      have closed : expId1 Oi v = [] → (∀ id ∈ LV.ids v, oget (export1 Oi v).2 id = none) → (export1 Oi v).1 = LV.cl Oi v → ∃ ho, Own1 P d' w (export1 Oi v).1 u ho ∧ ∀ h, ho = some h → h.nul = false → ∃ j ∈ expId1 Oi v, d.io j = some h := by
        intro he hd hr
        refine ⟨none, ?_, by simp⟩
        have hcl : LV.closed (LV.cl Oi v) = true := by
          have h1 := hc2.1
          rw [hr] at h1
          cases hx : LV.cl Oi v with
          | os st xs => cases hvv <;> simp only [LV.cl] at hx <;> first | cases hx | (unfold vsK at hx; split at hx <;> cases hx)
          | om es => cases hvv <;> simp only [LV.cl] at hx <;> first | cases hx | (unfold vsK at hx; split at hx <;> cases hx)
          | tup l => rw [hx] at h1; simp [LV.closedC] at h1
          | _ => rw [hx] at h1; exact h1
        rw [hr]
        refine .cl _ _ hcl (cl_ok hO1 hmu hmu hvv (fun id hid hne h hi hn x y hxy => hE.cov id hne ?_ h hi hn x y hxy) hcl)
        simp only [expIds, he, List.nil_append]
        exact fun hm => expIds_some hm (hd id hid)
      have oth : expId1 Oi v = [] → export1 Oi v = (LV.cl Oi v, delIds (LV.ids v) Oi) → ∃ ho, Own1 P d' w (export1 Oi v).1 u ho ∧ ∀ h, ho = some h → h.nul = false → ∃ j ∈ expId1 Oi v, d.io j = some h := fun he hx =>
        closed he (fun id hid => by rw [hx]; simp only [oget_delIds, if_pos hid]) (by rw [hx])
      cases v with
      | nils st =>
        cases hvv with
        | nils _ a =>
          exact ⟨some ⟨0, 0, st, 0, true, a⟩, Own1.os [] ⟨0, 0, st, 0, true, a⟩ (OR.row [] (fun _ _ => undef) (by simp) (by simp) (by simp) (by simp) (by simp) (by simp)) (by simp), by simp⟩
      | bs id off len =>
        cases ho : oget Oi id with
        | none => simp [export1, ho, expBs, LV.closedC, LV.closed] at hc2
        | some o =>
          cases o with
          | row st xs =>
            by_cases hle : off + len ≤ xs.length
            · by_cases hz : off = 0
              · subst hz
                have hex : export1 Oi (.bs id 0 len) = (.os st (xs.take len), odel Oi id) := by simp only [export1, ho, expBs, if_pos hle, if_true]
                have hid1 : expId1 Oi (.bs id 0 len) = [id] := by simp only [expId1, ho, rowAtZero]; rw [if_pos (by simpa using hle)]
                cases hvv with
                | bs _ _ _ h a cap hcap hi h0 h1 =>
                  obtain ⟨rfl, rfl⟩ := h0 rfl
                  have hor := hE.own id (by simp [expIds, hid1]) h _ hi (hE.sub id _ ho)
                  obtain ⟨rfl, hor2⟩ := hor.take len
                  rw [hex, hid1]
                  refine ⟨some h, ?_, fun h' e hn => ⟨id, by simp, by cases e; exact hi⟩⟩
                  have := Own1.os (xs.take len) h hor2 (hlt id h hi)
                  rwa [show (xs.take len).length = len by simp; omega] at this
              · have hex : export1 Oi (.bs id off len) = (.vs ((xs.drop off).take len), odel Oi id) := by simp only [export1, ho, expBs, if_pos hle, if_neg hz]
                refine closed ?_ (fun j hj => ?_) ?_
                · simp only [expId1, ho, rowAtZero]; rw [if_neg (by simp [hz])]
                · simp only [LV.ids, List.mem_singleton] at hj; subst hj
                  rw [hex]; simp [oget_odel]
                · rw [hex]; simp only [LV.cl, ho, rowElems, if_pos hle, vsK]
            · simp [export1, ho, expBs, hle, LV.closedC, LV.closed] at hc2
          | box => simp [export1, ho, expBs, LV.closedC, LV.closed] at hc2
          | map => simp [export1, ho, expBs, LV.closedC, LV.closed] at hc2
          | loop => simp [export1, ho, expBs, LV.closedC, LV.closed] at hc2
      | mp id =>
        cases ho : oget Oi id with
        | none => simp [export1, ho, expMp, LV.closedC, LV.closed] at hc2
        | some o =>
          cases o with
          | map es =>
            obtain ⟨h, hi, rfl⟩ := VR.of_mp hvv
            have hid1 : expId1 Oi (.mp id) = [id] := by simp [expId1, ho, isMap]
            have hex : export1 Oi (.mp id) = (.om es, odel Oi id) := by simp only [export1, ho, expMp]
            have hor := hE.own id (by simp [expIds, hid1]) h _ hi (hE.sub id _ ho)
            have hn : h.nul = false := by cases hor with | map _ _ _ hn _ _ _ _ => exact hn
            rw [hex, hid1]
            exact ⟨some h, .om es h hor hn (hlt id h hi hn), fun h' e hn => ⟨id, by simp, by cases e; exact hi⟩⟩
          | box => simp [export1, ho, expMp, LV.closedC, LV.closed] at hc2
          | row => simp [export1, ho, expMp, LV.closedC, LV.closed] at hc2
          | loop => simp [export1, ho, expMp, LV.closedC, LV.closed] at hc2
      | _ => exact oth rfl rfl
    obtain ⟨ho, h1, h2⟩ := head
    refine ⟨ho :: hs, ?_, fun h hm hn => ?_⟩
    · show Owns P d' w ((export1 Oi v).1 :: exports l (export1 Oi v).2) (u :: us) (ho :: hs)
      refine .cons h1 hO2 fun h e hn h' hm hn' => ?_
      obtain ⟨j, hj, hij⟩ := h2 h e hn
      obtain ⟨j', hj', hij'⟩ := hh2 h' hm hn'
      refine hinj j j' h h' (fun e => ?_) hij hij' hn hn'
      subst e
      rcases export_heap Oi v j with e | ⟨_, hn1⟩
      · exact expIds_some hj' e
      · exact hn1 hj
    · simp only [List.mem_cons] at hm
      rcases hm with e | hm
      · obtain ⟨j, hj, hij⟩ := h2 h e.symm hn
        exact ⟨j, by simp only [expIds, List.mem_append]; exact .inl hj, hij⟩
      · obtain ⟨j, hj, hij⟩ := hh2 h hm hn
        exact ⟨j, by simp only [expIds, List.mem_append]; exact .inr hj, hij⟩

def keysBut (l : List Nat) : Heap → List Nat
  | [] => []
  | (k, _) :: O => if k ∈ l then keysBut l O else k :: keysBut l O
theorem mem_keysBut {l : List Nat} {j : Nat} : ∀ {O : Heap}, j ∈ keysBut l O ↔ j ∉ l ∧ oget O j ≠ none
  | [] => by simp [keysBut, oget]
  | (k, v) :: O => by
    simp only [keysBut, oget]
    split
    · rename_i h
      rw [mem_keysBut]
      by_cases e : k = j
      · subst e; simp [h]
      · simp [e]
    · rename_i h
      simp only [List.mem_cons]
      rw [mem_keysBut]
      by_cases e : k = j
      · subst e; simp [h]
      · simp [e, Ne.symm e]

theorem frees_keep {j : Nat} {o : Obj} (hk : (∃ st xs, o = .row st xs) ∨ ∃ es, o = .map es) : ∀ {ids : List Nat} {s : St}, j ∉ ids → oget s.O j = some o → oget (St.frees ids s).O j = some o
  | [], s, _, h => h
  | i :: l, s, hn, h => by
    simp only [List.mem_cons, not_or] at hn
    show oget (St.frees l (St.free i s)).O j = some o
    refine frees_keep hk hn.2 ?_
    unfold St.free
    cases ho : oget s.O i with
    | none => exact h
    | some oo =>
      simp only [freeO, St.sub, oget_hsub, oget_odel, if_neg hn.1, h, Option.map_some]
      rcases hk with ⟨st, xs, rfl⟩ | ⟨es, rfl⟩ <;> rfl

theorem expId1_kind {O : Heap} {v : LV} {j : Nat} (h : j ∈ expId1 O v) : ∃ o, oget O j = some o ∧ ((∃ st xs, o = .row st xs) ∨ ∃ es, o = .map es) := by
  cases v with
  | bs id off len =>
    simp only [expId1] at h
    split at h
    · rename_i hr
      simp only [List.mem_singleton] at h; subst h
      cases ho : oget O j with
      | none => rw [ho] at hr; simp [rowAtZero] at hr
      | some o => cases o with
        | row st xs => exact ⟨_, rfl, .inl ⟨_, _, rfl⟩⟩
        | _ => rw [ho] at hr; simp [rowAtZero] at hr
    · simp at h
  | mp id =>
    simp only [expId1] at h
    split at h
    · rename_i hr
      simp only [List.mem_singleton] at h; subst h
      cases ho : oget O j with
      | none => rw [ho] at hr; simp [isMap] at hr
      | some o => cases o with
        | map es => exact ⟨_, rfl, .inr ⟨_, rfl⟩⟩
        | _ => rw [ho] at hr; simp [isMap] at hr
    · simp at h
  | _ => simp [expId1] at h
theorem expIds_kind : ∀ {l : List LV} {O : Heap} {j : Nat}, j ∈ expIds l O → ∃ o, oget O j = some o ∧ ((∃ st xs, o = .row st xs) ∨ ∃ es, o = .map es)
  | [], O, j, h => by simp [expIds] at h
  | v :: l, O, j, h => by
    simp only [expIds, List.mem_append] at h
    rcases h with h | h
    · exact expId1_kind h
    · obtain ⟨o, ho, hk⟩ := expIds_kind h
      rcases export_heap O v j with e | ⟨e, _⟩
      · rw [e] at ho; cases ho
      · exact ⟨o, by rw [← e]; exact ho, hk⟩

/-- at a function's end: what it hands back is in transit, the rest is frozen -/
theorem export_out {d : Cx} (H : SR P d s tmps Ts w) {l : List LV} {us : List Value} (hv : VRs d l us) (hc : LV.closedRs (exports l s.O) = true) :
    ∃ d' hs, Tr d w d' w ∧ MR d' w ∧ Owns P d' w (exports l s.O) us hs ∧ ∀ h, some h ∈ hs → h.nul = false → ∃ j, d.io j = some h := by
  obtain ⟨d', H', t, _, hio, hcov⟩ := H.frees (keysBut (expIds l s.O) s.O)
  obtain ⟨hs, hO, hh⟩ := exports_ok (d' := d') (Oi := s.O) t.mu H.O H.inj H.lt ⟨fun _ _ h => h, fun j hj hn => hcov j (mem_keysBut.2 ⟨hn, hj⟩), fun j hj h o hi ho => by
    obtain ⟨o', ho', hk⟩ := expIds_kind hj
    rw [ho] at ho'; cases ho'
    have hnm : j ∉ keysBut (expIds l s.O) s.O := fun hm => (mem_keysBut.1 hm).1 hj
    obtain ⟨h2, hi2, hor⟩ := H'.O j o (frees_keep hk hnm ho)
    rw [hio j hnm, hi] at hi2; cases hi2
    exact hor⟩ hv hc
  exact ⟨d', hs, t, H'.mu, hO, fun h hm hn => by obtain ⟨j, _, hj⟩ := hh h hm hn; exact ⟨j, hj⟩⟩

theorem Owns.mem {rs : List LV} {vs : List Value} {hs : List (Option Home)} (H : Owns P c w rs vs hs) {h : Home} (hm : some h ∈ hs) : h.nul = false → ∀ x, c.mu h.blk x = none := by
  induction H with
  | nil => simp at hm
  | cons h1 hr ha ih =>
    simp only [List.mem_cons] at hm
    rcases hm with e | hm
    · subst e
      cases h1 with
      | os xs _ ho hlt => exact fun hn => ho.mu hn
      | om es _ ho hn hlt => exact fun hn => ho.mu hn
    · exact ih hm

/-- back in the caller: what the callee hands back is taken in -/
theorem back_in (H : SR P c s tmps Ts w) {d : Cx} (t : Tr c.bare w d w') {sd : St} {tmps' : Array Value} {Ts' : List (Array Value)} (Hd : SR P d sd tmps' Ts' w') {v r : LV} {u : Value} (hv : VR d v u) (hr : exportV sd.O v = some r) (id : Nat) :
    ∃ c', SR P c' (import_ id s r).2 tmps Ts w' ∧ Tr c w c' w' ∧ VR c' (import_ id s r).1 u := by
  have main : ∀ {l : List LV} {us : List Value}, VRs d l us → LV.closedRs (exports l sd.O) = true →
      ∃ c', SR P c' (imports id (exports l sd.O) s).2 tmps Ts w' ∧ Tr c w c' w' ∧ VRs c' (imports id (exports l sd.O) s).1 us := by
    intro l us hl hcl
    obtain ⟨d', hs, t2, hM, hOw, hh⟩ := export_out Hd hl hcl
    obtain ⟨H2, t3⟩ := H.aside (t.trans t2) hM
    have hO2 : Owns P (c.back d') w' (exports l sd.O) us hs := hOw.mono (fun _ _ _ h => h) (fun h hm => hOw.mem hm)
    obtain ⟨c', H3, t4, hv4, _, _⟩ := takes (id := id) t3 H2 hO2 fun h hm hn => by
      obtain ⟨j, hj⟩ := hh h hm hn
      have hle : w.heap.size ≤ h.blk := by
        rcases t.io j h hj hn with ⟨_, _, e, _⟩ | hle
        · simp [Cx.bare] at e
        · exact hle
      exact ⟨hle, hOw.mem hm hn, fun j hh hj hnn => by have := H.lt j hh hj hnn; omega⟩
    exact ⟨c', H3, t4, hv4⟩
  unfold exportV chkR at hr
  split at hr
  · rename_i hcl
    simp only [Option.some.injEq] at hr; subst hr
    by_cases htup : ∃ cs, v = .tup cs
    · obtain ⟨cs, rfl⟩ := htup
      obtain ⟨us, rfl, hus⟩ := VRs.of_tup hv
      obtain ⟨c', H3, t4, hv4⟩ := main hus hcl
      exact ⟨c', H3, t4, .tup _ us hv4.len hv4.at_⟩
    · have hnt : ∀ cs, v ≠ .tup cs := fun cs e => htup ⟨cs, e⟩
      have hx : exportR sd.O v = (export1 sd.O v).1 := by cases v <;> first | rfl | exact absurd rfl (hnt _)
      rw [hx] at hcl ⊢
      have hnt2 : ∀ cs, (export1 sd.O v).1 ≠ .tup cs := by
        intro cs e
        cases v with
        | tup cs => exact hnt _ rfl
        | bs i o l => simp only [export1] at e; unfold expBs at e; split at e <;> (try split at e) <;> (try split at e) <;> cases e
        | mp i => simp only [export1] at e; unfold expMp at e; split at e <;> cases e
        | bb i o st l => simp only [export1, LV.cl] at e; unfold vsK at e; split at e <;> cases e
        | _ => cases e
      have hcc : LV.closedC (export1 sd.O v).1 = true := by
        cases hh : (export1 sd.O v).1 <;> rw [hh] at hcl <;> first | exact hcl | exact absurd hh (hnt2 _)
      obtain ⟨c', H3, t4, hv4⟩ := main (l := [v]) (us := [u]) (VRs.cons hv (VRs.nil d)) (by
        show LV.closedRs [(export1 sd.O v).1] = true
        simp [LV.closedRs, hcc])
      have himp : ∀ r : LV, (∀ cs, r ≠ .tup cs) → import_ id s r = import1 id s r := fun r hn => by cases r <;> first | rfl | exact absurd rfl (hn _)
      rw [himp _ hnt2]
      exact ⟨c', H3, t4, hv4.head⟩
  · cases hr
end
end Go.Zv
