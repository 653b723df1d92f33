/- The engine, part 27: independent operations swap. -/
import Derived.Test.YtjmnepfdhkabfaaZvS21
namespace Go.Zv
set_option autoImplicit false
set_option linter.unusedVariables false
set_option linter.unusedSimpArgs false

structure Sim (s t : St) : Prop where
  T : ∀ k, tget s.T k = tget t.T k
  O : VE s.O t.O
  F : s.F = t.F
  lvl : s.lvl = t.lvl
theorem Sim.refl (s : St) : Sim s s := ⟨fun _ => rfl, fun _ => rfl, rfl, rfl⟩
theorem Sim.symm {s t : St} (h : Sim s t) : Sim t s := ⟨fun k => (h.T k).symm, fun k => (h.O k).symm, h.F.symm, h.lvl.symm⟩
theorem Sim.trans {s t u : St} (h : Sim s t) (k : Sim t u) : Sim s u := ⟨fun i => (h.T i).trans (k.T i), fun i => (h.O i).trans (k.O i), h.F.trans k.F, h.lvl.trans k.lvl⟩

def eff (R : Orc) (qs : List Nat) (lvl : Nat) (o : AOper) (T : Env) (V : Heap) : Option Dl :=
  (wanted T o.grd).bind fun b => if b = true then deltaZ R qs lvl (o.dst.getD 0) o.fz o.op T V else some ⟨.undef, [], none⟩
def apD (o : AOper) (dl : Dl) (s : St) : St := putT o.dst dl.v { s with O := updO dl.upd (pushAll dl.news s.O) }
def Step1 (R : Orc) (q : Chk) (o : AOper) (s t : St) : Prop :=
  ∃ bb, wanted s.T o.grd = some bb ∧ if bb = true then ∃ v s1, chkOp R q o.fz (o.dst.getD 0) o.op s = some (v, s1) ∧ t = putT o.dst v s1 else t = putT o.dst .undef s

theorem chkZ_delta (R : Orc) (un qs : List Nat) (fz : Bool) (d : Nat) (op : AOp) (s : St) : chkOp R (.dr un qs) fz d op s = (deltaZ R qs s.lvl d fz op s.T (filtO s.lvl un s.O)).bind (applyD s) := by
  cases fz with
  | true => simp only [chkOp, if_true, dOp_delta, deltaZ]
  | false => simp only [chkOp, Bool.false_eq_true, if_false, dOpF]
theorem step1_dr {R : Orc} {un qs : List Nat} {o : AOper} {s t : St} : Step1 R (.dr un qs) o s t ↔ ∃ dl, eff R qs s.lvl o s.T (filtO s.lvl un s.O) = some dl ∧ freshAll dl.news s.O = true ∧ t = apD o dl s := by
  unfold Step1 eff
  constructor
  · rintro ⟨bb, hw, h⟩
    rw [hw]
    cases bb with
    | true =>
      simp only [if_true, Option.bind_some] at h ⊢
      obtain ⟨v, s1, h, rfl⟩ := h
      rw [chkZ_delta] at h
      obtain ⟨dl, hd, h⟩ := Option.bind_eq_some_iff.1 h
      unfold applyD at h
      split at h
      · rename_i hf
        simp only [Option.some.injEq, Prod.mk.injEq] at h
        obtain ⟨rfl, rfl⟩ := h
        exact ⟨dl, hd, hf, rfl⟩
      · cases h
    | false =>
      simp only [Bool.false_eq_true, if_false, Option.bind_some] at h ⊢
      exact ⟨_, rfl, rfl, h⟩
  · rintro ⟨dl, h, hf, rfl⟩
    obtain ⟨bb, hw, h⟩ := Option.bind_eq_some_iff.1 h
    refine ⟨bb, hw, ?_⟩
    cases bb with
    | true =>
      simp only [if_true] at h ⊢
      refine ⟨dl.v, _, ?_, rfl⟩
      rw [chkZ_delta, h]
      simp only [Option.bind_some, applyD, hf, if_true]
    | false =>
      simp only [Bool.false_eq_true, if_false, Option.some.injEq] at h ⊢
      subst h; rfl

theorem oget_filt (lvl : Nat) (un : List Nat) (id : Nat) : ∀ O : Heap, oget (filtO lvl un O) id = if un.contains (id / 256 - lvl * 4096) = true then none else oget O id
  | [] => by simp [filtO, oget]
  | (k, v) :: l => by
    simp only [filtO]
    split
    · rename_i h
      rw [oget_filt lvl un id l]
      split
      · rfl
      · rename_i h2
        simp only [oget]
        rw [if_neg fun e => by subst e; exact h2 h]
    · rename_i h
      simp only [oget]
      split
      · rename_i e; subst e; rw [if_neg h]
      · exact oget_filt lvl un id l

theorem oget_push (id : Nat) : ∀ (l : List (Nat × Obj)) (O : Heap), (∀ p ∈ l, p.1 ≠ id) → oget (pushAll l O) id = oget O id
  | [], O, _ => rfl
  | p :: l, O, h => by
    simp only [pushAll]
    rw [oget_push id l _ fun q hq => h q (by simp [hq])]
    obtain ⟨k, v⟩ := p
    simp only [oget]
    rw [if_neg (h (k, v) (by simp))]
theorem oget_push_in (id : Nat) : ∀ (l : List (Nat × Obj)) (O O' : Heap), (∃ p ∈ l, p.1 = id) → oget (pushAll l O) id = oget (pushAll l O') id
  | [], O, O', h => by simp at h
  | p :: l, O, O', h => by
    simp only [pushAll]
    by_cases hl : ∃ q ∈ l, q.1 = id
    · exact oget_push_in id l _ _ hl
    · have hn : ∀ q ∈ l, q.1 ≠ id := fun q hq e => hl ⟨q, hq, e⟩
      rw [oget_push id l _ hn, oget_push id l _ hn]
      obtain ⟨q, hq, e⟩ := h
      simp only [List.mem_cons] at hq
      rcases hq with rfl | hq
      · obtain ⟨k, v⟩ := q; simp only at e; subst e; simp [oget]
      · exact absurd e (hn q hq)
theorem oget_upd (up : Option (Nat × Obj)) (id : Nat) (O : Heap) (h : ∀ i o, up = some (i, o) → id ≠ i) : oget (updO up O) id = oget O id := by
  cases up with
  | none => rfl
  | some p => obtain ⟨i, o⟩ := p; simp only [updO, oget_oset, if_neg (h i o rfl)]
theorem upd_none (up : Option (Nat × Obj)) (id : Nat) (O : Heap) : oget (updO up O) id = none ↔ oget O id = none := by
  cases up with
  | none => rfl
  | some p =>
    obtain ⟨i, o⟩ := p
    simp only [updO, oget_oset]
    split
    · rename_i e; subst e; simp
    · rfl
theorem fresh_iff : ∀ (l : List (Nat × Obj)) (O : Heap), freshAll l O = true ↔ (∀ p ∈ l, oget O p.1 = none) ∧ l.Pairwise fun p q => p.1 ≠ q.1
  | [], O => by simp [freshAll]
  | p :: l, O => by
    simp only [freshAll, Bool.and_eq_true, Option.isNone_iff_eq_none, List.mem_cons, forall_eq_or_imp, List.pairwise_cons]
    rw [fresh_iff l]
    obtain ⟨k, v⟩ := p
    constructor
    · rintro ⟨h1, h2, h3⟩
      refine ⟨⟨h1, fun q hq => ?_⟩, fun q hq e => ?_, h3⟩
      · have := h2 q hq
        simp only [oget] at this
        split at this
        · cases this
        · exact this
      · have := h2 q hq
        simp only [oget] at this
        rw [if_pos e] at this; cases this
    · rintro ⟨⟨h1, h2⟩, h3, h4⟩
      refine ⟨h1, fun q hq => ?_, h4⟩
      simp only [oget]
      rw [if_neg (h3 q hq)]
      exact h2 q hq
theorem fresh_congr {l : List (Nat × Obj)} {O O' : Heap} (h : ∀ p ∈ l, oget O p.1 = none ↔ oget O' p.1 = none) : freshAll l O = true ↔ freshAll l O' = true := by
  rw [fresh_iff, fresh_iff]
  constructor
  · exact fun ⟨h1, h2⟩ => ⟨fun p hp => (h p hp).1 (h1 p hp), h2⟩
  · exact fun ⟨h1, h2⟩ => ⟨fun p hp => (h p hp).2 (h1 p hp), h2⟩

theorem wanted_T {T T' : Env} {g : Option (Nat × Bool)} (h : ∀ t ∈ grdT g, tget T t = tget T' t) : wanted T g = wanted T' g := by
  cases g with
  | none => rfl
  | some p => obtain ⟨t, b⟩ := p; simp only [wanted]; rw [h t (by simp [grdT])]
theorem frzOk_T {T T' : Env} {op : AOp} (h : ∀ t ∈ opT op, tget T t = tget T' t) : frzOk T op = frzOk T' op := by
  cases op <;> try rfl
  case bsl st n z ps =>
    simp only [frzOk, opT] at *
    induction ps with
    | nil => rfl
    | cons p ps ih =>
      simp only [List.map_cons, List.flatten_cons, List.mem_append] at h
      simp only [List.all_cons]
      rw [ev_congr fun t ht => h t (.inl ht), ih fun t ht => h t (.inr ht)]
  case call f args =>
    simp only [frzOk, opT] at *
    rw [evs_congr h]
theorem eff_T {R : Orc} {un qs : List Nat} {lvl : Nat} {o : AOper} {T T' : Env} {V : Heap} (h : ∀ t ∈ seesT (.dr un qs) o, tget T t = tget T' t) : eff R qs lvl o T V = eff R qs lvl o T' V := by
  simp only [seesT, chkQs, List.mem_append] at h
  unfold eff
  rw [wanted_T fun t ht => h t (.inr (.inl ht))]
  congr 1
  funext b
  unfold deltaZ
  rw [frzOk_T fun t ht => h t (.inl ht), delta_T fun t ht => h t (by simp only [List.mem_append] at ht; rcases ht with ht | ht; exact .inl ht; exact .inr (.inr ht))]
theorem eff_V {R : Orc} {qs : List Nat} {lvl : Nat} {o : AOper} {T : Env} {V V' : Heap} (h : delta R qs lvl (o.dst.getD 0) o.op T V = delta R qs lvl (o.dst.getD 0) o.op T V') : eff R qs lvl o T V = eff R qs lvl o T V' := by
  unfold eff deltaZ; rw [h]
theorem frz_out {dl dl' : Dl} (h : frzDl dl = some dl') : dl'.news = [] ∧ dl'.upd = none ∧ dl.upd = none := by
  unfold frzDl at h
  split at h
  · rename_i hu
    split at h
    · simp only [Option.some.injEq] at h; subst h; exact ⟨rfl, rfl, hu⟩
    · cases h
  · cases h
theorem eff_out {R : Orc} {qs : List Nat} {lvl : Nat} {o : AOper} {T : Env} {V : Heap} {dl : Dl} (h : eff R qs lvl o T V = some dl) :
    (∀ p ∈ dl.news, p.1 / 256 - lvl * 4096 = o.dst.getD 0) ∧ (kindOf o.op = .loc ∨ kindOf o.op = .sto → dl.news = []) ∧ (kindOf o.op = .loc ∨ kindOf o.op = .cre ∨ kindOf o.op = .rdh → dl.upd = none) ∧ (∀ i o', dl.upd = some (i, o') → dl.news = [] ∧ IsSto T lvl qs V o.op i o') := by
  obtain ⟨b, _, h⟩ := Option.bind_eq_some_iff.1 h
  cases b with
  | true =>
    simp only [if_true] at h
    unfold deltaZ at h
    split at h
    · exact delta_out h
    · split at h
      case isFalse => cases h
      obtain ⟨dl0, h0, h⟩ := Option.bind_eq_some_iff.1 h
      obtain ⟨e1, e2, e3⟩ := frz_out h
      exact ⟨by rw [e1]; simp, fun _ => e1, fun _ => e2, fun i o' e => by rw [e2] at e; cases e⟩
  | false =>
    simp only [Bool.false_eq_true, if_false, Option.some.injEq] at h; subst h
    exact ⟨by simp, fun _ => rfl, fun _ => rfl, fun i o' e => by cases e⟩

def putE (dst : Option Nat) (v : LV) (T : Env) : Env := match dst with | some d => (d, v) :: T | none => T
theorem putE_get {dst : Option Nat} {v : LV} {T : Env} {t : Nat} (h : dst ≠ some t) : tget (putE dst v T) t = tget T t := by
  cases dst with
  | none => rfl
  | some d => simp only [putE, tget]; rw [if_neg fun e => h (by rw [e])]
theorem apD_T (o : AOper) (dl : Dl) (s : St) : (apD o dl s).T = putE o.dst dl.v s.T := by unfold apD putT putE; cases o.dst <;> rfl
theorem apD_O (o : AOper) (dl : Dl) (s : St) : (apD o dl s).O = updO dl.upd (pushAll dl.news s.O) := by unfold apD putT; cases o.dst <;> rfl
theorem apD_F (o : AOper) (dl : Dl) (s : St) : (apD o dl s).F = s.F := by unfold apD putT; cases o.dst <;> rfl
theorem apD_lvl (o : AOper) (dl : Dl) (s : St) : (apD o dl s).lvl = s.lvl := by unfold apD putT; cases o.dst <;> rfl

/-- what is asked of two operations, taken apart -/
structure Ind (uo qo : List Nat) (o : AOper) (up qp : List Nat) (p : AOper) : Prop where
  see : ∀ d, o.dst = some d → d ∉ seesT (.dr up qp) p ∧ p.dst ≠ some d
  pair : pairOk (kindOf o.op) (kindOf p.op) o.op p.op = true
  uno : makes o = true → ∃ d, o.dst = some d ∧ up.contains d = true
  qs : ∀ (n t : Nat) (y : Opd) (ag : Bool) (m : Nat) (z : Opd), o.op = .store n (.t t) y → p.op = .load ag m z → qp.contains t = true ∨ (up.contains t = true ∧ qo = [t])
theorem indep_ind {uo qo up qp : List Nat} {o p : AOper} (h : indep (.dr uo qo, o) (.dr up qp, p) = true) : Ind uo qo o up qp p ∧ Ind up qp p uo qo o := by
  simp only [indep, Bool.and_eq_true, Bool.not_eq_true'] at h
  obtain ⟨⟨⟨⟨⟨⟨⟨⟨h1, h2⟩, h3⟩, h4⟩, h5⟩, h6⟩, h7⟩, _⟩, _⟩ := h
  have hsee : ∀ {o p : AOper} {q : Chk}, dstApart o p q = true → ∀ d, o.dst = some d → d ∉ seesT q p ∧ p.dst ≠ some d := by
    intro o p q h d hd
    simp only [dstApart, hd, Bool.and_eq_true, Bool.not_eq_true'] at h
    refine ⟨fun hm => ?_, fun e => ?_⟩
    · have := h.1; simp [hm] at this
    · rw [e] at h; simp at h
  have huno : ∀ {p : AOper} {u r : List Nat}, unOk (.dr u r) p = true → makes p = true → ∃ d, p.dst = some d ∧ u.contains d = true := by
    intro p u r h hm
    simp only [unOk, hm, Bool.not_true, Bool.false_or, chkUn] at h
    split at h
    · rename_i d hd; exact ⟨d, hd, h⟩
    · cases h
  have hqs : ∀ {uo qo up qp : List Nat} {o p : AOper}, qsOk (.dr up qp) (.dr uo qo) p o = true → ∀ (n t : Nat) (y : Opd) (ag : Bool) (m : Nat) (z : Opd), o.op = .store n (.t t) y → p.op = .load ag m z → qp.contains t = true ∨ (up.contains t = true ∧ qo = [t]) := by
    intro uo qo up qp o p h n t y ag m z ho hp
    simp only [qsOk, ho, hp, chkQs, chkUn, Bool.or_eq_true, Bool.and_eq_true, beq_iff_eq] at h
    exact h
  have hsym : pairOk (kindOf p.op) (kindOf o.op) p.op o.op = true := by
    have e : pairOk (kindOf p.op) (kindOf o.op) p.op o.op = pairOk (kindOf o.op) (kindOf p.op) o.op p.op := by
      cases kindOf o.op <;> cases kindOf p.op <;> rfl
    rw [e]; exact h3
  exact ⟨⟨hsee h1, h3, huno h5, hqs h7⟩, ⟨hsee h2, hsym, huno h4, hqs h6⟩⟩

theorem sto_kind {T : Env} {lvl : Nat} {qs : List Nat} {V : Heap} {op : AOp} {i : Nat} {o' : Obj} (h : IsSto T lvl qs V op i o') : kindOf op = .sto := by
  obtain ⟨n, x, v, rfl, _⟩ := h.st; rfl

/-- an operation does not see what an independent one has done -/
theorem insens {R : Orc} {uo qo up qp : List Nat} {o p : AOper} (hi : Ind uo qo o up qp p) {T : Env} {lvl : Nat} {O : Heap} {dl : Dl} (hd : eff R qo lvl o T (filtO lvl uo O) = some dl) :
    eff R qp lvl p (putE o.dst dl.v T) (filtO lvl up (updO dl.upd (pushAll dl.news O))) = eff R qp lvl p T (filtO lvl up O) := by
  rw [eff_T (un := up) (T' := T) fun t ht => putE_get fun e => (hi.see t e).1 ht]
  obtain ⟨hslot, hn0, hu0, hup⟩ := eff_out hd
  -- the new objects are out of sight
  have hpush : VE (filtO lvl up (pushAll dl.news O)) (filtO lvl up O) := fun id => by
    rw [oget_filt, oget_filt]
    split
    · rfl
    · rename_i hc
      refine oget_push id _ _ fun q hq e => ?_
      have hs := hslot q hq
      by_cases hm : makes o = true
      · obtain ⟨d, hd, hcon⟩ := hi.uno hm
        rw [hd, e] at hs
        simp only [Option.getD_some] at hs
        rw [hs] at hc; exact hc hcon
      · have : dl.news = [] := by
          refine hn0 ?_
          have hp := hi.pair
          unfold makes at hm
          cases hk : kindOf o.op <;> rw [hk] at hm hp <;> first | exact .inl rfl | exact .inr rfl | (exact absurd rfl hm) | (cases kindOf p.op <;> simp [pairOk] at hp)
        rw [this] at hq; cases hq
  cases hu : dl.upd with
  | none => exact eff_V (delta_V hpush)
  | some q =>
    obtain ⟨i, o'⟩ := q
    obtain ⟨hnews, hst⟩ := hup i o' hu
    rw [hnews]
    simp only [pushAll, updO]
    have hko := sto_kind hst
    obtain ⟨n, x, y, hop, hx⟩ := hst.st
    obtain ⟨ob, hob, hsk⟩ := hst.old
    have hOi : oget O i = some ob := by
      rw [oget_filt] at hob
      split at hob
      · cases hob
      · exact hob
    have hview : ∀ id, oget (filtO lvl up (oset O i o')) id = if id = i then (if up.contains (i / 256 - lvl * 4096) = true then none else some o') else oget (filtO lvl up O) id := fun id => by
      rw [oget_filt, oget_filt, oget_oset]
      by_cases e : id = i
      · subst e; simp only [if_true, hOi, Option.map_some]
      · simp only [if_neg e]
    have hK : ∀ id, SameK (oget (filtO lvl up (oset O i o')) id) (oget (filtO lvl up O) id) := fun id => by
      rw [hview]
      by_cases e : id = i
      · subst e
        rw [if_pos rfl, oget_filt, hOi]
        split
        · trivial
        · cases ob <;> cases o' <;> first | trivial | exact hsk.elim | exact Eq.symm hsk
      · rw [if_neg e]; exact SameK.refl _
    have hp := hi.pair
    rw [hko] at hp
    cases hkp : kindOf p.op with
    | loc => exact eff_V (delta_noV (.inl hkp))
    | cre => exact eff_V (delta_noV (.inr hkp))
    | sto => rw [hkp] at hp; cases hp
    | noi => rw [hkp] at hp; cases hp
    | rdh =>
      rw [hkp, hop] at hp
      refine eff_V ?_
      cases hpo : p.op with
      | load ag m z =>
        rw [hpo] at hp
        have hxt : ∃ t, x = .t t := by
          cases x with
          | t t => exact ⟨t, rfl⟩
          | c v => cases hp
          | fu f => cases hp
        obtain ⟨t, rfl⟩ := hxt
        have hq := hi.qs n t y ag m z hop hpo
        simp only [delta]
        by_cases hcond : qp.isEmpty = true ∨ apartV T qp (z.ev T) = true
        · rw [if_pos hcond, if_pos hcond]
          congr 1
          refine rd_at fun id hid => ?_
          rw [hview]
          by_cases e : id = i
          · subst e
            rw [if_pos rfl]
            rcases hq with hq | ⟨hq1, hq2⟩
            · exfalso
              have hne : ¬ qp.isEmpty = true := by
                intro h; rw [List.isEmpty_iff] at h; rw [h] at hq; cases hq
              have hap := hcond.resolve_left hne
              have hmem : t ∈ qp := by simpa using hq
              have apq : ∀ {l : List Nat}, apartQs T id l = true → t ∈ l → apartId id (tget T t) = true := by
                intro l
                induction l with
                | nil => intro _ h; cases h
                | cons q l ih =>
                  intro h hm
                  simp only [apartQs, Bool.and_eq_true] at h
                  cases hm with
                  | head => exact h.1
                  | tail _ hm => exact ih h.2 hm
              have hap2 : apartQs T id qp = true := by
                rcases hid with ⟨off, e⟩ | ⟨j, off, e⟩ <;> rw [e] at hap <;> exact hap
              have := apq hap2 hmem
              simp only [Opd.ev] at hx
              rcases hx with ⟨off, e⟩ | ⟨j, off, e⟩ <;> rw [e] at this <;> simp [apartId] at this
            · have hsl := hst.slot
              rw [hq2] at hsl
              simp only [inSlot, List.isEmpty_cons, Bool.false_or, List.contains_cons, List.contains_nil, Bool.or_false, beq_iff_eq] at hsl
              rw [hsl, if_pos hq1, oget_filt, hsl, if_pos hq1]
          · rw [if_neg e]
        · rw [if_neg hcond, if_neg hcond]
      | ias st a b => simp only [delta, valOp]; rw [ias_K hK]
      | sls st a b c => simp only [delta, valOp]; rw [sls_K hK]
      | _ => rw [hpo] at hp hkp; first | (cases hkp; done) | (cases hp; done)

theorem makes_or {R : Orc} {q : List Nat} {o : AOper} {lvl : Nat} {T : Env} {V : Heap} {dl : Dl} {p : AOper} (hpair : pairOk (kindOf o.op) (kindOf p.op) o.op p.op = true) (h : eff R q lvl o T V = some dl) (hm : ¬ makes o = true) : dl.news = [] := by
  obtain ⟨_, hn0, _, _⟩ := eff_out h
  refine hn0 ?_
  unfold makes at hm
  cases hk : kindOf o.op <;> rw [hk] at hm hpair <;> first | exact .inl rfl | exact .inr rfl | (exact absurd rfl hm) | (cases kindOf p.op <;> simp [pairOk] at hpair)

theorem swap1 {R : Orc} {q r : Chk} {o p : AOper} {s t t' u : St} (hi : indep (q, o) (r, p) = true) (h1 : Step1 R q o s t) (hs : Sim t t') (h2 : Step1 R r p t' u) :
    ∃ m m', Step1 R r p s m ∧ Step1 R q o m m' ∧ Sim m' u := by
  have hq : ∃ uo qo, q = .dr uo qo := by
    cases q with
    | dr a b => exact ⟨a, b, rfl⟩
    | free => simp [indep] at hi
  have hr : ∃ up qp, r = .dr up qp := by
    cases r with
    | dr a b => exact ⟨a, b, rfl⟩
    | free => simp [indep] at hi
  obtain ⟨uo, qo, rfl⟩ := hq
  obtain ⟨up, qp, rfl⟩ := hr
  obtain ⟨ind1, ind2⟩ := indep_ind hi
  obtain ⟨d1, e1, f1, rfl⟩ := step1_dr.1 h1
  obtain ⟨d2, e2, f2, rfl⟩ := step1_dr.1 h2
  obtain ⟨sl1, n1, u1, up1⟩ := eff_out e1
  -- the second, seen from the beginning
  have e2' : eff R qp s.lvl p s.T (filtO s.lvl up s.O) = some d2 := by
    rw [← insens ind1 e1, ← e2, ← hs.lvl, apD_lvl]
    rw [eff_T (un := up) (T' := t'.T) fun k _ => by rw [← hs.T k, apD_T]]
    refine eff_V (delta_V fun id => ?_)
    rw [oget_filt, oget_filt, ← hs.O id, apD_O]
  obtain ⟨sl2, n2, u2, up2⟩ := eff_out e2'
  have hdist : ∀ x ∈ d1.news, ∀ y ∈ d2.news, x.1 ≠ y.1 := by
    intro x hx y hy e
    have m1 : makes o = true := Classical.byContradiction fun h => by rw [makes_or ind1.pair e1 h] at hx; cases hx
    have m2 : makes p = true := Classical.byContradiction fun h => by rw [makes_or ind2.pair e2' h] at hy; cases hy
    obtain ⟨a, ha, _⟩ := ind1.uno m1
    obtain ⟨b, hb, _⟩ := ind2.uno m2
    have s1 := sl1 x hx
    have s2 := sl2 y hy
    rw [ha] at s1; rw [hb] at s2
    simp only [Option.getD_some] at s1 s2
    rw [e, s2] at s1
    exact (ind1.see a ha).2 (by rw [hb, s1])
  have f1' := (fresh_iff _ _).1 f1
  have f2s : freshAll d2.news s.O = true := by
    rw [← fresh_congr (O := t'.O)]
    · exact f2
    · intro y hy
      rw [← hs.O y.1, apD_O, upd_none, oget_push _ _ _ fun x hx e => hdist x hx y hy e]
  have f2' := (fresh_iff _ _).1 f2s
  have hm : Step1 R (.dr up qp) p s (apD p d2 s) := step1_dr.2 ⟨d2, e2', f2s, rfl⟩
  have e1' : eff R qo (apD p d2 s).lvl o (apD p d2 s).T (filtO (apD p d2 s).lvl uo (apD p d2 s).O) = some d1 := by
    rw [apD_lvl, apD_T, apD_O, insens ind2 e2']; exact e1
  have f1s : freshAll d1.news (apD p d2 s).O = true := by
    rw [← fresh_congr (O := s.O)]
    · exact f1
    · intro x hx
      rw [apD_O, upd_none, oget_push _ _ _ fun y hy e => hdist x hx y hy e.symm]
  refine ⟨_, _, hm, step1_dr.2 ⟨d1, e1', f1s, rfl⟩, ?_⟩
  refine ⟨fun k => ?_, fun id => ?_, ?_, ?_⟩
  · rw [apD_T, apD_T, apD_T]
    by_cases ho : o.dst = some k
    · have hp : p.dst ≠ some k := (ind1.see k ho).2
      rw [putE_get hp, ← hs.T k, apD_T]
      rw [ho]; simp [putE, tget]
    · rw [putE_get ho]
      by_cases hp : p.dst = some k
      · rw [hp]; simp [putE, tget]
      · rw [putE_get hp, putE_get hp, ← hs.T k, apD_T, putE_get ho]
  · rw [apD_O, apD_O, apD_O]
    have hto : ∀ j, oget t'.O j = oget (updO d1.upd (pushAll d1.news s.O)) j := fun j => by rw [← hs.O j, apD_O]
    -- what is changed was there, what is new was not
    have was : ∀ {qz : List Nat} {z : AOper} {dz : Dl} {uz : List Nat}, eff R qz s.lvl z s.T (filtO s.lvl uz s.O) = some dz → ∀ i ob, dz.upd = some (i, ob) → oget s.O i ≠ none ∧ dz.news = [] ∧ kindOf z.op = .sto := by
      intro qz z dz uz h i ob hu
      obtain ⟨_, _, _, hz⟩ := eff_out h
      obtain ⟨hn, hst⟩ := hz i ob hu
      obtain ⟨o', ho', _⟩ := hst.old
      rw [oget_filt] at ho'
      split at ho'
      · cases ho'
      · exact ⟨by rw [ho']; simp, hn, sto_kind hst⟩
    cases hu1 : d1.upd with
    | none =>
      have hto : ∀ j, oget t'.O j = oget (pushAll d1.news s.O) j := fun j => by rw [hto j, hu1]; rfl
      simp only [updO]
      cases hu2 : d2.upd with
      | none =>
        simp only [updO]
        by_cases hx : ∃ x ∈ d1.news, x.1 = id
        · obtain ⟨x, hx, e⟩ := hx
          rw [oget_push id d2.news _ fun y hy e2 => hdist x hx y hy (e.trans e2.symm), hto]
          exact oget_push_in id _ _ _ ⟨x, hx, e⟩
        · have hx' : ∀ x ∈ d1.news, x.1 ≠ id := fun x h e => hx ⟨x, h, e⟩
          rw [oget_push id d1.news _ hx']
          by_cases hy : ∃ y ∈ d2.news, y.1 = id
          · exact oget_push_in id _ _ _ hy
          · have hy' : ∀ y ∈ d2.news, y.1 ≠ id := fun y h e => hy ⟨y, h, e⟩
            rw [oget_push id d2.news _ hy', oget_push id d2.news _ hy', hto, oget_push id d1.news _ hx']
      | some q2 =>
        obtain ⟨i, ob⟩ := q2
        obtain ⟨hiO, hn2, _⟩ := was e2' i ob hu2
        rw [hn2]
        simp only [pushAll, updO]
        by_cases hx : ∃ x ∈ d1.news, x.1 = id
        · obtain ⟨x, hx, e⟩ := hx
          have hne : id ≠ i := fun e2 => hiO (by rw [← e2, ← e]; exact f1'.1 x hx)
          rw [oget_oset, if_neg hne, hto]
          exact oget_push_in id _ _ _ ⟨x, hx, e⟩
        · have hx' : ∀ x ∈ d1.news, x.1 ≠ id := fun x h e => hx ⟨x, h, e⟩
          rw [oget_push id d1.news _ hx', oget_oset, oget_oset]
          by_cases e : id = i
          · subst e; rw [if_pos rfl, if_pos rfl, hto, oget_push id d1.news _ hx']
          · rw [if_neg e, if_neg e, hto, oget_push id d1.news _ hx']
    | some q1 =>
      obtain ⟨i, ob⟩ := q1
      obtain ⟨hiO, hn1, hk1⟩ := was e1 i ob hu1
      have hto : ∀ j, oget t'.O j = oget (oset s.O i ob) j := fun j => by rw [hto j, hu1, hn1]; rfl
      have hu2 : d2.upd = none := by
        cases hu2 : d2.upd with
        | none => rfl
        | some q2 =>
          obtain ⟨_, _, hk2⟩ := was e2' q2.1 q2.2 hu2
          have := ind1.pair
          rw [hk1, hk2] at this; cases this
      rw [hn1, hu2]
      simp only [pushAll, updO]
      by_cases hy : ∃ y ∈ d2.news, y.1 = id
      · obtain ⟨y, hy, e⟩ := hy
        have hne : id ≠ i := fun e2 => hiO (by rw [← e2, ← e]; exact f2'.1 y hy)
        rw [oget_oset, if_neg hne]
        exact oget_push_in id _ _ _ ⟨y, hy, e⟩
      · have hy' : ∀ y ∈ d2.news, y.1 ≠ id := fun y h e => hy ⟨y, h, e⟩
        rw [oget_push id d2.news _ hy', hto, oget_oset, oget_oset]
        by_cases e : id = i
        · subst e; rw [if_pos rfl, if_pos rfl, oget_push id d2.news _ hy']
        · rw [if_neg e, if_neg e, oget_push id d2.news _ hy']
  · rw [apD_F, apD_F, apD_F, ← hs.F, apD_F]
  · rw [apD_lvl, apD_lvl, apD_lvl, ← hs.lvl, apD_lvl]

/-- the run of a list, up to what states look alike -/
inductive RD (R : Orc) : List (Chk × AOper) → St → St → Prop
  | nil {s s2 : St} (h : Sim s s2) : RD R [] s s2
  | cons {x : Chk × AOper} {l : List (Chk × AOper)} {s t t' s2 : St} (h : Sim s t) (hx : Step1 R x.1 x.2 t t') (hr : RD R l t' s2) : RD R (x :: l) s s2
theorem RD.sim {R : Orc} {l : List (Chk × AOper)} {s s' s2 : St} (h : Sim s' s) (k : RD R l s s2) : RD R l s' s2 := by
  cases k with
  | nil h2 => exact .nil (h.trans h2)
  | cons h2 hx hr => exact .cons (h.trans h2) hx hr
theorem RD.swap {R : Orc} {x y : Chk × AOper} {l : List (Chk × AOper)} {s s2 : St} (hi : indep x y = true) (k : RD R (x :: y :: l) s s2) : RD R (y :: x :: l) s s2 := by
  cases k with
  | cons h hx hr =>
    cases hr with
    | cons h2 hy hr2 =>
      obtain ⟨m, m', a, b, c⟩ := swap1 (q := x.1) (r := y.1) (o := x.2) (p := y.2) hi hx h2 hy
      exact .cons h a (.cons (Sim.refl _) b (hr2.sim c))
theorem RD.front {R : Orc} {x : Chk × AOper} {B : List (Chk × AOper)} {s2 : St} : ∀ {A : List (Chk × AOper)} {s : St}, (∀ y ∈ A, indep y x = true) → RD R (A ++ x :: B) s s2 → RD R (x :: (A ++ B)) s s2
  | [], s, _, k => k
  | y :: A, s, h, k => by
    cases k with
    | cons h1 hy hr => exact RD.swap (h y (by simp)) (.cons h1 hy (RD.front (fun z hz => h z (by simp [hz])) hr))
theorem RD.of_run {R : Orc} : ∀ {l : List (Chk × AOper)} {s s2 : St}, runD R l s = some s2 → RD R l s s2
  | [], s, s2, h => by simp only [runD, Option.some.injEq] at h; subst h; exact .nil (Sim.refl _)
  | x :: l, s, s2, h => by
    obtain ⟨bb, hw, h⟩ := Option.bind_eq_some_iff.1 (show (wanted s.T x.2.grd).bind (grdD R x.1 x.2 (runD R l) s) = some s2 from h)
    unfold grdD at h
    cases bb with
    | true =>
      simp only [if_true] at h
      obtain ⟨⟨v, s1⟩, h1, h2⟩ := Option.bind_eq_some_iff.1 h
      exact .cons (Sim.refl _) ⟨true, hw, by simp only [if_true]; exact ⟨v, s1, h1, rfl⟩⟩ (RD.of_run h2)
    | false =>
      simp only [Bool.false_eq_true, if_false] at h
      exact .cons (Sim.refl _) ⟨false, hw, by simp⟩ (RD.of_run h)
end Go.Zv
