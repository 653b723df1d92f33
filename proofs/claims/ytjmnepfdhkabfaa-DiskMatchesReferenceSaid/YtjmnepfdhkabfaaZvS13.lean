/- The engine, part 18: what a call by value leaves behind. -/
import Derived.Test.YtjmnepfdhkabfaaZvS12
namespace Go.Zv
set_option autoImplicit false
set_option linter.unusedVariables false
set_option linter.unusedSimpArgs false
section
variable {P : Program} {c : Cx} {w w' : World} {s : St} {tmps : Array Value} {Ts : List (Array Value)}

/-- what a callee is told: what is frozen; it owns nothing -/
def Cx.bare (c : Cx) : Cx := ⟨c.mu, fun _ => none⟩
/-- the caller's objects, seen behind the call -/
def Cx.back (c : Cx) (d : Cx) : Cx := ⟨d.mu, c.io⟩

theorem SR.aside (H : SR P c s tmps Ts w) {d : Cx} (t : Tr c.bare w d w') (hM : MR d w') : SR P (c.back d) s tmps Ts w' ∧ Tr c w (c.back d) w' := by
  have hmu : ∀ b o v, c.mu b o = some v → (c.back d).mu b o = some v := t.mu
  have hio : ∀ j h, c.io j = some h → (c.back d).io j = some h := fun _ _ h => h
  have keep : ∀ b, b < w.heap.size → w'.heap[b]? = w.heap[b]? := fun b hb => t.keep b hb (fun id h hi => by simp [Cx.bare] at hi)
  have hmn : ∀ id h o, c.io id = some h → h.nul = false → OR P c w h o → ∀ x, (c.back d).mu h.blk x = none := fun id h o hi hn hor x => by
    cases hv : (c.back d).mu h.blk x with
    | none => rfl
    | some v =>
      rcases t.muN _ _ _ hv with h1 | ⟨_, _, h2, _⟩ | hle
      · have := hor.mu hn x; rw [show c.mu h.blk x = some v from h1] at this; cases this
      · simp [Cx.bare] at h2
      · have := H.lt id h hi hn; omega
  refine ⟨⟨H.T.mono hmu hio, H.Fl, fun i F t hF ht => (H.F i F t hF ht).mono hmu hio, fun id o ho => ?_, H.dom, H.inj, hM, fun id h hi hn => Nat.lt_of_lt_of_le (H.lt id h hi hn) t.size⟩,
    ⟨t.size, fun b hb _ => keep b hb, hmu, fun id h hi hn => .inl ⟨id, h, hi, hn, rfl⟩, t.frz, t.env, fun b o v hv => ?_, t.loop⟩⟩
  · obtain ⟨h, hi, hor⟩ := H.O id o ho
    exact ⟨h, hi, hor.mono hmu hio (fun hn => keep _ (H.lt id h hi hn)) (fun hn => hmn id h o hi hn hor)⟩
  · rcases t.muN _ _ _ hv with h1 | ⟨_, _, h2, _⟩ | hle
    · exact .inl h1
    · simp [Cx.bare] at h2
    · exact .inr (.inr hle)

/-- a component of a result, in transit -/
inductive Own1 (P : Program) (c : Cx) (w : World) : LV → Value → Option Home → Prop
  | cl (r : LV) (v : Value) (hc : LV.closed r = true) (h : VR c r v) : Own1 P c w r v none
  | os (xs : List (List LV)) (h : Home) (ho : OR P c w h (.row h.st xs)) (hlt : h.nul = false → h.blk < w.heap.size) : Own1 P c w (.os h.st xs) (.slice h.addr xs.length h.cap) (some h)
  | om (es : List (LV × LV)) (h : Home) (ho : OR P c w h (.map es)) (hn : h.nul = false) (hlt : h.blk < w.heap.size) : Own1 P c w (.om es) (.map (some h.blk)) (some h)

/-- an object is taken over: memory that belongs to nobody here -/
theorem SR.adopt {c0 : Cx} {w0 : World} (t : Tr c0 w0 c w) (H : SR P c s tmps Ts w) (id : Nat) {o : Obj} {h : Home} (hlt : h.nul = false → h.blk < w.heap.size) (hnew : h.nul = false → w0.heap.size ≤ h.blk ∧ (∀ x, c.mu h.blk x = none) ∧ ∀ j hh, c.io j = some hh → hh.nul = false → hh.blk ≠ h.blk)
    (ho : ∀ c' : Cx, (∀ b o v, c.mu b o = some v → c'.mu b o = some v) → (h.nul = false → ∀ x, c'.mu h.blk x = none) → OR P c' w h o) :
    ∃ c', SR P c' (St.new id o s) tmps Ts w ∧ Tr c0 w0 c' w ∧ c'.io id = some h ∧ (∀ j hh, j ≠ id → c.io j = some hh → c'.io j = some hh) ∧ (∀ j hh, j ≠ id → c'.io j = some hh → c.io j = some hh) ∧ (∀ b o x, c.mu b o = some x → c'.mu b o = some x) ∧
      (∀ b, (∀ x, c.mu b x = none) → (∀ j hh, c.io j = some hh → hh.nul = false → hh.blk ≠ b) → ∀ x, c'.mu b x = none) := by
  obtain ⟨c1, H1, t1, hn1, hio1, _⟩ := H.free id
  have t01 := t.trans t1
  have hmu1 : ∀ b, (∀ x, c.mu b x = none) → (∀ j hh, c.io j = some hh → hh.nul = false → hh.blk ≠ b) → (b < w.heap.size) → ∀ x, c1.mu b x = none := fun b hb hj hlt x => by
    cases hv : c1.mu b x with
    | none => rfl
    | some v =>
      rcases t1.muN b x v hv with h1 | ⟨j, hh, h2, h3, h4⟩ | hle
      · rw [hb x] at h1; cases h1
      · exact absurd h4 (hj j hh h2 h3)
      · omega
  let c' : Cx := ⟨c1.mu, fun j => if j = id then some h else c1.io j⟩
  have hid : c'.io id = some h := by simp [c']
  have hio : ∀ j hh, c1.io j = some hh → c'.io j = some hh := fun j hh hj => by
    by_cases e : j = id
    · subst e; rw [hn1] at hj; cases hj
    · simp only [c', if_neg e]; exact hj
  have hback : ∀ j hh, j ≠ id → c'.io j = some hh → c1.io j = some hh := fun j hh e hj => by simpa only [c', if_neg e] using hj
  have hmn : h.nul = false → ∀ x, c'.mu h.blk x = none := fun hn => hmu1 h.blk (hnew hn).2.1 (hnew hn).2.2 (hlt hn)
  have hgone := free_gone s id
  have hsm : ∀ b o v, c1.mu b o = some v → c'.mu b o = some v := fun _ _ _ h => h
  have hT : TR c' (St.new id o s).T tmps := (TR.mono (c' := c') hsm hio H1.T)
  refine ⟨c', ⟨hT, H1.Fl, fun i F t hF ht => TR.mono (c' := c') hsm hio (H1.F i F t hF ht), fun j oo hj => ?_, fun j hh hj => ?_, fun i j h1 h2 hij hi1 hi2 hm1 hm2 => ?_, H1.mu, fun j hh hj hn => ?_⟩, ⟨t01.size, t01.keep, t01.mu, fun j hh hj hn => ?_, t01.frz, t01.env, t01.muN, t01.loop⟩, hid, fun j hh hj hjj => hio j hh (by rw [hio1 j hj]; exact hjj), fun j hh hj hjj => by rw [← hio1 j hj]; exact hback j hh hj hjj, t1.mu, fun b hb hj x => ?_⟩
  · simp only [St.new, St.push, oget] at hj
    split at hj
    · rename_i e; subst e
      simp only [Option.some.injEq] at hj; subst hj
      exact ⟨h, hid, ho c' t1.mu hmn⟩
    · obtain ⟨hh, hi, hor⟩ := H1.O j oo hj
      exact ⟨hh, hio _ _ hi, OR.mono (c' := c') hsm hio (fun _ => rfl) (fun hn => hor.mu hn) hor⟩
  · by_cases e : j = id
    · subst e; exact ⟨o, by simp [St.new, St.push, oget]⟩
    · obtain ⟨o', ho'⟩ := H1.dom j hh (hback j hh e hj)
      exact ⟨o', by simp [St.new, St.push, oget, Ne.symm e, ho']⟩
  · by_cases e1 : i = id
    · subst e1
      have : h1 = h := by rw [hid] at hi1; exact (Option.some.inj hi1).symm
      subst this
      have hj2 := hback j h2 (Ne.symm hij) hi2
      rw [hio1 j (Ne.symm hij)] at hj2
      exact fun e => (hnew hm1).2.2 j h2 hj2 hm2 e.symm
    · by_cases e2 : j = id
      · subst e2
        have : h2 = h := by rw [hid] at hi2; exact (Option.some.inj hi2).symm
        subst this
        have hj2 := hback i h1 hij hi1
        rw [hio1 i hij] at hj2
        exact (hnew hm2).2.2 i h1 hj2 hm1
      · exact H1.inj i j h1 h2 hij (hback i h1 e1 hi1) (hback j h2 e2 hi2) hm1 hm2
  · by_cases e : j = id
    · subst e
      have : hh = h := by rw [hid] at hj; exact (Option.some.inj hj).symm
      subst this; exact hlt hn
    · exact H1.lt j hh (hback j hh e hj) hn
  · by_cases e : j = id
    · subst e
      have : hh = h := by rw [hid] at hj; exact (Option.some.inj hj).symm
      subst this; exact .inr (hnew hn).1
    · exact t01.io j hh (hback j hh e hj) hn
  · cases hv : c'.mu b x with
    | none => rfl
    | some v =>
      rcases t1.muN b x v hv with h1 | ⟨j, hh, h2, h3, h4⟩ | hle
      · rw [hb x] at h1; cases h1
      · exact absurd h4 (hj j hh h2 h3)
      · have := lt_of_cell (H1.mu b x v hv); omega

/-- rows and maps hold closed values: they stay what they are wherever the other objects lie -/
theorem OR.closed {c' : Cx} {h : Home} {o : Obj} (hk : (∃ st xs, o = .row st xs) ∨ ∃ es, o = .map es) (hmu : ∀ b o v, c.mu b o = some v → c'.mu b o = some v) (hn : h.nul = false → ∀ x, c'.mu h.blk x = none) (H : OR P c w h o) : OR P c' w h o := by
  cases H with
  | box => rcases hk with ⟨_, _, h⟩ | ⟨_, h⟩ <;> cases h
  | loop => rcases hk with ⟨_, _, h⟩ | ⟨_, h⟩ <;> cases h
  | row xs val hs hv hl h0 hsp hm =>
    exact .row xs val hs (fun i x j y hx hy => by
      obtain ⟨h1, h2, h3⟩ := hv i x j y hx hy
      exact ⟨h1, h2, h3.closed hmu (closeds_at (hs i x hx).2 hy)⟩) hl h0 hsp hn
  | map es en clock hn' hw hl hv hm =>
    exact .map es en clock hn' hw hl (fun i e m he hm' => by obtain ⟨a, b, c1, d⟩ := hv i e m he hm'; exact ⟨a.closed hmu c1, b.closed hmu d, c1, d⟩) (hn hn')

theorem Own1.kind {r : LV} {v : Value} {h : Home} (H : Own1 P c w r v (some h)) : (∃ st xs, r = .os st xs) ∨ ∃ es, r = .om es := by
  cases H with
  | os xs h ho hlt => exact .inl ⟨_, _, rfl⟩
  | om es h ho hn hlt => exact .inr ⟨_, rfl⟩
theorem Own1.mono {c' : Cx} {r : LV} {v : Value} {ho : Option Home} (H : Own1 P c w r v ho) (hmu : ∀ b o v, c.mu b o = some v → c'.mu b o = some v) (hn : ∀ h, ho = some h → h.nul = false → ∀ x, c'.mu h.blk x = none) : Own1 P c' w r v ho := by
  cases H with
  | cl r v hc h => exact .cl r v hc (h.closed hmu hc)
  | os xs h ho hlt => exact .os xs h (ho.closed (.inl ⟨_, _, rfl⟩) hmu (hn h rfl)) hlt
  | om es h ho hnn hlt => exact .om es h (ho.closed (.inr ⟨_, rfl⟩) hmu (hn h rfl)) hnn hlt

/-- the caller takes one component in -/
theorem take1 {c0 : Cx} {w0 : World} (t : Tr c0 w0 c w) (H : SR P c s tmps Ts w) (id : Nat) {r : LV} {v : Value} {ho : Option Home} (hr : Own1 P c w r v ho)
    (hnew : ∀ h, ho = some h → h.nul = false → w0.heap.size ≤ h.blk ∧ (∀ x, c.mu h.blk x = none) ∧ ∀ j hh, c.io j = some hh → hh.nul = false → hh.blk ≠ h.blk) :
    ∃ c', SR P c' (import1 id s r).2 tmps Ts w ∧ Tr c0 w0 c' w ∧ VR c' (import1 id s r).1 v ∧ (∀ j hh, j ≠ id → c.io j = some hh → c'.io j = some hh) ∧ (∀ b o x, c.mu b o = some x → c'.mu b o = some x) ∧
      (∀ b, (∀ x, c.mu b x = none) → (∀ j hh, c.io j = some hh → hh.nul = false → hh.blk ≠ b) → (∀ h, ho = some h → h.nul = false → h.blk ≠ b) → (∀ x, c'.mu b x = none) ∧ ∀ j hh, c'.io j = some hh → hh.nul = false → hh.blk ≠ b) := by
  cases hr with
  | cl r v hc h =>
    have e : import1 id s r = (r, s) := by cases r <;> first | rfl | (simp [LV.closed] at hc)
    rw [e]
    exact ⟨c, H, t, h, fun _ _ _ h => h, fun _ _ _ h => h, fun b h1 h2 _ => ⟨h1, h2⟩⟩
  | os xs h ho hlt =>
    obtain ⟨c', H', t', hid, hio, hback, hmu, hb⟩ := H.adopt t id (o := .row h.st xs) hlt (hnew h rfl) (fun c' hmu hm => ho.closed (.inl ⟨_, _, rfl⟩) hmu hm)
    have hcap : xs.length ≤ h.cap ∧ (h.nul = true → h.cap = 0) := by cases ho with | row _ _ _ _ hl h0 _ _ => exact ⟨hl, h0⟩
    refine ⟨c', H', t', .bs id 0 xs.length h _ _ hcap.1 hid (fun _ => ⟨rfl, rfl⟩) (fun hz => ?_), hio, hmu, fun b h1 h2 h3 => ⟨hb b h1 h2, fun j hh hj hn => ?_⟩⟩
    · have hn : h.nul = false := by
        cases hnn : h.nul with
        | false => rfl
        | true => have := hcap.2 hnn; omega
      exact ⟨hn, by simp [Home.addr, hn]⟩
    · by_cases e : j = id
      · subst e; rw [hid] at hj; cases hj; exact h3 h rfl hn
      · exact h2 j hh (hback j hh e hj) hn
  | om es h ho hnn hlt =>
    obtain ⟨c', H', t', hid, hio, hback, hmu, hb⟩ := H.adopt t id (o := .map es) (fun _ => hlt) (hnew h rfl) (fun c' hmu hm => ho.closed (.inr ⟨_, rfl⟩) hmu hm)
    refine ⟨c', H', t', .mp id h hid, hio, hmu, fun b h1 h2 h3 => ⟨hb b h1 h2, fun j hh hj hn => ?_⟩⟩
    by_cases e : j = id
    · subst e; rw [hid] at hj; cases hj; exact h3 h rfl hn
    · exact h2 j hh (hback j hh e hj) hn

/-- the components of a result, in transit -/
inductive Owns (P : Program) (c : Cx) (w : World) : List LV → List Value → List (Option Home) → Prop
  | nil : Owns P c w [] [] []
  | cons {r : LV} {v : Value} {ho : Option Home} {rs : List LV} {vs : List Value} {hs : List (Option Home)} (h : Own1 P c w r v ho) (hr : Owns P c w rs vs hs)
      (ha : ∀ h, ho = some h → h.nul = false → ∀ h', some h' ∈ hs → h'.nul = false → h.blk ≠ h'.blk) : Owns P c w (r :: rs) (v :: vs) (ho :: hs)
theorem Owns.mono {c' : Cx} {rs : List LV} {vs : List Value} {hs : List (Option Home)} (H : Owns P c w rs vs hs) (hmu : ∀ b o v, c.mu b o = some v → c'.mu b o = some v) (hn : ∀ h, some h ∈ hs → h.nul = false → ∀ x, c'.mu h.blk x = none) : Owns P c' w rs vs hs := by
  induction H with
  | nil => exact .nil
  | cons h hr ha ih => exact .cons (h.mono hmu fun hh e => hn hh (by simp [e])) (ih fun hh e => hn hh (by simp [e])) ha

theorem VR.of_mp {id : Nat} {v : Value} (h : VR c (.mp id) v) : ∃ hh, c.io id = some hh ∧ v = .map (some hh.blk) := by
  cases h with | mp _ hh hi => exact ⟨hh, hi, rfl⟩
theorem takes {c0 : Cx} {w0 : World} : ∀ {rs : List LV} {vs : List Value} {hs : List (Option Home)} {id : Nat} {c : Cx} {s : St}, Tr c0 w0 c w → SR P c s tmps Ts w → Owns P c w rs vs hs →
    (∀ h, some h ∈ hs → h.nul = false → w0.heap.size ≤ h.blk ∧ (∀ x, c.mu h.blk x = none) ∧ ∀ j hh, c.io j = some hh → hh.nul = false → hh.blk ≠ h.blk) →
    ∃ c', SR P c' (imports id rs s).2 tmps Ts w ∧ Tr c0 w0 c' w ∧ VRs c' (imports id rs s).1 vs ∧ (∀ j hh, j < id → c.io j = some hh → c'.io j = some hh) ∧ (∀ b o x, c.mu b o = some x → c'.mu b o = some x)
  | [], _, _, id, c, s, t, H, .nil, _ => ⟨c, H, t, VRs.nil c, fun _ _ _ h => h, fun _ _ _ h => h⟩
  | r :: rs, v :: vs, ho :: hs, id, c, s, t, H, .cons h hr ha, hnew => by
    obtain ⟨c1, H1, t1, hv1, hio1, hmu1, hb1⟩ := take1 t H id h (fun hh e => hnew hh (by simp [e]))
    have hnew1 : ∀ h', some h' ∈ hs → h'.nul = false → w0.heap.size ≤ h'.blk ∧ (∀ x, c1.mu h'.blk x = none) ∧ ∀ j hh, c1.io j = some hh → hh.nul = false → hh.blk ≠ h'.blk := fun h' hm hn => by
      obtain ⟨a1, a2, a3⟩ := hnew h' (by simp [hm]) hn
      obtain ⟨b1, b2⟩ := hb1 h'.blk a2 a3 (fun h0 e hn0 => ha h0 e hn0 h' hm hn)
      exact ⟨a1, b1, b2⟩
    obtain ⟨c2, H2, t2, hv2, hio2, hmu2⟩ := takes (id := id + 1) t1 H1 (hr.mono hmu1 fun h' hm hn => (hnew1 h' hm hn).2.1) hnew1
    refine ⟨c2, H2, t2, VRs.cons ?_ hv2, fun j hh hj hjj => hio2 j hh (by omega) (hio1 j hh (by omega) hjj), fun b o x hx => hmu2 _ _ _ (hmu1 _ _ _ hx)⟩
    cases h with
    | cl r v hc hvr =>
      have e : import1 id s r = (r, s) := by cases r <;> first | rfl | (simp [LV.closed] at hc)
      rw [e] at hv1
      have e2 : (importsK (imports (id + 1) rs) (import1 id s r)).1.head? = some r := by rw [e]; rfl
      show VR c2 (import1 id s r).1 v
      rw [e]
      exact hv1.closed hmu2 hc
    | os xs h ho hlt =>
      show VR c2 (.bs id 0 xs.length) _
      cases hv1 with
      | bs _ _ _ hh _ _ hcap hi h0 h1 => exact .bs _ _ _ hh _ _ hcap (hio2 _ _ (by omega) hi) h0 h1
    | om es h ho hnn hlt =>
      show VR c2 (.mp id) _
      obtain ⟨hh, hi, e⟩ := VR.of_mp hv1
      rw [e]; exact .mp _ hh (hio2 _ _ (by omega) hi)
end
end Go.Zv
