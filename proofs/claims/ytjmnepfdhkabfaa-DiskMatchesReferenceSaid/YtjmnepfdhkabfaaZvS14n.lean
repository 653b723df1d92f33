/- The engine, part 28: an operation of a drawn region is sound. -/
import Derived.Test.YtjmnepfdhkabfaaZvS14
namespace Go.Zv
set_option autoImplicit false
set_option linter.unusedVariables false
set_option linter.unusedSimpArgs false
section
variable {P : Program} {c : Cx} {w w' : World} {s : St} {tmps : Array Value} {Ts : List (Array Value)}

/-- fewer objects -/
theorem noVs_VR {c' : Cx} {x : LV} {v : Value} (h : VR c x v) : LV.noVs x = true → LV.closed x = true → VR c' x v := by
  have at_ : ∀ {l : List LV} {i : Nat} {x : LV}, LV.noVss l = true → l[i]? = some x → LV.noVs x = true := by
    intro l
    induction l with
    | nil => intro i x _ h; simp at h
    | cons y l ih =>
      intro i x hl hx
      simp only [LV.noVss, Bool.and_eq_true] at hl
      cases i with
      | zero => simp at hx; subst hx; exact hl.1
      | succ i => exact ih hl.2 (by simpa using hx)
  induction h with
  | any v => intro h; simp [LV.noVs] at h
  | undef => exact fun _ _ => .undef
  | int k n => exact fun _ _ => .int k n
  | bool b => exact fun _ _ => .bool b
  | str l => exact fun _ _ => .str l
  | agg cs vs hl h ih => exact fun hn hc => .agg cs vs hl fun i x v hx hv => ih i x v hx hv (at_ (by simpa [LV.noVs] using hn) hx) (closeds_at (by simpa [LV.closed] using hc) hx)
  | tup cs vs hl h ih => exact fun hn hc => .tup cs vs hl fun i x v hx hv => ih i x v hx hv (at_ (by simpa [LV.noVs] using hn) hx) (closeds_at (by simpa [LV.closed] using hc) hx)
  | vs0 a cap => exact fun _ _ => .vs0 a cap
  | vs xs b o s cap val hne => intro hn; exfalso; simp only [LV.noVs, List.isEmpty_iff] at hn; exact hne hn
  | nils st a => intro _ hc; simp [LV.closed] at hc
  | nul => exact fun _ _ => .nul
  | emp a cap => exact fun _ _ => .emp a cap
  | bs => intro _ hc; simp [LV.closed] at hc
  | bb => intro _ hc; simp [LV.closed] at hc
  | ptr => intro _ hc; simp [LV.closed] at hc
  | ep => intro _ hc; simp [LV.closed] at hc
  | fp => intro hn; simp [LV.noVs] at hn
  | nilp => exact fun _ _ => .nilp
  | fn f xs ys us vs hl hl2 h h2 ih ih2 =>
    intro hn hc
    simp only [LV.noVs, LV.closed, Bool.and_eq_true] at hn hc
    exact .fn f xs ys us vs hl hl2 (fun i x v hx hv => ih i x v hx hv (at_ hn.1 hx) (closeds_at hc.1 hx)) (fun i x v hx hv => ih2 i x v hx hv (at_ hn.2 hx) (closeds_at hc.2 hx))
  | nilf => exact fun _ _ => .nilf
  | mp => intro _ hc; simp [LV.closed] at hc
  | nilm => exact fun _ _ => .nilm
  | yl => intro _ hc; simp [LV.closed] at hc
theorem scal_VR {c' : Cx} {x : LV} {v : Value} (h : VR c x v) (hs : LV.scal x = true) : VR c' x v := by
  cases h <;> first | (simp [LV.scal] at hs; done) | constructor

/-- what a call hands back, taken in: the caller's own view of it -/
theorem take_in {c0 : Cx} {w0 : World} (t : Tr c0 w0 c w) (H : SR P c s tmps Ts w) {rs : List LV} {us : List Value} {hs : List (Option Home)} (hO : Owns P c w rs us hs) (id : Nat)
    (hnew : ∀ h, some h ∈ hs → h.nul = false → w0.heap.size ≤ h.blk ∧ (∀ x, c.mu h.blk x = none) ∧ ∀ j hh, c.io j = some hh → hh.nul = false → hh.blk ≠ h.blk) :
    ∃ c', SR P c' (imports id rs s).2 tmps Ts w ∧ Tr c0 w0 c' w ∧ VRs c' (imports id rs s).1 us := by
  obtain ⟨c', H3, t4, hv4, _, _⟩ := takes (id := id) t H hO hnew
  exact ⟨c', H3, t4, hv4⟩

theorem owns_noVs {c' : Cx} {rs : List LV} {us : List Value} {hs : List (Option Home)} (H : Owns P c w rs us hs) (hn : LV.noVss rs = true) (hm : ∀ h, some h ∈ hs → h.nul = false → ∀ x, c'.mu h.blk x = none) : Owns P c' w rs us hs := by
  induction H with
  | nil => exact .nil
  | cons h hr ha ih =>
    simp only [LV.noVss, Bool.and_eq_true] at hn
    refine .cons ?_ (ih hn.2 fun hh e => hm hh (by simp [e])) ha
    cases h with
    | cl _ _ hc hv => exact .cl _ _ hc (noVs_VR hv hn.1 hc)
    | os xs hh ho hlt =>
      refine .os xs hh ?_ hlt
      cases ho with
      | row xs val hs hv hl h0 hsp hm2 =>
        refine .row xs val hs (fun i x j y hx hy => ?_) hl h0 hsp (fun hnn => hm hh (by simp) hnn)
        obtain ⟨h1, h2, h3⟩ := hv i x j y hx hy
        refine ⟨h1, h2, scal_VR h3 ?_⟩
        have hall := hn.1
        simp only [LV.noVs] at hall
        have hx2 := List.all_eq_true.1 hall x (List.mem_of_getElem? hx)
        exact List.all_eq_true.1 hx2 y (List.mem_of_getElem? hy)
    | om es hh ho hnn hlt => simp [LV.noVs] at hn

theorem back_noVs (H : SR P c s tmps Ts w) {c1 d : Cx} (t : Tr c1.bare w d w') {sd : St} {tmps' : Array Value} {Ts' : List (Array Value)} (Hd : SR P d sd tmps' Ts' w') {v r : LV} {u : Value} (hv : VR d v u) (hr : exportV sd.O v = some r) (hn : LV.noVs r = true) (id : Nat) :
    ∃ c', SR P c' (import_ id s r).2 tmps Ts w' ∧ Tr c w c' w' ∧ VR c' (import_ id s r).1 u := by
  have hg : Grew w w' := ⟨t.size, fun b hb => t.keep b hb fun j h hi => by simp [Cx.bare] at hi, t.frz, t.env⟩
  obtain ⟨H1, t1⟩ := H.grew hg
  have main : ∀ {l : List LV} {us : List Value}, VRs d l us → LV.closedRs (exports l sd.O) = true → LV.noVss (exports l sd.O) = true →
      ∃ c', SR P c' (imports id (exports l sd.O) s).2 tmps Ts w' ∧ Tr c w c' w' ∧ VRs c' (imports id (exports l sd.O) s).1 us := by
    intro l us hl hcl hno
    obtain ⟨d', hs, t2, hM, hOw, hh⟩ := export_out Hd hl hcl
    have hle : ∀ h, some h ∈ hs → h.nul = false → w.heap.size ≤ h.blk := fun h hm hn => by
      obtain ⟨j, hj⟩ := hh h hm hn
      rcases t.io j h hj hn with ⟨_, _, e, _⟩ | hle
      · simp [Cx.bare] at e
      · exact hle
    have hmu : ∀ h, some h ∈ hs → h.nul = false → ∀ x, c.mu h.blk x = none := fun h hm hn x => by
      cases hx : c.mu h.blk x with
      | none => rfl
      | some y => have := lt_of_cell (H.mu _ _ _ hx); have := hle h hm hn; omega
    exact take_in t1 H1 (owns_noVs hOw hno hmu) id fun h hm hn => ⟨hle h hm hn, hmu h hm hn, fun j hh hj hnn => by have := H.lt j hh hj hnn; have := hle h hm hn; omega⟩
  unfold exportV chkR at hr
  split at hr
  · rename_i hcl
    simp only [Option.some.injEq] at hr; subst hr
    by_cases htup : ∃ cs, v = .tup cs
    · obtain ⟨cs, rfl⟩ := htup
      obtain ⟨us, rfl, hus⟩ := VRs.of_tup hv
      obtain ⟨c', H3, t4, hv4⟩ := main hus hcl (by simpa [exportR, LV.noVs] using hn)
      exact ⟨c', H3, t4, .tup _ us hv4.len hv4.at_⟩
    · have hnt : ∀ cs, v ≠ .tup cs := fun cs e => htup ⟨cs, e⟩
      have hx : exportR sd.O v = (export1 sd.O v).1 := by cases v <;> first | rfl | exact absurd rfl (hnt _)
      rw [hx] at hcl hn ⊢
      have hnt2 : ∀ cs, (export1 sd.O v).1 ≠ .tup cs := by
        intro cs e
        cases v with
        | tup cs => exact hnt _ rfl
        | bs i o l => simp only [export1] at e; unfold expBs at e; split at e <;> (try split at e) <;> (try split at e) <;> cases e
        | mp i => simp only [export1] at e; unfold expMp at e; split at e <;> cases e
        | bb i o st l => simp only [export1, LV.cl] at e; unfold vsK at e; split at e <;> cases e
        | _ => cases e
      have hcc : LV.closedC (export1 sd.O v).1 = true := by
        cases hh : (export1 sd.O v).1 <;> rw [hh] at hcl <;> first | exact hcl | exact absurd hh (hnt2 _)
      obtain ⟨c', H3, t4, hv4⟩ := main (l := [v]) (us := [u]) (VRs.cons hv (VRs.nil d)) (by
        show LV.closedRs [(export1 sd.O v).1] = true
        simp [LV.closedRs, hcc]) (by
        show LV.noVss [(export1 sd.O v).1] = true
        simp [LV.noVss, hn])
      have himp : ∀ r : LV, (∀ cs, r ≠ .tup cs) → import_ id s r = import1 id s r := fun r hn => by cases r <;> first | rfl | exact absurd rfl (hn _)
      rw [himp _ hnt2]
      exact ⟨c', H3, t4, hv4.head⟩
  · cases hr

end
end Go.Zv
