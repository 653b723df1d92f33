/- The engine, part 5: what the values and states of the evaluation say of the machine's. -/
import Derived.Test.YtjmnepfdhkabfaaZvD
import Derived.Deep.MidRow
import Derived.AtR
namespace Go.Zv
set_option autoImplicit false

structure Home where
  blk : Nat
  off : Nat
  st : Nat
  cap : Nat
  nul : Bool
  ad : Option Addr
/-- nul: it owns no memory (no room either) -/
def Home.addr (h : Home) : Option Addr := if h.nul = true then h.ad else some ⟨h.blk, h.off, none⟩
/-- mu: cells that never change; io: where the objects lie -/
structure Cx where
  mu : Nat → Nat → Option Value
  io : Nat → Option Home

inductive VR (c : Cx) : LV → Value → Prop
  | any (v : Value) : VR c .any v
  | undef : VR c .undef undef
  | int (k : IntKind) (n : Int) : VR c (.int k n) (.int k n)
  | bool (b : Bool) : VR c (.bool b) (.bool b)
  | str (l : List UInt8) : VR c (.str l) (.string ⟨l.toArray⟩)
  | agg (cs : List LV) (vs : List Value) (hl : cs.length = vs.length) (h : ∀ (i : Nat) (x : LV) (v : Value), cs[i]? = some x → vs[i]? = some v → VR c x v) : VR c (.agg cs) (.agg vs.toArray)
  | tup (cs : List LV) (vs : List Value) (hl : cs.length = vs.length) (h : ∀ (i : Nat) (x : LV) (v : Value), cs[i]? = some x → vs[i]? = some v → VR c x v) : VR c (.tup cs) (.tuple vs.toArray)
  | vs0 (a : Option Addr) (cap : Nat) : VR c (.vs []) (.slice a 0 cap)
  | vs (xs : List (List LV)) (b o s cap : Nat) (val : Nat → Nat → Value) (hne : xs ≠ []) (hcap : xs.length ≤ cap)
      (hs : ∀ (i : Nat) (x : List LV), xs[i]? = some x → x.length = s ∧ LV.closeds x = true)
      (hm : ∀ (i : Nat) (x : List LV) (j : Nat) (y : LV), xs[i]? = some x → x[j]? = some y → c.mu b (o + i * s + j) = some (val i j))
      (ho : ∀ (i : Nat) (x : List LV) (j : Nat) (y : LV), xs[i]? = some x → x[j]? = some y → (val i j).oneCell' = true)
      (hv : ∀ (i : Nat) (x : List LV) (j : Nat) (y : LV), xs[i]? = some x → x[j]? = some y → VR c y (val i j)) : VR c (.vs xs) (.slice (some ⟨b, o, none⟩) xs.length cap)
  | nils (st : Nat) (a : Option Addr) : VR c (.nils st) (.slice a 0 0)
  | nul : VR c .nul (.slice none 0 0)
  | emp (a : Addr) (cap : Nat) : VR c .emp (.slice (some a) 0 cap)
  | bs (id off len : Nat) (h : Home) (a : Option Addr) (cap : Nat) (hcap : len ≤ cap) (hi : c.io id = some h) (h0 : off = 0 → a = h.addr ∧ cap = h.cap)
      (h1 : len ≠ 0 → h.nul = false ∧ a = some ⟨h.blk, h.off + off * h.st, none⟩) : VR c (.bs id off len) (.slice a len cap)
  | bb (id off st len : Nat) (h : Home) (a : Option Addr) (cap : Nat) (hcap : len ≤ cap) (hi : c.io id = some h) (h1 : len ≠ 0 → a = some ⟨h.blk, off, none⟩) : VR c (.bb id off st len) (.slice a len cap)
  | ptr (id off : Nat) (h : Home) (hi : c.io id = some h) : VR c (.ptr id off) (.pointer (some ⟨h.blk, off, none⟩))
  | ep (id i off : Nat) (h : Home) (hi : c.io id = some h) (hn : h.nul = false) : VR c (.ep id i off) (.pointer (some ⟨h.blk, h.off + i * h.st + off, none⟩))
  | fp (cs : List LV) (b o : Nat) (val : Nat → Value) (hcl : LV.closeds cs = true) (hm : ∀ (j : Nat) (y : LV), cs[j]? = some y → c.mu b (o + j) = some (val j))
      (ho : ∀ (j : Nat) (y : LV), cs[j]? = some y → (val j).oneCell' = true)
      (hv : ∀ (j : Nat) (y : LV), cs[j]? = some y → VR c y (val j)) : VR c (.fp cs) (.pointer (some ⟨b, o, none⟩))
  | nilp : VR c .nilp (.pointer none)
  | fn (f : Fn) (xs ys : List LV) (us vs : List Value) (hl : xs.length = us.length) (hl2 : ys.length = vs.length)
      (h : ∀ (i : Nat) (x : LV) (v : Value), xs[i]? = some x → us[i]? = some v → VR c x v)
      (h2 : ∀ (i : Nat) (x : LV) (v : Value), ys[i]? = some x → vs[i]? = some v → VR c x v) : VR c (.fn f xs ys) (.func f us.toArray vs.toArray)
  | nilf : VR c .nilf .nilFunc
  | mp (id : Nat) (h : Home) (hi : c.io id = some h) : VR c (.mp id) (.map (some h.blk))
  | nilm : VR c .nilm (.map none)
  | yl (id : Nat) (h : Home) (hi : c.io id = some h) : VR c (.yl id) (.func (.yield h.blk) #[] #[])

/-- value by value -/
structure VRs (c : Cx) (xs : List LV) (vs : List Value) : Prop where
  len : xs.length = vs.length
  at_ : ∀ (i : Nat) (x : LV) (v : Value), xs[i]? = some x → vs[i]? = some v → VR c x v

theorem VRs.nil (c : Cx) : VRs c [] [] := ⟨rfl, fun i x v h => by simp at h⟩
theorem VRs.cons {c : Cx} {x : LV} {v : Value} {xs : List LV} {vs : List Value} (h : VR c x v) (hs : VRs c xs vs) : VRs c (x :: xs) (v :: vs) :=
  ⟨by simp [hs.len], fun i y u hy hu => by
    cases i with
    | zero => simp at hy hu; subst hy; subst hu; exact h
    | succ i => simp at hy hu; exact hs.at_ i y u hy hu⟩
theorem VRs.tail {c : Cx} {x : LV} {v : Value} {xs : List LV} {vs : List Value} (h : VRs c (x :: xs) (v :: vs)) : VRs c xs vs :=
  ⟨by simpa using h.len, fun i y u hy hu => h.at_ (i + 1) y u (by simpa using hy) (by simpa using hu)⟩
theorem VRs.head {c : Cx} {x : LV} {v : Value} {xs : List LV} {vs : List Value} (h : VRs c (x :: xs) (v :: vs)) : VR c x v := h.at_ 0 x v rfl rfl
theorem VRs.append {c : Cx} {xs ys : List LV} {us vs : List Value} (h : VRs c xs us) (h2 : VRs c ys vs) : VRs c (xs ++ ys) (us ++ vs) := by
  induction xs generalizing us with
  | nil => cases us with
    | nil => exact h2
    | cons u us => have := h.len; simp at this
  | cons x xs ih => cases us with
    | nil => have := h.len; simp at this
    | cons u us => exact VRs.cons h.head (ih h.tail)
theorem VRs.getSome {c : Cx} {xs : List LV} {vs : List Value} (h : VRs c xs vs) {i : Nat} {x : LV} (hx : xs[i]? = some x) : ∃ v, vs[i]? = some v ∧ VR c x v := by
  have hi : i < xs.length := (List.getElem?_eq_some_iff.1 hx).1
  have hv : vs[i]? = some (vs[i]'(h.len ▸ hi)) := List.getElem?_eq_getElem _
  exact ⟨_, hv, h.at_ i x _ hx hv⟩
theorem VRs.drop {c : Cx} {xs : List LV} {vs : List Value} (h : VRs c xs vs) (n : Nat) : VRs c (xs.drop n) (vs.drop n) :=
  ⟨by simp [h.len], fun i x v hx hv => h.at_ (n + i) x v (by simpa using hx) (by simpa using hv)⟩
theorem VRs.take {c : Cx} {xs : List LV} {vs : List Value} (h : VRs c xs vs) (n : Nat) : VRs c (xs.take n) (vs.take n) :=
  ⟨by simp [h.len], fun i x v hx hv => by
    rw [List.getElem?_take] at hx hv
    split at hx
    · rename_i hlt; rw [if_pos hlt] at hv; exact h.at_ i x v hx hv
    · cases hx⟩

theorem VRs.of_agg {c : Cx} {cs : List LV} {v : Value} (h : VR c (.agg cs) v) : ∃ vs : List Value, v = .agg vs.toArray ∧ VRs c cs vs := by
  cases h with | agg _ vs hl h => exact ⟨vs, rfl, hl, h⟩
theorem VRs.of_tup {c : Cx} {cs : List LV} {v : Value} (h : VR c (.tup cs) v) : ∃ vs : List Value, v = .tuple vs.toArray ∧ VRs c cs vs := by
  cases h with | tup _ vs hl h => exact ⟨vs, rfl, hl, h⟩

theorem closeds_at : ∀ {cs : List LV} {i : Nat} {x : LV}, LV.closeds cs = true → cs[i]? = some x → LV.closed x = true
  | [], i, x, _, h => by simp at h
  | y :: l, 0, x, hc, h => by simp [LV.closeds] at hc h; subst h; exact hc.1
  | y :: l, i + 1, x, hc, h => by simp [LV.closeds] at hc h; exact closeds_at hc.2 h
theorem closeds_of : ∀ {cs : List LV}, (∀ (i : Nat) (x : LV), cs[i]? = some x → LV.closed x = true) → LV.closeds cs = true
  | [], _ => rfl
  | y :: l, h => by
    simp only [LV.closeds, Bool.and_eq_true]
    exact ⟨h 0 y rfl, closeds_of fun i x hx => h (i + 1) x (by simpa using hx)⟩

/-- what refers to no object stays true wherever the objects lie -/
theorem VR.closed {c c' : Cx} (hmu : ∀ b o v, c.mu b o = some v → c'.mu b o = some v) {x : LV} {v : Value} (h : VR c x v) : LV.closed x = true → VR c' x v := by
  induction h with
  | any v => exact fun _ => .any v
  | undef => exact fun _ => .undef
  | int k n => exact fun _ => .int k n
  | bool b => exact fun _ => .bool b
  | str l => exact fun _ => .str l
  | agg cs vs hl h ih => exact fun hc => .agg cs vs hl fun i x v hx hv => ih i x v hx hv (closeds_at (by simpa [LV.closed] using hc) hx)
  | tup cs vs hl h ih => exact fun hc => .tup cs vs hl fun i x v hx hv => ih i x v hx hv (closeds_at (by simpa [LV.closed] using hc) hx)
  | vs0 a cap => exact fun _ => .vs0 a cap
  | vs xs b o s cap val hne hcap hs hm ho hv ih => exact fun _ => .vs xs b o s cap val hne hcap hs (fun i x j y hx hy => hmu _ _ _ (hm i x j y hx hy)) ho (fun i x j y hx hy => ih i x j y hx hy (closeds_at (hs i x hx).2 hy))
  | nils st a => exact fun hc => by simp [LV.closed] at hc
  | nul => exact fun _ => .nul
  | emp a cap => exact fun _ => .emp a cap
  | bs => exact fun hc => by simp [LV.closed] at hc
  | bb => exact fun hc => by simp [LV.closed] at hc
  | ptr => exact fun hc => by simp [LV.closed] at hc
  | ep => exact fun hc => by simp [LV.closed] at hc
  | fp cs b o val hcl hm ho hv ih => exact fun _ => .fp cs b o val hcl (fun j y hy => hmu _ _ _ (hm j y hy)) ho (fun j y hy => ih j y hy (closeds_at hcl hy))
  | nilp => exact fun _ => .nilp
  | fn f xs ys us vs hl hl2 h h2 ih ih2 =>
    intro hc
    simp only [LV.closed, Bool.and_eq_true] at hc
    exact .fn f xs ys us vs hl hl2 (fun i x v hx hv => ih i x v hx hv (closeds_at hc.1 hx)) (fun i x v hx hv => ih2 i x v hx hv (closeds_at hc.2 hx))
  | nilf => exact fun _ => .nilf
  | mp => exact fun hc => by simp [LV.closed] at hc
  | nilm => exact fun _ => .nilm
  | yl => exact fun hc => by simp [LV.closed] at hc

theorem subs_get (r : Rep) (id : Nat) : ∀ (l : List LV) (i : Nat), (LV.subs r id l)[i]? = (l[i]?).map (LV.sub r id)
  | [], i => by simp [LV.subs]
  | v :: l, 0 => by simp [LV.subs]
  | v :: l, i + 1 => by simp [LV.subs, subs_get r id l i]
theorem subs_length (r : Rep) (id : Nat) : ∀ (l : List LV), (LV.subs r id l).length = l.length
  | [] => rfl
  | v :: l => by simp [LV.subs, subs_length r id l]

/-- the object goes, or moves: what it leaves behind is frozen -/
structure Goes_ (c c' : Cx) (id : Nat) (r : Rep) : Prop where
  mu : ∀ b o v, c.mu b o = some v → c'.mu b o = some v
  io : ∀ j h, j ≠ id → c.io j = some h → c'.io j = some h
  frz : ∀ xs, r = .frz xs → ∀ h, c.io id = some h → h.nul = false → ∃ val : Nat → Nat → Value,
    (∀ (i : Nat) (x : List LV), xs[i]? = some x → x.length = h.st ∧ LV.closeds x = true) ∧
    (∀ (i : Nat) (x : List LV) (j : Nat) (y : LV), xs[i]? = some x → x[j]? = some y → c'.mu h.blk (h.off + i * h.st + j) = some (val i j) ∧ (val i j).oneCell' = true ∧ VR c' y (val i j))

theorem VR.sub {c c' : Cx} {id : Nat} {r : Rep} (g : Goes_ c c' id r) {x : LV} {v : Value} (h : VR c x v) : VR c' (LV.sub r id x) v := by
  induction h with
  | any v => exact .any v
  | undef => exact .undef
  | int k n => exact .int k n
  | bool b => exact .bool b
  | str l => exact .str l
  | agg cs vs hl h ih =>
    simp only [LV.sub]
    refine .agg _ vs (by rw [subs_length, hl]) fun i x v hx hv => ?_
    rw [subs_get] at hx
    obtain ⟨y, hy, rfl⟩ := Option.map_eq_some_iff.1 hx
    exact ih i y v hy hv
  | tup cs vs hl h ih =>
    simp only [LV.sub]
    refine .tup _ vs (by rw [subs_length, hl]) fun i x v hx hv => ?_
    rw [subs_get] at hx
    obtain ⟨y, hy, rfl⟩ := Option.map_eq_some_iff.1 hx
    exact ih i y v hy hv
  | vs0 a cap => exact .vs0 a cap
  | vs xs b o s cap val hne hcap hs hm ho hv ih =>
    exact .vs xs b o s cap val hne hcap hs (fun i x j y hx hy => g.mu _ _ _ (hm i x j y hx hy)) ho (fun i x j y hx hy => (hv i x j y hx hy).closed g.mu (closeds_at (hs i x hx).2 hy))
  | nils st a => exact .nils st a
  | nul => exact .nul
  | emp a cap => exact .emp a cap
  | bs i off len h a cap hcap hi h0 h1 =>
    simp only [LV.sub]
    split
    · rename_i e; subst e
      cases r with
      | kill => exact .any _
      | frz xs =>
        simp only [Rep.bs]
        split
        · rename_i hle
          have hlen : (List.take len (List.drop off xs)).length = len := by simp; omega
          by_cases hz : len = 0
          · subst hz; simp only [List.take_zero]; exact .vs0 a cap
          · obtain ⟨hn, ha⟩ := h1 hz
            obtain ⟨val, hs, hm⟩ := g.frz xs rfl h hi hn
            subst ha
            have hget : ∀ (k : Nat) (x : List LV), (List.take len (List.drop off xs))[k]? = some x → xs[off + k]? = some x := by
              intro k x hx
              rw [List.getElem?_take] at hx
              split at hx
              · simpa using hx
              · cases hx
            have := VR.vs (c := c') (List.take len (List.drop off xs)) h.blk (h.off + off * h.st) h.st cap (fun k j => val (off + k) j)
              (by intro e; rw [e] at hlen; simp at hlen; omega) (by rw [hlen]; exact hcap)
              (fun k x hx => hs _ _ (hget k x hx))
              (fun k x j y hx hy => by
                have := (hm _ _ j y (hget k x hx) hy).1
                rw [show h.off + off * h.st + k * h.st + j = h.off + (off + k) * h.st + j by rw [Nat.add_mul]; omega]
                exact this)
              (fun k x j y hx hy => (hm _ _ j y (hget k x hx) hy).2.1)
              (fun k x j y hx hy => (hm _ _ j y (hget k x hx) hy).2.2)
            rwa [hlen] at this
        · exact .any _
    · rename_i e; exact .bs i off len h a cap hcap (g.io i h e hi) h0 h1
  | bb i off st len h a cap hcap hi h1 =>
    simp only [LV.sub]
    split
    · exact .any _
    · rename_i e; exact .bb i off st len h a cap hcap (g.io i h e hi) h1
  | ptr i off h hi =>
    simp only [LV.sub]
    split
    · exact .any _
    · rename_i e; exact .ptr i off h (g.io i h e hi)
  | ep i j off h hi hn =>
    simp only [LV.sub]
    split
    · rename_i e; subst e
      cases r with
      | kill => exact .any _
      | frz xs =>
        simp only [Rep.ep]
        cases hx : xs[j]? with
        | none => exact .any _
        | some x =>
          obtain ⟨val, hs, hm⟩ := g.frz xs rfl h hi hn
          simp only [fpAt]
          refine .fp _ _ _ (fun k => val j (off + k)) ?_ ?_ ?_ ?_
          · exact closeds_of fun k y hy => closeds_at (hs j x hx).2 (i := off + k) (by simpa using hy)
          · intro k y hy
            have := (hm j x (off + k) y hx (by simpa using hy)).1
            rwa [← Nat.add_assoc] at this
          · intro k y hy
            exact (hm j x (off + k) y hx (by simpa using hy)).2.1
          · intro k y hy
            exact (hm j x (off + k) y hx (by simpa using hy)).2.2
    · rename_i e; exact .ep i j off h (g.io i h e hi) hn
  | fp cs b o val hcl hm ho hv ih =>
    exact .fp cs b o val hcl (fun j y hy => g.mu _ _ _ (hm j y hy)) ho (fun j y hy => (hv j y hy).closed g.mu (closeds_at hcl hy))
  | nilp => exact .nilp
  | fn f xs ys us vs hl hl2 h h2 ih ih2 =>
    simp only [LV.sub]
    refine .fn f _ _ us vs (by rw [subs_length, hl]) (by rw [subs_length, hl2]) (fun i x v hx hv => ?_) (fun i x v hx hv => ?_)
    · rw [subs_get] at hx
      obtain ⟨y, hy, rfl⟩ := Option.map_eq_some_iff.1 hx
      exact ih i y v hy hv
    · rw [subs_get] at hx
      obtain ⟨y, hy, rfl⟩ := Option.map_eq_some_iff.1 hx
      exact ih2 i y v hy hv
  | nilf => exact .nilf
  | mp i h hi =>
    simp only [LV.sub]
    split
    · exact .any _
    · rename_i e; exact .mp i h (g.io i h e hi)
  | nilm => exact .nilm
  | yl i h hi =>
    simp only [LV.sub]
    split
    · exact .any _
    · rename_i e; exact .yl i h (g.io i h e hi)

theorem VR.mono {c c' : Cx} (hmu : ∀ b o v, c.mu b o = some v → c'.mu b o = some v) (hio : ∀ j h, c.io j = some h → c'.io j = some h) {x : LV} {v : Value} (h : VR c x v) : VR c' x v := by
  induction h with
  | any v => exact .any v
  | undef => exact .undef
  | int k n => exact .int k n
  | bool b => exact .bool b
  | str l => exact .str l
  | agg cs vs hl h ih => exact .agg cs vs hl ih
  | tup cs vs hl h ih => exact .tup cs vs hl ih
  | vs0 a cap => exact .vs0 a cap
  | vs xs b o s cap val hne hcap hs hm ho hv ih => exact .vs xs b o s cap val hne hcap hs (fun i x j y hx hy => hmu _ _ _ (hm i x j y hx hy)) ho ih
  | nils st a => exact .nils st a
  | nul => exact .nul
  | emp a cap => exact .emp a cap
  | bs id off len h a cap hcap hi h0 h1 => exact .bs id off len h a cap hcap (hio _ _ hi) h0 h1
  | bb id off st len h a cap hcap hi h1 => exact .bb id off st len h a cap hcap (hio _ _ hi) h1
  | ptr id off h hi => exact .ptr id off h (hio _ _ hi)
  | ep id i off h hi hn => exact .ep id i off h (hio _ _ hi) hn
  | fp cs b o val hcl hm ho hv ih => exact .fp cs b o val hcl (fun j y hy => hmu _ _ _ (hm j y hy)) ho ih
  | nilp => exact .nilp
  | fn f xs ys us vs hl hl2 h h2 ih ih2 => exact .fn f xs ys us vs hl hl2 ih ih2
  | nilf => exact .nilf
  | mp id h hi => exact .mp id h (hio _ _ hi)
  | nilm => exact .nilm
  | yl id h hi => exact .yl id h (hio _ _ hi)

theorem VR.one {c : Cx} {x : LV} {v : Value} (h : VR c x v) (h1 : LV.one x = true) : v.oneCell' = true := by
  cases h <;> first | rfl | (simp [LV.one] at h1)

def TR (c : Cx) (T : Env) (tmps : Array Value) : Prop := ∀ t, VR c (tget T t) (tmps.getD t undef)
theorem TR.mono {c c' : Cx} (hmu : ∀ b o v, c.mu b o = some v → c'.mu b o = some v) (hio : ∀ j h, c.io j = some h → c'.io j = some h) {T : Env} {tmps : Array Value} (h : TR c T tmps) : TR c' T tmps :=
  fun t => (h t).mono hmu hio
theorem esub_get (r : Rep) (id : Nat) : ∀ (T : Env) (t : Nat), tget (Env.sub r id T) t = LV.sub r id (tget T t)
  | [], t => by simp [Env.sub, tget, LV.sub]
  | (k, v) :: T, t => by
    simp only [Env.sub, tget]
    split
    · rfl
    · exact esub_get r id T t
theorem TR.sub {c c' : Cx} {id : Nat} {r : Rep} (g : Goes_ c c' id r) {T : Env} {tmps : Array Value} (h : TR c T tmps) : TR c' (Env.sub r id T) tmps :=
  fun t => by rw [esub_get]; exact (h t).sub g
theorem TR.put {c : Cx} {T : Env} {tmps : Array Value} (h : TR c T tmps) {d : Nat} {x : LV} {v : Value} (hd : d < tmps.size) (hv : VR c x v) : TR c ((d, x) :: T) (tmps.setIfInBounds d v) := by
  intro t
  simp only [tget]
  split
  · rename_i e; subst e; simpa [Array.getD, hd] using hv
  · rename_i e
    have := h t
    simp only [Array.getD_eq_getD_getElem?] at this ⊢
    rwa [Array.getElem?_setIfInBounds_ne e]

/-- an object, as it lies in the world -/
inductive OR (P : Program) (c : Cx) (w : World) (h : Home) : Obj → Prop
  | box (cs : List LV) (vals : List Value) (hn : h.nul = false) (hv : VRs c cs vals) (hc : ∀ i v, vals[i]? = some v → w.cell? ⟨h.blk, i, none⟩ = some v ∧ w.frozen? ⟨h.blk, i, none⟩ = false ∧ v.oneCell' = true)
      (hm : ∀ o, c.mu h.blk o = none) : OR P c w h (.box cs)
  | row (xs : List (List LV)) (val : Nat → Nat → Value) (hs : ∀ (i : Nat) (x : List LV), xs[i]? = some x → x.length = h.st ∧ LV.closeds x = true)
      (hv : ∀ (i : Nat) (x : List LV) (j : Nat) (y : LV), xs[i]? = some x → x[j]? = some y → w.cell? ⟨h.blk, h.off + i * h.st + j, none⟩ = some (val i j) ∧ (val i j).oneCell' = true ∧ VR c y (val i j))
      (hl : xs.length ≤ h.cap) (h0 : h.nul = true → h.cap = 0) (hsp : h.nul = false → ∀ k, k < h.cap * h.st → (w.cell? ⟨h.blk, h.off + k, none⟩).isSome = true ∧ w.frozen? ⟨h.blk, h.off + k, none⟩ = false)
      (hm : h.nul = false → ∀ o, c.mu h.blk o = none) : OR P c w h (.row h.st xs)
  | map (es : List (LV × LV)) (en : Array MapEntry) (clock : Nat) (hn : h.nul = false) (hw : w.heap[h.blk]? = some (.map en clock)) (hl : es.length = en.size)
      (hv : ∀ (i : Nat) (e : LV × LV) (m : MapEntry), es[i]? = some e → en[i]? = some m → VR c e.1 m.key ∧ VR c e.2 m.val ∧ LV.closed e.1 = true ∧ LV.closed e.2 = true)
      (hm : ∀ o, c.mu h.blk o = none) : OR P c w h (.map es)
  | loop (T : Env) (ps : List Nat) (asg body : ACode) (st : LSt) (pend : AEx) (L : Loop) (N : Nat) (hn : h.nul = false) (hw : w.heap[h.blk]? = some (.loop L))
      (hT : TR c T L.tmps) (hN : N ≤ L.tmps.size) (hp : L.params.toList = ps) (hps : ∀ d ∈ ps, d < N) (ha : toCode P N L.assign = some (strip asg)) (hb : toCode P N L.body = some (strip body))
      (hst : L.state = match st with | .ready => .ready | .busy => .busy | .done => .done)
      (hpe : st ≠ .busy → L.pending = match pend with | .nrm => none | .exit id => some (.exit id) | .ret => some .ret)
      (hm : ∀ o, c.mu h.blk o = none) : OR P c w h (.loop T ps asg body st pend)

structure SR (P : Program) (c : Cx) (s : St) (tmps : Array Value) (Ts : List (Array Value)) (w : World) : Prop where
  T : TR c s.T tmps
  Fl : s.F.length = Ts.length
  F : ∀ (i : Nat) (F : Env) (t : Array Value), s.F[i]? = some F → Ts[i]? = some t → TR c F t
  O : ∀ id o, oget s.O id = some o → ∃ h, c.io id = some h ∧ OR P c w h o
  dom : ∀ id h, c.io id = some h → ∃ o, oget s.O id = some o
  inj : ∀ i j h h', i ≠ j → c.io i = some h → c.io j = some h' → h.nul = false → h'.nul = false → h.blk ≠ h'.blk
  mu : ∀ b o v, c.mu b o = some v → w.cell? ⟨b, o, none⟩ = some v
  lt : ∀ id h, c.io id = some h → h.nul = false → h.blk < w.heap.size

/-- from one world to a later one: what belongs to nobody here stays -/
structure Tr (c : Cx) (w : World) (c' : Cx) (w' : World) : Prop where
  size : w.heap.size ≤ w'.heap.size
  keep : ∀ b, b < w.heap.size → (∀ id h, c.io id = some h → h.nul = false → h.blk ≠ b) → w'.heap[b]? = w.heap[b]?
  mu : ∀ b o v, c.mu b o = some v → c'.mu b o = some v
  io : ∀ id h, c'.io id = some h → h.nul = false → (∃ id0 h0, c.io id0 = some h0 ∧ h0.nul = false ∧ h0.blk = h.blk) ∨ w.heap.size ≤ h.blk
  frz : ∀ a, w'.frozen? a = w.frozen? a
  env : w'.os = w.os ∧ w'.output = w.output
  muN : ∀ b o v, c'.mu b o = some v → c.mu b o = some v ∨ (∃ id h, c.io id = some h ∧ h.nul = false ∧ h.blk = b) ∨ w.heap.size ≤ b
  loop : ∀ (b : Nat) (r : Loop), w.heap[b]? = some (Go.Obj.loop r) → ∃ r', w'.heap[b]? = some (Go.Obj.loop r')
theorem Tr.refl (c : Cx) (w : World) : Tr c w c w := ⟨Nat.le_refl _, fun _ _ _ => rfl, fun _ _ _ h => h, fun id h hi hn => .inl ⟨id, h, hi, hn, rfl⟩, fun _ => rfl, ⟨rfl, rfl⟩, fun _ _ _ h => .inl h, fun _ r h => ⟨r, h⟩⟩
theorem Tr.trans {c c' c'' : Cx} {w w' w'' : World} (h : Tr c w c' w') (k : Tr c' w' c'' w'') : Tr c w c'' w'' :=
  ⟨Nat.le_trans h.size k.size, fun b hb hf => by
    rw [k.keep b (Nat.lt_of_lt_of_le hb h.size) fun id hh hi hn e => by
      rcases h.io id hh hi hn with ⟨id0, h0, hi0, hn0, e0⟩ | hle
      · exact hf id0 h0 hi0 hn0 (e0.trans e)
      · omega, h.keep b hb hf],
   fun b o v hv => k.mu b o v (h.mu b o v hv), fun id hh hi hn => by
    rcases k.io id hh hi hn with ⟨id0, h0, hi0, hn0, e0⟩ | hle
    · rcases h.io id0 h0 hi0 hn0 with ⟨id1, h1, hi1, hn1, e1⟩ | hle
      · exact .inl ⟨id1, h1, hi1, hn1, e1.trans e0⟩
      · exact .inr (by omega)
    · exact .inr (Nat.le_trans h.size hle), fun a => (k.frz a).trans (h.frz a), ⟨k.env.1.trans h.env.1, k.env.2.trans h.env.2⟩, fun b o v hv => by
    rcases k.muN b o v hv with h1 | ⟨id, hh, hi, hn, e⟩ | hle
    · exact h.muN b o v h1
    · rcases h.io id hh hi hn with ⟨id0, h0, hi0, hn0, e0⟩ | hle
      · exact .inr (.inl ⟨id0, h0, hi0, hn0, e0.trans e⟩)
      · exact .inr (.inr (by omega))
    · exact .inr (.inr (Nat.le_trans h.size hle)), fun b r hb => by obtain ⟨r', hb'⟩ := h.loop b r hb; exact k.loop b r' hb'⟩

theorem cell_of_heap {w w' : World} {b : Nat} (h : w'.heap[b]? = w.heap[b]?) (o : Nat) : w'.cell? ⟨b, o, none⟩ = w.cell? ⟨b, o, none⟩ := by simp only [World.cell?, h]
theorem frozen_of_heap {w w' : World} {b : Nat} (h : w'.heap[b]? = w.heap[b]?) (o : Nat) : w'.frozen? ⟨b, o, none⟩ = w.frozen? ⟨b, o, none⟩ := by simp only [World.frozen?, h]
theorem lt_of_cell {w : World} {b o : Nat} {v : Value} (h : w.cell? ⟨b, o, none⟩ = some v) : b < w.heap.size := by
  unfold World.cell? at h
  cases hb : w.heap[b]? with
  | none => simp [hb] at h
  | some x => exact (Array.getElem?_eq_some_iff.1 hb).1

/-- an object stays what it is while its block stays, and what it refers to -/
theorem OR.mono {P : Program} {c c' : Cx} {w w' : World} {h : Home} {o : Obj} (hmu : ∀ b o v, c.mu b o = some v → c'.mu b o = some v) (hio : ∀ j h, c.io j = some h → c'.io j = some h)
    (hb : h.nul = false → w'.heap[h.blk]? = w.heap[h.blk]?) (hn : h.nul = false → ∀ o, c'.mu h.blk o = none) (H : OR P c w h o) : OR P c' w' h o := by
  cases H with
  | box cs vals hn' hv hc hm =>
    exact .box cs vals hn' ⟨hv.len, fun i x v hx hv' => (hv.at_ i x v hx hv').mono hmu hio⟩ (fun i v hi => by rw [cell_of_heap (hb hn'), frozen_of_heap (hb hn')]; exact hc i v hi) (hn hn')
  | row xs val hs hv hl h0 hsp hm =>
    refine .row xs val hs (fun i x j y hx hy => ?_) hl h0 (fun hf k hk => ?_) hn
    · have hf : h.nul = false := by
        cases hnn : h.nul with
        | false => rfl
        | true => have := h0 hnn; have := (List.getElem?_eq_some_iff.1 hx).1; omega
      obtain ⟨h1, h2, h3⟩ := hv i x j y hx hy
      exact ⟨by rw [cell_of_heap (hb hf)]; exact h1, h2, h3.mono hmu hio⟩
    · rw [cell_of_heap (hb hf), frozen_of_heap (hb hf)]; exact hsp hf k hk
  | map es en clock hn' hw hl hv hm =>
    exact .map es en clock hn' ((hb hn').trans hw) hl (fun i e m he hm' => by obtain ⟨a, b, c1, d⟩ := hv i e m he hm'; exact ⟨a.mono hmu hio, b.mono hmu hio, c1, d⟩) (hn hn')
  | loop T ps asg body st pend L N hn' hw hT hN hp hps ha hb' hst hpe hm =>
    exact .loop T ps asg body st pend L N hn' ((hb hn').trans hw) (hT.mono hmu hio) hN hp hps ha hb' hst hpe (hn hn')

/-- the references to one object are replaced: the same object, told of the others -/
theorem OR.sub {P : Program} {c c' : Cx} {w : World} {id : Nat} {r : Rep} (g : Goes_ c c' id r) {h : Home} {o : Obj} (hn : h.nul = false → ∀ o, c'.mu h.blk o = none) (H : OR P c w h o) : OR P c' w h (Obj.sub r id o) := by
  cases H with
  | box cs vals hn' hv hc hm =>
    exact .box _ vals hn' ⟨by rw [subs_length, hv.len], fun i x v hx hv' => by
      rw [subs_get] at hx
      obtain ⟨y, hy, rfl⟩ := Option.map_eq_some_iff.1 hx
      exact (hv.at_ i y v hy hv').sub g⟩ hc (hn hn')
  | row xs val hs hv hl h0 hsp hm =>
    exact .row xs val hs (fun i x j y hx hy => by
      obtain ⟨h1, h2, h3⟩ := hv i x j y hx hy
      exact ⟨h1, h2, h3.closed g.mu (closeds_at (hs i x hx).2 hy)⟩) hl h0 hsp hn
  | map es en clock hn' hw hl hv hm =>
    exact .map es en clock hn' hw hl (fun i e m he hm' => by obtain ⟨a, b, c1, d⟩ := hv i e m he hm'; exact ⟨a.closed g.mu c1, b.closed g.mu d, c1, d⟩) (hn hn')
  | loop T ps asg body st pend L N hn' hw hT hN hp hps ha hb' hst hpe hm =>
    exact .loop _ ps asg body st pend L N hn' hw (hT.sub g) hN hp hps ha hb' hst hpe (hn hn')

theorem oget_odel (id j : Nat) : ∀ O : Heap, oget (odel O id) j = if j = id then none else oget O j
  | [] => by simp [odel, oget]
  | (k, v) :: l => by
    simp only [odel]
    split
    · rename_i e; subst e
      rw [oget_odel k j l]
      split
      · rfl
      · rename_i hne; simp [oget, Ne.symm hne]
    · rename_i e
      simp only [oget]
      rw [oget_odel id j l]
      by_cases h1 : k = j
      · subst h1; simp [e]
      · simp [h1]
theorem oget_hsub (r : Rep) (id j : Nat) : ∀ O : Heap, oget (Heap.sub r id O) j = (oget O j).map (Obj.sub r id)
  | [] => by simp [Heap.sub, oget]
  | (k, v) :: l => by
    simp only [Heap.sub, oget]
    split
    · rfl
    · exact oget_hsub r id j l
theorem oget_oset (id j : Nat) (o : Obj) : ∀ O : Heap, oget (oset O id o) j = if j = id then (oget O id).map (fun _ => o) else oget O j
  | [] => by simp [oset, oget]
  | (k, v) :: l => by
    simp only [oset]
    by_cases h1 : k = id
    · subst h1
      simp only [if_true, oget]
      by_cases h2 : j = k
      · subst h2; simp
      · simp [h2, Ne.symm h2]
    · rw [if_neg h1]
      simp only [oget]
      rw [oget_oset id j o l]
      by_cases h2 : j = id
      · subst h2; simp [h1]
      · simp [h2]
theorem essub_get (r : Rep) (id : Nat) : ∀ (F : List Env) (i : Nat), (Envs.sub r id F)[i]? = (F[i]?).map (Env.sub r id)
  | [], i => by simp [Envs.sub]
  | v :: l, 0 => by simp [Envs.sub]
  | v :: l, i + 1 => by simp [Envs.sub, essub_get r id l i]
theorem essub_length (r : Rep) (id : Nat) : ∀ (F : List Env), (Envs.sub r id F).length = F.length
  | [] => rfl
  | v :: l => by simp [Envs.sub, essub_length r id l]

/-- an object goes -/
theorem SR.free {P : Program} {c : Cx} {s : St} {tmps : Array Value} {Ts : List (Array Value)} {w : World} (H : SR P c s tmps Ts w) (id : Nat) :
    ∃ c', SR P c' (St.free id s) tmps Ts w ∧ Tr c w c' w ∧ c'.io id = none ∧ (∀ j, j ≠ id → c'.io j = c.io j) ∧ (∀ h, c.io id = some h → h.nul = false → ∀ x, c'.mu h.blk x = w.cell? ⟨h.blk, x, none⟩) := by
  unfold St.free
  cases ho : oget s.O id with
  | none =>
    have hnone : c.io id = none := by
      cases hi : c.io id with
      | none => rfl
      | some h => obtain ⟨o, e⟩ := H.dom id h hi; rw [ho] at e; cases e
    exact ⟨c, H, Tr.refl _ _, hnone, fun _ _ => rfl, fun h hi => by rw [hnone] at hi; cases hi⟩
  | some o =>
    obtain ⟨h, hi, hor⟩ := H.O id o ho
    let c' : Cx := ⟨fun b o => if h.nul = false ∧ b = h.blk then w.cell? ⟨b, o, none⟩ else c.mu b o, fun j => if j = id then none else c.io j⟩
    have hmnone : h.nul = false → ∀ o, c.mu h.blk o = none := fun hn => by
      cases hor with
      | box _ _ _ _ _ hm => exact hm
      | row _ _ _ _ _ _ _ hm => exact hm hn
      | map _ _ _ _ _ _ _ hm => exact hm
      | loop _ _ _ _ _ _ _ _ _ _ _ _ _ _ _ _ _ _ hm => exact hm
    have hmu : ∀ b o v, c.mu b o = some v → c'.mu b o = some v := fun b o v hv => by
      by_cases e : h.nul = false ∧ b = h.blk
      · obtain ⟨e1, e2⟩ := e; subst e2; rw [hmnone e1] at hv; cases hv
      · simp only [c', if_neg e]; exact hv
    have hio : ∀ j hh, j ≠ id → c.io j = some hh → c'.io j = some hh := fun j hh hj hh' => by simp only [c', if_neg hj]; exact hh'
    have g : Goes_ c c' id (repOf o) := ⟨hmu, hio, fun xs hx h2 hi2 hn2 => by
      rw [hi] at hi2; cases hi2
      cases hor with
      | row ys val hs hv hl h0 hsp hm =>
        simp only [repOf] at hx; cases hx
        refine ⟨val, hs, fun i x j y hx hy => ?_⟩
        obtain ⟨h1, h2, h3⟩ := hv i x j y hx hy
        refine ⟨?_, h2, h3.closed hmu (closeds_at (hs i x hx).2 hy)⟩
        simp only [c', hn2, true_and, if_true]; exact h1
      | box => simp [repOf] at hx
      | map => simp [repOf] at hx
      | loop => simp [repOf] at hx⟩
    have hne : ∀ j hh, j ≠ id → c.io j = some hh → hh.nul = false → ∀ o, c.mu hh.blk o = none → c'.mu hh.blk o = none := fun j hh hj hh' hn o hm => by
      simp only [c']
      rw [if_neg]
      · exact hm
      · rintro ⟨e1, e2⟩
        exact H.inj j id hh h hj hh' hi hn e1 e2
    refine ⟨c', ?_, ?_, by simp [c'], fun j hj => by simp [c', hj], fun h2 hi2 hn2 x => by rw [hi] at hi2; cases hi2; simp [c', hn2]⟩
    · refine ⟨H.T.sub g, by simp only [freeO, St.sub, essub_length]; exact H.Fl, fun i F t hF ht => ?_, fun j oo hj => ?_, fun j hh hj => ?_, fun i j h1 h2 hij hi1 hi2 => ?_, fun b o v hv => ?_, fun j hh hj hn => ?_⟩
      · simp only [freeO, St.sub, essub_get] at hF
        obtain ⟨F0, hF0, rfl⟩ := Option.map_eq_some_iff.1 hF
        exact (H.F i F0 t hF0 ht).sub g
      · simp only [freeO, St.sub, oget_hsub, oget_odel] at hj
        obtain ⟨o0, ho0, rfl⟩ := Option.map_eq_some_iff.1 hj
        split at ho0
        · cases ho0
        · rename_i hjne
          obtain ⟨hh, hhi, hhor⟩ := H.O j o0 ho0
          refine ⟨hh, hio j hh hjne hhi, hhor.sub g fun hn o => hne j hh hjne hhi hn o ?_⟩
          cases hhor with
          | box _ _ _ _ _ hm => exact hm o
          | row _ _ _ _ _ _ _ hm => exact hm hn o
          | map _ _ _ _ _ _ _ hm => exact hm o
          | loop _ _ _ _ _ _ _ _ _ _ _ _ _ _ _ _ _ _ hm => exact hm o
      · by_cases hjne : j = id
        · subst hjne; simp [c'] at hj
        · simp only [c', if_neg hjne] at hj
          obtain ⟨o0, ho0⟩ := H.dom j hh hj
          exact ⟨Obj.sub (repOf o) id o0, by simp only [freeO, St.sub, oget_hsub, oget_odel, if_neg hjne, ho0, Option.map_some]⟩
      · by_cases h1e : i = id
        · subst h1e; simp [c'] at hi1
        · by_cases h2e : j = id
          · subst h2e; simp [c'] at hi2
          · simp only [c', if_neg h1e] at hi1
            simp only [c', if_neg h2e] at hi2
            exact H.inj i j h1 h2 hij hi1 hi2
      · by_cases e : h.nul = false ∧ b = h.blk
        · simp only [c', if_pos e] at hv; exact hv
        · simp only [c', if_neg e] at hv; exact H.mu b o v hv
      · by_cases hjne : j = id
        · subst hjne; simp [c'] at hj
        · simp only [c', if_neg hjne] at hj
          exact H.lt j hh hj hn
    · exact ⟨Nat.le_refl _, fun _ _ _ => rfl, hmu, fun j hh hj hn => by
        by_cases hjne : j = id
        · subst hjne; simp [c'] at hj
        · simp only [c', if_neg hjne] at hj
          exact .inl ⟨j, hh, hj, hn, rfl⟩, fun _ => rfl, ⟨rfl, rfl⟩, fun b o v hv => by
        by_cases e : h.nul = false ∧ b = h.blk
        · exact .inr (.inl ⟨id, h, hi, e.1, e.2.symm⟩)
        · simp only [c', if_neg e] at hv; exact .inl hv, fun _ r h => ⟨r, h⟩⟩

theorem SR.frees {P : Program} {tmps : Array Value} {Ts : List (Array Value)} {w : World} : ∀ (ids : List Nat) {c : Cx} {s : St}, SR P c s tmps Ts w →
    ∃ c', SR P c' (St.frees ids s) tmps Ts w ∧ Tr c w c' w ∧ (∀ j hh, c'.io j = some hh → c.io j = some hh) ∧ (∀ j, j ∉ ids → c'.io j = c.io j) ∧
      (∀ id ∈ ids, ∀ h, c.io id = some h → h.nul = false → ∀ x v, w.cell? ⟨h.blk, x, none⟩ = some v → c'.mu h.blk x = some v)
  | [], c, s, H => ⟨c, H, Tr.refl _ _, fun _ _ h => h, fun _ _ => rfl, by simp⟩
  | i :: l, c, s, H => by
    obtain ⟨c1, H1, t1, hn1, hio1, hcov1⟩ := H.free i
    obtain ⟨c2, H2, t2, hio2, hio2', hcov2⟩ := SR.frees l H1
    refine ⟨c2, H2, t1.trans t2, fun j hh hj => ?_, fun j hj => ?_, fun id hid h hi hn x v hv => ?_⟩
    · have := hio2 j hh hj
      by_cases e : j = i
      · subst e; rw [hn1] at this; cases this
      · rwa [hio1 j e] at this
    · simp only [List.mem_cons, not_or] at hj
      rw [hio2' j hj.2, hio1 j hj.1]
    · by_cases e : id = i
      · subst e; exact t2.mu _ _ _ (by rw [hcov1 h hi hn x]; exact hv)
      · cases hid with
        | head => exact absurd rfl e
        | tail _ hid => exact hcov2 id hid h (by rw [hio1 id e]; exact hi) hn x v hv
end Go.Zv
