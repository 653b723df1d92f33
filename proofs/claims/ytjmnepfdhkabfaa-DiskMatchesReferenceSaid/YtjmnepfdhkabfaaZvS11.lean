/- The engine, part 16: slices grow; copy. -/
import Derived.Test.YtjmnepfdhkabfaaZvS10
namespace Go.Zv
set_option autoImplicit false
set_option linter.unusedVariables false
set_option linter.unusedSimpArgs false
section
variable {P : Program} {c : Cx} {w : World} {s : St} {tmps : Array Value} {Ts : List (Array Value)}

theorem growBy_le (n : Nat) : ∀ (r c : Nat), c ≤ 2 * n + 768 → Builtin.growBy n r c ≤ 2 * n + 768
  | 0, c, h => by simpa [Builtin.growBy] using h
  | r + 1, c, h => by
    simp only [Builtin.growBy]
    split
    · exact h
    · exact growBy_le n r _ (by omega)
theorem nextcap_le {n c : Nat} (h : c < n) : Builtin.nextslicecap n c ≤ 2 * n + 768 := by
  unfold Builtin.nextslicecap
  split
  · omega
  · split
    · omega
    · exact growBy_le n 4 c (by omega)

/-- what the elements of a slice are, read by the machine -/
theorem lies_first {st : Nat} {xs : List (List LV)} {u : Value} (h : Lies c w st xs u) (hal : allLen st xs = true) :
    ∃ vals : List Value, vals.length = xs.length * st ∧ VRs c xs.flatten vals ∧ (∀ v ∈ vals, v.oneCell' = true) ∧ Builtin.lenOf u = Sem.pure xs.length ∧
      ∀ (m : Nat) (w1 : World), m ≤ xs.length → w1.heap = w.heap → (Builtin.firstCells st m u).run P w1 = .ok (vals.take (m * st)).toArray w1 := by
  rcases h.ex with ⟨l, rfl, rfl⟩ | ⟨q, cap, rfl, hcap, hne⟩
  · have hl : (u8s l).length = l.length := by simp [u8s]
    refine ⟨l.map fun b => .int .u8 b.toNat, ?_, ?_, ?_, ?_, ?_⟩
    · rw [List.length_map, hl]
      cases l with
      | nil => simp
      | cons b l =>
        have := allLen_at hal (i := 0) (x := [u8 b]) (by simp [u8s])
        simp at this; subst this; simp
    · have : (u8s l).flatten = l.map u8 := by
        unfold u8s
        clear hal h hl
        induction l with
        | nil => rfl
        | cons b l ih => simp [ih]
      rw [this]
      exact ⟨by simp, fun i x v hx hv => by
        simp only [List.getElem?_map, Option.map_eq_some_iff] at hx hv
        obtain ⟨b, hb, rfl⟩ := hx
        obtain ⟨b2, hb2, rfl⟩ := hv
        rw [hb] at hb2; cases hb2
        exact .int _ _⟩
    · intro v hv
      obtain ⟨b, _, rfl⟩ := List.mem_map.1 hv
      rfl
    · show Sem.pure _ = _
      rw [hl]; simp [ByteArray.size_mk']
    · intro m w1 hm hw
      rw [hl] at hm
      simp only [Builtin.firstCells, Sem.run_pure]
      congr 1
      cases l with
      | nil =>
        apply Array.ext' 
        simp
      | cons b l =>
        have := allLen_at hal (i := 0) (x := [u8 b]) (by simp [u8s])
        simp at this; subst this
        apply Array.ext'
        simp [ByteArray.data_extract, List.map_take]
  · by_cases hx : xs = []
    · subst hx
      refine ⟨[], by simp, VRs.nil c, by simp, rfl, fun m w1 hm hw => ?_⟩
      have hm0 : m = 0 := by simpa using hm
      subst hm0
      cases q with
      | none => simp [Builtin.firstCells]
      | some q => simp [Builtin.firstCells, loadCells, loadCellsFrom]
    · obtain ⟨b, o, vals, rfl, h1, h2, h3⟩ := hne hx
      refine ⟨vals, h1, h2, fun v hv => ?_, rfl, fun m w1 hm hw => ?_⟩
      · obtain ⟨i, hi⟩ := List.mem_iff_getElem?.1 hv
        exact (h3 i v hi).2
      · have hl := run_loadCells_list (P := P) w1 ⟨b, o, none⟩ (vals.take (m * st)) (fun j v hj => by
          rw [List.getElem?_take] at hj
          split at hj
          · rw [Addr.add_mid]
            have := (h3 j v hj).1
            simpa [World.cell?, hw] using this
          · cases hj)
        have hmin : (vals.take (m * st)).length = m * st := by
          rw [List.length_take, h1, Nat.min_eq_left (Nat.mul_le_mul_right _ hm)]
        rw [hmin] at hl
        simpa [Builtin.firstCells] using hl

theorem zeroCells_get (z : Array Value) (n j : Nat) (hj : j < n * z.size) : ((Builtin.zeroCells z n)[j]?).isSome = true := by
  simp [Builtin.zeroCells, hj]
theorem zeroCells_size (z : Array Value) (n : Nat) : (Builtin.zeroCells z n).size = n * z.size := by simp [Builtin.zeroCells]

/-- append, where there is room -/
theorem run_append_room' {ts : Array TypeId} {t tx ty e : TypeId} (hts0 : ts[0]? = some t) (hts1 : ts[1]? = some tx) {i : TypeInfo} {d : TypeDesc} (ht : P.underlying t = some (.slice e)) (hi : P.info? e = some i) (htx : P.underlying tx = some d) (hd : ∀ k, d ≠ .int k)
    {base : Option Addr} {sLen sCap n : Nat} {x : Value} {news : Array Value} (hlen : Builtin.lenOf x = Sem.pure n) (hnews : (Builtin.firstCells i.size n x).run P w = .ok news w) (hroom : sLen + n ≤ sCap) :
    (Builtin.append_ ts ty #[.slice base sLen sCap, x]).run P w =
      match base with
      | some a => ((storeCells (a.add (sLen * i.size)) news.toList).run P w).andThen fun _ w' => .ok (.slice base (sLen + n) sCap) w'
      | none => .ok (.slice none (sLen + n) sCap) w := by
  have hz : (match d with | .int _ => true | _ => false) = false := by cases d <;> first | rfl | exact absurd rfl (hd _)
  have hl : (Builtin.lenOf x).run P w = .ok n w := by rw [hlen]; rfl
  cases base <;> simp [Builtin.append_, hts0, hts1, run_underlying ht, run_underlying htx, sizeOf, typeInfo, hi, hz, hl, hnews, hroom]
/-- append, where there is none -/
theorem run_append_grow' {ts : Array TypeId} {t tx ty e : TypeId} (hts0 : ts[0]? = some t) (hts1 : ts[1]? = some tx) {i : TypeInfo} {z : Value} {d : TypeDesc} (ht : P.underlying t = some (.slice e)) (hi : P.info? e = some i) (hzv : i.zero = some z) (htx : P.underlying tx = some d) (hd : ∀ k, d ≠ .int k) (hb : i.bytes ≤ 16384)
    {base : Option Addr} {sLen sCap n : Nat} {x : Value} {news olds : Array Value} (hlen : Builtin.lenOf x = Sem.pure n) (hnews : (Builtin.firstCells i.size n x).run P w.drew = .ok news w.drew) (hold : (Builtin.firstCells i.size sLen (.slice base sLen sCap)).run P w.drew = .ok olds w.drew)
    (hroom : ¬ sLen + n ≤ sCap) (hlim : sLen + n ≤ 1000000000) :
    ∃ cap, sLen + n ≤ cap ∧ (Builtin.append_ ts ty #[.slice base sLen sCap, x]).run P w =
      .ok (.slice (some ⟨w.heap.size, 0, none⟩) (sLen + n) cap) { w.drew with heap := w.heap.push (.cells (olds ++ news ++ Builtin.zeroCells z.cells (cap - (sLen + n))) e) } := by
  have hz : (match d with | .int _ => true | _ => false) = false := by cases d <;> first | rfl | exact absurd rfl (hd _)
  have hl : (Builtin.lenOf x).run P w = .ok n w := by rw [hlen]; rfl
  have h63 : ¬ (9223372036854775807 < ((sLen : Int) + (n : Int))) := by omega
  have h48 : ¬ (281474976710656 < Builtin.nextslicecap (sLen + n) sCap * i.bytes) := by
    have h1 := nextcap_le (n := sLen + n) (c := sCap) (by omega)
    have : Builtin.nextslicecap (sLen + n) sCap * i.bytes ≤ (2 * 1000000000 + 768) * 16384 := Nat.mul_le_mul (by omega) hb
    omega
  have hq : (Question.appendCap (sLen + n) sCap e).forced = false := rfl
  refine ⟨(Question.appendCap (sLen + n) sCap e).cut (w.tape w.drawn (Question.appendCap (sLen + n) sCap e)), by simp [Question.cut], ?_⟩
  have hnews' : (Builtin.firstCells i.size n x).run P { w with drawn := w.drawn + 1 } = .ok news { w with drawn := w.drawn + 1 } := hnews
  have hold' : (Builtin.firstCells i.size sLen (.slice base sLen sCap)).run P { w with drawn := w.drawn + 1 } = .ok olds { w with drawn := w.drawn + 1 } := hold
  simp [Builtin.append_, hts0, hts1, run_underlying ht, run_underlying htx, sizeOf, typeInfo, hi, hz, hl, hroom, h63, h48, hq, hnews, hold, zeroValue, hzv, newRow]
  rfl

/-- what a row's slice is on the machine -/
theorem bs_slice {id off len : Nat} {u : Value} (h : VR c (.bs id off len) u) : ∃ h a cap, c.io id = some h ∧ u = .slice a len cap ∧ len ≤ cap ∧ (off = 0 → a = h.addr ∧ cap = h.cap) ∧ (len ≠ 0 → h.nul = false ∧ a = some ⟨h.blk, h.off + off * h.st, none⟩) := by
  cases h with | bs _ _ _ h a cap hcap hi h0 h1 => exact ⟨h, a, cap, hi, rfl, hcap, h0, h1⟩

/-- the elements of the row's first part, as values -/
theorem row_vals {h : Home} {xs : List (List LV)} {val : Nat → Nat → Value} {len : Nat} (hle : len ≤ xs.length) (hs : ∀ (i : Nat) (x : List LV), xs[i]? = some x → x.length = h.st ∧ LV.closeds x = true)
    (hv : ∀ (i : Nat) (x : List LV) (j : Nat) (y : LV), xs[i]? = some x → x[j]? = some y → w.cell? ⟨h.blk, h.off + i * h.st + j, none⟩ = some (val i j) ∧ (val i j).oneCell' = true ∧ VR c y (val i j)) :
    ∃ vals : List Value, vals.length = len * h.st ∧ VRs c (xs.take len).flatten vals ∧ ∀ j v, vals[j]? = some v → w.cell? ⟨h.blk, h.off + j, none⟩ = some v ∧ v.oneCell' = true := by
  have hget : ∀ (k : Nat) (x : List LV), (xs.take len)[k]? = some x → xs[k]? = some x := by
    intro k x hx
    rw [List.getElem?_take] at hx
    split at hx
    · exact hx
    · cases hx
  obtain ⟨vals, k1, k2, k3⟩ := rows_flat (w := w) (c := c) (b := h.blk) (st := h.st) (R := fun v => v.oneCell' = true) (xs.take len) h.off val (fun x hx => by
    obtain ⟨k, hk⟩ := List.mem_iff_getElem?.1 hx
    exact (hs k x (hget k x hk)).1) (fun i x j y hx hy => hv i x j y (hget i x hx) hy)
  exact ⟨vals, by rw [k1, List.length_take, Nat.min_eq_left hle], k2, k3⟩

/-- a row, as its cells lie -/
theorem OR.flat {c' : Cx} {w' : World} {h : Home} (hn : h.nul = false) {xs : List (List LV)} {vals : List Value} (hl : ∀ x ∈ xs, x.length = h.st) (hcl : ∀ x ∈ xs, LV.closeds x = true) (hv : VRs c' xs.flatten vals) (hcap : xs.length ≤ h.cap)
    (hc : ∀ j v, vals[j]? = some v → w'.cell? ⟨h.blk, h.off + j, none⟩ = some v ∧ v.oneCell' = true) (hsp : ∀ k, k < h.cap * h.st → (w'.cell? ⟨h.blk, h.off + k, none⟩).isSome = true ∧ w'.frozen? ⟨h.blk, h.off + k, none⟩ = false) (hm : ∀ x, c'.mu h.blk x = none) :
    OR P c' w' h (.row h.st xs) := by
  refine OR.row xs (fun i j => vals.getD (i * h.st + j) undef) (fun i x hx => ⟨hl x (List.mem_of_getElem? hx), hcl x (List.mem_of_getElem? hx)⟩) (fun i x j y hx hy => ?_) hcap (by simp [hn]) (fun _ => hsp) (fun _ => hm)
  obtain ⟨v, hv1, hv2⟩ := hv.getSome (flat_get hl hx hy)
  have e : vals.getD (i * h.st + j) undef = v := by simp [List.getD, hv1]
  rw [e, Nat.add_assoc]
  obtain ⟨a1, a2⟩ := hc _ v hv1
  exact ⟨a1, a2, hv2⟩

theorem app_room {e : TypeId} {st : Nat} {ys : List (List LV)} {news : List Value} (H : SR P c s tmps Ts w) {id len : Nat} {ub : Value} (hb : VR c (.bs id 0 len) ub) {xs : List (List LV)} (ho : oget s.O id = some (.row st xs)) (hle : len ≤ xs.length)
    (hyl : ∀ y ∈ ys, y.length = st) (hyc : ∀ y ∈ ys, LV.closeds y = true) (hnv : VRs c ys.flatten news) (hn1 : ∀ v ∈ news, v.oneCell' = true) {m : Sem Value}
    (hroom : ∀ base sCap, ub = .slice base len sCap → len + ys.length ≤ sCap → m.run P w = match base with
      | some a => ((storeCells (a.add (len * st)) news).run P w).andThen fun _ w' => .ok (.slice base (len + ys.length) sCap) w'
      | none => .ok (.slice none (len + ys.length) sCap) w)
    (hgrow : ∀ base sCap olds, ub = .slice base len sCap → ¬ len + ys.length ≤ sCap → (∀ w1 : World, w1.heap = w.heap → (Builtin.firstCells st len (.slice base len sCap)).run P w1 = .ok olds w1) → ∃ cap z, len + ys.length ≤ cap ∧ z.size = (cap - (len + ys.length)) * st ∧
      m.run P w = .ok (.slice (some ⟨w.heap.size, 0, none⟩) (len + ys.length) cap) { w.drew with heap := w.heap.push (.cells (olds ++ news.toArray ++ z) e) }) :
    Does P c tmps Ts w m (.bs id 0 (len + ys.length)) (St.sub .kill id { s with O := oset s.O id (.row st (xs.take len ++ ys)) }) := by
  obtain ⟨h, a, cap, hi, rfl, hcap, h0, h1⟩ := bs_slice hb
  obtain ⟨rfl, rfl⟩ := h0 rfl
  obtain ⟨h2, hi2, hor⟩ := H.O id _ ho
  rw [hi] at hi2; cases hi2
  cases hor with
  | row _ val hs hv hl h0' hsp hm =>
    obtain ⟨vals, k1, k2, k3⟩ := row_vals hle hs hv
    have hfl : (xs.take len ++ ys).flatten = (xs.take len).flatten ++ ys.flatten := by rw [List.flatten_append]
    have hall : ∀ x ∈ xs.take len ++ ys, x.length = h.st ∧ LV.closeds x = true := fun x hx => by
      rcases List.mem_append.1 hx with hx | hx
      · obtain ⟨k, hk⟩ := List.mem_iff_getElem?.1 (List.mem_of_mem_take hx)
        exact hs k x hk
      · exact ⟨hyl x hx, hyc x hx⟩
    have hlen : (xs.take len ++ ys).length = len + ys.length := by simp; omega
    have hnl : news.length = ys.length * h.st := by rw [← hnv.len, flat_len hyl]
    by_cases hr : len + ys.length ≤ h.cap
    · -- in place
      have hrun := hroom h.addr h.cap rfl hr
      cases hnul : h.nul with
      | true =>
        have hc0 := h0' hnul
        have e1 : len = 0 := by omega
        have e2 : ys = [] := List.eq_nil_of_length_eq_zero (by omega)
        have e3 : xs = [] := List.eq_nil_of_length_eq_zero (by omega)
        subst e1; subst e2; subst e3
        have e4 : news = [] := List.eq_nil_of_length_eq_zero (by simpa using hnl)
        subst e4
        have hrun' : m.run P w = .ok (.slice h.addr 0 h.cap) w := by
          rw [hrun]
          cases hq : h.addr <;> simp [storeCells]
        obtain ⟨c', H', t', hi', hmu'⟩ := H.move (w' := w) (h' := h) (ys := []) ho hi (Nat.le_refl _) (fun _ _ _ => rfl) (by simp [hnul]) (fun _ => rfl) ⟨rfl, rfl⟩ (by simp [hnul]) (fun _ r h => ⟨r, h⟩) (fun c' _ _ =>
          OR.row [] (fun _ _ => undef) (by simp) (by simp) (Nat.zero_le _) h0' (by simp [hnul]) (by simp [hnul]))
        refine ⟨_, w, c', hrun', by simpa using H', t', ?_⟩
        exact .bs id 0 0 h _ _ (Nat.zero_le _) hi' (fun _ => ⟨rfl, rfl⟩) (by simp)
      | false =>
        have hsp' := hsp hnul
        have haddr : h.addr = some ⟨h.blk, h.off, none⟩ := by simp [Home.addr, hnul]
        have hcapst : len * h.st + news.length ≤ h.cap * h.st := by
          rw [hnl, ← Nat.add_mul]; exact Nat.mul_le_mul_right _ hr
        have hst : (storeCells ((⟨h.blk, h.off, none⟩ : Addr).add (len * h.st)) news).run P w = .ok () (w.setCells h.blk (h.off + len * h.st) news) := by
          rw [Addr.add_mid]
          have := run_storeCells_cells (P := P) h.blk (h.off + len * h.st) news 0 w (fun j hj => by
            have := (hsp' (len * h.st + j) (by omega)).1
            rwa [← Nat.add_assoc] at this) (fun j hj => by
            have := (hsp' (len * h.st + j) (by omega)).2
            rwa [← Nat.add_assoc] at this) hn1
          simpa using this
        have hrun' : m.run P w = .ok (.slice h.addr (len + ys.length) h.cap) (w.setCells h.blk (h.off + len * h.st) news) := by
          rw [hrun, haddr]; simp only [hst, Result.andThen_ok]
        have only := only_setCells w h.blk (h.off + len * h.st) news
        obtain ⟨c', H', t', hi', hmu'⟩ := H.move (w' := w.setCells h.blk (h.off + len * h.st) news) (h' := h) (st := h.st) (ys := xs.take len ++ ys) ho hi (by rw [only.size]; exact Nat.le_refl _) (fun b hb hne => only.same b (hne hnul)) (fun _ => ⟨by rw [only.size]; exact H.lt id h hi hnul, .inl ⟨hnul, rfl⟩⟩) only.frz only.env (fun hn => hm hn) only.loops (fun c' hcm hx =>
          OR.flat hnul (vals := vals ++ news) (fun x hx => (hall x hx).1) (fun x hx => (hall x hx).2) (by
            rw [hfl]
            have hcl : ∀ (i : Nat) (x : LV) (L : List (List LV)), (∀ y ∈ L, LV.closeds y = true) → L.flatten[i]? = some x → LV.closed x = true := by
              intro i x L hL hx
              obtain ⟨y, hy, hxy⟩ := List.mem_flatten.1 (List.mem_of_getElem? hx)
              obtain ⟨k, hk⟩ := List.mem_iff_getElem?.1 hxy
              exact closeds_at (hL y hy) hk
            have hmm : ∀ b o v, c.mu b o = some v → c'.mu b o = some v := fun b o v hv => by rw [hcm]; exact hv
            exact VRs.append ⟨k2.len, fun i x v hx hv => (k2.at_ i x v hx hv).closed hmm (hcl i x _ (fun y hy => (hall y (List.mem_append_left _ hy)).2) hx)⟩
              ⟨hnv.len, fun i x v hx hv => (hnv.at_ i x v hx hv).closed hmm (hcl i x _ hyc hx)⟩) (by rw [hlen]; exact hr) (fun j v hj => by
            rw [List.getElem?_append] at hj
            split at hj
            · rename_i hlt
              obtain ⟨a1, a2⟩ := k3 j v hj
              refine ⟨?_, a2⟩
              rw [World.cell?_setCells_out _ _ _ _ _ (fun _ _ => .inl (show h.off + j < h.off + len * h.st by omega))]
              exact a1
            · rename_i hge
              have hlt : j - vals.length < news.length := (List.getElem?_eq_some_iff.1 hj).1
              have := World.cell?_setCells_in h.blk news (h.off + len * h.st) w (fun i hi => by
                have := (hsp' (len * h.st + i) (by omega)).1
                rwa [← Nat.add_assoc] at this) (j - vals.length) hlt
              rw [show h.off + len * h.st + (j - vals.length) = h.off + j by omega] at this
              rw [this, ← hj, List.getElem?_eq_getElem hlt]
              exact ⟨rfl, hn1 v (List.mem_of_getElem? hj)⟩) (fun k hk => by
            obtain ⟨a1, a2⟩ := hsp' k hk
            exact ⟨World.isSome_setCells _ _ _ _ _ a1, by rw [World.frozen?_setCells]; exact a2⟩) (hx hnul))
        refine ⟨_, _, c', hrun', H', t', ?_⟩
        exact .bs id 0 _ h _ _ hr hi' (fun _ => ⟨rfl, rfl⟩) (fun _ => ⟨hnul, by simp [haddr]⟩)
    · -- it moves
      have hold : ∀ w1 : World, w1.heap = w.heap → (Builtin.firstCells h.st len (.slice h.addr len h.cap)).run P w1 = .ok vals.toArray w1 := by
        intro w1 hw1
        by_cases hz : len = 0
        · subst hz
          have : vals = [] := List.eq_nil_of_length_eq_zero (by simpa using k1)
          subst this
          cases h.addr <;> simp [Builtin.firstCells, loadCells, loadCellsFrom]
        · obtain ⟨hnn, ha⟩ := h1 hz
          rw [ha]
          have hl := run_loadCells_list (P := P) w1 ⟨h.blk, h.off, none⟩ vals (fun j v hj => by
            rw [Addr.add_mid]
            have := (k3 j v hj).1
            simpa [World.cell?, hw1] using this)
          rw [k1] at hl
          simpa [Builtin.firstCells] using hl
      obtain ⟨cap, z, hcap2, hz, hrun⟩ := hgrow h.addr h.cap vals.toArray rfl hr hold
      let w' : World := { w.drew with heap := w.heap.push (.cells (vals.toArray ++ news.toArray ++ z) e) }
      have g : Grew w w' := (Grew.drew w).trans (Grew.push w.drew _ (by simp [Go.Obj.soft]))
      have hcellp : ∀ i, w'.cell? ⟨w.heap.size, i, none⟩ = (vals.toArray ++ news.toArray ++ z)[i]? := fun i => cell_push w _ e i
      obtain ⟨c', H', t', hi', hmu'⟩ := H.move (w' := w') (h' := ⟨w.heap.size, 0, h.st, cap, false, none⟩) (st := h.st) (ys := xs.take len ++ ys) ho hi g.size (fun b hb _ => g.same b hb) (fun _ => ⟨by simp [w'], .inr (Nat.le_refl _)⟩) g.frz g.env (fun hn => hm hn) g.loop (fun c' hcm hx =>
        OR.flat (h := ⟨w.heap.size, 0, h.st, cap, false, none⟩) rfl (vals := vals ++ news) (fun x hx => (hall x hx).1) (fun x hx => (hall x hx).2) (by
          rw [hfl]
          have hcl : ∀ (i : Nat) (x : LV) (L : List (List LV)), (∀ y ∈ L, LV.closeds y = true) → L.flatten[i]? = some x → LV.closed x = true := by
            intro i x L hL hx
            obtain ⟨y, hy, hxy⟩ := List.mem_flatten.1 (List.mem_of_getElem? hx)
            obtain ⟨k, hk⟩ := List.mem_iff_getElem?.1 hxy
            exact closeds_at (hL y hy) hk
          have hmm : ∀ b o v, c.mu b o = some v → c'.mu b o = some v := fun b o v hv => by rw [hcm]; exact hv
          exact VRs.append ⟨k2.len, fun i x v hx hv => (k2.at_ i x v hx hv).closed hmm (hcl i x _ (fun y hy => (hall y (List.mem_append_left _ hy)).2) hx)⟩
            ⟨hnv.len, fun i x v hx hv => (hnv.at_ i x v hx hv).closed hmm (hcl i x _ hyc hx)⟩) (by rw [hlen]; exact hcap2) (fun j v hj => by
          have hlt := (List.getElem?_eq_some_iff.1 hj).1
          refine ⟨?_, ?_⟩
          · show w'.cell? ⟨w.heap.size, 0 + j, none⟩ = some v
            rw [Nat.zero_add, hcellp, ← hj, Array.getElem?_append_left (by simpa using hlt)]
            simp
          · rw [List.getElem?_append] at hj
            split at hj
            · exact (k3 j v hj).2
            · exact hn1 v (List.mem_of_getElem? hj)) (fun k hk => by
          refine ⟨?_, ?_⟩
          · show (w'.cell? ⟨w.heap.size, 0 + k, none⟩).isSome = true
            rw [Nat.zero_add, hcellp, Array.getElem?_eq_getElem]
            · rfl
            · have : (vals.toArray ++ news.toArray ++ z).size = cap * h.st := by
                simp only [Array.size_append, List.size_toArray, k1, hnl, hz, ← Nat.add_mul]
                congr 1; omega
              rw [this]; exact hk
          · exact frozen_push w _ e _) (hx rfl))
      refine ⟨_, w', c', hrun, H', t', ?_⟩
      exact .bs id 0 _ _ _ cap hcap2 hi' (fun _ => ⟨rfl, rfl⟩) (fun _ => ⟨rfl, by simp⟩)

theorem nil_slice {st : Nat} {u : Value} (h : VR c (.nils st) u) : ∃ q, u = .slice q 0 0 := by cases h; exact ⟨_, rfl⟩

/-- append onto a nil slice (or one of no room) -/
theorem app_nil {e : TypeId} {st : Nat} {ys : List (List LV)} {news : List Value} (H : SR P c s tmps Ts w) (d : Nat) (q : Option Addr)
    (hyl : ∀ y ∈ ys, y.length = st) (hyc : ∀ y ∈ ys, LV.closeds y = true) (hnv : VRs c ys.flatten news) (hn1 : ∀ v ∈ news, v.oneCell' = true) {m : Sem Value}
    (hroom : ys.length ≤ 0 → m.run P w = match q with
      | some a => ((storeCells (a.add (0 * st)) news).run P w).andThen fun _ w' => .ok (.slice q (0 + ys.length) 0) w'
      | none => .ok (.slice none (0 + ys.length) 0) w)
    (hgrow : ¬ ys.length ≤ 0 → ∃ cap z, ys.length ≤ cap ∧ z.size = (cap - ys.length) * st ∧ m.run P w = .ok (.slice (some ⟨w.heap.size, 0, none⟩) ys.length cap) { w.drew with heap := w.heap.push (.cells (news.toArray ++ z) e) }) :
    Does P c tmps Ts w m (.bs d 0 ys.length) (St.new d (.row st ys) s) := by
  have hnl : news.length = ys.length * st := by rw [← hnv.len, flat_len hyl]
  by_cases hr : ys.length ≤ 0
  · have e2 : ys = [] := List.eq_nil_of_length_eq_zero (by omega)
    subst e2
    have e4 : news = [] := List.eq_nil_of_length_eq_zero (by simpa using hnl)
    subst e4
    have hrun := hroom hr
    have hrun' : m.run P w = .ok (.slice q 0 0) w := by
      rw [hrun]; cases q <;> simp [storeCells]
    obtain ⟨c', h1, h2, h3, _⟩ := nilRow H d st q
    exact ⟨_, w, c', hrun', h1, h2, h3⟩
  · obtain ⟨cap, z, hcap, hz, hrun⟩ := hgrow hr
    obtain ⟨H1, t1⟩ := H.grew (Grew.drew w)
    obtain ⟨c2, H2, t2, hv2⟩ := newRow_ok H1 d (st := st) (cap := cap) (e := e) (cells := news.toArray ++ z) hyl hyc hnv hcap hn1 (fun j v hj => by
      have hlt := (List.getElem?_eq_some_iff.1 hj).1
      rw [Array.getElem?_append_left (by simpa using hlt)]; simpa using hj) (by
      simp only [Array.size_append, List.size_toArray, hnl, hz, ← Nat.add_mul]
      exact Nat.mul_le_mul_right _ (by omega))
    exact ⟨_, _, c2, hrun, H2, t1.trans t2, hv2⟩

theorem app_does (H : SR P c s tmps Ts w) {ts : Array TypeId} {t tx ty e : TypeId} (hts0 : ts[0]? = some t) (hts1 : ts[1]? = some tx) {d : TypeDesc} {st id : Nat} {b x v : LV} {ub ux : Value} {s' : St} (ht : P.underlying t = some (.slice e)) (hst : tsize P e = some st) (hsm : smallB P e = true) (htx : P.underlying tx = some d) (hd : ∀ k, d ≠ .int k)
    (hb : VR c b ub) (hx : VR c x ux) (h : (elems s.O x).bind (appK st id b s) = some (v, s')) : Does P c tmps Ts w (Builtin.append_ ts ty #[ub, ux]) v s' := by
  have hO : HR P c w s.O := H.O
  have h9 := h
  clear h
  obtain ⟨ys, hys, h⟩ := Option.bind_eq_some_iff.1 h9
  clear h9
  unfold appK at h
  split at h
  · rename_i hal
    obtain ⟨news, n1, n2, n3, n4, n5⟩ := lies_first (P := P) (elems_ok hO H.mu hx hys hal) hal
    have hyc := elems_closed hO hx hys
    have hyl := allLen_mem hal
    obtain ⟨i, hi⟩ : ∃ i, P.info? e = some i := by
      unfold tsize at hst; obtain ⟨i, hi, _⟩ := Option.map_eq_some_iff.1 hst; exact ⟨i, hi⟩
    have hsize : i.size = st := by unfold tsize at hst; rw [hi] at hst; simpa using hst
    obtain ⟨z, hz⟩ : ∃ z, zeroLV P e = some z := by
      unfold smallB at hsm; rw [hi] at hsm
      cases hzz : zeroLV P e with
      | none => rw [hzz] at hsm; simp at hsm
      | some z => exact ⟨z, rfl⟩
    unfold smallB at hsm
    rw [hi, hz] at hsm
    simp only [Bool.and_eq_true, decide_eq_true_eq] at hsm
    obtain ⟨i2, zv, hi2, hzv, hzr⟩ := zeroLV_ok (c := c) hz
    rw [hi] at hi2; cases hi2
    obtain ⟨hzc, hz1⟩ := cells_VRs hzr (zero_one hz)
    have hzs : zv.cells.size = st := by have := hzc.len; simp only [Array.length_toList] at this; omega
    have hfull : (news.take (ys.length * st)) = news := List.take_of_length_le (by omega)
    have hnews : ∀ w1 : World, w1.heap = w.heap → (Builtin.firstCells i.size ys.length ux).run P w1 = .ok news.toArray w1 := fun w1 hw1 => by
      have := n5 ys.length w1 (Nat.le_refl _) hw1
      rwa [hfull, ← hsize] at this
    unfold appV at h
    split at h
    · split at h
      · rename_i hlim
        simp only [Option.some.injEq, Prod.mk.injEq] at h
        obtain ⟨rfl, rfl⟩ := h
        obtain ⟨q, rfl⟩ := nil_slice hb
        refine app_nil (e := e) H id q hyl hyc n2 n3 (fun hr => ?_) (fun hr => ?_)
        · have := run_append_room' (P := P) (w := w) (ty := ty) (base := q) (sLen := 0) (sCap := 0) hts0 hts1 ht hi htx hd n4 (hnews w rfl) (by omega)
          rw [hsize] at this
          simpa using this
        · obtain ⟨cap, h1, h2⟩ := run_append_grow' (P := P) (w := w) (ty := ty) (base := q) (sLen := 0) (sCap := 0) (olds := #[]) hts0 hts1 ht hi hzv htx hd hsm.1.1 n4 (hnews _ rfl) (by cases q <;> simp [Builtin.firstCells, loadCells, loadCellsFrom]) (by omega) (by omega)
          refine ⟨cap, Builtin.zeroCells zv.cells (cap - ys.length), by omega, by rw [zeroCells_size, hzs], ?_⟩
          simpa using h2
      · cases h
    · rename_i id2 off len
      unfold appO at h
      split at h
      · rename_i st' xs ho
        split at h
        · rename_i hcond
          obtain ⟨rfl, hle, rfl, hlim⟩ := hcond
          simp only [Option.some.injEq, Prod.mk.injEq] at h
          obtain ⟨rfl, rfl⟩ := h
          refine app_room (e := e) H hb ho hle hyl hyc n2 n3 (fun base sCap he hr => ?_) (fun base sCap olds he hr hold => ?_)
          · subst he
            have := run_append_room' (P := P) (w := w) (ty := ty) (base := base) (sLen := len) (sCap := sCap) hts0 hts1 ht hi htx hd n4 (hnews w rfl) hr
            rw [hsize] at this
            simpa using this
          · subst he
            obtain ⟨cap, h1, h2⟩ := run_append_grow' (P := P) (w := w) (ty := ty) (base := base) (sLen := len) (sCap := sCap) (olds := olds) hts0 hts1 ht hi hzv htx hd hsm.1.1 n4 (hnews _ rfl) (by rw [hsize]; exact hold _ rfl) hr hlim
            exact ⟨cap, Builtin.zeroCells zv.cells (cap - (len + ys.length)), h1, by rw [zeroCells_size, hzs], h2⟩
        · cases h
      · cases h
    · cases h
  · cases h

theorem cpy_does (H : SR P c s tmps Ts w) {ts : Array TypeId} {t ty e : TypeId} {st : Nat} {b x v : LV} {ub ux : Value} {s' : St} (hts : ts[0]? = some t) (ht : P.underlying t = some (.slice e)) (hst : tsize P e = some st)
    (hb : VR c b ub) (hx : VR c x ux) (h : (elems s.O x).bind (cpyK st b s) = some (v, s')) : Does P c tmps Ts w (Builtin.copy_ ts ty #[ub, ux]) v s' := by
  have hO : HR P c w s.O := H.O
  have h9 := h
  clear h
  obtain ⟨ys, hys, h⟩ := Option.bind_eq_some_iff.1 h9
  clear h9
  unfold cpyK cpyV at h
  split at h
  · rename_i id off len
    unfold cpyO at h
    split at h
    · rename_i st' xs ho
      split at h
      · rename_i hcond
        obtain ⟨hal, rfl, hle⟩ := hcond
        simp only [Option.some.injEq, Prod.mk.injEq] at h
        obtain ⟨rfl, rfl⟩ := h
        obtain ⟨news, n1, n2, n3, n4, n5⟩ := lies_first (P := P) (elems_ok hO H.mu hx hys hal) hal
        have hyc := elems_closed hO hx hys
        have hyl := allLen_mem hal
        obtain ⟨h, a, cap, hi, rfl, hcap, h0, h1⟩ := bs_slice hb
        obtain ⟨h2, hi2, hor⟩ := H.O id _ ho
        rw [hi] at hi2; cases hi2
        cases hor with
        | row _ val hs hv hl h0' hsp hm =>
          let k := min ys.length len
          have hk1 : k ≤ ys.length := Nat.min_le_left _ _
          have hk2 : k ≤ len := Nat.min_le_right _ _
          have hf := n5 k w hk1 rfl
          have hlo : (Builtin.lenOf ux).run P w = .ok ys.length w := by rw [n4]; rfl
          have hrun0 : (Builtin.copy_ ts ty #[.slice a len cap, ux]).run P w = match a with
              | some a => ((storeCells a (news.take (k * h.st))).run P w).andThen fun _ w' => .ok (goInt k) w'
              | none => .ok (goInt k) w := by
            have hmin : Nat.min ys.length len = k := rfl
            cases a <;> simp [Builtin.copy_, hts, run_underlying ht, hlo, run_size hst, hmin, hf]
          by_cases hz : k = 0
          · have e0 : news.take (k * h.st) = [] := by rw [hz]; simp
            have hrun : (Builtin.copy_ ts ty #[.slice a len cap, ux]).run P w = .ok (goInt k) w := by
              rw [hrun0]; cases a <;> simp [e0, storeCells]
            have hxs : xs.take off ++ (ys.take k ++ xs.drop (off + k)) = xs := by rw [hz]; simp
            obtain ⟨H2, t2⟩ : SR P c { s with O := oset s.O id (.row h.st xs) } tmps Ts w ∧ Tr c w c w := by
              refine ⟨⟨H.T, H.Fl, H.F, fun j oo hj => ?_, fun j hh hj => ?_, H.inj, H.mu, H.lt⟩, Tr.refl _ _⟩
              · rw [oget_oset] at hj
                split at hj
                · rename_i e; subst e
                  rw [ho] at hj; simp only [Option.map_some, Option.some.injEq] at hj; subst hj
                  exact H.O _ _ ho
                · exact H.O j oo hj
              · obtain ⟨oo, ho2⟩ := H.dom j hh hj
                simp only [oget_oset]
                by_cases e : j = id
                · subst e; exact ⟨.row h.st xs, by simp [ho]⟩
                · exact ⟨oo, by simp [e, ho2]⟩
            refine ⟨goInt k, w, c, hrun, ?_, t2, .int _ _⟩
            show SR P c { s with O := oset s.O id (.row h.st (xs.take off ++ (ys.take k ++ xs.drop (off + k)))) } tmps Ts w
            rw [hxs]; exact H2
          · obtain ⟨hnn, ha⟩ := h1 (by omega)
            subst ha
            have hsp' := hsp hnn
            have hnl : (news.take (k * h.st)).length = k * h.st := by
              rw [List.length_take, n1, Nat.min_eq_left (Nat.mul_le_mul_right _ hk1)]
            have hbd : off * h.st + k * h.st ≤ h.cap * h.st := by
              rw [← Nat.add_mul]; exact Nat.mul_le_mul_right _ (by omega)
            have hst2 : (storeCells (⟨h.blk, h.off + off * h.st, none⟩ : Addr) (news.take (k * h.st))).run P w = .ok () (w.setCells h.blk (h.off + off * h.st) (news.take (k * h.st))) := by
              have := run_storeCells_cells (P := P) h.blk (h.off + off * h.st) (news.take (k * h.st)) 0 w (fun j hj => by
                have := (hsp' (off * h.st + j) (by omega)).1
                rwa [← Nat.add_assoc] at this) (fun j hj => by
                have := (hsp' (off * h.st + j) (by omega)).2
                rwa [← Nat.add_assoc] at this) (fun v hv => n3 v (List.mem_of_mem_take hv))
              simpa using this
            have hrun : (Builtin.copy_ ts ty #[.slice (some ⟨h.blk, h.off + off * h.st, none⟩) len cap, ux]).run P w = .ok (goInt k) (w.setCells h.blk (h.off + off * h.st) (news.take (k * h.st))) := by
              rw [hrun0]; simp only [hst2, Result.andThen_ok]
            obtain ⟨vals, k1, k2, k3⟩ := row_vals (Nat.le_refl xs.length) hs hv
            rw [List.take_length] at k2
            have hall : ∀ x ∈ xs.take off ++ (ys.take k ++ xs.drop (off + k)), x.length = h.st ∧ LV.closeds x = true := fun x hx => by
              have hxx : ∀ z ∈ xs, z.length = h.st ∧ LV.closeds z = true := fun z hz => by
                obtain ⟨q, hq⟩ := List.mem_iff_getElem?.1 hz
                exact hs q z hq
              rcases List.mem_append.1 hx with hx | hx
              · exact hxx x (List.mem_of_mem_take hx)
              · rcases List.mem_append.1 hx with hx | hx
                · exact ⟨hyl x (List.mem_of_mem_take hx), hyc x (List.mem_of_mem_take hx)⟩
                · exact hxx x (List.mem_of_mem_drop hx)
            have fl : ∀ (L : List (List LV)) (n : Nat), (∀ x ∈ L, x.length = h.st) → (L.take n).flatten = L.flatten.take (n * h.st) ∧ (L.drop n).flatten = L.flatten.drop (n * h.st) := by
              intro L
              induction L with
              | nil => intro n _; simp
              | cons x L ih =>
                intro n hL
                have hx := hL x (by simp)
                cases n with
                | zero => simp
                | succ n =>
                  obtain ⟨i1, i2⟩ := ih n fun y hy => hL y (by simp [hy])
                  rw [List.take_succ_cons, List.drop_succ_cons, List.flatten_cons, List.flatten_cons, i1, i2, Nat.add_mul, Nat.one_mul, List.take_append, List.drop_append, hx]
                  rw [List.take_of_length_le (l := x) (by omega), List.drop_eq_nil_of_le (as := x) (by omega)]
                  simp
            have hxl : ∀ x ∈ xs, x.length = h.st := fun z hz => by
              obtain ⟨q, hq⟩ := List.mem_iff_getElem?.1 hz
              exact (hs q z hq).1
            have hflat : (xs.take off ++ (ys.take k ++ xs.drop (off + k))).flatten = setAt xs.flatten (off * h.st) (ys.flatten.take (k * h.st)) := by
              rw [List.flatten_append, List.flatten_append, (fl xs off hxl).1, (fl ys k hyl).1, (fl xs (off + k) hxl).2]
              unfold setAt
              have e : (ys.flatten.take (k * h.st)).length = k * h.st := by
                rw [List.length_take, flat_len hyl, Nat.min_eq_left (Nat.mul_le_mul_right _ hk1)]
              rw [e, Nat.add_mul]
            have hle2 : off * h.st + (news.take (k * h.st)).length ≤ vals.length := by
              rw [hnl, k1, ← Nat.add_mul]; exact Nat.mul_le_mul_right _ (by omega)
            obtain ⟨H2, t2⟩ := H.upd ho hi hnn (only_setCells w h.blk (h.off + off * h.st) (news.take (k * h.st))) (o' := .row h.st (xs.take off ++ (ys.take k ++ xs.drop (off + k))))
              (OR.flat hnn (vals := setV vals (off * h.st) (news.take (k * h.st))) (fun x hx => (hall x hx).1) (fun x hx => (hall x hx).2) (by
                rw [hflat]; exact setAt_VRs k2 (n2.take _)) (by simp; omega) (fun j v hj => by
                refine ⟨cells_set hle2 (fun i v hi => (k3 i v hi).1) hj, ?_⟩
                rcases setV_get hle2 hj with ⟨_, h3⟩ | ⟨_, _, h3⟩ | ⟨_, h3⟩
                · exact (k3 _ _ h3).2
                · exact n3 v (List.mem_of_mem_take (List.mem_of_getElem? h3))
                · exact (k3 _ _ h3).2) (fun q hq => by
                obtain ⟨a1, a2⟩ := hsp' q hq
                exact ⟨World.isSome_setCells _ _ _ _ _ a1, by rw [World.frozen?_setCells]; exact a2⟩) (hm hnn))
            exact ⟨goInt k, _, c, hrun, H2, t2, .int _ _⟩
      · cases h
    · cases h
  · cases h
end
end Go.Zv
