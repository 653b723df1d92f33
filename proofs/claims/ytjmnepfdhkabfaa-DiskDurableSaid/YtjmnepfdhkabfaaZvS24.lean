/- The engine, part 29: regions that draw their order; the whole. -/
import Derived.Test.YtjmnepfdhkabfaaZvS23
import Derived.Orders
namespace Go.Zv
set_option autoImplicit false
set_option linter.unusedVariables false
set_option linter.unusedSimpArgs false
section
variable {P : Program} {c : Cx} {w w' : World} {s : St} {tmps : Array Value} {Ts : List (Array Value)}

theorem SR.sim {t : St} (H : SR P c s tmps Ts w) (h : Sim s t) : SR P c t tmps Ts w :=
  ⟨fun k => by rw [← h.T k]; exact H.T k, by rw [← h.F]; exact H.Fl, fun i F t' hF ht => H.F i F t' (by rw [h.F]; exact hF) ht, fun id o ho => H.O id o (by rw [h.O id]; exact ho),
   fun id hh hi => by obtain ⟨o, ho⟩ := H.dom id hh hi; exact ⟨o, by rw [← h.O id]; exact ho⟩, H.inj, H.mu, H.lt⟩

theorem oper_step1 {R : Orc} (IH : FnOK P R) (IHr : RndOK P R) {N : Nat} {ops : Array Oper} {b : Frame} {a : Act} {i : Nat} {oo : Oper} {o : AOper} (hi : ops[i]? = some oo) (ho : toOper P N ops oo = some { o with fz := true })
    (H : SR P c s a.tmps Ts w) (hN : N ≤ a.tmps.size) {s2 : St} {q : Chk} (h : Step1 R q o s s2) (rest : List Nat) :
    Moves P c a Ts w s2 b [.inRegion ops (i :: rest)] [.inRegion ops rest] := by
  obtain ⟨hdst, hd, hop, hg⟩ := toOper_inv ho
  simp only at hdst hop hg
  obtain ⟨bb, hw, h⟩ := h
  have hww := wanted_ok H.T hg hw
  cases bb with
  | true =>
    simp only [if_true] at h
    obtain ⟨v, s1, h, rfl⟩ := h
    rw [hop] at h
    have key : ∃ c' u w', SR P c' s1 a.tmps Ts w' ∧ Tr c w c' w' ∧ VR c' v u ∧ (∀ c, oo.op ≠ .defer c) ∧ Acts P a oo w u w' := by
      cases q with
      | free => exact op_okF IH IHr H h
      | dr un qs =>
        cases hfz : o.fz with
        | true => rw [hfz] at h; exact dOp_ok IH IHr H h
        | false => rw [hfz] at h; exact dOpF_ok IH H h
    obtain ⟨c', u, w', H', t', hv, hnd, hact⟩ := key
    refine ⟨c', a.put oo.dst u, w', ?_, t', put_size .., put_defers .., fun k cs => step_acts hi hww hnd hact rest k cs⟩
    rw [hdst]
    exact H'.put hv (fun d e => Nat.lt_of_lt_of_le (hd d e) hN) a.defers
  | false =>
    simp only [Bool.false_eq_true, if_false] at h
    subst h
    refine ⟨c, a.put oo.dst undef, w, ?_, Tr.refl _ _, put_size .., put_defers .., fun k cs => ?_⟩
    · rw [hdst]
      exact H.put .undef (fun d e => Nat.lt_of_lt_of_le (hd d e) hN) a.defers
    · have := stepR_op_skip (P := P) (b := b) (a := a) (k := k) (cs := cs) (w := w) (ops := ops) (i := i) (rest := rest) (by simp [hi, hww])
      rw [hi] at this
      exact .one this
end

/-! which operations come before which -/
def edgeF (acc : Array Nat) (s : Nat) (e : Edge) : Nat := if Region.binds .any e then s ||| 2 ^ e.on ||| acc.getD e.on 0 else s
theorem before_eq (ops : Array Oper) : Region.before ops = ops.foldl (fun acc o => acc.push (o.after.foldl (edgeF acc) 0)) #[] := rfl
theorem edge_bit (acc : Array Nat) : ∀ (l : List Edge) (s j : Nat), (l.foldl (edgeF acc) s).testBit j = true ↔ s.testBit j = true ∨ ∃ e ∈ l, Region.binds .any e = true ∧ (j = e.on ∨ (acc.getD e.on 0).testBit j = true)
  | [], s, j => by simp
  | e :: l, s, j => by
    rw [List.foldl_cons, edge_bit acc l]
    unfold edgeF
    by_cases hb : Region.binds .any e = true
    · rw [if_pos hb]
      simp only [Nat.testBit_or, Bool.or_eq_true, Nat.testBit_two_pow, decide_eq_true_eq, List.mem_cons, exists_eq_or_imp, hb, true_and]
      constructor
      · rintro ((((h | h) | h) | h))
        · exact .inl h
        · exact .inr (.inl (.inl h.symm))
        · exact .inr (.inl (.inr h))
        · exact .inr (.inr h)
      · rintro (h | (h | h) | h)
        · exact .inl (.inl (.inl h))
        · exact .inl (.inl (.inr h.symm))
        · exact .inl (.inr h)
        · exact .inr h
    · rw [if_neg hb]
      simp only [List.mem_cons, exists_eq_or_imp, hb, false_and, false_or, Bool.false_eq_true]
theorem before_list : ∀ (l : List Oper) (acc : Array Nat), ∃ r : List Nat, (l.foldl (fun acc o => acc.push (o.after.foldl (edgeF acc) 0)) acc) = acc ++ r.toArray ∧ r.length = l.length ∧
    ∀ (i : Nat) (o : Oper), l[i]? = some o → r[i]? = some (o.after.foldl (edgeF (acc ++ (r.take i).toArray)) 0)
  | [], acc => ⟨[], by simp, rfl, by simp⟩
  | o :: l, acc => by
    obtain ⟨r, h1, h2, h3⟩ := before_list l (acc.push (o.after.foldl (edgeF acc) 0))
    refine ⟨o.after.foldl (edgeF acc) 0 :: r, ?_, by simp [h2], fun i o' ho => ?_⟩
    · rw [List.foldl_cons, h1]; simp
    · cases i with
      | zero => simp at ho; subst ho; simp
      | succ i =>
        have := h3 i o' (by simpa using ho)
        simpa using this
theorem before_bit {ops : Array Oper} {i : Nat} {o : Oper} (ho : ops[i]? = some o) (j : Nat) :
    ((Region.before ops).getD i 0).testBit j = true ↔ ∃ e ∈ o.after.toList, Region.binds .any e = true ∧ (j = e.on ∨ (e.on < i ∧ ((Region.before ops).getD e.on 0).testBit j = true)) := by
  obtain ⟨r, h1, h2, h3⟩ := before_list ops.toList #[]
  have hb : Region.before ops = r.toArray := by rw [before_eq, ← Array.foldl_toList, h1]; simp
  have hi : ops.toList[i]? = some o := by simpa using ho
  have hri := h3 i o hi
  have hlt : i < r.length := by rw [h2]; exact (List.getElem?_eq_some_iff.1 hi).1
  rw [hb]
  have e1 : r.toArray.getD i 0 = o.after.foldl (edgeF (#[] ++ (r.take i).toArray)) 0 := by
    simp only [Array.getD_eq_getD_getElem?, List.getElem?_toArray, hri, Option.getD_some]
  rw [e1, ← Array.foldl_toList, edge_bit]
  simp only [Nat.zero_testBit, Bool.false_eq_true, false_or]
  have acc : ∀ k, ((#[] ++ (r.take i).toArray : Array Nat).getD k 0).testBit j = true ↔ (k < i ∧ (r.toArray.getD k 0).testBit j = true) := by
    intro k
    simp only [Array.getD_eq_getD_getElem?, Array.empty_append, List.getElem?_toArray, List.getElem?_take]
    by_cases hk : k < i
    · simp [hk]
    · simp [hk]
  simp only [acc]

section
variable {P : Program} {c : Cx} {w w' : World} {s : St} {tmps : Array Value} {Ts : List (Array Value)}
variable {R : Orc} {N n : Nat} {ops : Array Oper} {items : List (Chk × AOper)} {s2 : St}

def remF (items : List (Chk × AOper)) (listed : Array Bool) (i : Nat) : Option (Chk × AOper) := if listed.getD i true = true then none else items[i]?
def rem (items : List (Chk × AOper)) (n : Nat) (listed : Array Bool) : List (Chk × AOper) := (List.range n).filterMap (remF items listed)
theorem range_split {i n : Nat} (h : i < n) : List.range n = List.range i ++ i :: List.range' (i + 1) (n - (i + 1)) := by
  have e : n = i + ((n - (i + 1)) + 1) := by omega
  conv => lhs; rw [e]
  rw [List.range_eq_range', ← List.range'_append_1, List.range'_succ]
  simp [List.range_eq_range']
theorem fm_congr {α β : Type} {f g : α → Option β} : ∀ {l : List α}, (∀ x ∈ l, f x = g x) → l.filterMap f = l.filterMap g
  | [], _ => rfl
  | x :: l, h => by
    rw [List.filterMap_cons, List.filterMap_cons, h x (by simp), fm_congr fun y hy => h y (by simp [hy])]
theorem rem_split {i : Nat} {x : Chk × AOper} {listed : Array Bool} (hi : i < n) (hsz : listed.size = n) (hl : listed.getD i true = false) (hx : items[i]? = some x) :
    ∃ A B, rem items n listed = A ++ x :: B ∧ rem items n (listed.setIfInBounds i true) = A ++ B ∧ ∀ y ∈ A, ∃ j, j < i ∧ listed.getD j true = false ∧ items[j]? = some y := by
  have hne : ∀ k, k ≠ i → remF items (listed.setIfInBounds i true) k = remF items listed k := fun k hk => by
    unfold remF
    have : (listed.setIfInBounds i true).getD k true = listed.getD k true := by
      simp only [Array.getD_eq_getD_getElem?, Array.getElem?_setIfInBounds_ne (Ne.symm hk)]
    rw [this]
  have hself : remF items (listed.setIfInBounds i true) i = none := by
    unfold remF
    rw [if_pos]
    simp [Array.getD_eq_getD_getElem?, Array.getElem?_setIfInBounds, hsz, hi]
  refine ⟨(List.range i).filterMap (remF items listed), (List.range' (i + 1) (n - (i + 1))).filterMap (remF items listed), ?_, ?_, fun y hy => ?_⟩
  · unfold rem
    rw [range_split hi, List.filterMap_append, List.filterMap_cons]
    have : remF items listed i = some x := by unfold remF; rw [if_neg (by simp [hl])]; exact hx
    rw [this]
  · unfold rem
    rw [range_split hi, List.filterMap_append, List.filterMap_cons, hself]
    congr 1
    · exact fm_congr fun k hk => hne k (by have := List.mem_range.1 hk; omega)
    · exact fm_congr fun k hk => hne k (by have := List.mem_range'_1.1 hk; omega)
  · obtain ⟨j, hj, hjy⟩ := List.mem_filterMap.1 hy
    unfold remF at hjy
    split at hjy
    · cases hjy
    · rename_i h
      exact ⟨j, List.mem_range.1 hj, by simpa using h, hjy⟩

/-- what the schedule may rely on -/
structure Sched (P : Program) (N n : Nat) (ops : Array Oper) (items : List (Chk × AOper)) : Prop where
  size : ops.size = n
  len : items.length = n
  op : ∀ (i : Nat) (x : Chk × AOper), items[i]? = some x → ∃ oo, ops[i]? = some oo ∧ toOper P N ops oo = some { x.2 with fz := true }
  lt : ∀ i, i < n → (Region.before ops).getD i 0 < 2 ^ i
  ind : ∀ (i j : Nat) (x y : Chk × AOper), items[i]? = some x → items[j]? = some y → i < j → ((Region.before ops).getD j 0).testBit i = true ∨ indep x y = true

def Closed (ops : Array Oper) (listed : Array Bool) : Prop := ∀ i, listed.getD i false = true → ∀ j, ((Region.before ops).getD i 0).testBit j = true → listed.getD j false = true
def unl (n : Nat) (listed : Array Bool) : Nat := ((List.range n).filter fun i => listed.getD i true == false).length

theorem ready_bits {listed : Array Bool} (hcl : Closed ops listed) {i : Nat} (h : i ∈ Region.ready .any ops listed) : i < ops.size ∧ listed.getD i true = false ∧ ∀ j, ((Region.before ops).getD i 0).testBit j = true → listed.getD j false = true := by
  unfold Region.ready at h
  simp only [List.mem_filter, List.mem_range, Bool.and_eq_true, Bool.not_eq_true'] at h
  obtain ⟨hi, hl, ha⟩ := h
  refine ⟨hi, hl, fun j hj => ?_⟩
  have ho : ops[i]? = some ops[i] := Array.getElem?_eq_getElem hi
  rw [ho] at ha
  simp only [Option.map_some, Option.getD_some] at ha
  rw [before_bit ho] at hj
  obtain ⟨e, he, hb, hj⟩ := hj
  have hall := (Array.all_eq_true_iff_forall_mem.1 ha) e (by simpa using he)
  simp only [hb, Bool.not_true, Bool.false_or] at hall
  rcases hj with rfl | ⟨_, hj⟩
  · exact hall
  · exact hcl _ hall j hj

theorem getD_ft {listed : Array Bool} {j : Nat} (h : listed.getD j false = true) : listed.getD j true = true := by
  simp only [Array.getD_eq_getD_getElem?] at h ⊢
  cases hh : listed[j]? with
  | none => rfl
  | some x => rw [hh] at h; simpa using h

theorem unl_pos {listed : Array Bool} (h : unl n listed ≠ 0) : ∃ i, i < n ∧ listed.getD i true = false ∧ ∀ j, j < i → listed.getD j true = true := by
  have hex : ∃ i, i < n ∧ listed.getD i true = false := by
    unfold unl at h
    obtain ⟨i, hi⟩ := List.exists_mem_of_length_pos (Nat.pos_of_ne_zero h)
    simp only [List.mem_filter, List.mem_range, beq_iff_eq] at hi
    exact ⟨i, hi.1, hi.2⟩
  have key : ∀ k, (∃ i, i < k ∧ i < n ∧ listed.getD i true = false) → ∃ i, i < n ∧ listed.getD i true = false ∧ ∀ j, j < i → listed.getD j true = true := by
    intro k
    induction k with
    | zero => rintro ⟨i, hi, _⟩; omega
    | succ k ih =>
      rintro ⟨i, hi, hn, hf⟩
      by_cases hk : ∃ i, i < k ∧ i < n ∧ listed.getD i true = false
      · exact ih hk
      · refine ⟨i, hn, hf, fun j hj => ?_⟩
        cases hj2 : listed.getD j true with
        | true => rfl
        | false => exact absurd ⟨j, by omega, by omega, hj2⟩ hk
  obtain ⟨i, hi, hf⟩ := hex
  exact key (i + 1) ⟨i, by omega, hi, hf⟩

theorem rem_nil {listed : Array Bool} (h : unl n listed = 0) : rem items n listed = [] := by
  unfold rem
  rw [List.filterMap_eq_nil_iff]
  intro i hi
  unfold remF
  rw [if_pos]
  unfold unl at h
  have h0 := List.eq_nil_of_length_eq_zero h
  cases hl : listed.getD i true with
  | true => rfl
  | false =>
    have : i ∈ (List.range n).filter fun i => listed.getD i true == false := List.mem_filter.2 ⟨hi, by simp [hl]⟩
    rw [h0] at this; cases this

theorem unl_set {listed : Array Bool} {i : Nat} (hi : i < n) (hsz : listed.size = n) (hl : listed.getD i true = false) : unl n listed = unl n (listed.setIfInBounds i true) + 1 := by
  unfold unl
  rw [range_split hi]
  have hne : ∀ k, k ≠ i → ((listed.setIfInBounds i true).getD k true == false) = (listed.getD k true == false) := fun k hk => by
    simp only [Array.getD_eq_getD_getElem?, Array.getElem?_setIfInBounds_ne (Ne.symm hk)]
  have hself : ((listed.setIfInBounds i true).getD i true == false) = false := by
    simp [Array.getD_eq_getD_getElem?, Array.getElem?_setIfInBounds, hsz, hi]
  simp only [List.filter_append, List.filter_cons, hl, hself, List.length_append, beq_self_eq_true, if_true, Bool.false_eq_true, if_false, List.length_cons]
  have e1 : (List.range i).filter (fun k => (listed.setIfInBounds i true).getD k true == false) = (List.range i).filter (fun k => listed.getD k true == false) :=
    List.filter_congr fun k hk => hne k (by have := List.mem_range.1 hk; omega)
  have e2 : (List.range' (i + 1) (n - (i + 1))).filter (fun k => (listed.setIfInBounds i true).getD k true == false) = (List.range' (i + 1) (n - (i + 1))).filter (fun k => listed.getD k true == false) :=
    List.filter_congr fun k hk => hne k (by have := List.mem_range'_1.1 hk; omega)
  rw [e1, e2]; omega

theorem lin_ok (IH : FnOK P R) (IHr : RndOK P R) (S : Sched P N n ops items) {b : Frame} : ∀ (fuel t : Nat) (listed : Array Bool) {c : Cx} {a : Act} {w : World} {s : St}, listed.size = n → Closed ops listed → unl n listed ≤ fuel → RD R (rem items n listed) s s2 → SR P c s a.tmps Ts w → N ≤ a.tmps.size →
    Moves P c a Ts w s2 b [.inRegion ops (Region.linearise.go .any ops fuel t listed [])] [.inRegion ops []]
  | 0, t, listed, c, a, w, s, hsz, hcl, hf, hr, H, hN => by
    have h0 : unl n listed = 0 := by omega
    rw [rem_nil h0] at hr
    cases hr with
    | nil h =>
      simp only [Region.linearise.go, List.reverse_nil]
      exact .refl (H.sim h)
  | fuel + 1, t, listed, c, a, w, s, hsz, hcl, hf, hr, H, hN => by
    simp only [Region.linearise.go]
    show Moves P c a Ts w s2 b [.inRegion ops (match (Region.ready .any ops listed)[t % (Region.ready .any ops listed).length]? with
      | some i => Region.linearise.go .any ops fuel (t / (Region.ready .any ops listed).length) (listed.setIfInBounds i true) [i]
      | none => [].reverse)] [.inRegion ops []]
    cases hi : (Region.ready .any ops listed)[t % (Region.ready .any ops listed).length]? with
    | none =>
      have hnil : Region.ready .any ops listed = [] := by
        cases hr : Region.ready .any ops listed with
        | nil => rfl
        | cons x xs =>
          rw [hr] at hi
          have hlt : t % (x :: xs).length < (x :: xs).length := Nat.mod_lt _ (by simp)
          rw [List.getElem?_eq_none_iff] at hi
          omega
      have h0 : unl n listed = 0 := by
        refine Classical.byContradiction fun h => ?_
        obtain ⟨i, hin, hif, hmin⟩ := unl_pos h
        have : i ∈ Region.ready .any ops listed := by
          unfold Region.ready
          have hio : i < ops.size := by rw [S.size]; exact hin
          simp only [List.mem_filter, List.mem_range, Bool.and_eq_true, Bool.not_eq_true']
          refine ⟨hio, hif, ?_⟩
          have ho : ops[i]? = some ops[i] := Array.getElem?_eq_getElem hio
          rw [ho]
          simp only [Option.map_some, Option.getD_some]
          refine Array.all_eq_true_iff_forall_mem.2 fun e he => ?_
          cases hb : Region.binds .any e with
          | false => rfl
          | true =>
            simp only [Bool.not_true, Bool.false_or]
            have hbit : ((Region.before ops).getD i 0).testBit e.on = true := (before_bit ho e.on).2 ⟨e, by simpa using he, hb, .inl rfl⟩
            have hlt : e.on < i := by
              refine Classical.byContradiction fun hge => ?_
              have h1 := S.lt i hin
              have h2 := Nat.testBit_lt_two_pow (x := (Region.before ops).getD i 0) (i := e.on) (Nat.lt_of_lt_of_le h1 (Nat.pow_le_pow_right (by omega) (by omega)))
              rw [h2] at hbit; cases hbit
            have h3 := hmin e.on hlt
            have hlt2 : e.on < listed.size := by omega
            simp only [Array.getD_eq_getD_getElem?, Array.getElem?_eq_getElem hlt2, Option.getD_some] at h3 ⊢
            exact h3
        rw [hnil] at this; cases this
      rw [rem_nil h0] at hr
      cases hr with
      | nil h =>
        simp only [List.reverse_nil]
        exact .refl (H.sim h)
    | some i =>
      simp only
      rw [linearise_go_acc, List.reverse_singleton, List.singleton_append]
      have hmem := List.mem_of_getElem? hi
      obtain ⟨hio, hil, hbits⟩ := ready_bits hcl hmem
      have hin : i < n := by rw [← S.size]; exact hio
      have hxi : items[i]? = some (items[i]'(by rw [S.len]; exact hin)) := List.getElem?_eq_getElem _
      obtain ⟨A, B, e1, e2, hA⟩ := rem_split hin hsz hil hxi
      rw [e1] at hr
      have hr2 := hr.front fun y hy => by
        obtain ⟨j, hj, hjl, hjy⟩ := hA y hy
        rcases S.ind j i y _ hjy hxi hj with hb | hb
        · have := getD_ft (hbits j hb)
          rw [hjl] at this; cases this
        · exact hb
      cases hr2 with
      | cons h1 hx hr3 =>
        obtain ⟨oo, hoo, hto⟩ := S.op i _ hxi
        obtain ⟨c1, a1, w1, H1, t1, hs1, hd1, st1⟩ := oper_step1 IH IHr (b := b) hoo hto (H.sim h1) hN hx (Region.linearise.go .any ops fuel (t / (Region.ready .any ops listed).length) (listed.setIfInBounds i true) [])
        have hcl2 : Closed ops (listed.setIfInBounds i true) := by
          have up : ∀ j, listed.getD j false = true → (listed.setIfInBounds i true).getD j false = true := fun j hj => by
            simp only [Array.getD_eq_getD_getElem?] at hj ⊢
            by_cases e : i = j
            · subst e; simp [Array.getElem?_setIfInBounds, hsz, hin]
            · rw [Array.getElem?_setIfInBounds_ne e]; exact hj
          intro k hk j hj
          by_cases e : i = k
          · subst e; exact up j (hbits j hj)
          · refine up j (hcl k ?_ j hj)
            simp only [Array.getD_eq_getD_getElem?] at hk ⊢
            rwa [Array.getElem?_setIfInBounds_ne e] at hk
        rw [← e2] at hr3
        obtain ⟨c2, a2, w2, H2, t2, hs2, hd2, st2⟩ := lin_ok IH IHr S (b := b) fuel (t / (Region.ready .any ops listed).length) (listed.setIfInBounds i true) (by simpa using hsz) hcl2 (by have := unl_set hin hsz hil; omega) hr3 H1 (by omega)
        exact ⟨c2, a2, w2, H2, t1.trans t2, hs2.trans hs1, hd2.trans hd1, fun k cs => (st1 k cs).trans (st2 k cs)⟩

theorem corr_len {N : Nat} {ops : Array Oper} : ∀ {is : List Nat} {l : List AOper}, Corr P N ops is l → is.length = l.length
  | [], [], _ => rfl
  | _ :: _, _ :: _, ⟨_, h⟩ => by simp [corr_len h]
  | [], _ :: _, h => h.elim
  | _ :: _, [], h => h.elim
theorem corr_at {N : Nat} {ops : Array Oper} : ∀ {is : List Nat} {l : List AOper} {i k : Nat} {o : AOper}, Corr P N ops is l → l[i]? = some o → is[i]? = some k → ∃ oo, ops[k]? = some oo ∧ toOper P N ops oo = some { o with fz := true }
  | k :: is, o :: l, 0, _, _, ⟨h, _⟩, h1, h2 => by simp at h1 h2; subst h1; subst h2; exact h
  | k :: is, o :: l, i + 1, _, _, ⟨_, h⟩, h1, h2 => corr_at h (by simpa using h1) (by simpa using h2)
  | [], [], _, _, _, _, h1, _ => by simp at h1
  | [], _ :: _, _, _, _, h, _, _ => h.elim
  | _ :: _, [], _, _, _, h, _, _ => h.elim
theorem corr_get {N : Nat} {ops : Array Oper} {l : List AOper} (h : Corr P N ops (List.range ops.size) l) {i : Nat} {o : AOper} (ho : l[i]? = some o) : ∃ oo, ops[i]? = some oo ∧ toOper P N ops oo = some { o with fz := true } := by
  have hl := corr_len h
  have hi : i < l.length := (List.getElem?_eq_some_iff.1 ho).1
  rw [List.length_range] at hl
  exact corr_at h ho (by rw [List.getElem?_range (by omega)])

theorem draw_ok (hm : P.follows .mixedOrders = true) (IH : FnOK P R) (IHr : RndOK P R) : DrawOK P R := by
  intro q l s s2 hrun N id ops draw hreg c a Ts w b H hN
  unfold toReg at hreg
  split at hreg
  · cases hreg
  · rename_i l' hl'
    split at hreg
    · rename_i hdr
      dsimp only at hreg
      split at hreg
      · rename_i hok
        simp only [Option.some.injEq, ACode.reg.injEq, and_true] at hreg
        obtain ⟨hq, hl⟩ := hreg
        have hdraw : draw = true := hdr
        subst hdraw
        rw [hl] at hl'
        have hcorr := corr_range hl'
        have hsz : ops.size = l.length := by have := corr_len hcorr; simpa using this
        have hql : q.length = l.length := by rw [← hq, hl]; simp
        have S : Sched P N l.length ops (q.zip l) := by
          rw [hq] at hok
          unfold regOk at hok
          simp only [Bool.and_eq_true, List.all_eq_true, Bool.or_eq_true, Bool.not_eq_true', decide_eq_true_eq, decide_eq_false_iff_not] at hok
          obtain ⟨ok1, ok2⟩ := hok
          have hz : ∀ (i : Nat) (x : Chk × AOper), (q.zip l)[i]? = some x → (((x.1, { x.2 with fz := true }), i) : (Chk × AOper) × Nat) ∈ (q.zip l').zipIdx := fun i x hx => by
            rw [List.mem_zipIdx_iff_getElem?]
            rw [List.getElem?_zip_eq_some] at hx
            show (q.zip l')[i]? = some (x.1, { x.2 with fz := true })
            rw [List.getElem?_zip_eq_some]
            exact ⟨hx.1, by rw [hl, List.getElem?_map, hx.2]; rfl⟩
          refine ⟨hsz, by simp [hql], fun i x hx => ?_, fun i hi => ?_, fun i j x y hx hy hij => ?_⟩
          · rw [List.getElem?_zip_eq_some] at hx
            exact corr_get hcorr hx.2
          · have hx : (q.zip l)[i]? = some ((q.zip l)[i]'(by simp [hql]; exact hi)) := List.getElem?_eq_getElem _
            exact ok1 _ (hz i _ hx)
          · rcases ok2 _ (hz i x hx) _ (hz j y hy) with (h | h) | h
            · exact absurd hij h
            · exact .inl h
            · exact .inr h
        obtain ⟨c0, H0, t0⟩ := end_ok H none (dsts l)
        obtain ⟨H1, t1⟩ := H0.grew (Grew.drew w)
        have H1 : SR P c0 (dropK (dsts l) s) a.tmps Ts w.drew := H1
        have hr : RD R (rem (q.zip l) l.length (Array.replicate ops.size false)) (dropK (dsts l) s) s2 := by
          have e : rem (q.zip l) l.length (Array.replicate ops.size false) = q.zip l := by
            refine List.ext_getElem? fun i => ?_
            have hrem : rem (q.zip l) l.length (Array.replicate ops.size false) = (List.range l.length).filterMap fun i => (q.zip l)[i]? :=
              fm_congr fun i hi => by
                unfold remF
                rw [if_neg]
                have := List.mem_range.1 hi
                simp [Array.getD_eq_getD_getElem?, hsz, this]
            rw [hrem]
            have hall : ∀ {α : Type} (m : List α) (k : Nat), m.length = k → (List.range k).filterMap (fun i => m[i]?) = m := by
              intro α m
              induction m with
              | nil => intro k hk; simp at hk; subst hk; rfl
              | cons x m ih =>
                intro k hk
                cases k with
                | zero => simp at hk
                | succ k =>
                  rw [List.range_succ_eq_map, List.filterMap_cons, List.filterMap_map]
                  simp only [List.getElem?_cons_zero, Function.comp_def, List.getElem?_cons_succ]
                  rw [ih k (by simpa using hk)]
            rw [hall (q.zip l) l.length (by simp [hql])]
          rw [e]; exact RD.of_run hrun
        obtain ⟨c2, a2, w2, H2, t2, hs2, hd2, st2⟩ := lin_ok IH IHr S (b := b) ops.size (w.tape w.drawn (.order b.fn id)) (Array.replicate ops.size false) (by simp [hsz]) (fun i hi => by
          simp only [Array.getD_eq_getD_getElem?] at hi
          by_cases h : i < ops.size
          · simp [h] at hi
          · simp [h] at hi) (by
          unfold unl
          have := List.length_filter_le (fun i => (Array.replicate ops.size false).getD i true == false) (List.range l.length)
          rw [List.length_range] at this; omega) hr H1 hN
        refine ⟨c2, a2, w2, H2, (t0.trans t1).trans t2, hs2, hd2, fun k cs => ?_⟩
        have hsch : ∀ t, Region.schedule true ops t = Region.linearise.go .any ops ops.size t (Array.replicate ops.size false) [] := fun t => by
          unfold Region.schedule Region.linearise; simp
        refine Steps.head stepR_region_draw ?_
        rw [hm, hsch]
        exact (st2 k cs).trans (.one stepR_region_end)
      · cases hreg
    · cases hreg

/-- THE WHOLE: where the evaluation answers, the machine's call comes back with that. -/
theorem Run_sound (hm : P.follows .mixedOrders = true) {E : FuncId → Option AFn} (hE : EOK P E) : FnOK P (Run E) := Run_ok hE fun R h1 h2 => draw_ok hm h1 h2
#print axioms Run_sound
end
end Go.Zv
