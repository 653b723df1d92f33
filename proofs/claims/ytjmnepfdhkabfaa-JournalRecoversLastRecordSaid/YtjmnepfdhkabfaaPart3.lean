/- Part of the proof: the evaluation of the program's code and its tie to the machine, or what functions of the program compute over it. -/
import Derived.Test.YtjmnepfdhkabfaaPart2
import Derived.Test.YtjmnepfdhkabfaaEng6
import Derived.KernelRfl
namespace Go.Proofs.Ytjmnepfdhkabfaa
set_option maxRecDepth 100000
set_option maxHeartbeats 4000000
set_option linter.unusedSimpArgs false
set_option linter.unusedVariables false
open Go Go.Zv
theorem pad_seq (r : Rec) : ((pad r).drop 1).take 4 = be4 r.seq := by simp [pad, hd, be4]
theorem enc_of_pad {r s : Rec} (h : pad r = pad s) : enc r = enc s := by
  unfold enc; rw [h, ← pad_seq r, ← pad_seq s, h]
theorem set_same {l : List UInt8} {k : Nat} {x y : UInt8} (h : l[k]? = some x) (e : l.set k y = l) : y = x := by
  have hk := (List.getElem?_eq_some_iff.1 h).1
  have := List.getElem?_set_self (l := l) (i := k) (a := y) hk
  rw [e, h] at this
  exact (Option.some.inj this).symm
theorem flip_none {r : Rec} (hr : OKr r) {i : Nat} {x y : UInt8} (hx : (enc r)[i]? = some x) (hy : y ≠ x) : dec ((enc r).set i y) = none := by
  cases h : dec ((enc r).set i y) with
  | none => rfl
  | some s =>
    exfalso
    obtain ⟨hs, he⟩ := dec_some h
    have hi := (List.getElem?_eq_some_iff.1 hx).1
    rw [enc_len hr] at hi
    have lr := pad_len hr
    have ls := pad_len hs
    by_cases hi2 : i < 58
    · have hx' : (pad r)[i]? = some x := by
        unfold enc at hx; rwa [List.getElem?_append_left (by omega)] at hx
      unfold enc at he
      rw [List.set_append_left _ _ (by omega)] at he
      obtain ⟨e1, e2⟩ := List.append_inj he (by rw [List.length_set]; omega)
      obtain ⟨e3, e4⟩ := List.append_inj e2 (by simp [be2])
      have l1 := sumB_lt (pad s)
      have l2 := sumB_lt (pad r)
      have e5 := be2_inj l1.1 (by omega) l2.1 (by omega) e3
      rw [e1] at e5
      have e6 := sm_set (pad r) 0 i x y hx'
      unfold sumB at e5
      have bx : x.toNat < 256 := x.toNat_lt
      have by' : y.toNat < 256 := y.toNat_lt
      have hne : x.toNat ≠ y.toNat := fun e => hy (UInt8.toNat_inj.1 e).symm
      generalize sm (pad r) 0 = A at *
      generalize sm ((pad r).set i y) 0 = B at *
      have key : ∃ d : Int, (B : Int) = A + d ∧ d ≠ 0 ∧ -14790 ≤ d ∧ d ≤ 14790 := by
        refine ⟨((0 : Nat) + (i : Int) + 1) * (y.toNat - x.toNat), e6, ?_, ?_, ?_⟩
        · intro e
          rcases Int.mul_eq_zero.1 e with e | e <;> omega
        · have h1 : ((0 : Nat) + (i : Int) + 1) * (x.toNat - y.toNat : Int) ≤ ((i : Int) + 1) * 255 := by
            have : ((0 : Nat) + (i : Int) + 1) = (i : Int) + 1 := by omega
            rw [this]; exact Int.mul_le_mul_of_nonneg_left (by omega) (by omega)
          have h2 : ((0 : Nat) + (i : Int) + 1) * (y.toNat - x.toNat : Int) = -(((0 : Nat) + (i : Int) + 1) * (x.toNat - y.toNat : Int)) := by rw [← Int.mul_neg]; congr 1; omega
          rw [h2]; omega
        · have h1 : ((0 : Nat) + (i : Int) + 1) * (y.toNat - x.toNat : Int) ≤ ((i : Int) + 1) * 255 := by
            have : ((0 : Nat) + (i : Int) + 1) = (i : Int) + 1 := by omega
            rw [this]; exact Int.mul_le_mul_of_nonneg_left (by omega) (by omega)
          omega
      obtain ⟨d, k1, k2, k3, k4⟩ := key
      omega
    · have he2 := he
      unfold enc at he2
      rw [List.set_append_right _ _ (by omega)] at he2
      obtain ⟨e1, e2⟩ := List.append_inj he2 (by omega)
      rw [enc_of_pad e1] at he
      exact hy (set_same hx he.symm)
/-- the number at a sector's end -/
def es (b : List UInt8) : Int := n4 (b[60]?.getD 0) (b[61]?.getD 0) (b[62]?.getD 0) (b[63]?.getD 0)
theorem enc_tail {r : Rec} (h : OKr r) {j : Nat} (hj : j < 4) {v : UInt8} (hv : (be4 r.seq)[j]? = some v) : (enc r)[60 + j]? = some v := by
  have l3 := pad_len h
  have l4 : (be2 (sumB (pad r))).length = 2 := rfl
  unfold enc
  rw [List.getElem?_append_right (by omega), List.getElem?_append_right (by omega), l3, l4, show 60 + j - 58 - 2 = j by omega]; exact hv
theorem es_enc {r : Rec} (h : OKr r) : es (enc r) = r.seq := by
  have a0 := enc_tail h (j := 0) (v := by8 (r.seq / 16777216)) (by omega) rfl
  have a1 := enc_tail h (j := 1) (v := by8 (r.seq / 65536)) (by omega) rfl
  have a2 := enc_tail h (j := 2) (v := by8 (r.seq / 256)) (by omega) rfl
  have a3 := enc_tail h (j := 3) (v := by8 r.seq) (by omega) rfl
  simp only [Nat.reduceAdd] at a0 a1 a2 a3
  unfold es
  rw [a0, a1, a2, a3]
  simp only [Option.getD_some]
  exact n4_be _ (by have := h.seq; omega) (by have := h.seq; omega)
theorem es_dec {b r} (h : dec b = some r) : r.seq = es b := by
  obtain ⟨h1, h2⟩ := dec_some h
  rw [← h2, es_enc h1]
theorem es_nonneg (b) : 0 ≤ es b := by unfold es n4; omega
theorem es_torn {r : Rec} (h : OKr r) (hs : r.seq ≤ 255) {p : List UInt8} (hp : p.length = 64) (hq : es p ≤ 255) {k : Nat} (hk : k < 64) : es (over ((enc r).take k) p) = es p := by
  have l := enc_len h
  have g : ∀ j, (over ((enc r).take k) p)[j]? = if j < k then (enc r)[j]? else p[j]? := by
    intro j
    unfold over
    have l2 : ((enc r).take k).length = k := by rw [List.length_take]; omega
    rw [List.getElem?_append, l2]
    by_cases hj : j < k
    · rw [if_pos hj, if_pos hj, List.getElem?_take, if_pos hj]
    · rw [if_neg hj, if_neg hj, List.getElem?_drop]; congr 1; omega
  have a0 := enc_tail h (j := 0) (v := by8 (r.seq / 16777216)) (by omega) rfl
  have a1 := enc_tail h (j := 1) (v := by8 (r.seq / 65536)) (by omega) rfl
  have a2 := enc_tail h (j := 2) (v := by8 (r.seq / 256)) (by omega) rfl
  have hseq := h.seq
  have z0 : by8 (r.seq / 16777216) = 0 := by rw [show r.seq / 16777216 = 0 by omega]; rfl
  have z1 : by8 (r.seq / 65536) = 0 := by rw [show r.seq / 65536 = 0 by omega]; rfl
  have z2 : by8 (r.seq / 256) = 0 := by rw [show r.seq / 256 = 0 by omega]; rfl
  rw [z0] at a0; rw [z1] at a1; rw [z2] at a2
  simp only [Nat.reduceAdd] at a0 a1 a2
  have b0 : ∀ x : UInt8, x.toNat = 0 → x = 0 := fun x hx => UInt8.toNat_inj.1 hx
  unfold es at hq ⊢
  rw [g 60, g 61, g 62, g 63, if_neg (show ¬ 63 < k by omega)]
  have q0 : (p[60]?.getD 0) = 0 := b0 _ (by unfold n4 at hq; omega)
  have q1 : (p[61]?.getD 0) = 0 := b0 _ (by unfold n4 at hq; omega)
  have q2 : (p[62]?.getD 0) = 0 := b0 _ (by unfold n4 at hq; omega)
  have c0 : ((if 60 < k then (enc r)[60]? else p[60]?).getD 0) = (p[60]?.getD 0) := by split <;> simp [a0, q0]
  have c1 : ((if 61 < k then (enc r)[61]? else p[61]?).getD 0) = (p[61]?.getD 0) := by split <;> simp [a1, q1]
  have c2 : ((if 62 < k then (enc r)[62]? else p[62]?).getD 0) = (p[62]?.getD 0) := by split <;> simp [a2, q2]
  rw [c0, c1, c2]
theorem es_zs : es zs = 0 := by unfold es zs n4; simp
theorem dec_of_es0 {b} (h : es b = 0) : dec b = none := by
  cases hd : dec b with
  | none => rfl
  | some r =>
    have h1 := es_dec hd
    have h2 := (dec_some hd).1.seq
    omega
end Go.Proofs.Ytjmnepfdhkabfaa

namespace Go.Proofs.Ytjmnepfdhkabfaa
set_option maxRecDepth 100000
set_option maxHeartbeats 4000000
set_option linter.unusedSimpArgs false
set_option linter.unusedVariables false
open Go Go.Zv
def wrg (s : List (List UInt8)) (i : Nat) (x : List UInt8) : List (List UInt8) := s.set i (over x (s[i]?.getD []))
theorem wrg_len (s i x) : (wrg s i x).length = s.length := by simp [wrg]
theorem over_over (x y p : List UInt8) (h : x.length ≤ y.length) : over y (over x p) = over y p := by
  unfold over
  rw [List.drop_append, List.drop_of_length_le h, List.nil_append, List.drop_drop]
  congr 2; omega
theorem wrg_same (s : List (List UInt8)) (i : Nat) (x y) (hi : i < s.length) (h : x.length ≤ y.length) : wrg (wrg s i x) i y = wrg s i y := by
  unfold wrg
  rw [List.set_set, List.getElem?_set_self hi, List.getElem?_eq_getElem hi]
  simp only [Option.getD_some]
  rw [over_over _ _ _ h]
theorem wrg_comm (s : List (List UInt8)) (i j : Nat) (x y) (h : i ≠ j) : wrg (wrg s i x) j y = wrg (wrg s j y) i x := by
  unfold wrg
  rw [List.getElem?_set_ne h, List.getElem?_set_ne (Ne.symm h), List.set_comm _ _ h]
def okw (s : List (List UInt8)) (i : Int) (x : List UInt8) : Prop := 0 ≤ i ∧ i < s.length ∧ x.length ≤ 64
theorem wr_free (s : List (List UInt8)) (t : Int) (i : Int) (x : List UInt8) : (¬ okw s i x ∧ wr ⟨s, -1, t, false⟩ i x = (⟨s, -1, t, false⟩, 1)) ∨ (okw s i x ∧ wr ⟨s, -1, t, false⟩ i x = (⟨wrg s i.toNat x, -1, t, false⟩, 0)) := by
  rcases wr_cases ⟨s, -1, t, false⟩ i x with ⟨h1, h⟩ | ⟨_, h1, h⟩ | ⟨h1, _, h2, h⟩ | ⟨_, h1, h2, h⟩
  · cases h1
  · exact .inl ⟨h1, h⟩
  · simp at h2
  · exact .inr ⟨h1, by rw [h]; simp [wrg]⟩
theorem ok_free {d : Dsk} (h : OKd d) : OKd ⟨d.sec, -1, d.torn, false⟩ := ⟨h.len1, h.len2, h.all, .inl rfl, h.torn0, h.torn1⟩
end Go.Proofs.Ytjmnepfdhkabfaa

namespace Go.Proofs.Ytjmnepfdhkabfaa
set_option maxRecDepth 100000
set_option maxHeartbeats 4000000
set_option linter.unusedSimpArgs false
set_option linter.unusedVariables false
open Go Go.Zv
def zrec : Rec := ⟨0, 0, 0, 0, 0, 0, 0, 0, 0, 0, [], 0⟩
def rstep (n : Nat) (st : Rec × Int × Int) (i : Nat) (b : List UInt8) : Rec × Int × Int :=
  match dec b with
  | some r => if r.seq > st.1.seq then (r, r.seq + 1, (((i + 1) % n : Nat) : Int)) else st
  | none => st
def recL (n : Nat) : List (List UInt8) → Nat → Rec × Int × Int → Rec × Int × Int
  | [], _, st => st
  | b :: l, i, st => recL n l (i + 1) (rstep n st i b)
def recv (s : List (List UInt8)) : Rec × Int × Int := recL s.length s 0 (zrec, 1, 0)
theorem recL_cons (n b l i st) : recL n (b :: l) i st = recL n l (i + 1) (rstep n st i b) := rfl
theorem recL_none {n : Nat} : ∀ {l : List (List UInt8)} {i : Nat} {st}, (∀ b ∈ l, dec b = none) → recL n l i st = st
  | [], _, _, _ => rfl
  | b :: l, i, st, h => by
    have e : rstep n st i b = st := by unfold rstep; rw [h b (by simp)]
    rw [recL_cons, e]; exact recL_none fun c hc => h c (by simp [hc])
theorem recL_low {n : Nat} {r : Rec} {x y : Int} : ∀ {l : List (List UInt8)} {i : Nat}, (∀ b ∈ l, es b < r.seq) → recL n l i (r, x, y) = (r, x, y)
  | [], _, _ => rfl
  | b :: l, i, h => by
    have e : rstep n (r, x, y) i b = (r, x, y) := by
      unfold rstep
      cases hd : dec b with
      | none => rfl
      | some s =>
        have h1 := es_dec hd
        have h2 := h b (by simp)
        simp only
        rw [if_neg (by omega)]
    rw [recL_cons, e]; exact recL_low fun c hc => h c (by simp [hc])
theorem recL_find {n : Nat} {r : Rec} (hr : OKr r) : ∀ {l : List (List UInt8)} {i p : Nat} {st : Rec × Int × Int}, l[p]? = some (enc r) → (∀ j b, j ≠ p → l[j]? = some b → es b < r.seq) → st.1.seq < r.seq →
    recL n l i st = (r, r.seq + 1, (((i + p + 1) % n : Nat) : Int))
  | [], i, p, st, h, _, _ => by simp at h
  | b :: l, i, 0, st, h, ho, hs => by
    simp only [List.getElem?_cons_zero, Option.some.injEq] at h; subst h
    have e : rstep n st i (enc r) = (r, r.seq + 1, (((i + 1) % n : Nat) : Int)) := by unfold rstep; rw [dec_enc hr]; simp only; rw [if_pos hs]
    rw [recL_cons, e]
    exact recL_low fun c hc => by
      obtain ⟨j, hj⟩ := List.getElem?_of_mem hc
      exact ho (j + 1) c (by omega) (by simpa using hj)
  | b :: l, i, p + 1, st, h, ho, hs => by
    have h2 : (rstep n st i b).1.seq < r.seq := by
      unfold rstep
      cases hd : dec b with
      | none => exact hs
      | some s =>
        have h1 := es_dec hd
        have h3 := ho 0 b (by omega) rfl
        simp only
        split
        · simp only; omega
        · exact hs
    rw [recL_cons, recL_find hr (l := l) (i := i + 1) (p := p) (by simpa using h) (fun j c hj hc => ho (j + 1) c (by omega) (by simpa using hc)) h2]
    rw [show i + 1 + p + 1 = i + (p + 1) + 1 by omega]
/-- the journal and the last record that is whole -/
structure JI (d : Dsk) (nx at_ : Int) (last : Rec) : Prop where
  ok : OKd d
  nn : 0 ≤ last.seq
  zero : last.seq = 0 → last = zrec ∧ nx = 1 ∧ at_ = 0 ∧ ∀ b ∈ d.sec, es b = 0
  pos : last.seq ≠ 0 → OKr last ∧ nx = last.seq + 1 ∧ ∃ p, d.sec[p]? = some (enc last) ∧ at_ = (((p + 1) % d.sec.length : Nat) : Int) ∧ ∀ i b, i ≠ p → d.sec[i]? = some b → es b < last.seq
theorem JI.rec_ok {d nx at_ last} (h : JI d nx at_ last) : recv d.sec = (last, nx, at_) := by
  by_cases h0 : last.seq = 0
  · obtain ⟨rfl, rfl, rfl, hz⟩ := h.zero h0
    exact recL_none fun b hb => dec_of_es0 (hz b hb)
  · obtain ⟨h1, rfl, p, h2, rfl, h3⟩ := h.pos h0
    have hn := h.nn
    unfold recv
    rw [recL_find h1 h2 h3 (show zrec.seq < last.seq by have := h.nn; simp only [zrec]; omega), Nat.zero_add]
theorem JI.nx_eq {d nx at_ last} (h : JI d nx at_ last) : nx = last.seq + 1 := by
  by_cases h0 : last.seq = 0
  · obtain ⟨rfl, rfl, _⟩ := h.zero h0; rfl
  · exact (h.pos h0).2.1
theorem JI.at_lt {d nx at_ last} (h : JI d nx at_ last) : 0 ≤ at_ ∧ at_ < d.sec.length := by
  have hl := h.ok.len1
  by_cases h0 : last.seq = 0
  · obtain ⟨rfl, rfl, rfl, _⟩ := h.zero h0; omega
  · obtain ⟨_, _, p, _, rfl, _⟩ := h.pos h0
    have := Nat.mod_lt (p + 1) (show 0 < d.sec.length by omega)
    omega
theorem JI.es_le {d nx at_ last} (h : JI d nx at_ last) {i : Nat} {b : List UInt8} (hb : d.sec[i]? = some b) : es b ≤ last.seq := by
  by_cases h0 : last.seq = 0
  · have := (h.zero h0).2.2.2 b (List.mem_of_getElem? hb); omega
  · obtain ⟨h1, _, p, hp, _, h3⟩ := h.pos h0
    by_cases hi : i = p
    · subst hi; rw [hp] at hb; cases hb; rw [es_enc h1]; omega
    · have := h3 i b hi hb; omega
theorem over_full {x p : List UInt8} (h : p.length ≤ x.length) : over x p = x := by unfold over; rw [List.drop_of_length_le h, List.append_nil]
/-- a record that is written whole is the last one -/
theorem JI.put {d nx at_ last} (h : JI d nx at_ last) {x : Rec} (hx : OKr x) (hs : x.seq = nx) {f t : Int} {w : Bool} (hf : f = -1 ∨ (1 ≤ f ∧ f ≤ 1099511627776)) (ht : 0 ≤ t) (ht2 : t ≤ 64) (old : List UInt8) (ho : old.length = 64) :
    JI ⟨d.sec.set at_.toNat (over (enc x) old), f, t, w⟩ (nx + 1) (((at_.toNat + 1) % d.sec.length : Nat) : Int) x := by
  have hat := h.at_lt
  have hl := enc_len hx
  rw [over_full (by omega)]
  refine ⟨⟨by simp only [List.length_set]; exact h.ok.len1, by simp only [List.length_set]; exact h.ok.len2, fun s hs => ?_, hf, ht, ht2⟩, by have := hx.seq; omega, fun h0 => by have := hx.seq; omega, fun _ => ⟨hx, by rw [hs], at_.toNat, ?_, ?_, fun i b hi hb => ?_⟩⟩
  · rcases List.mem_or_eq_of_mem_set hs with h' | rfl
    · exact h.ok.all s h'
    · exact hl
  · simp only; exact List.getElem?_set_self (by omega)
  · simp only [List.length_set]
  · simp only at hb
    rw [List.getElem?_set_ne (by omega)] at hb
    have := h.es_le hb
    have := h.nx_eq
    omega
/-- a write that is torn leaves the last record -/
theorem JI.torn {d nx at_ last} (h : JI d nx at_ last) (h2 : 2 ≤ d.sec.length) {x : Rec} (hx : OKr x) (hs : x.seq ≤ 255) (hlast : last.seq ≤ 255) {k : Nat} (hk : k < 64) {f t : Int} {w : Bool} (hf : f = -1 ∨ (1 ≤ f ∧ f ≤ 1099511627776)) (ht : 0 ≤ t) (ht2 : t ≤ 64) :
    JI ⟨d.sec.set at_.toNat (over ((enc x).take k) (d.sec[at_.toNat]?.getD [])), f, t, w⟩ nx at_ last := by
  have hat := h.at_lt
  have hl := enc_len hx
  have hget : d.sec[at_.toNat]? = some (d.sec[at_.toNat]'(by omega)) := List.getElem?_eq_getElem _
  have hpl := h.ok.all _ (List.getElem_mem (l := d.sec) (n := at_.toNat) (by omega))
  have hes := h.es_le hget
  rw [hget, Option.getD_some]
  generalize d.sec[at_.toNat]'(by omega) = p at *
  have htorn := es_torn hx hs hpl (by omega) hk
  have hlen : (over ((enc x).take k) p).length = 64 := by rw [over_len (by rw [List.length_take]; omega), hpl]
  refine ⟨⟨by simp only [List.length_set]; exact h.ok.len1, by simp only [List.length_set]; exact h.ok.len2, fun s hs => ?_, hf, ht, ht2⟩, h.nn, fun h0 => ?_, fun h0 => ?_⟩
  · rcases List.mem_or_eq_of_mem_set hs with h' | rfl
    · exact h.ok.all s h'
    · exact hlen
  · obtain ⟨a1, a2, a3, a4⟩ := h.zero h0
    refine ⟨a1, a2, a3, fun b hb => ?_⟩
    rcases List.mem_or_eq_of_mem_set hb with h' | rfl
    · exact a4 b h'
    · rw [htorn]; exact a4 p (List.mem_of_getElem? hget)
  · obtain ⟨a1, a2, q, a3, a4, a5⟩ := h.pos h0
    have hq := (List.getElem?_eq_some_iff.1 a3).1
    have hne : at_.toNat ≠ q := by
      rw [a4, Int.toNat_natCast]
      by_cases hw : q + 1 < d.sec.length
      · rw [Nat.mod_eq_of_lt hw]; omega
      · have : q + 1 = d.sec.length := by omega
        rw [this, Nat.mod_self]; omega
    refine ⟨a1, a2, q, ?_, ?_, fun i b hi hb => ?_⟩
    · simp only; rw [List.getElem?_set_ne hne]; exact a3
    · simp only [List.length_set]; exact a4
    · simp only at hb
      by_cases hia : at_.toNat = i
      · subst hia
        rw [List.getElem?_set_self (by omega)] at hb
        cases hb
        rw [htorn]
        exact a5 _ p hi hget
      · rw [List.getElem?_set_ne hia] at hb
        exact a5 i b hi hb
theorem JI_new (n : Nat) (h1 : 1 ≤ n) (h2 : n ≤ 64) {f t : Int} (hf : f = -1 ∨ (1 ≤ f ∧ f ≤ 1099511627776)) (ht : 0 ≤ t) (ht2 : t ≤ 64) : JI ⟨(mk n).sec, f, t, false⟩ 1 0 zrec := by
  have h := ok_mk n h1 h2
  refine ⟨⟨h.len1, h.len2, h.all, hf, ht, ht2⟩, by simp [zrec], fun _ => ⟨rfl, rfl, rfl, fun b hb => ?_⟩, fun h => absurd rfl h⟩
  have := List.eq_of_mem_replicate (show b ∈ List.replicate n zs from hb)
  rw [this, es_zs]
theorem JI.up {d nx at_ last} (h : JI d nx at_ last) (f t : Int) (w : Bool) (hf : f = -1 ∨ (1 ≤ f ∧ f ≤ 1099511627776)) (ht : 0 ≤ t) (ht2 : t ≤ 64) : JI ⟨d.sec, f, t, w⟩ nx at_ last :=
  ⟨⟨h.ok.len1, h.ok.len2, h.ok.all, hf, ht, ht2⟩, h.nn, h.zero, h.pos⟩
end Go.Proofs.Ytjmnepfdhkabfaa

namespace Go.Proofs.Ytjmnepfdhkabfaa
set_option maxRecDepth 100000
set_option maxHeartbeats 4000000
set_option linter.unusedSimpArgs false
set_option linter.unusedVariables false
open Go Go.Zv
theorem wb0 (x : UInt8) : IntKind.i64.wrap (x.toNat : Int) = x.toNat := by have := x.toNat_lt; exact wrap_small (by omega) (by omega)
theorem wb1 (x : UInt8) : IntKind.i64.wrap ((x.toNat : Int) * 256) = x.toNat * 256 := by have := x.toNat_lt; exact wrap_small (by omega) (by omega)
theorem wb2 (x y : UInt8) : IntKind.i64.wrap (((x.toNat : Int) * 256 + y.toNat) * 256) = (x.toNat * 256 + y.toNat) * 256 := by have := x.toNat_lt; have := y.toNat_lt; exact wrap_small (by omega) (by omega)
theorem wb3 (x y z : UInt8) : IntKind.i64.wrap ((((x.toNat : Int) * 256 + y.toNat) * 256 + z.toNat) * 256) = ((x.toNat * 256 + y.toNat) * 256 + z.toNat) * 256 := by have := x.toNat_lt; have := y.toNat_lt; have := z.toNat_lt; exact wrap_small (by omega) (by omega)
theorem ob1 (x : UInt8) : IntKind.i64.wrap (((bits .i64 0 ||| bits .i64 (x.toNat : Int)).toNat : Nat) : Int) = x.toNat := by
  have := x.toNat_lt
  have h := or8 (x := 0) (y := x.toNat) (by omega) (by omega) (by omega) (by omega)
  simpa using h
theorem ob2 (x y : UInt8) : IntKind.i64.wrap (((bits .i64 ((x.toNat : Int) * 256) ||| bits .i64 (y.toNat : Int)).toNat : Nat) : Int) = x.toNat * 256 + y.toNat := by
  have := x.toNat_lt; have := y.toNat_lt
  exact or8 (by omega) (by omega) (by omega) (by omega)
theorem ob3 (x y z : UInt8) : IntKind.i64.wrap (((bits .i64 (((x.toNat : Int) * 256 + y.toNat) * 256) ||| bits .i64 (z.toNat : Int)).toNat : Nat) : Int) = (x.toNat * 256 + y.toNat) * 256 + z.toNat := by
  have := x.toNat_lt; have := y.toNat_lt; have := z.toNat_lt
  exact or8 (by omega) (by omega) (by omega) (by omega)
theorem ob4 (x y z w : UInt8) : IntKind.i64.wrap (((bits .i64 ((((x.toNat : Int) * 256 + y.toNat) * 256 + z.toNat) * 256) ||| bits .i64 (w.toNat : Int)).toNat : Nat) : Int) = ((x.toNat * 256 + y.toNat) * 256 + z.toNat) * 256 + w.toNat := by
  have := x.toNat_lt; have := y.toNat_lt; have := z.toNat_lt; have := w.toNat_lt
  exact or8 (by omega) (by omega) (by omega) (by omega)
theorem wbm (x : UInt8) (k : Int) (h : -100 ≤ k ∧ k ≤ 100) : IntKind.i64.wrap ((x.toNat : Int) - k) = x.toNat - k := by have := x.toNat_lt; exact wrap_small (by omega) (by omega)
def decR (b : List UInt8) : LV := match dec b with
  | some r => .tup [rv r, .int .i64 0]
  | none => .tup [rv zrec, .int .i64 4]
end Go.Proofs.Ytjmnepfdhkabfaa

namespace Go.Proofs.Ytjmnepfdhkabfaa
set_option maxRecDepth 100000
set_option maxHeartbeats 4000000
set_option linter.unusedSimpArgs false
set_option linter.unusedVariables false
open Go Go.Zv
theorem dec3 (T0 : List (List LV)) (sq st : Int) (d7 d8 d9 d10 d11 d12 d13 : List (List LV)) (x7 x8 x9 x10 x11 x12 : UInt8) (h7 : d7[0]? = some [.int .u8 x7.toNat]) (l7 : d7.length = 57) (e7 : d7.drop 1 = d8) (t7 : d7.take 57 = d7) (a7 : (d7.all fun x => x.length == 1) = true) (h8 : d8[0]? = some [.int .u8 x8.toNat]) (l8 : d8.length = 56) (e8 : d8.drop 1 = d9) (t8 : d8.take 56 = d8) (a8 : (d8.all fun x => x.length == 1) = true) (h9 : d9[0]? = some [.int .u8 x9.toNat]) (l9 : d9.length = 55) (e9 : d9.drop 1 = d10) (t9 : d9.take 55 = d9) (a9 : (d9.all fun x => x.length == 1) = true) (h10 : d10[0]? = some [.int .u8 x10.toNat]) (l10 : d10.length = 54) (e10 : d10.drop 1 = d11) (t10 : d10.take 54 = d10) (a10 : (d10.all fun x => x.length == 1) = true) (h11 : d11[0]? = some [.int .u8 x11.toNat]) (l11 : d11.length = 53) (e11 : d11.drop 1 = d12) (t11 : d11.take 53 = d11) (a11 : (d11.all fun x => x.length == 1) = true) (h12 : d12[0]? = some [.int .u8 x12.toNat]) (l12 : d12.length = 52) (e12 : d12.drop 1 = d13) (t12 : d12.take 52 = d12) (a12 : (d12.all fun x => x.length == 1) = true) :
    (K E A33_L3 ⟨[(0, .vs T0), (2, .ptr 512 0), (4, .fn (Fn.func 60) [.ptr 4096 0] []), (5, .ptr 1280 0), (26, .int .i64 0)], [], [(1280, .box [.int .i64 sq, .int .i64 st, .int .i64 0, .int .i64 0, .int .i64 0, .int .i64 0, .int .i64 0, .int .i64 0, .int .i64 0, .int .i64 0, .bs 1291 0 0, .int .i64 0]), (1291, .row 1 []), (4096, .box [.vs d7]), (512, .box [.int .i64 0, .int .i64 0, .int .i64 0, .int .i64 0, .int .i64 0, .int .i64 0, .int .i64 0, .int .i64 0, .int .i64 0, .int .i64 0, .bs 523 0 0, .int .i64 0]), (523, .row 1 [])], 0⟩).bind (blockR 0 (some [0, 2, 4, 5]) [6, 7, 35]) = some (.ex .nrm ⟨[(0, .vs T0), (2, .ptr 512 0), (4, .fn (Fn.func 60) [.ptr 4096 0] []), (5, .ptr 1280 0)], [], [(1280, .box [.int .i64 sq, .int .i64 st, .int .i64 (x7.toNat - 17), .int .i64 (x8.toNat - 17), .int .i64 (x9.toNat - 17), .int .i64 (x10.toNat - 17), .int .i64 (x11.toNat - 17), .int .i64 (x12.toNat - 17), .int .i64 0, .int .i64 0, .bs 1291 0 0, .int .i64 0]), (1291, .row 1 []), (4096, .box [.vs d13]), (512, .box [.int .i64 0, .int .i64 0, .int .i64 0, .int .i64 0, .int .i64 0, .int .i64 0, .int .i64 0, .int .i64 0, .int .i64 0, .int .i64 0, .bs 523 0 0, .int .i64 0]), (523, .row 1 [])], 0⟩) := by
  have w17 := fun x : UInt8 => wbm x 17 (by omega)
  rw [A33_L3_eq]
  simp +contextual -implicitDefEqProofs (maxSteps := 2000000) only [go_sem, ↓reduceIte, Nat.reduceAdd, Nat.reduceMul, Nat.reduceSub, Nat.reduceEqDiff, Nat.reduceLeDiff, Nat.reduceDiv, Nat.reduceMod, Nat.reduceBEq, Nat.reduceBNe, reduceCtorEq, Int.reduceLE, Int.reduceLT, Int.reduceToNat, Int.reduceNeg, Nat.reduceLT, Int.reduceEq, Int.reduceSub, Int.reduceAdd, Int.reduceMul, Nat.reducePow, Int.reduceBEq, Int.reduceBNe, Int.reduceMod, A33_L3_eq, A33_L3b, A33_L2_eq, A33_L2b, E_60, A60, A60_L0_eq, A60_L0b, wb0, ob1, shl8, Int.zero_mul, w17, h7, l7, e7, t7, a7, h8, l8, e8, t8, a8, h9, l9, e9, t9, a9, h10, l10, e10, t10, a10, h11, l11, e11, t11, a11, h12, l12, e12, t12, a12]
theorem dec1 (T0 : List (List LV)) (sq st q0 q1 q2 q3 q4 q5 : Int) (d13 d14 d15 : List (List LV)) (x13 x14 : UInt8) (h13 : d13[0]? = some [.int .u8 x13.toNat]) (l13 : d13.length = 51) (e13 : d13.drop 1 = d14) (t13 : d13.take 51 = d13) (a13 : (d13.all fun x => x.length == 1) = true) (h14 : d14[0]? = some [.int .u8 x14.toNat]) (l14 : d14.length = 50) (e14 : d14.drop 1 = d15) (t14 : d14.take 50 = d14) (a14 : (d14.all fun x => x.length == 1) = true) :
    (K E A33_L1 ⟨[(0, .vs T0), (2, .ptr 512 0), (4, .fn (Fn.func 60) [.ptr 4096 0] []), (5, .ptr 1280 0), (43, .int .i64 0)], [], [(1280, .box [.int .i64 sq, .int .i64 st, .int .i64 q0, .int .i64 q1, .int .i64 q2, .int .i64 q3, .int .i64 q4, .int .i64 q5, .int .i64 0, .int .i64 0, .bs 1291 0 0, .int .i64 0]), (1291, .row 1 []), (4096, .box [.vs d13]), (512, .box [.int .i64 0, .int .i64 0, .int .i64 0, .int .i64 0, .int .i64 0, .int .i64 0, .int .i64 0, .int .i64 0, .int .i64 0, .int .i64 0, .bs 523 0 0, .int .i64 0]), (523, .row 1 [])], 0⟩).bind (blockR 4 (some [0, 2, 4, 5]) [8, 48]) = some (.ex .nrm ⟨[(0, .vs T0), (2, .ptr 512 0), (4, .fn (Fn.func 60) [.ptr 4096 0] []), (5, .ptr 1280 0)], [], [(1280, .box [.int .i64 sq, .int .i64 st, .int .i64 q0, .int .i64 q1, .int .i64 q2, .int .i64 q3, .int .i64 q4, .int .i64 q5, .int .i64 (x13.toNat - 1), .int .i64 (x14.toNat - 1), .bs 1291 0 0, .int .i64 0]), (1291, .row 1 []), (4096, .box [.vs d15]), (512, .box [.int .i64 0, .int .i64 0, .int .i64 0, .int .i64 0, .int .i64 0, .int .i64 0, .int .i64 0, .int .i64 0, .int .i64 0, .int .i64 0, .bs 523 0 0, .int .i64 0]), (523, .row 1 [])], 0⟩) := by
  have w1_ := fun x : UInt8 => wbm x 1 (by omega)
  rw [A33_L1_eq]
  simp +contextual -implicitDefEqProofs (maxSteps := 2000000) only [go_sem, ↓reduceIte, Nat.reduceAdd, Nat.reduceMul, Nat.reduceSub, Nat.reduceEqDiff, Nat.reduceLeDiff, Nat.reduceDiv, Nat.reduceMod, Nat.reduceBEq, Nat.reduceBNe, reduceCtorEq, Int.reduceLE, Int.reduceLT, Int.reduceToNat, Int.reduceNeg, Nat.reduceLT, Int.reduceEq, Int.reduceSub, Int.reduceAdd, Int.reduceMul, Nat.reducePow, Int.reduceBEq, Int.reduceBNe, Int.reduceMod, A33_L1_eq, A33_L1b, E_60, A60, A60_L0_eq, A60_L0b, wb0, ob1, shl8, Int.zero_mul, w1_, h13, l13, e13, t13, a13, h14, l14, e14, t14, a14]
end Go.Proofs.Ytjmnepfdhkabfaa

namespace Go.Proofs.Ytjmnepfdhkabfaa
set_option maxRecDepth 100000
set_option maxHeartbeats 4000000
set_option linter.unusedSimpArgs false
set_option linter.unusedVariables false
open Go Go.Zv
def whk (t : List UInt8) (k : Nat) : List (List LV) := (t.take k).map fun x => c1 (x.toNat - 1)
theorem whk_len (t) (k : Nat) (h : k ≤ t.length) : (whk t k).length = k := by simp [whk]; omega
theorem whk_succ {t : List UInt8} {k : Nat} {p : UInt8} (h : t[k]? = some p) : whk t k ++ [[.int .i64 (p.toNat - 1)]] = whk t (k + 1) := by
  unfold whk
  rw [List.take_add_one, h]
  simp [c1]
theorem dec0 (T0 : List (List LV)) (sq st q0 q1 q2 q3 q4 q5 b0 b1' : Int) (m : Nat) (t : List UInt8) (hm : m ≤ t.length) (ht : t.length = 48) :
    (K E A33_L0 ⟨[(0, .vs T0), (2, .ptr 512 0), (4, .fn (Fn.func 60) [.ptr 4096 0] []), (5, .ptr 1280 0), (59, .int .i64 m), (60, .int .i64 0)], [], [(1280, .box [.int .i64 sq, .int .i64 st, .int .i64 q0, .int .i64 q1, .int .i64 q2, .int .i64 q3, .int .i64 q4, .int .i64 q5, .int .i64 b0, .int .i64 b1', .bs 1291 0 0, .int .i64 0]), (1291, .row 1 []), (4096, .box [.vs (t.map b1)]), (512, .box [.int .i64 0, .int .i64 0, .int .i64 0, .int .i64 0, .int .i64 0, .int .i64 0, .int .i64 0, .int .i64 0, .int .i64 0, .int .i64 0, .bs 523 0 0, .int .i64 0]), (523, .row 1 [])], 0⟩).bind (blockR 6 (some [0, 2, 4, 5]) [66, 68, 69]) =
    some (.ex .nrm ⟨[(0, .vs T0), (2, .ptr 512 0), (4, .fn (Fn.func 60) [.ptr 4096 0] []), (5, .ptr 1280 0)], [], [(1280, .box [.int .i64 sq, .int .i64 st, .int .i64 q0, .int .i64 q1, .int .i64 q2, .int .i64 q3, .int .i64 q4, .int .i64 q5, .int .i64 b0, .int .i64 b1', .bs 1291 0 m, .int .i64 0]), (1291, .row 1 (whk t m)), (4096, .box [.vs ((t.drop m).map b1)]), (512, .box [.int .i64 0, .int .i64 0, .int .i64 0, .int .i64 0, .int .i64 0, .int .i64 0, .int .i64 0, .int .i64 0, .int .i64 0, .int .i64 0, .bs 523 0 0, .int .i64 0]), (523, .row 1 [])], 0⟩) := by
  have h := loop_to (fun S => (K E A33_L0 S).bind (blockR 6 (some [0, 2, 4, 5]) [66, 68, 69])) (fun k => ⟨[(0, .vs T0), (2, .ptr 512 0), (4, .fn (Fn.func 60) [.ptr 4096 0] []), (5, .ptr 1280 0), (59, .int .i64 m), (60, .int .i64 k)], [], [(1280, .box [.int .i64 sq, .int .i64 st, .int .i64 q0, .int .i64 q1, .int .i64 q2, .int .i64 q3, .int .i64 q4, .int .i64 q5, .int .i64 b0, .int .i64 b1', .bs 1291 0 k, .int .i64 0]), (1291, .row 1 (whk t k)), (4096, .box [.vs ((t.drop k).map b1)]), (512, .box [.int .i64 0, .int .i64 0, .int .i64 0, .int .i64 0, .int .i64 0, .int .i64 0, .int .i64 0, .int .i64 0, .int .i64 0, .int .i64 0, .bs 523 0 0, .int .i64 0]), (523, .row 1 [])], 0⟩) m (fun k hk => by
    have hget : t[k]? = some (t[k]'(by omega)) := List.getElem?_eq_getElem _
    generalize t[k]'(by omega) = p at *
    have hd := drop_get hget
    have h0 : ((t.drop k).map b1)[0]? = some [.int .u8 p.toNat] := by rw [hd]; rfl
    have h1 : ((t.drop k).map b1).drop 1 = (t.drop (k + 1)).map b1 := by rw [hd]; rfl
    have h2 : ((t.drop k).map b1).length = 48 - k := by simp; omega
    have h3 : ((t.drop k).map b1).take (48 - k) = (t.drop k).map b1 := List.take_of_length_le (by omega)
    have h4 := all_b1 (t.drop k)
    have h5 : (1 : Int) ≤ ((48 - k : Nat) : Int) := by omega
    have hkm : (k : Int) < m := by omega
    have hw := wr_succ (n := k) (by omega)
    have w1_ := fun x : UInt8 => wbm x 1 (by omega)
    have e := whk_succ hget
    have wl := whk_len t k (by omega)
    have wt : (whk t k).take k = whk t k := List.take_of_length_le (by omega)
    have hb : k + 1 ≤ 1000000000 := by omega
    show (K E A33_L0 _).bind _ = (K E A33_L0 _).bind _
    conv => lhs; rw [A33_L0_eq]
    generalize (t.drop k).map b1 = dk at *
    generalize (t.drop (k + 1)).map b1 = dk1 at *
    simp +contextual -implicitDefEqProofs (maxSteps := 2000000) only [go_sem, ↓reduceIte, Nat.reduceAdd, Nat.reduceMul, Nat.reduceSub, Nat.reduceEqDiff, Nat.reduceLeDiff, Nat.reduceDiv, Nat.reduceMod, Nat.reduceBEq, Nat.reduceBNe, reduceCtorEq, Int.reduceLE, Int.reduceLT, Int.reduceToNat, Int.reduceNeg, Nat.reduceLT, Int.reduceEq, Int.reduceSub, Int.reduceAdd, Int.reduceMul, Nat.reducePow, Int.reduceBEq, Int.reduceBNe, Int.reduceMod, A33_L0b, E_60, A60, A60_L0_eq, A60_L0b, wb0, ob1, shl8, Int.zero_mul, w1_, h0, h1, h2, h3, h4, h5, hkm, hw, e, wl, wt, hb, Nat.le_refl])
  simp only [List.drop_zero, Int.natCast_zero, Int.ofNat_zero, show whk t 0 = [] from rfl] at h
  refine h.trans ?_
  show (K E A33_L0 _).bind _ = _
  rw [A33_L0_eq]
  simp +contextual -implicitDefEqProofs (maxSteps := 2000000) only [go_sem, ↓reduceIte, Nat.reduceAdd, Nat.reduceMul, Nat.reduceSub, Nat.reduceEqDiff, Nat.reduceLeDiff, Nat.reduceDiv, Nat.reduceMod, Nat.reduceBEq, Nat.reduceBNe, reduceCtorEq, Int.reduceLE, Int.reduceLT, Int.reduceToNat, Int.reduceNeg, Nat.reduceLT, Int.reduceEq, Int.reduceSub, Int.reduceAdd, Int.reduceMul, Nat.reducePow, Int.reduceBEq, Int.reduceBNe, Int.reduceMod, A33_L0b, Int.lt_irrefl]
end Go.Proofs.Ytjmnepfdhkabfaa

namespace Go.Proofs.Ytjmnepfdhkabfaa
set_option maxRecDepth 100000
set_option maxHeartbeats 4000000
set_option linter.unusedSimpArgs false
set_option linter.unusedVariables false
open Go Go.Zv
abbrev gk (b : List UInt8) (k : Nat) : UInt8 := b[k]?.getD 0
theorem stp {b : List UInt8} (h : b.length = 64) (k : Nat) (hk : k < 64) : ((b.drop k).map b1)[0]? = some [.int .u8 (gk b k).toNat] ∧ ((b.drop k).map b1).length = 64 - k ∧ ((b.drop k).map b1).drop 1 = (b.drop (k + 1)).map b1 ∧ ((b.drop k).map b1).take (64 - k) = (b.drop k).map b1 ∧ (((b.drop k).map b1).all fun x => x.length == 1) = true := by
  have hget : b[k]? = some (b[k]'(by omega)) := List.getElem?_eq_getElem _
  have hd := drop_get hget
  refine ⟨?_, ?_, ?_, ?_, all_b1 _⟩
  · unfold gk; rw [hd, hget]; rfl
  · rw [List.length_map, List.length_drop]; omega
  · rw [hd]; rfl
  · exact List.take_of_length_le (by rw [List.length_map, List.length_drop]; omega)

theorem w33a (d0 d1 d2 d3 d4 d5 d6 d7 d8 d9 d10 d11 d12 d13 d14 d15 d16 : List (List LV)) (x0 x1 x2 x3 x4 x5 x6 x7 x8 x9 x10 x11 x12 x13 x14 x15 : UInt8) (h0 : d0[0]? = some [.int .u8 x0.toNat]) (l0 : d0.length = 64) (e0 : d0.drop 1 = d1) (t0 : d0.take 64 = d0) (a0 : (d0.all fun x => x.length == 1) = true) (h1 : d1[0]? = some [.int .u8 x1.toNat]) (l1 : d1.length = 63) (e1 : d1.drop 1 = d2) (t1 : d1.take 63 = d1) (a1 : (d1.all fun x => x.length == 1) = true) (h2 : d2[0]? = some [.int .u8 x2.toNat]) (l2 : d2.length = 62) (e2 : d2.drop 1 = d3) (t2 : d2.take 62 = d2) (a2 : (d2.all fun x => x.length == 1) = true) (h3 : d3[0]? = some [.int .u8 x3.toNat]) (l3 : d3.length = 61) (e3 : d3.drop 1 = d4) (t3 : d3.take 61 = d3) (a3 : (d3.all fun x => x.length == 1) = true) (h4 : d4[0]? = some [.int .u8 x4.toNat]) (l4 : d4.length = 60) (e4 : d4.drop 1 = d5) (t4 : d4.take 60 = d4) (a4 : (d4.all fun x => x.length == 1) = true) (h5 : d5[0]? = some [.int .u8 x5.toNat]) (l5 : d5.length = 59) (e5 : d5.drop 1 = d6) (t5 : d5.take 59 = d5) (a5 : (d5.all fun x => x.length == 1) = true) (h6 : d6[0]? = some [.int .u8 x6.toNat]) (l6 : d6.length = 58) (e6 : d6.drop 1 = d7) (t6 : d6.take 58 = d6) (a6 : (d6.all fun x => x.length == 1) = true) (h7 : d7[0]? = some [.int .u8 x7.toNat]) (l7 : d7.length = 57) (e7 : d7.drop 1 = d8) (t7 : d7.take 57 = d7) (a7 : (d7.all fun x => x.length == 1) = true) (h8 : d8[0]? = some [.int .u8 x8.toNat]) (l8 : d8.length = 56) (e8 : d8.drop 1 = d9) (t8 : d8.take 56 = d8) (a8 : (d8.all fun x => x.length == 1) = true) (h9 : d9[0]? = some [.int .u8 x9.toNat]) (l9 : d9.length = 55) (e9 : d9.drop 1 = d10) (t9 : d9.take 55 = d9) (a9 : (d9.all fun x => x.length == 1) = true) (h10 : d10[0]? = some [.int .u8 x10.toNat]) (l10 : d10.length = 54) (e10 : d10.drop 1 = d11) (t10 : d10.take 54 = d10) (a10 : (d10.all fun x => x.length == 1) = true) (h11 : d11[0]? = some [.int .u8 x11.toNat]) (l11 : d11.length = 53) (e11 : d11.drop 1 = d12) (t11 : d11.take 53 = d11) (a11 : (d11.all fun x => x.length == 1) = true) (h12 : d12[0]? = some [.int .u8 x12.toNat]) (l12 : d12.length = 52) (e12 : d12.drop 1 = d13) (t12 : d12.take 52 = d12) (a12 : (d12.all fun x => x.length == 1) = true) (h13 : d13[0]? = some [.int .u8 x13.toNat]) (l13 : d13.length = 51) (e13 : d13.drop 1 = d14) (t13 : d13.take 51 = d13) (a13 : (d13.all fun x => x.length == 1) = true) (h14 : d14[0]? = some [.int .u8 x14.toNat]) (l14 : d14.length = 50) (e14 : d14.drop 1 = d15) (t14 : d14.take 50 = d14) (a14 : (d14.all fun x => x.length == 1) = true) (h15 : d15[0]? = some [.int .u8 x15.toNat]) (l15 : d15.length = 49) (e15 : d15.drop 1 = d16) (t15 : d15.take 49 = d15) (a15 : (d15.all fun x => x.length == 1) = true) (t : List UInt8) (ht : t.length = 48) (hd16 : d16 = t.map b1) (hx8 : ¬ x15.toNat ≤ 8) : pc E 33 [.vs d0] = some (.tup [.agg [.int .i64 0, .int .i64 0, .int .i64 0, .int .i64 0, .int .i64 0, .int .i64 0, .int .i64 0, .int .i64 0, .int .i64 0, .int .i64 0, .vs [], .int .i64 0], .int .i64 4]) := by
  have g3 := dec3 d0 (((((x1.toNat : Int) * 256 + x2.toNat) * 256 + x3.toNat) * 256) + x4.toNat) ((x5.toNat : Int) * 256 + x6.toNat) d7 d8 d9 d10 d11 d12 d13 x7 x8 x9 x10 x11 x12 h7 l7 e7 t7 a7 h8 l8 e8 t8 a8 h9 l9 e9 t9 a9 h10 l10 e10 t10 a10 h11 l11 e11 t11 a11 h12 l12 e12 t12 a12
  have g1 := dec1 d0 (((((x1.toNat : Int) * 256 + x2.toNat) * 256 + x3.toNat) * 256) + x4.toNat) ((x5.toNat : Int) * 256 + x6.toNat) (x7.toNat - 17) (x8.toNat - 17) (x9.toNat - 17) (x10.toNat - 17) (x11.toNat - 17) (x12.toNat - 17) d13 d14 d15 x13 x14 h13 l13 e13 t13 a13 h14 l14 e14 t14 a14
  have k8 : (8 : Int) < x15.toNat := by omega
  rw [pc_eq]; simp +contextual -implicitDefEqProofs (maxSteps := 2000000) only [go_sem, ↓reduceIte, Nat.reduceAdd, Nat.reduceMul, Nat.reduceSub, Nat.reduceEqDiff, Nat.reduceLeDiff, Nat.reduceDiv, Nat.reduceMod, Nat.reduceBEq, Nat.reduceBNe, reduceCtorEq, Int.reduceLE, Int.reduceLT, Int.reduceToNat, Int.reduceNeg, Nat.reduceLT, Int.reduceEq, Int.reduceSub, Int.reduceAdd, Int.reduceMul, Nat.reducePow, Int.reduceBEq, Int.reduceBNe, Int.reduceMod, E_33, A33, E_60, A60, A60_L0_eq, A60_L0b, wb0, wb1, wb2, wb3, ob1, ob2, ob3, ob4, shl8, Int.zero_mul, h0, l0, e0, t0, a0, h1, l1, e1, t1, a1, h2, l2, e2, t2, a2, h3, l3, e3, t3, a3, h4, l4, e4, t4, a4, h5, l5, e5, t5, a5, h6, l6, e6, t6, a6, h15, l15, e15, t15, a15, g3, g1, k8]

theorem w33b (d0 d1 d2 d3 d4 d5 d6 d7 d8 d9 d10 d11 d12 d13 d14 d15 d16 : List (List LV)) (x0 x1 x2 x3 x4 x5 x6 x7 x8 x9 x10 x11 x12 x13 x14 x15 : UInt8) (h0 : d0[0]? = some [.int .u8 x0.toNat]) (l0 : d0.length = 64) (e0 : d0.drop 1 = d1) (t0 : d0.take 64 = d0) (a0 : (d0.all fun x => x.length == 1) = true) (h1 : d1[0]? = some [.int .u8 x1.toNat]) (l1 : d1.length = 63) (e1 : d1.drop 1 = d2) (t1 : d1.take 63 = d1) (a1 : (d1.all fun x => x.length == 1) = true) (h2 : d2[0]? = some [.int .u8 x2.toNat]) (l2 : d2.length = 62) (e2 : d2.drop 1 = d3) (t2 : d2.take 62 = d2) (a2 : (d2.all fun x => x.length == 1) = true) (h3 : d3[0]? = some [.int .u8 x3.toNat]) (l3 : d3.length = 61) (e3 : d3.drop 1 = d4) (t3 : d3.take 61 = d3) (a3 : (d3.all fun x => x.length == 1) = true) (h4 : d4[0]? = some [.int .u8 x4.toNat]) (l4 : d4.length = 60) (e4 : d4.drop 1 = d5) (t4 : d4.take 60 = d4) (a4 : (d4.all fun x => x.length == 1) = true) (h5 : d5[0]? = some [.int .u8 x5.toNat]) (l5 : d5.length = 59) (e5 : d5.drop 1 = d6) (t5 : d5.take 59 = d5) (a5 : (d5.all fun x => x.length == 1) = true) (h6 : d6[0]? = some [.int .u8 x6.toNat]) (l6 : d6.length = 58) (e6 : d6.drop 1 = d7) (t6 : d6.take 58 = d6) (a6 : (d6.all fun x => x.length == 1) = true) (h7 : d7[0]? = some [.int .u8 x7.toNat]) (l7 : d7.length = 57) (e7 : d7.drop 1 = d8) (t7 : d7.take 57 = d7) (a7 : (d7.all fun x => x.length == 1) = true) (h8 : d8[0]? = some [.int .u8 x8.toNat]) (l8 : d8.length = 56) (e8 : d8.drop 1 = d9) (t8 : d8.take 56 = d8) (a8 : (d8.all fun x => x.length == 1) = true) (h9 : d9[0]? = some [.int .u8 x9.toNat]) (l9 : d9.length = 55) (e9 : d9.drop 1 = d10) (t9 : d9.take 55 = d9) (a9 : (d9.all fun x => x.length == 1) = true) (h10 : d10[0]? = some [.int .u8 x10.toNat]) (l10 : d10.length = 54) (e10 : d10.drop 1 = d11) (t10 : d10.take 54 = d10) (a10 : (d10.all fun x => x.length == 1) = true) (h11 : d11[0]? = some [.int .u8 x11.toNat]) (l11 : d11.length = 53) (e11 : d11.drop 1 = d12) (t11 : d11.take 53 = d11) (a11 : (d11.all fun x => x.length == 1) = true) (h12 : d12[0]? = some [.int .u8 x12.toNat]) (l12 : d12.length = 52) (e12 : d12.drop 1 = d13) (t12 : d12.take 52 = d12) (a12 : (d12.all fun x => x.length == 1) = true) (h13 : d13[0]? = some [.int .u8 x13.toNat]) (l13 : d13.length = 51) (e13 : d13.drop 1 = d14) (t13 : d13.take 51 = d13) (a13 : (d13.all fun x => x.length == 1) = true) (h14 : d14[0]? = some [.int .u8 x14.toNat]) (l14 : d14.length = 50) (e14 : d14.drop 1 = d15) (t14 : d14.take 50 = d14) (a14 : (d14.all fun x => x.length == 1) = true) (h15 : d15[0]? = some [.int .u8 x15.toNat]) (l15 : d15.length = 49) (e15 : d15.drop 1 = d16) (t15 : d15.take 49 = d15) (a15 : (d15.all fun x => x.length == 1) = true) (t : List UInt8) (ht : t.length = 48) (hd16 : d16 = t.map b1) (hx8 : x15.toNat ≤ 8) (xm : UInt8) (dm dn : List (List LV)) (hm0 : (t.drop x15.toNat).map b1 = dm) (hm : dm[0]? = some [.int .u8 xm.toNat]) (lm : dm.length = 48 - x15.toNat) (em : dm.drop 1 = dn) (tm : dm.take (48 - x15.toNat) = dm) (am : (dm.all fun x => x.length == 1) = true)
    (bm : Bool) (hmay : pc E 61 [.agg [.int .i64 (((((x1.toNat : Int) * 256 + x2.toNat) * 256 + x3.toNat) * 256) + x4.toNat), .int .i64 ((x5.toNat : Int) * 256 + x6.toNat), .int .i64 (x7.toNat - 17), .int .i64 (x8.toNat - 17), .int .i64 (x9.toNat - 17), .int .i64 (x10.toNat - 17), .int .i64 (x11.toNat - 17), .int .i64 (x12.toNat - 17), .int .i64 (x13.toNat - 1), .int .i64 (x14.toNat - 1), .vs (whk t x15.toNat), .int .i64 xm.toNat]] = some (.bool bm)) (er : List (List LV)) (hlen : bm = true → er.length = 64) (her : bm = true → er.take 64 = er) (hall : bm = true → (er.all fun x => x.all LV.scal) = true) (henc : bm = true → pc E 35 [.agg [.int .i64 (((((x1.toNat : Int) * 256 + x2.toNat) * 256 + x3.toNat) * 256) + x4.toNat), .int .i64 ((x5.toNat : Int) * 256 + x6.toNat), .int .i64 (x7.toNat - 17), .int .i64 (x8.toNat - 17), .int .i64 (x9.toNat - 17), .int .i64 (x10.toNat - 17), .int .i64 (x11.toNat - 17), .int .i64 (x12.toNat - 17), .int .i64 (x13.toNat - 1), .int .i64 (x14.toNat - 1), .vs (whk t x15.toNat), .int .i64 xm.toNat]] = some (.os 1 er)) (be : Bool) (heq : bm = true → pc E 62 [.vs er, .vs d0] = some (.bool be)) :
    pc E 33 [.vs d0] = some (if (bm && be) = true then .tup [.agg [.int .i64 (((((x1.toNat : Int) * 256 + x2.toNat) * 256 + x3.toNat) * 256) + x4.toNat), .int .i64 ((x5.toNat : Int) * 256 + x6.toNat), .int .i64 (x7.toNat - 17), .int .i64 (x8.toNat - 17), .int .i64 (x9.toNat - 17), .int .i64 (x10.toNat - 17), .int .i64 (x11.toNat - 17), .int .i64 (x12.toNat - 17), .int .i64 (x13.toNat - 1), .int .i64 (x14.toNat - 1), .vs (whk t x15.toNat), .int .i64 xm.toNat], .int .i64 0] else .tup [.agg [.int .i64 0, .int .i64 0, .int .i64 0, .int .i64 0, .int .i64 0, .int .i64 0, .int .i64 0, .int .i64 0, .int .i64 0, .int .i64 0, .vs [], .int .i64 0], .int .i64 4]) := by
  have g3 := dec3 d0 (((((x1.toNat : Int) * 256 + x2.toNat) * 256 + x3.toNat) * 256) + x4.toNat) ((x5.toNat : Int) * 256 + x6.toNat) d7 d8 d9 d10 d11 d12 d13 x7 x8 x9 x10 x11 x12 h7 l7 e7 t7 a7 h8 l8 e8 t8 a8 h9 l9 e9 t9 a9 h10 l10 e10 t10 a10 h11 l11 e11 t11 a11 h12 l12 e12 t12 a12
  have g1 := dec1 d0 (((((x1.toNat : Int) * 256 + x2.toNat) * 256 + x3.toNat) * 256) + x4.toNat) ((x5.toNat : Int) * 256 + x6.toNat) (x7.toNat - 17) (x8.toNat - 17) (x9.toNat - 17) (x10.toNat - 17) (x11.toNat - 17) (x12.toNat - 17) d13 d14 d15 x13 x14 h13 l13 e13 t13 a13 h14 l14 e14 t14 a14
  have g0 := dec0 d0 (((((x1.toNat : Int) * 256 + x2.toNat) * 256 + x3.toNat) * 256) + x4.toNat) ((x5.toNat : Int) * 256 + x6.toNat) (x7.toNat - 17) (x8.toNat - 17) (x9.toNat - 17) (x10.toNat - 17) (x11.toNat - 17) (x12.toNat - 17) (x13.toNat - 1) (x14.toNat - 1) x15.toNat t (by omega) ht
  have k8 : ¬ (8 : Int) < x15.toNat := by omega
  have wl := whk_len t x15.toNat (by omega)
  have wt : (whk t x15.toNat).take x15.toNat = whk t x15.toNat := List.take_of_length_le (by omega)
  have k1 : (1 : Int) ≤ ((48 - x15.toNat : Nat) : Int) := by omega
  rw [hm0] at g0
  rw [← hd16] at g0
  cases bm
  · rw [pc_eq]; simp +contextual -implicitDefEqProofs (maxSteps := 2000000) only [go_sem, ↓reduceIte, Nat.reduceAdd, Nat.reduceMul, Nat.reduceSub, Nat.reduceEqDiff, Nat.reduceLeDiff, Nat.reduceDiv, Nat.reduceMod, Nat.reduceBEq, Nat.reduceBNe, reduceCtorEq, Int.reduceLE, Int.reduceLT, Int.reduceToNat, Int.reduceNeg, Nat.reduceLT, Int.reduceEq, Int.reduceSub, Int.reduceAdd, Int.reduceMul, Nat.reducePow, Int.reduceBEq, Int.reduceBNe, Int.reduceMod, E_33, A33, E_60, A60, A60_L0_eq, A60_L0b, wb0, wb1, wb2, wb3, ob1, ob2, ob3, ob4, shl8, Int.zero_mul, h0, l0, e0, t0, a0, h1, l1, e1, t1, a1, h2, l2, e2, t2, a2, h3, l3, e3, t3, a3, h4, l4, e4, t4, a4, h5, l5, e5, t5, a5, h6, l6, e6, t6, a6, h15, l15, e15, t15, a15, g3, g1, g0, k8, wl, wt, hm, lm, em, tm, am, k1, hmay, Bool.false_and]
  · have hlen := hlen rfl
    have hall := hall rfl
    have her := her rfl
    have henc := henc rfl
    have heq := heq rfl
    cases be
    · rw [pc_eq]; simp +contextual -implicitDefEqProofs (maxSteps := 2000000) only [go_sem, ↓reduceIte, Nat.reduceAdd, Nat.reduceMul, Nat.reduceSub, Nat.reduceEqDiff, Nat.reduceLeDiff, Nat.reduceDiv, Nat.reduceMod, Nat.reduceBEq, Nat.reduceBNe, reduceCtorEq, Int.reduceLE, Int.reduceLT, Int.reduceToNat, Int.reduceNeg, Nat.reduceLT, Int.reduceEq, Int.reduceSub, Int.reduceAdd, Int.reduceMul, Nat.reducePow, Int.reduceBEq, Int.reduceBNe, Int.reduceMod, E_33, A33, E_60, A60, A60_L0_eq, A60_L0b, wb0, wb1, wb2, wb3, ob1, ob2, ob3, ob4, shl8, Int.zero_mul, h0, l0, e0, t0, a0, h1, l1, e1, t1, a1, h2, l2, e2, t2, a2, h3, l3, e3, t3, a3, h4, l4, e4, t4, a4, h5, l5, e5, t5, a5, h6, l6, e6, t6, a6, h15, l15, e15, t15, a15, g3, g1, g0, k8, wl, wt, hm, lm, em, tm, am, k1, hmay, henc, heq, hlen, her, hall, Bool.and_false]
    · rw [pc_eq]; simp +contextual -implicitDefEqProofs (maxSteps := 2000000) only [go_sem, ↓reduceIte, Nat.reduceAdd, Nat.reduceMul, Nat.reduceSub, Nat.reduceEqDiff, Nat.reduceLeDiff, Nat.reduceDiv, Nat.reduceMod, Nat.reduceBEq, Nat.reduceBNe, reduceCtorEq, Int.reduceLE, Int.reduceLT, Int.reduceToNat, Int.reduceNeg, Nat.reduceLT, Int.reduceEq, Int.reduceSub, Int.reduceAdd, Int.reduceMul, Nat.reducePow, Int.reduceBEq, Int.reduceBNe, Int.reduceMod, E_33, A33, E_60, A60, A60_L0_eq, A60_L0b, wb0, wb1, wb2, wb3, ob1, ob2, ob3, ob4, shl8, Int.zero_mul, h0, l0, e0, t0, a0, h1, l1, e1, t1, a1, h2, l2, e2, t2, a2, h3, l3, e3, t3, a3, h4, l4, e4, t4, a4, h5, l5, e5, t5, a5, h6, l6, e6, t6, a6, h15, l15, e15, t15, a15, g3, g1, g0, k8, wl, wt, hm, lm, em, tm, am, k1, hmay, henc, heq, hlen, her, hall, Bool.and_self]

theorem c33 (b : List UInt8) (hb : b.length ≤ 1000000) : pc E 33 [bv b] = some (decR b) := by
  by_cases h64 : b.length = 64
  · have hd0 : bv b = .vs ((b.drop 0).map b1) := by rw [List.drop_zero]
    have s0 := stp h64 0 (by omega)
    have s1 := stp h64 1 (by omega)
    have s2 := stp h64 2 (by omega)
    have s3 := stp h64 3 (by omega)
    have s4 := stp h64 4 (by omega)
    have s5 := stp h64 5 (by omega)
    have s6 := stp h64 6 (by omega)
    have s7 := stp h64 7 (by omega)
    have s8 := stp h64 8 (by omega)
    have s9 := stp h64 9 (by omega)
    have s10 := stp h64 10 (by omega)
    have s11 := stp h64 11 (by omega)
    have s12 := stp h64 12 (by omega)
    have s13 := stp h64 13 (by omega)
    have s14 := stp h64 14 (by omega)
    have s15 := stp h64 15 (by omega)
    have ht : (b.drop 16).length = 48 := by rw [List.length_drop]; omega
    rw [hd0]
    by_cases h8 : (gk b 15).toNat ≤ 8
    · have sm := stp h64 (16 + (gk b 15).toNat) (by omega)
      have hm0 : ((b.drop 16).drop (gk b 15).toNat).map b1 = (b.drop (16 + (gk b 15).toNat)).map b1 := by rw [List.drop_drop]
      have hwh : (raw b).wh.map c1 = whk (b.drop 16) (gk b 15).toNat := by
        show (((b.drop 16).take (gk b 15).toNat).map (fun x => ((x.toNat : Int) - 1))).map c1 = _
        rw [List.map_map]; rfl
      have hrec : rv (raw b) = .agg [.int .i64 ((((((gk b 1).toNat : Int) * 256 + (gk b 2).toNat) * 256 + (gk b 3).toNat) * 256) + (gk b 4).toNat), .int .i64 (((gk b 5).toNat : Int) * 256 + (gk b 6).toNat), .int .i64 ((gk b 7).toNat - 17), .int .i64 ((gk b 8).toNat - 17), .int .i64 ((gk b 9).toNat - 17), .int .i64 ((gk b 10).toNat - 17), .int .i64 ((gk b 11).toNat - 17), .int .i64 ((gk b 12).toNat - 17), .int .i64 ((gk b 13).toNat - 1), .int .i64 ((gk b 14).toNat - 1), .vs (whk (b.drop 16) (gk b 15).toNat), .int .i64 (gk b (16 + (gk b 15).toNat)).toNat] := by
        rw [← hwh]; rfl
      have hmay := c61 (raw b) (by
        show (((b.drop 16).take (gk b 15).toNat).map _).length ≤ _
        rw [List.length_map, List.length_take]; omega)
      have hen : mayB (raw b) = true → (enc (raw b)).length = 64 := fun h => enc_len ((may_iff _).1 h)
      have w := w33b ((b.drop 0).map b1) ((b.drop 1).map b1) ((b.drop 2).map b1) ((b.drop 3).map b1) ((b.drop 4).map b1) ((b.drop 5).map b1) ((b.drop 6).map b1) ((b.drop 7).map b1) ((b.drop 8).map b1) ((b.drop 9).map b1) ((b.drop 10).map b1) ((b.drop 11).map b1) ((b.drop 12).map b1) ((b.drop 13).map b1) ((b.drop 14).map b1) ((b.drop 15).map b1) ((b.drop 16).map b1) (gk b 0) (gk b 1) (gk b 2) (gk b 3) (gk b 4) (gk b 5) (gk b 6) (gk b 7) (gk b 8) (gk b 9) (gk b 10) (gk b 11) (gk b 12) (gk b 13) (gk b 14) (gk b 15) s0.1 s0.2.1 s0.2.2.1 s0.2.2.2.1 s0.2.2.2.2 s1.1 s1.2.1 s1.2.2.1 s1.2.2.2.1 s1.2.2.2.2 s2.1 s2.2.1 s2.2.2.1 s2.2.2.2.1 s2.2.2.2.2 s3.1 s3.2.1 s3.2.2.1 s3.2.2.2.1 s3.2.2.2.2 s4.1 s4.2.1 s4.2.2.1 s4.2.2.2.1 s4.2.2.2.2 s5.1 s5.2.1 s5.2.2.1 s5.2.2.2.1 s5.2.2.2.2 s6.1 s6.2.1 s6.2.2.1 s6.2.2.2.1 s6.2.2.2.2 s7.1 s7.2.1 s7.2.2.1 s7.2.2.2.1 s7.2.2.2.2 s8.1 s8.2.1 s8.2.2.1 s8.2.2.2.1 s8.2.2.2.2 s9.1 s9.2.1 s9.2.2.1 s9.2.2.2.1 s9.2.2.2.2 s10.1 s10.2.1 s10.2.2.1 s10.2.2.2.1 s10.2.2.2.2 s11.1 s11.2.1 s11.2.2.1 s11.2.2.2.1 s11.2.2.2.2 s12.1 s12.2.1 s12.2.2.1 s12.2.2.2.1 s12.2.2.2.2 s13.1 s13.2.1 s13.2.2.1 s13.2.2.2.1 s13.2.2.2.2 s14.1 s14.2.1 s14.2.2.1 s14.2.2.2.1 s14.2.2.2.2 s15.1 s15.2.1 s15.2.2.1 s15.2.2.2.1 s15.2.2.2.2 (b.drop 16) ht rfl h8 (gk b (16 + (gk b 15).toNat)) _ _ hm0 sm.1 (by rw [sm.2.1]; omega) sm.2.2.1 (by
        have := sm.2.2.2.1
        rwa [show 64 - (16 + (gk b 15).toNat) = 48 - (gk b 15).toNat by omega] at this) sm.2.2.2.2 (mayB (raw b)) (by rw [← hrec]; exact hmay) ((enc (raw b)).map b1) (fun h => by rw [List.length_map]; exact hen h) (fun h => List.take_of_length_le (by rw [List.length_map, hen h]; omega)) (fun h => scal_b1 _) (fun h => by rw [← hrec]; exact c35 (raw b) ((may_iff _).1 h)) (decide (enc (raw b) = b)) (fun h => by
          have := c62 (enc (raw b)) b (by rw [hen h]; omega)
          rw [List.drop_zero]; exact this)
      rw [← hrec] at w
      rw [w]
      by_cases h1 : mayB (raw b) = true
      · by_cases h2 : enc (raw b) = b
        · have hd : dec b = some (raw b) := if_pos ⟨h64, h8, h1, h2⟩
          unfold decR; rw [hd, h1, decide_eq_true h2]; rfl
        · have hd : dec b = none := if_neg (fun h => h2 h.2.2.2)
          unfold decR; rw [hd, decide_eq_false h2, Bool.and_false]; rfl
      · have hd : dec b = none := if_neg (fun h => h1 h.2.2.1)
        unfold decR; rw [hd, Bool.eq_false_iff.2 h1, Bool.false_and]; rfl
    · have w := w33a ((b.drop 0).map b1) ((b.drop 1).map b1) ((b.drop 2).map b1) ((b.drop 3).map b1) ((b.drop 4).map b1) ((b.drop 5).map b1) ((b.drop 6).map b1) ((b.drop 7).map b1) ((b.drop 8).map b1) ((b.drop 9).map b1) ((b.drop 10).map b1) ((b.drop 11).map b1) ((b.drop 12).map b1) ((b.drop 13).map b1) ((b.drop 14).map b1) ((b.drop 15).map b1) ((b.drop 16).map b1) (gk b 0) (gk b 1) (gk b 2) (gk b 3) (gk b 4) (gk b 5) (gk b 6) (gk b 7) (gk b 8) (gk b 9) (gk b 10) (gk b 11) (gk b 12) (gk b 13) (gk b 14) (gk b 15) s0.1 s0.2.1 s0.2.2.1 s0.2.2.2.1 s0.2.2.2.2 s1.1 s1.2.1 s1.2.2.1 s1.2.2.2.1 s1.2.2.2.2 s2.1 s2.2.1 s2.2.2.1 s2.2.2.2.1 s2.2.2.2.2 s3.1 s3.2.1 s3.2.2.1 s3.2.2.2.1 s3.2.2.2.2 s4.1 s4.2.1 s4.2.2.1 s4.2.2.2.1 s4.2.2.2.2 s5.1 s5.2.1 s5.2.2.1 s5.2.2.2.1 s5.2.2.2.2 s6.1 s6.2.1 s6.2.2.1 s6.2.2.2.1 s6.2.2.2.2 s7.1 s7.2.1 s7.2.2.1 s7.2.2.2.1 s7.2.2.2.2 s8.1 s8.2.1 s8.2.2.1 s8.2.2.2.1 s8.2.2.2.2 s9.1 s9.2.1 s9.2.2.1 s9.2.2.2.1 s9.2.2.2.2 s10.1 s10.2.1 s10.2.2.1 s10.2.2.2.1 s10.2.2.2.2 s11.1 s11.2.1 s11.2.2.1 s11.2.2.2.1 s11.2.2.2.2 s12.1 s12.2.1 s12.2.2.1 s12.2.2.2.1 s12.2.2.2.2 s13.1 s13.2.1 s13.2.2.1 s13.2.2.2.1 s13.2.2.2.2 s14.1 s14.2.1 s14.2.2.1 s14.2.2.2.1 s14.2.2.2.2 s15.1 s15.2.1 s15.2.2.1 s15.2.2.2.1 s15.2.2.2.2 (b.drop 16) ht rfl h8
      have hd : dec b = none := if_neg (fun h => h8 h.2.1)
      unfold decR; rw [w, hd]; rfl
  · have e : ((b.length : Int) != 64) = true := by simp; omega
    have e' : ¬ ((b.length : Int) = 64) := by omega
    have hd : dec b = none := by unfold dec; rw [if_neg (fun h => h64 h.1)]
    unfold decR
    rw [hd, pc_eq]; simp +contextual -implicitDefEqProofs (maxSteps := 2000000) only [go_sem, ↓reduceIte, Nat.reduceAdd, Nat.reduceMul, Nat.reduceSub, Nat.reduceEqDiff, Nat.reduceLeDiff, Nat.reduceDiv, Nat.reduceMod, Nat.reduceBEq, Nat.reduceBNe, reduceCtorEq, Int.reduceLE, Int.reduceLT, Int.reduceToNat, Int.reduceNeg, Nat.reduceLT, Int.reduceEq, Int.reduceSub, Int.reduceAdd, Int.reduceMul, Nat.reducePow, Int.reduceBEq, Int.reduceBNe, Int.reduceMod, E_33, A33, List.length_map, e, e']
    rfl
end Go.Proofs.Ytjmnepfdhkabfaa

namespace Go.Proofs.Ytjmnepfdhkabfaa
set_option maxRecDepth 100000
set_option maxHeartbeats 4000000
set_option linter.unusedSimpArgs false
set_option linter.unusedVariables false
open Go Go.Zv
theorem c34 (a b : List UInt8) (hl : a.length ≤ 1000000) : pc E 34 [bv a, bv b] = some (.bool (decide (a = b))) := by
  by_cases h1 : a.length = b.length
  · have e1 : ((a.length : Int) != b.length) = false := by simp [h1]
    have e1' : ((b.length : Int) != b.length) = false := by simp
    have lp := loop_eq (fun S => (K E A34_L0 S).bind (blockR 0 (some []) [4, 5]))
      (fun k => ⟨[(0, bv a), (1, bv b), (5, .int .i64 k)], [], [], 0⟩) a b h1
      (some (.ex .ret ⟨[(4, .bool false)], [], [], 0⟩)) (some (.ex .nrm ⟨[], [], [], 0⟩))
      (by
        show (K E A34_L0 _).bind _ = _
        rw [A34_L0_eq]; simp +contextual -implicitDefEqProofs (maxSteps := 2000000) only [go_sem, ↓reduceIte, Nat.reduceAdd, Nat.reduceMul, Nat.reduceSub, Nat.reduceEqDiff, Nat.reduceLeDiff, Nat.reduceDiv, Nat.reduceMod, Nat.reduceBEq, Nat.reduceBNe, reduceCtorEq, Int.reduceLE, Int.reduceLT, Int.reduceToNat, Int.reduceNeg, Nat.reduceLT, Int.reduceEq, Int.reduceSub, Int.reduceAdd, Int.reduceMul, Nat.reducePow, Int.reduceBEq, Int.reduceBNe, Int.reduceMod, A34_L0b, Int.lt_irrefl, List.length_map])
      (fun k p q hk hp hq => by
        have g1 : (a.map b1)[k]? = some [.int .u8 p.toNat] := by rw [List.getElem?_map, hp]; rfl
        have g2 : (b.map b1)[k]? = some [.int .u8 q.toNat] := by rw [List.getElem?_map, hq]; rfl
        have hw := wr_succ (n := k) (by omega)
        have k1 : (k : Int) < a.length := by omega
        have k2 : (k : Int) < b.length := by omega
        have k0 : (0 : Int) ≤ k := by omega
        show (K E A34_L0 _).bind _ = _
        by_cases hpq : p = q
        · subst hpq
          rw [if_pos rfl]
          conv => lhs; rw [A34_L0_eq]
          simp +contextual -implicitDefEqProofs (maxSteps := 2000000) only [go_sem, ↓reduceIte, Nat.reduceAdd, Nat.reduceMul, Nat.reduceSub, Nat.reduceEqDiff, Nat.reduceLeDiff, Nat.reduceDiv, Nat.reduceMod, Nat.reduceBEq, Nat.reduceBNe, reduceCtorEq, Int.reduceLE, Int.reduceLT, Int.reduceToNat, Int.reduceNeg, Nat.reduceLT, Int.reduceEq, Int.reduceSub, Int.reduceAdd, Int.reduceMul, Nat.reducePow, Int.reduceBEq, Int.reduceBNe, Int.reduceMod, A34_L0b, k0, k1, k2, hw, g1, g2, List.length_map, bne_self_eq_false]
        · have hne : ((p.toNat : Int) != q.toNat) = true := by
            simp only [bne_iff_ne, ne_eq]
            intro h; exact hpq (UInt8.toNat_inj.1 (by omega))
          have hne' : ¬ ((p.toNat : Int) = q.toNat) := fun h => hpq (UInt8.toNat_inj.1 (by omega))
          rw [if_neg hpq, A34_L0_eq]
          simp +contextual -implicitDefEqProofs (maxSteps := 2000000) only [go_sem, ↓reduceIte, Nat.reduceAdd, Nat.reduceMul, Nat.reduceSub, Nat.reduceEqDiff, Nat.reduceLeDiff, Nat.reduceDiv, Nat.reduceMod, Nat.reduceBEq, Nat.reduceBNe, reduceCtorEq, Int.reduceLE, Int.reduceLT, Int.reduceToNat, Int.reduceNeg, Nat.reduceLT, Int.reduceEq, Int.reduceSub, Int.reduceAdd, Int.reduceMul, Nat.reducePow, Int.reduceBEq, Int.reduceBNe, Int.reduceMod, A34_L0b, k0, k1, k2, hw, g1, g2, List.length_map, hne, hne'])
    simp only [Int.natCast_zero, Int.ofNat_zero] at lp
    by_cases h2 : a = b
    · rw [if_pos h2] at lp
      rw [decide_eq_true h2, pc_eq]; simp +contextual -implicitDefEqProofs (maxSteps := 2000000) only [go_sem, ↓reduceIte, Nat.reduceAdd, Nat.reduceMul, Nat.reduceSub, Nat.reduceEqDiff, Nat.reduceLeDiff, Nat.reduceDiv, Nat.reduceMod, Nat.reduceBEq, Nat.reduceBNe, reduceCtorEq, Int.reduceLE, Int.reduceLT, Int.reduceToNat, Int.reduceNeg, Nat.reduceLT, Int.reduceEq, Int.reduceSub, Int.reduceAdd, Int.reduceMul, Nat.reducePow, Int.reduceBEq, Int.reduceBNe, Int.reduceMod, E_34, A34, List.length_map, e1, lp]
    · rw [if_neg h2] at lp
      rw [decide_eq_false h2, pc_eq]; simp +contextual -implicitDefEqProofs (maxSteps := 2000000) only [go_sem, ↓reduceIte, Nat.reduceAdd, Nat.reduceMul, Nat.reduceSub, Nat.reduceEqDiff, Nat.reduceLeDiff, Nat.reduceDiv, Nat.reduceMod, Nat.reduceBEq, Nat.reduceBNe, reduceCtorEq, Int.reduceLE, Int.reduceLT, Int.reduceToNat, Int.reduceNeg, Nat.reduceLT, Int.reduceEq, Int.reduceSub, Int.reduceAdd, Int.reduceMul, Nat.reducePow, Int.reduceBEq, Int.reduceBNe, Int.reduceMod, E_34, A34, List.length_map, e1, lp]
  · have e1 : ((a.length : Int) != b.length) = true := by simp; omega
    have e1' : ¬ ((a.length : Int) = b.length) := by omega
    have h2 : ¬ a = b := fun h => h1 (by rw [h])
    rw [decide_eq_false h2, pc_eq]; simp +contextual -implicitDefEqProofs (maxSteps := 2000000) only [go_sem, ↓reduceIte, Nat.reduceAdd, Nat.reduceMul, Nat.reduceSub, Nat.reduceEqDiff, Nat.reduceLeDiff, Nat.reduceDiv, Nat.reduceMod, Nat.reduceBEq, Nat.reduceBNe, reduceCtorEq, Int.reduceLE, Int.reduceLT, Int.reduceToNat, Int.reduceNeg, Nat.reduceLT, Int.reduceEq, Int.reduceSub, Int.reduceAdd, Int.reduceMul, Nat.reducePow, Int.reduceBEq, Int.reduceBNe, Int.reduceMod, E_34, A34, List.length_map, e1, e1']
theorem c32 (r : Rec) : pc E 32 [rv r] = some (.bool (decide (100 < r.wh.length))) := by
  have e : decide (100 < r.wh.length) = decide ((100 : Int) < r.wh.length) := decide_eq_decide.2 (by omega)
  rw [e, pc_eq]; simp +contextual -implicitDefEqProofs (maxSteps := 2000000) only [go_sem, ↓reduceIte, Nat.reduceAdd, Nat.reduceMul, Nat.reduceSub, Nat.reduceEqDiff, Nat.reduceLeDiff, Nat.reduceDiv, Nat.reduceMod, Nat.reduceBEq, Nat.reduceBNe, reduceCtorEq, Int.reduceLE, Int.reduceLT, Int.reduceToNat, Int.reduceNeg, Nat.reduceLT, Int.reduceEq, Int.reduceSub, Int.reduceAdd, Int.reduceMul, Nat.reducePow, Int.reduceBEq, Int.reduceBNe, Int.reduceMod, E_32, A32, List.length_map, gt_iff_lt]
theorem c38 (d : Dsk) : pc E 38 [dv d] = some (.agg [sv d.sec, .int .i64 d.fuse, .int .i64 d.torn, .bool d.down, .int .i64 1, .int .i64 0]) := by
  rw [pc_eq]; simp +contextual -implicitDefEqProofs (maxSteps := 2000000) only [go_sem, ↓reduceIte, Nat.reduceAdd, Nat.reduceMul, Nat.reduceSub, Nat.reduceEqDiff, Nat.reduceLeDiff, Nat.reduceDiv, Nat.reduceMod, Nat.reduceBEq, Nat.reduceBNe, reduceCtorEq, Int.reduceLE, Int.reduceLT, Int.reduceToNat, Int.reduceNeg, Nat.reduceLT, Int.reduceEq, Int.reduceSub, Int.reduceAdd, Int.reduceMul, Nat.reducePow, Int.reduceBEq, Int.reduceBNe, Int.reduceMod, E_38, A38]
theorem c39 (n : Nat) (h1 : 1 ≤ n) (h2 : n ≤ 64) : pc E 39 [.int .i64 n] = some (dv (mk n)) := by
  rw [pc_eq]; simp +contextual -implicitDefEqProofs (maxSteps := 2000000) only [go_sem, ↓reduceIte, Nat.reduceAdd, Nat.reduceMul, Nat.reduceSub, Nat.reduceEqDiff, Nat.reduceLeDiff, Nat.reduceDiv, Nat.reduceMod, Nat.reduceBEq, Nat.reduceBNe, reduceCtorEq, Int.reduceLE, Int.reduceLT, Int.reduceToNat, Int.reduceNeg, Nat.reduceLT, Int.reduceEq, Int.reduceSub, Int.reduceAdd, Int.reduceMul, Nat.reducePow, Int.reduceBEq, Int.reduceBNe, Int.reduceMod, E_39, A39, c17 n h1 h2]
theorem c68 (d : Dsk) (hn : 1 ≤ d.sec.length) (hl : d.sec.length ≤ 1000) (i : Nat) (hi : i < 1000000) : pc E 68 [dv d, .int .i64 i] = some (.int .i64 (((i + 1) % d.sec.length : Nat) : Int)) := by
  have hw : IntKind.i64.wrap ((i : Int) + 1) = ((i + 1 : Nat) : Int) := wr_succ (by omega)
  have hm : mxI 1 (d.sec.length : Int) = d.sec.length := by unfold mxI; split <;> omega
  have hz : ((d.sec.length : Int) == 0) = false := beq_eq_false_iff_ne.2 (by omega)
  have hz' : ¬ ((d.sec.length : Int) = 0) := by omega
  have ht : (((i + 1 : Nat) : Int)).tmod (d.sec.length : Int) = (((i + 1) % d.sec.length : Nat) : Int) := by rw [Int.tmod_eq_emod_of_nonneg (Int.natCast_nonneg _)]; rfl
  have hw2 : IntKind.i64.wrap (((i + 1) % d.sec.length : Nat) : Int) = (((i + 1) % d.sec.length : Nat) : Int) := by
    have := Nat.mod_lt (i + 1) (show 0 < d.sec.length by omega)
    exact wrap_small (by omega) (by omega)
  rw [pc_eq]; simp +contextual -implicitDefEqProofs (maxSteps := 2000000) only [go_sem, ↓reduceIte, Nat.reduceAdd, Nat.reduceMul, Nat.reduceSub, Nat.reduceEqDiff, Nat.reduceLeDiff, Nat.reduceDiv, Nat.reduceMod, Nat.reduceBEq, Nat.reduceBNe, reduceCtorEq, Int.reduceLE, Int.reduceLT, Int.reduceToNat, Int.reduceNeg, Nat.reduceLT, Int.reduceEq, Int.reduceSub, Int.reduceAdd, Int.reduceMul, Nat.reducePow, Int.reduceBEq, Int.reduceBNe, Int.reduceMod, E_68, A68, List.length_map, hw, hm, hz, hz', ht, hw2]
end Go.Proofs.Ytjmnepfdhkabfaa

namespace Go.Proofs.Ytjmnepfdhkabfaa
set_option maxRecDepth 100000
set_option maxHeartbeats 4000000
set_option linter.unusedSimpArgs false
set_option linter.unusedVariables false
open Go Go.Zv
theorem loop37 (sq st a0 a1 a2 a3 a4 a5 b0 b1 m : Int) (l : List Int) (hl : l.length ≤ 1000000000) :
    (l.any (fun n => !inI n (-1) 15) = true → (K E A37_L0 ⟨[(1, .ptr 256 0), (5, .int .i64 0)], [], [(256, bx12 sq st a0 a1 a2 a3 a4 a5 b0 b1 l m)], 0⟩).bind (blockR 4 (some [1]) [2, 5, 44]) = some (.ex .ret ⟨[(2, .bool false)], [], [(256, bx12 sq st a0 a1 a2 a3 a4 a5 b0 b1 l m)], 0⟩)) ∧
    (l.any (fun n => !inI n (-1) 15) = false → (K E A37_L0 ⟨[(1, .ptr 256 0), (5, .int .i64 0)], [], [(256, bx12 sq st a0 a1 a2 a3 a4 a5 b0 b1 l m)], 0⟩).bind (blockR 4 (some [1]) [2, 5, 44]) = some (.ex .nrm ⟨[(1, .ptr 256 0)], [], [(256, bx12 sq st a0 a1 a2 a3 a4 a5 b0 b1 l m)], 0⟩)) := by
  have lp := loop_leave (σ := Unit) (fun S => (K E A37_L0 S).bind (blockR 4 (some [1]) [2, 5, 44]))
    (fun k _ => ⟨[(1, .ptr 256 0), (5, .int .i64 k)], [], [(256, bx12 sq st a0 a1 a2 a3 a4 a5 b0 b1 l m)], 0⟩)
    l (fun _ _ => ()) (fun n => !inI n (-1) 15)
    (fun o => o = some (.ex .ret ⟨[(2, .bool false)], [], [(256, bx12 sq st a0 a1 a2 a3 a4 a5 b0 b1 l m)], 0⟩))
    (fun _ => some (.ex .nrm ⟨[(1, .ptr 256 0)], [], [(256, bx12 sq st a0 a1 a2 a3 a4 a5 b0 b1 l m)], 0⟩))
    (fun x => by
      show (K E A37_L0 _).bind _ = _
      rw [A37_L0_eq]; simp +contextual -implicitDefEqProofs (maxSteps := 2000000) only [go_sem, ↓reduceIte, Nat.reduceAdd, Nat.reduceMul, Nat.reduceSub, Nat.reduceEqDiff, Nat.reduceLeDiff, Nat.reduceDiv, Nat.reduceMod, Nat.reduceBEq, Nat.reduceBNe, reduceCtorEq, Int.reduceLE, Int.reduceLT, Int.reduceToNat, Int.reduceNeg, Nat.reduceLT, Int.reduceEq, Int.reduceSub, Int.reduceAdd, Int.reduceMul, Nat.reducePow, Int.reduceBEq, Int.reduceBNe, Int.reduceMod, A37_L0b, Int.lt_irrefl, List.length_map])
    (fun k p x hk hp => by
      have g := get_c1 hp
      have hw := wr_succ (n := k) (by omega)
      have k1 : (k : Int) < l.length := by omega
      have k0 : (0 : Int) ≤ k := by omega
      have o := c67 p (-1) 15
      cases hi : inI p (-1) 15 <;> rw [hi] at o
      · refine ⟨fun _ => ?_, fun h => absurd h (by decide)⟩
        show (K E A37_L0 _).bind _ = _
        rw [A37_L0_eq]; simp +contextual -implicitDefEqProofs (maxSteps := 2000000) only [go_sem, ↓reduceIte, Nat.reduceAdd, Nat.reduceMul, Nat.reduceSub, Nat.reduceEqDiff, Nat.reduceLeDiff, Nat.reduceDiv, Nat.reduceMod, Nat.reduceBEq, Nat.reduceBNe, reduceCtorEq, Int.reduceLE, Int.reduceLT, Int.reduceToNat, Int.reduceNeg, Nat.reduceLT, Int.reduceEq, Int.reduceSub, Int.reduceAdd, Int.reduceMul, Nat.reducePow, Int.reduceBEq, Int.reduceBNe, Int.reduceMod, A37_L0b, k0, k1, hw, g, o, List.length_map]
      · refine ⟨fun h => absurd h (by decide), fun _ => ?_⟩
        show (K E A37_L0 _).bind _ = (K E A37_L0 _).bind _
        conv => lhs; rw [A37_L0_eq]
        simp +contextual -implicitDefEqProofs (maxSteps := 2000000) only [go_sem, ↓reduceIte, Nat.reduceAdd, Nat.reduceMul, Nat.reduceSub, Nat.reduceEqDiff, Nat.reduceLeDiff, Nat.reduceDiv, Nat.reduceMod, Nat.reduceBEq, Nat.reduceBNe, reduceCtorEq, Int.reduceLE, Int.reduceLT, Int.reduceToNat, Int.reduceNeg, Nat.reduceLT, Int.reduceEq, Int.reduceSub, Int.reduceAdd, Int.reduceMul, Nat.reducePow, Int.reduceBEq, Int.reduceBNe, Int.reduceMod, A37_L0b, k0, k1, hw, g, o, List.length_map])
    ()
  simp only [Int.natCast_zero, Int.ofNat_zero] at lp
  exact lp
def mayR (r : Rec) : Bool := (inI r.q0 (-17) 18 && (inI r.q1 (-17) 18 && (inI r.q2 (-17) 18 && (inI r.h0 (-1) 7 && (inI r.q3 (-17) 18 && (inI r.q4 (-17) 18 && (inI r.q5 (-17) 18 && inI r.h1 (-1) 7))))))) && (whB r.wh && (inI r.seq 1 1073741824 && (inI r.step 0 300 && (decide ((r.wh.length : Int) ≤ 8) && inI r.mode 1 5))))
theorem mayR_eq (r : Rec) : mayR r = mayB r := by
  unfold mayR mayB
  simp only [Bool.and_assoc]
  rw [show decide ((r.wh.length : Int) ≤ 8) = decide (r.wh.length ≤ 8) from decide_eq_decide.2 (by omega)]
theorem c37 (r : Rec) (hl : r.wh.length ≤ 1000000000) : pc E 37 [rv r] = some (.bool (mayB r)) := by
  rw [← mayR_eq]
  have o0 := c67 r.q0 (-17) 18
  have o1 := c67 r.q1 (-17) 18
  have o2 := c67 r.q2 (-17) 18
  have o3 := c67 r.q3 (-17) 18
  have o4 := c67 r.q4 (-17) 18
  have o5 := c67 r.q5 (-17) 18
  have o6 := c67 r.h0 (-1) 7
  have o7 := c67 r.h1 (-1) 7
  have o8 := c67 r.seq 1 1073741824
  have o9 := c67 r.step 0 300
  have o10 := c67 r.mode 1 5
  have lp := loop37 r.seq r.step r.q0 r.q1 r.q2 r.q3 r.q4 r.q5 r.h0 r.h1 r.mode r.wh hl
  rw [whB_any] at lp
  unfold mayR
  generalize inI r.q0 (-17) 18 = v0 at *
  generalize inI r.q1 (-17) 18 = v1 at *
  generalize inI r.q2 (-17) 18 = v2 at *
  generalize inI r.q3 (-17) 18 = v3 at *
  generalize inI r.q4 (-17) 18 = v4 at *
  generalize inI r.q5 (-17) 18 = v5 at *
  generalize inI r.h0 (-1) 7 = v6 at *
  generalize inI r.h1 (-1) 7 = v7 at *
  generalize inI r.seq 1 1073741824 = v8 at *
  generalize inI r.step 0 300 = v9 at *
  generalize inI r.mode 1 5 = v10 at *
  cases v0
  · rw [pc_eq]; simp +contextual -implicitDefEqProofs (maxSteps := 2000000) only [go_sem, ↓reduceIte, Nat.reduceAdd, Nat.reduceMul, Nat.reduceSub, Nat.reduceEqDiff, Nat.reduceLeDiff, Nat.reduceDiv, Nat.reduceMod, Nat.reduceBEq, Nat.reduceBNe, reduceCtorEq, Int.reduceLE, Int.reduceLT, Int.reduceToNat, Int.reduceNeg, Nat.reduceLT, Int.reduceEq, Int.reduceSub, Int.reduceAdd, Int.reduceMul, Nat.reducePow, Int.reduceBEq, Int.reduceBNe, Int.reduceMod, E_37, A37, A37_L2_eq, A37_L2b, A37_L1_eq, A37_L1b, o0]
  cases v1
  · rw [pc_eq]; simp +contextual -implicitDefEqProofs (maxSteps := 2000000) only [go_sem, ↓reduceIte, Nat.reduceAdd, Nat.reduceMul, Nat.reduceSub, Nat.reduceEqDiff, Nat.reduceLeDiff, Nat.reduceDiv, Nat.reduceMod, Nat.reduceBEq, Nat.reduceBNe, reduceCtorEq, Int.reduceLE, Int.reduceLT, Int.reduceToNat, Int.reduceNeg, Nat.reduceLT, Int.reduceEq, Int.reduceSub, Int.reduceAdd, Int.reduceMul, Nat.reducePow, Int.reduceBEq, Int.reduceBNe, Int.reduceMod, E_37, A37, A37_L2_eq, A37_L2b, A37_L1_eq, A37_L1b, o0, o1]
  cases v2
  · rw [pc_eq]; simp +contextual -implicitDefEqProofs (maxSteps := 2000000) only [go_sem, ↓reduceIte, Nat.reduceAdd, Nat.reduceMul, Nat.reduceSub, Nat.reduceEqDiff, Nat.reduceLeDiff, Nat.reduceDiv, Nat.reduceMod, Nat.reduceBEq, Nat.reduceBNe, reduceCtorEq, Int.reduceLE, Int.reduceLT, Int.reduceToNat, Int.reduceNeg, Nat.reduceLT, Int.reduceEq, Int.reduceSub, Int.reduceAdd, Int.reduceMul, Nat.reducePow, Int.reduceBEq, Int.reduceBNe, Int.reduceMod, E_37, A37, A37_L2_eq, A37_L2b, A37_L1_eq, A37_L1b, o0, o1, o2]
  cases v6
  · rw [pc_eq]; simp +contextual -implicitDefEqProofs (maxSteps := 2000000) only [go_sem, ↓reduceIte, Nat.reduceAdd, Nat.reduceMul, Nat.reduceSub, Nat.reduceEqDiff, Nat.reduceLeDiff, Nat.reduceDiv, Nat.reduceMod, Nat.reduceBEq, Nat.reduceBNe, reduceCtorEq, Int.reduceLE, Int.reduceLT, Int.reduceToNat, Int.reduceNeg, Nat.reduceLT, Int.reduceEq, Int.reduceSub, Int.reduceAdd, Int.reduceMul, Nat.reducePow, Int.reduceBEq, Int.reduceBNe, Int.reduceMod, E_37, A37, A37_L2_eq, A37_L2b, A37_L1_eq, A37_L1b, o0, o1, o2, o6]
  cases v3
  · rw [pc_eq]; simp +contextual -implicitDefEqProofs (maxSteps := 2000000) only [go_sem, ↓reduceIte, Nat.reduceAdd, Nat.reduceMul, Nat.reduceSub, Nat.reduceEqDiff, Nat.reduceLeDiff, Nat.reduceDiv, Nat.reduceMod, Nat.reduceBEq, Nat.reduceBNe, reduceCtorEq, Int.reduceLE, Int.reduceLT, Int.reduceToNat, Int.reduceNeg, Nat.reduceLT, Int.reduceEq, Int.reduceSub, Int.reduceAdd, Int.reduceMul, Nat.reducePow, Int.reduceBEq, Int.reduceBNe, Int.reduceMod, E_37, A37, A37_L2_eq, A37_L2b, A37_L1_eq, A37_L1b, o0, o1, o2, o6, o3]
  cases v4
  · rw [pc_eq]; simp +contextual -implicitDefEqProofs (maxSteps := 2000000) only [go_sem, ↓reduceIte, Nat.reduceAdd, Nat.reduceMul, Nat.reduceSub, Nat.reduceEqDiff, Nat.reduceLeDiff, Nat.reduceDiv, Nat.reduceMod, Nat.reduceBEq, Nat.reduceBNe, reduceCtorEq, Int.reduceLE, Int.reduceLT, Int.reduceToNat, Int.reduceNeg, Nat.reduceLT, Int.reduceEq, Int.reduceSub, Int.reduceAdd, Int.reduceMul, Nat.reducePow, Int.reduceBEq, Int.reduceBNe, Int.reduceMod, E_37, A37, A37_L2_eq, A37_L2b, A37_L1_eq, A37_L1b, o0, o1, o2, o6, o3, o4]
  cases v5
  · rw [pc_eq]; simp +contextual -implicitDefEqProofs (maxSteps := 2000000) only [go_sem, ↓reduceIte, Nat.reduceAdd, Nat.reduceMul, Nat.reduceSub, Nat.reduceEqDiff, Nat.reduceLeDiff, Nat.reduceDiv, Nat.reduceMod, Nat.reduceBEq, Nat.reduceBNe, reduceCtorEq, Int.reduceLE, Int.reduceLT, Int.reduceToNat, Int.reduceNeg, Nat.reduceLT, Int.reduceEq, Int.reduceSub, Int.reduceAdd, Int.reduceMul, Nat.reducePow, Int.reduceBEq, Int.reduceBNe, Int.reduceMod, E_37, A37, A37_L2_eq, A37_L2b, A37_L1_eq, A37_L1b, o0, o1, o2, o6, o3, o4, o5]
  cases v7
  · rw [pc_eq]; simp +contextual -implicitDefEqProofs (maxSteps := 2000000) only [go_sem, ↓reduceIte, Nat.reduceAdd, Nat.reduceMul, Nat.reduceSub, Nat.reduceEqDiff, Nat.reduceLeDiff, Nat.reduceDiv, Nat.reduceMod, Nat.reduceBEq, Nat.reduceBNe, reduceCtorEq, Int.reduceLE, Int.reduceLT, Int.reduceToNat, Int.reduceNeg, Nat.reduceLT, Int.reduceEq, Int.reduceSub, Int.reduceAdd, Int.reduceMul, Nat.reducePow, Int.reduceBEq, Int.reduceBNe, Int.reduceMod, E_37, A37, A37_L2_eq, A37_L2b, A37_L1_eq, A37_L1b, o0, o1, o2, o6, o3, o4, o5, o7]
  cases hw : whB r.wh <;> rw [hw] at lp
  · have lp := lp.1 rfl
    rw [pc_eq]; simp +contextual -implicitDefEqProofs (maxSteps := 2000000) only [go_sem, ↓reduceIte, Nat.reduceAdd, Nat.reduceMul, Nat.reduceSub, Nat.reduceEqDiff, Nat.reduceLeDiff, Nat.reduceDiv, Nat.reduceMod, Nat.reduceBEq, Nat.reduceBNe, reduceCtorEq, Int.reduceLE, Int.reduceLT, Int.reduceToNat, Int.reduceNeg, Nat.reduceLT, Int.reduceEq, Int.reduceSub, Int.reduceAdd, Int.reduceMul, Nat.reducePow, Int.reduceBEq, Int.reduceBNe, Int.reduceMod, E_37, A37, A37_L2_eq, A37_L2b, A37_L1_eq, A37_L1b, o0, o1, o2, o6, o3, o4, o5, o7, lp]
  have lp := lp.2 rfl
  cases v8
  · rw [pc_eq]; simp +contextual -implicitDefEqProofs (maxSteps := 2000000) only [go_sem, ↓reduceIte, Nat.reduceAdd, Nat.reduceMul, Nat.reduceSub, Nat.reduceEqDiff, Nat.reduceLeDiff, Nat.reduceDiv, Nat.reduceMod, Nat.reduceBEq, Nat.reduceBNe, reduceCtorEq, Int.reduceLE, Int.reduceLT, Int.reduceToNat, Int.reduceNeg, Nat.reduceLT, Int.reduceEq, Int.reduceSub, Int.reduceAdd, Int.reduceMul, Nat.reducePow, Int.reduceBEq, Int.reduceBNe, Int.reduceMod, E_37, A37, A37_L2_eq, A37_L2b, A37_L1_eq, A37_L1b, o0, o1, o2, o6, o3, o4, o5, o7, lp, o8]
  cases v9
  · rw [pc_eq]; simp +contextual -implicitDefEqProofs (maxSteps := 2000000) only [go_sem, ↓reduceIte, Nat.reduceAdd, Nat.reduceMul, Nat.reduceSub, Nat.reduceEqDiff, Nat.reduceLeDiff, Nat.reduceDiv, Nat.reduceMod, Nat.reduceBEq, Nat.reduceBNe, reduceCtorEq, Int.reduceLE, Int.reduceLT, Int.reduceToNat, Int.reduceNeg, Nat.reduceLT, Int.reduceEq, Int.reduceSub, Int.reduceAdd, Int.reduceMul, Nat.reducePow, Int.reduceBEq, Int.reduceBNe, Int.reduceMod, E_37, A37, A37_L2_eq, A37_L2b, A37_L1_eq, A37_L1b, o0, o1, o2, o6, o3, o4, o5, o7, lp, o8, o9]
  by_cases h8 : (r.wh.length : Int) ≤ 8
  · rw [pc_eq]; simp +contextual -implicitDefEqProofs (maxSteps := 2000000) only [go_sem, ↓reduceIte, Nat.reduceAdd, Nat.reduceMul, Nat.reduceSub, Nat.reduceEqDiff, Nat.reduceLeDiff, Nat.reduceDiv, Nat.reduceMod, Nat.reduceBEq, Nat.reduceBNe, reduceCtorEq, Int.reduceLE, Int.reduceLT, Int.reduceToNat, Int.reduceNeg, Nat.reduceLT, Int.reduceEq, Int.reduceSub, Int.reduceAdd, Int.reduceMul, Nat.reducePow, Int.reduceBEq, Int.reduceBNe, Int.reduceMod, E_37, A37, A37_L2_eq, A37_L2b, A37_L1_eq, A37_L1b, o0, o1, o2, o6, o3, o4, o5, o7, lp, o8, o9, o10, h8, List.length_map, decide_true]
  · rw [pc_eq]; simp +contextual -implicitDefEqProofs (maxSteps := 2000000) only [go_sem, ↓reduceIte, Nat.reduceAdd, Nat.reduceMul, Nat.reduceSub, Nat.reduceEqDiff, Nat.reduceLeDiff, Nat.reduceDiv, Nat.reduceMod, Nat.reduceBEq, Nat.reduceBNe, reduceCtorEq, Int.reduceLE, Int.reduceLT, Int.reduceToNat, Int.reduceNeg, Nat.reduceLT, Int.reduceEq, Int.reduceSub, Int.reduceAdd, Int.reduceMul, Nat.reducePow, Int.reduceBEq, Int.reduceBNe, Int.reduceMod, E_37, A37, A37_L2_eq, A37_L2b, A37_L1_eq, A37_L1b, o0, o1, o2, o6, o3, o4, o5, o7, lp, o8, o9, o10, h8, List.length_map, decide_false]
end Go.Proofs.Ytjmnepfdhkabfaa

namespace Go.Proofs.Ytjmnepfdhkabfaa
set_option maxRecDepth 100000
set_option maxHeartbeats 4000000
set_option linter.unusedSimpArgs false
set_option linter.unusedVariables false
open Go Go.Zv
def sameR (a b : Rec) : Bool := decide (a = b)
theorem rec_eq (a b : Rec) : a = b ↔ a.seq = b.seq ∧ a.step = b.step ∧ a.mode = b.mode ∧ (a.q0 = b.q0 ∧ a.q1 = b.q1 ∧ a.q2 = b.q2 ∧ a.q3 = b.q3 ∧ a.q4 = b.q4 ∧ a.q5 = b.q5) ∧ (a.h0 = b.h0 ∧ a.h1 = b.h1) ∧ a.wh = b.wh := by
  cases a; cases b
  simp only [Rec.mk.injEq]
  constructor
  · rintro ⟨a, b, c, d, e, f, g, h, i, j, k, l⟩; exact ⟨a, b, l, ⟨c, d, e, f, g, h⟩, ⟨i, j⟩, k⟩
  · rintro ⟨a, b, l, ⟨c, d, e, f, g, h⟩, ⟨i, j⟩, k⟩; exact ⟨a, b, c, d, e, f, g, h, i, j, k, l⟩
theorem loop36 (a b : Rec) (hl : a.wh.length ≤ 1000000000) (h : a.wh.length = b.wh.length) :
    (K E A36_L0 ⟨[(2, .ptr 512 0), (3, .ptr 768 0), (5, .int .i64 0)], [], [(768, bx12 b.seq b.step b.q0 b.q1 b.q2 b.q3 b.q4 b.q5 b.h0 b.h1 b.wh b.mode), (512, bx12 a.seq a.step a.q0 a.q1 a.q2 a.q3 a.q4 a.q5 a.h0 a.h1 a.wh a.mode)], 0⟩).bind (blockR 0 (some []) [4, 5]) =
      if a.wh = b.wh then some (.ex .nrm ⟨[], [], [(768, bx12 b.seq b.step b.q0 b.q1 b.q2 b.q3 b.q4 b.q5 b.h0 b.h1 b.wh b.mode), (512, bx12 a.seq a.step a.q0 a.q1 a.q2 a.q3 a.q4 a.q5 a.h0 a.h1 a.wh a.mode)], 0⟩) else some (.ex .ret ⟨[(4, .bool false)], [], [(768, bx12 b.seq b.step b.q0 b.q1 b.q2 b.q3 b.q4 b.q5 b.h0 b.h1 b.wh b.mode), (512, bx12 a.seq a.step a.q0 a.q1 a.q2 a.q3 a.q4 a.q5 a.h0 a.h1 a.wh a.mode)], 0⟩) := by
  have lp := loop_eq (fun S => (K E A36_L0 S).bind (blockR 0 (some []) [4, 5]))
    (fun k => ⟨[(2, .ptr 512 0), (3, .ptr 768 0), (5, .int .i64 k)], [], [(768, bx12 b.seq b.step b.q0 b.q1 b.q2 b.q3 b.q4 b.q5 b.h0 b.h1 b.wh b.mode), (512, bx12 a.seq a.step a.q0 a.q1 a.q2 a.q3 a.q4 a.q5 a.h0 a.h1 a.wh a.mode)], 0⟩) a.wh b.wh h
    (some (.ex .ret ⟨[(4, .bool false)], [], [(768, bx12 b.seq b.step b.q0 b.q1 b.q2 b.q3 b.q4 b.q5 b.h0 b.h1 b.wh b.mode), (512, bx12 a.seq a.step a.q0 a.q1 a.q2 a.q3 a.q4 a.q5 a.h0 a.h1 a.wh a.mode)], 0⟩)) (some (.ex .nrm ⟨[], [], [(768, bx12 b.seq b.step b.q0 b.q1 b.q2 b.q3 b.q4 b.q5 b.h0 b.h1 b.wh b.mode), (512, bx12 a.seq a.step a.q0 a.q1 a.q2 a.q3 a.q4 a.q5 a.h0 a.h1 a.wh a.mode)], 0⟩))
    (by
      show (K E A36_L0 _).bind _ = _
      rw [A36_L0_eq]; simp +contextual -implicitDefEqProofs (maxSteps := 2000000) only [go_sem, ↓reduceIte, Nat.reduceAdd, Nat.reduceMul, Nat.reduceSub, Nat.reduceEqDiff, Nat.reduceLeDiff, Nat.reduceDiv, Nat.reduceMod, Nat.reduceBEq, Nat.reduceBNe, reduceCtorEq, Int.reduceLE, Int.reduceLT, Int.reduceToNat, Int.reduceNeg, Nat.reduceLT, Int.reduceEq, Int.reduceSub, Int.reduceAdd, Int.reduceMul, Nat.reducePow, Int.reduceBEq, Int.reduceBNe, Int.reduceMod, A36_L0b, Int.lt_irrefl, List.length_map])
    (fun k p q hk hp hq => by
      have g1 := get_c1 hp
      have g2 := get_c1 hq
      have hw := wr_succ (n := k) (by omega)
      have k1 : (k : Int) < a.wh.length := by omega
      have k2 : (k : Int) < b.wh.length := by omega
      have k0 : (0 : Int) ≤ k := by omega
      show (K E A36_L0 _).bind _ = _
      by_cases hpq : p = q
      · subst hpq
        rw [if_pos rfl]
        conv => lhs; rw [A36_L0_eq]
        simp +contextual -implicitDefEqProofs (maxSteps := 2000000) only [go_sem, ↓reduceIte, Nat.reduceAdd, Nat.reduceMul, Nat.reduceSub, Nat.reduceEqDiff, Nat.reduceLeDiff, Nat.reduceDiv, Nat.reduceMod, Nat.reduceBEq, Nat.reduceBNe, reduceCtorEq, Int.reduceLE, Int.reduceLT, Int.reduceToNat, Int.reduceNeg, Nat.reduceLT, Int.reduceEq, Int.reduceSub, Int.reduceAdd, Int.reduceMul, Nat.reducePow, Int.reduceBEq, Int.reduceBNe, Int.reduceMod, A36_L0b, k0, k1, k2, hw, g1, g2, List.length_map, bne_self_eq_false]
      · have hne : (p != q) = true := by simp [hpq]
        rw [if_neg hpq, A36_L0_eq]
        simp +contextual -implicitDefEqProofs (maxSteps := 2000000) only [go_sem, ↓reduceIte, Nat.reduceAdd, Nat.reduceMul, Nat.reduceSub, Nat.reduceEqDiff, Nat.reduceLeDiff, Nat.reduceDiv, Nat.reduceMod, Nat.reduceBEq, Nat.reduceBNe, reduceCtorEq, Int.reduceLE, Int.reduceLT, Int.reduceToNat, Int.reduceNeg, Nat.reduceLT, Int.reduceEq, Int.reduceSub, Int.reduceAdd, Int.reduceMul, Nat.reducePow, Int.reduceBEq, Int.reduceBNe, Int.reduceMod, A36_L0b, k0, k1, k2, hw, g1, g2, List.length_map, hne, hpq])
  simp only [Int.natCast_zero, Int.ofNat_zero] at lp
  exact lp
theorem c36 (a b : Rec) (hl : a.wh.length ≤ 1000000000) : pc E 36 [rv a, rv b] = some (.bool (sameR a b)) := by
  have cs : ∀ x y : Int, (x != y) = !decide (x = y) := fun x y => by rw [bne, Bool.beq_eq_decide_eq]
  have cs2 : ∀ x y : Int, (x == y) = decide (x = y) := fun x y => Bool.beq_eq_decide_eq _ _
  have hv : sameR a b = (decide (a.seq = b.seq) && (decide (a.step = b.step) && (decide (a.mode = b.mode) && ((decide (a.q0 = b.q0) && (decide (a.q1 = b.q1) && (decide (a.q2 = b.q2) && (decide (a.q3 = b.q3) && (decide (a.q4 = b.q4) && decide (a.q5 = b.q5)))))) && ((decide (a.h0 = b.h0) && decide (a.h1 = b.h1)) && (decide ((a.wh.length : Int) = b.wh.length) && decide (a.wh = b.wh))))))) := by
    unfold sameR
    rw [Bool.eq_iff_iff]
    simp only [Bool.and_eq_true, decide_eq_true_eq, rec_eq]
    constructor
    · rintro ⟨h1, h2, h3, ⟨h4, h5, h6, h7, h8, h9⟩, ⟨h10, h11⟩, h12⟩; exact ⟨h1, h2, h3, ⟨h4, h5, h6, h7, h8, h9⟩, ⟨h10, h11⟩, by rw [h12], h12⟩
    · rintro ⟨h1, h2, h3, ⟨h4, h5, h6, h7, h8, h9⟩, ⟨h10, h11⟩, h13, h12⟩; exact ⟨h1, h2, h3, ⟨h4, h5, h6, h7, h8, h9⟩, ⟨h10, h11⟩, h12⟩
  rw [hv]
  have lp := loop36 a b hl
  have n1 := cs a.seq b.seq
  have n2 := cs a.step b.step
  have n3 := cs a.mode b.mode
  have n4 := cs2 a.q0 b.q0
  have n5 := cs2 a.q1 b.q1
  have n6 := cs2 a.q2 b.q2
  have n7 := cs2 a.q3 b.q3
  have n8 := cs2 a.q4 b.q4
  have n9 := cs2 a.q5 b.q5
  have n10 := cs2 a.h0 b.h0
  have n11 := cs2 a.h1 b.h1
  have n12 := cs a.wh.length b.wh.length
  have k12 : decide ((a.wh.length : Int) = b.wh.length) = true → a.wh.length = b.wh.length := fun h => by have := of_decide_eq_true h; omega
  by_cases hq : a.wh = b.wh
  · rw [decide_eq_true hq]
    simp only [if_pos hq] at lp
    generalize decide (a.seq = b.seq) = v1 at *
    generalize decide (a.step = b.step) = v2 at *
    generalize decide (a.mode = b.mode) = v3 at *
    generalize (decide (a.q0 = b.q0)) = v4 at *
    generalize (decide (a.q1 = b.q1)) = v5 at *
    generalize (decide (a.q2 = b.q2)) = v6 at *
    generalize (decide (a.q3 = b.q3)) = v7 at *
    generalize (decide (a.q4 = b.q4)) = v8 at *
    generalize (decide (a.q5 = b.q5)) = v9 at *
    generalize (decide (a.h0 = b.h0)) = v10 at *
    generalize (decide (a.h1 = b.h1)) = v11 at *
    generalize decide ((a.wh.length : Int) = b.wh.length) = v12 at *
    cases v1
    · rw [pc_eq]; simp +contextual -implicitDefEqProofs (maxSteps := 2000000) only [go_sem, ↓reduceIte, Nat.reduceAdd, Nat.reduceMul, Nat.reduceSub, Nat.reduceEqDiff, Nat.reduceLeDiff, Nat.reduceDiv, Nat.reduceMod, Nat.reduceBEq, Nat.reduceBNe, reduceCtorEq, Int.reduceLE, Int.reduceLT, Int.reduceToNat, Int.reduceNeg, Nat.reduceLT, Int.reduceEq, Int.reduceSub, Int.reduceAdd, Int.reduceMul, Nat.reducePow, Int.reduceBEq, Int.reduceBNe, Int.reduceMod, E_36, A36, List.length_map, n1]
    cases v2
    · rw [pc_eq]; simp +contextual -implicitDefEqProofs (maxSteps := 2000000) only [go_sem, ↓reduceIte, Nat.reduceAdd, Nat.reduceMul, Nat.reduceSub, Nat.reduceEqDiff, Nat.reduceLeDiff, Nat.reduceDiv, Nat.reduceMod, Nat.reduceBEq, Nat.reduceBNe, reduceCtorEq, Int.reduceLE, Int.reduceLT, Int.reduceToNat, Int.reduceNeg, Nat.reduceLT, Int.reduceEq, Int.reduceSub, Int.reduceAdd, Int.reduceMul, Nat.reducePow, Int.reduceBEq, Int.reduceBNe, Int.reduceMod, E_36, A36, List.length_map, n1, n2]
    cases v3
    · rw [pc_eq]; simp +contextual -implicitDefEqProofs (maxSteps := 2000000) only [go_sem, ↓reduceIte, Nat.reduceAdd, Nat.reduceMul, Nat.reduceSub, Nat.reduceEqDiff, Nat.reduceLeDiff, Nat.reduceDiv, Nat.reduceMod, Nat.reduceBEq, Nat.reduceBNe, reduceCtorEq, Int.reduceLE, Int.reduceLT, Int.reduceToNat, Int.reduceNeg, Nat.reduceLT, Int.reduceEq, Int.reduceSub, Int.reduceAdd, Int.reduceMul, Nat.reducePow, Int.reduceBEq, Int.reduceBNe, Int.reduceMod, E_36, A36, List.length_map, n1, n2, n3]
    cases v12
    · rw [pc_eq]; simp +contextual -implicitDefEqProofs (maxSteps := 2000000) only [go_sem, ↓reduceIte, Nat.reduceAdd, Nat.reduceMul, Nat.reduceSub, Nat.reduceEqDiff, Nat.reduceLeDiff, Nat.reduceDiv, Nat.reduceMod, Nat.reduceBEq, Nat.reduceBNe, reduceCtorEq, Int.reduceLE, Int.reduceLT, Int.reduceToNat, Int.reduceNeg, Nat.reduceLT, Int.reduceEq, Int.reduceSub, Int.reduceAdd, Int.reduceMul, Nat.reducePow, Int.reduceBEq, Int.reduceBNe, Int.reduceMod, E_36, A36, List.length_map, n1, n2, n3, n4, n5, n6, n7, n8, n9, n10, n11, n12]
      generalize (v4 && (v5 && (v6 && (v7 && (v8 && v9))))) = u; generalize (v10 && v11) = w; cases u <;> cases w <;> rfl
    have lp := lp (k12 rfl)
    rw [pc_eq]; simp +contextual -implicitDefEqProofs (maxSteps := 2000000) only [go_sem, ↓reduceIte, Nat.reduceAdd, Nat.reduceMul, Nat.reduceSub, Nat.reduceEqDiff, Nat.reduceLeDiff, Nat.reduceDiv, Nat.reduceMod, Nat.reduceBEq, Nat.reduceBNe, reduceCtorEq, Int.reduceLE, Int.reduceLT, Int.reduceToNat, Int.reduceNeg, Nat.reduceLT, Int.reduceEq, Int.reduceSub, Int.reduceAdd, Int.reduceMul, Nat.reducePow, Int.reduceBEq, Int.reduceBNe, Int.reduceMod, E_36, A36, List.length_map, n1, n2, n3, n4, n5, n6, n7, n8, n9, n10, n11, n12, lp]
    generalize (v4 && (v5 && (v6 && (v7 && (v8 && v9))))) = u; generalize (v10 && v11) = w; cases u <;> cases w <;> rfl
  · rw [decide_eq_false hq]
    simp only [if_neg hq] at lp
    generalize decide (a.seq = b.seq) = v1 at *
    generalize decide (a.step = b.step) = v2 at *
    generalize decide (a.mode = b.mode) = v3 at *
    generalize (decide (a.q0 = b.q0)) = v4 at *
    generalize (decide (a.q1 = b.q1)) = v5 at *
    generalize (decide (a.q2 = b.q2)) = v6 at *
    generalize (decide (a.q3 = b.q3)) = v7 at *
    generalize (decide (a.q4 = b.q4)) = v8 at *
    generalize (decide (a.q5 = b.q5)) = v9 at *
    generalize (decide (a.h0 = b.h0)) = v10 at *
    generalize (decide (a.h1 = b.h1)) = v11 at *
    generalize decide ((a.wh.length : Int) = b.wh.length) = v12 at *
    cases v1
    · rw [pc_eq]; simp +contextual -implicitDefEqProofs (maxSteps := 2000000) only [go_sem, ↓reduceIte, Nat.reduceAdd, Nat.reduceMul, Nat.reduceSub, Nat.reduceEqDiff, Nat.reduceLeDiff, Nat.reduceDiv, Nat.reduceMod, Nat.reduceBEq, Nat.reduceBNe, reduceCtorEq, Int.reduceLE, Int.reduceLT, Int.reduceToNat, Int.reduceNeg, Nat.reduceLT, Int.reduceEq, Int.reduceSub, Int.reduceAdd, Int.reduceMul, Nat.reducePow, Int.reduceBEq, Int.reduceBNe, Int.reduceMod, E_36, A36, List.length_map, n1]
    cases v2
    · rw [pc_eq]; simp +contextual -implicitDefEqProofs (maxSteps := 2000000) only [go_sem, ↓reduceIte, Nat.reduceAdd, Nat.reduceMul, Nat.reduceSub, Nat.reduceEqDiff, Nat.reduceLeDiff, Nat.reduceDiv, Nat.reduceMod, Nat.reduceBEq, Nat.reduceBNe, reduceCtorEq, Int.reduceLE, Int.reduceLT, Int.reduceToNat, Int.reduceNeg, Nat.reduceLT, Int.reduceEq, Int.reduceSub, Int.reduceAdd, Int.reduceMul, Nat.reducePow, Int.reduceBEq, Int.reduceBNe, Int.reduceMod, E_36, A36, List.length_map, n1, n2]
    cases v3
    · rw [pc_eq]; simp +contextual -implicitDefEqProofs (maxSteps := 2000000) only [go_sem, ↓reduceIte, Nat.reduceAdd, Nat.reduceMul, Nat.reduceSub, Nat.reduceEqDiff, Nat.reduceLeDiff, Nat.reduceDiv, Nat.reduceMod, Nat.reduceBEq, Nat.reduceBNe, reduceCtorEq, Int.reduceLE, Int.reduceLT, Int.reduceToNat, Int.reduceNeg, Nat.reduceLT, Int.reduceEq, Int.reduceSub, Int.reduceAdd, Int.reduceMul, Nat.reducePow, Int.reduceBEq, Int.reduceBNe, Int.reduceMod, E_36, A36, List.length_map, n1, n2, n3]
    cases v12
    · rw [pc_eq]; simp +contextual -implicitDefEqProofs (maxSteps := 2000000) only [go_sem, ↓reduceIte, Nat.reduceAdd, Nat.reduceMul, Nat.reduceSub, Nat.reduceEqDiff, Nat.reduceLeDiff, Nat.reduceDiv, Nat.reduceMod, Nat.reduceBEq, Nat.reduceBNe, reduceCtorEq, Int.reduceLE, Int.reduceLT, Int.reduceToNat, Int.reduceNeg, Nat.reduceLT, Int.reduceEq, Int.reduceSub, Int.reduceAdd, Int.reduceMul, Nat.reducePow, Int.reduceBEq, Int.reduceBNe, Int.reduceMod, E_36, A36, List.length_map, n1, n2, n3, n4, n5, n6, n7, n8, n9, n10, n11, n12]
      generalize (v4 && (v5 && (v6 && (v7 && (v8 && v9))))) = u; generalize (v10 && v11) = w; cases u <;> cases w <;> rfl
    have lp := lp (k12 rfl)
    rw [pc_eq]; simp +contextual -implicitDefEqProofs (maxSteps := 2000000) only [go_sem, ↓reduceIte, Nat.reduceAdd, Nat.reduceMul, Nat.reduceSub, Nat.reduceEqDiff, Nat.reduceLeDiff, Nat.reduceDiv, Nat.reduceMod, Nat.reduceBEq, Nat.reduceBNe, reduceCtorEq, Int.reduceLE, Int.reduceLT, Int.reduceToNat, Int.reduceNeg, Nat.reduceLT, Int.reduceEq, Int.reduceSub, Int.reduceAdd, Int.reduceMul, Nat.reducePow, Int.reduceBEq, Int.reduceBNe, Int.reduceMod, E_36, A36, List.length_map, n1, n2, n3, n4, n5, n6, n7, n8, n9, n10, n11, n12, lp]
    generalize (v4 && (v5 && (v6 && (v7 && (v8 && v9))))) = u; generalize (v10 && v11) = w; cases u <;> cases w <;> rfl
end Go.Proofs.Ytjmnepfdhkabfaa

namespace Go.Proofs.Ytjmnepfdhkabfaa
set_option maxRecDepth 100000
set_option maxHeartbeats 4000000
set_option linter.unusedSimpArgs false
set_option linter.unusedVariables false
open Go Go.Zv
/-- a journal -/
structure Jnl where
  d : Dsk
  nx : Int
  at_ : Int
abbrev jl (j : Jnl) : LV := .agg [sv j.d.sec, .int .i64 j.d.fuse, .int .i64 j.d.torn, .bool j.d.down, .int .i64 j.nx, .int .i64 j.at_]
def sameJ (a b : Jnl) : Bool := decide (a.d.sec = b.d.sec ∧ a.d.fuse = b.d.fuse ∧ a.d.torn = b.d.torn ∧ a.d.down = b.d.down ∧ a.nx = b.nx ∧ a.at_ = b.at_)
abbrev bx6 (j : Jnl) : Zv.Obj := .box [sv j.d.sec, .int .i64 j.d.fuse, .int .i64 j.d.torn, .bool j.d.down, .int .i64 j.nx, .int .i64 j.at_]
theorem loop41 (a b : Jnl) (hl : a.d.sec.length ≤ 1000000) (hs : ∀ s ∈ a.d.sec, s.length ≤ 1000000) (h : a.d.sec.length = b.d.sec.length) :
    (K E A41_L0 ⟨[(2, .ptr 512 0), (3, .ptr 768 0), (5, .int .i64 0)], [], [(768, bx6 b), (512, bx6 a)], 0⟩).bind (blockR 0 (some []) [4, 5, 76]) =
      if a.d.sec = b.d.sec then some (.ex .nrm ⟨[], [], [(768, bx6 b), (512, bx6 a)], 0⟩) else some (.ex .ret ⟨[(4, .bool false)], [], [(768, bx6 b), (512, bx6 a)], 0⟩) := by
  have lp := loop_eq (fun S => (K E A41_L0 S).bind (blockR 0 (some []) [4, 5, 76]))
    (fun k => ⟨[(2, .ptr 512 0), (3, .ptr 768 0), (5, .int .i64 k)], [], [(768, bx6 b), (512, bx6 a)], 0⟩) a.d.sec b.d.sec h
    (some (.ex .ret ⟨[(4, .bool false)], [], [(768, bx6 b), (512, bx6 a)], 0⟩)) (some (.ex .nrm ⟨[], [], [(768, bx6 b), (512, bx6 a)], 0⟩))
    (by
      show (K E A41_L0 _).bind _ = _
      rw [A41_L0_eq]; simp +contextual -implicitDefEqProofs (maxSteps := 2000000) only [go_sem, ↓reduceIte, Nat.reduceAdd, Nat.reduceMul, Nat.reduceSub, Nat.reduceEqDiff, Nat.reduceLeDiff, Nat.reduceDiv, Nat.reduceMod, Nat.reduceBEq, Nat.reduceBNe, reduceCtorEq, Int.reduceLE, Int.reduceLT, Int.reduceToNat, Int.reduceNeg, Nat.reduceLT, Int.reduceEq, Int.reduceSub, Int.reduceAdd, Int.reduceMul, Nat.reducePow, Int.reduceBEq, Int.reduceBNe, Int.reduceMod, A41_L0b, Int.lt_irrefl, List.length_map])
    (fun k p q hk hp hq => by
      have g1 : (a.d.sec.map s1)[k]? = some [bv p] := by rw [List.getElem?_map, hp]; rfl
      have g2 : (b.d.sec.map s1)[k]? = some [bv q] := by rw [List.getElem?_map, hq]; rfl
      have hw := wr_succ (n := k) (by omega)
      have k1 : (k : Int) < a.d.sec.length := by omega
      have k2 : (k : Int) < b.d.sec.length := by omega
      have k0 : (0 : Int) ≤ k := by omega
      have o := c34 p q (hs p (List.mem_of_getElem? hp))
      show (K E A41_L0 _).bind _ = _
      by_cases hpq : p = q
      · rw [decide_eq_true hpq] at o
        rw [if_pos hpq]
        conv => lhs; rw [A41_L0_eq]
        simp +contextual -implicitDefEqProofs (maxSteps := 2000000) only [go_sem, ↓reduceIte, Nat.reduceAdd, Nat.reduceMul, Nat.reduceSub, Nat.reduceEqDiff, Nat.reduceLeDiff, Nat.reduceDiv, Nat.reduceMod, Nat.reduceBEq, Nat.reduceBNe, reduceCtorEq, Int.reduceLE, Int.reduceLT, Int.reduceToNat, Int.reduceNeg, Nat.reduceLT, Int.reduceEq, Int.reduceSub, Int.reduceAdd, Int.reduceMul, Nat.reducePow, Int.reduceBEq, Int.reduceBNe, Int.reduceMod, A41_L0b, k0, k1, k2, hw, g1, g2, List.length_map, o]
      · rw [decide_eq_false hpq] at o
        rw [if_neg hpq, A41_L0_eq]
        simp +contextual -implicitDefEqProofs (maxSteps := 2000000) only [go_sem, ↓reduceIte, Nat.reduceAdd, Nat.reduceMul, Nat.reduceSub, Nat.reduceEqDiff, Nat.reduceLeDiff, Nat.reduceDiv, Nat.reduceMod, Nat.reduceBEq, Nat.reduceBNe, reduceCtorEq, Int.reduceLE, Int.reduceLT, Int.reduceToNat, Int.reduceNeg, Nat.reduceLT, Int.reduceEq, Int.reduceSub, Int.reduceAdd, Int.reduceMul, Nat.reducePow, Int.reduceBEq, Int.reduceBNe, Int.reduceMod, A41_L0b, k0, k1, k2, hw, g1, g2, List.length_map, o])
  simp only [Int.natCast_zero, Int.ofNat_zero] at lp
  exact lp
theorem c41 (a b : Jnl) (hl : a.d.sec.length ≤ 1000000) (hs : ∀ s ∈ a.d.sec, s.length ≤ 1000000) : pc E 41 [jl a, jl b] = some (.bool (sameJ a b)) := by
  have cs : ∀ x y : Int, (x != y) = !decide (x = y) := fun x y => by rw [bne, Bool.beq_eq_decide_eq]
  have hv : sameJ a b = (decide (a.nx = b.nx) && (decide (a.at_ = b.at_) && (decide (a.d.fuse = b.d.fuse) && (decide (a.d.torn = b.d.torn) && ((a.d.down == b.d.down) && (decide ((a.d.sec.length : Int) = b.d.sec.length) && decide (a.d.sec = b.d.sec))))))) := by
    obtain ⟨⟨s, f, t, w⟩, n, i⟩ := a
    obtain ⟨⟨s', f', t', w'⟩, n', i'⟩ := b
    unfold sameJ
    rw [Bool.eq_iff_iff]
    simp only [Bool.and_eq_true, decide_eq_true_eq, beq_iff_eq]
    constructor
    · rintro ⟨h1, h2, h3, h4, h5, h6⟩; exact ⟨h5, h6, h2, h3, h4, by rw [h1], h1⟩
    · rintro ⟨h5, h6, h2, h3, h4, _, h1⟩; exact ⟨h1, h2, h3, h4, h5, h6⟩
  rw [hv]
  have lp := loop41 a b hl hs
  have n1 := cs a.nx b.nx
  have n2 := cs a.at_ b.at_
  have n3 := cs a.d.fuse b.d.fuse
  have n4 := cs a.d.torn b.d.torn
  have n6 := cs a.d.sec.length b.d.sec.length
  have k6 : decide ((a.d.sec.length : Int) = b.d.sec.length) = true → a.d.sec.length = b.d.sec.length := fun h => by have := of_decide_eq_true h; omega
  have n5 : ∀ u v : Bool, (!(u == v)) = (u != v) := fun u v => rfl
  generalize decide (a.nx = b.nx) = v1 at *
  generalize decide (a.at_ = b.at_) = v2 at *
  generalize decide (a.d.fuse = b.d.fuse) = v3 at *
  generalize decide (a.d.torn = b.d.torn) = v4 at *
  generalize decide ((a.d.sec.length : Int) = b.d.sec.length) = v6 at *
  cases v1
  · rw [pc_eq]; simp +contextual -implicitDefEqProofs (maxSteps := 2000000) only [go_sem, ↓reduceIte, Nat.reduceAdd, Nat.reduceMul, Nat.reduceSub, Nat.reduceEqDiff, Nat.reduceLeDiff, Nat.reduceDiv, Nat.reduceMod, Nat.reduceBEq, Nat.reduceBNe, reduceCtorEq, Int.reduceLE, Int.reduceLT, Int.reduceToNat, Int.reduceNeg, Nat.reduceLT, Int.reduceEq, Int.reduceSub, Int.reduceAdd, Int.reduceMul, Nat.reducePow, Int.reduceBEq, Int.reduceBNe, Int.reduceMod, E_41, A41, List.length_map, n1]
  cases v2
  · rw [pc_eq]; simp +contextual -implicitDefEqProofs (maxSteps := 2000000) only [go_sem, ↓reduceIte, Nat.reduceAdd, Nat.reduceMul, Nat.reduceSub, Nat.reduceEqDiff, Nat.reduceLeDiff, Nat.reduceDiv, Nat.reduceMod, Nat.reduceBEq, Nat.reduceBNe, reduceCtorEq, Int.reduceLE, Int.reduceLT, Int.reduceToNat, Int.reduceNeg, Nat.reduceLT, Int.reduceEq, Int.reduceSub, Int.reduceAdd, Int.reduceMul, Nat.reducePow, Int.reduceBEq, Int.reduceBNe, Int.reduceMod, E_41, A41, List.length_map, n1, n2]
  cases v3
  · rw [pc_eq]; simp +contextual -implicitDefEqProofs (maxSteps := 2000000) only [go_sem, ↓reduceIte, Nat.reduceAdd, Nat.reduceMul, Nat.reduceSub, Nat.reduceEqDiff, Nat.reduceLeDiff, Nat.reduceDiv, Nat.reduceMod, Nat.reduceBEq, Nat.reduceBNe, reduceCtorEq, Int.reduceLE, Int.reduceLT, Int.reduceToNat, Int.reduceNeg, Nat.reduceLT, Int.reduceEq, Int.reduceSub, Int.reduceAdd, Int.reduceMul, Nat.reducePow, Int.reduceBEq, Int.reduceBNe, Int.reduceMod, E_41, A41, List.length_map, n1, n2, n3]
  cases v4
  · rw [pc_eq]; simp +contextual -implicitDefEqProofs (maxSteps := 2000000) only [go_sem, ↓reduceIte, Nat.reduceAdd, Nat.reduceMul, Nat.reduceSub, Nat.reduceEqDiff, Nat.reduceLeDiff, Nat.reduceDiv, Nat.reduceMod, Nat.reduceBEq, Nat.reduceBNe, reduceCtorEq, Int.reduceLE, Int.reduceLT, Int.reduceToNat, Int.reduceNeg, Nat.reduceLT, Int.reduceEq, Int.reduceSub, Int.reduceAdd, Int.reduceMul, Nat.reducePow, Int.reduceBEq, Int.reduceBNe, Int.reduceMod, E_41, A41, List.length_map, n1, n2, n3, n4]
  cases h5 : (a.d.down == b.d.down)
  · have h5' : (a.d.down != b.d.down) = true := by rw [bne, h5]; rfl
    rw [pc_eq]; simp +contextual -implicitDefEqProofs (maxSteps := 2000000) only [go_sem, ↓reduceIte, Nat.reduceAdd, Nat.reduceMul, Nat.reduceSub, Nat.reduceEqDiff, Nat.reduceLeDiff, Nat.reduceDiv, Nat.reduceMod, Nat.reduceBEq, Nat.reduceBNe, reduceCtorEq, Int.reduceLE, Int.reduceLT, Int.reduceToNat, Int.reduceNeg, Nat.reduceLT, Int.reduceEq, Int.reduceSub, Int.reduceAdd, Int.reduceMul, Nat.reducePow, Int.reduceBEq, Int.reduceBNe, Int.reduceMod, E_41, A41, List.length_map, n1, n2, n3, n4, h5, h5']
  have h5' : (a.d.down != b.d.down) = false := by rw [bne, h5]; rfl
  cases v6
  · rw [pc_eq]; simp +contextual -implicitDefEqProofs (maxSteps := 2000000) only [go_sem, ↓reduceIte, Nat.reduceAdd, Nat.reduceMul, Nat.reduceSub, Nat.reduceEqDiff, Nat.reduceLeDiff, Nat.reduceDiv, Nat.reduceMod, Nat.reduceBEq, Nat.reduceBNe, reduceCtorEq, Int.reduceLE, Int.reduceLT, Int.reduceToNat, Int.reduceNeg, Nat.reduceLT, Int.reduceEq, Int.reduceSub, Int.reduceAdd, Int.reduceMul, Nat.reducePow, Int.reduceBEq, Int.reduceBNe, Int.reduceMod, E_41, A41, List.length_map, n1, n2, n3, n4, h5, h5', n6]
  have lp := lp (k6 rfl)
  by_cases hq : a.d.sec = b.d.sec
  · rw [if_pos hq] at lp
    rw [decide_eq_true hq, pc_eq]; simp +contextual -implicitDefEqProofs (maxSteps := 2000000) only [go_sem, ↓reduceIte, Nat.reduceAdd, Nat.reduceMul, Nat.reduceSub, Nat.reduceEqDiff, Nat.reduceLeDiff, Nat.reduceDiv, Nat.reduceMod, Nat.reduceBEq, Nat.reduceBNe, reduceCtorEq, Int.reduceLE, Int.reduceLT, Int.reduceToNat, Int.reduceNeg, Nat.reduceLT, Int.reduceEq, Int.reduceSub, Int.reduceAdd, Int.reduceMul, Nat.reducePow, Int.reduceBEq, Int.reduceBNe, Int.reduceMod, E_41, A41, List.length_map, n1, n2, n3, n4, h5, h5', n6, lp]
  · rw [if_neg hq] at lp
    rw [decide_eq_false hq, pc_eq]; simp +contextual -implicitDefEqProofs (maxSteps := 2000000) only [go_sem, ↓reduceIte, Nat.reduceAdd, Nat.reduceMul, Nat.reduceSub, Nat.reduceEqDiff, Nat.reduceLeDiff, Nat.reduceDiv, Nat.reduceMod, Nat.reduceBEq, Nat.reduceBNe, reduceCtorEq, Int.reduceLE, Int.reduceLT, Int.reduceToNat, Int.reduceNeg, Nat.reduceLT, Int.reduceEq, Int.reduceSub, Int.reduceAdd, Int.reduceMul, Nat.reducePow, Int.reduceBEq, Int.reduceBNe, Int.reduceMod, E_41, A41, List.length_map, n1, n2, n3, n4, h5, h5', n6, lp]
end Go.Proofs.Ytjmnepfdhkabfaa

namespace Go.Proofs.Ytjmnepfdhkabfaa
set_option maxRecDepth 100000
set_option maxHeartbeats 4000000
set_option linter.unusedSimpArgs false
set_option linter.unusedVariables false
open Go Go.Zv
def wS (r : Rec) (n : Int) : Rec := ⟨n, r.step, r.q0, r.q1, r.q2, r.q3, r.q4, r.q5, r.h0, r.h1, r.wh, r.mode⟩
/-- Append -/
def apd (j : Jnl) (r : Rec) : Jnl × Int :=
  if mayB (wS r 1) = false then (j, 1) else
  if 1073741824 < j.nx then (j, 310) else
  if (wr j.d j.at_ (enc (wS r j.nx))).2 ≠ 0 then (⟨(wr j.d j.at_ (enc (wS r j.nx))).1, j.nx, j.at_⟩, (wr j.d j.at_ (enc (wS r j.nx))).2) else
  (⟨(wr j.d j.at_ (enc (wS r j.nx))).1, j.nx + 1, (((j.at_.toNat + 1) % (wr j.d j.at_ (enc (wS r j.nx))).1.sec.length : Nat) : Int)⟩, 0)
theorem may_wS {r : Rec} {n : Int} (h : mayB (wS r 1) = true) (h1 : 1 ≤ n) (h2 : n ≤ 1073741824) : OKr (wS r n) := by
  have k := (may_iff _).1 h
  exact ⟨k.q0, k.q1, k.q2, k.q3, k.q4, k.q5, k.h0, k.h1, k.wh, ⟨h1, h2⟩, k.step, k.len, k.mode⟩
end Go.Proofs.Ytjmnepfdhkabfaa

namespace Go.Proofs.Ytjmnepfdhkabfaa
set_option maxRecDepth 100000
set_option maxHeartbeats 4000000
set_option linter.unusedSimpArgs false
set_option linter.unusedVariables false
open Go Go.Zv
theorem c40a (j : Jnl) (r : Rec) (hl : r.wh.length ≤ 1000000000) (hm : mayB (wS r 1) = false) : pc E 40 [jl j, rv r] = some (.tup [jl j, .int .i64 1]) := by
  have o := c61 (wS r 1) hl
  rw [hm] at o
  dsimp only [wS] at o
  rw [pc_eq]; simp +contextual -implicitDefEqProofs (maxSteps := 2000000) only [go_sem, ↓reduceIte, Nat.reduceAdd, Nat.reduceMul, Nat.reduceSub, Nat.reduceEqDiff, Nat.reduceLeDiff, Nat.reduceDiv, Nat.reduceMod, Nat.reduceBEq, Nat.reduceBNe, reduceCtorEq, Int.reduceLE, Int.reduceLT, Int.reduceToNat, Int.reduceNeg, Nat.reduceLT, Int.reduceEq, Int.reduceSub, Int.reduceAdd, Int.reduceMul, Nat.reducePow, Int.reduceBEq, Int.reduceBNe, Int.reduceMod, E_40, A40, o]
theorem c40b (j : Jnl) (r : Rec) (hl : r.wh.length ≤ 1000000000) (hm : mayB (wS r 1) = true) (hn : 1073741824 < j.nx) : pc E 40 [jl j, rv r] = some (.tup [jl j, .int .i64 310]) := by
  have o := c61 (wS r 1) hl
  rw [hm] at o
  dsimp only [wS] at o
  rw [pc_eq]; simp +contextual -implicitDefEqProofs (maxSteps := 2000000) only [go_sem, ↓reduceIte, Nat.reduceAdd, Nat.reduceMul, Nat.reduceSub, Nat.reduceEqDiff, Nat.reduceLeDiff, Nat.reduceDiv, Nat.reduceMod, Nat.reduceBEq, Nat.reduceBNe, reduceCtorEq, Int.reduceLE, Int.reduceLT, Int.reduceToNat, Int.reduceNeg, Nat.reduceLT, Int.reduceEq, Int.reduceSub, Int.reduceAdd, Int.reduceMul, Nat.reducePow, Int.reduceBEq, Int.reduceBNe, Int.reduceMod, E_40, A40, o, hn]
theorem c40c (j : Jnl) (r : Rec) (hl : r.wh.length ≤ 1000000000) (hm : mayB (wS r 1) = true) (hn : ¬ 1073741824 < j.nx) (h1 : 1 ≤ j.nx) (h : OKd j.d) (d : Dsk) (e : Int) (he : wr j.d j.at_ (enc (wS r j.nx)) = (d, e)) (e0 : e ≠ 0) : pc E 40 [jl j, rv r] = some (.tup [jl ⟨d, j.nx, j.at_⟩, .int .i64 e]) := by
  have o := c61 (wS r 1) hl
  rw [hm] at o
  have ok := may_wS hm h1 (by omega : j.nx ≤ 1073741824)
  have o2 := c35 (wS r j.nx) ok
  have hlen := enc_len ok
  have o3 := c29 j.d h j.at_ (enc (wS r j.nx)) (by omega)
  rw [he] at o3
  dsimp only at o3
  have hq : ((enc (wS r j.nx)).map b1).length = 64 := by rw [List.length_map]; exact hlen
  have ht : ((enc (wS r j.nx)).map b1).take 64 = (enc (wS r j.nx)).map b1 := List.take_of_length_le (by omega)
  have ha := scal_b1 (enc (wS r j.nx))
  unfold bv at o3
  generalize (enc (wS r j.nx)).map b1 = er at *
  dsimp only [wS] at o o2
  have e1 : (e != 0) = true := by simp [e0]
  rw [pc_eq]; simp +contextual -implicitDefEqProofs (maxSteps := 2000000) only [go_sem, ↓reduceIte, Nat.reduceAdd, Nat.reduceMul, Nat.reduceSub, Nat.reduceEqDiff, Nat.reduceLeDiff, Nat.reduceDiv, Nat.reduceMod, Nat.reduceBEq, Nat.reduceBNe, reduceCtorEq, Int.reduceLE, Int.reduceLT, Int.reduceToNat, Int.reduceNeg, Nat.reduceLT, Int.reduceEq, Int.reduceSub, Int.reduceAdd, Int.reduceMul, Nat.reducePow, Int.reduceBEq, Int.reduceBNe, Int.reduceMod, E_40, A40, o, hn, o2, o3, hq, ht, ha, e0, e1]
theorem c40d (j : Jnl) (r : Rec) (hl : r.wh.length ≤ 1000000000) (hm : mayB (wS r 1) = true) (hn : ¬ 1073741824 < j.nx) (h1 : 1 ≤ j.nx) (h : OKd j.d) (d : Dsk) (he : wr j.d j.at_ (enc (wS r j.nx)) = (d, 0)) (n : Nat) (ha0 : j.at_ = n) (hn6 : n < 1000000) (hd1 : 1 ≤ d.sec.length) (hd2 : d.sec.length ≤ 1000) : pc E 40 [jl j, rv r] = some (.tup [jl ⟨d, j.nx + 1, (((n + 1) % d.sec.length : Nat) : Int)⟩, .int .i64 0]) := by
  have o := c61 (wS r 1) hl
  rw [hm] at o
  have ok := may_wS hm h1 (by omega : j.nx ≤ 1073741824)
  have o2 := c35 (wS r j.nx) ok
  have hlen := enc_len ok
  have o3 := c29 j.d h j.at_ (enc (wS r j.nx)) (by omega)
  rw [he] at o3
  dsimp only at o3
  have hq : ((enc (wS r j.nx)).map b1).length = 64 := by rw [List.length_map]; exact hlen
  have ht : ((enc (wS r j.nx)).map b1).take 64 = (enc (wS r j.nx)).map b1 := List.take_of_length_le (by omega)
  have ha := scal_b1 (enc (wS r j.nx))
  unfold bv at o3
  generalize (enc (wS r j.nx)).map b1 = er at *
  dsimp only [wS] at o o2
  have o4 := c68 d hd1 hd2 n hn6
  have hw : IntKind.i64.wrap (j.nx + 1) = j.nx + 1 := wrap_small (by omega) (by omega)
  rw [ha0] at o3
  rw [pc_eq]; simp +contextual -implicitDefEqProofs (maxSteps := 2000000) only [go_sem, ↓reduceIte, Nat.reduceAdd, Nat.reduceMul, Nat.reduceSub, Nat.reduceEqDiff, Nat.reduceLeDiff, Nat.reduceDiv, Nat.reduceMod, Nat.reduceBEq, Nat.reduceBNe, reduceCtorEq, Int.reduceLE, Int.reduceLT, Int.reduceToNat, Int.reduceNeg, Nat.reduceLT, Int.reduceEq, Int.reduceSub, Int.reduceAdd, Int.reduceMul, Nat.reducePow, Int.reduceBEq, Int.reduceBNe, Int.reduceMod, E_40, A40, o, hn, o2, o3, o4, ha0, hw, hq, ht, ha, bne_self_eq_false]
end Go.Proofs.Ytjmnepfdhkabfaa

namespace Go.Proofs.Ytjmnepfdhkabfaa
set_option maxRecDepth 100000
set_option maxHeartbeats 4000000
set_option linter.unusedSimpArgs false
set_option linter.unusedVariables false
open Go Go.Zv
/-- Append, whole -/
theorem c40 (j : Jnl) (r : Rec) (hl : r.wh.length ≤ 1000000000) (h1 : 1 ≤ j.nx) (h : OKd j.d) : pc E 40 [jl j, rv r] = some (.tup [jl (apd j r).1, .int .i64 (apd j r).2]) := by
  by_cases hm : mayB (wS r 1) = false
  · rw [c40a j r hl hm]; unfold apd; rw [if_pos hm]
  · have hm' : mayB (wS r 1) = true := by simpa using hm
    by_cases hn : 1073741824 < j.nx
    · rw [c40b j r hl hm' hn]; unfold apd; rw [if_neg hm, if_pos hn]
    · by_cases he : (wr j.d j.at_ (enc (wS r j.nx))).2 = 0
      · have hrange : 0 ≤ j.at_ ∧ j.at_ < j.d.sec.length ∧ (wr j.d j.at_ (enc (wS r j.nx))).1.sec.length = j.d.sec.length := by
          unfold wr at he ⊢
          split at he
          · cases he
          · rename_i hd
            rw [if_neg hd]
            split at he
            · rename_i hc
              rw [if_pos hc]
              refine ⟨hc.1, hc.2.1, ?_⟩
              split <;> simp
            · cases he
        have hlen2 := h.len2
        have hlen1 := h.len1
        rw [c40d j r hl hm' hn h1 h (wr j.d j.at_ (enc (wS r j.nx))).1 (by rw [← he]) j.at_.toNat (by omega) (by omega) (by omega) (by omega)]
        unfold apd; rw [if_neg hm, if_neg hn, if_neg (by simpa using he)]
      · rw [c40c j r hl hm' hn h1 h (wr j.d j.at_ (enc (wS r j.nx))).1 (wr j.d j.at_ (enc (wS r j.nx))).2 rfl he]
        unfold apd; rw [if_neg hm, if_neg hn, if_pos he]
end Go.Proofs.Ytjmnepfdhkabfaa

namespace Go.Proofs.Ytjmnepfdhkabfaa
set_option maxRecDepth 100000
set_option maxHeartbeats 4000000
set_option linter.unusedSimpArgs false
set_option linter.unusedVariables false
open Go Go.Zv
theorem recL_snoc (n : Nat) (b : List UInt8) : ∀ (l : List (List UInt8)) (i : Nat) (st : Rec × Int × Int), recL n (l ++ [b]) i st = rstep n (recL n l i st) (i + l.length) b
  | [], i, st => rfl
  | c :: l, i, st => by
    rw [List.cons_append, recL_cons, recL_cons, recL_snoc n b l]
    rw [List.length_cons, show i + 1 + l.length = i + (l.length + 1) by omega]
theorem recL_take {s : List (List UInt8)} {n k : Nat} {b : List UInt8} (h : s[k]? = some b) (st : Rec × Int × Int) : recL n (s.take (k + 1)) 0 st = rstep n (recL n (s.take k) 0 st) k b := by
  have hk := (List.getElem?_eq_some_iff.1 h).1
  rw [List.take_add_one, h, Option.toList_some, recL_snoc, List.length_take, Nat.zero_add, Nat.min_eq_left (by omega)]
abbrev O42 (d : Dsk) (r : Rec) (nx at_ : Int) : Heap := [(1536, .box [.int .i64 r.seq, .int .i64 r.step, .int .i64 r.q0, .int .i64 r.q1, .int .i64 r.q2, .int .i64 r.q3, .int .i64 r.q4, .int .i64 r.q5, .int .i64 r.h0, .int .i64 r.h1, .vs (r.wh.map c1), .int .i64 r.mode]),
  (1280, .box [sv d.sec, .int .i64 d.fuse, .int .i64 d.torn, .bool d.down, .int .i64 nx, .int .i64 at_]), (1281, .row 1 []),
  (768, .box [.int .i64 0, .int .i64 0, .int .i64 0, .int .i64 0, .int .i64 0, .int .i64 0, .int .i64 0, .int .i64 0, .int .i64 0, .int .i64 0, .bs 779 0 0, .int .i64 0]), (779, .row 1 []),
  (512, .box [.bs 513 0 0, .int .i64 0, .int .i64 0, .bool false, .int .i64 0, .int .i64 0]), (513, .row 1 []), (256, .box [sv d.sec, .int .i64 d.fuse, .int .i64 d.torn, .bool d.down])]
theorem lp42 (d : Dsk) (h : OKd d) (hd : d.down = false) : ∃ y : Rec × Int × Int, y = recv d.sec ∧
    (K E A42_L0 ⟨[(1, .ptr 256 0), (2, .ptr 512 0), (3, .ptr 768 0), (5, .ptr 1280 0), (6, .ptr 1536 0), (16, .int .i64 d.sec.length), (17, .int .i64 0)], [], O42 d zrec 1 0, 0⟩).bind (blockR 0 (some [2, 3, 5, 6]) [7, 8, 9, 10, 11, 23, 30, 48]) =
    some (.ex .nrm ⟨[(2, .ptr 512 0), (3, .ptr 768 0), (5, .ptr 1280 0), (6, .ptr 1536 0)], [], O42 d y.1 y.2.1 y.2.2, 0⟩) := by
  obtain ⟨s, f, t, w⟩ := d
  simp only at hd
  subst hd
  have hl1 : 1 ≤ s.length := h.len1
  have hl2 : s.length ≤ 64 := h.len2
  have lp := loop_inv (σ := Rec × Int × Int) (fun S => (K E A42_L0 S).bind (blockR 0 (some [2, 3, 5, 6]) [7, 8, 9, 10, 11, 23, 30, 48]))
    (fun k y => ⟨[(1, .ptr 256 0), (2, .ptr 512 0), (3, .ptr 768 0), (5, .ptr 1280 0), (6, .ptr 1536 0), (16, .int .i64 s.length), (17, .int .i64 k)], [], O42 ⟨s, f, t, false⟩ y.1 y.2.1 y.2.2, 0⟩)
    s.length (fun k y => y = recL s.length (s.take k) 0 (zrec, 1, 0))
    (fun k y hk hi => by
      obtain ⟨r, nx, at_⟩ := y
      have hget : s[k]? = some (s[k]'hk) := List.getElem?_eq_getElem hk
      have hlen : (s[k]'hk).length = 64 := h.all _ (List.getElem_mem hk)
      have hs := recL_take (n := s.length) hget (zrec, 1, 0)
      rw [← hi] at hs
      generalize s[k]'hk = b at *
      have h0 : (0 : Int) ≤ k := by omega
      have h1 : (k : Int) < s.length := by omega
      have o1 : pc E 25 [.agg [sv s, .int .i64 f, .int .i64 t, .bool false], .int .i64 k] = some (.tup [bv b, .int .i64 0]) := by
        rw [c25, rdv, if_neg (by decide), if_pos ⟨h0, h1⟩, Int.toNat_natCast, hget, Option.getD_some]
      have o2 := c33 b (by omega)
      have o3 := c68 ⟨s, f, t, false⟩ hl1 (by simp only; omega) k (by omega)
      simp only at o3
      have hw := wr_succ (n := k) (by omega)
      cases hdec : dec b with
      | none =>
        refine ⟨(r, nx, at_), ?_, ?_⟩
        · rw [hs]; unfold rstep; rw [hdec]
        · rw [decR, hdec] at o2
          simp only [rv, zrec, List.map_nil] at o2
          show (K E A42_L0 _).bind _ = (K E A42_L0 _).bind _
          conv => lhs; rw [A42_L0_eq]
          simp +contextual -implicitDefEqProofs (maxSteps := 2000000) only [go_sem, ↓reduceIte, Nat.reduceAdd, Nat.reduceMul, Nat.reduceSub, Nat.reduceEqDiff, Nat.reduceLeDiff, Nat.reduceDiv, Nat.reduceMod, Nat.reduceBEq, Nat.reduceBNe, reduceCtorEq, Int.reduceLE, Int.reduceLT, Int.reduceToNat, Int.reduceNeg, Nat.reduceLT, Int.reduceEq, Int.reduceSub, Int.reduceAdd, Int.reduceMul, Nat.reducePow, Int.reduceBEq, Int.reduceBNe, Int.reduceMod, A42_L0b, O42, h0, h1, o1, o2, hw]
      | some x =>
        have hok := (dec_some hdec).1
        rw [decR, hdec] at o2
        simp only [rv] at o2
        have hsq := hok.seq
        have hw2 : IntKind.i64.wrap (x.seq + 1) = x.seq + 1 := wrap_small (by omega) (by omega)
        by_cases hgt : r.seq < x.seq
        · refine ⟨(x, x.seq + 1, (((k + 1) % s.length : Nat) : Int)), ?_, ?_⟩
          · rw [hs]; unfold rstep; rw [hdec]; simp only; rw [if_pos hgt]
          · show (K E A42_L0 _).bind _ = (K E A42_L0 _).bind _
            conv => lhs; rw [A42_L0_eq]
            simp +contextual -implicitDefEqProofs (maxSteps := 2000000) only [go_sem, ↓reduceIte, Nat.reduceAdd, Nat.reduceMul, Nat.reduceSub, Nat.reduceEqDiff, Nat.reduceLeDiff, Nat.reduceDiv, Nat.reduceMod, Nat.reduceBEq, Nat.reduceBNe, reduceCtorEq, Int.reduceLE, Int.reduceLT, Int.reduceToNat, Int.reduceNeg, Nat.reduceLT, Int.reduceEq, Int.reduceSub, Int.reduceAdd, Int.reduceMul, Nat.reducePow, Int.reduceBEq, Int.reduceBNe, Int.reduceMod, A42_L0b, O42, h0, h1, o1, o2, o3, hw, hw2, hgt]
        · refine ⟨(r, nx, at_), ?_, ?_⟩
          · rw [hs]; unfold rstep; rw [hdec]; simp only; rw [if_neg hgt]
          · show (K E A42_L0 _).bind _ = (K E A42_L0 _).bind _
            conv => lhs; rw [A42_L0_eq]
            simp +contextual -implicitDefEqProofs (maxSteps := 2000000) only [go_sem, ↓reduceIte, Nat.reduceAdd, Nat.reduceMul, Nat.reduceSub, Nat.reduceEqDiff, Nat.reduceLeDiff, Nat.reduceDiv, Nat.reduceMod, Nat.reduceBEq, Nat.reduceBNe, reduceCtorEq, Int.reduceLE, Int.reduceLT, Int.reduceToNat, Int.reduceNeg, Nat.reduceLT, Int.reduceEq, Int.reduceSub, Int.reduceAdd, Int.reduceMul, Nat.reducePow, Int.reduceBEq, Int.reduceBNe, Int.reduceMod, A42_L0b, O42, h0, h1, o1, o2, o3, hw, hw2, hgt])
    (zrec, 1, 0) rfl
  obtain ⟨y, hy, hg⟩ := lp
  rw [List.take_length] at hy
  refine ⟨y, hy, ?_⟩
  simp only [Int.natCast_zero, Int.ofNat_zero] at hg
  refine hg.trans ?_
  show (K E A42_L0 _).bind _ = _
  rw [A42_L0_eq]
  simp +contextual -implicitDefEqProofs (maxSteps := 2000000) only [go_sem, ↓reduceIte, Nat.reduceAdd, Nat.reduceMul, Nat.reduceSub, Nat.reduceEqDiff, Nat.reduceLeDiff, Nat.reduceDiv, Nat.reduceMod, Nat.reduceBEq, Nat.reduceBNe, reduceCtorEq, Int.reduceLE, Int.reduceLT, Int.reduceToNat, Int.reduceNeg, Nat.reduceLT, Int.reduceEq, Int.reduceSub, Int.reduceAdd, Int.reduceMul, Nat.reducePow, Int.reduceBEq, Int.reduceBNe, Int.reduceMod, A42_L0b, Int.lt_irrefl]
theorem c42 (d : Dsk) (h : OKd d) (hd : d.down = false) : pc E 42 [dv d] = some (.tup [jl ⟨d, (recv d.sec).2.1, (recv d.sec).2.2⟩, rv (recv d.sec).1, .bool (decide (0 < (recv d.sec).1.seq))]) := by
  obtain ⟨⟨r, nx, at_⟩, hy, lp⟩ := lp42 d h hd
  rw [← hy]
  have o := c38 d
  simp only [O42, zrec, List.map_nil] at lp
  rw [pc_eq]; simp +contextual -implicitDefEqProofs (maxSteps := 2000000) only [go_sem, ↓reduceIte, Nat.reduceAdd, Nat.reduceMul, Nat.reduceSub, Nat.reduceEqDiff, Nat.reduceLeDiff, Nat.reduceDiv, Nat.reduceMod, Nat.reduceBEq, Nat.reduceBNe, reduceCtorEq, Int.reduceLE, Int.reduceLT, Int.reduceToNat, Int.reduceNeg, Nat.reduceLT, Int.reduceEq, Int.reduceSub, Int.reduceAdd, Int.reduceMul, Nat.reducePow, Int.reduceBEq, Int.reduceBNe, Int.reduceMod, E_42, A42, o, List.length_map, O42, lp, gt_iff_lt]
end Go.Proofs.Ytjmnepfdhkabfaa

/- The engine, part 32: a call without free variables, evaluated with fuel. -/
namespace Go.Zv
set_option autoImplicit false
theorem pc_of_run {E : FuncId → Option AFn} (n : Nat) {f : FuncId} {args : List LV} {v : LV} (h : pureCall (run E n) f args = some v) : pc E f args = some v :=
  (nice_pure f args).mono (fun _ _ h => Run_iff.2 ⟨n, h⟩) h
end Go.Zv

namespace Go.Proofs.Ytjmnepfdhkabfaa
set_option maxRecDepth 100000
set_option maxHeartbeats 4000000
set_option linter.unusedSimpArgs false
set_option linter.unusedVariables false
open Go Go.Zv
theorem c31 : pc E 31 [] = some (.bool true) := by
  refine pc_of_run 4000 ?_
  kernel_rfl
end Go.Proofs.Ytjmnepfdhkabfaa

namespace Go.Proofs.Ytjmnepfdhkabfaa
set_option maxRecDepth 100000
set_option maxHeartbeats 4000000
set_option linter.unusedSimpArgs false
set_option linter.unusedVariables false
open Go Go.Zv
theorem apd_bad {j : Jnl} {r : Rec} (hm : mayB (wS r 1) = false) : apd j r = (j, 1) := by unfold apd; rw [if_pos hm]
/-- what the sector held -/
def oldS (j : Jnl) : List UInt8 := j.d.sec[j.at_.toNat]?.getD []
theorem old_len {j : Jnl} {last : Rec} (h : JI j.d j.nx j.at_ last) : (oldS j).length = 64 := by
  have hat := h.at_lt
  have hlt : j.at_.toNat < j.d.sec.length := by omega
  unfold oldS
  rw [List.getElem?_eq_getElem hlt, Option.getD_some]
  exact h.ok.all _ (List.getElem_mem hlt)
theorem apd_ok {j : Jnl} {last r : Rec} (h : JI j.d j.nx j.at_ last) (hd : j.d.down = false) (hf : j.d.fuse ≠ 1) (hm : mayB (wS r 1) = true) (hn : j.nx ≤ 1073741824) :
    apd j r = (⟨⟨j.d.sec.set j.at_.toNat (over (enc (wS r j.nx)) (oldS j)), if j.d.fuse > 1 then j.d.fuse - 1 else j.d.fuse, j.d.torn, false⟩, j.nx + 1, (((j.at_.toNat + 1) % j.d.sec.length : Nat) : Int)⟩, 0) := by
  have hnx := h.nx_eq
  have hnn := h.nn
  have ok := may_wS hm (by omega : 1 ≤ j.nx) hn
  have hl := enc_len ok
  have hat := h.at_lt
  have hw : wr j.d j.at_ (enc (wS r j.nx)) = (⟨j.d.sec.set j.at_.toNat (over (enc (wS r j.nx)) (oldS j)), if j.d.fuse > 1 then j.d.fuse - 1 else j.d.fuse, j.d.torn, false⟩, 0) := by
    unfold wr
    rw [if_neg (by rw [hd]; decide), if_pos ⟨hat.1, hat.2, by omega⟩, if_neg hf]
    rfl
  unfold apd
  rw [if_neg (by rw [hm]; decide), if_neg (by omega), hw]
  simp only
  rw [if_neg (by decide), List.length_set]
theorem apd_cut {j : Jnl} {last r : Rec} (h : JI j.d j.nx j.at_ last) (hd : j.d.down = false) (hf : j.d.fuse = 1) (hm : mayB (wS r 1) = true) (hn : j.nx ≤ 1073741824) :
    apd j r = (⟨⟨j.d.sec.set j.at_.toNat (over ((enc (wS r j.nx)).take j.d.torn.toNat) (oldS j)), -1, 0, true⟩, j.nx, j.at_⟩, 300) := by
  have hnx := h.nx_eq
  have hnn := h.nn
  have ok := may_wS hm (by omega : 1 ≤ j.nx) hn
  have hl := enc_len ok
  have hat := h.at_lt
  have hw : wr j.d j.at_ (enc (wS r j.nx)) = (⟨j.d.sec.set j.at_.toNat (over ((enc (wS r j.nx)).take j.d.torn.toNat) (oldS j)), -1, 0, true⟩, 300) := by
    unfold wr
    rw [if_neg (by rw [hd]; decide), if_pos ⟨hat.1, hat.2, by omega⟩, if_pos hf]
    rfl
  unfold apd
  rw [if_neg (by rw [hm]; decide), if_neg (by omega), hw]
  simp only
  rw [if_pos (by decide)]
/-- a record put whole -/
theorem JI.app {j : Jnl} {last r : Rec} (h : JI j.d j.nx j.at_ last) (hd : j.d.down = false) (hf : j.d.fuse ≠ 1) (hm : mayB (wS r 1) = true) (hn : j.nx ≤ 1073741824) :
    ∃ j' : Jnl, apd j r = (j', 0) ∧ JI j'.d j'.nx j'.at_ (wS r j.nx) ∧ j'.nx = j.nx + 1 ∧ j'.d.down = false ∧ j'.d.sec.length = j.d.sec.length ∧ j'.d.torn = j.d.torn ∧ j'.d.fuse = (if j.d.fuse > 1 then j.d.fuse - 1 else j.d.fuse) := by
  have hnx := h.nx_eq
  have hnn := h.nn
  have ok := may_wS hm (by omega : 1 ≤ j.nx) hn
  have hfu := h.ok.fuse
  refine ⟨_, apd_ok h hd hf hm hn, ?_, rfl, rfl, by simp, rfl, rfl⟩
  simp only
  refine JI.put h ok rfl ?_ h.ok.torn0 h.ok.torn1 (oldS j) (old_len h)
  split <;> omega
/-- a record cut -/
theorem JI.cut {j : Jnl} {last r : Rec} (h : JI j.d j.nx j.at_ last) (hd : j.d.down = false) (hf : j.d.fuse = 1) (hm : mayB (wS r 1) = true) (hn : j.nx ≤ 255) (h2 : 2 ≤ j.d.sec.length) :
    ∃ d' : Dsk, apd j r = (⟨d', j.nx, j.at_⟩, 300) ∧ d'.down = true ∧ d'.sec.length = j.d.sec.length ∧ d'.fuse = -1 ∧
      ((j.d.torn = 64 ∧ JI ⟨d'.sec, d'.fuse, d'.torn, false⟩ (j.nx + 1) (((j.at_.toNat + 1) % j.d.sec.length : Nat) : Int) (wS r j.nx)) ∨ (j.d.torn ≠ 64 ∧ JI ⟨d'.sec, d'.fuse, d'.torn, false⟩ j.nx j.at_ last)) := by
  have hnx := h.nx_eq
  have hnn := h.nn
  have ok := may_wS hm (by omega : 1 ≤ j.nx) (by omega : j.nx ≤ 1073741824)
  have hl := enc_len ok
  have h0 := h.ok.torn0
  have h1 := h.ok.torn1
  refine ⟨_, apd_cut h hd hf hm (by omega), rfl, by simp, rfl, ?_⟩
  by_cases ht : j.d.torn = 64
  · refine .inl ⟨ht, ?_⟩
    simp only
    rw [ht, show ((64 : Int).toNat) = 64 from rfl, List.take_of_length_le (by omega)]
    exact JI.put h ok rfl (.inl rfl) (by omega) (by omega) (oldS j) (old_len h)
  · refine .inr ⟨ht, ?_⟩
    have hk : j.d.torn.toNat < 64 := by omega
    simp only
    exact JI.torn h h2 ok (show (wS r j.nx).seq ≤ 255 from hn) (by omega) hk (.inl rfl) (by omega) (by omega)
end Go.Proofs.Ytjmnepfdhkabfaa

namespace Go.Proofs.Ytjmnepfdhkabfaa
set_option maxRecDepth 100000
set_option maxHeartbeats 4000000
set_option linter.unusedSimpArgs false
set_option linter.unusedVariables false
open Go Go.Zv
abbrev rcl (r : Rec) : List LV := [.int .i64 r.seq, .int .i64 r.step, .int .i64 r.q0, .int .i64 r.q1, .int .i64 r.q2, .int .i64 r.q3, .int .i64 r.q4, .int .i64 r.q5, .int .i64 r.h0, .int .i64 r.h1, .vs (r.wh.map c1), .int .i64 r.mode]
abbrev jcl (j : Jnl) : List LV := [sv j.d.sec, .int .i64 j.d.fuse, .int .i64 j.d.torn, .bool j.d.down, .int .i64 j.nx, .int .i64 j.at_]
theorem get_r {l : List Rec} {i : Nat} {p : Rec} (h : l[i]? = some p) : (l.map rcl)[i]? = some (rcl p) := by rw [List.getElem?_map, h]; rfl
theorem sameJ_self (j : Jnl) : sameJ j j = true := by unfold sameJ; simp
theorem sameR_self (r : Rec) : sameR r r = true := by unfold sameR; simp
abbrev S11 (l : List Rec) (k : Nat) (j : Jnl) (r : Rec) : St := ⟨[(1, .vs (l.map rcl)), (5, .bool true), (6, .ptr 1536 0), (7, .ptr 1792 0), (8, .int .i64 k)], [], [(1792, .box (rcl r)), (1536, .box (jcl j))], 0⟩
theorem jsec {d : Dsk} (h : OKd d) : d.sec.length ≤ 1000000 ∧ ∀ s ∈ d.sec, s.length ≤ 1000000 := ⟨by have := h.len2; omega, fun s hs => by have := h.all s hs; omega⟩
theorem lp11 (l : List Rec) (hl : l.length ≤ 100) (j0 : Jnl) (h0 : JI j0.d j0.nx j0.at_ zrec) (hd0 : j0.d.down = false) (hf0 : j0.d.fuse = -1) :
    (K E A11_L0 (S11 l 0 j0 zrec)).bind (blockR 0 (some [5]) [4, 8, 9, 10, 11, 12, 13, 36, 44, 64, 84, 96, 102]) = (K E A11_L0 (S11 l 0 j0 zrec)).bind (blockR 0 (some [5]) [4, 8, 9, 10, 11, 12, 13, 36, 44, 64, 84, 96, 102]) ∧ ((∃ Y, (K E A11_L0 (S11 l 0 j0 zrec)).bind (blockR 0 (some [5]) [4, 8, 9, 10, 11, 12, 13, 36, 44, 64, 84, 96, 102]) = some (.ex .nrm ⟨[(5, .bool true)], [], Y, 0⟩)) ∨
    ∃ X, (K E A11_L0 (S11 l 0 j0 zrec)).bind (blockR 0 (some [5]) [4, 8, 9, 10, 11, 12, 13, 36, 44, 64, 84, 96, 102]) = some (.ex .ret ⟨[(4, .bool true)], [], X, 0⟩)) := by
  refine ⟨rfl, ?_⟩
  have lp := loop_P (σ := Jnl × Rec) (fun S => (K E A11_L0 S).bind (blockR 0 (some [5]) [4, 8, 9, 10, 11, 12, 13, 36, 44, 64, 84, 96, 102]))
    (fun k x => S11 l k x.1 x.2) l.length
    (fun k x => JI x.1.d x.1.nx x.1.at_ x.2 ∧ x.1.d.down = false ∧ x.1.d.fuse = -1 ∧ x.1.nx ≤ k + 1)
    (fun k x o => (∃ Y, o = some (.ex .nrm ⟨[(5, .bool true)], [], Y, 0⟩)) ∨ ∃ X, o = some (.ex .ret ⟨[(4, .bool true)], [], X, 0⟩))
    (fun x hi => by
      obtain ⟨j, r⟩ := x
      refine .inl ⟨[(1792, .box (rcl r)), (1536, .box (jcl j))], ?_⟩
      show (K E A11_L0 _).bind _ = _
      rw [A11_L0_eq]; simp +contextual -implicitDefEqProofs (maxSteps := 2000000) only [go_sem, ↓reduceIte, Nat.reduceAdd, Nat.reduceMul, Nat.reduceSub, Nat.reduceEqDiff, Nat.reduceLeDiff, Nat.reduceDiv, Nat.reduceMod, Nat.reduceBEq, Nat.reduceBNe, reduceCtorEq, Int.reduceLE, Int.reduceLT, Int.reduceToNat, Int.reduceNeg, Nat.reduceLT, Int.reduceEq, Int.reduceSub, Int.reduceAdd, Int.reduceMul, Nat.reducePow, Int.reduceBEq, Int.reduceBNe, Int.reduceMod, A11_L0b, Int.lt_irrefl, List.length_map])
    (fun k x hk hi => by
      obtain ⟨j, last⟩ := x
      obtain ⟨hJ, hd, hf, hn⟩ := hi
      simp only at hJ hd hf hn
      have hget : l[k]? = some (l[k]'hk) := List.getElem?_eq_getElem hk
      generalize l[k]'hk = r at *
      have g := get_r hget
      have k0 : (0 : Int) ≤ k := by omega
      have k1 : (k : Int) < l.length := by omega
      have hw := wr_succ (n := k) (by omega)
      have o32 := c32 r
      unfold rv at o32
      by_cases hg : 100 < r.wh.length
      · rw [decide_eq_true hg] at o32
        refine .inl (.inr ⟨[(1792, .box (rcl last)), (1536, .box (jcl j))], ?_⟩)
        show (K E A11_L0 _).bind _ = _
        rw [A11_L0_eq]
        simp +contextual -implicitDefEqProofs (maxSteps := 2000000) only [go_sem, ↓reduceIte, Nat.reduceAdd, Nat.reduceMul, Nat.reduceSub, Nat.reduceEqDiff, Nat.reduceLeDiff, Nat.reduceDiv, Nat.reduceMod, Nat.reduceBEq, Nat.reduceBNe, reduceCtorEq, Int.reduceLE, Int.reduceLT, Int.reduceToNat, Int.reduceNeg, Nat.reduceLT, Int.reduceEq, Int.reduceSub, Int.reduceAdd, Int.reduceMul, Nat.reducePow, Int.reduceBEq, Int.reduceBNe, Int.reduceMod, A11_L0b, k0, k1, g, o32, List.length_map]
      rw [decide_eq_false hg] at o32
      have hnx := hJ.nx_eq
      have hnn := hJ.nn
      have o40 := c40 j r (by omega) (by omega) hJ.ok
      have jself := c41 j j (jsec hJ.ok).1 (jsec hJ.ok).2
      rw [sameJ_self] at jself
      cases hm : mayB (wS r 1) with
      | false =>
        rw [apd_bad hm] at o40
        simp only at o40
        have o42 := c42 j.d hJ.ok hd
        rw [hJ.rec_ok] at o42
        simp only at o42
        have hlw : last.wh.length ≤ 1000000000 := by
          by_cases hz : last.seq = 0
          · rw [(hJ.zero hz).1]; simp [zrec]
          · have := ((hJ.pos hz).1).len; omega
        have o36 := c36 last last hlw
        rw [sameR_self] at o36
        refine .inr ⟨(j, last), ⟨hJ, hd, hf, by simp only; omega⟩, ?_, fun o h => h⟩
        obtain ⟨⟨s, f, t, w⟩, n, i⟩ := j
        simp only at *
        show (K E A11_L0 _).bind _ = (K E A11_L0 _).bind _
        conv => lhs; rw [A11_L0_eq]
        simp +contextual -implicitDefEqProofs (maxSteps := 2000000) only [go_sem, ↓reduceIte, Nat.reduceAdd, Nat.reduceMul, Nat.reduceSub, Nat.reduceEqDiff, Nat.reduceLeDiff, Nat.reduceDiv, Nat.reduceMod, Nat.reduceBEq, Nat.reduceBNe, reduceCtorEq, Int.reduceLE, Int.reduceLT, Int.reduceToNat, Int.reduceNeg, Nat.reduceLT, Int.reduceEq, Int.reduceSub, Int.reduceAdd, Int.reduceMul, Nat.reducePow, Int.reduceBEq, Int.reduceBNe, Int.reduceMod, A11_L0b, k0, k1, g, o32, o40, jself, o42, o36, hw, List.length_map, bne_self_eq_false, gt_iff_lt]
      | true =>
        obtain ⟨j', e40, hJ', hn', hd', _, _, hf'⟩ := hJ.app hd (by rw [hf]; decide) hm (by omega)
        rw [e40] at o40
        simp only at o40
        have o42 := c42 j'.d hJ'.ok hd'
        have hpos : 0 < j.nx := by omega
        rw [hJ'.rec_ok] at o42
        simp only at o42
        rw [decide_eq_true (show 0 < (wS r j.nx).seq from hpos)] at o42
        have o36 := c36 (wS r j.nx) (wS r j.nx) (show r.wh.length ≤ 1000000000 by omega)
        rw [sameR_self] at o36
        have jself' := c41 j' j' (jsec hJ'.ok).1 (jsec hJ'.ok).2
        rw [sameJ_self] at jself'
        have hbb : ∀ b : Bool, ((b == b) != true) = false := fun b => by cases b <;> rfl
        have hwn : IntKind.i64.wrap (j.nx + 1) = j.nx + 1 := wrap_small (by omega) (by omega)
        refine .inr ⟨(j', wS r j.nx), ⟨hJ', hd', by rw [hf', hf]; decide, by simp only; omega⟩, ?_, fun o h => h⟩
        obtain ⟨⟨s, f, t, w⟩, n, i⟩ := j
        obtain ⟨⟨s', f', t', w'⟩, n', i'⟩ := j'
        simp only at *
        subst hn'
        dsimp only [wS] at o42 o36 ⊢
        show (K E A11_L0 _).bind _ = (K E A11_L0 _).bind _
        conv => lhs; rw [A11_L0_eq]
        simp +contextual -implicitDefEqProofs (maxSteps := 2000000) only [go_sem, ↓reduceIte, Nat.reduceAdd, Nat.reduceMul, Nat.reduceSub, Nat.reduceEqDiff, Nat.reduceLeDiff, Nat.reduceDiv, Nat.reduceMod, Nat.reduceBEq, Nat.reduceBNe, reduceCtorEq, Int.reduceLE, Int.reduceLT, Int.reduceToNat, Int.reduceNeg, Nat.reduceLT, Int.reduceEq, Int.reduceSub, Int.reduceAdd, Int.reduceMul, Nat.reducePow, Int.reduceBEq, Int.reduceBNe, Int.reduceMod, A11_L0b, k0, k1, g, o32, o40, jself', o42, o36, hw, hwn, hpos, decide_true, beq_self_eq_true, hbb, List.length_map, bne_self_eq_false, gt_iff_lt])
    0 (j0, zrec) (by omega) ⟨h0, hd0, hf0, by rw [h0.nx_eq]; simp [zrec]⟩
  exact lp
theorem law11 (hd : pc E 31 [] = some (.bool true)) (n : Nat) (hn : n ≤ 255) (l : List Rec) : pc E 11 [.int .u8 n, .vs (l.map rcl)] = some (.bool true) := by
  by_cases k1 : (100 : Int) < l.length
  · rw [pc_eq]; simp +contextual -implicitDefEqProofs (maxSteps := 2000000) only [go_sem, ↓reduceIte, Nat.reduceAdd, Nat.reduceMul, Nat.reduceSub, Nat.reduceEqDiff, Nat.reduceLeDiff, Nat.reduceDiv, Nat.reduceMod, Nat.reduceBEq, Nat.reduceBNe, reduceCtorEq, Int.reduceLE, Int.reduceLT, Int.reduceToNat, Int.reduceNeg, Nat.reduceLT, Int.reduceEq, Int.reduceSub, Int.reduceAdd, Int.reduceMul, Nat.reducePow, Int.reduceBEq, Int.reduceBNe, Int.reduceMod, E_11, A11, hd, List.length_map, k1]
  have w1 : IntKind.i64.wrap (n : Int) = n := wrap_small (by omega) (by omega)
  have w2 : (n : Int).tmod 64 = ((n % 64 : Nat) : Int) := by rw [Int.tmod_eq_emod_of_nonneg (Int.natCast_nonneg _)]; rfl
  have hm : n % 64 < 64 := Nat.mod_lt _ (by omega)
  have w3 : IntKind.i64.wrap (1 + ((n % 64 : Nat) : Int)) = ((1 + n % 64 : Nat) : Int) := by rw [wrap_small (by omega) (by omega)]; omega
  have w4 : IntKind.i64.wrap ((n % 64 : Nat) : Int) = ((n % 64 : Nat) : Int) := wrap_small (by omega) (by omega)
  have o39 := c39 (1 + n % 64) (by omega) (by omega)
  have o38 := c38 (mk (1 + n % 64))
  have lp := (lp11 l (by omega) ⟨mk (1 + n % 64), 1, 0⟩ (JI_new (1 + n % 64) (by omega) (by omega) (f := -1) (t := 0) (.inl rfl) (by omega) (by omega)) rfl rfl).2
  generalize 1 + n % 64 = m at *
  unfold S11 at lp
  simp only [rcl, zrec, List.map_nil, Int.natCast_zero, Int.ofNat_zero] at lp
  rcases lp with ⟨Y, lp⟩ | ⟨X, lp⟩
  · rw [pc_eq]; simp +contextual -implicitDefEqProofs (maxSteps := 2000000) only [go_sem, ↓reduceIte, Nat.reduceAdd, Nat.reduceMul, Nat.reduceSub, Nat.reduceEqDiff, Nat.reduceLeDiff, Nat.reduceDiv, Nat.reduceMod, Nat.reduceBEq, Nat.reduceBNe, reduceCtorEq, Int.reduceLE, Int.reduceLT, Int.reduceToNat, Int.reduceNeg, Nat.reduceLT, Int.reduceEq, Int.reduceSub, Int.reduceAdd, Int.reduceMul, Nat.reducePow, Int.reduceBEq, Int.reduceBNe, Int.reduceMod, E_11, A11, hd, List.length_map, k1, w1, w2, w3, w4, o39, o38, lp]
  · rw [pc_eq]; simp +contextual -implicitDefEqProofs (maxSteps := 2000000) only [go_sem, ↓reduceIte, Nat.reduceAdd, Nat.reduceMul, Nat.reduceSub, Nat.reduceEqDiff, Nat.reduceLeDiff, Nat.reduceDiv, Nat.reduceMod, Nat.reduceBEq, Nat.reduceBNe, reduceCtorEq, Int.reduceLE, Int.reduceLT, Int.reduceToNat, Int.reduceNeg, Nat.reduceLT, Int.reduceEq, Int.reduceSub, Int.reduceAdd, Int.reduceMul, Nat.reducePow, Int.reduceBEq, Int.reduceBNe, Int.reduceMod, E_11, A11, hd, List.length_map, k1, w1, w2, w3, w4, o39, o38, lp]
end Go.Proofs.Ytjmnepfdhkabfaa
