/- The engine, part 11: an operation that changes nothing answers what the evaluation says. -/
import Derived.Test.YtjmnepfdhkabfaaZvS5
namespace Go.Zv
set_option autoImplicit false
set_option linter.unusedVariables false
set_option linter.unusedSimpArgs false
section
variable {P : Program} {c : Cx} {w : World} {O : Heap} {T : Env} {a : Act}

/-- the operation answers, the world stands -/
def Answers (P : Program) (c : Cx) (w : World) (a : Act) (o : Oper) (x : LV) : Prop := ∃ v, (execOp a.eval o).run P w = .ok (.value v) w ∧ VR c x v

theorem Answers.of {o : Oper} {m : Sem Value} {x : LV} (h : Says P c w m x) (he : execOp a.eval o = (do pure (.value (← m)))) : Answers P c w a o x := by
  obtain ⟨v, h1, h2⟩ := h
  exact ⟨v, by rw [he]; simp [h1], h2⟩

theorem mapM_parts {α β : Type} {f : α → Option β} : ∀ {l : List α} {m : List β}, l.mapM f = some m → l.length = m.length ∧ ∀ (i : Nat) (x : α) (y : β), l[i]? = some x → m[i]? = some y → f x = some y
  | [], m, h => by simp only [List.mapM_nil, pure, Option.some.injEq] at h; subst h; simp
  | x :: l, m, h => by
    simp only [List.mapM_cons, bind, pure, Option.bind_eq_some_iff, Option.some.injEq] at h
    obtain ⟨y, hy, m', hm, rfl⟩ := h
    obtain ⟨h1, h2⟩ := mapM_parts hm
    refine ⟨by simp [h1], fun i a b ha hb => ?_⟩
    cases i with
    | zero => simp at ha hb; subst ha; subst hb; exact hy
    | succ i => simp at ha hb; exact h2 i a b ha hb

theorem cellLV_one {v : Value} {x : LV} (h : cellLV v = some x) : LV.one x = true := by
  unfold cellLV at h
  split at h <;> simp only [Option.some.injEq, reduceCtorEq] at h <;> subst h <;> rfl
theorem mapM_one : ∀ {l : List Value} {m : List LV}, l.mapM cellLV = some m → m.all LV.one = true
  | [], m, h => by simp only [List.mapM_nil, pure, Option.some.injEq] at h; subst h; rfl
  | v :: l, m, h => by
    simp only [List.mapM_cons, bind, pure, Option.bind_eq_some_iff, Option.some.injEq] at h
    obtain ⟨x, hx, m', hm, rfl⟩ := h
    simp [cellLV_one hx]
    simpa using mapM_one hm
theorem withSt_one : ∀ {l : List LV} {s : List Nat}, l.all LV.one = true → (withSt l s).all LV.one = true
  | [], s, h => by cases s <;> simp [withSt]
  | v :: l, [], h => by cases v <;> simpa [withSt] using h
  | v :: l, k :: s, h => by
    simp only [List.all_cons, Bool.and_eq_true] at h
    have h2 := withSt_one (s := s) h.2
    cases v <;> simp only [withSt, List.all_cons, Bool.and_eq_true] <;> exact ⟨by first | exact h.1 | rfl, h2⟩
theorem zero_one {t : TypeId} {x : LV} (h : zeroLV P t = some x) : x.cells.all LV.one = true := by
  unfold zeroLV at h
  split at h
  · split at h
    · obtain ⟨y, hy, rfl⟩ := Option.map_eq_some_iff.1 h
      unfold constLV at hy
      split at hy
      · obtain ⟨m, hm, rfl⟩ := Option.map_eq_some_iff.1 hy
        exact withSt_one (mapM_one hm)
      · have h1 := cellLV_one hy
        unfold typed
        split
        · simp [LV.one] at h1
        · rfl
        · cases y <;> first | (simp [LV.one] at h1; done) | (simp [LV.cells, LV.one]; done)
    · cases h
  · cases h

theorem isAgg_struct {t : TypeId} {fs : Array Field} (h : P.underlying t = some (.struct fs)) : isAggT P t = some true := by simp [isAggT, h]
theorem isAgg_array {t e : TypeId} {n : Nat} (h : P.underlying t = some (.array n e)) : isAggT P t = some true := by simp [isAggT, h]

theorem val_ok (hT : TR c T a.tmps) (hO : HR P c w O) (hM : MR c w) {o : Oper} {op : AOp} (hop : toOp1 P o.type o.op = some op) {v : LV} (h : valOp T O op = some v) : Answers P c w a o v := by
  cases ho : o.op with
  | move x =>
    rw [ho] at hop; simp only [toOp1] at hop
    obtain ⟨y, hy, rfl⟩ := Option.map_eq_some_iff.1 hop
    simp only [valOp, Option.some.injEq] at h; subst h
    exact ⟨_, by simp [execOp, ho], opd_ok hT hy⟩
  | assign x =>
    rw [ho] at hop; simp only [toOp1] at hop
    obtain ⟨y, hy, rfl⟩ := Option.map_eq_some_iff.1 hop
    simp [valOp] at h
  | pick cc x y =>
    rw [ho] at hop; simp only [toOp1, bind, Option.bind_eq_some_iff, Option.some.injEq] at hop
    obtain ⟨c', hc, a', ha, b', hb, rfl⟩ := hop
    obtain ⟨t, ht, hv⟩ := pick_says (opd_ok hT ha) (opd_ok hT hb) (opd_ok hT hc) (show pickV _ _ _ = some v from h)
    exact ⟨_, by simp [execOp, ho, ht, asBool], hv⟩
  | alloc e =>
    rw [ho] at hop; simp only [toOp1, bind, Option.bind_eq_some_iff, Option.some.injEq] at hop
    obtain ⟨z, hz, rfl⟩ := hop
    simp [valOp] at h
  | box e x =>
    rw [ho] at hop; simp only [toOp1, bind, Option.bind_eq_some_iff, Option.some.injEq] at hop
    obtain ⟨z, hz, rfl⟩ := hop
    simp [valOp] at h
  | build t ps =>
    rw [ho] at hop; simp only [toOp1] at hop
    refine Answers.of (m := Instr.build t (ps.map fun (i, x) => (i, a.eval x))) ?_ (by simp only [execOp, ho])
    split at hop
    · rename_i fs hu
      simp only [bind, Option.bind_eq_some_iff, Option.some.injEq] at hop
      split at hop
      · rename_i hall
        simp only [Option.bind_some, Option.bind_eq_some_iff, Option.some.injEq] at hop
        obtain ⟨l, hl, z, hz, rfl⟩ := hop
        obtain ⟨h1, h2⟩ := mapM_parts hl
        refine build_struct_says hu hz (show (fill T l z.cells).bind aggK = some v from h) (zero_one hz) (fun f hf => ?_) (by simpa using h1.symm) (fun i p q hp hq => ?_)
        · have := Array.all_eq_true_iff_forall_mem.1 hall f hf
          exact Option.isSome_iff_exists.1 this
        · simp only [Array.getElem?_map, Option.map_eq_some_iff] at hq
          obtain ⟨q0, hq0, rfl⟩ := hq
          have := h2 i q0 p (by simpa using hq0) hp
          simp only [Option.bind_eq_some_iff, Option.some.injEq] at this
          obtain ⟨f, hf, n, hn, y, hy, rfl⟩ := this
          exact ⟨⟨f, hf, rfl, hn⟩, opdT_ok hT hy⟩
      · simp at hop
    · rename_i n e hu
      simp only [bind, Option.bind_eq_some_iff, Option.some.injEq] at hop
      obtain ⟨m, hm, l, hl, z, hz, rfl⟩ := hop
      obtain ⟨h1, h2⟩ := mapM_parts hl
      refine build_array_says hu hz hm (show (fill T l z.cells).bind aggK = some v from h) (zero_one hz) (by simpa using h1.symm) (fun i p q hp hq => ?_)
      simp only [Array.getElem?_map, Option.map_eq_some_iff] at hq
      obtain ⟨q0, hq0, rfl⟩ := hq
      have := h2 i q0 p (by simpa using hq0) hp
      simp only [Option.bind_eq_some_iff, Option.some.injEq] at this
      obtain ⟨y, hy, rfl⟩ := this
      exact ⟨rfl, rfl, opdT_ok hT hy⟩
    · cases hop
  | buildSlice t n ps =>
    rw [ho] at hop; simp only [toOp1] at hop
    split at hop
    · simp only [bind, Option.bind_eq_some_iff, Option.some.injEq] at hop
      obtain ⟨st, hst, hop⟩ := hop
      split at hop
      · simp at hop
      · simp only [Option.bind_eq_some_iff, Option.some.injEq] at hop
        obtain ⟨l, hl, z, hz, rfl⟩ := hop
        simp [valOp] at h
    · cases hop
  | load t x =>
    rw [ho] at hop; simp only [toOp1, bind, Option.bind_eq_some_iff, Option.some.injEq] at hop
    obtain ⟨ag, hag, n, hn, y, hy, rfl⟩ := hop
    exact Answers.of (rd_says hag hn hO hM (opd_ok hT hy) (show rd O ag n _ = some v from h)) (by simp only [execOp, ho])
  | store t x y =>
    rw [ho] at hop; simp only [toOp1, bind, Option.bind_eq_some_iff, Option.some.injEq] at hop
    obtain ⟨n, hn, x', hx, y', hy, rfl⟩ := hop
    simp [valOp] at h
  | nilCheck x =>
    rw [ho] at hop; simp only [toOp1] at hop
    obtain ⟨y, hy, rfl⟩ := Option.map_eq_some_iff.1 hop
    have hv := opd_ok hT hy
    obtain ⟨rfl, ⟨q, hq⟩ | ⟨f, us, vs, hq⟩⟩ := nilc_says hv (show nilcV _ = some v from h)
    · exact ⟨a.eval x, by simp [execOp, ho, hq], hv⟩
    · exact ⟨a.eval x, by simp [execOp, ho, hq], hv⟩
  | binOp op0 t x y yt =>
    rw [ho] at hop; simp only [toOp1] at hop
    refine Answers.of (m := do eqGuard op0 t x y (a.eval x) (a.eval y); binOp op0 t (a.eval x) (a.eval y)) ?_ (by simp only [execOp, ho])
    split at hop
    · simp only [bind, Option.bind_eq_some_iff, Option.some.injEq] at hop
      obtain ⟨x', hx, y', hy, rfl⟩ := hop
      exact bin_says (opd_ok hT hx) (opd_ok hT hy) h
    · simp only [bind, Option.bind_eq_some_iff, Option.some.injEq] at hop
      obtain ⟨x', hx, y', hy, rfl⟩ := hop
      exact bin_says (opd_ok hT hx) (opd_ok hT hy) h
    · rename_i hu
      split at hop
      · rename_i hcmp
        simp only [bind, Option.bind_eq_some_iff, Option.some.injEq] at hop
        obtain ⟨x', hx, y', hy, rfl⟩ := hop
        exact bib_says hcmp hu (opd_ok hT hx) (opd_ok hT hy) h
      · cases hop
    · rename_i fs hu
      split at hop
      · rename_i hcmp
        simp only [bind, Option.bind_eq_some_iff, Option.some.injEq] at hop
        obtain ⟨ks, hks, x', hx, y', hy, rfl⟩ := hop
        exact eqa_says hcmp.1 hcmp.2 hks (isAgg_struct hu) (opd_ok hT hx) (opd_ok hT hy) h
      · cases hop
    · rename_i n e hu
      split at hop
      · rename_i hcmp
        simp only [bind, Option.bind_eq_some_iff, Option.some.injEq] at hop
        obtain ⟨ks, hks, x', hx, y', hy, rfl⟩ := hop
        exact eqa_says hcmp.1 hcmp.2 hks (isAgg_array hu) (opd_ok hT hx) (opd_ok hT hy) h
      · cases hop
    · rename_i e hu
      split at hop
      · obtain ⟨x', hx, rfl⟩ := Option.map_eq_some_iff.1 hop
        exact isn_says (.inl rfl) hu (opd_ok hT hx) h
      · obtain ⟨x', hx, rfl⟩ := Option.map_eq_some_iff.1 hop
        exact isn_says (.inr rfl) hu (opd_ok hT hx) h
      · cases hop
    · cases hop
  | unOp op0 t x =>
    rw [ho] at hop; simp only [toOp1] at hop
    obtain ⟨y, hy, rfl⟩ := Option.map_eq_some_iff.1 hop
    exact Answers.of (un_says (opd_ok hT hy) (show unV op0 _ = some v from h)) (by simp only [execOp, ho])
  | convert src dst x =>
    rw [ho] at hop; simp only [toOp1] at hop
    refine Answers.of (m := convert src dst (a.eval x)) ?_ (by simp only [execOp, ho])
    split at hop
    · rename_i k k2 hs hd
      obtain ⟨y, hy, rfl⟩ := Option.map_eq_some_iff.1 hop
      have hv := opd_ok hT hy
      simp only [valOp] at h
      unfold convV at h
      split at h
      · rename_i heq
        rw [heq] at hv
        simp only [Option.some.injEq] at h; subst h
        rw [hv.of_int]
        exact ⟨_, by simp [convert, run_underlying hs, run_underlying hd, Conv.intToInt], .int _ _⟩
      · cases h
    · rename_i hs hd
      obtain ⟨y, hy, rfl⟩ := Option.map_eq_some_iff.1 hop
      have hv := opd_ok hT hy
      simp only [valOp] at h
      unfold sltV at h
      split at h
      · rename_i xs heq
        rw [heq] at hv
        simp only [cut, bnd, cutK, cutK2, Option.bind_some, Option.some.injEq] at h
        subst h
        rw [hv.of_str]
        exact ⟨.string ⟨xs.toArray⟩, by simp [convert, run_underlying hs, run_underlying hd], by simpa [cutStr] using VR.str (c := c) xs⟩
      · cases h
    · rename_i e hs hd
      split at hop
      · rename_i he
        simp only [if_true] at hop
        obtain ⟨y, hy, rfl⟩ := Option.map_eq_some_iff.1 hop
        exact b2s_says hs he hd hO hM (opd_ok hT hy) h
      · simp at hop
    · cases hop
  | makeFunc f x y =>
    rw [ho] at hop; simp only [toOp1, bind, Option.bind_eq_some_iff, Option.some.injEq] at hop
    obtain ⟨x', hx, y', hy, rfl⟩ := hop
    simp only [valOp, Option.some.injEq] at h; subst h
    have h1 := toOpds_ok hT hx
    have h2 := toOpds_ok hT hy
    refine ⟨.func f (x.map a.eval) (y.map a.eval), by simp [execOp, ho, Instr.makeFunc], ?_⟩
    have := VR.fn (c := c) f (evs T x') (evs T y') (x.map a.eval).toList (y.map a.eval).toList h1.len h2.len h1.at_ h2.at_
    rwa [Array.toArray_toList, Array.toArray_toList] at this
  | makeMap t r =>
    rw [ho] at hop
    cases r with
    | none => simp only [toOp1, Option.some.injEq] at hop; subst hop; simp [valOp] at h
    | some r =>
      cases r with
      | const vv =>
        cases vv <;> simp only [toOp1, reduceCtorEq] at hop
        split at hop
        · simp only [if_true, Option.some.injEq] at hop; subst hop; simp [valOp] at h
        · simp at hop
      | _ => simp [toOp1] at hop
  | makeSlice t l cp =>
    rw [ho] at hop; simp only [toOp1] at hop
    split at hop
    · split at hop
      · simp only [bind, Option.bind_eq_some_iff, Option.some.injEq] at hop
        obtain ⟨_, _, _, _, _, _, _, _, rfl⟩ := hop
        simp [valOp] at h
      · cases hop
    · cases hop
  | slice t x lo hi mx =>
    rw [ho] at hop
    refine Answers.of (m := Instr.sliceAt t (a.eval x) (lo.map a.eval) (hi.map a.eval) (mx.map a.eval)) ?_ (by simp only [execOp, ho])
    have zc : ∀ {e : TypeId} {st : Nat} {y : Opd} {k2 k3 : IntKind} (hlo : lo = none ∨ ∃ k, lo = some (.const (.int k 0))), P.underlying t = some (.slice e) → tsize P e = some st → toOpd x = some y → hi = some (.const (.int k2 0)) → mx = some (.const (.int k3 0)) → zcV st (y.ev T) = some v → 
        Says P c w (Instr.sliceAt t (a.eval x) (lo.map a.eval) (hi.map a.eval) (mx.map a.eval)) v := by
      intro e st y k2 k3 hlo hu hst hy h1 h2 hz
      obtain ⟨rfl, q, l, k, hq⟩ := zc_says (opd_ok hT hy) hz
      subst h1; subst h2
      refine ⟨.slice q 0 0, ?_, .nils _ _⟩
      have ev : ∀ z, a.eval (.const z) = z := fun _ => rfl
      rw [hq]
      rcases hlo with rfl | ⟨k, rfl⟩
      · simp [Instr.sliceAt, Instr.slice, run_underlying hu, Instr.sliceBounds, Instr.sliceBound, asIntOf, ev, run_size hst]
      · simp [Instr.sliceAt, Instr.slice, run_underlying hu, Instr.sliceBounds, Instr.sliceBound, asIntOf, ev, run_size hst]
    cases mx with
    | none =>
      simp only [toOp1] at hop
      split at hop
      · rename_i e hu
        simp only [bind, Option.bind_eq_some_iff, Option.some.injEq] at hop
        obtain ⟨st, hst, y, hy, lo', hlo, hi', hhi, rfl⟩ := hop
        exact sls_says hT hu hst hO hlo hhi (opd_ok hT hy) h
      · rename_i hu
        simp only [bind, Option.bind_eq_some_iff, Option.some.injEq] at hop
        obtain ⟨y, hy, lo', hlo, hi', hhi, rfl⟩ := hop
        exact slt_says hT hu hlo hhi (opd_ok hT hy) h
      · rename_i n e hu
        simp only [bind, Option.bind_eq_some_iff, Option.some.injEq] at hop
        obtain ⟨st, hst, y, hy, lo', hlo, hi', hhi, rfl⟩ := hop
        exact sla_says hT hu hst hlo hhi (opd_ok hT hy) h
      · cases hop
    | some m =>
      have fin : ∀ (hlo : lo = none ∨ ∃ k, lo = some (.const (.int k 0))) (k2 k3 : IntKind), hi = some (.const (.int k2 0)) → some m = some (.const (.int k3 0)) → (match P.underlying t with
          | some (.slice e) => do some (AOp.zc (← tsize P e) (← toOpd x))
          | _ => none) = some op → Says P c w (Instr.sliceAt t (a.eval x) (lo.map a.eval) (hi.map a.eval) ((some m).map a.eval)) v := by
        intro hlo k2 k3 e1 e2 hop
        split at hop
        · rename_i e hu
          simp only [bind, Option.bind_eq_some_iff, Option.some.injEq] at hop
          obtain ⟨st, hst, y, hy, rfl⟩ := hop
          exact zc hlo hu hst hy e1 e2 h
        · cases hop
      unfold toOp1 at hop
      split at hop
      all_goals try (rename_i heq; cases heq; done)
      all_goals try (cases hop; done)
      all_goals try (rename_i heq; injection heq with e1 e2 e3 e4 e5; subst e1; subst e2; exact fin (.inl e3) _ _ e4 e5 hop)
      all_goals try (rename_i heq; injection heq with e1 e2 e3 e4 e5; subst e1; subst e2; exact fin (.inr ⟨_, e3⟩) _ _ e4 e5 hop)
  | fieldAddr t x f =>
    rw [ho] at hop; simp only [toOp1] at hop
    split at hop
    · rename_i fs hu
      simp only [bind, Option.bind_eq_some_iff, Option.some.injEq] at hop
      obtain ⟨fd, hf, n, hn, hop⟩ := hop
      split at hop
      · simp at hop
      · rename_i hne
        simp only [Option.bind_eq_some_iff, Option.some.injEq] at hop
        obtain ⟨y, hy, rfl⟩ := hop
        exact Answers.of (fad_says hu hf hn hne rfl (opd_ok hT hy) (show fadV _ _ = some v from h)) (by simp only [execOp, ho])
    · cases hop
  | field t x f =>
    rw [ho] at hop; simp only [toOp1] at hop
    split at hop
    · rename_i fs hu
      simp only [bind, Option.bind_eq_some_iff, Option.some.injEq] at hop
      obtain ⟨fd, hf, ag, hag, n, hn, y, hy, rfl⟩ := hop
      exact Answers.of (fld_says hu hf hag hn rfl (opd_ok hT hy) (show fldV _ _ _ _ = some v from h)) (by simp only [execOp, ho])
    · cases hop
  | indexAddr t x i =>
    rw [ho] at hop; simp only [toOp1] at hop
    split at hop
    · rename_i e hu
      simp only [bind, Option.bind_eq_some_iff, Option.some.injEq] at hop
      obtain ⟨n, hn, hop⟩ := hop
      split at hop
      · simp at hop
      simp only [Option.bind_eq_some_iff, Option.some.injEq] at hop
      obtain ⟨n2, hn2, y, hy, z, hz2, rfl⟩ := hop
      exact Answers.of (ias_says hu hn2 hO (opd_ok hT hy) (opd_ok hT hz2) (show iasV _ _ _ _ = some v from h)) (by simp only [execOp, ho])
    · rename_i n0 e hu
      simp only [bind, Option.bind_eq_some_iff, Option.some.injEq] at hop
      obtain ⟨n, hn, hop⟩ := hop
      split at hop
      · simp at hop
      simp only [Option.bind_eq_some_iff, Option.some.injEq] at hop
      obtain ⟨n2, hn2, y, hy, z, hz2, rfl⟩ := hop
      exact Answers.of (iaa_says hu hn2 (opd_ok hT hy) (opd_ok hT hz2) (show iaaV _ _ _ _ = some v from h)) (by simp only [execOp, ho])
    · cases hop
  | index t x i =>
    rw [ho] at hop; simp only [toOp1] at hop
    split at hop
    · rename_i n0 e hu
      simp only [bind, Option.bind_eq_some_iff, Option.some.injEq] at hop
      obtain ⟨ag, hag, n2, hn2, y, hy, z, hz2, rfl⟩ := hop
      exact Answers.of (ixa_says hu hag hn2 (opd_ok hT hy) (opd_ok hT hz2) (show ixaV _ _ _ _ _ = some v from h)) (by simp only [execOp, ho])
    · rename_i hu
      simp only [bind, Option.bind_eq_some_iff, Option.some.injEq] at hop
      obtain ⟨y, hy, z, hz2, rfl⟩ := hop
      exact Answers.of (ixt_says hu (opd_ok hT hy) (opd_ok hT hz2) (show ixtV _ _ = some v from h)) (by simp only [execOp, ho])
    · cases hop
  | lookup t x k ok =>
    rw [ho] at hop; simp only [toOp1] at hop
    split at hop
    · rename_i kt e hu
      simp only [bind, Option.bind_eq_some_iff, Option.some.injEq] at hop
      obtain ⟨ag, hag, ks, hks, z, hz, y, hy, k', hk, rfl⟩ := hop
      exact Answers.of (lkp_says hu ⟨ag, ks, hag, hks, rfl⟩ hz hO (opd_ok hT hy) (opd_ok hT hk) (show (lkpV _ _ _ _).bind _ = some v from h)) (by simp only [execOp, ho])
    · cases hop
  | mapUpdate t m k x =>
    rw [ho] at hop; simp only [toOp1] at hop
    split at hop
    · simp only [bind, Option.bind_eq_some_iff, Option.some.injEq] at hop
      obtain ⟨ag, hag, ks, hks, y, hy, k', hk, x', hx, rfl⟩ := hop
      simp [valOp] at h
    · cases hop
  | insert t m k x =>
    rw [ho] at hop; simp only [toOp1] at hop
    split at hop
    · simp only [bind, Option.bind_eq_some_iff, Option.some.injEq] at hop
      obtain ⟨ag, hag, ks, hks, y, hy, k', hk, x', hx, rfl⟩ := hop
      simp [valOp] at h
    · cases hop
  | extract x i =>
    rw [ho] at hop; simp only [toOp1, bind, Option.bind_eq_some_iff, Option.some.injEq] at hop
    obtain ⟨y, hy, rfl⟩ := hop
    exact Answers.of (ext_says (opd_ok hT hy) (show extV i _ = some v from h)) (by simp only [execOp, ho])
  | call cl =>
    rw [ho] at hop; simp only [toOp1] at hop
    have fin : ∀ (b : Builtin) (m : Sem Value), cl.callee = .builtin b → builtin b cl.argTypes o.type (cl.args.map fun | .const _ => true | _ => false) (cl.args.map a.eval) = (do pure (.value (← m))) → Says P c w m v → Answers P c w a o v := by
      intro b m hb hm hs
      exact Answers.of hs (by simp only [execOp, ho, resolve, hb, pure_bind, invoke]; exact hm)
    split at hop
    · obtain ⟨m, hm, rfl⟩ := Option.map_eq_some_iff.1 hop
      simp [valOp] at h
    · simp only [bind, Option.bind_eq_some_iff, Option.some.injEq] at hop
      obtain ⟨f, hf, m, hm, rfl⟩ := hop
      simp [valOp] at h
    · rename_i hb
      have one : ∀ {x : Operand}, cl.args.toList = [x] → cl.args.map a.eval = #[a.eval x] := by
        intro x hx
        have : cl.args = #[x] := by rw [← Array.toArray_toList (xs := cl.args), hx]
        rw [this]; simp
      have ar : ∀ {d : TypeDesc}, (cl.argTypes[0]?).bind P.underlying = some d → ∃ t, cl.argTypes[0]? = some t ∧ P.underlying t = some d := fun h => Option.bind_eq_some_iff.1 h
      split at hop
      · rename_i e x h1 h2
        obtain ⟨y, hy, rfl⟩ := Option.map_eq_some_iff.1 hop
        obtain ⟨t, ht, hu⟩ := ar h1
        refine fin _ (Builtin.len_ cl.argTypes o.type (cl.args.map a.eval)) hb rfl ?_
        rw [one h2]
        exact len_says (.inl ⟨rfl, e, hu⟩) ht hO (opd_ok hT hy) h
      · rename_i x h1 h2
        obtain ⟨y, hy, rfl⟩ := Option.map_eq_some_iff.1 hop
        obtain ⟨t, ht, hu⟩ := ar h1
        refine fin _ (Builtin.len_ cl.argTypes o.type (cl.args.map a.eval)) hb rfl ?_
        rw [one h2]
        exact len_says (.inr (.inl ⟨rfl, hu⟩)) ht hO (opd_ok hT hy) h
      · rename_i k e x h1 h2
        obtain ⟨y, hy, rfl⟩ := Option.map_eq_some_iff.1 hop
        obtain ⟨t, ht, hu⟩ := ar h1
        refine fin _ (Builtin.len_ cl.argTypes o.type (cl.args.map a.eval)) hb rfl ?_
        rw [one h2]
        exact len_says (.inr (.inr ⟨rfl, k, e, hu⟩)) ht hO (opd_ok hT hy) h
      · rename_i n e x h1 h2
        simp only [Option.some.injEq] at hop; subst hop
        obtain ⟨t, ht, hu⟩ := ar h1
        refine fin _ (Builtin.len_ cl.argTypes o.type (cl.args.map a.eval)) hb rfl ?_
        rw [one h2]
        simp only [valOp, Option.some.injEq] at h; subst h
        exact ⟨.int .i64 n, by simp [Builtin.len_, ht, run_underlying hu, goInt], .int _ _⟩
      · cases hop
    · split at hop
      · split at hop
        · simp only [bind, Option.bind_eq_some_iff, Option.some.injEq] at hop
          obtain ⟨_, _, _, _, _, _, _, _, rfl⟩ := hop
          simp [valOp] at h
        · cases hop
      · split at hop
        · simp only [bind, Option.bind_eq_some_iff, Option.some.injEq] at hop
          obtain ⟨_, _, _, _, _, _, rfl⟩ := hop
          simp [valOp] at h
        · cases hop
      · cases hop
    · split at hop
      · simp only [bind, Option.bind_eq_some_iff, Option.some.injEq] at hop
        obtain ⟨_, _, _, _, _, _, rfl⟩ := hop
        simp [valOp] at h
      · cases hop
    · rename_i hb
      have one : ∀ {x : Operand}, cl.args.toList = [x] → cl.args.map a.eval = #[a.eval x] := by
        intro x hx
        have : cl.args = #[x] := by rw [← Array.toArray_toList (xs := cl.args), hx]
        rw [this]; simp
      split at hop
      · rename_i e x h1 h2
        obtain ⟨y, hy, rfl⟩ := Option.map_eq_some_iff.1 hop
        obtain ⟨t, ht, hu⟩ := Option.bind_eq_some_iff.1 h1
        refine fin _ (Builtin.cap_ cl.argTypes o.type (cl.args.map a.eval)) hb rfl ?_
        rw [one h2]
        exact cap_says ht hu (opd_ok hT hy) h
      · rename_i n e x h1 h2
        simp only [Option.some.injEq] at hop; subst hop
        obtain ⟨t, ht, hu⟩ := Option.bind_eq_some_iff.1 h1
        refine fin _ (Builtin.cap_ cl.argTypes o.type (cl.args.map a.eval)) hb rfl ?_
        rw [one h2]
        simp only [valOp, Option.some.injEq] at h; subst h
        exact ⟨.int .i64 n, by simp [Builtin.cap_, ht, run_underlying hu, goInt], .int _ _⟩
      · cases hop
    · rename_i hb
      obtain ⟨l, hl, rfl⟩ := Option.map_eq_some_iff.1 hop
      exact fin _ (Builtin.min_ cl.argTypes o.type (cl.args.map a.eval)) hb rfl (mn_says (toOpds_ok hT hl) h)
    · rename_i hb
      obtain ⟨l, hl, rfl⟩ := Option.map_eq_some_iff.1 hop
      exact fin _ (Builtin.max_ cl.argTypes o.type (cl.args.map a.eval)) hb rfl (mx_says (toOpds_ok hT hl) h)
    · cases hop
  | _ => rw [ho] at hop; simp [toOp1] at hop
end
end Go.Zv
