/- The engine, part 3: the evaluation as a whole: the limit of the finite ones. -/
import Derived.Test.YtjmnepfdhkabfaaZvB
namespace Go.Zv
set_option autoImplicit false

def Le (R R' : Orc) : Prop := ∀ t r, R t = some r → R' t = some r

def run (E : FuncId → Option AFn) : Nat → Orc
  | 0, _ => none
  | n + 1, t => step E (run E n) t
open Classical in
noncomputable def Run (E : FuncId → Option AFn) : Orc := fun t =>
  if h : ∃ n r, run E n t = some r then some (Classical.choose (Classical.choose_spec h)) else none

/-- it asks the oracle a few times, and no more -/
structure Nice {α : Type} (g : Orc → Option α) : Prop where
  mono : ∀ {R R' : Orc}, Le R R' → ∀ {r}, g R = some r → g R' = some r
  fin : ∀ {R : Nat → Orc} {W : Orc}, (∀ n m, n ≤ m → Le (R n) (R m)) → (∀ t r, W t = some r → ∃ n, R n t = some r) →
    ∀ {r}, g W = some r → ∃ n, g (R n) = some r

theorem nice_R (t : Task) : Nice fun R => R t := ⟨fun h => h _ _, fun _ hW => hW _ _⟩
theorem nice_const {α : Type} (x : Option α) : Nice fun _ => x := ⟨fun _ _ h => h, fun _ _ _ h => ⟨0, h⟩⟩
theorem nice_bind {α β : Type} {g : Orc → Option α} {k : Orc → α → Option β} (hg : Nice g) (hk : ∀ a, Nice fun R => k R a) :
    Nice fun R => (g R).bind (k R) := by
  refine ⟨fun {R R'} hl {r} h => ?_, fun {R W} hm hW {r} h => ?_⟩
  · obtain ⟨a, ha, hb⟩ := Option.bind_eq_some_iff.1 h
    exact Option.bind_eq_some_iff.2 ⟨a, hg.mono hl ha, (hk a).mono hl hb⟩
  · obtain ⟨a, ha, hb⟩ := Option.bind_eq_some_iff.1 h
    obtain ⟨n, hn⟩ := hg.fin hm hW ha
    obtain ⟨m, hm2⟩ := (hk a).fin hm hW hb
    exact ⟨max n m, Option.bind_eq_some_iff.2 ⟨a, hg.mono (hm n _ (by omega)) hn, (hk a).mono (hm m _ (by omega)) hm2⟩⟩
theorem nice_ite {α : Type} {c : Prop} [Decidable c] {g g' : Orc → Option α} (h : Nice g) (h' : Nice g') : Nice fun R => if c then g R else g' R := by
  by_cases hc : c
  · simpa [hc] using h
  · simpa [hc] using h'

theorem nice_pure (f : FuncId) (args : List LV) : Nice fun R => pureCall R f args :=
  nice_bind (nice_R _) fun _ => nice_const _
theorem nice_callFn (fz id f args s) : Nice fun R => callFn R fz id f args s :=
  nice_ite (g := fun R => (pureCall R f (LV.cls s.O args)).bind _) (nice_bind (nice_pure _ _) fun _ => nice_const _) (nice_bind (nice_R _) fun _ => nice_const _)
theorem nice_callV (fz id f args s) : Nice fun R => callV R fz id f args s := by
  unfold callV
  split
  · exact nice_callFn ..
  · exact nice_bind (nice_R _) fun _ => nice_const _
  · exact nice_const none
theorem nice_stepOp (fz d op s) : Nice fun R => stepOp R fz d op s := by
  cases op <;> first
    | exact nice_callFn ..
    | exact nice_callV ..
    | exact nice_const _
theorem nice_runOps (ops : List AOper) : ∀ s, Nice fun R => runOps R ops s := by
  induction ops with
  | nil => intro s; exact nice_const _
  | cons o l ih =>
    intro s
    exact nice_bind (nice_const _) fun b => nice_ite (g := fun R => ((stepOp R true (o.dst.getD 0) o.op s).bind (closeV o.fz)).bind (putK (runOps R l) o.dst)) (g' := fun R => runOps R l (putT o.dst .undef s)) (nice_bind (nice_bind (nice_stepOp ..) fun r => nice_const _) fun r => ih _) (ih _)
theorem nice_dCall (id f b s c) : Nice fun R => dCall R id f b s c :=
  nice_ite (g := fun R => (pureCall R f c).bind _) (nice_bind (nice_pure _ _) fun _ => nice_const _) (nice_const _)
theorem nice_dCal (id s O args f) : Nice fun R => dCal R id s O args f := by
  unfold dCal
  split
  · exact nice_dCall ..
  · exact nice_const _
theorem nice_dOp (un qs d op s) : Nice fun R => dOp R un qs d op s := by
  cases op <;> first
    | exact nice_dCall ..
    | exact nice_dCal ..
    | exact nice_const _
theorem nice_deltaCall (id f b c) : Nice fun R => deltaCall R id f b c :=
  nice_ite (g := fun R => (pureCall R f c).bind _) (nice_bind (nice_pure _ _) fun _ => nice_const _) (nice_const _)
theorem nice_deltaCal (id V args f) : Nice fun R => deltaCal R id V args f := by
  unfold deltaCal
  split
  · exact nice_deltaCall ..
  · exact nice_const _
theorem nice_delta (qs lvl d op T V) : Nice fun R => delta R qs lvl d op T V := by
  cases op <;> first
    | exact nice_deltaCall ..
    | exact nice_deltaCal ..
    | exact nice_const _
theorem nice_dOpF (un qs d op s) : Nice fun R => dOpF R un qs d op s :=
  nice_bind (nice_ite (nice_delta ..) (nice_ite (nice_bind (nice_delta ..) fun _ => nice_const _) (nice_const _))) fun _ => nice_const _
theorem nice_chkOp (q fz d op s) : Nice fun R => chkOp R q fz d op s := by
  cases q
  · exact nice_bind (nice_stepOp ..) fun _ => nice_const _
  · exact nice_ite (nice_dOp ..) (nice_dOpF ..)
theorem nice_runD (ops : List (Chk × AOper)) : ∀ s, Nice fun R => runD R ops s := by
  induction ops with
  | nil => intro s; exact nice_const _
  | cons o l ih =>
    intro s
    exact nice_bind (nice_const _) fun b => nice_ite (g := fun R => (chkOp R o.1 o.2.fz (o.2.dst.getD 0) o.2.op s).bind (putK (runD R l) o.2.dst)) (g' := fun R => runD R l (putT o.2.dst .undef s)) (nice_bind (nice_chkOp ..) fun r => ih _) (ih _)
theorem nice_runQ (ops s q) : Nice fun R => runQ R ops s q := by
  cases q
  · exact nice_runOps ..
  · exact nice_runD ..
theorem nice_step (E : FuncId → Option AFn) (t : Task) : Nice fun R => step E R t := by
  cases t with
  | code c s =>
    cases c with
    | skip => exact nice_const _
    | reg q ops m d => exact nice_bind (nice_runQ ..) fun _ => nice_const _
    | seq a b => exact nice_bind (nice_R _) fun o => by unfold seqR; split; exact nice_R _; exact nice_const _; exact nice_const _
    | cond c a b => simp only [step]; unfold condR; split; exact nice_ite (nice_R _) (nice_R _); exact nice_const _
    | block id b m d => exact nice_bind (nice_R _) fun _ => nice_const _
    | loop b m d => exact nice_bind (nice_R _) fun o => by unfold loopR; split; exact nice_R _; exact nice_const _; exact nice_const _
    | rf rid f ps a b => exact nice_bind (nice_callV ..) fun _ => nice_const _
    | exit id => exact nice_const _
    | scope b => exact nice_R _
    | ret => exact nice_const _
    | bad => exact nice_const _
  | fn f args lvl F O => exact nice_bind (nice_const _) fun fn => by cases fn with
    | code res body => exact nice_bind (nice_R _) fun _ => nice_const _
    | prim g => exact nice_const _
  | rnd id args lvl F O =>
    simp only [step]
    unfold rndBeg
    split
    · refine nice_ite (nice_bind (nice_R _) fun o => ?_) (nice_const _)
      unfold rndAsg
      split
      · refine nice_bind (nice_const _) fun s => ?_
        unfold rndMid1 rndMid
        split
        · exact nice_bind (nice_R _) fun _ => nice_const _
        · exact nice_const none
      · exact nice_const none
    · exact nice_const none

theorem run_succ (E : FuncId → Option AFn) (n : Nat) : Le (run E n) (run E (n + 1)) := by
  induction n with
  | zero => intro t r h; cases h
  | succ n ih => exact fun t r h => (nice_step E t).mono ih h
theorem run_le (E : FuncId → Option AFn) (n m : Nat) (h : n ≤ m) : Le (run E n) (run E m) := by
  induction h with
  | refl => intro t r h; exact h
  | step _ ih => intro t r h; exact run_succ E _ _ _ (ih t r h)

theorem Run_iff {E : FuncId → Option AFn} {t : Task} {r : Out} : Run E t = some r ↔ ∃ n, run E n t = some r := by
  unfold Run
  constructor
  · intro h
    split at h
    · rename_i hx
      cases h
      exact ⟨_, Classical.choose_spec (Classical.choose_spec hx)⟩
    · cases h
  · rintro ⟨n, h⟩
    have hx : ∃ n r, run E n t = some r := ⟨n, r, h⟩
    rw [dif_pos hx]
    have h2 := Classical.choose_spec (Classical.choose_spec hx)
    have ha := run_le E _ _ (Nat.le_max_left n (Classical.choose hx)) _ _ h
    have hb := run_le E _ _ (Nat.le_max_right n (Classical.choose hx)) _ _ h2
    rw [ha] at hb
    cases hb; rfl

/-- the whole is what one step makes of it -/
theorem Run_eq (E : FuncId → Option AFn) (t : Task) : Run E t = step E (Run E) t := by
  cases h : step E (Run E) t with
  | some r =>
    obtain ⟨n, hn⟩ := (nice_step E t).fin (run_le E) (fun t r h => Run_iff.1 h) h
    exact Run_iff.2 ⟨n + 1, hn⟩
  | none =>
    cases h2 : Run E t with
    | none => rfl
    | some r =>
      obtain ⟨n, hn⟩ := Run_iff.1 h2
      cases n with
      | zero => cases hn
      | succ n =>
        have := (nice_step E t).mono (R := run E n) (R' := Run E) (fun t r h => Run_iff.2 ⟨n, h⟩) hn
        rw [h] at this; cases this
end Go.Zv
