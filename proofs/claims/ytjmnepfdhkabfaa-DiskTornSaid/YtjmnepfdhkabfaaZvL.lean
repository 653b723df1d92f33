/- The engine, part 31: loops: what a round does, once, gives what the loop does. -/
import Derived.Test.YtjmnepfdhkabfaaZvF
namespace Go.Zv
set_option autoImplicit false
theorem loop_idx {σ : Type} (G : St → Option Out) (S : Nat → σ → St) (n : Nat) (I : Nat → σ → Prop) (res : Nat → σ → Option Out)
    (stop : ∀ x, I n x → G (S n x) = res n x)
    (step : ∀ k x, k < n → I k x → G (S k x) = res k x ∨ ∃ y, I (k + 1) y ∧ G (S k x) = G (S (k + 1) y) ∧ res k x = res (k + 1) y) :
    ∀ k x, k ≤ n → I k x → G (S k x) = res k x := by
  have h : ∀ j k x, k + j = n → I k x → G (S k x) = res k x := by
    intro j
    induction j with
    | zero => intro k x hk hi; have e : k = n := by omega
              subst e; exact stop x hi
    | succ j ih =>
      intro k x hk hi
      rcases step k x (by omega) hi with h | ⟨y, h1, h2, h3⟩
      · exact h
      · rw [h2, h3]; exact ih (k + 1) y (by omega) h1
  intro k x hk; exact h (n - k) k x (by omega)
theorem drop_get {α : Type} {l : List α} {k : Nat} {p : α} (h : l[k]? = some p) : l.drop k = p :: l.drop (k + 1) := by
  obtain ⟨h1, h2⟩ := List.getElem?_eq_some_iff.1 h
  rw [List.drop_eq_getElem_cons h1, h2]
/-- a loop over a list that leaves at the first element of a kind -/
theorem loop_any {α : Type} (G : St → Option Out) (S : Nat → St) (l : List α) (P : α → Bool) (r e : Option Out)
    (stop : G (S l.length) = e)
    (step : ∀ k p, k < l.length → l[k]? = some p → G (S k) = if P p = true then r else G (S (k + 1))) : G (S 0) = if l.any P = true then r else e := by
  have := loop_idx (σ := Unit) G (fun k _ => S k) l.length (fun _ _ => True) (fun k _ => if (l.drop k).any P = true then r else e) (fun _ _ => by simp [stop]) (fun k x hk _ => by
    have hget : l[k]? = some (l[k]'hk) := List.getElem?_eq_getElem _
    have hs := step k _ hk hget
    have hd := drop_get hget
    generalize l[k]'hk = p at *
    cases hp : P p with
    | true => left; rw [hs, hd]; simp [hp]
    | false => right; refine ⟨(), trivial, ?_, ?_⟩
               · rw [hs, hp]; simp
               · simp only [hd, List.any_cons, hp, Bool.false_or]) 0 () (by omega) trivial
  simpa using this
/-- a loop over a list that carries a state along -/
theorem loop_foldl {α σ : Type} (G : St → Option Out) (S : Nat → σ → St) (l : List α) (f : σ → α → σ) (I : σ → Prop)
    (step : ∀ k p x, k < l.length → l[k]? = some p → I x → I (f x p) ∧ G (S k x) = G (S (k + 1) (f x p))) (x : σ) (hx : I x) : G (S 0 x) = G (S l.length (l.foldl f x)) := by
  have := loop_idx G S l.length (fun _ x => I x) (fun k x => G (S l.length ((l.drop k).foldl f x))) (fun _ _ => by simp) (fun k x hk hi => by
    have hget : l[k]? = some (l[k]'hk) := List.getElem?_eq_getElem _
    have hs := step k _ x hk hget hi
    have hd := drop_get hget
    generalize l[k]'hk = p at *
    right
    exact ⟨f x p, hs.1, hs.2, by simp only [hd, List.foldl_cons]⟩) 0 x (by omega) hx
  simpa using this
theorem loop_to (G : St → Option Out) (S : Nat → St) (n : Nat) (step : ∀ k, k < n → G (S k) = G (S (k + 1))) : G (S 0) = G (S n) := by
  exact loop_idx (σ := Unit) G (fun k _ => S k) n (fun _ _ => True) (fun _ _ => G (S n)) (fun _ _ => rfl) (fun k x hk _ => .inr ⟨(), trivial, step k hk, rfl⟩) 0 () (by omega) trivial
/-- a loop whose state is told by an invariant -/
theorem loop_inv {σ : Type} (G : St → Option Out) (S : Nat → σ → St) (n : Nat) (I : Nat → σ → Prop)
    (step : ∀ k x, k < n → I k x → ∃ y, I (k + 1) y ∧ G (S k x) = G (S (k + 1) y)) (x : σ) (hx : I 0 x) : ∃ y, I n y ∧ G (S 0 x) = G (S n y) := by
  have h : ∀ j k x, k + j = n → I k x → ∃ y, I n y ∧ G (S k x) = G (S n y) := by
    intro j
    induction j with
    | zero => intro k x hk hi; have e : k = n := by omega
              subst e; exact ⟨x, hi, rfl⟩
    | succ j ih =>
      intro k x hk hi
      obtain ⟨y, h1, h2⟩ := step k x (by omega) hi
      obtain ⟨z, h3, h4⟩ := ih (k + 1) y (by omega) h1
      exact ⟨z, h3, h2.trans h4⟩
  exact h n 0 x (by omega) hx
end Go.Zv
