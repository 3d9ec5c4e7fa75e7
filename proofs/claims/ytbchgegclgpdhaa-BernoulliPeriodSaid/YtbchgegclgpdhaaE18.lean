/- What a run with fuel gives, the function without fuel gives. -/
import Derived.Test.YtbchgegclgpdhaaE17
namespace Go.Proofs.Ytbchgegclgpdhaa.E
open Go
set_option linter.unusedVariables false

def Le {α : Type} (a b : Option α) : Prop := ∀ y, a = some y → b = some y
theorem Le.refl {α : Type} (a : Option α) : Le a a := fun _ h => h
theorem Le.cond {α : Type} {c : Bool} {a a' b b' : Option α} (h : Le a a') (h' : Le b b') : Le (cond c a b) (cond c a' b') := by
  cases c
  · exact h'
  · exact h
theorem Le.bind {α β : Type} {a a' : Option α} {f f' : α → Option β} (h : Le a a') (h' : ∀ y, Le (f y) (f' y)) : Le (a.bind f) (a'.bind f') := by
  intro y hy
  obtain ⟨x, h1, h2⟩ := Option.bind_eq_some_iff.1 hy
  rw [h x h1, Option.bind_some]
  exact h' x y h2
theorem Le.iter {α β : Type} {f f' : α → Option (α ⊕ β)} (h : ∀ x, Le (f x) (f' x)) : ∀ (n : Nat) (x : α), Le (iterN f n x) (iterL f' x)
  | 0, x => fun y hy => by cases hy
  | n + 1, x => fun y hy => by
    simp only [iterN] at hy
    split at hy
    · cases hy
    · rename_i x' hx
      rw [iterL_next (h x _ hx)]
      exact Le.iter h n x' y hy
    · rename_i b hx
      cases hy
      exact iterL_done (h x _ hx)
theorem Le.sum {α β γ : Type} {f f' : α → Option γ} {g g' : β → Option γ} (h : ∀ y, Le (f y) (f' y)) (h' : ∀ z, Le (g z) (g' z)) (s : α ⊕ β) : Le (Sum.casesOn s f g) (Sum.casesOn (motive := fun _ => Option γ) s f' g') := by
  cases s with
  | inl y => exact h y
  | inr z => exact h' z
/-- A run with fuel, in the order of the function without. -/
abbrev iterC (n : Nat) {α β : Type} (f : α → Option (α ⊕ β)) (x : α) : Option β := iterN f n x
end Go.Proofs.Ytbchgegclgpdhaa.E
