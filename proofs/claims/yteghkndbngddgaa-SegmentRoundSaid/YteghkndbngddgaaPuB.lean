/- Plain aids: a function by rounds, for running it. -/
import Derived.Test.YteghkndbngddgaaPuA
set_option linter.unusedVariables false
namespace Go.Sx
open Go.RowKit

/-- What the one tells, the other tells. -/
def Le {α : Type} (a b : Option α) : Prop := ∀ r, a = some r → b = some r

namespace Le
variable {α β γ : Type}
theorem refl {a : Option α} : Le a a := fun _ h => h
theorem none {b : Option α} : Le Option.none b := fun _ h => by cases h
theorem bind {a b : Option α} {f g : α → Option β} (h : Le a b) (k : ∀ x, Le (f x) (g x)) : Le (a.bind f) (b.bind g) := by
  intro r hr
  cases ha : a with
  | none => rw [ha] at hr; cases hr
  | some x =>
    rw [ha] at hr
    rw [h x ha]
    exact k x r hr
theorem cond {t : Bool} {a b c d : Option α} (h : Le a b) (k : Le c d) : Le (bif t then a else c) (bif t then b else d) := by cases t <;> assumption
theorem sum {s : α ⊕ β} {f f' : α → Option γ} {g g' : β → Option γ} (h : ∀ x, Le (f x) (f' x)) (k : ∀ x, Le (g x) (g' x)) :
    Le (match s with | .inl x => f x | .inr y => g y) (match s with | .inl x => f' x | .inr y => g' y) := by
  cases s with
  | inl x => exact h x
  | inr y => exact k y
theorem iter {n : Nat} {f g : α → Option (α ⊕ β)} {x : α} (h : ∀ y, Le (f y) (g y)) : Le (iterN f n x) (Sx.iter g x) := by
  intro r hr
  rw [iter_some]
  refine ⟨n, ?_⟩
  induction n generalizing x with
  | zero => cases hr
  | succ n ih =>
    simp only [iterN] at hr ⊢
    split at hr
    · cases hr
    · rename_i y e
      rw [h _ _ e]
      exact ih hr
    · rename_i y e
      rw [h _ _ e]
      exact hr
end Le
end Go.Sx
