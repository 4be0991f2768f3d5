/- PuA: printed by a program of this session: the functions of the seat as plain functions, and that the code comes to them. -/
import Derived.Test.YteghkndbngddgaaSyM
import Derived.IntWalk
/- Plain aids: rounds of loops, numbers in their ranges, equality of data. -/
set_option linter.unusedVariables false
set_option linter.unusedSimpArgs false
namespace Go.Sx
open Go.RowKit
theorem iter_step {α β : Type} {body : α → Option (α ⊕ β)} {x y : α} (h : body x = some (.inl y)) : iter body x = iter body y := by rw [iter_eq, h]
theorem iter_done {α β : Type} {body : α → Option (α ⊕ β)} {x : α} {r : β} (h : body x = some (.inr r)) : iter body x = some r := by rw [iter_eq, h]

/-- A loop by an invariant: a measure falls, and every way out answers. -/
theorem iter_inv {α β : Type} {body : α → Option (α ⊕ β)} (I : α → Prop) (Q : β → Prop) (μ : α → Nat)
    (h : ∀ x, I x → (∃ y, body x = some (.inl y) ∧ I y ∧ μ y < μ x) ∨ ∃ r, body x = some (.inr r) ∧ Q r) : ∀ x, I x → ∃ r, iter body x = some r ∧ Q r := by
  intro x
  generalize hm : μ x = m
  induction m using Nat.strongRecOn generalizing x with
  | _ m ih =>
    intro hx
    rcases h x hx with ⟨y, h1, h2, h3⟩ | ⟨r, h1, h2⟩
    · obtain ⟨r, h4, h5⟩ := ih (μ y) (by omega) y rfl h2
      exact ⟨r, by rw [iter_step h1]; exact h4, h5⟩
    · exact ⟨r, iter_done h1, h2⟩

/-- A counted loop without a way out on the way. -/
theorem iter_for {α β : Type} {body : α → Option (α ⊕ β)} (st : Nat → α) (n : Nat) (r : β) (hs : ∀ i, i < n → body (st i) = some (.inl (st (i + 1)))) (he : body (st n) = some (.inr r)) (i : Nat) (hi : i ≤ n) : iter body (st i) = some r := by
  obtain ⟨d, rfl⟩ : ∃ d, n = i + d := ⟨n - i, by omega⟩
  induction d generalizing i with
  | zero => exact iter_done he
  | succ d ih =>
    rw [iter_step (hs i (by omega))]
    exact ih (i + 1) (fun j hj => hs j (by omega)) (by rw [show i + 1 + d = i + (d + 1) by omega]; exact he) (by omega)

theorem i64w {n : Int} (h : -9223372036854775808 ≤ n) (h2 : n ≤ 9223372036854775807) : IntKind.wrap .i64 n = n := IntWalk.i64_in n ⟨h, h2⟩
theorem u64w {n : Int} (h : 0 ≤ n) (h2 : n ≤ 18446744073709551615) : IntKind.wrap .u64 n = n := IntWalk.u64_in n ⟨h, h2⟩
theorem eqV_iff : ∀ {t : Ty}, t.eqOk = true → ∀ {v w : Val t}, eqV t v w = true ↔ v = w := by
  intro t
  induction t with
  | int k => intro _ v w; simp [eqV]
  | bool => intro _ v w; simp [eqV]
  | str =>
    intro _ v w
    show ByteArray.beq v w = true ↔ _
    unfold ByteArray.beq
    cases v; cases w; simp
  | slice t ih => intro h; cases h
  | unit => intro _ v w; simp [eqV]
  | pair a b iha ihb =>
    intro h v w
    simp only [Ty.eqOk, Bool.and_eq_true] at h
    simp only [eqV, Bool.and_eq_true, iha h.1, ihb h.2]
    exact ⟨fun e => Prod.ext e.1 e.2, fun e => by rw [e]; exact ⟨rfl, rfl⟩⟩
  | arr n t ih =>
    intro h v w
    have go : ∀ (x y : List (Val t)), eqV.go (eqV t) x y = true ↔ x = y := by
      intro x
      induction x with
      | nil => intro y; cases y <;> simp [eqV.go]
      | cons a x ihx => intro y; cases y <;> simp [eqV.go, ihx, ih h]
    exact go v w
  | cell c => intro h; cases h

theorem eqV_self {t : Ty} (h : t.eqOk = true) (v : Val t) : eqV t v v = true := (eqV_iff h).2 rfl

/-- A page's data: line, header word, contents. -/
abbrev Page : Type := Int × Int × List Int × Unit

end Go.Sx

/- Plain aids: a function by rounds, for running it. -/
set_option linter.unusedVariables false
namespace Go.Sx
open Go.RowKit
/-- What the one tells, the other tells. -/
def Le {α : Type} (a b : Option α) : Prop := ∀ r, a = some r → b = some r

namespace Le
variable {α β γ : Type}
theorem refl {a : Option α} : Le a a := fun _ h => h
theorem none {b : Option α} : Le Option.none b := fun _ h => by cases h
theorem bind {a b : Option α} {f g : α → Option β} (h : Le a b) (k : ∀ x, Le (f x) (g x)) : Le (a.bind f) (b.bind g) := by
  intro r hr
  cases ha : a with
  | none => rw [ha] at hr; cases hr
  | some x =>
    rw [ha] at hr
    rw [h x ha]
    exact k x r hr
theorem cond {t : Bool} {a b c d : Option α} (h : Le a b) (k : Le c d) : Le (bif t then a else c) (bif t then b else d) := by cases t <;> assumption
theorem iter {n : Nat} {f g : α → Option (α ⊕ β)} {x : α} (h : ∀ y, Le (f y) (g y)) : Le (iterN f n x) (Sx.iter g x) := by
  intro r hr
  rw [iter_some]
  refine ⟨n, ?_⟩
  induction n generalizing x with
  | zero => cases hr
  | succ n ih =>
    simp only [iterN] at hr ⊢
    split at hr
    · cases hr
    · rename_i y e
      rw [h _ _ e]
      exact ih hr
    · rename_i y e
      rw [h _ _ e]
      exact hr
end Le
end Go.Sx

/- Plain aids: bits of numbers. -/
set_option linter.unusedVariables false
set_option linter.unusedSimpArgs false
namespace Go.Sx
open Go.RowKit
theorem shr_u64 {a : Int} (k : Nat) (hk : k ≤ 64) : shiftR .u64 a k = a / 2 ^ k := by
  unfold shiftR
  rw [show min (Int.toNat (k : Int)) (IntKind.bits .u64) = k by simp [IntKind.bits]; omega]
  exact Int.fdiv_eq_ediv_of_nonneg _ (Int.le_of_lt (Int.pow_pos (by decide)))

/-! ### Ranges -/
end Go.Sx

