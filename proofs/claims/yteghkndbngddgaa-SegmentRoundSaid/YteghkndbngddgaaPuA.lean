/- Plain aids: rounds of loops, numbers in their ranges, equality of data. -/
import Derived.Test.YteghkndbngddgaaSyM
import Derived.IntWalk
set_option linter.unusedVariables false
set_option linter.unusedSimpArgs false
namespace Go.Sx
open Go.RowKit

theorem iter_step {α β : Type} {body : α → Option (α ⊕ β)} {x y : α} (h : body x = some (.inl y)) : iter body x = iter body y := by rw [iter_eq, h]
theorem iter_done {α β : Type} {body : α → Option (α ⊕ β)} {x : α} {r : β} (h : body x = some (.inr r)) : iter body x = some r := by rw [iter_eq, h]

/-- A loop by an invariant: a measure falls, and every way out answers. -/
theorem iter_inv {α β : Type} {body : α → Option (α ⊕ β)} (I : α → Prop) (Q : β → Prop) (μ : α → Nat)
    (h : ∀ x, I x → (∃ y, body x = some (.inl y) ∧ I y ∧ μ y < μ x) ∨ ∃ r, body x = some (.inr r) ∧ Q r) : ∀ x, I x → ∃ r, iter body x = some r ∧ Q r := by
  intro x
  generalize hm : μ x = m
  induction m using Nat.strongRecOn generalizing x with
  | _ m ih =>
    intro hx
    rcases h x hx with ⟨y, h1, h2, h3⟩ | ⟨r, h1, h2⟩
    · obtain ⟨r, h4, h5⟩ := ih (μ y) (by omega) y rfl h2
      exact ⟨r, by rw [iter_step h1]; exact h4, h5⟩
    · exact ⟨r, iter_done h1, h2⟩

/-- A counted loop without a way out on the way. -/
theorem iter_for {α β : Type} {body : α → Option (α ⊕ β)} (st : Nat → α) (n : Nat) (r : β) (hs : ∀ i, i < n → body (st i) = some (.inl (st (i + 1)))) (he : body (st n) = some (.inr r)) (i : Nat) (hi : i ≤ n) : iter body (st i) = some r := by
  obtain ⟨d, rfl⟩ : ∃ d, n = i + d := ⟨n - i, by omega⟩
  induction d generalizing i with
  | zero => exact iter_done he
  | succ d ih =>
    rw [iter_step (hs i (by omega))]
    exact ih (i + 1) (fun j hj => hs j (by omega)) (by rw [show i + 1 + d = i + (d + 1) by omega]; exact he) (by omega)

/-- A counted loop that is left at the first index that 'bad' names. -/
theorem iter_scan {α β : Type} {body : α → Option (α ⊕ β)} (st : Nat → α) (n : Nat) (bad : Nat → Bool) (rb : Nat → β) (re : β) (hs : ∀ i, i < n → bad i = false → body (st i) = some (.inl (st (i + 1))))
    (hb : ∀ i, i < n → bad i = true → body (st i) = some (.inr (rb i))) (he : body (st n) = some (.inr re)) (i : Nat) (hi : i ≤ n) :
    iter body (st i) = some (match (List.range' i (n - i)).find? bad with | some j => rb j | none => re) := by
  obtain ⟨d, rfl⟩ : ∃ d, n = i + d := ⟨n - i, by omega⟩
  rw [show i + d - i = d by omega]
  induction d generalizing i with
  | zero => exact iter_done he
  | succ d ih =>
    rw [List.range'_succ, List.find?_cons]
    cases h : bad i with
    | true => exact iter_done (hb i (by omega) h)
    | false =>
      rw [iter_step (hs i (by omega) h)]
      exact ih (i + 1) (fun j hj => hs j (by omega)) (fun j hj => hb j (by omega)) (by rw [show i + 1 + d = i + (d + 1) by omega]; exact he) (by omega)

theorem wrap_in {k : IntKind} {n : Int} (h : k.min ≤ n ∧ n ≤ k.max) : k.wrap n = n := by
  cases k <;> simp only [IntKind.min, IntKind.max, IntKind.bits, IntKind.signed] at h
  · exact IntWalk.i8_in n (by simpa using h)
  · exact IntWalk.i16_in n (by simpa using h)
  · exact IntWalk.i32_in n (by simpa using h)
  · exact IntWalk.i64_in n (by simpa using h)
  · exact IntWalk.u8_in n (by simpa using h)
  · exact IntWalk.u16_in n (by simpa using h)
  · exact IntWalk.u32_in n (by simpa using h)
  · exact IntWalk.u64_in n (by simpa using h)

theorem i64w {n : Int} (h : -9223372036854775808 ≤ n) (h2 : n ≤ 9223372036854775807) : IntKind.wrap .i64 n = n := IntWalk.i64_in n ⟨h, h2⟩
theorem u64w {n : Int} (h : 0 ≤ n) (h2 : n ≤ 18446744073709551615) : IntKind.wrap .u64 n = n := IntWalk.u64_in n ⟨h, h2⟩
theorem u32w {n : Int} (h : 0 ≤ n) (h2 : n ≤ 4294967295) : IntKind.wrap .u32 n = n := IntWalk.u32_in n ⟨h, h2⟩

theorem wf_i64 {n : Int} (h : Wf (.int .i64) n) : -9223372036854775808 ≤ n ∧ n ≤ 9223372036854775807 := by
  have : Wf (.int .i64) n = (IntKind.i64.min ≤ n ∧ n ≤ IntKind.i64.max) := rfl
  rw [this] at h; simpa [IntKind.min, IntKind.max, IntKind.bits, IntKind.signed] using h
theorem wf_u64 {n : Int} (h : Wf (.int .u64) n) : 0 ≤ n ∧ n ≤ 18446744073709551615 := by
  have : Wf (.int .u64) n = (IntKind.u64.min ≤ n ∧ n ≤ IntKind.u64.max) := rfl
  rw [this] at h; simpa [IntKind.min, IntKind.max, IntKind.bits, IntKind.signed] using h
theorem wf_u32 {n : Int} (h : Wf (.int .u32) n) : 0 ≤ n ∧ n ≤ 4294967295 := by
  have : Wf (.int .u32) n = (IntKind.u32.min ≤ n ∧ n ≤ IntKind.u32.max) := rfl
  rw [this] at h; simpa [IntKind.min, IntKind.max, IntKind.bits, IntKind.signed] using h
theorem wf_i64_mk {n : Int} (h : -9223372036854775808 ≤ n) (h2 : n ≤ 9223372036854775807) : Wf (.int .i64) n := by
  show IntKind.i64.min ≤ n ∧ n ≤ IntKind.i64.max
  simpa [IntKind.min, IntKind.max, IntKind.bits, IntKind.signed] using And.intro h h2
theorem wf_u64_mk {n : Int} (h : 0 ≤ n) (h2 : n ≤ 18446744073709551615) : Wf (.int .u64) n := by
  show IntKind.u64.min ≤ n ∧ n ≤ IntKind.u64.max
  simpa [IntKind.min, IntKind.max, IntKind.bits, IntKind.signed] using And.intro h h2
theorem wf_u32_mk {n : Int} (h : 0 ≤ n) (h2 : n ≤ 4294967295) : Wf (.int .u32) n := by
  show IntKind.u32.min ≤ n ∧ n ≤ IntKind.u32.max
  simpa [IntKind.min, IntKind.max, IntKind.bits, IntKind.signed] using And.intro h h2

/-- What wrapped is, is in its range. -/
theorem wf_wrap (k : IntKind) (n : Int) : Wf (.int k) (k.wrap n) := by
  show k.min ≤ k.wrap n ∧ k.wrap n ≤ k.max
  cases k <;> simp only [IntKind.wrap, IntKind.min, IntKind.max, IntKind.bits, IntKind.signed] <;> (try split) <;> simp_all <;> omega

theorem eqV_iff : ∀ {t : Ty}, t.eqOk = true → ∀ {v w : Val t}, eqV t v w = true ↔ v = w := by
  intro t
  induction t with
  | int k => intro _ v w; simp [eqV]
  | bool => intro _ v w; simp [eqV]
  | str =>
    intro _ v w
    show ByteArray.beq v w = true ↔ _
    unfold ByteArray.beq
    cases v; cases w; simp
  | slice t ih => intro h; cases h
  | unit => intro _ v w; simp [eqV]
  | pair a b iha ihb =>
    intro h v w
    simp only [Ty.eqOk, Bool.and_eq_true] at h
    simp only [eqV, Bool.and_eq_true, iha h.1, ihb h.2]
    exact ⟨fun e => Prod.ext e.1 e.2, fun e => by rw [e]; exact ⟨rfl, rfl⟩⟩
  | arr n t ih =>
    intro h v w
    have go : ∀ (x y : List (Val t)), eqV.go (eqV t) x y = true ↔ x = y := by
      intro x
      induction x with
      | nil => intro y; cases y <;> simp [eqV.go]
      | cons a x ihx => intro y; cases y <;> simp [eqV.go, ihx, ih h]
    exact go v w
  | cell c => intro h; cases h

theorem eqV_self {t : Ty} (h : t.eqOk = true) (v : Val t) : eqV t v v = true := (eqV_iff h).2 rfl

/-- A page's data: line, header word, contents. -/
abbrev Page : Type := Int × Int × List Int × Unit

theorem len7 {α : Type} {l : List α} (h : l.length = 7) : ∃ a b c d e f g, l = [a, b, c, d, e, f, g] := by
  match l, h with
  | [a, b, c, d, e, f, g], _ => exact ⟨a, b, c, d, e, f, g, rfl⟩

end Go.Sx
