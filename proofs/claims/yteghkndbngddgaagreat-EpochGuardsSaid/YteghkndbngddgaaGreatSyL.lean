/- Aids for printed texts: loops of a function, environments, types. -/
import Derived.Test.YteghkndbngddgaaGreatSyN
set_option linter.unusedVariables false
namespace Go.Sx
open Go.RowKit
def lookT {α : Type} : List (Nat × α) → Nat → Option α
  | [], _ => none
  | (j, t) :: l, n => bif Nat.beq n j then some t else lookT l n
theorem lookT_mem {α : Type} : ∀ {l : List (Nat × α)} {t : Nat} {ty : α}, lookT l t = some ty → (t, ty) ∈ l
  | [], t, ty, h => by cases h
  | (k, u) :: l, t, ty, h => by
    simp only [lookT] at h
    cases e : Nat.beq t k with
    | true =>
      rw [e, cond_true] at h
      cases h
      rw [Nat.eq_of_beq_eq_true e]; simp
    | false =>
      rw [e, cond_false] at h
      simp [lookT_mem h]
def mtB (P : Program) (tf : Nat → Option Ty) (t : Nat) (k : IntKind) (e : Nat) (ty : Ty) : Bool :=
  (match P.underlying t with
  | some (.map kt e') => Nat.beq e' e && (match P.underlying kt with
    | some (.int k') => ikEq k' k
    | _ => false)
  | _ => false) && (match tf e with
  | some u => tyEq u ty
  | none => false)
theorem MtOk.of {P : Program} {tf : Nat → Option Ty} {t : Nat} {k : IntKind} {e : Nat} {ty : Ty} (h : mtB P tf t k e ty = true) : MtOk P tf t k e ty := by
  unfold mtB at h
  simp only [Bool.and_eq_true] at h
  obtain ⟨h1, h2⟩ := h
  refine ⟨?_, ?_⟩
  · split at h1
    · rename_i kt e' hu
      simp only [Bool.and_eq_true] at h1
      obtain ⟨h3, h4⟩ := h1
      split at h4
      · rename_i k' hk
        rw [Nat.eq_of_beq_eq_true h3] at hu
        rw [ikEq_eq h4] at hk
        exact ⟨kt, hu, hk⟩
      · cases h4
    · cases h1
  · split at h2
    · rename_i u hu
      rw [tyEq_eq h2] at hu
      exact hu
    · cases h2
def bodyOf (f : Func) : Code := match f.body with
  | some c => c
  | none => .skip
theorem enters_of {P : Program} {f : FuncId} {fn : Func} (hf : P.funcs[f]? = some fn) (hn : (fn.name == "runtime.NumGoroutine") = false) (hb : fn.body.isNone = false) (args : Array Value) (w : World) : (callFunc f args).run P w = .ok (.enter f args) w := by
  have hn' : ¬ fn.name = "runtime.NumGoroutine" := by simpa using hn
  have hb' : ¬ fn.body = none := fun e => by rw [e] at hb; cases hb
  simp [callFunc, hf, hn', hb']
theorem envCons {P : Program} {f k : Nat} {c ct : Ctr} {r : Option Ctr} (h : (bif Nat.beq f k then some c else r) = some ct) (h1 : CtrOk P k c) (h2 : r = some ct → CtrOk P f ct) : CtrOk P f ct := by
  cases e : Nat.beq f k with
  | true =>
    rw [e, cond_true] at h
    cases h
    rw [Nat.eq_of_beq_eq_true e]
    exact h1
  | false =>
    rw [e, cond_false] at h
    exact h2 h
theorem ctr_none {P : Program} {f : FuncId} (henter : ∀ args w, (callFunc f args).run P w = .ok (.enter f args) w) {shI shO : Shape} {Y Z : Type} {ci : shI.D → Y} {uo : Z → shO.D} : CtrOk P f (ctrOf shI shO ci uo (fun _ => none)) := by
  have key : ∀ args ob id0, ((ctrOf shI shO ci uo (fun _ => none)) args ob id0).val = none := by
    intro args ob id0
    unfold ctrOf
    split
    · split
      · split <;> rfl
      · rfl
    · rfl
  exact ⟨henter, fun c n sl w0 Jo a h args vs ha id0 hid r hr => (by rw [key] at hr; cases hr), fun args f g id0 r hle hr => (by rw [key] at hr; cases hr)⟩
section
variable {P : Program} {w0 : World} {Jo : Io} {H : Nat → Option Sum}
def LoopsIn (P : Program) (w0 : World) (Jo : Io) (H : Nat → Option Sum) (l : List Code) : Prop := ∀ cl ∈ l, ∀ n f, rid cl = some n → H n = some f → SumOk P w0 Jo f (.loop cl)
theorem loopsMk {code : Code} {l : List Code} (h : loopsOf code = l) (hl : LoopsIn P w0 Jo H l) : LoopsOk P w0 Jo H code := by
  intro cl hcl
  rw [h] at hcl
  exact hl cl hcl
theorem loopsNil : LoopsIn P w0 Jo H [] := by intro cl hcl; simp at hcl
theorem loopsCons {c : Code} {n : Nat} {f : Sum} {l : List Code} (h1 : rid c = some n) (h2 : H n = some f) (h3 : SumOk P w0 Jo f (.loop c)) (h : LoopsIn P w0 Jo H l) : LoopsIn P w0 Jo H (c :: l) := by
  intro cl hcl m g hm hg
  rcases List.mem_cons.1 hcl with rfl | hcl
  · rw [h1] at hm
    cases hm
    rw [h2] at hg
    cases hg
    exact h3
  · exact h cl hcl m g hm hg
theorem loopsSkip {c : Code} {n : Nat} {l : List Code} (h1 : rid c = some n) (h2 : H n = none) (h : LoopsIn P w0 Jo H l) : LoopsIn P w0 Jo H (c :: l) := by
  intro cl hcl m g hm hg
  rcases List.mem_cons.1 hcl with rfl | hcl
  · rw [h1] at hm
    cases hm
    rw [h2] at hg
    cases hg
  · exact h cl hcl m g hm hg
theorem noLoops {code : Code} (h : loopsOf code = []) : LoopsOk P w0 Jo H code := loopsMk h loopsNil
end
end Go.Sx
