/- The symbolic executor's meaning: calls of functions, whole. -/
import Derived.Test.YteghkndbngddgaaGreatSyG
set_option linter.unusedVariables false
namespace Go.Sx
open Go.RowKit
section
variable {c : Cx} {n : Nat} {sl : Nat → SV} {w0 : World} {Jo : Io} {a : Act}
theorem SReps.len : ∀ {l : List SV} {vs : List Value}, SReps c l vs → vs.length = l.length
  | _, _, .nil => rfl
  | _, _, .cons _ b => by simp [b.len]
theorem args_slots {args : List SV} {vs : List Value} (ha : SReps c args vs) (m k : Nat) : SRepV c (args.getD k .dead) ((vs.toArray ++ Array.replicate m undef).getD k undef) := by
  by_cases hk : k < args.length
  · obtain ⟨v, h1, h2⟩ := ha.get (i := k) (x := args[k]) (by simp [hk])
    have hkv : k < vs.length := by rw [ha.len]; exact hk
    have e : (vs.toArray ++ Array.replicate m undef).getD k undef = v := by
      rw [Array.getD_eq_getD_getElem?, Array.getElem?_append_left (by simpa using hkv)]
      simp [h1]
    rw [e, List.getD, List.getElem?_eq_getElem hk]
    exact h2
  · rw [List.getD, List.getElem?_eq_none (by omega)]
    exact .vdead
def ioOf (c : Cx) (R : Rho) (ob : Nat → Obj) (nx : Nat) (may : Bool) : Io :=
  { blk := fun b => ∃ i j, look R.ρ i = some (some j) ∧ Live c j ∧ b = (c.β j).blk
    fix := fun i => if i < nx then some ((newCx c R ob).β i, ob i) else none
    F0 := (newCx c R ob).F
    may := may = true }
theorem boundOk_spec {ob : Nat → Obj} {ρ : List (Nat × Option Nat)} {nx : Nat} (h : boundOk ob ρ nx = true) {i : Nat} (hi : i < nx) : ∃ j, look ρ i = some (some j) ∧ ob j ≠ .gone := by
  have := rangeAll_spec h i hi
  split at this
  · rename_i j hj
    refine ⟨j, hj, fun e => ?_⟩
    rw [e] at this; cases this
  · cases this
theorem callee_rel (h : RelC c n sl w0 Jo a) {shI : Shape} {args : List SV} {vs : List Value} (ha : SReps c args vs) (hlen : args.length ≤ shI.n) {R r1 : Rho} {f : (acc : List H) → Dl acc → Dl (holesS shI.sl acc)} {g : (acc : List H) → Dl acc → Dl (holesB shI.ob acc)}
    (e1 : pickS false c.ob (fun k => args.getD k .dead) shI.sl ⟨[], [], []⟩ = some (r1, f)) (e2 : pickB false c.ob shI.ob r1 = some (R, g)) (e3 : rhoOk shI.nx R = true) (e4 : boundOk c.ob R.ρ shI.nx = true) :
    ∃ ob', (∀ i, ob' i = .gone ∨ Found false c.ob R i (ob' i)) ∧ RelS { newCx c R ob' with B := c.w.heap.size } (shI.mk' (f _ (g [] ()))) c.w (ioOf c R ob' shI.nx shI.may) { tmps := vs.toArray ++ Array.replicate (shI.n - vs.toArray.size) undef, defers := [] } := by
  obtain ⟨hnt, hkill, hinj, hlt⟩ := rhoOk_spec e3
  have hle2 := pickB_le e2
  have hob0 : ∀ i, (ups (fun _ => Obj.gone) (mkB id shI.ob [] (g [] ()))) i = .gone ∨ Found false c.ob R i ((ups (fun _ => Obj.gone) (mkB id shI.ob [] (g [] ()))) i) := fun i => pickB_found e2 (.refl R) [] () (fun _ => .gone) i
  generalize hob' : ups (fun _ => Obj.gone) (mkB id shI.ob [] (g [] ())) = ob' at hob0
  refine ⟨ob', hob0, ?_⟩
  have hL : Link false c { newCx c R ob' with B := c.w.heap.size } R := found_link (B' := c.w.heap.size) hob0 (fun e => by cases e) hnt
  obtain ⟨q1, q2⟩ := pickS_ok hL h.objs (fun k => args_slots ha (shI.n - vs.toArray.size) k) e1 hle2 (holesB shI.ob []) (g [] ()) (fun _ => .dead) (fun _ => .vdead)
  obtain ⟨_, q3⟩ := pickB_ok hL h.objs e2 (.refl R) [] () (fun _ => .gone) (fun _ => trivial)
  have hst : (shI.mk' (f _ (g [] ()))).ob = ob' := by
    simp only [Shape.mk', q1]
    exact hob'
  rw [hob'] at q3
  have live : ∀ i, Live { newCx c R ob' with B := c.w.heap.size } i → ∃ j, look R.ρ i = some (some j) ∧ Live c j ∧ (newCx c R ob').β i = c.β j := by
    intro i hi
    rcases hob0 i with e | ⟨j, h1, h2, _⟩ | ⟨h1, _⟩
    · exact absurd e hi.1
    · have hβ := hL.β i j h1
      refine ⟨j, h1, ⟨fun e => ?_, by rw [← hβ]; exact hi.2⟩, hβ⟩
      rw [e] at h2; exact h2
    · have := hi.2
      rw [hL.βn i h1] at this
      cases this
  refine ⟨?_, by rw [hst]; rfl, fun i hi => ?_⟩
  · refine { defers := rfl, size := ?_, slots := q2, objs := q3, unalloc := fun i hi => ?_, inj := fun i j hi hj hij => ?_, own := fun i hi => ?_, fz := fun b hb => ?_,
             below := fun _ _ _ => rfl, base := rfl, grown := Nat.le_refl _, os := rfl, tape := rfl, output := rfl, fix := fun i b hb => ?_, old := fun b hb hlt => .inl hb, mine := fun i hi hnn => ?_ }
    · have := ha.len
      simp only [Array.size_append, Array.size_replicate, List.size_toArray]
      show _ = shI.n
      omega
    · rcases hob0 i with e | ⟨j, h1, _⟩ | ⟨h1, _⟩
      · exact e
      · exact absurd ⟨_, h1⟩ hi
      · exact absurd ⟨_, h1⟩ hi
    · obtain ⟨i', h1, h2, h3⟩ := live i hi
      obtain ⟨j', h4, h5, h6⟩ := live j hj
      show ((newCx c R ob').β i).blk ≠ ((newCx c R ob').β j).blk
      rw [h3, h6]
      exact h.inj i' j' h2 h5 (fun e => hij (by subst e; exact look_inj hinj h1 h4))
    · obtain ⟨j, h1, h2, h3⟩ := live i hi
      obtain ⟨k1, k2, k3⟩ := h.own j h2
      show ¬ (newCx c R ob').F ((newCx c R ob').β i).blk ∧ ((newCx c R ob').β i).blk < c.w.heap.size ∧ (c.w.heap.size ≤ ((newCx c R ob').β i).blk ∨ _)
      rw [h3]
      refine ⟨fun hf => ?_, k2, .inr ⟨i, j, h1, h2, rfl⟩⟩
      rcases hf with hf | ⟨m, hm, hl, e⟩
      · exact k1 hf
      · have : j = m := by
          by_cases e2 : j = m
          · exact e2
          · exact absurd e (h.inj j m h2 hl e2)
        subst this
        have := hkill j hm
        rw [look_used h1] at this; cases this
    · rcases hb with hb | ⟨m, hm, hl, rfl⟩
      · exact h.fz b hb
      · exact (h.own m hl).2.1
    · simp only [ioOf] at hb
      split at hb
      · rename_i hi
        cases hb
        obtain ⟨j, h1, _⟩ := boundOk_spec e4 hi
        refine ⟨⟨_, h1⟩, ?_⟩
        show ob' i = .gone ∨ _
        rcases sameShape_self (ob' i) with e | e
        · exact .inl e
        · exact .inr ⟨rfl, e⟩
      · cases hb
    · have hi : isMine (ob' i) = true := hi
      rcases hob0 i with e | ⟨j, h1, h2, h3⟩ | ⟨h1, _⟩
      · rw [e] at hi; cases hi
      · have := (h3 hi).1; cases this
      · rw [hL.βn i h1] at hnn; cases hnn
  · rintro ⟨x, hx⟩
    have := hlt i x hx
    have : shI.nx ≤ i := hi
    omega
end
end Go.Sx
