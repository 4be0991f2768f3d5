/- The symbolic executor's meaning: regions in the order of the text, and code. -/
import Derived.Test.YteghkndbngddgaaGreatSxC
import Derived.Test.YteghkndbngddgaaGreatSxT
import Derived.Orders
set_option linter.unusedVariables false
namespace Go.Sx
open Go.RowKit
structure RelS (c : Cx) (s : St) (w0 : World) (Jo : Io) (a : Act) : Prop where
  rel : RelC c s.n s.sl w0 Jo a
  ob : c.ob = s.ob
  fresh : ∀ i, s.nx ≤ i → ¬ c.A i
theorem up_self {α : Type} (f : Nat → α) (k : Nat) (v : α) (h : f k = v) : up f k v = f := by
  funext j
  by_cases e : j = k
  · subst e; rw [up_same, h]
  · rw [up_ne _ _ e]
def wantS (all : List Oper) (sl : Nat → SV) (o : Oper) : Option Bool :=
  match o.guard with
  | none => some true
  | some (j, want) => match dstOf all j with
    | some g => match sl g with
      | .dat _ .bool b => some (b == want)
      | .tup [] => some false
      | _ => none
    | none => none
def UpdV (E : Env) (all : List Oper) (id0 : Nat) (v : (Nat → Obj) → Nat → Obj) (o : Oper) (s : St) (u : Upd) : Prop :=
  (wantS all s.sl o = some true ∧ (plan E { s with ob := v s.ob } id0 o).val = some u) ∨ (wantS all s.sl o = some false ∧ u = deadU o.dst)
theorem updOf_some {R : Type} {E : Env} {all : List Oper} {id0 : Nat} {v : (Nat → Obj) → Nat → Obj} {o : Oper} {s : St} {k : St → Upd → Option R} {r : R} (h : updOf E all id0 v o s k = some r) :
    ∃ u, UpdV E all id0 v o s u ∧ k s u = some r := by
  unfold updOf at h
  unfold UpdV wantS
  split at h
  · rename_i hg
    rw [PR.run_eq] at h
    obtain ⟨u, hu, hk⟩ := bind_some h
    simp only [hg]
    exact ⟨u, .inl ⟨by simp, hu⟩, hk⟩
  · rename_i j want hg
    simp only [hg]
    split at h
    · rename_i g hd
      simp only [hd]
      split at h
      · rename_i nw b hs
        simp only [hs]
        have hself : ∀ b', b = b' → ({ s with sl := up s.sl g (.dat nw .bool b') } : St) = s := by
          intro b' e
          subst e
          rw [up_self _ _ _ hs]
        cases b with
        | true =>
          simp only [cond_true] at h
          have e1 := hself true rfl
          have e2 : up s.sl g (.dat nw .bool true) = s.sl := up_self _ _ _ hs
          rw [e1] at h
          rw [e2] at h
          cases want with
          | true =>
            simp only at h
            rw [PR.run_eq] at h
            obtain ⟨u, hu, hk⟩ := bind_some h
            exact ⟨u, .inl ⟨rfl, hu⟩, hk⟩
          | false => exact ⟨_, .inr ⟨rfl, rfl⟩, h⟩
        | false =>
          simp only [cond_false] at h
          have e1 := hself false rfl
          have e2 : up s.sl g (.dat nw .bool false) = s.sl := up_self _ _ _ hs
          rw [e1] at h
          rw [e2] at h
          cases want with
          | false =>
            simp only at h
            rw [PR.run_eq] at h
            obtain ⟨u, hu, hk⟩ := bind_some h
            exact ⟨u, .inl ⟨rfl, hu⟩, hk⟩
          | true => exact ⟨_, .inr ⟨rfl, rfl⟩, h⟩
      · rename_i hs
        simp only [hs]
        exact ⟨_, .inr ⟨trivial, rfl⟩, h⟩
      · cases h
    · cases h
section
variable {c : Cx} {s : St} {w0 : World} {Jo : Io} {a : Act} {P : Program} {E : Env} {u : Upd} {id0 : Nat} {next : Act → World → Prop} {Q : Exit → Act → World → Prop}
theorem wanted_of {ops : Array Oper} {o : Oper} {b : Bool} (h : RelC c s.n s.sl w0 Jo a) (hw : wantS ops.toList s.sl o = some b) : Region.wanted o (yielded ops a.tmps) = b := by
  unfold wantS at hw
  unfold Region.wanted
  split at hw
  · rename_i hg
    simp only [hg]
    simpa using hw
  · rename_i j want hg
    simp only [hg]
    split at hw
    · rename_i g hd
      split at hw
      · rename_i nw b' hs
        simp only [Option.some.injEq] at hw
        subst hw
        have hv := h.slots g
        rw [hs] at hv
        have hv := hv.bool
        unfold yielded
        have : (ops[j]?).bind (·.dst) = some g := by
          unfold dstOf at hd
          rw [Array.getElem?_toList] at hd
          split at hd
          · rename_i e; simp [e, hd]
          · cases hd
        simp only [this, Option.bind_some]
        have h2 : a.tmps[g]? = some (.bool b') := by
          rw [Array.getD_eq_getD_getElem?] at hv
          cases e : a.tmps[g]? with
          | none => rw [e] at hv; cases hv
          | some x => rw [e] at hv; simp at hv; rw [hv]
        simp [h2]
      · rename_i hs
        cases hw
        have hv := h.slots g
        rw [hs] at hv
        have hv : a.tmps.getD g undef = .tuple #[] := by
          generalize a.tmps.getD g undef = x at hv
          cases hv with
          | one h => cases h
          | tup h => cases h; rfl
        unfold yielded
        have : (ops[j]?).bind (·.dst) = some g := by
          unfold dstOf at hd
          rw [Array.getElem?_toList] at hd
          split at hd
          · rename_i e; simp [e, hd]
          · cases hd
        simp only [this, Option.bind_some]
        rw [Array.getD_eq_getD_getElem?] at hv
        cases e : a.tmps[g]? with
        | none => simp
        | some x => rw [e] at hv; simp at hv; rw [hv]; simp
      · cases hw
    · cases hw
theorem RelC.dead (h : RelC c s.n s.sl w0 Jo a) (dst : Option Nat) : RelC c (s.apply (deadU dst)).n (s.apply (deadU dst)).sl w0 Jo (a.put dst undef) := by
  cases dst with
  | none => exact h
  | some d =>
    simp only [deadU, apply_nil, ups]
    exact { h with
      defers := h.defers
      size := by simpa [Act.put] using h.size
      slots := fun k => by
        by_cases e : k = d
        · subst e
          rw [up_same]
          have : (a.put (some k) undef).tmps.getD k undef = undef := by
            simp only [Act.put, Array.getD_eq_getD_getElem?, Array.getElem?_setIfInBounds]
            split
            · split <;> rfl
            · rename_i hn; exact absurd trivial hn
          rw [this]
          exact .tup .nil
        · rw [up_ne _ _ e]
          simp only [Act.put, Array.getD_eq_getD_getElem?, Array.getElem?_setIfInBounds]
          rw [if_neg (fun h' => e h'.symm), ← Array.getD_eq_getD_getElem?]
          exact h.slots k }
theorem apply_ob_dead (dst : Option Nat) : (s.apply (deadU dst)).ob = s.ob := by cases dst <;> rfl
theorem apply_n (u : Upd) : (s.apply u).n = s.n := by cases s; cases u; rfl
theorem apply_nx (u : Upd) : (s.apply u).nx = s.nx := by cases s; cases u; rfl
theorem wpOp_ok (hE : EnvOk P E) {ops : Array Oper} {i : Nat} {o : Oper} (hi : ops[i]? = some o) (h : RelC c s.n s.sl w0 Jo a) (hob : c.ob = s.ob) (hid : ∀ i, id0 ≤ i → i < id0 + quota → ¬ c.A i)
    (hu : UpdV E ops.toList id0 (fun f => f) o s u) (hn : ∀ a' c', After c id0 (s.apply u) w0 Jo a' c' → next a' c'.w) : wpOp P ops Q i next a c.w := by
  unfold wpOp
  simp only [hi]
  rcases hu with ⟨hw, hp⟩ | ⟨hw, rfl⟩
  · rw [if_pos (wanted_of h hw)]
    exact .inl (plan_ok hE h hob hid hp hn)
  · rw [if_neg (by rw [wanted_of h hw]; simp)]
    exact hn _ c ⟨by rw [apply_ob_dead]; exact hob, h.dead _, fun _ h => .inl h⟩
theorem stepsT_ok {R : Type} (hE : EnvOk P E) {ops : Array Oper} {nx : Nat} {r : R} : ∀ (l : List Oper) (i : Nat) (s : St) (c : Cx) (a : Act) (k : St → Option R), (∀ j, l[j]? = ops[i + j]?) → i + l.length = ops.size →
    RelC c s.n s.sl w0 Jo a → c.ob = s.ob → (∀ j, nx + i * quota ≤ j → ¬ c.A j) → stepsT E ops.toList nx l i s k = some r →
    (∀ a' c' s', RelC c' s'.n s'.sl w0 Jo a' → c'.ob = s'.ob → (∀ j, nx + ops.size * quota ≤ j → ¬ c'.A j) → k s' = some r → Q .normal a' c'.w) →
    wpOps P ops Q (List.range' i l.length) a c.w := by
  intro l
  induction l with
  | nil =>
    intro i s c a k hl hlen h hob hA hs hn
    simp only [List.length_nil, Nat.add_zero] at hlen
    exact hn a c s h hob (by rw [← hlen]; exact hA) hs
  | cons o l ih =>
    intro i s c a k hl hlen h hob hA hs hn
    simp only [stepsT] at hs
    obtain ⟨u, hu, hk⟩ := updOf_some hs
    simp only [List.length_cons] at hlen
    rw [List.length_cons, List.range'_succ, wpOps_cons]
    have hi : ops[i]? = some o := by have := hl 0; simpa using this.symm
    refine wpOp_ok hE hi h hob (id0 := nx + i * quota) (fun j hj _ => hA j hj) hu fun a' c' ⟨k1, k2, k3⟩ => ?_
    refine ih (i + 1) (s.apply u) c' a' k (fun j => by have := hl (j + 1); simp only [List.getElem?_cons_succ] at this; rw [this]; congr 1; omega) (by omega) k2 k1 (fun j hj hA' => ?_) hk hn
    rcases k3 j hA' with e | e
    · exact hA j (by rw [Nat.succ_mul] at hj; omega) e
    · rw [Nat.succ_mul] at hj; omega
end
end Go.Sx
