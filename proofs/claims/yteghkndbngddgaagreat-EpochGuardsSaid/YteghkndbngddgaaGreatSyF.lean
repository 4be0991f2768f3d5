/- The symbolic executor's meaning: what a call gives back. -/
import Derived.Test.YteghkndbngddgaaGreatSyE
set_option linter.unusedVariables false
namespace Go.Sx
open Go.RowKit
def okNw (lax : Bool) : Tm → Bool
  | .dat nw t => lax || nw || !t.heapy
  | .at nw _ => lax || nw
  | .cons a b => isL b && okNw lax a && okNw lax b
  | .tup b => isL b && okNw lax b
  | .fn _ b => isL b && okNw lax b
  | .it _ => false
  | _ => true
def okNwO (lax : Bool) : OT → Bool
  | .box _ c => okNw lax c
  | .slc nw t => lax || nw || !t.heapy
  | .map _ nw t => lax || nw || !t.heapy
  | .itr _ => false
structure Ret (c c' : Cx) (σ : Nat → Nat) (lax : Bool) : Prop where
  w : c'.w = c.w
  F1 : ∀ b, c.Fn true b → c'.Fn true b
  F2 : lax = true → ∀ b, c.F b → c'.F b
  A : ∀ i, c.A i → c'.A (σ i)
  β : ∀ i, c.A i → c.ob i ≠ .gone → c'.β (σ i) = c.β i
  ob : ∀ i, c.A i → c'.ob (σ i) = .gone ∨ sameShape (c.ob i) (c'.ob (σ i))
section
variable {lax : Bool} {c c' : Cx} {σ : Nat → Nat} (hL : Ret c c' σ lax)
include hL
theorem Ret.fn {nw : Bool} (h : (lax || nw) = true) {b : Nat} (hb : c.Fn nw b) : c'.Fn nw b := by
  cases nw with
  | true => exact hL.F1 b hb
  | false => exact ⟨hL.F2 (by simpa using h) b hb.1, fun e => by cases e⟩
theorem Ret.data {nw : Bool} {t : Ty} (h : (lax || nw || !t.heapy) = true) {v : Val t} {cs : List Value} (hr : Rep c.w (c.Fn nw) t v cs) : Rep c'.w (c'.Fn nw) t v cs := by
  cases hh : t.heapy with
  | false => exact Rep.light hh hr
  | true =>
    rw [hL.w]
    rw [hh, Bool.not_true, Bool.or_false] at h
    exact hr.mono (fun b hb => hL.fn h hb) (fun _ _ => rfl)
theorem Ret.box {i : Nat} (hA : c.A i) {t : Ty} {x : SV} (hb : c.ob i = .box t x) : c'.ob (σ i) = .gone ∨ ∃ y, c'.ob (σ i) = .box t y := by
  rcases hL.ob i hA with e | e
  · exact .inl e
  · rw [hb] at e
    cases hx : c'.ob (σ i) with
    | gone => exact .inl rfl
    | box u y => rw [hx] at e; simp only [sameShape] at e; subst e; exact .inr ⟨y, rfl⟩
    | slc => rw [hx] at e; simp [sameShape] at e
    | map => rw [hx] at e; simp [sameShape] at e
    | itr => rw [hx] at e; simp [sameShape] at e
theorem Ret.slc {i : Nat} (hA : c.A i) {nw : Bool} {t : Ty} {xs : List (Val t)} (hb : c.ob i = .slc nw t xs) : c'.ob (σ i) = .gone ∨ ∃ mw ys, ys.length = xs.length ∧ c'.ob (σ i) = .slc mw t ys := by
  rcases hL.ob i hA with e | e
  · exact .inl e
  · rw [hb] at e
    cases hx : c'.ob (σ i) with
    | gone => exact .inl rfl
    | slc mw u ys => rw [hx] at e; simp only [sameShape] at e; obtain ⟨e1, e2⟩ := e; subst e1; exact .inr ⟨mw, ys, e2.symm, rfl⟩
    | box => rw [hx] at e; simp [sameShape] at e
    | map => rw [hx] at e; simp [sameShape] at e
    | itr => rw [hx] at e; simp [sameShape] at e
theorem Ret.map {i : Nat} (hA : c.A i) {k : IntKind} {nw : Bool} {t : Ty} {xs : List (Int × Val t)} (hb : c.ob i = .map k nw t xs) : c'.ob (σ i) = .gone ∨ ∃ mw ys, c'.ob (σ i) = .map k mw t ys := by
  rcases hL.ob i hA with e | e
  · exact .inl e
  · rw [hb] at e
    cases hx : c'.ob (σ i) with
    | gone => exact .inl rfl
    | map k' mw u ys => rw [hx] at e; simp only [sameShape] at e; obtain ⟨e1, e2⟩ := e; subst e1 e2; exact .inr ⟨mw, ys, rfl⟩
    | _ => rw [hx] at e; simp [sameShape] at e
theorem Ret.gone {i : Nat} (hA : c.A i) (hb : c.ob i = .gone) : c'.ob (σ i) = .gone := by
  rcases hL.ob i hA with e | e
  · exact e
  · rw [hb] at e; simp [sameShape] at e
theorem Ret.ref {i : Nat} {p : List PS} {t : Ty} {cs : List Value} (hr : SRep c (.ref i p) t cs) : SRep c' (.ref (σ i) p) t cs := by
  cases hr with
  | refGone h1 h2 h3 => exact .refGone (hL.A _ h1) (hL.gone h1 h2) h3
  | refBox h1 h2 h3 h4 =>
    rw [← hL.β _ h1 (by rw [h2]; simp)]
    rcases hL.box h1 h2 with e | ⟨y, e⟩
    · exact .refGone (hL.A _ h1) e rfl
    · exact .refBox (hL.A _ h1) e h3 h4
  | refSlc h1 h2 h3 h4 h5 =>
    rw [← hL.β _ h1 (by rw [h2]; simp)]
    rcases hL.slc h1 h2 with e | ⟨mw, ys, e1, e⟩
    · exact .refGone (hL.A _ h1) e rfl
    · exact .refSlc (hL.A _ h1) e (by rw [e1]; exact h3) h4 h5
theorem Ret.own {i : Nat} {u t : Ty} {cs : List Value} (hr : SRep c (.own u i) t cs) : SRep c' (.own u (σ i)) t cs := by
  cases hr with
  | ownGone h1 h2 h3 => exact .ownGone (hL.A _ h1) (hL.gone h1 h2) h3
  | own h1 h2 =>
    rw [← hL.β _ h1 (by rw [h2]; simp)]
    rcases hL.slc h1 h2 with e | ⟨mw, ys, e1, e⟩
    · exact .ownGone (hL.A _ h1) e (hdr_one _ _)
    · rw [← e1]; exact .own (hL.A _ h1) e
theorem Ret.sub {i lo hi : Nat} {u t : Ty} {cs : List Value} (hr : SRep c (.sub u i lo hi) t cs) : SRep c' (.sub u (σ i) lo hi) t cs := by
  cases hr with
  | subGone h1 h2 h3 => exact .subGone (hL.A _ h1) (hL.gone h1 h2) h3
  | sub h1 h2 h3 h4 h5 =>
    have hβ := hL.β _ h1 (by rw [h2]; simp)
    rw [← hβ]
    rw [← hβ] at h5
    rcases hL.slc h1 h2 with e | ⟨mw, ys, e1, e⟩
    · exact .subGone (hL.A _ h1) e rfl
    · exact .sub (hL.A _ h1) e h3 (by rw [e1]; exact h4) h5
theorem Ret.mp {i : Nat} {t : Ty} {cs : List Value} (hr : SRep c (.mp i) t cs) : SRep c' (.mp (σ i)) t cs := by
  cases hr with
  | mpGone h1 h2 h3 => exact .mpGone (hL.A _ h1) (hL.gone h1 h2) h3
  | mp h1 h2 =>
    rw [← hL.β _ h1 (by rw [h2]; simp)]
    rcases hL.map h1 h2 with e | ⟨mw, ys, e⟩
    · exact .mpGone (hL.A _ h1) e rfl
    · exact .mp (hL.A _ h1) e
theorem ret_ok : ∀ (tm : Tm), okNw lax tm = true → (∀ acc (d : Dl (holes tm acc)) t cs, SRep c (mk id tm acc d) t cs → SRep c' (mk σ tm acc d) t cs) ∧
    (isL tm = true → ∀ acc (d : Dl (holes tm acc)) vs, SReps c (aggL (mk id tm acc d)) vs → SReps c' (aggL (mk σ tm acc d)) vs) ∧
    (∀ acc (d : Dl (holes tm acc)) v, SRepV c (mk id tm acc d) v → SRepV c' (mk σ tm acc d) v) := by
  intro tm
  induction tm with
  | dead =>
    refine fun _ => ⟨fun acc d t cs h => ?_, fun h => ?_, fun acc d v h => .vdead⟩
    · simp only [mk] at h; cases h
    · cases h
  | dat nw t =>
    intro ho
    have h1 : ∀ acc (d : Dl (holes (.dat nw t) acc)) u cs, SRep c (mk id (.dat nw t) acc d) u cs → SRep c' (mk σ (.dat nw t) acc d) u cs := by
      intro acc d u cs h
      simp only [mk] at h ⊢
      cases h with
      | dat h => exact .dat (hL.data ho h)
    refine ⟨h1, fun h => (by cases h), fun acc d v h => ?_⟩
    simp only [mk] at h
    cases h with
    | one h => exact .one (h1 acc d _ _ h)
  | «at» nw t =>
    intro ho
    have h1 : ∀ acc (d : Dl (holes (.at nw t) acc)) u cs, SRep c (mk id (.at nw t) acc d) u cs → SRep c' (mk σ (.at nw t) acc d) u cs := by
      intro acc d u cs h
      simp only [mk] at h ⊢
      simp only [okNw] at ho
      cases h with
      | «at» h1 h2 h3 h4 =>
        refine .at (hL.fn ho h1) h2 (fun j hj => by rw [hL.w]; exact h3 j hj) ?_
        rw [hL.w]
        exact h4.mono (fun b hb => hL.fn ho hb) (fun _ _ => rfl)
    refine ⟨h1, fun h => (by cases h), fun acc d v h => ?_⟩
    simp only [mk] at h
    cases h with
    | one h => exact .one (h1 acc d _ _ h)
  | nil =>
    intro ho
    refine ⟨fun acc d t cs h => ?_, fun _ acc d vs h => ?_, fun acc d v h => ?_⟩
    · simp only [mk] at h ⊢
      cases h
      exact .anil
    · simp only [mk, aggL] at h ⊢
      cases h
      exact .nil
    · simp only [mk] at h ⊢
      cases h with
      | one h => cases h; exact .one .anil
  | cons a b iha ihb =>
    intro ho
    simp only [okNw, Bool.and_eq_true] at ho
    obtain ⟨⟨o1, o2⟩, o3⟩ := ho
    have h0 : ∀ acc (d : Dl (holes (.cons a b) acc)) u cs, SRep c (mk id (.cons a b) acc d) u cs → SRep c' (mk σ (.cons a b) acc d) u cs := by
      intro acc d u cs h
      simp only [mk] at h ⊢
      cases h with
      | acons h1 h2 =>
        rw [← mk_isL id b _ _ o1] at h2
        have h2 := (ihb o3).1 _ _ _ _ h2
        rw [mk_isL σ b _ _ o1] at h2
        exact .acons ((iha o2).1 _ _ _ _ h1) h2
    refine ⟨h0, fun _ acc d vs h => ?_, fun acc d v h => ?_⟩
    · simp only [mk, aggL] at h ⊢
      cases h with
      | cons h1 h2 => exact .cons ((iha o2).2.2 _ _ _ h1) ((ihb o3).2.1 o1 _ _ _ h2)
    · have h' := h
      simp only [mk] at h'
      generalize hx : mk id (.cons a b) acc d = x at h
      cases h with
      | one h => subst hx; exact .one (h0 acc d _ _ h)
      | vdead => simp only [mk] at hx; cases hx
      | tup h => simp only [mk] at hx; cases hx
      | itGone => simp only [mk] at hx; cases hx
      | it => simp only [mk] at hx; cases hx
  | tup b ih =>
    intro ho
    simp only [okNw, Bool.and_eq_true] at ho
    refine ⟨fun acc d t cs h => ?_, fun h => (by cases h), fun acc d v h => ?_⟩
    · simp only [mk] at h; cases h
    · simp only [mk] at h ⊢
      cases h with
      | tup h => exact .tup ((ih ho.2).2.1 ho.1 _ _ _ h)
      | one h => cases h
  | ref i p =>
    intro ho
    refine ⟨fun acc d t cs h => ?_, fun h => (by cases h), fun acc d v h => ?_⟩
    · simp only [mk] at h ⊢; exact hL.ref h
    · simp only [mk] at h ⊢
      cases h with
      | one h => exact .one (hL.ref h)
  | refI i p =>
    intro ho
    refine ⟨fun acc d t cs h => ?_, fun h => (by cases h), fun acc d v h => ?_⟩
    · simp only [mk] at h ⊢; exact hL.ref h
    · simp only [mk] at h ⊢
      cases h with
      | one h => exact .one (hL.ref h)
  | zc k =>
    intro ho
    refine ⟨fun acc d t cs h => ?_, fun h => (by cases h), fun acc d v h => ?_⟩
    · simp only [mk] at h ⊢; exact zc_move h
    · simp only [mk] at h ⊢
      cases h with
      | one h => exact .one (zc_move h)
  | nils =>
    intro ho
    refine ⟨fun acc d t cs h => ?_, fun h => (by cases h), fun acc d v h => ?_⟩
    · simp only [mk] at h ⊢; cases h; exact .nils
    · simp only [mk] at h ⊢
      cases h with
      | one h => cases h; exact .one .nils
  | own t i =>
    intro ho
    refine ⟨fun acc d t cs h => ?_, fun h => (by cases h), fun acc d v h => ?_⟩
    · simp only [mk] at h ⊢; exact hL.own h
    · simp only [mk] at h ⊢
      cases h with
      | one h => exact .one (hL.own h)
  | sub t i =>
    intro ho
    refine ⟨fun acc d t cs h => ?_, fun h => (by cases h), fun acc d v h => ?_⟩
    · simp only [mk] at h ⊢; exact hL.sub h
    · simp only [mk] at h ⊢
      cases h with
      | one h => exact .one (hL.sub h)
  | mp i =>
    intro ho
    refine ⟨fun acc d t cs h => ?_, fun h => (by cases h), fun acc d v h => ?_⟩
    · simp only [mk] at h ⊢; exact hL.mp h
    · simp only [mk] at h ⊢
      cases h with
      | one h => exact .one (hL.mp h)
  | it i => intro ho; cases ho
  | fn f b ih =>
    intro ho
    simp only [okNw, Bool.and_eq_true] at ho
    have h1 : ∀ acc (d : Dl (holes (.fn f b) acc)) u cs, SRep c (mk id (.fn f b) acc d) u cs → SRep c' (mk σ (.fn f b) acc d) u cs := by
      intro acc d u cs h
      simp only [mk] at h ⊢
      cases h with
      | fn h => exact .fn ((ih ho.2).2.1 ho.1 _ _ _ h)
    refine ⟨h1, fun h => (by cases h), fun acc d v h => ?_⟩
    simp only [mk] at h
    cases h with
    | one h => exact .one (h1 acc d _ _ h)
end
end Go.Sx
