/- The symbolic executor's meaning: a function's summary. -/
import Derived.Test.YteghkndbngddgaaGreatSyI
set_option linter.unusedVariables false
namespace Go.Sx
open Go.RowKit
section
variable {f g : Nat → Obj} (hle : ObLe f g) {md : Bool}
include hle
theorem ObLe.mine {i : Nat} (h : isMine (f i) = true) : isMine (g i) = true := by
  rcases hle i with e | e
  · rw [e] at h; cases h
  · rw [e]; exact h
theorem flagOk_mono {nw mw : Bool} {ids : List Nat} {t : Ty} (h : flagOk md f nw mw ids t = true) : flagOk md g nw mw ids t = true := by
  unfold flagOk at h ⊢
  simp only [Bool.or_eq_true, Bool.and_eq_true, List.all_eq_true] at h ⊢
  rcases h with h | ⟨h1, h2⟩
  · exact .inl h
  · exact .inr ⟨h1, fun i hi => hle.mine (h2 i hi)⟩
theorem pickT_mono : ∀ (t : Tm) (s : SV) (r : Rho) {x : Rho × ((acc : List H) → Dl acc → Dl (holes t acc))}, pickT md f t s r = some x → pickT md g t s r = some x := by
  intro t
  induction t with
  | dat nw t =>
    intro s r x h
    simp only [pickT] at h ⊢
    split at h
    · rename_i mw v e1
      rw [toV_mono hle e1]
      simp only
      split at h
      · rename_i e2
        rw [flagOk_mono hle e2]; exact h
      · cases h
    · cases h
  | cons a b iha ihb =>
    intro s r x h
    cases s with
    | agg l =>
      cases l with
      | nil => simp only [pickT] at h; cases h
      | cons y l =>
        simp only [pickT] at h ⊢
        split at h
        · rename_i r1 f1 e0 e1
          rw [e0, iha _ _ e1]
          simp only
          split at h
          · rename_i e2
            rw [ihb _ _ e2]; exact h
          · cases h
        · cases h
    | dat nw u v =>
      cases u with
      | pair t u =>
        simp only [pickT] at h ⊢
        split at h
        · rename_i r1 f1 e0 e1
          rw [e0, iha _ _ e1]
          simp only
          split at h
          · rename_i e2
            rw [ihb _ _ e2]; exact h
          · cases h
        · cases h
      | _ => simp only [pickT] at h; cases h
    | _ => simp only [pickT] at h; cases h
  | fn k b ih =>
    intro s r x h
    cases s <;> simp only [pickT] at h <;> first | (cases h; done) | skip
    simp only [pickT]
    split at h
    · rename_i e0
      split at h
      · rename_i e1
        rw [ih _ _ e1]; exact h
      · cases h
    · cases h
  | tup b ih => intro s r x h; cases s <;> simp [pickT] at h
  | dead => intro s r x h; cases s <;> simp [pickT] at h
  | nil => intro s r x h; cases s with
    | agg l => cases l <;> simpa only [pickT] using h
    | dat nw u v => cases u <;> simpa only [pickT] using h
    | _ => simpa only [pickT] using h
  | refI i q => intro s r x h; cases s with
    | ref j p =>
      cases p with
      | nil => simpa only [pickT] using h
      | cons y p => cases y <;> simpa only [pickT] using h
    | _ => simpa only [pickT] using h
  | sub t i => intro s r x h; cases s with
    | own u j =>
      simp only [pickT] at h ⊢
      rcases hle j with e | e
      · rw [e] at h
        split at h
        · rename_i e2; cases e2
        · cases h
      · rw [e]; exact h
    | _ => simpa only [pickT] using h
  | _ => intro s r x h; cases s <;> simpa only [pickT] using h
theorem pickV_mono {t : Tm} {s : SV} {r : Rho} {x : Rho × ((acc : List H) → Dl acc → Dl (holes t acc))} (h : pickV md f t s r = some x) : pickV md g t s r = some x := by
  cases t with
  | dead => simpa only [pickV] using h
  | tup b =>
    cases s with
    | tup l =>
      simp only [pickV] at h ⊢
      split at h
      · rename_i e0
        split at h
        · rename_i e1
          rw [pickT_mono hle _ _ _ e1]; exact h
        · cases h
      · cases h
    | _ => simp only [pickV] at h ⊢; exact pickT_mono hle _ _ _ h
  | it i =>
    cases s with
    | it j => simpa only [pickV] using h
    | _ => simp only [pickV] at h ⊢; exact pickT_mono hle _ _ _ h
  | _ => simp only [pickV] at h ⊢; exact pickT_mono hle _ _ _ h
theorem pickS_mono {sl : Nat → SV} : ∀ {l : List (Nat × Tm)} {r : Rho} {x : Rho × ((acc : List H) → Dl acc → Dl (holesS l acc))}, pickS md f sl l r = some x → pickS md g sl l r = some x
  | [], r, x, h => by simpa only [pickS] using h
  | (k, t) :: l, r, x, h => by
    simp only [pickS] at h ⊢
    split at h
    · rename_i e1
      rw [pickV_mono hle e1]
      simp only
      split at h
      · rename_i e2
        rw [pickS_mono e2]; exact h
      · cases h
    · cases h
theorem pickO_mono {o : OT} {j : Nat} {r : Rho} {x : Rho × ((acc : List H) → Dl acc → Dl (holesO o acc))} (h : pickO md f o (f j) r = some x) : pickO md g o (g j) r = some x := by
  have hj : g j = f j := by
    rcases hle j with e | e
    · rw [e] at h; cases o <;> simp [pickO] at h
    · exact e
  rw [hj]
  cases hf : f j with
  | gone => rw [hf] at h; cases o <;> simp [pickO] at h
  | box u y =>
    rw [hf] at h
    cases o with
    | slc => simp [pickO] at h
    | map => simp [pickO] at h
    | itr => simp [pickO] at h
    | box t c =>
      simp only [pickO] at h ⊢
      split at h
      · split at h
        · rename_i e1
          rw [pickT_mono hle _ _ _ e1]; exact h
        · cases h
      · cases h
  | slc mw u xs =>
    rw [hf] at h
    cases o with
    | box => simp [pickO] at h
    | map => simp [pickO] at h
    | itr => simp [pickO] at h
    | slc nw t => exact h
  | map k mw u es =>
    rw [hf] at h
    cases o with
    | map k nw t => exact h
    | _ => simp [pickO] at h
  | itr m n l =>
    rw [hf] at h
    cases o with
    | itr m => exact h
    | _ => simp [pickO] at h
theorem pickB_mono : ∀ {l : List (Nat × OT)} {r : Rho} {x : Rho × ((acc : List H) → Dl acc → Dl (holesB l acc))}, pickB md f l r = some x → pickB md g l r = some x
  | [], r, x, h => by simpa only [pickB] using h
  | (k, o) :: l, r, x, h => by
    simp only [pickB] at h ⊢
    split at h
    · split at h
      · rename_i e1
        rw [pickO_mono hle e1]
        simp only
        split at h
        · rename_i e2
          rw [pickB_mono e2]; exact h
        · cases h
      · cases h
    · split at h
      · split at h
        · rename_i e0 e2
          rw [e0, pickB_mono e2]; exact h
        · cases h
      all_goals cases h
    · cases h
theorem boundOk_mono {ρ : List (Nat × Option Nat)} : ∀ {nx : Nat}, boundOk f ρ nx = true → boundOk g ρ nx = true
  | 0, _ => rfl
  | nx + 1, h => by
    simp only [boundOk, rangeAll, Bool.and_eq_true] at h ⊢
    refine ⟨?_, boundOk_mono h.2⟩
    have h1 := h.1
    split at h1
    · rename_i j hj
      rcases hle j with e | e
      · rw [e] at h1; cases h1
      · rw [e]; exact h1
    · cases h1
end
section
variable {c : Cx} {n : Nat} {sl : Nat → SV} {w0 : World} {Jo : Io} {a : Act}
theorem RelC.jo {Jo' : Io} (h : RelC c n sl w0 Jo a) (h1 : ∀ b, Jo b → Jo' b) (h2 : ∀ i b, Jo'.fix i = some b → Jo.fix i = some b) (h3 : ∀ b, Jo.F0 b → Jo'.F0 b) (h4 : Jo.may → Jo'.may) : RelC c n sl w0 Jo' a :=
  { h with
    own := fun i hi => ⟨(h.own i hi).1, (h.own i hi).2.1, (h.own i hi).2.2.imp id (h1 _)⟩
    below := fun b hb hn => h.below b hb (fun e => hn (h1 b e))
    fix := fun i b hb => h.fix i b (h2 i b hb)
    old := fun b hb hlt => (h.old b hb hlt).imp (h3 b) (fun e => ⟨h1 b e.1, h4 e.2⟩) }
def bare (c : Cx) : Cx := { c with F := fun b => c.Fn true b, A := fun _ => False, ob := fun _ => .gone }
theorem bare_rel (h : RelC c n sl w0 Jo a) : RelC (bare c) 0 (fun _ => .dead) w0 ⟨Jo.blk, fun _ => none, fun _ => False, False⟩ { tmps := #[], defers := [] } :=
  { defers := rfl, size := rfl, slots := fun _ => .vdead, objs := fun _ => trivial, unalloc := fun _ _ => rfl, inj := fun i j hi => absurd rfl hi.1, own := fun i hi => absurd rfl hi.1
    fz := fun b hb => h.fz b hb.1, below := h.below, base := h.base, grown := h.grown, os := h.os, tape := h.tape, output := h.output, fix := fun i b hb => (by cases hb)
    old := fun b hb hlt => by
      have := hb.2 rfl
      have h2 : b < c.B := hlt
      omega
    mine := fun i hi => (by cases hi) }
theorem bare_arg {s : SV} {v : Value} (ha : argNw s = true) (h : SRepV c s v) : SRepV (bare c) s v := by
  cases s with
  | dat nw t x =>
    cases h with
    | one h =>
      cases h with
      | dat h =>
        refine .one (.dat ?_)
        simp only [argNw, Bool.or_eq_true] at ha
        rcases ha with rfl | ha
        · exact h.mono (fun b hb => ⟨hb, fun _ => hb.2 rfl⟩) (fun _ _ => rfl)
        · exact Rep.light (by simpa using ha) h
  | nils =>
    cases h with
    | one h => cases h; exact .one .nils
  | zc k =>
    cases h with
    | one h =>
      cases h with
      | zptr => exact .one .zptr
      | zmap => exact .one .zmap
      | zfun => exact .one .zfun
  | _ => cases ha
theorem bare_args : ∀ {l : List SV} {vs : List Value}, l.all argNw = true → SReps c l vs → SReps (bare c) l vs
  | _, _, _, .nil => .nil
  | _, _, ha, .cons a b => by
    simp only [List.all_cons, Bool.and_eq_true] at ha
    exact .cons (bare_arg ha.1 a) (bare_args ha.2 b)
end
section
variable {md : Bool} {f g : Nat → Obj}
theorem toV_nw {t : Ty} {s : SV} (ha : argNw s = true) : toV f t s = toV g t s := by
  cases s with
  | dat nw u v => cases t <;> rfl
  | nils => cases t <;> rfl
  | zc k => cases t <;> rfl
  | _ => cases ha
theorem borrows_nw {t : Ty} {s : SV} (ha : argNw s = true) : borrows t s = [] := by
  cases s with
  | dat nw u v => cases t <;> rfl
  | nils => cases t <;> rfl
  | zc k => cases t <;> rfl
  | _ => cases ha
theorem pickT_nw : ∀ (t : Tm) (s : SV) (r : Rho), argNw s = true → pickT md f t s r = pickT md g t s r := by
  intro t
  induction t with
  | dat nw u =>
    intro s r ha
    simp only [pickT]
    rw [toV_nw (f := f) (g := g) ha, borrows_nw ha]
    rfl
  | cons a b iha ihb =>
    intro s r ha
    cases s with
    | dat nw u v =>
      cases u with
      | pair u1 u2 =>
        have ha' : (nw || !(u1.heapy || u2.heapy)) = true := ha
        have h1 : argNw (.dat nw u1 v.1) = true := by
          simp only [argNw]
          revert ha'
          cases nw <;> cases u1.heapy <;> cases u2.heapy <;> simp
        have h2 : argNw (.dat nw u2 v.2) = true := by
          simp only [argNw]
          revert ha'
          cases nw <;> cases u1.heapy <;> cases u2.heapy <;> simp
        simp only [pickT]
        rw [iha _ _ h1]
        simp only [ihb _ _ h2]
      | _ => rfl
    | nils => rfl
    | zc k => rfl
    | _ => cases ha
  | nil =>
    intro s r ha
    cases s with
    | dat nw u v => cases u <;> rfl
    | nils => rfl
    | zc k => rfl
    | _ => cases ha
  | _ =>
    intro s r ha
    cases s with
    | dat nw u v => rfl
    | nils => rfl
    | zc k => rfl
    | _ => cases ha
theorem pickV_nw {t : Tm} {s : SV} {r : Rho} (ha : argNw s = true) : pickV md f t s r = pickV md g t s r := by
  cases t with
  | dead => rfl
  | tup b =>
    cases s with
    | dat nw u v => rfl
    | nils => rfl
    | zc k => rfl
    | _ => cases ha
  | it i =>
    cases s with
    | dat nw u v => rfl
    | nils => rfl
    | zc k => rfl
    | _ => cases ha
  | _ => exact pickT_nw _ s r ha
theorem pickB_nil {l : List (Nat × OT)} {r : Rho} (h : l = []) : pickB md f l r = pickB md g l r := by subst h; rfl
theorem pickB_empty {l : List (Nat × OT)} {r : Rho} {x : Rho × ((acc : List H) → Dl acc → Dl (holesB l acc))} (h : pickB md f l r = some x) (hr : ∀ k, look r.ρ k = none) : l = [] := by
  cases l with
  | nil => rfl
  | cons y l =>
    obtain ⟨k, o⟩ := y
    simp only [pickB, hr k] at h
    cases h
theorem pickS_nw {sl : Nat → SV} (ha : ∀ k, sl k = .dead ∨ argNw (sl k) = true) : ∀ (l : List (Nat × Tm)) (r : Rho), pickS md f sl l r = pickS md g sl l r
  | [], r => rfl
  | (k, t) :: l, r => by
    have : pickV md f t (sl k) r = pickV md g t (sl k) r := by
      rcases ha k with e | e
      · rw [e]
        cases t with
        | dat nw u => cases u <;> rfl
        | _ => rfl
      · exact pickV_nw e
    simp only [pickS]
    rw [this]
    simp only [pickS_nw ha l]
end
section
variable {c : Cx} {n : Nat} {sl : Nat → SV} {w0 : World} {Jo : Io} {a : Act}
theorem fixL_at (ob new f : Nat → Obj) (σ : Nat → Nat) : ∀ (n y : Nat), ((∃ i, i < n ∧ σ i = y) → ups f (fixL ob new σ n) y = reMine (ob y) (new y)) ∧ ((∀ i, i < n → σ i ≠ y) → ups f (fixL ob new σ n) y = f y)
  | 0, y => ⟨fun ⟨i, h, _⟩ => by omega, fun _ => rfl⟩
  | n + 1, y => by
    have ih := fun f => fixL_at ob new f σ n y
    simp only [fixL, ups]
    by_cases e : ∃ i, i < n ∧ σ i = y
    · refine ⟨fun _ => (ih _).1 e, fun h => ?_⟩
      obtain ⟨i, h1, h2⟩ := e
      exact absurd h2 (h i (by omega))
    · have e' : ∀ i, i < n → σ i ≠ y := fun i h1 h2 => e ⟨i, h1, h2⟩
      rw [(ih _).2 e']
      refine ⟨fun ⟨i, h1, h2⟩ => ?_, fun h => ?_⟩
      · have : i = n := by
          by_cases h3 : i < n
          · exact absurd h2 (e' i h3)
          · omega
        subst this
        rw [← h2, up_same]
      · rw [up_ne _ _ (fun h2 => h n (by omega) h2.symm)]
theorem remine_rel (h : RelC c n sl w0 Jo a) {ob' : Nat → Obj} (hob : ∀ i, ob' i = c.ob i ∨ ∃ nw t xs, c.ob i = .slc nw t xs ∧ ob' i = .slc true t xs ∧ t.heapy = false ∧ ((c.β i).isnil = false → c.B ≤ (c.β i).blk)) :
    RelC { c with ob := ob' } n sl w0 Jo a ∧ Ext c { c with ob := ob' } := by
  have hsh : ∀ i, ob' i = .gone ∨ sameShape (c.ob i) (ob' i) := by
    intro i
    rcases hob i with e | ⟨nw, t, xs, e1, e2, _⟩
    · rw [e]; exact sameShape_self _
    · rw [e1, e2]; exact .inr ⟨rfl, rfl⟩
  have he : Ext c { c with ob := ob' } := ⟨rfl, fun _ hb => hb, fun _ _ => rfl, fun _ hi => hi, fun i _ => (hsh i).imp id (fun e => ⟨e, rfl⟩)⟩
  have hlive : ∀ i, Live { c with ob := ob' } i → Live c i := by
    intro i hi
    refine ⟨fun e => ?_, hi.2⟩
    rcases hob i with e1 | ⟨nw, t, xs, e1, _⟩
    · exact hi.1 (by show ob' i = .gone; rw [e1, e])
    · rw [e] at e1; cases e1
  refine ⟨h.change he (fun i => ?_) (fun i hi => ?_) (fun i j hi hj => h.inj i j (hlive i hi) (hlive j hj)) (fun i hi => h.own i (hlive i hi)) h.fz (fun _ _ _ => rfl) (Nat.le_refl _) rfl rfl rfl (fun b hb _ => hb) (fun i hi hnn => ?_), he⟩
  · show OK _ i (ob' i)
    have hx := h.objs i
    rcases hob i with e | ⟨nw, t, xs, e1, e2, e3, _⟩
    · rw [e]
      by_cases hg : c.ob i = .gone
      · rw [hg]; trivial
      · exact hx.ext he rfl (fun _ => rfl)
    · rw [e2]
      rw [e1] at hx
      obtain ⟨h0, h1 | ⟨h1, h2, arr, ty, h3, h4, h5⟩⟩ := hx
      · exact ⟨h0, .inl h1⟩
      · refine ⟨h0, .inr ⟨h1, h2, arr, ty, h3, h4, fun k hk => ?_⟩⟩
        obtain ⟨ds, h6, h7, h8⟩ := h5 k hk
        exact ⟨ds, h6, h7, Rep.light e3 h8⟩
  · have e := h.unalloc i hi
    show ob' i = .gone
    rcases hob i with e1 | ⟨nw, t, xs, e1, _⟩
    · rw [e1, e]
    · rw [e] at e1; cases e1
  · have hi : isMine (ob' i) = true := hi
    rcases hob i with e | ⟨nw, t, xs, e1, e2, e3, e4⟩
    · rw [e] at hi; exact h.mine i hi hnn
    · exact e4 hnn
end
section
variable {P : Program} {E : Env} {H : Nat → Option Sum}
theorem remine_call {c c'' : Cx} {n : Nat} {sl : Nat → SV} {w0 : World} {Jo : Io} {a : Act} (h : RelC c n sl w0 Jo a) (h2 : RelC c'' n sl w0 Jo a) {σ : Nat → Nat} {nx : Nat} {l : List (Nat × Obj)}
    (hA : ∀ i, i < nx → c.A (σ i)) (hβ : c''.B = c.B ∧ ∀ i, c.A i → c''.β i = c.β i) (hob : c''.ob = ups c.ob (gonesOf σ nx ++ l)) :
    ∃ c3 : Cx, c3.w = c''.w ∧ RelC c3 n sl w0 Jo a ∧ c3.ob = ups c.ob (obsOf c.ob σ nx l) ∧ Ext c'' c3 ∧ c3.A = c''.A := by
  suffices hh : RelC { c'' with ob := ups c.ob (obsOf c.ob σ nx l) } n sl w0 Jo a ∧ Ext c'' { c'' with ob := ups c.ob (obsOf c.ob σ nx l) } from ⟨{ c'' with ob := ups c.ob (obsOf c.ob σ nx l) }, rfl, hh.1, rfl, hh.2, rfl⟩
  refine remine_rel h2 (fun y => ?_)
  unfold obsOf
  rw [ups_append, ← hob]
  by_cases e : ∃ i, i < nx ∧ σ i = y
  · rw [(fixL_at _ _ _ _ _ _).1 e]
    have hnew : ups (fun _ => Obj.gone) l y = c''.ob y := by
      rw [hob, ups_append]
      exact ups_at l (by rw [gones_at _ _ _ e])
    rw [hnew]
    obtain ⟨i, hi, rfl⟩ := e
    unfold reMine
    split
    · rename_i t' xs' nw t xs e1 e2
      split
      · exact .inl e2.symm
      · rename_i e3
        refine .inr ⟨nw, t, xs, e2, rfl, e3, fun hn => ?_⟩
        rw [hβ.1, hβ.2 _ (hA i hi)]
        rw [hβ.2 _ (hA i hi)] at hn
        exact h.mine _ (by rw [e1]; rfl) hn
    · exact .inl rfl
  · rw [(fixL_at _ _ _ _ _ _).2 (fun i h1 h2 => e ⟨i, h1, h2⟩)]
    exact .inl rfl
theorem fixL_mono {f g new : Nat → Obj} {σ : Nat → Nat} : ∀ {nx : Nat}, (∀ i, i < nx → f (σ i) = g (σ i)) → fixL f new σ nx = fixL g new σ nx
  | 0, _ => rfl
  | nx + 1, h => by
    simp only [fixL]
    rw [h nx (by omega), fixL_mono (fun i hi => h i (by omega))]
theorem sig_bound {ob : Nat → Obj} {R : Rho} {nx id0 : Nat} (h : boundOk ob R.ρ nx = true) {i : Nat} (hi : i < nx) : ob (sigOf id0 nx R.ρ i) ≠ .gone := by
  obtain ⟨j, h1, h2⟩ := boundOk_spec h hi
  simp only [sigOf, h1]
  rw [show Nat.blt i nx = true by simpa using hi, cond_true]
  exact h2
theorem rho_nil {nx : Nat} {R : Rho} (h : rhoOk nx R = true) (h0 : nx = 0) (i : Nat) : look R.ρ i = none := by
  cases e : look R.ρ i with
  | none => rfl
  | some x =>
    have := (rhoOk_spec h).2.2.2 i x e
    omega
theorem ctr_ok (hE : EnvOk P E) (hM : P.follows .mixedOrders = true) {f : FuncId} {fn : Func} {code : Code} (hf : P.funcs[f]? = some fn) (hb : fn.body = some code) (henter : ∀ args w, (callFunc f args).run P w = .ok (.enter f args) w)
    {shI shO : Shape} {Y Z : Type} {ci : shI.D → Y} {ui : Y → shI.D} {co : shO.D → Z} {uo : Z → shO.D} (hci : ∀ d, ui (ci d) = d) (hco : ∀ d, uo (co d) = d) (hn : shI.n = fn.ntmps) (hs : shapesOk shI shO = true)
    {F : Y → Option Z} (hbody : ∀ y, exec E H code (shI.mk' (ui y)) (kontF E fn.results.toList shO co) = F y)
    (hL : ∀ (w0 : World) (Jo : Io), (∀ i b, Jo.fix i = some b → i ∈ shI.fix) → (shI.may = true → Jo.may) → LoopsOk P w0 Jo H code) : CtrOk P f (ctrOf shI shO ci uo F) := by
  have hs' := hs
  simp only [shapesOk, Bool.and_eq_true] at hs'
  obtain ⟨⟨⟨⟨⟨s1, s2⟩, s3⟩, s4⟩, s5⟩, s6⟩ := hs'
  refine ⟨henter, fun c n sl w0 Jo a h args vs ha id0 hid r hr => ?_, fun args f g id0 r hle hr => ?_⟩
  · unfold ctrOf at hr
    split at hr
    · rename_i r1 fd hlen e1
      have hlen := Nat.le_of_ble_eq_true hlen
      split at hr
      · rename_i R gd e2
        split at hr
        · rename_i hc
          simp only [Bool.and_eq_true] at hc
          obtain ⟨⟨⟨e3, e4⟩, e5⟩, e6⟩ := hc
          simp only [PR.val] at hr
          obtain ⟨z, hz, hr⟩ := bind_some hr
          simp only [Option.some.injEq] at hr
          subst hr
          cases hfr : frOf R.kill shI args with
          | true =>
            simp only [frOf, Bool.and_eq_true] at hfr
            obtain ⟨⟨f1, f2⟩, f3⟩ := hfr
            have f1 := List.isEmpty_iff.1 f1
            have f2 := Nat.eq_of_beq_eq_true f2
            have hno := rho_nil e3 f2
            have hsh : shI.ob = [] := pickB_empty e2 (fun k => by
              cases e : look r1.ρ k with
              | none => rfl
              | some x =>
                have := (pickB_le e2).look k x e
                rw [hno] at this; cases this)
            have hargs : ∀ k, args.getD k .dead = .dead ∨ argNw (args.getD k .dead) = true := by
              intro k
              by_cases hk : k < args.length
              · right
                rw [List.getD, List.getElem?_eq_getElem hk]
                exact List.all_eq_true.1 f3 _ (List.getElem_mem hk)
              · left
                rw [List.getD, List.getElem?_eq_none (by omega)]
                rfl
            have e1' : pickS false (bare c).ob (fun k => args.getD k .dead) shI.sl ⟨[], [], []⟩ = some (r1, fd) := by
              rw [pickS_nw (g := c.ob) hargs]; exact e1
            have e2' : pickB false (bare c).ob shI.ob r1 = some (R, gd) := by
              rw [pickB_nil (g := c.ob) hsh]; exact e2
            obtain ⟨ob', hob0, hrel⟩ := callee_rel (bare_rel h) (bare_args f3 ha) hlen e1' e2' e3 (by rw [f2]; rfl)
            have hob1 : ∀ i, ob' i = .gone := by
              intro i
              rcases hob0 i with e | ⟨j, e, _⟩ | ⟨e, _⟩
              · exact e
              · rw [hno] at e; cases e
              · rw [hno] at e; cases e
            have hx := hbody (ci (fd _ (gd [] ())))
            rw [hci, hz] at hx
            rw [hn] at hrel
            have hcall := fn_ok (co := co) (uo := uo) hE hM hf hb hco (fun i b hib => by simp only [ioOf] at hib; rw [f2] at hib; simp at hib) (fun hm => by rw [hm] at s5; simpa [ioOf] using s5) (hL c.w (ioOf (bare c) R ob' shI.nx shI.may) (fun i b hib => by simp only [ioOf] at hib; rw [f2] at hib; simp at hib) (fun hm => hm)) hrel hx
            refine Calls.mono hcall fun e w' hq => ?_
            obtain ⟨c', a', v, rfl, rfl, h', hv⟩ := hq
            have h'2 : RelS c' (shO.mk' (uo z)) c.w (ioOf c R ob' shI.nx shI.may) a' := by
              refine ⟨h'.rel.jo (fun b hb => ?_) (fun i b hib => ?_) (fun b hb => ?_) (fun hm => hm), h'.ob, h'.fresh⟩
              · obtain ⟨i, j, k1, _⟩ := hb
                rw [hno] at k1; cases k1
              · simp only [ioOf] at hib
                rw [f2] at hib; simp at hib
              · rcases hb with hb | ⟨m, hm, _⟩
                · exact .inl hb.1
                · rw [f1] at hm; cases hm
            obtain ⟨c'', k1, k2, k3, k4, k5, kβ, k6⟩ := caller_rel h (fun i => .inl (hob1 i)) e3 e4 hs hid h'2 e6
            obtain ⟨c3, m0, m1, m3, m2, m4⟩ := remine_call h k2 (σ := sigOf id0 shI.nx R.ρ) (nx := shI.nx) (fun i hi => by omega) kβ k3
            refine ⟨c3, v, rfl, (m0.trans k1).symm, m1, m3, (k6 (fun b hb hlt => ?_) _ _ ?_).ext m2, by rw [m4]; exact k5⟩
            · rcases h'.rel.old b hb (by rw [h'.rel.base]; exact hlt) with hb | ⟨⟨i, j, k1, _⟩, _⟩
              · rcases hb with hb | ⟨m, hm, _⟩
                · exact hb
                · rw [f1] at hm; cases hm
              · rw [hno] at k1; cases k1
            · have := h'.rel.slots (shO.n - 1)
              rw [hv] at this
              exact this
          | false =>
          obtain ⟨ob', hob0, hrel⟩ := callee_rel h ha hlen e1 e2 e3 e4
          have hin : ∀ i, i < shI.nx → i ∈ shI.fix ∧ i ∈ shO.fix := by
            intro i hi
            have := rangeAll_spec s1 i hi
            simp only [Bool.and_eq_true] at this
            obtain ⟨j, hj, hij⟩ := List.any_eq_true.1 this.1
            obtain ⟨k, hk, hik⟩ := List.any_eq_true.1 this.2
            rw [← Nat.eq_of_beq_eq_true hij] at hj
            rw [← Nat.eq_of_beq_eq_true hik] at hk
            exact ⟨hj, hk⟩
          have hfx : ∀ i b, (ioOf c R ob' shI.nx shI.may).fix i = some b → i < shI.nx := by
            intro i b hib
            simp only [ioOf] at hib
            split at hib
            · assumption
            · cases hib
          have hx := hbody (ci (fd _ (gd [] ())))
          rw [hci, hz] at hx
          rw [hn] at hrel
          have hcall := fn_ok (co := co) (uo := uo) hE hM hf hb hco (fun i b hib => (hin i (hfx i b hib)).2) (fun hm => by rw [hm] at s5; simpa [ioOf] using s5) (hL c.w (ioOf c R ob' shI.nx shI.may) (fun i b hib => (hin i (hfx i b hib)).1) (fun hm => hm)) hrel hx
          refine Calls.mono hcall fun e w' hq => ?_
          obtain ⟨c', a', v, rfl, rfl, h', hv⟩ := hq
          obtain ⟨c'', k1, k2, k3, k4, k5, kβ, _⟩ := caller_rel h hob0 e3 e4 hs hid h' e6
          obtain ⟨c3, m0, m1, m3, m2, m4⟩ := remine_call h k2 (σ := sigOf id0 shI.nx R.ρ) (nx := shI.nx) (fun i hi => by
            by_cases e : c.A (sigOf id0 shI.nx R.ρ i)
            · exact e
            · exact absurd (h.unalloc _ e) (sig_bound e4 hi)) kβ k3
          refine ⟨c3, v, rfl, (m0.trans k1).symm, m1, m3, (k4 _ _ ?_).ext m2, by rw [m4]; exact k5⟩
          have := h'.rel.slots (shO.n - 1)
          rw [hv] at this
          exact this
        · cases hr
      · cases hr
    · cases hr
  · unfold ctrOf at hr ⊢
    split at hr
    · rename_i e0 e1
      rw [e0, pickS_mono hle e1]
      simp only
      split at hr
      · rename_i e2
        rw [pickB_mono hle e2]
        simp only
        split at hr
        · rename_i hc
          simp only [Bool.and_eq_true] at hc
          obtain ⟨⟨⟨e3, e4⟩, e5⟩, e6⟩ := hc
          rw [e3, boundOk_mono hle e4, e5, e6]
          simp only [obsOf] at hr ⊢
          simp only [fixL_mono (f := f) (g := g) (σ := sigOf id0 shI.nx _) (fun i hi => by
            rcases hle (sigOf id0 shI.nx _ i) with e | e
            · exact absurd e (sig_bound e4 hi)
            · exact e.symm)] at hr
          exact hr
        · cases hr
      · cases hr
    · cases hr
end
end Go.Sx
