/- The symbolic executor's meaning: calls of functions. -/
import Derived.Test.YteghkndbngddgaaGreatSyF
set_option linter.unusedVariables false
namespace Go.Sx
open Go.RowKit
def sigOf (id0 nx : Nat) (ρ : List (Nat × Option Nat)) : Nat → Nat := fun i => bif Nat.blt i nx then (match look ρ i with
  | some (some j) => j
  | _ => 0) else Nat.add id0 (Nat.sub i nx)
def gonesOf (σ : Nat → Nat) : Nat → List (Nat × Obj)
  | 0 => []
  | n + 1 => (σ n, .gone) :: gonesOf σ n
def boundOk (ob : Nat → Obj) (ρ : List (Nat × Option Nat)) (nx : Nat) : Bool := rangeAll (fun i => match look ρ i with
  | some (some j) => (match ob j with
    | .gone => false
    | .box _ _ => true
    | .slc _ _ _ => true
    | .map _ _ _ _ => true
    | .itr _ _ _ => false)
  | _ => false) nx
def okAll (lax : Bool) (sh : Shape) : Bool := (sh.sl.all fun x => okNw lax x.2) && sh.ob.all fun x => okNwO lax x.2
def laxOf (kill : List Nat) (shI : Shape) : Bool := kill.isEmpty && (Nat.beq shI.nx 0 || !shI.may)
def argNw : SV → Bool
  | .dat nw t _ => nw || !t.heapy
  | .nils => true
  | .zc _ => true
  | _ => false
def up1 : SV → SV
  | .dat _ t v => .dat true t v
  | s => s
def upSV : SV → SV
  | .dat _ t v => .dat true t v
  | .tup l => .tup (l.map up1)
  | s => s
def frOf (kill : List Nat) (shI : Shape) (args : List SV) : Bool := kill.isEmpty && Nat.beq shI.nx 0 && args.all argNw
def upIf (b : Bool) (s : SV) : SV := match b with
  | true => upSV s
  | false => s
def reMine : Obj → Obj → Obj
  | .slc true _ _, .slc nw t xs => match t.heapy with
    | true => .slc nw t xs
    | false => .slc true t xs
  | _, x => x
def fixL (ob new : Nat → Obj) (σ : Nat → Nat) : Nat → List (Nat × Obj)
  | 0 => []
  | n + 1 => (σ n, reMine (ob (σ n)) (new (σ n))) :: fixL ob new σ n
def obsOf (ob : Nat → Obj) (σ : Nat → Nat) (nx : Nat) (l : List (Nat × Obj)) : List (Nat × Obj) := gonesOf σ nx ++ l ++ fixL ob (ups (fun _ => .gone) l) σ nx
def ctrOf {Y Z : Type} (shI shO : Shape) (ci : shI.D → Y) (uo : Z → shO.D) (F : Y → Option Z) : Ctr := fun args ob id0 =>
  match Nat.ble args.length shI.n, pickS false ob (fun k => args.getD k .dead) shI.sl ⟨[], [], []⟩ with
  | true, some (r1, f) => match pickB false ob shI.ob r1 with
    | some (R, g) => match rhoOk shI.nx R && boundOk ob R.ρ shI.nx && R.nt.isEmpty && okAll (laxOf R.kill shI) shO with
      | true => .bnd (F (ci (f _ (g [] ())))) fun z => .ret
          ⟨upIf (frOf R.kill shI args) (ups (fun _ => .dead) (mkS (sigOf id0 shI.nx R.ρ) shO.sl (holesB shO.ob []) (uo z)) (Nat.sub shO.n 1)),
           obsOf ob (sigOf id0 shI.nx R.ρ) shI.nx (mkB (sigOf id0 shI.nx R.ρ) shO.ob [] (restS shO.sl (holesB shO.ob []) (uo z)))⟩
      | false => .fail
    | none => .fail
  | _, _ => .fail
def shapesOk (shI shO : Shape) : Bool :=
  rangeAll (fun i => (shI.fix.any fun j => Nat.beq i j) && (shO.fix.any fun j => Nat.beq i j)) shI.nx && (shI.fix.all fun i => Nat.blt i shI.nx) &&
  Nat.ble shI.nx shO.nx && Nat.ble shO.nx (shI.nx + quota) && (!shO.may || shI.may) && (shO.ob.all fun x => Nat.blt x.1 shO.nx)
section
variable {c c' : Cx} {σ : Nat → Nat} {lax : Bool}
theorem ups_append {α : Type} (f : Nat → α) : ∀ (l m : List (Nat × α)), ups f (l ++ m) = ups (ups f l) m := by
  intro l
  induction l generalizing f with
  | nil => intro m; rfl
  | cons x l ih => intro m; obtain ⟨k, v⟩ := x; simp only [List.cons_append, ups, ih]
theorem mkS_ret (hL : Ret c c' σ lax) : ∀ (l : List (Nat × Tm)) (acc : List H) (d : Dl (holesS l acc)) (g g' : Nat → SV), (l.all fun x => okNw lax x.2) = true → ∀ k v, (SRepV c (g k) v → SRepV c' (g' k) v) →
    SRepV c (ups g (mkS id l acc d) k) v → SRepV c' (ups g' (mkS σ l acc d) k) v
  | [], acc, d, g, g', _, k, v, h, hv => h hv
  | (j, t) :: l, acc, d, g, g', ho, k, v, h, hv => by
    simp only [List.all_cons, Bool.and_eq_true] at ho
    simp only [mkS, ups] at hv ⊢
    refine mkS_ret hL l acc _ _ _ ho.2 k v (fun h1 => ?_) hv
    by_cases e : k = j
    · subst e
      rw [up_same] at h1 ⊢
      exact (ret_ok hL t ho.1).2.2 _ _ _ h1
    · rw [up_ne _ _ e] at h1 ⊢
      exact h h1
theorem up1_ok (hL : Ret c c' σ lax) (hF : ∀ b, c.F b → c'.Fn true b) (t : Tm) (ho : okNw lax t = true) (acc : List H) (d : Dl (holes t acc)) (v : Value) (h : SRepV c (mk id t acc d) v) : SRepV c' (up1 (mk σ t acc d)) v := by
  have h0 := (ret_ok hL t ho).2.2 acc d v h
  cases t with
  | dat nw t =>
    simp only [mk, up1] at h ⊢
    cases h with
    | one h =>
      cases h with
      | dat h => exact .one (.dat (by rw [hL.w]; exact h.mono (fun b hb => hF b hb.1) (fun _ _ => rfl)))
  | _ => simp only [mk, up1] at h0 ⊢; exact h0
theorem upL_ok (hL : Ret c c' σ lax) (hF : ∀ b, c.F b → c'.Fn true b) : ∀ (t : Tm), isL t = true → okNw lax t = true → ∀ (acc : List H) (d : Dl (holes t acc)) (vs : List Value), SReps c (aggL (mk id t acc d)) vs → SReps c' ((aggL (mk σ t acc d)).map up1) vs := by
  intro t
  induction t with
  | nil =>
    intro _ _ acc d vs h
    simp only [mk, aggL] at h ⊢
    cases h
    exact .nil
  | cons a b iha ihb =>
    intro hi ho acc d vs h
    simp only [okNw, Bool.and_eq_true] at ho
    obtain ⟨⟨o1, o2⟩, o3⟩ := ho
    simp only [mk, aggL] at h ⊢
    cases h with
    | cons h1 h2 => exact .cons (up1_ok hL hF a o2 _ _ _ h1) (ihb o1 o3 _ _ _ h2)
  | _ => intro hi; cases hi
theorem upSV_ok (hL : Ret c c' σ lax) (hF : ∀ b, c.F b → c'.Fn true b) (t : Tm) (ho : okNw lax t = true) (acc : List H) (d : Dl (holes t acc)) (v : Value) (h : SRepV c (mk id t acc d) v) : SRepV c' (upSV (mk σ t acc d)) v := by
  have h0 := (ret_ok hL t ho).2.2 acc d v h
  cases t with
  | dat nw t => exact up1_ok hL hF (.dat nw t) ho acc d v h
  | tup b =>
    simp only [okNw, Bool.and_eq_true] at ho
    simp only [mk, upSV] at h ⊢
    cases h with
    | tup h => exact .tup (upL_ok hL hF b ho.1 ho.2 _ _ _ h)
    | one h => cases h
  | _ => simp only [mk, upSV] at h0 ⊢; exact h0
theorem mkS_up (hL : Ret c c' σ lax) (hF : ∀ b, c.F b → c'.Fn true b) : ∀ (l : List (Nat × Tm)) (acc : List H) (d : Dl (holesS l acc)) (g g' : Nat → SV), (l.all fun x => okNw lax x.2) = true → ∀ k v, (SRepV c (g k) v → SRepV c' (upSV (g' k)) v) →
    SRepV c (ups g (mkS id l acc d) k) v → SRepV c' (upSV (ups g' (mkS σ l acc d) k)) v
  | [], acc, d, g, g', _, k, v, h, hv => h hv
  | (j, t) :: l, acc, d, g, g', ho, k, v, h, hv => by
    simp only [List.all_cons, Bool.and_eq_true] at ho
    simp only [mkS, ups] at hv ⊢
    refine mkS_up hL hF l acc _ _ _ ho.2 k v (fun h1 => ?_) hv
    by_cases e : k = j
    · subst e
      rw [up_same] at h1 ⊢
      exact upSV_ok hL hF t ho.1 _ _ _ h1
    · rw [up_ne _ _ e] at h1 ⊢
      exact h h1
def Pict (σ : Nat → Nat) (l : List (Nat × OT)) (k : Nat) (x y : Obj) : Prop := (x = .gone ∧ y = .gone) ∨ ∃ o acc, ∃ d : Dl (holesO o acc), (k, o) ∈ l ∧ x = mkO id o acc d ∧ y = mkO σ o acc d
theorem mkB_pict {L : List (Nat × OT)} : ∀ (l : List (Nat × OT)) (acc : List H) (d : Dl (holesB l acc)) (g g' : Nat → Obj) (k : Nat), (∀ x ∈ l, x ∈ L) → (∀ x ∈ l, σ x.1 = σ k → x.1 = k) → Pict σ L k (g k) (g' (σ k)) →
    Pict σ L k (ups g (mkB id l acc d) k) (ups g' (mkB σ l acc d) (σ k))
  | [], acc, d, g, g', k, _, _, h => h
  | (j, o) :: l, acc, d, g, g', k, hm, hi, h => by
    simp only [mkB, ups]
    refine mkB_pict l acc _ _ _ k (fun x hx => hm x (by simp [hx])) (fun x hx => hi x (by simp [hx])) ?_
    by_cases e : k = j
    · subst e
      rw [show up g (id k) _ k = _ from up_same _ _ _, up_same]
      exact .inr ⟨o, _, _, hm _ (by simp), rfl, rfl⟩
    · rw [up_ne g _ (show k ≠ id j from e), up_ne g' _ (fun e2 => e (hi (j, o) (by simp) e2.symm).symm)]
      exact h
theorem mkB_none : ∀ (l : List (Nat × OT)) (acc : List H) (d : Dl (holesB l acc)) (g' : Nat → Obj) (y : Nat), (∀ x ∈ l, σ x.1 ≠ y) → ups g' (mkB σ l acc d) y = g' y
  | [], acc, d, g', y, _ => rfl
  | (j, o) :: l, acc, d, g', y, h => by
    simp only [mkB, ups]
    rw [mkB_none l acc _ _ y (fun x hx => h x (by simp [hx])), up_ne _ _ (fun e => h (j, o) (by simp) e.symm)]
theorem gones_at (ob : Nat → Obj) : ∀ (n y : Nat), (∃ i, i < n ∧ σ i = y) → ups ob (gonesOf σ n) y = .gone := by
  intro n
  have key : ∀ (n : Nat) (f : Nat → Obj) (y : Nat), f y = .gone → ups f (gonesOf σ n) y = .gone := by
    intro n
    induction n with
    | zero => intro f y h; exact h
    | succ n ih =>
      intro f y h
      simp only [gonesOf, ups]
      apply ih
      by_cases e : y = σ n
      · rw [e, up_same]
      · rw [up_ne _ _ e]; exact h
  induction n generalizing ob with
  | zero => rintro y ⟨i, hi, _⟩; omega
  | succ n ih =>
    rintro y ⟨i, hi, rfl⟩
    simp only [gonesOf, ups]
    by_cases e : i = n
    · subst e
      apply key
      rw [up_same]
    · exact ih _ _ ⟨i, by omega, rfl⟩
theorem gones_none (ob : Nat → Obj) : ∀ (n y : Nat), (∀ i, i < n → σ i ≠ y) → ups ob (gonesOf σ n) y = ob y := by
  intro n
  induction n generalizing ob with
  | zero => intro y _; rfl
  | succ n ih =>
    intro y h
    simp only [gonesOf, ups]
    rw [ih _ y (fun i hi => h i (by omega)), up_ne _ _ (fun e => h n (by omega) e.symm)]
end
end Go.Sx
