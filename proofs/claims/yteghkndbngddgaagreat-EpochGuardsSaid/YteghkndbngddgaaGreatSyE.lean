/- The symbolic executor's meaning: functions. -/
import Derived.Test.YteghkndbngddgaaGreatSyD
set_option linter.unusedVariables false
namespace Go.Sx
open Go.RowKit
def resS (E : Env) (s : St) : List ResultVar → Option (List SV)
  | [] => some []
  | .tmp t :: l => match resS E s l with
    | some r => some (s.sl t :: r)
    | none => none
  | .cell a t :: l => match E.tf t with
    | some ty => match (loadS s.ob ty (s.sl a)).val, resS E s l with
      | some v, some r => some (v :: r)
      | _, _ => none
    | none => none
def resV : List SV → SV
  | [v] => v
  | l => .tup l
def kontF {Z : Type} (E : Env) (rs : List ResultVar) (shO : Shape) (co : shO.D → Z) : Ex → St → Option Z
  | .exit _, _ => none
  | _, s => match resS E s rs with
    | some l => match shO.pick true { s with n := s.n + 1, sl := up s.sl s.n (resV l) } with
      | some d => some (co d)
      | none => none
    | none => none
section
variable {c : Cx} {s : St} {w0 : World} {Jo : Io} {a : Act} {P : Program} {E : Env}
def rdRes (tmps : Array Value) : ResultVar → Sem Value
  | .tmp t => pure (tmps.getD t undef)
  | .cell a t => do loadVar t (← asAddr (tmps.getD a undef))
theorem load_addr {t : TypeId} {v x : Value} {w w' : World} (h : (Instr.loadAt t v).run P w = .ok x w') : (do loadVar t (← asAddr v) : Sem Value).run P w = .ok x w' := by
  unfold Instr.loadAt at h
  cases v with
  | pointer p =>
    cases p with
    | none => simp [Instr.sureAddr] at h
    | some a => simpa [Instr.sureAddr, asAddr] using h
  | _ => simp [Instr.sureAddr] at h
theorem resS_ok (hE : EnvOk P E) (h : RelC c s.n s.sl w0 Jo a) (hob : c.ob = s.ob) : ∀ (rs : List ResultVar) (l : List SV), resS E s rs = some l → ∃ vs : List Value, (rs.mapM (rdRes a.tmps)).run P c.w = .ok vs c.w ∧ SReps c l vs
  | [], l, hl => by
    simp only [resS] at hl
    cases hl
    exact ⟨[], by simp, .nil⟩
  | .tmp t :: rs, l, hl => by
    simp only [resS] at hl
    split at hl
    · rename_i r hr
      cases hl
      obtain ⟨vs, k1, k2⟩ := resS_ok hE h hob rs r hr
      exact ⟨_ :: vs, by simp only [List.mapM_cons, rdRes, Sem.run_bind, Sem.run_pure, Result.andThen_ok, k1], .cons (h.slots t) k2⟩
    · cases hl
  | .cell b t :: rs, l, hl => by
    simp only [resS] at hl
    split at hl
    · rename_i ty ht
      split at hl
      · rename_i v r hv hr
        cases hl
        obtain ⟨vs, k1, k2⟩ := resS_ok hE h hob rs r hr
        obtain ⟨x, k3, k4⟩ := loadS_ok hE.ty h.objs ht (h.slots b) (by rw [hob]; exact hv)
        have k5 := load_addr k3
        simp only [Sem.run_bind] at k5
        exact ⟨x :: vs, by simp only [List.mapM_cons, rdRes, Sem.run_bind, k5, Sem.run_pure, Result.andThen_ok, k1], .cons k4 k2⟩
      · cases hl
    · cases hl
theorem results_ok (hE : EnvOk P E) (h : RelC c s.n s.sl w0 Jo a) (hob : c.ob = s.ob) {fn : Func} {l : List SV} (hl : resS E s fn.results.toList = some l) : ∃ v, (results fn a.tmps).run P c.w = .ok v c.w ∧ SRepV c (resV l) v := by
  obtain ⟨vs, k1, k2⟩ := resS_ok hE h hob _ _ hl
  have hr : results fn a.tmps = (do let vs ← fn.results.mapM (rdRes a.tmps); pure (if h : vs.size = 1 then vs[0] else .tuple vs)) := by
    unfold results
    congr 1
  refine ⟨if h : vs.toArray.size = 1 then vs.toArray[0] else .tuple vs.toArray, ?_, ?_⟩
  · rw [hr, Array.mapM_eq_mapM_toList]
    simp only [Sem.run_bind, k1, Result.andThen_ok, Sem.run_pure, map_eq_pure_bind]
  · cases k2 with
    | nil => exact .tup .nil
    | cons h1 h2 =>
      cases h2 with
      | nil => exact h1
      | cons h2 h3 =>
        rw [dif_neg (by simp)]
        exact .tup (.cons h1 (.cons h2 h3))
theorem RelC.push (h : RelC c s.n s.sl w0 Jo a) {sv : SV} {v : Value} (hv : SRepV c sv v) : RelC c (s.n + 1) (up s.sl s.n sv) w0 Jo { a with tmps := a.tmps.push v } :=
  { h with
    defers := h.defers
    size := by simp [h.size]
    slots := fun k => by
      have hsz := h.size
      simp only [Array.getD_eq_getD_getElem?, Array.getElem?_push, hsz]
      by_cases e : k = s.n
      · subst e; rw [up_same, if_pos rfl]; exact hv
      · rw [up_ne _ _ e, if_neg e, ← Array.getD_eq_getD_getElem?]; exact h.slots k }
theorem fn_ok {H : Nat → Option Sum} (hE : EnvOk P E) (hM : P.follows .mixedOrders = true) {f : FuncId} {fn : Func} {code : Code} (hf : P.funcs[f]? = some fn) (hb : fn.body = some code) {shO : Shape} {Z : Type} {co : shO.D → Z} {uo : Z → shO.D} (hco : ∀ d, uo (co d) = d)
    (hfix : ∀ i b, Jo.fix i = some b → i ∈ shO.fix) (hmay : shO.may = true → Jo.may) (hL : LoopsOk P w0 Jo H code) {args : Array Value} {z : Z} (h : RelS c s w0 Jo { tmps := args ++ Array.replicate (fn.ntmps - args.size) undef, defers := [] })
    (hx : exec E H code s (kontF E fn.results.toList shO co) = some z) :
    Calls P f args c.w fun e w' => ∃ c' a' v, e = .returned v ∧ w' = c'.w ∧ RelS c' (shO.mk' (uo z)) w0 Jo a' ∧ a'.tmps.getD (shO.n - 1) undef = v := by
  refine calls_of_wp hf hb ?_
  have fin : ∀ (s' : St) (a' : Act) (c' : Cx), RelS c' s' w0 Jo a' → (match resS E s' fn.results.toList with
      | some l => match shO.pick true { s' with n := s'.n + 1, sl := up s'.sl s'.n (resV l) } with
        | some d => some (co d)
        | none => none
      | none => none) = some z → a'.defers = [] ∧ ∃ v, (results fn a'.tmps).run P c'.w = .ok v c'.w ∧ ∃ c'' a'' v', Ending.returned v = .returned v' ∧ c'.w = c''.w ∧ RelS c'' (shO.mk' (uo z)) w0 Jo a'' ∧ a''.tmps.getD (shO.n - 1) undef = v' := by
    intro s' a' c' hr hk
    refine ⟨hr.rel.defers, ?_⟩
    split at hk
    · rename_i l hl
      split at hk
      · rename_i d hd
        cases hk
        obtain ⟨v, k1, k2⟩ := results_ok hE hr.rel hr.ob hl
        obtain ⟨c'', hw, h2⟩ := pick_ok (s := { s' with n := s'.n + 1, sl := up s'.sl s'.n (resV l) }) ⟨hr.rel.push k2, hr.ob, hr.fresh⟩ hd hfix hmay
        refine ⟨v, k1, c'', _, v, rfl, hw.symm, by rw [hco]; exact h2, ?_⟩
        have hn := (pick_parts hd).1
        simp only at hn
        rw [hn, Array.getD_eq_getD_getElem?, Array.getElem?_push, hr.rel.size]
        simp
      · cases hk
    · cases hk
  refine exec_ok hE hM code c s _ _ _ hL h hx (fun e s' a' c' hr hk => ?_)
  cases e with
  | exit i => cases hk
  | normal => exact fin s' a' c' hr hk
  | ret => exact fin s' a' c' hr hk
end
end Go.Sx
