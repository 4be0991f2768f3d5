/- The symbolic executor's meaning: one operation. -/
import Derived.Test.YteghkndbngddgaaGreatSxR
import Derived.Test.YteghkndbngddgaaGreatSxK
import Derived.Test.YteghkndbngddgaaGreatSxP
set_option linter.unusedVariables false
namespace Go.Sx
open Go.RowKit
structure CtrOk (P : Program) (f : FuncId) (ct : Ctr) : Prop where
  enters : ∀ args w, (callFunc f args).run P w = .ok (.enter f args) w
  call : ∀ (c : Cx) (n : Nat) (sl : Nat → SV) (w0 : World) (Jo : Io) (a : Act), RelC c n sl w0 Jo a → ∀ (args : List SV) (vs : List Value), SReps c args vs →
    ∀ id0, (∀ i, id0 ≤ i → i < id0 + quota → ¬ c.A i) → ∀ r, (ct args c.ob id0).val = some r →
    Calls P f vs.toArray c.w fun e w' => ∃ c' v, e = .returned v ∧ w' = c'.w ∧ RelC c' n sl w0 Jo a ∧ c'.ob = ups c.ob r.ob ∧ SRepV c' r.res v ∧
      ∀ i, c'.A i → c.A i ∨ (id0 ≤ i ∧ i < id0 + quota)
  mono : ∀ args (f g : Nat → Obj) id0 r, (∀ i, f i = .gone ∨ g i = f i) → (ct args f id0).val = some r → (ct args g id0).val = some r
def MtOk (P : Program) (tf : Nat → Option Ty) (t : Nat) (k : IntKind) (e : Nat) (ty : Ty) : Prop := (∃ kt, P.underlying t = some (.map kt e) ∧ P.underlying kt = some (.int k)) ∧ tf e = some ty
structure EnvOk (P : Program) (E : Env) : Prop where
  ty : ∀ t ty, E.tf t = some ty → TyOk P E.tf t ty
  fn : ∀ f ct, E.fn f = some ct → CtrOk P f ct
  mt : ∀ t k e ty, E.mt t = some (k, e, ty) → MtOk P E.tf t k e ty
section
variable {c : Cx} {s : St} {w0 : World} {Jo : Io} {a : Act} {P : Program} {tf : Nat → Option Ty}
theorem guard_not {op : BinOp} {t : TypeId} {x y : Operand} {v u : Value} (h : op ≠ .eql ∧ op ≠ .neq) : (eqGuard op t x y v u).run P c.w = .ok () c.w := by
  cases op <;> first | (simp at h; done) | rfl
theorem guard_int {op : BinOp} {t : TypeId} {x y : Operand} {k : IntKind} {n : Int} {u : Value} : (eqGuard op t x y (.int k n) u).run P c.w = .ok () c.w := by
  cases op <;> rfl
theorem guard_bool {op : BinOp} {t : TypeId} {x y : Operand} {b : Bool} {u : Value} : (eqGuard op t x y (.bool b) u).run P c.w = .ok () c.w := by
  cases op <;> rfl
theorem cmp_agg (hE : ∀ t ty, tf t = some ty → TyOk P tf t ty) {op : BinOp} {t : TypeId} {ty : Ty} (ht : tf t = some ty) (ha : ty.isAgg = true) {x y : Operand} {F G : Nat → Prop} {v w : Val ty} {cs ds : List Value}
    (hv : Rep c.w F ty v cs) (hw : Rep c.w G ty w ds) {r : SV} (hs : (cmpS op ty v w).val = some r) :
    ∃ v', (do eqGuard op t x y (pack ty cs) (pack ty ds); binOp op t (pack ty cs) (pack ty ds) : Sem Value).run P c.w = .ok v' c.w ∧ SRepV c r v' := by
  unfold cmpS at hs
  split at hs
  · rename_i hq
    simp only [Bool.and_eq_true] at hq
    obtain ⟨h1, h2⟩ := hq
    have h2 := Nat.le_of_ble_eq_true h2
    have ho := hE _ _ ht
    have hg : ∀ op, (eqGuard op t x y (.agg cs.toArray) (.agg ds.toArray)).run P c.w = .ok () c.w := fun op => run_eqGuard_agg c.w op t x y _ _ (ho.eqs ha).2
    have he := (eq_all hE ty).1 h1 Op.maxDepth t ho (by simp only [Op.maxDepth]; omega) v w cs ds hv hw
    rw [pack_agg ha, pack_agg ha] at he ⊢
    cases op <;> simp only [PR.val] at hs <;> first
      | (cases hs; done)
      | (cases hs; exact ⟨_, by simp [binOp, Op.equal, hg, he], .mkBool⟩)
  · cases hs
theorem binS_ok (hE : ∀ t ty, tf t = some ty → TyOk P tf t ty) {op : BinOp} {t : TypeId} {ty : Ty} (ht : tf t = some ty) {x y : Operand} {sx sy r : SV} {vx vy : Value} (hx : SRepV c sx vx) (hy : SRepV c sy vy)
    (hs : (binS op ty sx sy).val = some r) : ∃ v', (do eqGuard op t x y vx vy; binOp op t vx vy : Sem Value).run P c.w = .ok v' c.w ∧ SRepV c r v' := by
  unfold binS at hs
  split at hs
  · rename_i nw k m nw' j n
    obtain ⟨rfl, hm⟩ := hx.int
    obtain ⟨rfl, hn⟩ := hy.int
    simp only [Sem.run_bind, guard_int, Result.andThen_ok]
    split at hs
    · obtain ⟨hb, hs⟩ := chk_some (p := .ret _) hs
      have hb : (0 : Int) ≤ n := of_decide_eq_true hb
      cases hs
      refine ⟨_, ?_, .mkInt (wrap_range k _)⟩
      simp only [binOp, Op.shift, shiftL]
      rw [if_neg (by omega)]
      rfl
    · obtain ⟨hb, hs⟩ := chk_some (p := .ret _) hs
      have hb : (0 : Int) ≤ n := of_decide_eq_true hb
      cases hs
      refine ⟨_, ?_, .mkInt (shiftR_range k hm)⟩
      simp only [binOp, Op.shift, shiftR]
      rw [if_neg (by omega)]
      rfl
    · rename_i h1 h2
      split at hs
      · rename_i e
        have e := ikEq_eq e
        subst e
        exact arith_ok hm ⟨h1, h2⟩ hs
      · cases hs
  · rename_i nw b nw' d
    have e1 := hx.bool
    have e2 := hy.bool
    subst e1 e2
    simp only [Sem.run_bind, guard_bool, Result.andThen_ok]
    split at hs
    · unfold cmpS at hs
      split at hs
      · cases op <;> simp only [PR.val] at hs <;> first
          | (cases hs; done)
          | (cases hs
             have he := (eq_all (w := c.w) (F := fun _ => True) (G := fun _ => True) hE .bool).1 rfl Op.maxDepth t (hE _ _ ht) (by decide) b d [.bool b] [.bool d] rfl rfl
             simp only [pack, Ty.isAgg, List.headD_cons] at he
             exact ⟨_, by simp [binOp, Op.equal, he], .mkBool⟩)
      · cases hs
    · cases hs
  · rename_i nw a' b' v nw' u w
    split at hs
    · rename_i w' e1 e2
      have e2 := tyEq_eq e2
      subst e2
      obtain ⟨cs, rfl, hr⟩ := dat_inv hx
      obtain ⟨e3, e4⟩ := castV_eq e1
      subst e3
      simp at e4; subst e4
      obtain ⟨ds, rfl, hq⟩ := dat_inv hy
      exact cmp_agg hE ht rfl hr hq hs
    · cases hs
  · rename_i nw n' t' v nw' u w
    split at hs
    · rename_i w' e1 e2
      have e2 := tyEq_eq e2
      subst e2
      obtain ⟨cs, rfl, hr⟩ := dat_inv hx
      obtain ⟨e3, e4⟩ := castV_eq e1
      subst e3
      simp at e4; subst e4
      obtain ⟨ds, rfl, hq⟩ := dat_inv hy
      exact cmp_agg hE ht rfl hr hq hs
    · cases hs
  · cases hs
theorem unS_ok {op : UnOp} {sx r : SV} {vx : Value} (hx : SRepV c sx vx) (hs : (unS op sx).val = some r) : ∃ v', (Op.unary op vx).run P c.w = .ok v' c.w ∧ SRepV c r v' := by
  unfold unS at hs
  split at hs
  · have e1 := hx.bool
    subst e1
    split at hs
    · cases hs; exact ⟨_, rfl, .mkBool⟩
    · cases hs
  · rename_i nw k n
    obtain ⟨rfl, hm⟩ := hx.int
    split at hs
    · cases hs; exact ⟨_, rfl, .mkInt (wrap_range k _)⟩
    · cases hs
  · cases hs
theorem convS_ok {E : Env} (hE : ∀ t ty, E.tf t = some ty → TyOk P E.tf t ty) {src dst : Nat} {sx r : SV} {vx : Value} (hx : SRepV c sx vx) (hs : (convS E src dst sx).val = some r) :
    ∃ v', (convert src dst vx).run P c.w = .ok v' c.w ∧ SRepV c r v' := by
  unfold convS at hs
  split at hs
  · rename_i nw k n
    obtain ⟨rfl, hm⟩ := hx.int
    split at hs
    · rename_i ty j h1 h2
      cases hs
      obtain ⟨d, hd, _⟩ := (hE _ _ h1).und
      refine ⟨_, ?_, .mkInt (wrap_range j _)⟩
      simp [convert, run_underlying hd, run_underlying (hE _ _ h2).und_int, Conv.intToInt]
    · cases hs
  · cases hs
end
end Go.Sx
