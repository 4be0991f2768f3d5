/- The given statement EpochGuards is proved: for every input the law returns true. Conditions: none but the row's own. -/
import Derived.Test.YteghkndbngddgaaGreatRows
import Derived.Test.YteghkndbngddgaaGreatSyM
import Derived.Test.YteghkndbngddgaaGreatRow9J1
import Derived.Test.YteghkndbngddgaaGreatRow9J2
import Derived.Test.YteghkndbngddgaaGreatRow9J3
import Derived.Test.YteghkndbngddgaaGreatRow9J4
import Derived.Test.YteghkndbngddgaaGreatE10
import Derived.WalkKit
import Derived.ProofKit
import Derived.OpenShut
import Derived.ShutString
import Derived.ChangeOld
import Derived.Below
import Derived.SizedLaws
import Derived.Carry
set_option linter.unusedVariables false
namespace Go.Proofs.YteghkndbngddgaaGreat
open Go.ChangeShapes Go.WideShapes Go.ChangeAt Go.RowKit Go.Sx
theorem EpochGuards_own : ownKnob Tryz.prog.godebug = none := by kernel_rfl
theorem EpochGuards_laid : laidOutB Tryz.prog = true := EpochGuards_j1
theorem EpochGuards_val (x0 : Val (.int .i64)) (x1 : Val (.slice TReq)) : @Eq (Option CallRes) (Sx.qf94ct [.dat false (.int .i64) x0, .dat false (.slice TReq) x1] (fun _ => .gone) 0).val ((Sx.qf94 x0 x1).bind fun z => some ⟨.dat true .bool z, []⟩) := by kernel_rfl
set_option maxRecDepth 100000 in
theorem EpochGuards_lifted (os : Os) (started : os.Started) (H : Type) (enc : TypeId × Value → H) :
    ReturnsInHanded {} Tryz.checked os 9 .any (Rows.epochGuardsSpec.pre6 enc Tryz.prog Tryz.f9 Rows.epochGuardsRow.domain false) (Rows.epochGuardsSpec.post enc Tryz.prog Tryz.f9 false true false false) := by
  refine returnsInHanded_of_change_sized (C := Tryz.checked) EpochGuards_own started (by kernel_rfl) Tryz.func9
    (ChangeSpec.witness6 (enc := enc) (C := Tryz.checked) false ⟨#[], #[.int .i64 0, .slice none 0 0], []⟩ 8 (by kernel_rfl) (by kernel_rfl) (by kernel_rfl) (by kernel_rfl)) ?_
  intro W base args ds gs before hval0 hW hcnd hsz0 _
  have hval : ∀ (j : Nat) t v, Tryz.f9.params[j]? = some t → args[j]? = some v → Value.okWide Tryz.prog W .any base t v := hval0
  have hW' := hW
  obtain ⟨p, q, hA0, hV, rfl, hfz, hnd⟩ := hW
  have hA : DataW.TrodAll enc Tryz.prog W 0 (fun _ => true) true Tryz.f9.params.toList args.toList ds p := hA0
  rw [Tryz.params9] at hA hval
  obtain ⟨v0, vs0, d0, ds0, p0, q0, hargs, rfl, rfl, h0, r0⟩ := trodAll_cons hA
  obtain ⟨v1, vs1, d1, ds1, p1, q1, rfl, rfl, rfl, h1, r1⟩ := trodAll_cons r0
  obtain ⟨rfl, rfl, rfl⟩ := trodAll_nil r1
  obtain rfl : args = #[v0, v1] := by cases args; simp_all
  obtain ⟨rfl, rfl⟩ := trodVars_none hV
  have k0 := h0
  have lt0 : ∀ x ∈ p0, x.block < W.heap.size := by obtain ⟨m, hm⟩ := k0; exact DataW.trod_lt m _ _ _ hm
  obtain ⟨x0, w0, e0, u0⟩ := Sx.arg_rep Sx.tyE (t := 3) (ty := (.int .i64)) (by kernel_rfl) (by kernel_rfl) (hval 0 3 v0 rfl rfl) h0
  have k1 := h1
  have lt1 : ∀ x ∈ p1, x.block < W.heap.size := by obtain ⟨m, hm⟩ := k1; exact DataW.trod_lt m _ _ _ hm
  obtain ⟨x1, w1, e1, u1⟩ := Sx.arg_rep Sx.tyE (t := 112) (ty := (.slice TReq)) (by kernel_rfl) (by kernel_rfl) (hval 1 112 v1 rfl rfl) h1
  have hP := epochGuards_pure x0 x1 w0 w1
  refine Calls.mono (Sx.law_calls Sx.qf94_ctr (args := [.dat false (.int .i64) x0, .dat false (.slice TReq) x1]) (vs := [v0, v1]) (.cons (Sx.top_arg e0 u0) (.cons (Sx.top_arg e1 u1) .nil)) (by rw [EpochGuards_val, hP]; rfl)) ?_
  rintro e W' ⟨he, bel⟩
  subst he
  exact ⟨_, rfl, _, _, _, [], _, [], hW', trodAll_mk1 (shut_bool Tryz.underlying4 _), (trodAll_cons_mk (Below.trod EpochGuards_laid (by kernel_rfl) (of_decide_eq_true (by kernel_rfl)) k0 bel lt0) (trodAll_cons_mk (Below.trod EpochGuards_laid (by kernel_rfl) (of_decide_eq_true (by kernel_rfl)) k1 bel lt1) trodAll_mk0)), rfl, bel.frame _, fun h => by cases h⟩
theorem and_mk {a b : Bool} (h : a = true) (k : b = true) : (a && b) = true := by rw [h, k]; rfl
set_option maxRecDepth 100000 in
theorem EpochGuards_closed : joinedFacts Tryz.prog 9 Tryz.f9 Rows.epochGuardsSpec Rows.epochGuardsRow = true := and_mk (and_mk (and_mk (and_mk (and_mk (and_mk (and_mk (and_mk (and_mk (and_mk (and_mk (and_mk (and_mk (and_mk (and_mk (and_mk (and_mk (and_mk (and_mk (and_mk (and_mk (and_mk (and_mk (and_mk (and_mk (and_mk (and_mk (and_mk (and_mk (and_mk (and_mk (EpochGuards_j0) EpochGuards_j1) EpochGuards_j2) EpochGuards_j3) EpochGuards_j4) EpochGuards_j5) EpochGuards_j6) EpochGuards_j7) EpochGuards_j8) EpochGuards_j9) EpochGuards_j10) EpochGuards_j11) EpochGuards_j12) EpochGuards_j13) EpochGuards_j14) EpochGuards_j15) EpochGuards_j16) EpochGuards_j17) EpochGuards_j18) EpochGuards_j19) EpochGuards_j20) EpochGuards_j21) EpochGuards_j22) EpochGuards_j23) EpochGuards_j24) EpochGuards_j25) EpochGuards_j26) EpochGuards_j27) EpochGuards_j28) EpochGuards_j29) EpochGuards_j30) EpochGuards_j31
theorem EpochGuards_fn : Tryz.prog.funcNamed Rows.epochGuardsRow.func = some 9 := by kernel_rfl
theorem EpochGuards_inst : Tryz.f9.isInstance Tryz.prog Rows.epochGuardsRow.origin Rows.epochGuardsRow.targs := of_decide_eq_true (by kernel_rfl)
theorem EpochGuards_wrap : Tryz.f9.isWrapper Tryz.prog Rows.epochGuardsRow.wrapper Rows.epochGuardsRow.mainSum := by unfold Func.isWrapper; first | (rw [if_pos (by decide +kernel)]; kernel_rfl) | (rw [if_neg (by decide +kernel)]; exact ⟨rfl, rfl⟩)
theorem epochGuards_holds : Rows.EpochGuardsSaid :=
  OpenClaim.holds_of_wide 9 Tryz.f9 rfl rfl rfl rfl rfl rfl rfl ⟨rfl, rfl, rfl, rfl, rfl⟩ rfl rfl rfl rfl rfl EpochGuards_fn Tryz.func9 EpochGuards_closed EpochGuards_inst EpochGuards_wrap
    (fun os started H enc _ => EpochGuards_lifted os started H enc)
#print axioms epochGuards_holds
end Go.Proofs.YteghkndbngddgaaGreat
