/- The given statement EpochFrees is proved: for every input the law returns true. Conditions: none but the row's own. -/
import Derived.Test.YteghkndbngddgaaGreatRows
import Derived.Test.YteghkndbngddgaaGreatSyM
import Derived.Test.YteghkndbngddgaaGreatRow8J1
import Derived.Test.YteghkndbngddgaaGreatRow8J2
import Derived.Test.YteghkndbngddgaaGreatRow8J3
import Derived.Test.YteghkndbngddgaaGreatRow8J4
import Derived.Test.YteghkndbngddgaaGreatE9
import Derived.WalkKit
import Derived.ProofKit
import Derived.OpenShut
import Derived.ShutString
import Derived.ChangeOld
import Derived.Below
import Derived.SizedLaws
import Derived.Carry
set_option linter.unusedVariables false
namespace Go.Proofs.YteghkndbngddgaaGreat
open Go.ChangeShapes Go.WideShapes Go.ChangeAt Go.RowKit Go.Sx
theorem EpochFrees_own : ownKnob Tryz.prog.godebug = none := by kernel_rfl
theorem EpochFrees_laid : laidOutB Tryz.prog = true := EpochFrees_j1
theorem EpochFrees_val (x0 : Val (.int .i64)) (x1 : Val (.slice TReq)) : @Eq (Option CallRes) (Sx.qf92ct [.dat false (.int .i64) x0, .dat false (.slice TReq) x1] (fun _ => .gone) 0).val ((Sx.qf92 x0 x1).bind fun z => some ⟨.dat true .bool z, []⟩) := by kernel_rfl
set_option maxRecDepth 100000 in
theorem EpochFrees_lifted (os : Os) (started : os.Started) (H : Type) (enc : TypeId × Value → H) :
    ReturnsInHanded {} Tryz.checked os 8 .any (Rows.epochFreesSpec.pre6 enc Tryz.prog Tryz.f8 Rows.epochFreesRow.domain false) (Rows.epochFreesSpec.post enc Tryz.prog Tryz.f8 false true false false) := by
  refine returnsInHanded_of_change_sized (C := Tryz.checked) EpochFrees_own started (by kernel_rfl) Tryz.func8
    (ChangeSpec.witness6 (enc := enc) (C := Tryz.checked) false ⟨#[], #[.int .i64 0, .slice none 0 0], []⟩ 8 (by kernel_rfl) (by kernel_rfl) (by kernel_rfl) (by kernel_rfl)) ?_
  intro W base args ds gs before hval0 hW hcnd hsz0 _
  have hval : ∀ (j : Nat) t v, Tryz.f8.params[j]? = some t → args[j]? = some v → Value.okWide Tryz.prog W .any base t v := hval0
  have hW' := hW
  obtain ⟨p, q, hA0, hV, rfl, hfz, hnd⟩ := hW
  have hA : DataW.TrodAll enc Tryz.prog W 0 (fun _ => true) true Tryz.f8.params.toList args.toList ds p := hA0
  rw [Tryz.params8] at hA hval
  obtain ⟨v0, vs0, d0, ds0, p0, q0, hargs, rfl, rfl, h0, r0⟩ := trodAll_cons hA
  obtain ⟨v1, vs1, d1, ds1, p1, q1, rfl, rfl, rfl, h1, r1⟩ := trodAll_cons r0
  obtain ⟨rfl, rfl, rfl⟩ := trodAll_nil r1
  obtain rfl : args = #[v0, v1] := by cases args; simp_all
  obtain ⟨rfl, rfl⟩ := trodVars_none hV
  have k0 := h0
  have lt0 : ∀ x ∈ p0, x.block < W.heap.size := by obtain ⟨m, hm⟩ := k0; exact DataW.trod_lt m _ _ _ hm
  obtain ⟨x0, w0, e0, u0⟩ := Sx.arg_rep Sx.tyE (t := 3) (ty := (.int .i64)) (by kernel_rfl) (by kernel_rfl) (hval 0 3 v0 rfl rfl) h0
  have k1 := h1
  have lt1 : ∀ x ∈ p1, x.block < W.heap.size := by obtain ⟨m, hm⟩ := k1; exact DataW.trod_lt m _ _ _ hm
  obtain ⟨x1, w1, e1, u1⟩ := Sx.arg_rep Sx.tyE (t := 112) (ty := (.slice TReq)) (by kernel_rfl) (by kernel_rfl) (hval 1 112 v1 rfl rfl) h1
  have hP := epochFrees_pure x0 x1 w0 w1
  refine Calls.mono (Sx.law_calls Sx.qf92_ctr (args := [.dat false (.int .i64) x0, .dat false (.slice TReq) x1]) (vs := [v0, v1]) (.cons (Sx.top_arg e0 u0) (.cons (Sx.top_arg e1 u1) .nil)) (by rw [EpochFrees_val, hP]; rfl)) ?_
  rintro e W' ⟨he, bel⟩
  subst he
  exact ⟨_, rfl, _, _, _, [], _, [], hW', trodAll_mk1 (shut_bool Tryz.underlying4 _), (trodAll_cons_mk (Below.trod EpochFrees_laid (by kernel_rfl) (of_decide_eq_true (by kernel_rfl)) k0 bel lt0) (trodAll_cons_mk (Below.trod EpochFrees_laid (by kernel_rfl) (of_decide_eq_true (by kernel_rfl)) k1 bel lt1) trodAll_mk0)), rfl, bel.frame _, fun h => by cases h⟩
theorem and_mk {a b : Bool} (h : a = true) (k : b = true) : (a && b) = true := by rw [h, k]; rfl
set_option maxRecDepth 100000 in
theorem EpochFrees_closed : joinedFacts Tryz.prog 8 Tryz.f8 Rows.epochFreesSpec Rows.epochFreesRow = true := and_mk (and_mk (and_mk (and_mk (and_mk (and_mk (and_mk (and_mk (and_mk (and_mk (and_mk (and_mk (and_mk (and_mk (and_mk (and_mk (and_mk (and_mk (and_mk (and_mk (and_mk (and_mk (and_mk (and_mk (and_mk (and_mk (and_mk (and_mk (and_mk (and_mk (and_mk (EpochFrees_j0) EpochFrees_j1) EpochFrees_j2) EpochFrees_j3) EpochFrees_j4) EpochFrees_j5) EpochFrees_j6) EpochFrees_j7) EpochFrees_j8) EpochFrees_j9) EpochFrees_j10) EpochFrees_j11) EpochFrees_j12) EpochFrees_j13) EpochFrees_j14) EpochFrees_j15) EpochFrees_j16) EpochFrees_j17) EpochFrees_j18) EpochFrees_j19) EpochFrees_j20) EpochFrees_j21) EpochFrees_j22) EpochFrees_j23) EpochFrees_j24) EpochFrees_j25) EpochFrees_j26) EpochFrees_j27) EpochFrees_j28) EpochFrees_j29) EpochFrees_j30) EpochFrees_j31
theorem EpochFrees_fn : Tryz.prog.funcNamed Rows.epochFreesRow.func = some 8 := by kernel_rfl
theorem EpochFrees_inst : Tryz.f8.isInstance Tryz.prog Rows.epochFreesRow.origin Rows.epochFreesRow.targs := of_decide_eq_true (by kernel_rfl)
theorem EpochFrees_wrap : Tryz.f8.isWrapper Tryz.prog Rows.epochFreesRow.wrapper Rows.epochFreesRow.mainSum := by unfold Func.isWrapper; first | (rw [if_pos (by decide +kernel)]; kernel_rfl) | (rw [if_neg (by decide +kernel)]; exact ⟨rfl, rfl⟩)
theorem epochFrees_holds : Rows.EpochFreesSaid :=
  OpenClaim.holds_of_wide 8 Tryz.f8 rfl rfl rfl rfl rfl rfl rfl ⟨rfl, rfl, rfl, rfl, rfl⟩ rfl rfl rfl rfl rfl EpochFrees_fn Tryz.func8 EpochFrees_closed EpochFrees_inst EpochFrees_wrap
    (fun os started H enc _ => EpochFrees_lifted os started H enc)
#print axioms epochFrees_holds
end Go.Proofs.YteghkndbngddgaaGreat
