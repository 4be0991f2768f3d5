/- The given statement SegmentOnce is proved: for every input the law returns true. Conditions: none but the row's own. -/
import Derived.Test.YteghkndbngddgaaRows
import Derived.Test.YteghkndbngddgaaSyM
import Derived.Test.YteghkndbngddgaaU4
import Derived.WalkKit
import Derived.ProofKit
import Derived.OpenShut
import Derived.ShutString
import Derived.ChangeOld
import Derived.Below
import Derived.SizedLaws
import Derived.Carry
set_option linter.unusedVariables false
namespace Go.Proofs.Yteghkndbngddgaa
open Go.ChangeShapes Go.WideShapes Go.ChangeAt Go.RowKit Go.Sx
theorem SegmentOnce_own : ownKnob Try.prog.godebug = none := by kernel_rfl
theorem SegmentOnce_laid : laidOutB Try.prog = true := by kernel_rfl
theorem SegmentOnce_val (x0 : Val (.int .i64)) (x1 : Val (.slice (.pair (.int .i64) (.pair (.int .i64) (.pair .bool (.pair (.int .i64) .unit)))))) : @Eq (Option CallRes) (Sx.law20_SegmentOncect [.dat false (.int .i64) x0, .dat false (.slice (.pair (.int .i64) (.pair (.int .i64) (.pair .bool (.pair (.int .i64) .unit))))) x1] (fun _ => .gone) 0).val ((Sx.law20_SegmentOnce x0 x1).bind fun z => some ⟨.dat true .bool z, []⟩) := by kernel_rfl
set_option maxRecDepth 100000 in
theorem SegmentOnce_lifted (os : Os) (started : os.Started) (H : Type) (enc : TypeId × Value → H) :
    ReturnsInHanded {} Try.checked os 9 .any (Rows.segmentOnceSpec.pre6 enc Try.prog Try.f9 Rows.segmentOnceRow.domain false) (Rows.segmentOnceSpec.post enc Try.prog Try.f9 false true false false) := by
  refine returnsInHanded_of_change_sized (C := Try.checked) SegmentOnce_own started (by kernel_rfl) Try.func9
    (ChangeSpec.witness6 (enc := enc) (C := Try.checked) false ⟨#[], #[.int .i64 0, .slice none 0 0], []⟩ 8 (by kernel_rfl) (by kernel_rfl) (by kernel_rfl) (by kernel_rfl)) ?_
  intro W base args ds gs before hval0 hW hcnd hsz0 _
  have hval : ∀ (j : Nat) t v, Try.f9.params[j]? = some t → args[j]? = some v → Value.okWide Try.prog W .any base t v := hval0
  have hW' := hW
  obtain ⟨p, q, hA0, hV, rfl, hfz, hnd⟩ := hW
  have hA : DataW.TrodAll enc Try.prog W 0 (fun _ => true) true Try.f9.params.toList args.toList ds p := hA0
  rw [Try.params9] at hA hval
  obtain ⟨v0, vs0, d0, ds0, p0, q0, hargs, rfl, rfl, h0, r0⟩ := trodAll_cons hA
  obtain ⟨v1, vs1, d1, ds1, p1, q1, rfl, rfl, rfl, h1, r1⟩ := trodAll_cons r0
  obtain ⟨rfl, rfl, rfl⟩ := trodAll_nil r1
  obtain rfl : args = #[v0, v1] := by cases args; simp_all
  obtain ⟨rfl, rfl⟩ := trodVars_none hV
  have k0 := h0
  have lt0 : ∀ x ∈ p0, x.block < W.heap.size := by obtain ⟨m, hm⟩ := k0; exact DataW.trod_lt m _ _ _ hm
  obtain ⟨x0, w0, e0, u0⟩ := Sx.arg_rep Sx.tyE (t := 3) (ty := (.int .i64)) (by kernel_rfl) (by kernel_rfl) (hval 0 3 v0 rfl rfl) h0
  have k1 := h1
  have lt1 : ∀ x ∈ p1, x.block < W.heap.size := by obtain ⟨m, hm⟩ := k1; exact DataW.trod_lt m _ _ _ hm
  obtain ⟨x1, w1, e1, u1⟩ := Sx.arg_rep Sx.tyE (t := 98) (ty := (.slice (.pair (.int .i64) (.pair (.int .i64) (.pair .bool (.pair (.int .i64) .unit)))))) (by kernel_rfl) (by kernel_rfl) (hval 1 98 v1 rfl rfl) h1
  have hP := segmentOnce_pure x0 x1 w0 w1
  refine Calls.mono (Sx.law_calls Sx.law20_SegmentOnce_ctr (args := [.dat false (.int .i64) x0, .dat false (.slice (.pair (.int .i64) (.pair (.int .i64) (.pair .bool (.pair (.int .i64) .unit))))) x1]) (vs := [v0, v1]) (.cons (Sx.top_arg e0 u0) (.cons (Sx.top_arg e1 u1) .nil)) (by rw [SegmentOnce_val, hP]; rfl)) ?_
  rintro e W' ⟨he, bel⟩
  subst he
  exact ⟨_, rfl, _, _, _, [], _, [], hW', trodAll_mk1 (shut_bool Try.underlying4 _), (trodAll_cons_mk (Below.trod SegmentOnce_laid (by kernel_rfl) (of_decide_eq_true (by kernel_rfl)) k0 bel lt0) (trodAll_cons_mk (Below.trod SegmentOnce_laid (by kernel_rfl) (of_decide_eq_true (by kernel_rfl)) k1 bel lt1) trodAll_mk0)), rfl, bel.frame _, fun h => by cases h⟩
theorem segmentOnce_holds : Rows.SegmentOnceSaid :=
  OpenClaim.holds_of_wide 9 Try.f9 rfl rfl rfl rfl rfl rfl rfl ⟨rfl, rfl, rfl, rfl, rfl⟩ rfl rfl rfl rfl rfl (by kernel_rfl) Try.func9 (by kernel_rfl)
    (of_decide_eq_true (by kernel_rfl)) (by unfold Func.isWrapper; first | (rw [if_pos (by decide +kernel)]; kernel_rfl) | (rw [if_neg (by decide +kernel)]; exact ⟨rfl, rfl⟩))
    (fun os started H enc _ => SegmentOnce_lifted os started H enc)
#print axioms segmentOnce_holds
end Go.Proofs.Yteghkndbngddgaa
