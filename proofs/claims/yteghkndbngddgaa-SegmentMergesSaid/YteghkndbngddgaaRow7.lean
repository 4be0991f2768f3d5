/- The given statement SegmentMerges is proved: for every input the law returns true. Conditions: none but the row's own. -/
import Derived.Test.YteghkndbngddgaaRows
import Derived.Test.YteghkndbngddgaaSyM
import Derived.Test.YteghkndbngddgaaV1
import Derived.WalkKit
import Derived.ProofKit
import Derived.OpenShut
import Derived.ShutString
import Derived.ChangeOld
import Derived.Below
import Derived.SizedLaws
import Derived.Carry
set_option linter.unusedVariables false
namespace Go.Proofs.Yteghkndbngddgaa
open Go.ChangeShapes Go.WideShapes Go.ChangeAt Go.RowKit Go.Sx
theorem SegmentMerges_own : ownKnob Try.prog.godebug = none := by kernel_rfl
theorem SegmentMerges_laid : laidOutB Try.prog = true := by kernel_rfl
theorem SegmentMerges_val (x0 : Val (.slice TPage)) (x1 : Val (.slice TPage)) (x2 : Val .bool) : @Eq (Option CallRes) (Sx.law20_SegmentMergesct [.dat false (.slice TPage) x0, .dat false (.slice TPage) x1, .dat false .bool x2] (fun _ => .gone) 0).val ((Sx.law20_SegmentMerges x0 x1 x2).bind fun z => some ⟨.dat true .bool z, []⟩) := by kernel_rfl
set_option maxRecDepth 100000 in
theorem SegmentMerges_lifted (os : Os) (started : os.Started) (H : Type) (enc : TypeId × Value → H) :
    ReturnsInHanded {} Try.checked os 7 .any (Rows.segmentMergesSpec.pre6 enc Try.prog Try.f7 Rows.segmentMergesRow.domain false) (Rows.segmentMergesSpec.post enc Try.prog Try.f7 false true false false) := by
  refine returnsInHanded_of_change_sized (C := Try.checked) SegmentMerges_own started (by kernel_rfl) Try.func7
    (ChangeSpec.witness6 (enc := enc) (C := Try.checked) false ⟨#[], #[.slice none 0 0, .slice none 0 0, .bool false], []⟩ 8 (by kernel_rfl) (by kernel_rfl) (by kernel_rfl) (by kernel_rfl)) ?_
  intro W base args ds gs before hval0 hW hcnd hsz0 _
  have hval : ∀ (j : Nat) t v, Try.f7.params[j]? = some t → args[j]? = some v → Value.okWide Try.prog W .any base t v := hval0
  have hW' := hW
  obtain ⟨p, q, hA0, hV, rfl, hfz, hnd⟩ := hW
  have hA : DataW.TrodAll enc Try.prog W 0 (fun _ => true) true Try.f7.params.toList args.toList ds p := hA0
  rw [Try.params7] at hA hval
  obtain ⟨v0, vs0, d0, ds0, p0, q0, hargs, rfl, rfl, h0, r0⟩ := trodAll_cons hA
  obtain ⟨v1, vs1, d1, ds1, p1, q1, rfl, rfl, rfl, h1, r1⟩ := trodAll_cons r0
  obtain ⟨v2, vs2, d2, ds2, p2, q2, rfl, rfl, rfl, h2, r2⟩ := trodAll_cons r1
  obtain ⟨rfl, rfl, rfl⟩ := trodAll_nil r2
  obtain rfl : args = #[v0, v1, v2] := by cases args; simp_all
  obtain ⟨rfl, rfl⟩ := trodVars_none hV
  have k0 := h0
  have lt0 : ∀ x ∈ p0, x.block < W.heap.size := by obtain ⟨m, hm⟩ := k0; exact DataW.trod_lt m _ _ _ hm
  obtain ⟨x0, w0, e0, u0⟩ := Sx.arg_rep Sx.tyE (t := 35) (ty := (.slice TPage)) (by kernel_rfl) (by kernel_rfl) (hval 0 35 v0 rfl rfl) h0
  have k1 := h1
  have lt1 : ∀ x ∈ p1, x.block < W.heap.size := by obtain ⟨m, hm⟩ := k1; exact DataW.trod_lt m _ _ _ hm
  obtain ⟨x1, w1, e1, u1⟩ := Sx.arg_rep Sx.tyE (t := 35) (ty := (.slice TPage)) (by kernel_rfl) (by kernel_rfl) (hval 1 35 v1 rfl rfl) h1
  have k2 := h2
  have lt2 : ∀ x ∈ p2, x.block < W.heap.size := by obtain ⟨m, hm⟩ := k2; exact DataW.trod_lt m _ _ _ hm
  obtain ⟨x2, w2, e2, u2⟩ := Sx.arg_rep Sx.tyE (t := 4) (ty := .bool) (by kernel_rfl) (by kernel_rfl) (hval 2 4 v2 rfl rfl) h2
  have hP := segmentMerges_pure x0 x1 x2 w0 w1 w2
  refine Calls.mono (Sx.law_calls Sx.law20_SegmentMerges_ctr (args := [.dat false (.slice TPage) x0, .dat false (.slice TPage) x1, .dat false .bool x2]) (vs := [v0, v1, v2]) (.cons (Sx.top_arg e0 u0) (.cons (Sx.top_arg e1 u1) (.cons (Sx.top_arg e2 u2) .nil))) (by rw [SegmentMerges_val, hP]; rfl)) ?_
  rintro e W' ⟨he, bel⟩
  subst he
  exact ⟨_, rfl, _, _, _, [], _, [], hW', trodAll_mk1 (shut_bool Try.underlying4 _), (trodAll_cons_mk (Below.trod SegmentMerges_laid (by kernel_rfl) (of_decide_eq_true (by kernel_rfl)) k0 bel lt0) (trodAll_cons_mk (Below.trod SegmentMerges_laid (by kernel_rfl) (of_decide_eq_true (by kernel_rfl)) k1 bel lt1) (trodAll_cons_mk (Below.trod SegmentMerges_laid (by kernel_rfl) (of_decide_eq_true (by kernel_rfl)) k2 bel lt2) trodAll_mk0))), rfl, bel.frame _, fun h => by cases h⟩
theorem segmentMerges_holds : Rows.SegmentMergesSaid :=
  OpenClaim.holds_of_wide 7 Try.f7 rfl rfl rfl rfl rfl rfl rfl ⟨rfl, rfl, rfl, rfl, rfl⟩ rfl rfl rfl rfl rfl (by kernel_rfl) Try.func7 (by kernel_rfl)
    (of_decide_eq_true (by kernel_rfl)) (by unfold Func.isWrapper; first | (rw [if_pos (by decide +kernel)]; kernel_rfl) | (rw [if_neg (by decide +kernel)]; exact ⟨rfl, rfl⟩))
    (fun os started H enc _ => SegmentMerges_lifted os started H enc)
#print axioms segmentMerges_holds
end Go.Proofs.Yteghkndbngddgaa
