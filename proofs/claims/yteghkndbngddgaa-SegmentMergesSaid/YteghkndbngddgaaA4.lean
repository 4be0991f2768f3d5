/- A4: printed by a program of this session: the functions of the seat as plain functions, and that the code comes to them. -/
import Derived.Test.YteghkndbngddgaaA0
set_option linter.unusedVariables false
set_option maxRecDepth 100000
namespace Go.Sx
open Go.RowKit
end Go.Sx

set_option linter.unusedVariables false
set_option maxRecDepth 100000
namespace Go.Sx
open Go.RowKit
end Go.Sx

set_option linter.unusedVariables false
set_option maxRecDepth 100000
namespace Go.Sx
open Go.RowKit
/-- slices.Grow[[]bodega/api.Page,bodega/api.Page] -/
noncomputable def slices_Grow_Page (a0 : Int) : Option (Nat × Nat × (Val (.slice TPage))) :=
  bif (decide (a0 < (0 : Int))) then (
    none)
  else (
    bif (decide ((0 : Int) < (IntKind.wrap .i64 (a0 - (0 : Int))))) then (
      bif ((decide ((0 : Int) < (IntKind.wrap .i64 (a0 - (0 : Int))))) && (decide ((IntKind.wrap .i64 (a0 - (0 : Int))) ≤ (lim : Int)))) then
      bif (decide ((0 : Int) ≤ (((List.length (List.replicate (Int.toNat (IntKind.wrap .i64 (a0 - (0 : Int)))) ((0 : Int), ((0 : Int), ((List.replicate 7 (0 : Int)), ()))))) : Nat) : Int))) then
      some (0, (0, (List.replicate (Int.toNat (IntKind.wrap .i64 (a0 - (0 : Int)))) ((0 : Int), ((0 : Int), ((List.replicate 7 (0 : Int)), ()))))))
      else none
      else none)
    else (
      some (0, (0, []))))
noncomputable def slices_Grow_PageI : Shape := { n := 27, nx := 0, sl := [(0, .nils), (1, .dat false (.int .i64))], ob := [], fix := [], may := true }
noncomputable def slices_Grow_PageO : Shape := { n := 28, nx := 1, sl := [(27, .sub TPage 0)], ob := [(0, .slc true TPage)], fix := [], may := true }
noncomputable def slices_Grow_PageF : Int → Option (Nat × Nat × (Val (.slice TPage))) := fun y => slices_Grow_Page y
noncomputable def slices_Grow_Pagect : Ctr := ctrOf slices_Grow_PageI slices_Grow_PageO (fun d => d) (fun d => d) slices_Grow_PageF
noncomputable def slices_Grow_PageE : Env := { tf := tfE, mt := mtE, fn := fun f => none }
theorem slices_Grow_Page_env : EnvOk PT slices_Grow_PageE := ⟨tyE, (fun f ct h => by
  simp only [slices_Grow_PageE] at h
  cases h), mapE⟩
noncomputable def slices_Grow_PageC : Code := bodyOf Go.Proofs.Try.f84
noncomputable def slices_Grow_PageH : Nat → Option Sum := fun n => none
theorem slices_Grow_Page_bd (y : Int) : @Eq (Option (Nat × Nat × (Val (.slice TPage)))) (exec slices_Grow_PageE slices_Grow_PageH slices_Grow_PageC (slices_Grow_PageI.mk' (show slices_Grow_PageI.D from y)) (kontF (Z := Nat × Nat × (Val (.slice TPage))) slices_Grow_PageE Go.Proofs.Try.f84.results.toList slices_Grow_PageO (fun d => d))) (slices_Grow_PageF y) := by kernel_rfl
theorem slices_Grow_Page_lo {w0 : World} {Jo : Io} (hfix : ∀ i b, Jo.fix i = some b → i ∈ []) (hmay : true = true → Jo.may) : LoopsOk PT w0 Jo slices_Grow_PageH slices_Grow_PageC := (noLoops (by kernel_rfl))
theorem slices_Grow_Page_ctr : CtrOk PT 84 slices_Grow_Pagect :=
  @ctr_ok PT slices_Grow_PageE slices_Grow_PageH slices_Grow_Page_env mixed 84 Go.Proofs.Try.f84 slices_Grow_PageC (by kernel_rfl) (by kernel_rfl) (enters_of (by kernel_rfl : PT.funcs[84]? = some Go.Proofs.Try.f84) (by kernel_rfl) (by kernel_rfl)) slices_Grow_PageI slices_Grow_PageO Int (Nat × Nat × (Val (.slice TPage))) (fun d => d) (fun d => d) (fun d => d) (fun d => d) (fun _ => rfl) (fun _ => rfl) (by kernel_rfl) (by kernel_rfl) slices_Grow_PageF slices_Grow_Page_bd (fun w0 Jo hfix hmay => slices_Grow_Page_lo hfix hmay)

noncomputable def slices_Concat_PageL1b (x0 : Val (.slice (.slice TPage))) (x1 : Int) (x2 : Val (.slice (.slice TPage))) (x3 : Int) (x4 : Int) : Option (((Val (.slice (.slice TPage))) × Int × (Val (.slice (.slice TPage))) × Int × Int) ⊕ ((Val (.slice (.slice TPage))) × Int)) :=
  bif (decide (x4 < x3)) then (
    bif (inR x4 (List.length x2)) then
    bif (decide ((IntKind.wrap .i64 (x1 + (((List.length (List.getD x2 (Int.toNat x4) [])) : Nat) : Int))) < (0 : Int))) then (
      none)
    else (
      some (Sum.inl (x0, ((IntKind.wrap .i64 (x1 + (((List.length (List.getD x2 (Int.toNat x4) [])) : Nat) : Int))), (x2, (x3, (IntKind.wrap .i64 (x4 + (1 : Int)))))))))
    else none)
  else (
    some (Sum.inr (x0, x1)))
noncomputable def slices_Concat_PageL1B : ((Val (.slice (.slice TPage))) × Int × (Val (.slice (.slice TPage))) × Int × Int) → Option (((Val (.slice (.slice TPage))) × Int × (Val (.slice (.slice TPage))) × Int × Int) ⊕ ((Val (.slice (.slice TPage))) × Int)) := fun y => slices_Concat_PageL1b y.1 y.2.1 y.2.2.1 y.2.2.2.1 y.2.2.2.2
noncomputable def slices_Concat_PageL1 (x0 : Val (.slice (.slice TPage))) (x1 : Int) (x2 : Val (.slice (.slice TPage))) (x3 : Int) (x4 : Int) : Option ((Val (.slice (.slice TPage))) × Int) := iter slices_Concat_PageL1B (x0, (x1, (x2, (x3, x4))))
noncomputable def slices_Concat_PageL2b (x0 : Nat) (x1 : Nat) (x2 : Val (.slice (.slice TPage))) (x3 : Int) (x4 : Int) (x5 : Val (.slice TPage)) : Option ((Nat × Nat × (Val (.slice (.slice TPage))) × Int × Int × (Val (.slice TPage))) ⊕ (Nat × Nat × (Val (.slice TPage)))) :=
  bif (decide (x4 < x3)) then (
    bif (inR x4 (List.length x2)) then
    bif (decide (((List.length (List.drop x0 (List.take x1 x5))) + (List.length (List.getD x2 (Int.toNat x4) []))) ≤ lim)) then
    some (Sum.inl (0, ((List.length ((List.drop x0 (List.take x1 x5)) ++ (List.getD x2 (Int.toNat x4) []))), (x2, (x3, ((IntKind.wrap .i64 (x4 + (1 : Int))), ((List.drop x0 (List.take x1 x5)) ++ (List.getD x2 (Int.toNat x4) []))))))))
    else none
    else none)
  else (
    some (Sum.inr (x0, (x1, x5))))
noncomputable def slices_Concat_PageL2B : (Nat × Nat × (Val (.slice (.slice TPage))) × Int × Int × (Val (.slice TPage))) → Option ((Nat × Nat × (Val (.slice (.slice TPage))) × Int × Int × (Val (.slice TPage))) ⊕ (Nat × Nat × (Val (.slice TPage)))) := fun y => slices_Concat_PageL2b y.1 y.2.1 y.2.2.1 y.2.2.2.1 y.2.2.2.2.1 y.2.2.2.2.2
noncomputable def slices_Concat_PageL2 (x0 : Nat) (x1 : Nat) (x2 : Val (.slice (.slice TPage))) (x3 : Int) (x4 : Int) (x5 : Val (.slice TPage)) : Option (Nat × Nat × (Val (.slice TPage))) := iter slices_Concat_PageL2B (x0, (x1, (x2, (x3, (x4, x5)))))
/-- slices.Concat[[]bodega/api.Page,bodega/api.Page] -/
noncomputable def slices_Concat_Page (a0 : Val (.slice (.slice TPage))) : Option ((Val (.slice TPage))) :=
  (slices_Concat_PageL1 a0 (0 : Int) a0 (((List.length a0) : Nat) : Int) (0 : Int)).bind fun r1 =>
  (slices_Grow_Page r1.2).bind fun r2 =>
  (slices_Concat_PageL2 r2.1 r2.2.1 r1.1 (((List.length r1.1) : Nat) : Int) (0 : Int) r2.2.2).bind fun r3 =>
  some (List.drop r3.1 (List.take r3.2.1 r3.2.2))
noncomputable def slices_Concat_PageI : Shape := { n := 36, nx := 0, sl := [(0, .dat false (.slice (.slice TPage)))], ob := [], fix := [], may := true }
noncomputable def slices_Concat_PageO : Shape := { n := 37, nx := 0, sl := [(36, .dat true (.slice TPage))], ob := [], fix := [], may := true }
noncomputable def slices_Concat_PageF : ((Val (.slice (.slice TPage)))) → Option ((Val (.slice TPage))) := fun y => slices_Concat_Page y
noncomputable def slices_Concat_Pagect : Ctr := ctrOf slices_Concat_PageI slices_Concat_PageO (fun d => d) (fun d => d) slices_Concat_PageF
noncomputable def slices_Concat_PageE : Env := { tf := tfE, mt := mtE, fn := fun f => bif Nat.beq f 84 then some slices_Grow_Pagect else none }
theorem slices_Concat_Page_env : EnvOk PT slices_Concat_PageE := ⟨tyE, (fun f ct h => by
  simp only [slices_Concat_PageE] at h
  refine envCons (c := slices_Grow_Pagect) h slices_Grow_Page_ctr (fun h => ?_)
  cases h), mapE⟩
noncomputable def slices_Concat_PageC : Code := bodyOf Go.Proofs.Try.f61
noncomputable def slices_Concat_PageL1C : Code := (loopsOf slices_Concat_PageC).getD 0 .skip
noncomputable def slices_Concat_PageL2C : Code := (loopsOf slices_Concat_PageC).getD 1 .skip
noncomputable def slices_Concat_PageL1S : Shape := { n := 36, nx := 0, sl := [(0, .dat false (.slice (.slice TPage))), (3, .dat true (.int .i64)), (9, .dat false (.slice (.slice TPage))), (10, .dat true (.int .i64)), (11, .dat true (.int .i64))], ob := [], fix := [], may := true }
noncomputable def slices_Concat_PageL1O : List (Ex × Shape) := [(.exit 0, { n := 36, nx := 0, sl := [(0, .dat false (.slice (.slice TPage))), (3, .dat true (.int .i64))], ob := [], fix := [], may := true })]
noncomputable def slices_Concat_PageL1M : Sum := loopSum (Y := (Val (.slice (.slice TPage))) × Int × (Val (.slice (.slice TPage))) × Int × Int) (Z := (Val (.slice (.slice TPage))) × Int) slices_Concat_PageL1S slices_Concat_PageL1O (fun d => d) (fun d => d) (iter slices_Concat_PageL1B)
noncomputable def slices_Concat_PageL2S : Shape := { n := 36, nx := 1, sl := [(6, .sub TPage 0), (25, .dat false (.slice (.slice TPage))), (26, .dat true (.int .i64)), (27, .dat true (.int .i64))], ob := [(0, .slc true TPage)], fix := [], may := true }
noncomputable def slices_Concat_PageL2O : List (Ex × Shape) := [(.exit 2, { n := 36, nx := 1, sl := [(6, .sub TPage 0)], ob := [(0, .slc true TPage)], fix := [], may := true })]
noncomputable def slices_Concat_PageL2M : Sum := loopSum (Y := Nat × Nat × (Val (.slice (.slice TPage))) × Int × Int × (Val (.slice TPage))) (Z := Nat × Nat × (Val (.slice TPage))) slices_Concat_PageL2S slices_Concat_PageL2O (fun d => d) (fun d => d) (iter slices_Concat_PageL2B)
noncomputable def slices_Concat_PageH : Nat → Option Sum := fun n => bif Nat.beq n 3 then some slices_Concat_PageL1M else bif Nat.beq n 11 then some slices_Concat_PageL2M else none
theorem slices_Concat_PageL1_bd (y : (Val (.slice (.slice TPage))) × Int × (Val (.slice (.slice TPage))) × Int × Int) : @Eq (Option (((Val (.slice (.slice TPage))) × Int × (Val (.slice (.slice TPage))) × Int × Int) ⊕ ((Val (.slice (.slice TPage))) × Int))) (exec slices_Concat_PageE slices_Concat_PageH slices_Concat_PageL1C (slices_Concat_PageL1S.mk' (show slices_Concat_PageL1S.D from y)) (kont (Y := (Val (.slice (.slice TPage))) × Int × (Val (.slice (.slice TPage))) × Int × Int) (Z := (Val (.slice (.slice TPage))) × Int) slices_Concat_PageL1S slices_Concat_PageL1O (fun d => d) (fun d => d))) (slices_Concat_PageL1B y) := by kernel_rfl
theorem slices_Concat_PageL1_ok {w0 : World} {Jo : Io} (hfix : ∀ i b, Jo.fix i = some b → i ∈ []) (hmay : true = true → Jo.may) : SumOk PT w0 Jo slices_Concat_PageL1M (.loop slices_Concat_PageL1C) :=
  @loop_ok w0 Jo PT slices_Concat_PageE slices_Concat_PageH ((Val (.slice (.slice TPage))) × Int × (Val (.slice (.slice TPage))) × Int × Int) ((Val (.slice (.slice TPage))) × Int) slices_Concat_Page_env mixed slices_Concat_PageL1C slices_Concat_PageL1S slices_Concat_PageL1O (fun d => d) (fun d => d) (fun d => d) (fun d => d) (fun _ => rfl) (fun _ => rfl) hfix hmay (by kernel_rfl) (noLoops (by kernel_rfl)) slices_Concat_PageL1B slices_Concat_PageL1_bd
theorem slices_Concat_PageL2_bd (y : Nat × Nat × (Val (.slice (.slice TPage))) × Int × Int × (Val (.slice TPage))) : @Eq (Option ((Nat × Nat × (Val (.slice (.slice TPage))) × Int × Int × (Val (.slice TPage))) ⊕ (Nat × Nat × (Val (.slice TPage))))) (exec slices_Concat_PageE slices_Concat_PageH slices_Concat_PageL2C (slices_Concat_PageL2S.mk' (show slices_Concat_PageL2S.D from y)) (kont (Y := Nat × Nat × (Val (.slice (.slice TPage))) × Int × Int × (Val (.slice TPage))) (Z := Nat × Nat × (Val (.slice TPage))) slices_Concat_PageL2S slices_Concat_PageL2O (fun d => d) (fun d => d))) (slices_Concat_PageL2B y) := by kernel_rfl
theorem slices_Concat_PageL2_ok {w0 : World} {Jo : Io} (hfix : ∀ i b, Jo.fix i = some b → i ∈ []) (hmay : true = true → Jo.may) : SumOk PT w0 Jo slices_Concat_PageL2M (.loop slices_Concat_PageL2C) :=
  @loop_ok w0 Jo PT slices_Concat_PageE slices_Concat_PageH (Nat × Nat × (Val (.slice (.slice TPage))) × Int × Int × (Val (.slice TPage))) (Nat × Nat × (Val (.slice TPage))) slices_Concat_Page_env mixed slices_Concat_PageL2C slices_Concat_PageL2S slices_Concat_PageL2O (fun d => d) (fun d => d) (fun d => d) (fun d => d) (fun _ => rfl) (fun _ => rfl) hfix hmay (by kernel_rfl) (noLoops (by kernel_rfl)) slices_Concat_PageL2B slices_Concat_PageL2_bd
theorem slices_Concat_Page_bd (y : (Val (.slice (.slice TPage)))) : @Eq (Option ((Val (.slice TPage)))) (exec slices_Concat_PageE slices_Concat_PageH slices_Concat_PageC (slices_Concat_PageI.mk' (show slices_Concat_PageI.D from y)) (kontF (Z := (Val (.slice TPage))) slices_Concat_PageE Go.Proofs.Try.f61.results.toList slices_Concat_PageO (fun d => d))) (slices_Concat_PageF y) := by kernel_rfl
theorem slices_Concat_Page_lo {w0 : World} {Jo : Io} (hfix : ∀ i b, Jo.fix i = some b → i ∈ []) (hmay : true = true → Jo.may) : LoopsOk PT w0 Jo slices_Concat_PageH slices_Concat_PageC := (loopsMk (by kernel_rfl) (loopsCons (c := slices_Concat_PageL1C) (n := 3) (f := slices_Concat_PageL1M) (by kernel_rfl) (by kernel_rfl) (slices_Concat_PageL1_ok hfix hmay) (loopsCons (c := slices_Concat_PageL2C) (n := 11) (f := slices_Concat_PageL2M) (by kernel_rfl) (by kernel_rfl) (slices_Concat_PageL2_ok hfix hmay) loopsNil)))
theorem slices_Concat_Page_ctr : CtrOk PT 61 slices_Concat_Pagect :=
  @ctr_ok PT slices_Concat_PageE slices_Concat_PageH slices_Concat_Page_env mixed 61 Go.Proofs.Try.f61 slices_Concat_PageC (by kernel_rfl) (by kernel_rfl) (enters_of (by kernel_rfl : PT.funcs[61]? = some Go.Proofs.Try.f61) (by kernel_rfl) (by kernel_rfl)) slices_Concat_PageI slices_Concat_PageO ((Val (.slice (.slice TPage)))) ((Val (.slice TPage))) (fun d => d) (fun d => d) (fun d => d) (fun d => d) (fun _ => rfl) (fun _ => rfl) (by kernel_rfl) (by kernel_rfl) slices_Concat_PageF slices_Concat_Page_bd (fun w0 Jo hfix hmay => slices_Concat_Page_lo hfix hmay)

noncomputable def segment_MergeL1b (x0 : Val (.slice TPage)) (x1 : Int) (x2 : Int) (x3 : Val (.slice (.pair (.int .i64) TPage))) : Option (((Val (.slice TPage)) × Int × Int × (Val (.slice (.pair (.int .i64) TPage)))) ⊕ ((Val (.slice (.pair (.int .i64) TPage))))) :=
  bif (decide (x2 < x1)) then (
    bif (inR x2 (List.length x0)) then
    some (Sum.inl (x0, (x1, ((IntKind.wrap .i64 (x2 + (1 : Int))), (upsV x3 (List.getD x0 (Int.toNat x2) ((0 : Int), ((0 : Int), ((List.replicate 7 (0 : Int)), ())))).1 (List.getD x0 (Int.toNat x2) ((0 : Int), ((0 : Int), ((List.replicate 7 (0 : Int)), ())))))))))
    else none)
  else (
    some (Sum.inr x3))
noncomputable def segment_MergeL1B : ((Val (.slice TPage)) × Int × Int × (Val (.slice (.pair (.int .i64) TPage)))) → Option (((Val (.slice TPage)) × Int × Int × (Val (.slice (.pair (.int .i64) TPage)))) ⊕ ((Val (.slice (.pair (.int .i64) TPage))))) := fun y => segment_MergeL1b y.1 y.2.1 y.2.2.1 y.2.2.2
noncomputable def segment_MergeL1 (x0 : Val (.slice TPage)) (x1 : Int) (x2 : Int) (x3 : Val (.slice (.pair (.int .i64) TPage))) : Option ((Val (.slice (.pair (.int .i64) TPage)))) := iter segment_MergeL1B (x0, (x1, (x2, x3)))
noncomputable def segment_MergeL2b (x0 : Val (.slice TPage)) (x1 : Val (.pair (.int .i64) (.slice (.int .i64)))) (x2 : Val (.slice (.pair (.int .i64) TPage))) (i : Int) : Option ((Val (.slice TPage)) × (Val (.pair (.int .i64) (.slice (.int .i64)))) × (Val (.slice (.pair (.int .i64) TPage)))) :=
  bif (decide (x1.1 = (((List.length x2) : Nat) : Int))) then
  (x2[(Int.toNat i)]?).bind fun r1 =>
  bif (decide (((List.length x0) + 1) ≤ lim)) then
  some ((x0 ++ [r1.2]), ((x1.1, (i :: x1.2)), x2))
  else none
  else none
noncomputable def segment_MergeL2_es : ((Val (.slice TPage)) × (Val (.pair (.int .i64) (.slice (.int .i64)))) × (Val (.slice (.pair (.int .i64) TPage)))) → List (Int × Val TPage) := fun y => y.2.2
noncomputable def segment_MergeL2_n : ((Val (.slice TPage)) × (Val (.pair (.int .i64) (.slice (.int .i64)))) × (Val (.slice (.pair (.int .i64) TPage)))) → Int := fun y => y.2.1.1
noncomputable def segment_MergeL2_seen : ((Val (.slice TPage)) × (Val (.pair (.int .i64) (.slice (.int .i64)))) × (Val (.slice (.pair (.int .i64) TPage)))) → List Int := fun y => y.2.1.2
noncomputable def segment_MergeL2B : ((Val (.slice TPage)) × (Val (.pair (.int .i64) (.slice (.int .i64)))) × (Val (.slice (.pair (.int .i64) TPage)))) → Int → Option ((Val (.slice TPage)) × (Val (.pair (.int .i64) (.slice (.int .i64)))) × (Val (.slice (.pair (.int .i64) TPage)))) := fun y i => segment_MergeL2b y.1 y.2.1 y.2.2 i
/-- bodega/segment.Merge -/
noncomputable def segment_Merge (a0 : Val (.slice TPage)) (a1 : Val (.slice TPage)) : Option ((Val (.slice TPage))) :=
  (slices_Concat_Page [a0, a1]).bind fun r1 =>
  (segment_MergeL1 r1 (((List.length r1) : Nat) : Int) (0 : Int) []).bind fun r2 =>
  demO (fun p3 : List Int => List.Perm p3 (idx (List.length r2))) fun p3 =>
  bif (decide ((((List.length r2) : Nat) : Int) = (((List.length r2) : Nat) : Int)) && (List.isEmpty ([] : List Int))) then
  (rfold (fun y => List.length (segment_MergeL2_es y)) segment_MergeL2_n segment_MergeL2_seen segment_MergeL2B ([], (((((List.length r2) : Nat) : Int), ([] : List Int)), r2)) p3).bind fun r4 =>
  (segment_ascending r4.1).bind fun r5 =>
  some r5
  else none
noncomputable def segment_MergeI : Shape := { n := 38, nx := 0, sl := [(0, .dat false (.slice TPage)), (1, .dat false (.slice TPage))], ob := [], fix := [], may := true }
noncomputable def segment_MergeO : Shape := { n := 39, nx := 0, sl := [(38, .dat true (.slice TPage))], ob := [], fix := [], may := true }
noncomputable def segment_MergeF : ((Val (.slice TPage)) × (Val (.slice TPage))) → Option ((Val (.slice TPage))) := fun y => segment_Merge y.1 y.2
noncomputable def segment_Mergect : Ctr := ctrOf segment_MergeI segment_MergeO (fun d => d) (fun d => d) segment_MergeF
noncomputable def segment_MergeE : Env := { tf := tfE, mt := mtE, fn := fun f => bif Nat.beq f 61 then some slices_Concat_Pagect else bif Nat.beq f 62 then some segment_ascendingct else none }
theorem segment_Merge_env : EnvOk PT segment_MergeE := ⟨tyE, (fun f ct h => by
  simp only [segment_MergeE] at h
  refine envCons (c := slices_Concat_Pagect) h slices_Concat_Page_ctr (fun h => ?_)
  refine envCons (c := segment_ascendingct) h segment_ascending_ctr (fun h => ?_)
  cases h), mapE⟩
noncomputable def segment_MergeC : Code := bodyOf Go.Proofs.Try.f38
noncomputable def segment_MergeL1C : Code := (loopsOf segment_MergeC).getD 0 .skip
noncomputable def segment_MergeL2C : Code := (loopsOf segment_MergeC).getD 1 .skip
noncomputable def segment_MergeL1S : Shape := { n := 38, nx := 1, sl := [(5, .mp 0), (15, .dat true (.slice TPage)), (16, .dat true (.int .i64)), (17, .dat true (.int .i64))], ob := [(0, .map .i64 true TPage)], fix := [], may := true }
noncomputable def segment_MergeL1O : List (Ex × Shape) := [(.exit 0, { n := 38, nx := 1, sl := [(5, .mp 0)], ob := [(0, .map .i64 true TPage)], fix := [], may := true })]
noncomputable def segment_MergeL1M : Sum := loopSum (Y := (Val (.slice TPage)) × Int × Int × (Val (.slice (.pair (.int .i64) TPage)))) (Z := (Val (.slice (.pair (.int .i64) TPage)))) segment_MergeL1S segment_MergeL1O (fun d => d) (fun d => d) (iter segment_MergeL1B)
noncomputable def segment_MergeL2S : Shape := { n := 38, nx := 3, sl := [(8, .own TPage 0), (27, .it 1)], ob := [(0, .slc true TPage), (1, .itr 2), (2, .map .i64 true TPage)], fix := [], may := true }
noncomputable def segment_MergeL2BC : Code := rBody segment_MergeL2C
noncomputable def segment_MergeL2M : Sum := rangeSum (Y := (Val (.slice TPage)) × (Val (.pair (.int .i64) (.slice (.int .i64)))) × (Val (.slice (.pair (.int .i64) TPage)))) segment_MergeL2S (fun d => d) (fun d => d) 2 28 29 (fun y => List.length (segment_MergeL2_es y)) segment_MergeL2_n segment_MergeL2_seen segment_MergeL2B
noncomputable def segment_MergeH : Nat → Option Sum := fun n => bif Nat.beq n 3 then some segment_MergeL1M else bif Nat.beq n 9 then some segment_MergeL2M else none
theorem segment_MergeL1_bd (y : (Val (.slice TPage)) × Int × Int × (Val (.slice (.pair (.int .i64) TPage)))) : @Eq (Option (((Val (.slice TPage)) × Int × Int × (Val (.slice (.pair (.int .i64) TPage)))) ⊕ ((Val (.slice (.pair (.int .i64) TPage)))))) (exec segment_MergeE segment_MergeH segment_MergeL1C (segment_MergeL1S.mk' (show segment_MergeL1S.D from y)) (kont (Y := (Val (.slice TPage)) × Int × Int × (Val (.slice (.pair (.int .i64) TPage)))) (Z := (Val (.slice (.pair (.int .i64) TPage)))) segment_MergeL1S segment_MergeL1O (fun d => d) (fun d => d))) (segment_MergeL1B y) := by kernel_rfl
theorem segment_MergeL1_ok {w0 : World} {Jo : Io} (hfix : ∀ i b, Jo.fix i = some b → i ∈ []) (hmay : true = true → Jo.may) : SumOk PT w0 Jo segment_MergeL1M (.loop segment_MergeL1C) :=
  @loop_ok w0 Jo PT segment_MergeE segment_MergeH ((Val (.slice TPage)) × Int × Int × (Val (.slice (.pair (.int .i64) TPage)))) ((Val (.slice (.pair (.int .i64) TPage)))) segment_Merge_env mixed segment_MergeL1C segment_MergeL1S segment_MergeL1O (fun d => d) (fun d => d) (fun d => d) (fun d => d) (fun _ => rfl) (fun _ => rfl) hfix hmay (by kernel_rfl) (noLoops (by kernel_rfl)) segment_MergeL1B segment_MergeL1_bd
theorem segment_MergeL2_bd (y : (Val (.slice TPage)) × (Val (.pair (.int .i64) (.slice (.int .i64)))) × (Val (.slice (.pair (.int .i64) TPage)))) (i : Int) : @Eq (Option ((Val (.slice TPage)) × (Val (.pair (.int .i64) (.slice (.int .i64)))) × (Val (.slice (.pair (.int .i64) TPage))))) (exec segment_MergeE segment_MergeH segment_MergeL2BC (nextSt (segment_MergeL2S.mk' (show segment_MergeL2S.D from y)) 1 28 29 i) (kontN (Y := (Val (.slice TPage)) × (Val (.pair (.int .i64) (.slice (.int .i64)))) × (Val (.slice (.pair (.int .i64) TPage)))) segment_MergeL2S (fun d => d))) (segment_MergeL2B y i) := by kernel_rfl
theorem segment_MergeL2_ok {w0 : World} {Jo : Io} (hfix : ∀ i b, Jo.fix i = some b → i ∈ []) (hmay : true = true → Jo.may) : SumOk PT w0 Jo segment_MergeL2M (.loop segment_MergeL2C) := by
  rw [show segment_MergeL2C = .seq (.region 9 #[rOp 0 segment_MergeL2C, rOp 1 segment_MergeL2C] false) (.seq (.cond (.tmp 29) .skip (.exit 2)) segment_MergeL2BC) from by kernel_rfl]
  exact @range_ok w0 Jo PT segment_MergeE segment_MergeH ((Val (.slice TPage)) × (Val (.pair (.int .i64) (.slice (.int .i64)))) × (Val (.slice (.pair (.int .i64) TPage)))) segment_Merge_env mixed 9 2 1 2 27 28 29 (rOp 0 segment_MergeL2C) (rOp 1 segment_MergeL2C) segment_MergeL2BC segment_MergeL2S (fun d => d) (fun d => d) (fun _ => rfl) segment_MergeL2_n segment_MergeL2_seen .i64 true TPage segment_MergeL2_es hfix hmay (by kernel_rfl) (by kernel_rfl) (by kernel_rfl) (by kernel_rfl) (by kernel_rfl) (by kernel_rfl) (by kernel_rfl) (by kernel_rfl) (fun y => by kernel_rfl) (fun y => by kernel_rfl) (fun y => by kernel_rfl) (noLoops (by kernel_rfl)) segment_MergeL2B segment_MergeL2_bd
theorem segment_Merge_bd (y : (Val (.slice TPage)) × (Val (.slice TPage))) : @Eq (Option ((Val (.slice TPage)))) (exec segment_MergeE segment_MergeH segment_MergeC (segment_MergeI.mk' (show segment_MergeI.D from y)) (kontF (Z := (Val (.slice TPage))) segment_MergeE Go.Proofs.Try.f38.results.toList segment_MergeO (fun d => d))) (segment_MergeF y) := by kernel_rfl
theorem segment_Merge_lo {w0 : World} {Jo : Io} (hfix : ∀ i b, Jo.fix i = some b → i ∈ []) (hmay : true = true → Jo.may) : LoopsOk PT w0 Jo segment_MergeH segment_MergeC := (loopsMk (by kernel_rfl) (loopsCons (c := segment_MergeL1C) (n := 3) (f := segment_MergeL1M) (by kernel_rfl) (by kernel_rfl) (segment_MergeL1_ok hfix hmay) (loopsCons (c := segment_MergeL2C) (n := 9) (f := segment_MergeL2M) (by kernel_rfl) (by kernel_rfl) (segment_MergeL2_ok hfix hmay) loopsNil)))
theorem segment_Merge_ctr : CtrOk PT 38 segment_Mergect :=
  @ctr_ok PT segment_MergeE segment_MergeH segment_Merge_env mixed 38 Go.Proofs.Try.f38 segment_MergeC (by kernel_rfl) (by kernel_rfl) (enters_of (by kernel_rfl : PT.funcs[38]? = some Go.Proofs.Try.f38) (by kernel_rfl) (by kernel_rfl)) segment_MergeI segment_MergeO ((Val (.slice TPage)) × (Val (.slice TPage))) ((Val (.slice TPage))) (fun d => d) (fun d => d) (fun d => d) (fun d => d) (fun _ => rfl) (fun _ => rfl) (by kernel_rfl) (by kernel_rfl) segment_MergeF segment_Merge_bd (fun w0 Jo hfix hmay => segment_Merge_lo hfix hmay)

noncomputable def ref19_MergeL1b (x0 : Int) (x1 : Int) (x2 : Val (.slice TPage)) (x3 : Val (.slice TPage)) : Option ((Int × Int × (Val (.slice TPage)) × (Val (.slice TPage))) ⊕ (Int × Int × (Val (.slice TPage)) × (Val (.slice TPage)))) :=
  bif (decide (x1 < (((List.length x2) : Nat) : Int))) then (
    bif (inR x1 (List.length x2)) then
    bif (inR x0 (List.length x3)) then
    bif (decide ((List.getD x2 (Int.toNat x1) ((0 : Int), ((0 : Int), ((List.replicate 7 (0 : Int)), ())))).1 < (List.getD x3 (Int.toNat x0) ((0 : Int), ((0 : Int), ((List.replicate 7 (0 : Int)), ())))).1)) then (
      some (Sum.inl (x0, ((IntKind.wrap .i64 (x1 + (1 : Int))), (x2, x3)))))
    else (
      some (Sum.inr (x0, (x1, (x2, x3)))))
    else none
    else none)
  else (
    some (Sum.inr (x0, (x1, (x2, x3)))))
noncomputable def ref19_MergeL1B : (Int × Int × (Val (.slice TPage)) × (Val (.slice TPage))) → Option ((Int × Int × (Val (.slice TPage)) × (Val (.slice TPage))) ⊕ (Int × Int × (Val (.slice TPage)) × (Val (.slice TPage)))) := fun y => ref19_MergeL1b y.1 y.2.1 y.2.2.1 y.2.2.2
noncomputable def ref19_MergeL1 (x0 : Int) (x1 : Int) (x2 : Val (.slice TPage)) (x3 : Val (.slice TPage)) : Option (Int × Int × (Val (.slice TPage)) × (Val (.slice TPage))) := iter ref19_MergeL1B (x0, (x1, (x2, x3)))
noncomputable def ref19_MergeL2b (x0 : Int) (x1 : Val (.slice TPage)) (x2 : Val (.slice TPage)) : Option ((Int × (Val (.slice TPage)) × (Val (.slice TPage))) ⊕ ((Val (.slice TPage)))) :=
  bif (decide (x0 < (((List.length x2) : Nat) : Int))) then (
    (ref19_MergeL1 x0 (0 : Int) x1 x2).bind fun r1 =>
    bif (decide (r1.2.1 < (((List.length r1.2.2.1) : Nat) : Int))) then (
      bif (inR r1.2.1 (List.length r1.2.2.1)) then
      bif (inR r1.1 (List.length r1.2.2.2)) then
      bif (decide ((List.getD r1.2.2.1 (Int.toNat r1.2.1) ((0 : Int), ((0 : Int), ((List.replicate 7 (0 : Int)), ())))).1 = (List.getD r1.2.2.2 (Int.toNat r1.1) ((0 : Int), ((0 : Int), ((List.replicate 7 (0 : Int)), ())))).1)) then (
        bif (inR r1.1 (List.length r1.2.2.2)) then
        bif (inR r1.2.1 (List.length r1.2.2.1)) then
        some (Sum.inl ((IntKind.wrap .i64 (r1.1 + (1 : Int))), ((List.set r1.2.2.1 (Int.toNat r1.2.1) (List.getD r1.2.2.2 (Int.toNat r1.1) ((0 : Int), ((0 : Int), ((List.replicate 7 (0 : Int)), ()))))), r1.2.2.2)))
        else none
        else none)
      else (
        bif ((decide ((0 : Int) ≤ r1.2.1)) && (decide (r1.2.1 ≤ (((List.length r1.2.2.1) : Nat) : Int)))) then
        bif (inR r1.1 (List.length r1.2.2.2)) then
        bif (((decide ((0 : Int) ≤ r1.2.1)) && (decide (r1.2.1 ≤ (((List.length r1.2.2.1) : Nat) : Int)))) && (decide ((((List.length r1.2.2.1) : Nat) : Int) ≤ (((List.length r1.2.2.1) : Nat) : Int)))) then
        bif (decide ((1 + (List.length (List.drop (Int.toNat r1.2.1) (List.take (List.length r1.2.2.1) r1.2.2.1)))) ≤ lim)) then
        bif (decide (((List.length (List.drop 0 (List.take (Int.toNat r1.2.1) r1.2.2.1))) + (List.length ([(List.getD r1.2.2.2 (Int.toNat r1.1) ((0 : Int), ((0 : Int), ((List.replicate 7 (0 : Int)), ()))))] ++ (List.drop (Int.toNat r1.2.1) (List.take (List.length r1.2.2.1) r1.2.2.1))))) ≤ lim)) then
        some (Sum.inl ((IntKind.wrap .i64 (r1.1 + (1 : Int))), (((List.drop 0 (List.take (Int.toNat r1.2.1) r1.2.2.1)) ++ ([(List.getD r1.2.2.2 (Int.toNat r1.1) ((0 : Int), ((0 : Int), ((List.replicate 7 (0 : Int)), ()))))] ++ (List.drop (Int.toNat r1.2.1) (List.take (List.length r1.2.2.1) r1.2.2.1)))), r1.2.2.2)))
        else none
        else none
        else none
        else none
        else none)
      else none
      else none)
    else (
      bif ((decide ((0 : Int) ≤ r1.2.1)) && (decide (r1.2.1 ≤ (((List.length r1.2.2.1) : Nat) : Int)))) then
      bif (inR r1.1 (List.length r1.2.2.2)) then
      bif (((decide ((0 : Int) ≤ r1.2.1)) && (decide (r1.2.1 ≤ (((List.length r1.2.2.1) : Nat) : Int)))) && (decide ((((List.length r1.2.2.1) : Nat) : Int) ≤ (((List.length r1.2.2.1) : Nat) : Int)))) then
      bif (decide ((1 + (List.length (List.drop (Int.toNat r1.2.1) (List.take (List.length r1.2.2.1) r1.2.2.1)))) ≤ lim)) then
      bif (decide (((List.length (List.drop 0 (List.take (Int.toNat r1.2.1) r1.2.2.1))) + (List.length ([(List.getD r1.2.2.2 (Int.toNat r1.1) ((0 : Int), ((0 : Int), ((List.replicate 7 (0 : Int)), ()))))] ++ (List.drop (Int.toNat r1.2.1) (List.take (List.length r1.2.2.1) r1.2.2.1))))) ≤ lim)) then
      some (Sum.inl ((IntKind.wrap .i64 (r1.1 + (1 : Int))), (((List.drop 0 (List.take (Int.toNat r1.2.1) r1.2.2.1)) ++ ([(List.getD r1.2.2.2 (Int.toNat r1.1) ((0 : Int), ((0 : Int), ((List.replicate 7 (0 : Int)), ()))))] ++ (List.drop (Int.toNat r1.2.1) (List.take (List.length r1.2.2.1) r1.2.2.1)))), r1.2.2.2)))
      else none
      else none
      else none
      else none
      else none))
  else (
    some (Sum.inr x1))
noncomputable def ref19_MergeL2B : (Int × (Val (.slice TPage)) × (Val (.slice TPage))) → Option ((Int × (Val (.slice TPage)) × (Val (.slice TPage))) ⊕ ((Val (.slice TPage)))) := fun y => ref19_MergeL2b y.1 y.2.1 y.2.2
noncomputable def ref19_MergeL2 (x0 : Int) (x1 : Val (.slice TPage)) (x2 : Val (.slice TPage)) : Option ((Val (.slice TPage))) := iter ref19_MergeL2B (x0, (x1, x2))
/-- bodega/bodegaref19.Merge -/
noncomputable def ref19_Merge (a0 : Val (.slice TPage)) (a1 : Val (.slice TPage)) : Option ((Val (.slice TPage))) :=
  bif (decide ((0 + (List.length a0)) ≤ lim)) then
  bif (decide (((List.length ([] ++ a0)) + (List.length a1)) ≤ lim)) then
  (ref19_MergeL2 (0 : Int) [] (([] ++ a0) ++ a1)).bind fun r1 =>
  some r1
  else none
  else none
noncomputable def ref19_MergeI : Shape := { n := 77, nx := 0, sl := [(0, .dat false (.slice TPage)), (1, .dat false (.slice TPage))], ob := [], fix := [], may := true }
noncomputable def ref19_MergeO : Shape := { n := 78, nx := 0, sl := [(77, .dat true (.slice TPage))], ob := [], fix := [], may := true }
noncomputable def ref19_MergeF : ((Val (.slice TPage)) × (Val (.slice TPage))) → Option ((Val (.slice TPage))) := fun y => ref19_Merge y.1 y.2
noncomputable def ref19_Mergect : Ctr := ctrOf ref19_MergeI ref19_MergeO (fun d => d) (fun d => d) ref19_MergeF
noncomputable def ref19_MergeE : Env := { tf := tfE, mt := mtE, fn := fun f => none }
theorem ref19_Merge_env : EnvOk PT ref19_MergeE := ⟨tyE, (fun f ct h => by
  simp only [ref19_MergeE] at h
  cases h), mapE⟩
noncomputable def ref19_MergeC : Code := bodyOf Go.Proofs.Try.f39
noncomputable def ref19_MergeL2C : Code := (loopsOf ref19_MergeC).getD 0 .skip
noncomputable def ref19_MergeL1C : Code := (loopsOf ref19_MergeC).getD 1 .skip
noncomputable def ref19_MergeL1S : Shape := { n := 77, nx := 2, sl := [(5, .own TPage 0), (6, .own TPage 1), (7, .dat true (.int .i64)), (8, .dat true (.int .i64))], ob := [(0, .slc true TPage), (1, .slc true TPage)], fix := [], may := true }
noncomputable def ref19_MergeL1O : List (Ex × Shape) := [(.exit 2, { n := 77, nx := 2, sl := [(5, .own TPage 0), (6, .own TPage 1), (7, .dat true (.int .i64)), (8, .dat true (.int .i64))], ob := [(0, .slc true TPage), (1, .slc true TPage)], fix := [], may := true })]
noncomputable def ref19_MergeL1M : Sum := loopSum (Y := Int × Int × (Val (.slice TPage)) × (Val (.slice TPage))) (Z := Int × Int × (Val (.slice TPage)) × (Val (.slice TPage))) ref19_MergeL1S ref19_MergeL1O (fun d => d) (fun d => d) (iter ref19_MergeL1B)
noncomputable def ref19_MergeL2S : Shape := { n := 77, nx := 2, sl := [(5, .own TPage 0), (6, .own TPage 1), (7, .dat true (.int .i64))], ob := [(0, .slc true TPage), (1, .slc true TPage)], fix := [], may := true }
noncomputable def ref19_MergeL2O : List (Ex × Shape) := [(.exit 0, { n := 77, nx := 1, sl := [(5, .own TPage 0)], ob := [(0, .slc true TPage)], fix := [], may := true })]
noncomputable def ref19_MergeL2M : Sum := loopSum (Y := Int × (Val (.slice TPage)) × (Val (.slice TPage))) (Z := (Val (.slice TPage))) ref19_MergeL2S ref19_MergeL2O (fun d => d) (fun d => d) (iter ref19_MergeL2B)
noncomputable def ref19_MergeH : Nat → Option Sum := fun n => bif Nat.beq n 7 then some ref19_MergeL1M else bif Nat.beq n 4 then some ref19_MergeL2M else none
theorem ref19_MergeL1_bd (y : Int × Int × (Val (.slice TPage)) × (Val (.slice TPage))) : @Eq (Option ((Int × Int × (Val (.slice TPage)) × (Val (.slice TPage))) ⊕ (Int × Int × (Val (.slice TPage)) × (Val (.slice TPage))))) (exec ref19_MergeE ref19_MergeH ref19_MergeL1C (ref19_MergeL1S.mk' (show ref19_MergeL1S.D from y)) (kont (Y := Int × Int × (Val (.slice TPage)) × (Val (.slice TPage))) (Z := Int × Int × (Val (.slice TPage)) × (Val (.slice TPage))) ref19_MergeL1S ref19_MergeL1O (fun d => d) (fun d => d))) (ref19_MergeL1B y) := by kernel_rfl
theorem ref19_MergeL1_ok {w0 : World} {Jo : Io} (hfix : ∀ i b, Jo.fix i = some b → i ∈ []) (hmay : true = true → Jo.may) : SumOk PT w0 Jo ref19_MergeL1M (.loop ref19_MergeL1C) :=
  @loop_ok w0 Jo PT ref19_MergeE ref19_MergeH (Int × Int × (Val (.slice TPage)) × (Val (.slice TPage))) (Int × Int × (Val (.slice TPage)) × (Val (.slice TPage))) ref19_Merge_env mixed ref19_MergeL1C ref19_MergeL1S ref19_MergeL1O (fun d => d) (fun d => d) (fun d => d) (fun d => d) (fun _ => rfl) (fun _ => rfl) hfix hmay (by kernel_rfl) (noLoops (by kernel_rfl)) ref19_MergeL1B ref19_MergeL1_bd
theorem ref19_MergeL2_bd (y : Int × (Val (.slice TPage)) × (Val (.slice TPage))) : @Eq (Option ((Int × (Val (.slice TPage)) × (Val (.slice TPage))) ⊕ ((Val (.slice TPage))))) (exec ref19_MergeE ref19_MergeH ref19_MergeL2C (ref19_MergeL2S.mk' (show ref19_MergeL2S.D from y)) (kont (Y := Int × (Val (.slice TPage)) × (Val (.slice TPage))) (Z := (Val (.slice TPage))) ref19_MergeL2S ref19_MergeL2O (fun d => d) (fun d => d))) (ref19_MergeL2B y) := by kernel_rfl
theorem ref19_MergeL2_ok {w0 : World} {Jo : Io} (hfix : ∀ i b, Jo.fix i = some b → i ∈ []) (hmay : true = true → Jo.may) : SumOk PT w0 Jo ref19_MergeL2M (.loop ref19_MergeL2C) :=
  @loop_ok w0 Jo PT ref19_MergeE ref19_MergeH (Int × (Val (.slice TPage)) × (Val (.slice TPage))) ((Val (.slice TPage))) ref19_Merge_env mixed ref19_MergeL2C ref19_MergeL2S ref19_MergeL2O (fun d => d) (fun d => d) (fun d => d) (fun d => d) (fun _ => rfl) (fun _ => rfl) hfix hmay (by kernel_rfl) (loopsMk (by kernel_rfl) (loopsCons (c := ref19_MergeL1C) (n := 7) (f := ref19_MergeL1M) (by kernel_rfl) (by kernel_rfl) (ref19_MergeL1_ok hfix hmay) loopsNil)) ref19_MergeL2B ref19_MergeL2_bd
theorem ref19_Merge_bd (y : (Val (.slice TPage)) × (Val (.slice TPage))) : @Eq (Option ((Val (.slice TPage)))) (exec ref19_MergeE ref19_MergeH ref19_MergeC (ref19_MergeI.mk' (show ref19_MergeI.D from y)) (kontF (Z := (Val (.slice TPage))) ref19_MergeE Go.Proofs.Try.f39.results.toList ref19_MergeO (fun d => d))) (ref19_MergeF y) := by kernel_rfl
theorem ref19_Merge_lo {w0 : World} {Jo : Io} (hfix : ∀ i b, Jo.fix i = some b → i ∈ []) (hmay : true = true → Jo.may) : LoopsOk PT w0 Jo ref19_MergeH ref19_MergeC := (loopsMk (by kernel_rfl) (loopsCons (c := ref19_MergeL2C) (n := 4) (f := ref19_MergeL2M) (by kernel_rfl) (by kernel_rfl) (ref19_MergeL2_ok hfix hmay) (loopsCons (c := ref19_MergeL1C) (n := 7) (f := ref19_MergeL1M) (by kernel_rfl) (by kernel_rfl) (ref19_MergeL1_ok hfix hmay) loopsNil)))
theorem ref19_Merge_ctr : CtrOk PT 39 ref19_Mergect :=
  @ctr_ok PT ref19_MergeE ref19_MergeH ref19_Merge_env mixed 39 Go.Proofs.Try.f39 ref19_MergeC (by kernel_rfl) (by kernel_rfl) (enters_of (by kernel_rfl : PT.funcs[39]? = some Go.Proofs.Try.f39) (by kernel_rfl) (by kernel_rfl)) ref19_MergeI ref19_MergeO ((Val (.slice TPage)) × (Val (.slice TPage))) ((Val (.slice TPage))) (fun d => d) (fun d => d) (fun d => d) (fun d => d) (fun _ => rfl) (fun _ => rfl) (by kernel_rfl) (by kernel_rfl) ref19_MergeF ref19_Merge_bd (fun w0 Jo hfix hmay => ref19_Merge_lo hfix hmay)

noncomputable def law20_SegmentMergesL1b (x0 : Bool) (x1 : Int) (x2 : Val (.slice TPage)) (x3 : Val (.slice TPage)) : Option ((Bool × Int × (Val (.slice TPage)) × (Val (.slice TPage))) ⊕ (Bool × (Val (.slice TPage)) × (Val (.slice TPage)))) :=
  bif (decide (x1 < (((List.length x2) : Nat) : Int))) then (
    bif x0 then (
      bif (inR x1 (List.length x2)) then
      (hand_Pick (List.getD x2 (Int.toNat x1) ((0 : Int), ((0 : Int), ((List.replicate 7 (0 : Int)), ())))).1 (9 : Int)).bind fun r1 =>
      bif (inR x1 (List.length x2)) then
      some (Sum.inl (x0, ((IntKind.wrap .i64 (x1 + (1 : Int))), ((List.set x2 (Int.toNat x1) (r1, (List.getD x2 (Int.toNat x1) ((0 : Int), ((0 : Int), ((List.replicate 7 (0 : Int)), ())))).2)), x3))))
      else none
      else none)
    else (
      some (Sum.inr (x0, (x2, x3)))))
  else (
    some (Sum.inr (x0, (x2, x3))))
noncomputable def law20_SegmentMergesL1B : (Bool × Int × (Val (.slice TPage)) × (Val (.slice TPage))) → Option ((Bool × Int × (Val (.slice TPage)) × (Val (.slice TPage))) ⊕ (Bool × (Val (.slice TPage)) × (Val (.slice TPage)))) := fun y => law20_SegmentMergesL1b y.1 y.2.1 y.2.2.1 y.2.2.2
noncomputable def law20_SegmentMergesL1 (x0 : Bool) (x1 : Int) (x2 : Val (.slice TPage)) (x3 : Val (.slice TPage)) : Option (Bool × (Val (.slice TPage)) × (Val (.slice TPage))) := iter law20_SegmentMergesL1B (x0, (x1, (x2, x3)))
noncomputable def law20_SegmentMergesL2b (x0 : Bool) (x1 : Int) (x2 : Val (.slice TPage)) (x3 : Val (.slice TPage)) : Option ((Bool × Int × (Val (.slice TPage)) × (Val (.slice TPage))) ⊕ ((Val (.slice TPage)) × (Val (.slice TPage)))) :=
  bif (decide (x1 < (((List.length x3) : Nat) : Int))) then (
    bif x0 then (
      bif (inR x1 (List.length x3)) then
      (hand_Pick (List.getD x3 (Int.toNat x1) ((0 : Int), ((0 : Int), ((List.replicate 7 (0 : Int)), ())))).1 (9 : Int)).bind fun r1 =>
      bif (inR x1 (List.length x3)) then
      some (Sum.inl (x0, ((IntKind.wrap .i64 (x1 + (1 : Int))), (x2, (List.set x3 (Int.toNat x1) (r1, (List.getD x3 (Int.toNat x1) ((0 : Int), ((0 : Int), ((List.replicate 7 (0 : Int)), ())))).2))))))
      else none
      else none)
    else (
      some (Sum.inr (x2, x3))))
  else (
    some (Sum.inr (x2, x3)))
noncomputable def law20_SegmentMergesL2B : (Bool × Int × (Val (.slice TPage)) × (Val (.slice TPage))) → Option ((Bool × Int × (Val (.slice TPage)) × (Val (.slice TPage))) ⊕ ((Val (.slice TPage)) × (Val (.slice TPage)))) := fun y => law20_SegmentMergesL2b y.1 y.2.1 y.2.2.1 y.2.2.2
noncomputable def law20_SegmentMergesL2 (x0 : Bool) (x1 : Int) (x2 : Val (.slice TPage)) (x3 : Val (.slice TPage)) : Option ((Val (.slice TPage)) × (Val (.slice TPage))) := iter law20_SegmentMergesL2B (x0, (x1, (x2, x3)))
/-- bodega/bodegalaw20.SegmentMerges -/
noncomputable def law20_SegmentMerges (a0 : Val (.slice TPage)) (a1 : Val (.slice TPage)) (a2 : Bool) : Option Bool :=
  bif (decide ((20 : Int) < (((List.length a0) : Nat) : Int))) then (
    some true)
  else (
    bif (decide ((20 : Int) < (((List.length a1) : Nat) : Int))) then (
      some true)
    else (
      bif (decide ((0 + (List.length a0)) ≤ lim)) then
      bif (decide ((0 + (List.length a1)) ≤ lim)) then
      (law20_SegmentMergesL1 a2 (0 : Int) ([] ++ a0) ([] ++ a1)).bind fun r1 =>
      (law20_SegmentMergesL2 r1.1 (0 : Int) r1.2.1 r1.2.2).bind fun r2 =>
      (law20_awake).bind fun r3 =>
      bif r3 then (
        (segment_Merge r2.1 r2.2).bind fun r4 =>
        (ref19_Merge r2.1 r2.2).bind fun r5 =>
        (heap_SamePages r4 r5).bind fun r6 =>
        some r6)
      else (
        some false)
      else none
      else none))
noncomputable def law20_SegmentMergesI : Shape := { n := 73, nx := 0, sl := [(0, .dat false (.slice TPage)), (1, .dat false (.slice TPage)), (2, .dat false .bool)], ob := [], fix := [], may := true }
noncomputable def law20_SegmentMergesO : Shape := { n := 74, nx := 0, sl := [(73, .dat true .bool)], ob := [], fix := [], may := true }
noncomputable def law20_SegmentMergesF : ((Val (.slice TPage)) × (Val (.slice TPage)) × Bool) → Option Bool := fun y => law20_SegmentMerges y.1 y.2.1 y.2.2
noncomputable def law20_SegmentMergesct : Ctr := ctrOf law20_SegmentMergesI law20_SegmentMergesO (fun d => d) (fun d => d) law20_SegmentMergesF
noncomputable def law20_SegmentMergesE : Env := { tf := tfE, mt := mtE, fn := fun f => bif Nat.beq f 10 then some hand_Pickct else bif Nat.beq f 24 then some law20_awakect else bif Nat.beq f 38 then some segment_Mergect else bif Nat.beq f 39 then some ref19_Mergect else bif Nat.beq f 16 then some heap_SamePagesct else none }
theorem law20_SegmentMerges_env : EnvOk PT law20_SegmentMergesE := ⟨tyE, (fun f ct h => by
  simp only [law20_SegmentMergesE] at h
  refine envCons (c := hand_Pickct) h hand_Pick_ctr (fun h => ?_)
  refine envCons (c := law20_awakect) h law20_awake_ctr (fun h => ?_)
  refine envCons (c := segment_Mergect) h segment_Merge_ctr (fun h => ?_)
  refine envCons (c := ref19_Mergect) h ref19_Merge_ctr (fun h => ?_)
  refine envCons (c := heap_SamePagesct) h heap_SamePages_ctr (fun h => ?_)
  cases h), mapE⟩
noncomputable def law20_SegmentMergesC : Code := bodyOf Go.Proofs.Try.f7
noncomputable def law20_SegmentMergesL1C : Code := (loopsOf law20_SegmentMergesC).getD 0 .skip
noncomputable def law20_SegmentMergesL2C : Code := (loopsOf law20_SegmentMergesC).getD 1 .skip
noncomputable def law20_SegmentMergesL1S : Shape := { n := 73, nx := 2, sl := [(2, .dat false .bool), (7, .own TPage 0), (8, .own TPage 1), (9, .dat true (.int .i64))], ob := [(0, .slc true TPage), (1, .slc true TPage)], fix := [], may := true }
noncomputable def law20_SegmentMergesL1O : List (Ex × Shape) := [(.exit 0, { n := 73, nx := 2, sl := [(2, .dat false .bool), (7, .own TPage 0), (8, .own TPage 1)], ob := [(0, .slc true TPage), (1, .slc true TPage)], fix := [], may := true })]
noncomputable def law20_SegmentMergesL1M : Sum := loopSum (Y := Bool × Int × (Val (.slice TPage)) × (Val (.slice TPage))) (Z := Bool × (Val (.slice TPage)) × (Val (.slice TPage))) law20_SegmentMergesL1S law20_SegmentMergesL1O (fun d => d) (fun d => d) (iter law20_SegmentMergesL1B)
noncomputable def law20_SegmentMergesL2S : Shape := { n := 73, nx := 2, sl := [(2, .dat false .bool), (7, .own TPage 0), (8, .own TPage 1), (10, .dat true (.int .i64))], ob := [(0, .slc true TPage), (1, .slc true TPage)], fix := [], may := true }
noncomputable def law20_SegmentMergesL2O : List (Ex × Shape) := [(.exit 2, { n := 73, nx := 2, sl := [(7, .own TPage 0), (8, .own TPage 1)], ob := [(0, .slc true TPage), (1, .slc true TPage)], fix := [], may := true })]
noncomputable def law20_SegmentMergesL2M : Sum := loopSum (Y := Bool × Int × (Val (.slice TPage)) × (Val (.slice TPage))) (Z := (Val (.slice TPage)) × (Val (.slice TPage))) law20_SegmentMergesL2S law20_SegmentMergesL2O (fun d => d) (fun d => d) (iter law20_SegmentMergesL2B)
noncomputable def law20_SegmentMergesH : Nat → Option Sum := fun n => bif Nat.beq n 5 then some law20_SegmentMergesL1M else bif Nat.beq n 9 then some law20_SegmentMergesL2M else none
theorem law20_SegmentMergesL1_bd (y : Bool × Int × (Val (.slice TPage)) × (Val (.slice TPage))) : @Eq (Option ((Bool × Int × (Val (.slice TPage)) × (Val (.slice TPage))) ⊕ (Bool × (Val (.slice TPage)) × (Val (.slice TPage))))) (exec law20_SegmentMergesE law20_SegmentMergesH law20_SegmentMergesL1C (law20_SegmentMergesL1S.mk' (show law20_SegmentMergesL1S.D from y)) (kont (Y := Bool × Int × (Val (.slice TPage)) × (Val (.slice TPage))) (Z := Bool × (Val (.slice TPage)) × (Val (.slice TPage))) law20_SegmentMergesL1S law20_SegmentMergesL1O (fun d => d) (fun d => d))) (law20_SegmentMergesL1B y) := by kernel_rfl
theorem law20_SegmentMergesL1_ok {w0 : World} {Jo : Io} (hfix : ∀ i b, Jo.fix i = some b → i ∈ []) (hmay : true = true → Jo.may) : SumOk PT w0 Jo law20_SegmentMergesL1M (.loop law20_SegmentMergesL1C) :=
  @loop_ok w0 Jo PT law20_SegmentMergesE law20_SegmentMergesH (Bool × Int × (Val (.slice TPage)) × (Val (.slice TPage))) (Bool × (Val (.slice TPage)) × (Val (.slice TPage))) law20_SegmentMerges_env mixed law20_SegmentMergesL1C law20_SegmentMergesL1S law20_SegmentMergesL1O (fun d => d) (fun d => d) (fun d => d) (fun d => d) (fun _ => rfl) (fun _ => rfl) hfix hmay (by kernel_rfl) (noLoops (by kernel_rfl)) law20_SegmentMergesL1B law20_SegmentMergesL1_bd
theorem law20_SegmentMergesL2_bd (y : Bool × Int × (Val (.slice TPage)) × (Val (.slice TPage))) : @Eq (Option ((Bool × Int × (Val (.slice TPage)) × (Val (.slice TPage))) ⊕ ((Val (.slice TPage)) × (Val (.slice TPage))))) (exec law20_SegmentMergesE law20_SegmentMergesH law20_SegmentMergesL2C (law20_SegmentMergesL2S.mk' (show law20_SegmentMergesL2S.D from y)) (kont (Y := Bool × Int × (Val (.slice TPage)) × (Val (.slice TPage))) (Z := (Val (.slice TPage)) × (Val (.slice TPage))) law20_SegmentMergesL2S law20_SegmentMergesL2O (fun d => d) (fun d => d))) (law20_SegmentMergesL2B y) := by kernel_rfl
theorem law20_SegmentMergesL2_ok {w0 : World} {Jo : Io} (hfix : ∀ i b, Jo.fix i = some b → i ∈ []) (hmay : true = true → Jo.may) : SumOk PT w0 Jo law20_SegmentMergesL2M (.loop law20_SegmentMergesL2C) :=
  @loop_ok w0 Jo PT law20_SegmentMergesE law20_SegmentMergesH (Bool × Int × (Val (.slice TPage)) × (Val (.slice TPage))) ((Val (.slice TPage)) × (Val (.slice TPage))) law20_SegmentMerges_env mixed law20_SegmentMergesL2C law20_SegmentMergesL2S law20_SegmentMergesL2O (fun d => d) (fun d => d) (fun d => d) (fun d => d) (fun _ => rfl) (fun _ => rfl) hfix hmay (by kernel_rfl) (noLoops (by kernel_rfl)) law20_SegmentMergesL2B law20_SegmentMergesL2_bd
theorem law20_SegmentMerges_bd (y : (Val (.slice TPage)) × (Val (.slice TPage)) × Bool) : @Eq (Option Bool) (exec law20_SegmentMergesE law20_SegmentMergesH law20_SegmentMergesC (law20_SegmentMergesI.mk' (show law20_SegmentMergesI.D from y)) (kontF (Z := Bool) law20_SegmentMergesE Go.Proofs.Try.f7.results.toList law20_SegmentMergesO (fun d => d))) (law20_SegmentMergesF y) := by kernel_rfl
theorem law20_SegmentMerges_lo {w0 : World} {Jo : Io} (hfix : ∀ i b, Jo.fix i = some b → i ∈ []) (hmay : true = true → Jo.may) : LoopsOk PT w0 Jo law20_SegmentMergesH law20_SegmentMergesC := (loopsMk (by kernel_rfl) (loopsCons (c := law20_SegmentMergesL1C) (n := 5) (f := law20_SegmentMergesL1M) (by kernel_rfl) (by kernel_rfl) (law20_SegmentMergesL1_ok hfix hmay) (loopsCons (c := law20_SegmentMergesL2C) (n := 9) (f := law20_SegmentMergesL2M) (by kernel_rfl) (by kernel_rfl) (law20_SegmentMergesL2_ok hfix hmay) loopsNil)))
theorem law20_SegmentMerges_ctr : CtrOk PT 7 law20_SegmentMergesct :=
  @ctr_ok PT law20_SegmentMergesE law20_SegmentMergesH law20_SegmentMerges_env mixed 7 Go.Proofs.Try.f7 law20_SegmentMergesC (by kernel_rfl) (by kernel_rfl) (enters_of (by kernel_rfl : PT.funcs[7]? = some Go.Proofs.Try.f7) (by kernel_rfl) (by kernel_rfl)) law20_SegmentMergesI law20_SegmentMergesO ((Val (.slice TPage)) × (Val (.slice TPage)) × Bool) Bool (fun d => d) (fun d => d) (fun d => d) (fun d => d) (fun _ => rfl) (fun _ => rfl) (by kernel_rfl) (by kernel_rfl) law20_SegmentMergesF law20_SegmentMerges_bd (fun w0 Jo hfix hmay => law20_SegmentMerges_lo hfix hmay)

end Go.Sx

