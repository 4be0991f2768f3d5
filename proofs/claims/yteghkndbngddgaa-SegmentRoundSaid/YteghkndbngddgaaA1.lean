/- A1: printed by a program of this session: the functions of the seat as plain functions, and that the code comes to them. -/
import Derived.Test.YteghkndbngddgaaATypes
set_option linter.unusedVariables false
set_option maxRecDepth 100000
namespace Go.Sx
open Go.RowKit
/-- bodega/bodegahand.Pick -/
noncomputable def hand_Pick (a0 : Int) (a1 : Int) : Option Int :=
  bif (decide (a1 < (1 : Int))) then (
    some (0 : Int))
  else (
    bif (!(decide (a1 = (0 : Int)))) then
    bif (!(decide (a1 = (0 : Int)))) then
    some (Int.tmod (IntKind.wrap .i64 ((Int.tmod a0 a1) + a1)) a1)
    else none
    else none)
noncomputable def hand_PickI : Shape := { n := 14, nx := 0, sl := [(0, .dat false (.int .i64)), (1, .dat false (.int .i64))], ob := [], fix := [], may := true }
noncomputable def hand_PickO : Shape := { n := 15, nx := 0, sl := [(14, .dat true (.int .i64))], ob := [], fix := [], may := true }
noncomputable def hand_PickF : (Int × Int) → Option Int := fun y => hand_Pick y.1 y.2
noncomputable def hand_Pickct : Ctr := ctrOf hand_PickI hand_PickO (fun d => d) (fun d => d) hand_PickF
noncomputable def hand_PickE : Env := { tf := tfE, fn := fun f => none }
theorem hand_Pick_env : EnvOk PT hand_PickE := ⟨tyE, fun f ct h => by
  simp only [hand_PickE] at h
  cases h⟩
noncomputable def hand_PickC : Code := bodyOf Go.Proofs.Try.f10
noncomputable def hand_PickH : Nat → Option Sum := fun n => none
theorem hand_Pick_bd (y : Int × Int) : @Eq (Option Int) (exec hand_PickE hand_PickH hand_PickC (hand_PickI.mk' (show hand_PickI.D from y)) (kontF (Z := Int) hand_PickE Go.Proofs.Try.f10.results.toList hand_PickO (fun d => d))) (hand_PickF y) := by kernel_rfl
theorem hand_Pick_lo {w0 : World} {Jo : Io} (hfix : ∀ i b, Jo.fix i = some b → i ∈ []) (hmay : true = true → Jo.may) : LoopsOk PT w0 Jo hand_PickH hand_PickC := (noLoops (by kernel_rfl))
theorem hand_Pick_ctr : CtrOk PT 10 hand_Pickct :=
  @ctr_ok PT hand_PickE hand_PickH hand_Pick_env mixed 10 Go.Proofs.Try.f10 hand_PickC (by kernel_rfl) (by kernel_rfl) (enters_of (by kernel_rfl : PT.funcs[10]? = some Go.Proofs.Try.f10) (by kernel_rfl) (by kernel_rfl)) hand_PickI hand_PickO (Int × Int) Int (fun d => d) (fun d => d) (fun d => d) (fun d => d) (fun _ => rfl) (fun _ => rfl) (by kernel_rfl) (by kernel_rfl) hand_PickF hand_Pick_bd (fun w0 Jo hfix hmay => hand_Pick_lo hfix hmay)

/-- bodega/epoch.ReadEpoch -/
noncomputable def epoch_ReadEpoch (a0 : Val TPage) : Option (Int × Int) :=
  bif (!(decide (a0.1 = (97 : Int)))) then (
    some ((0 : Int), (1 : Int)))
  else (
    bif (!(eqV (.arr 7 (.int .u64)) a0.2.2.1 [(List.getD a0.2.2.1 0 (0 : Int)), (0 : Int), (0 : Int), (0 : Int), (0 : Int), (0 : Int), (0 : Int)])) then (
      some ((0 : Int), (14 : Int)))
    else (
      bif (decide ((4294967295 : Int) < (List.getD a0.2.2.1 0 (0 : Int)))) then (
        some ((0 : Int), (14 : Int)))
      else (
        some ((IntKind.wrap .u32 (List.getD a0.2.2.1 0 (0 : Int))), (0 : Int)))))
noncomputable def epoch_ReadEpochI : Shape := { n := 24, nx := 0, sl := [(0, .dat false TPage)], ob := [], fix := [], may := true }
noncomputable def epoch_ReadEpochO : Shape := { n := 25, nx := 0, sl := [(24, .tup (.cons (.dat true (.int .u32)) (.cons (.dat true (.int .i64)) (.nil))))], ob := [], fix := [], may := true }
noncomputable def epoch_ReadEpochF : ((Val TPage)) → Option (Int × Int) := fun y => epoch_ReadEpoch y
noncomputable def epoch_ReadEpochct : Ctr := ctrOf epoch_ReadEpochI epoch_ReadEpochO (fun d => d) (fun d => d) epoch_ReadEpochF
noncomputable def epoch_ReadEpochE : Env := { tf := tfE, fn := fun f => none }
theorem epoch_ReadEpoch_env : EnvOk PT epoch_ReadEpochE := ⟨tyE, fun f ct h => by
  simp only [epoch_ReadEpochE] at h
  cases h⟩
noncomputable def epoch_ReadEpochC : Code := bodyOf Go.Proofs.Try.f11
noncomputable def epoch_ReadEpochH : Nat → Option Sum := fun n => none
theorem epoch_ReadEpoch_bd (y : (Val TPage)) : @Eq (Option (Int × Int)) (exec epoch_ReadEpochE epoch_ReadEpochH epoch_ReadEpochC (epoch_ReadEpochI.mk' (show epoch_ReadEpochI.D from y)) (kontF (Z := Int × Int) epoch_ReadEpochE Go.Proofs.Try.f11.results.toList epoch_ReadEpochO (fun d => d))) (epoch_ReadEpochF y) := by kernel_rfl
theorem epoch_ReadEpoch_lo {w0 : World} {Jo : Io} (hfix : ∀ i b, Jo.fix i = some b → i ∈ []) (hmay : true = true → Jo.may) : LoopsOk PT w0 Jo epoch_ReadEpochH epoch_ReadEpochC := (noLoops (by kernel_rfl))
theorem epoch_ReadEpoch_ctr : CtrOk PT 11 epoch_ReadEpochct :=
  @ctr_ok PT epoch_ReadEpochE epoch_ReadEpochH epoch_ReadEpoch_env mixed 11 Go.Proofs.Try.f11 epoch_ReadEpochC (by kernel_rfl) (by kernel_rfl) (enters_of (by kernel_rfl : PT.funcs[11]? = some Go.Proofs.Try.f11) (by kernel_rfl) (by kernel_rfl)) epoch_ReadEpochI epoch_ReadEpochO ((Val TPage)) (Int × Int) (fun d => d) (fun d => d) (fun d => d) (fun d => d) (fun _ => rfl) (fun _ => rfl) (by kernel_rfl) (by kernel_rfl) epoch_ReadEpochF epoch_ReadEpoch_bd (fun w0 Jo hfix hmay => epoch_ReadEpoch_lo hfix hmay)

noncomputable def ref26_ReadEpochL1b (x0 : Int) (x1 : Val TPage) : Option ((Int × (Val TPage)) ⊕ (((Val TPage)) ⊕ (Int × Int))) :=
  bif (decide (x0 < (7 : Int))) then (
    bif (inR x0 7) then
    bif (!(decide ((List.getD x1.2.2.1 (Int.toNat x0) (0 : Int)) = (0 : Int)))) then (
      some (Sum.inr (Sum.inr ((0 : Int), (14 : Int)))))
    else (
      some (Sum.inl ((IntKind.wrap .i64 (x0 + (1 : Int))), x1)))
    else none)
  else (
    some (Sum.inr (Sum.inl x1)))
noncomputable def ref26_ReadEpochL1B : (Int × (Val TPage)) → Option ((Int × (Val TPage)) ⊕ (((Val TPage)) ⊕ (Int × Int))) := fun y => ref26_ReadEpochL1b y.1 y.2
noncomputable def ref26_ReadEpochL1 (x0 : Int) (x1 : Val TPage) : Option (((Val TPage)) ⊕ (Int × Int)) := iter ref26_ReadEpochL1B (x0, x1)
/-- bodega/bodegaref26.ReadEpoch -/
noncomputable def ref26_ReadEpoch (a0 : Val TPage) : Option (Int × Int) :=
  bif (!(decide (a0.1 = (97 : Int)))) then (
    some ((0 : Int), (1 : Int)))
  else (
    (ref26_ReadEpochL1 (1 : Int) a0).bind fun r1 =>
    match r1 with
    | .inl r2 => (
      bif (decide ((4294967296 : Int) ≤ (List.getD r2.2.2.1 0 (0 : Int)))) then (
        some ((0 : Int), (14 : Int)))
      else (
        some ((IntKind.wrap .u32 (List.getD r2.2.2.1 0 (0 : Int))), (0 : Int))))
    | .inr r3 => (
      some (r3.1, r3.2)))
noncomputable def ref26_ReadEpochI : Shape := { n := 25, nx := 0, sl := [(0, .dat false TPage)], ob := [], fix := [], may := true }
noncomputable def ref26_ReadEpochO : Shape := { n := 26, nx := 0, sl := [(25, .tup (.cons (.dat true (.int .u32)) (.cons (.dat true (.int .i64)) (.nil))))], ob := [], fix := [], may := true }
noncomputable def ref26_ReadEpochF : ((Val TPage)) → Option (Int × Int) := fun y => ref26_ReadEpoch y
noncomputable def ref26_ReadEpochct : Ctr := ctrOf ref26_ReadEpochI ref26_ReadEpochO (fun d => d) (fun d => d) ref26_ReadEpochF
noncomputable def ref26_ReadEpochE : Env := { tf := tfE, fn := fun f => none }
theorem ref26_ReadEpoch_env : EnvOk PT ref26_ReadEpochE := ⟨tyE, fun f ct h => by
  simp only [ref26_ReadEpochE] at h
  cases h⟩
noncomputable def ref26_ReadEpochC : Code := bodyOf Go.Proofs.Try.f12
noncomputable def ref26_ReadEpochL1C : Code := (loopsOf ref26_ReadEpochC).getD 0 .skip
noncomputable def ref26_ReadEpochL1S : Shape := { n := 25, nx := 1, sl := [(1, .ref 0 []), (4, .dat true (.int .i64))], ob := [(0, .box TPage (.dat false TPage))], fix := [], may := true }
noncomputable def ref26_ReadEpochL1O : List (Ex × Shape) := [(.exit 0, { n := 25, nx := 1, sl := [(1, .ref 0 [])], ob := [(0, .box TPage (.dat false TPage))], fix := [], may := true }), (.ret, { n := 25, nx := 0, sl := [(2, .dat true (.int .u32)), (3, .dat true (.int .i64))], ob := [], fix := [], may := true })]
noncomputable def ref26_ReadEpochL1M : Sum := loopSum (Y := Int × (Val TPage)) (Z := ((Val TPage)) ⊕ (Int × Int)) ref26_ReadEpochL1S ref26_ReadEpochL1O (fun d => d) (fun d => d) (iter ref26_ReadEpochL1B)
noncomputable def ref26_ReadEpochH : Nat → Option Sum := fun n => bif Nat.beq n 4 then some ref26_ReadEpochL1M else none
theorem ref26_ReadEpochL1_bd (y : Int × (Val TPage)) : @Eq (Option ((Int × (Val TPage)) ⊕ (((Val TPage)) ⊕ (Int × Int)))) (exec ref26_ReadEpochE ref26_ReadEpochH ref26_ReadEpochL1C (ref26_ReadEpochL1S.mk' (show ref26_ReadEpochL1S.D from y)) (kont (Y := Int × (Val TPage)) (Z := ((Val TPage)) ⊕ (Int × Int)) ref26_ReadEpochL1S ref26_ReadEpochL1O (fun d => d) (fun d => d))) (ref26_ReadEpochL1B y) := by kernel_rfl
theorem ref26_ReadEpochL1_ok {w0 : World} {Jo : Io} (hfix : ∀ i b, Jo.fix i = some b → i ∈ []) (hmay : true = true → Jo.may) : SumOk PT w0 Jo ref26_ReadEpochL1M (.loop ref26_ReadEpochL1C) :=
  @loop_ok w0 Jo PT ref26_ReadEpochE ref26_ReadEpochH (Int × (Val TPage)) (((Val TPage)) ⊕ (Int × Int)) ref26_ReadEpoch_env mixed ref26_ReadEpochL1C ref26_ReadEpochL1S ref26_ReadEpochL1O (fun d => d) (fun d => d) (fun d => d) (fun d => d) (fun _ => rfl) (fun _ => rfl) hfix hmay (by kernel_rfl) (noLoops (by kernel_rfl)) ref26_ReadEpochL1B ref26_ReadEpochL1_bd
theorem ref26_ReadEpoch_bd (y : (Val TPage)) : @Eq (Option (Int × Int)) (exec ref26_ReadEpochE ref26_ReadEpochH ref26_ReadEpochC (ref26_ReadEpochI.mk' (show ref26_ReadEpochI.D from y)) (kontF (Z := Int × Int) ref26_ReadEpochE Go.Proofs.Try.f12.results.toList ref26_ReadEpochO (fun d => d))) (ref26_ReadEpochF y) := by kernel_rfl
theorem ref26_ReadEpoch_lo {w0 : World} {Jo : Io} (hfix : ∀ i b, Jo.fix i = some b → i ∈ []) (hmay : true = true → Jo.may) : LoopsOk PT w0 Jo ref26_ReadEpochH ref26_ReadEpochC := (loopsMk (by kernel_rfl) (loopsCons (c := ref26_ReadEpochL1C) (n := 4) (f := ref26_ReadEpochL1M) (by kernel_rfl) (by kernel_rfl) (ref26_ReadEpochL1_ok hfix hmay) loopsNil))
theorem ref26_ReadEpoch_ctr : CtrOk PT 12 ref26_ReadEpochct :=
  @ctr_ok PT ref26_ReadEpochE ref26_ReadEpochH ref26_ReadEpoch_env mixed 12 Go.Proofs.Try.f12 ref26_ReadEpochC (by kernel_rfl) (by kernel_rfl) (enters_of (by kernel_rfl : PT.funcs[12]? = some Go.Proofs.Try.f12) (by kernel_rfl) (by kernel_rfl)) ref26_ReadEpochI ref26_ReadEpochO ((Val TPage)) (Int × Int) (fun d => d) (fun d => d) (fun d => d) (fun d => d) (fun _ => rfl) (fun _ => rfl) (by kernel_rfl) (by kernel_rfl) ref26_ReadEpochF ref26_ReadEpoch_bd (fun w0 Jo hfix hmay => ref26_ReadEpoch_lo hfix hmay)

/-- bodega/epoch.WriteEpoch -/
noncomputable def epoch_WriteEpoch (a0 : Val TPage) (a1 : Int) : Option ((Val TPage) × Int) :=
  bif (!(decide (a0.1 = (97 : Int)))) then (
    some (((0 : Int), ((0 : Int), ((List.replicate 7 (0 : Int)), ()))), (1 : Int)))
  else (
    some ((a0.1, (a0.2.1, ([(IntKind.wrap .u64 a1), (0 : Int), (0 : Int), (0 : Int), (0 : Int), (0 : Int), (0 : Int)], a0.2.2.2))), (0 : Int)))
noncomputable def epoch_WriteEpochI : Shape := { n := 15, nx := 0, sl := [(0, .dat false TPage), (1, .dat false (.int .u32))], ob := [], fix := [], may := true }
noncomputable def epoch_WriteEpochO : Shape := { n := 16, nx := 0, sl := [(15, .tup (.cons (.dat false TPage) (.cons (.dat true (.int .i64)) (.nil))))], ob := [], fix := [], may := true }
noncomputable def epoch_WriteEpochF : ((Val TPage) × Int) → Option ((Val TPage) × Int) := fun y => epoch_WriteEpoch y.1 y.2
noncomputable def epoch_WriteEpochct : Ctr := ctrOf epoch_WriteEpochI epoch_WriteEpochO (fun d => d) (fun d => d) epoch_WriteEpochF
noncomputable def epoch_WriteEpochE : Env := { tf := tfE, fn := fun f => none }
theorem epoch_WriteEpoch_env : EnvOk PT epoch_WriteEpochE := ⟨tyE, fun f ct h => by
  simp only [epoch_WriteEpochE] at h
  cases h⟩
noncomputable def epoch_WriteEpochC : Code := bodyOf Go.Proofs.Try.f13
noncomputable def epoch_WriteEpochH : Nat → Option Sum := fun n => none
theorem epoch_WriteEpoch_bd (y : (Val TPage) × Int) : @Eq (Option ((Val TPage) × Int)) (exec epoch_WriteEpochE epoch_WriteEpochH epoch_WriteEpochC (epoch_WriteEpochI.mk' (show epoch_WriteEpochI.D from y)) (kontF (Z := (Val TPage) × Int) epoch_WriteEpochE Go.Proofs.Try.f13.results.toList epoch_WriteEpochO (fun d => d))) (epoch_WriteEpochF y) := by kernel_rfl
theorem epoch_WriteEpoch_lo {w0 : World} {Jo : Io} (hfix : ∀ i b, Jo.fix i = some b → i ∈ []) (hmay : true = true → Jo.may) : LoopsOk PT w0 Jo epoch_WriteEpochH epoch_WriteEpochC := (noLoops (by kernel_rfl))
theorem epoch_WriteEpoch_ctr : CtrOk PT 13 epoch_WriteEpochct :=
  @ctr_ok PT epoch_WriteEpochE epoch_WriteEpochH epoch_WriteEpoch_env mixed 13 Go.Proofs.Try.f13 epoch_WriteEpochC (by kernel_rfl) (by kernel_rfl) (enters_of (by kernel_rfl : PT.funcs[13]? = some Go.Proofs.Try.f13) (by kernel_rfl) (by kernel_rfl)) epoch_WriteEpochI epoch_WriteEpochO ((Val TPage) × Int) ((Val TPage) × Int) (fun d => d) (fun d => d) (fun d => d) (fun d => d) (fun _ => rfl) (fun _ => rfl) (by kernel_rfl) (by kernel_rfl) epoch_WriteEpochF epoch_WriteEpoch_bd (fun w0 Jo hfix hmay => epoch_WriteEpoch_lo hfix hmay)

/-- bodega/bodegaref26.WriteEpoch -/
noncomputable def ref26_WriteEpoch (a0 : Val TPage) (a1 : Int) : Option ((Val TPage) × Int) :=
  bif (!(decide (a0.1 = (97 : Int)))) then (
    some (((0 : Int), ((0 : Int), ((List.replicate 7 (0 : Int)), ()))), (1 : Int)))
  else (
    some ((a0.1, (a0.2.1, ((List.set (List.replicate 7 (0 : Int)) 0 (IntKind.wrap .u64 a1)), ()))), (0 : Int)))
noncomputable def ref26_WriteEpochI : Shape := { n := 21, nx := 0, sl := [(0, .dat false TPage), (1, .dat false (.int .u32))], ob := [], fix := [], may := true }
noncomputable def ref26_WriteEpochO : Shape := { n := 22, nx := 0, sl := [(21, .tup (.cons (.dat true TPage) (.cons (.dat true (.int .i64)) (.nil))))], ob := [], fix := [], may := true }
noncomputable def ref26_WriteEpochF : ((Val TPage) × Int) → Option ((Val TPage) × Int) := fun y => ref26_WriteEpoch y.1 y.2
noncomputable def ref26_WriteEpochct : Ctr := ctrOf ref26_WriteEpochI ref26_WriteEpochO (fun d => d) (fun d => d) ref26_WriteEpochF
noncomputable def ref26_WriteEpochE : Env := { tf := tfE, fn := fun f => none }
theorem ref26_WriteEpoch_env : EnvOk PT ref26_WriteEpochE := ⟨tyE, fun f ct h => by
  simp only [ref26_WriteEpochE] at h
  cases h⟩
noncomputable def ref26_WriteEpochC : Code := bodyOf Go.Proofs.Try.f14
noncomputable def ref26_WriteEpochH : Nat → Option Sum := fun n => none
theorem ref26_WriteEpoch_bd (y : (Val TPage) × Int) : @Eq (Option ((Val TPage) × Int)) (exec ref26_WriteEpochE ref26_WriteEpochH ref26_WriteEpochC (ref26_WriteEpochI.mk' (show ref26_WriteEpochI.D from y)) (kontF (Z := (Val TPage) × Int) ref26_WriteEpochE Go.Proofs.Try.f14.results.toList ref26_WriteEpochO (fun d => d))) (ref26_WriteEpochF y) := by kernel_rfl
theorem ref26_WriteEpoch_lo {w0 : World} {Jo : Io} (hfix : ∀ i b, Jo.fix i = some b → i ∈ []) (hmay : true = true → Jo.may) : LoopsOk PT w0 Jo ref26_WriteEpochH ref26_WriteEpochC := (noLoops (by kernel_rfl))
theorem ref26_WriteEpoch_ctr : CtrOk PT 14 ref26_WriteEpochct :=
  @ctr_ok PT ref26_WriteEpochE ref26_WriteEpochH ref26_WriteEpoch_env mixed 14 Go.Proofs.Try.f14 ref26_WriteEpochC (by kernel_rfl) (by kernel_rfl) (enters_of (by kernel_rfl : PT.funcs[14]? = some Go.Proofs.Try.f14) (by kernel_rfl) (by kernel_rfl)) ref26_WriteEpochI ref26_WriteEpochO ((Val TPage) × Int) ((Val TPage) × Int) (fun d => d) (fun d => d) (fun d => d) (fun d => d) (fun _ => rfl) (fun _ => rfl) (by kernel_rfl) (by kernel_rfl) ref26_WriteEpochF ref26_WriteEpoch_bd (fun w0 Jo hfix hmay => ref26_WriteEpoch_lo hfix hmay)

/-- bodega/epoch.Safe -/
noncomputable def epoch_Safe (a0 : Int) (a1 : Int) : Option Bool :=
  some (decide ((IntKind.wrap .u64 ((IntKind.wrap .u64 a1) + (2 : Int))) ≤ (IntKind.wrap .u64 a0)))
noncomputable def epoch_SafeI : Shape := { n := 11, nx := 0, sl := [(0, .dat false (.int .u32)), (1, .dat false (.int .u32))], ob := [], fix := [], may := true }
noncomputable def epoch_SafeO : Shape := { n := 12, nx := 0, sl := [(11, .dat true .bool)], ob := [], fix := [], may := true }
noncomputable def epoch_SafeF : (Int × Int) → Option Bool := fun y => epoch_Safe y.1 y.2
noncomputable def epoch_Safect : Ctr := ctrOf epoch_SafeI epoch_SafeO (fun d => d) (fun d => d) epoch_SafeF
noncomputable def epoch_SafeE : Env := { tf := tfE, fn := fun f => none }
theorem epoch_Safe_env : EnvOk PT epoch_SafeE := ⟨tyE, fun f ct h => by
  simp only [epoch_SafeE] at h
  cases h⟩
noncomputable def epoch_SafeC : Code := bodyOf Go.Proofs.Try.f17
noncomputable def epoch_SafeH : Nat → Option Sum := fun n => none
theorem epoch_Safe_bd (y : Int × Int) : @Eq (Option Bool) (exec epoch_SafeE epoch_SafeH epoch_SafeC (epoch_SafeI.mk' (show epoch_SafeI.D from y)) (kontF (Z := Bool) epoch_SafeE Go.Proofs.Try.f17.results.toList epoch_SafeO (fun d => d))) (epoch_SafeF y) := by kernel_rfl
theorem epoch_Safe_lo {w0 : World} {Jo : Io} (hfix : ∀ i b, Jo.fix i = some b → i ∈ []) (hmay : true = true → Jo.may) : LoopsOk PT w0 Jo epoch_SafeH epoch_SafeC := (noLoops (by kernel_rfl))
theorem epoch_Safe_ctr : CtrOk PT 17 epoch_Safect :=
  @ctr_ok PT epoch_SafeE epoch_SafeH epoch_Safe_env mixed 17 Go.Proofs.Try.f17 epoch_SafeC (by kernel_rfl) (by kernel_rfl) (enters_of (by kernel_rfl : PT.funcs[17]? = some Go.Proofs.Try.f17) (by kernel_rfl) (by kernel_rfl)) epoch_SafeI epoch_SafeO (Int × Int) Bool (fun d => d) (fun d => d) (fun d => d) (fun d => d) (fun _ => rfl) (fun _ => rfl) (by kernel_rfl) (by kernel_rfl) epoch_SafeF epoch_Safe_bd (fun w0 Jo hfix hmay => epoch_Safe_lo hfix hmay)

/-- bodega/bodegalaw26.awake -/
noncomputable def law26_awake  : Option Bool :=
  (epoch_Safe (5 : Int) (3 : Int)).bind fun r1 =>
  bif r1 then (
    (epoch_Safe (4 : Int) (3 : Int)).bind fun r2 =>
    some (!r2))
  else (
    some false)
noncomputable def law26_awakeI : Shape := { n := 6, nx := 0, sl := [], ob := [], fix := [], may := true }
noncomputable def law26_awakeO : Shape := { n := 7, nx := 0, sl := [(6, .dat true .bool)], ob := [], fix := [], may := true }
noncomputable def law26_awakeF : Unit → Option Bool := fun y => law26_awake 
noncomputable def law26_awakect : Ctr := ctrOf law26_awakeI law26_awakeO (fun d => d) (fun d => d) law26_awakeF
noncomputable def law26_awakeE : Env := { tf := tfE, fn := fun f => bif Nat.beq f 17 then some epoch_Safect else none }
theorem law26_awake_env : EnvOk PT law26_awakeE := ⟨tyE, fun f ct h => by
  simp only [law26_awakeE] at h
  refine envCons (c := epoch_Safect) h epoch_Safe_ctr (fun h => ?_)
  cases h⟩
noncomputable def law26_awakeC : Code := bodyOf Go.Proofs.Try.f15
noncomputable def law26_awakeH : Nat → Option Sum := fun n => none
theorem law26_awake_bd (y : Unit) : @Eq (Option Bool) (exec law26_awakeE law26_awakeH law26_awakeC (law26_awakeI.mk' (show law26_awakeI.D from y)) (kontF (Z := Bool) law26_awakeE Go.Proofs.Try.f15.results.toList law26_awakeO (fun d => d))) (law26_awakeF y) := by kernel_rfl
theorem law26_awake_lo {w0 : World} {Jo : Io} (hfix : ∀ i b, Jo.fix i = some b → i ∈ []) (hmay : true = true → Jo.may) : LoopsOk PT w0 Jo law26_awakeH law26_awakeC := (noLoops (by kernel_rfl))
theorem law26_awake_ctr : CtrOk PT 15 law26_awakect :=
  @ctr_ok PT law26_awakeE law26_awakeH law26_awake_env mixed 15 Go.Proofs.Try.f15 law26_awakeC (by kernel_rfl) (by kernel_rfl) (enters_of (by kernel_rfl : PT.funcs[15]? = some Go.Proofs.Try.f15) (by kernel_rfl) (by kernel_rfl)) law26_awakeI law26_awakeO Unit Bool (fun d => d) (fun d => d) (fun d => d) (fun d => d) (fun _ => rfl) (fun _ => rfl) (by kernel_rfl) (by kernel_rfl) law26_awakeF law26_awake_bd (fun w0 Jo hfix hmay => law26_awake_lo hfix hmay)

noncomputable def heap_SamePagesL1b (x0 : Val (.slice TPage)) (x1 : Val (.slice TPage)) (x2 : Int) : Option (((Val (.slice TPage)) × (Val (.slice TPage)) × Int) ⊕ ((Unit) ⊕ (Bool))) :=
  bif (decide (x2 < (((List.length x0) : Nat) : Int))) then (
    bif (inR x2 (List.length x0)) then
    bif (inR x2 (List.length x1)) then
    bif (!(decide ((List.getD x0 (Int.toNat x2) ((0 : Int), ((0 : Int), ((List.replicate 7 (0 : Int)), ())))).1 = (List.getD x1 (Int.toNat x2) ((0 : Int), ((0 : Int), ((List.replicate 7 (0 : Int)), ())))).1))) then (
      some (Sum.inr (Sum.inr false)))
    else (
      bif (inR x2 (List.length x0)) then
      bif (inR x2 (List.length x1)) then
      bif (!(decide ((List.getD x0 (Int.toNat x2) ((0 : Int), ((0 : Int), ((List.replicate 7 (0 : Int)), ())))).2.1 = (List.getD x1 (Int.toNat x2) ((0 : Int), ((0 : Int), ((List.replicate 7 (0 : Int)), ())))).2.1))) then (
        some (Sum.inr (Sum.inr false)))
      else (
        bif (inR x2 (List.length x0)) then
        bif (inR x2 (List.length x1)) then
        bif (!(eqV (.arr 7 (.int .u64)) (List.getD x0 (Int.toNat x2) ((0 : Int), ((0 : Int), ((List.replicate 7 (0 : Int)), ())))).2.2.1 (List.getD x1 (Int.toNat x2) ((0 : Int), ((0 : Int), ((List.replicate 7 (0 : Int)), ())))).2.2.1)) then (
          some (Sum.inr (Sum.inr false)))
        else (
          some (Sum.inl (x0, (x1, (IntKind.wrap .i64 (x2 + (1 : Int)))))))
        else none
        else none)
      else none
      else none)
    else none
    else none)
  else (
    some (Sum.inr (Sum.inl ())))
noncomputable def heap_SamePagesL1B : ((Val (.slice TPage)) × (Val (.slice TPage)) × Int) → Option (((Val (.slice TPage)) × (Val (.slice TPage)) × Int) ⊕ ((Unit) ⊕ (Bool))) := fun y => heap_SamePagesL1b y.1 y.2.1 y.2.2
noncomputable def heap_SamePagesL1 (x0 : Val (.slice TPage)) (x1 : Val (.slice TPage)) (x2 : Int) : Option ((Unit) ⊕ (Bool)) := iter heap_SamePagesL1B (x0, (x1, x2))
/-- bodega/bodegaheap.SamePages -/
noncomputable def heap_SamePages (a0 : Val (.slice TPage)) (a1 : Val (.slice TPage)) : Option Bool :=
  bif (!(decide ((((List.length a0) : Nat) : Int) = (((List.length a1) : Nat) : Int)))) then (
    some false)
  else (
    (heap_SamePagesL1 a0 a1 (0 : Int)).bind fun r1 =>
    match r1 with
    | .inl r2 => (
      some true)
    | .inr r3 => (
      some r3))
noncomputable def heap_SamePagesI : Shape := { n := 54, nx := 0, sl := [(0, .dat false (.slice TPage)), (1, .dat false (.slice TPage))], ob := [], fix := [], may := true }
noncomputable def heap_SamePagesO : Shape := { n := 55, nx := 0, sl := [(54, .dat true .bool)], ob := [], fix := [], may := true }
noncomputable def heap_SamePagesF : ((Val (.slice TPage)) × (Val (.slice TPage))) → Option Bool := fun y => heap_SamePages y.1 y.2
noncomputable def heap_SamePagesct : Ctr := ctrOf heap_SamePagesI heap_SamePagesO (fun d => d) (fun d => d) heap_SamePagesF
noncomputable def heap_SamePagesE : Env := { tf := tfE, fn := fun f => none }
theorem heap_SamePages_env : EnvOk PT heap_SamePagesE := ⟨tyE, fun f ct h => by
  simp only [heap_SamePagesE] at h
  cases h⟩
noncomputable def heap_SamePagesC : Code := bodyOf Go.Proofs.Try.f16
noncomputable def heap_SamePagesL1C : Code := (loopsOf heap_SamePagesC).getD 0 .skip
noncomputable def heap_SamePagesL1S : Shape := { n := 54, nx := 0, sl := [(0, .dat false (.slice TPage)), (1, .dat false (.slice TPage)), (5, .dat true (.int .i64))], ob := [], fix := [], may := true }
noncomputable def heap_SamePagesL1O : List (Ex × Shape) := [(.exit 0, { n := 54, nx := 0, sl := [], ob := [], fix := [], may := true }), (.ret, { n := 54, nx := 0, sl := [(4, .dat true .bool)], ob := [], fix := [], may := true })]
noncomputable def heap_SamePagesL1M : Sum := loopSum (Y := (Val (.slice TPage)) × (Val (.slice TPage)) × Int) (Z := (Unit) ⊕ (Bool)) heap_SamePagesL1S heap_SamePagesL1O (fun d => d) (fun d => d) (iter heap_SamePagesL1B)
noncomputable def heap_SamePagesH : Nat → Option Sum := fun n => bif Nat.beq n 4 then some heap_SamePagesL1M else none
theorem heap_SamePagesL1_bd (y : (Val (.slice TPage)) × (Val (.slice TPage)) × Int) : @Eq (Option (((Val (.slice TPage)) × (Val (.slice TPage)) × Int) ⊕ ((Unit) ⊕ (Bool)))) (exec heap_SamePagesE heap_SamePagesH heap_SamePagesL1C (heap_SamePagesL1S.mk' (show heap_SamePagesL1S.D from y)) (kont (Y := (Val (.slice TPage)) × (Val (.slice TPage)) × Int) (Z := (Unit) ⊕ (Bool)) heap_SamePagesL1S heap_SamePagesL1O (fun d => d) (fun d => d))) (heap_SamePagesL1B y) := by kernel_rfl
theorem heap_SamePagesL1_ok {w0 : World} {Jo : Io} (hfix : ∀ i b, Jo.fix i = some b → i ∈ []) (hmay : true = true → Jo.may) : SumOk PT w0 Jo heap_SamePagesL1M (.loop heap_SamePagesL1C) :=
  @loop_ok w0 Jo PT heap_SamePagesE heap_SamePagesH ((Val (.slice TPage)) × (Val (.slice TPage)) × Int) ((Unit) ⊕ (Bool)) heap_SamePages_env mixed heap_SamePagesL1C heap_SamePagesL1S heap_SamePagesL1O (fun d => d) (fun d => d) (fun d => d) (fun d => d) (fun _ => rfl) (fun _ => rfl) hfix hmay (by kernel_rfl) (noLoops (by kernel_rfl)) heap_SamePagesL1B heap_SamePagesL1_bd
theorem heap_SamePages_bd (y : (Val (.slice TPage)) × (Val (.slice TPage))) : @Eq (Option Bool) (exec heap_SamePagesE heap_SamePagesH heap_SamePagesC (heap_SamePagesI.mk' (show heap_SamePagesI.D from y)) (kontF (Z := Bool) heap_SamePagesE Go.Proofs.Try.f16.results.toList heap_SamePagesO (fun d => d))) (heap_SamePagesF y) := by kernel_rfl
theorem heap_SamePages_lo {w0 : World} {Jo : Io} (hfix : ∀ i b, Jo.fix i = some b → i ∈ []) (hmay : true = true → Jo.may) : LoopsOk PT w0 Jo heap_SamePagesH heap_SamePagesC := (loopsMk (by kernel_rfl) (loopsCons (c := heap_SamePagesL1C) (n := 4) (f := heap_SamePagesL1M) (by kernel_rfl) (by kernel_rfl) (heap_SamePagesL1_ok hfix hmay) loopsNil))
theorem heap_SamePages_ctr : CtrOk PT 16 heap_SamePagesct :=
  @ctr_ok PT heap_SamePagesE heap_SamePagesH heap_SamePages_env mixed 16 Go.Proofs.Try.f16 heap_SamePagesC (by kernel_rfl) (by kernel_rfl) (enters_of (by kernel_rfl : PT.funcs[16]? = some Go.Proofs.Try.f16) (by kernel_rfl) (by kernel_rfl)) heap_SamePagesI heap_SamePagesO ((Val (.slice TPage)) × (Val (.slice TPage))) Bool (fun d => d) (fun d => d) (fun d => d) (fun d => d) (fun _ => rfl) (fun _ => rfl) (by kernel_rfl) (by kernel_rfl) heap_SamePagesF heap_SamePages_bd (fun w0 Jo hfix hmay => heap_SamePages_lo hfix hmay)

/-- bodega/bodegaref26.Safe -/
noncomputable def ref26_Safe (a0 : Int) (a1 : Int) : Option Bool :=
  some (decide ((IntKind.wrap .u64 ((IntKind.wrap .u64 a1) + (2 : Int))) ≤ (IntKind.wrap .u64 a0)))
noncomputable def ref26_SafeI : Shape := { n := 11, nx := 0, sl := [(0, .dat false (.int .u32)), (1, .dat false (.int .u32))], ob := [], fix := [], may := true }
noncomputable def ref26_SafeO : Shape := { n := 12, nx := 0, sl := [(11, .dat true .bool)], ob := [], fix := [], may := true }
noncomputable def ref26_SafeF : (Int × Int) → Option Bool := fun y => ref26_Safe y.1 y.2
noncomputable def ref26_Safect : Ctr := ctrOf ref26_SafeI ref26_SafeO (fun d => d) (fun d => d) ref26_SafeF
noncomputable def ref26_SafeE : Env := { tf := tfE, fn := fun f => none }
theorem ref26_Safe_env : EnvOk PT ref26_SafeE := ⟨tyE, fun f ct h => by
  simp only [ref26_SafeE] at h
  cases h⟩
noncomputable def ref26_SafeC : Code := bodyOf Go.Proofs.Try.f18
noncomputable def ref26_SafeH : Nat → Option Sum := fun n => none
theorem ref26_Safe_bd (y : Int × Int) : @Eq (Option Bool) (exec ref26_SafeE ref26_SafeH ref26_SafeC (ref26_SafeI.mk' (show ref26_SafeI.D from y)) (kontF (Z := Bool) ref26_SafeE Go.Proofs.Try.f18.results.toList ref26_SafeO (fun d => d))) (ref26_SafeF y) := by kernel_rfl
theorem ref26_Safe_lo {w0 : World} {Jo : Io} (hfix : ∀ i b, Jo.fix i = some b → i ∈ []) (hmay : true = true → Jo.may) : LoopsOk PT w0 Jo ref26_SafeH ref26_SafeC := (noLoops (by kernel_rfl))
theorem ref26_Safe_ctr : CtrOk PT 18 ref26_Safect :=
  @ctr_ok PT ref26_SafeE ref26_SafeH ref26_Safe_env mixed 18 Go.Proofs.Try.f18 ref26_SafeC (by kernel_rfl) (by kernel_rfl) (enters_of (by kernel_rfl : PT.funcs[18]? = some Go.Proofs.Try.f18) (by kernel_rfl) (by kernel_rfl)) ref26_SafeI ref26_SafeO (Int × Int) Bool (fun d => d) (fun d => d) (fun d => d) (fun d => d) (fun _ => rfl) (fun _ => rfl) (by kernel_rfl) (by kernel_rfl) ref26_SafeF ref26_Safe_bd (fun w0 Jo hfix hmay => ref26_Safe_lo hfix hmay)

/-- bodega/bodegalaw26.EpochPages -/
noncomputable def law26_EpochPages (a0 : Val TPage) (a1 : Int) (a2 : Int) (a3 : Int) (a4 : Int) : Option Bool :=
  (hand_Pick a4 (4 : Int)).bind fun r1 =>
  bif (decide ((0 : Int) < r1)) then (
    (hand_Pick (IntKind.wrap .i64 (Int.tdiv a4 (4 : Int))) (7 : Int)).bind fun r2 =>
    bif (inR r2 7) then
    (hand_Pick (IntKind.wrap .i64 (Int.tdiv a4 (28 : Int))) (3 : Int)).bind fun r3 =>
    bif (inR r2 7) then
    (hand_Pick (IntKind.wrap .i64 (Int.tdiv a4 (84 : Int))) (6 : Int)).bind fun r4 =>
    (epoch_ReadEpoch ((97 : Int), (a0.2.1, ((List.set [(Int.tmod (List.getD a0.2.2.1 0 (0 : Int)) (4294967301 : Int)), (0 : Int), (0 : Int), (0 : Int), (0 : Int), (0 : Int), (0 : Int)] (Int.toNat r2) (IntKind.wrap .u64 ((List.getD [(Int.tmod (List.getD a0.2.2.1 0 (0 : Int)) (4294967301 : Int)), (0 : Int), (0 : Int), (0 : Int), (0 : Int), (0 : Int), (0 : Int)] (Int.toNat r2) (0 : Int)) + (IntKind.wrap .u64 (IntKind.wrap .i64 (Int.tdiv r3 (2 : Int))))))), a0.2.2.2)))).bind fun r5 =>
    (ref26_ReadEpoch ((97 : Int), (a0.2.1, ((List.set [(Int.tmod (List.getD a0.2.2.1 0 (0 : Int)) (4294967301 : Int)), (0 : Int), (0 : Int), (0 : Int), (0 : Int), (0 : Int), (0 : Int)] (Int.toNat r2) (IntKind.wrap .u64 ((List.getD [(Int.tmod (List.getD a0.2.2.1 0 (0 : Int)) (4294967301 : Int)), (0 : Int), (0 : Int), (0 : Int), (0 : Int), (0 : Int), (0 : Int)] (Int.toNat r2) (0 : Int)) + (IntKind.wrap .u64 (IntKind.wrap .i64 (Int.tdiv r3 (2 : Int))))))), a0.2.2.2)))).bind fun r6 =>
    (epoch_WriteEpoch ((97 : Int), (a0.2.1, ((List.set [(Int.tmod (List.getD a0.2.2.1 0 (0 : Int)) (4294967301 : Int)), (0 : Int), (0 : Int), (0 : Int), (0 : Int), (0 : Int), (0 : Int)] (Int.toNat r2) (IntKind.wrap .u64 ((List.getD [(Int.tmod (List.getD a0.2.2.1 0 (0 : Int)) (4294967301 : Int)), (0 : Int), (0 : Int), (0 : Int), (0 : Int), (0 : Int), (0 : Int)] (Int.toNat r2) (0 : Int)) + (IntKind.wrap .u64 (IntKind.wrap .i64 (Int.tdiv r3 (2 : Int))))))), a0.2.2.2))) a1).bind fun r7 =>
    (ref26_WriteEpoch ((97 : Int), (a0.2.1, ((List.set [(Int.tmod (List.getD a0.2.2.1 0 (0 : Int)) (4294967301 : Int)), (0 : Int), (0 : Int), (0 : Int), (0 : Int), (0 : Int), (0 : Int)] (Int.toNat r2) (IntKind.wrap .u64 ((List.getD [(Int.tmod (List.getD a0.2.2.1 0 (0 : Int)) (4294967301 : Int)), (0 : Int), (0 : Int), (0 : Int), (0 : Int), (0 : Int), (0 : Int)] (Int.toNat r2) (0 : Int)) + (IntKind.wrap .u64 (IntKind.wrap .i64 (Int.tdiv r3 (2 : Int))))))), a0.2.2.2))) a1).bind fun r8 =>
    (law26_awake).bind fun r9 =>
    bif (!r9) then (
      some false)
    else (
      bif (!(decide (r5.1 = r6.1))) then (
        some false)
      else (
        bif (!(decide (r5.2 = r6.2))) then (
          some false)
        else (
          bif (!(decide (r7.2 = r8.2))) then (
            some false)
          else (
            (heap_SamePages [r7.1] [r8.1]).bind fun r10 =>
            bif (!r10) then (
              some false)
            else (
              bif (decide (r7.2 = (0 : Int))) then (
                (epoch_ReadEpoch r7.1).bind fun r11 =>
                bif (!(decide (r11.1 = a1))) then (
                  some false)
                else (
                  bif (!(decide (r11.2 = (0 : Int)))) then (
                    some false)
                  else (
                    (epoch_Safe a2 (IntKind.wrap .u32 ((IntKind.wrap .u32 (a2 - (IntKind.wrap .u32 r4))) + (2 : Int)))).bind fun r12 =>
                    (ref26_Safe a2 (IntKind.wrap .u32 ((IntKind.wrap .u32 (a2 - (IntKind.wrap .u32 r4))) + (2 : Int)))).bind fun r13 =>
                    bif (r12 == r13) then (
                      (epoch_Safe (IntKind.wrap .u32 ((IntKind.wrap .u32 (a2 - (IntKind.wrap .u32 r4))) + (2 : Int))) a2).bind fun r14 =>
                      (ref26_Safe (IntKind.wrap .u32 ((IntKind.wrap .u32 (a2 - (IntKind.wrap .u32 r4))) + (2 : Int))) a2).bind fun r15 =>
                      some (r14 == r15))
                    else (
                      some false))))
              else (
                (epoch_Safe a2 (IntKind.wrap .u32 ((IntKind.wrap .u32 (a2 - (IntKind.wrap .u32 r4))) + (2 : Int)))).bind fun r16 =>
                (ref26_Safe a2 (IntKind.wrap .u32 ((IntKind.wrap .u32 (a2 - (IntKind.wrap .u32 r4))) + (2 : Int)))).bind fun r17 =>
                bif (r16 == r17) then (
                  (epoch_Safe (IntKind.wrap .u32 ((IntKind.wrap .u32 (a2 - (IntKind.wrap .u32 r4))) + (2 : Int))) a2).bind fun r18 =>
                  (ref26_Safe (IntKind.wrap .u32 ((IntKind.wrap .u32 (a2 - (IntKind.wrap .u32 r4))) + (2 : Int))) a2).bind fun r19 =>
                  some (r18 == r19))
                else (
                  some false)))))))
    else none
    else none)
  else (
    (epoch_ReadEpoch a0).bind fun r20 =>
    (ref26_ReadEpoch a0).bind fun r21 =>
    (epoch_WriteEpoch a0 a1).bind fun r22 =>
    (ref26_WriteEpoch a0 a1).bind fun r23 =>
    (law26_awake).bind fun r24 =>
    bif (!r24) then (
      some false)
    else (
      bif (!(decide (r20.1 = r21.1))) then (
        some false)
      else (
        bif (!(decide (r20.2 = r21.2))) then (
          some false)
        else (
          bif (!(decide (r22.2 = r23.2))) then (
            some false)
          else (
            (heap_SamePages [r22.1] [r23.1]).bind fun r25 =>
            bif (!r25) then (
              some false)
            else (
              bif (decide (r22.2 = (0 : Int))) then (
                (epoch_ReadEpoch r22.1).bind fun r26 =>
                bif (!(decide (r26.1 = a1))) then (
                  some false)
                else (
                  bif (!(decide (r26.2 = (0 : Int)))) then (
                    some false)
                  else (
                    (epoch_Safe a2 a3).bind fun r27 =>
                    (ref26_Safe a2 a3).bind fun r28 =>
                    bif (r27 == r28) then (
                      (epoch_Safe a3 a2).bind fun r29 =>
                      (ref26_Safe a3 a2).bind fun r30 =>
                      some (r29 == r30))
                    else (
                      some false))))
              else (
                (epoch_Safe a2 a3).bind fun r31 =>
                (ref26_Safe a2 a3).bind fun r32 =>
                bif (r31 == r32) then (
                  (epoch_Safe a3 a2).bind fun r33 =>
                  (ref26_Safe a3 a2).bind fun r34 =>
                  some (r33 == r34))
                else (
                  some false))))))))
noncomputable def law26_EpochPagesI : Shape := { n := 129, nx := 0, sl := [(0, .dat false TPage), (1, .dat false (.int .u32)), (2, .dat false (.int .u32)), (3, .dat false (.int .u32)), (4, .dat false (.int .i64))], ob := [], fix := [], may := true }
noncomputable def law26_EpochPagesO : Shape := { n := 130, nx := 0, sl := [(129, .dat true .bool)], ob := [], fix := [], may := true }
noncomputable def law26_EpochPagesF : ((Val TPage) × Int × Int × Int × Int) → Option Bool := fun y => law26_EpochPages y.1 y.2.1 y.2.2.1 y.2.2.2.1 y.2.2.2.2
noncomputable def law26_EpochPagesct : Ctr := ctrOf law26_EpochPagesI law26_EpochPagesO (fun d => d) (fun d => d) law26_EpochPagesF
noncomputable def law26_EpochPagesE : Env := { tf := tfE, fn := fun f => bif Nat.beq f 10 then some hand_Pickct else bif Nat.beq f 11 then some epoch_ReadEpochct else bif Nat.beq f 12 then some ref26_ReadEpochct else bif Nat.beq f 13 then some epoch_WriteEpochct else bif Nat.beq f 14 then some ref26_WriteEpochct else bif Nat.beq f 15 then some law26_awakect else bif Nat.beq f 16 then some heap_SamePagesct else bif Nat.beq f 17 then some epoch_Safect else bif Nat.beq f 18 then some ref26_Safect else none }
theorem law26_EpochPages_env : EnvOk PT law26_EpochPagesE := ⟨tyE, fun f ct h => by
  simp only [law26_EpochPagesE] at h
  refine envCons (c := hand_Pickct) h hand_Pick_ctr (fun h => ?_)
  refine envCons (c := epoch_ReadEpochct) h epoch_ReadEpoch_ctr (fun h => ?_)
  refine envCons (c := ref26_ReadEpochct) h ref26_ReadEpoch_ctr (fun h => ?_)
  refine envCons (c := epoch_WriteEpochct) h epoch_WriteEpoch_ctr (fun h => ?_)
  refine envCons (c := ref26_WriteEpochct) h ref26_WriteEpoch_ctr (fun h => ?_)
  refine envCons (c := law26_awakect) h law26_awake_ctr (fun h => ?_)
  refine envCons (c := heap_SamePagesct) h heap_SamePages_ctr (fun h => ?_)
  refine envCons (c := epoch_Safect) h epoch_Safe_ctr (fun h => ?_)
  refine envCons (c := ref26_Safect) h ref26_Safe_ctr (fun h => ?_)
  cases h⟩
noncomputable def law26_EpochPagesC : Code := bodyOf Go.Proofs.Try.f3
noncomputable def law26_EpochPagesH : Nat → Option Sum := fun n => none
theorem law26_EpochPages_bd (y : (Val TPage) × Int × Int × Int × Int) : @Eq (Option Bool) (exec law26_EpochPagesE law26_EpochPagesH law26_EpochPagesC (law26_EpochPagesI.mk' (show law26_EpochPagesI.D from y)) (kontF (Z := Bool) law26_EpochPagesE Go.Proofs.Try.f3.results.toList law26_EpochPagesO (fun d => d))) (law26_EpochPagesF y) := by kernel_rfl
theorem law26_EpochPages_lo {w0 : World} {Jo : Io} (hfix : ∀ i b, Jo.fix i = some b → i ∈ []) (hmay : true = true → Jo.may) : LoopsOk PT w0 Jo law26_EpochPagesH law26_EpochPagesC := (noLoops (by kernel_rfl))
theorem law26_EpochPages_ctr : CtrOk PT 3 law26_EpochPagesct :=
  @ctr_ok PT law26_EpochPagesE law26_EpochPagesH law26_EpochPages_env mixed 3 Go.Proofs.Try.f3 law26_EpochPagesC (by kernel_rfl) (by kernel_rfl) (enters_of (by kernel_rfl : PT.funcs[3]? = some Go.Proofs.Try.f3) (by kernel_rfl) (by kernel_rfl)) law26_EpochPagesI law26_EpochPagesO ((Val TPage) × Int × Int × Int × Int) Bool (fun d => d) (fun d => d) (fun d => d) (fun d => d) (fun _ => rfl) (fun _ => rfl) (by kernel_rfl) (by kernel_rfl) law26_EpochPagesF law26_EpochPages_bd (fun w0 Jo hfix hmay => law26_EpochPages_lo hfix hmay)

end Go.Sx
