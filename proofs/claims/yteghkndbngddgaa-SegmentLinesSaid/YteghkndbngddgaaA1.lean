/- A1: printed by a program of this session: the functions of the seat as plain functions, and that the code comes to them. -/
import Derived.Test.YteghkndbngddgaaATypes
set_option linter.unusedVariables false
set_option maxRecDepth 100000
namespace Go.Sx
open Go.RowKit
/-- bodega/bodegahand.Pick -/
noncomputable def f10 (a0 : Int) (a1 : Int) : Option Int :=
  bif (decide (a1 < (1 : Int))) then (
    some (0 : Int))
  else (
    bif (!(decide (a1 = (0 : Int)))) then
    bif (!(decide (a1 = (0 : Int)))) then
    some (Int.tmod (IntKind.wrap .i64 ((Int.tmod a0 a1) + a1)) a1)
    else none
    else none)
noncomputable def f10I : Shape := { n := 14, nx := 0, sl := [(0, .dat false (.int .i64)), (1, .dat false (.int .i64))], ob := [], fix := [], may := true }
noncomputable def f10O : Shape := { n := 15, nx := 0, sl := [(14, .dat true (.int .i64))], ob := [], fix := [], may := true }
noncomputable def f10F : (Int × Int) → Option Int := fun y => f10 y.1 y.2
noncomputable def f10ct : Ctr := ctrOf f10I f10O (fun d => d) (fun d => d) f10F
noncomputable def f10E : Env := { tf := tfE, fn := fun f => none }
theorem f10_env : EnvOk PT f10E := ⟨tyE, fun f ct h => by
  simp only [f10E] at h
  cases h⟩
noncomputable def f10C : Code := bodyOf Go.Proofs.Try.f10
noncomputable def f10H : Nat → Option Sum := fun n => none
theorem f10_bd (y : Int × Int) : @Eq (Option Int) (exec f10E f10H f10C (f10I.mk' (show f10I.D from y)) (kontF (Z := Int) f10E Go.Proofs.Try.f10.results.toList f10O (fun d => d))) (f10F y) := by kernel_rfl
theorem f10_lo {w0 : World} {Jo : Io} (hfix : ∀ i b, Jo.fix i = some b → i ∈ []) (hmay : true = true → Jo.may) : LoopsOk PT w0 Jo f10H f10C := (noLoops (by kernel_rfl))
theorem f10_ctr : CtrOk PT 10 f10ct :=
  @ctr_ok PT f10E f10H f10_env mixed 10 Go.Proofs.Try.f10 f10C (by kernel_rfl) (by kernel_rfl) (enters_of (by kernel_rfl : PT.funcs[10]? = some Go.Proofs.Try.f10) (by kernel_rfl) (by kernel_rfl)) f10I f10O (Int × Int) Int (fun d => d) (fun d => d) (fun d => d) (fun d => d) (fun _ => rfl) (fun _ => rfl) (by kernel_rfl) (by kernel_rfl) f10F f10_bd (fun w0 Jo hfix hmay => f10_lo hfix hmay)

/-- bodega/epoch.ReadEpoch -/
noncomputable def f11 (a0 : Val TPage) : Option (Int × Int) :=
  bif (!(decide (a0.1 = (97 : Int)))) then (
    some ((0 : Int), (1 : Int)))
  else (
    bif (!(eqV (.arr 7 (.int .u64)) a0.2.2.1 [(List.getD a0.2.2.1 0 (0 : Int)), (0 : Int), (0 : Int), (0 : Int), (0 : Int), (0 : Int), (0 : Int)])) then (
      some ((0 : Int), (14 : Int)))
    else (
      bif (decide ((4294967295 : Int) < (List.getD a0.2.2.1 0 (0 : Int)))) then (
        some ((0 : Int), (14 : Int)))
      else (
        some ((IntKind.wrap .u32 (List.getD a0.2.2.1 0 (0 : Int))), (0 : Int)))))
noncomputable def f11I : Shape := { n := 24, nx := 0, sl := [(0, .dat false TPage)], ob := [], fix := [], may := true }
noncomputable def f11O : Shape := { n := 25, nx := 0, sl := [(24, .tup (.cons (.dat true (.int .u32)) (.cons (.dat true (.int .i64)) (.nil))))], ob := [], fix := [], may := true }
noncomputable def f11F : ((Val TPage)) → Option (Int × Int) := fun y => f11 y
noncomputable def f11ct : Ctr := ctrOf f11I f11O (fun d => d) (fun d => d) f11F
noncomputable def f11E : Env := { tf := tfE, fn := fun f => none }
theorem f11_env : EnvOk PT f11E := ⟨tyE, fun f ct h => by
  simp only [f11E] at h
  cases h⟩
noncomputable def f11C : Code := bodyOf Go.Proofs.Try.f11
noncomputable def f11H : Nat → Option Sum := fun n => none
theorem f11_bd (y : (Val TPage)) : @Eq (Option (Int × Int)) (exec f11E f11H f11C (f11I.mk' (show f11I.D from y)) (kontF (Z := Int × Int) f11E Go.Proofs.Try.f11.results.toList f11O (fun d => d))) (f11F y) := by kernel_rfl
theorem f11_lo {w0 : World} {Jo : Io} (hfix : ∀ i b, Jo.fix i = some b → i ∈ []) (hmay : true = true → Jo.may) : LoopsOk PT w0 Jo f11H f11C := (noLoops (by kernel_rfl))
theorem f11_ctr : CtrOk PT 11 f11ct :=
  @ctr_ok PT f11E f11H f11_env mixed 11 Go.Proofs.Try.f11 f11C (by kernel_rfl) (by kernel_rfl) (enters_of (by kernel_rfl : PT.funcs[11]? = some Go.Proofs.Try.f11) (by kernel_rfl) (by kernel_rfl)) f11I f11O ((Val TPage)) (Int × Int) (fun d => d) (fun d => d) (fun d => d) (fun d => d) (fun _ => rfl) (fun _ => rfl) (by kernel_rfl) (by kernel_rfl) f11F f11_bd (fun w0 Jo hfix hmay => f11_lo hfix hmay)

noncomputable def f12l1b (x0 : Int) (x1 : Val TPage) : Option ((Int × (Val TPage)) ⊕ (((Val TPage)) ⊕ (Int × Int))) :=
  bif (decide (x0 < (7 : Int))) then (
    bif (inR x0 7) then
    bif (!(decide ((List.getD x1.2.2.1 (Int.toNat x0) (0 : Int)) = (0 : Int)))) then (
      some (Sum.inr (Sum.inr ((0 : Int), (14 : Int)))))
    else (
      some (Sum.inl ((IntKind.wrap .i64 (x0 + (1 : Int))), x1)))
    else none)
  else (
    some (Sum.inr (Sum.inl x1)))
noncomputable def f12l1B : (Int × (Val TPage)) → Option ((Int × (Val TPage)) ⊕ (((Val TPage)) ⊕ (Int × Int))) := fun y => f12l1b y.1 y.2
noncomputable def f12l1 (x0 : Int) (x1 : Val TPage) : Option (((Val TPage)) ⊕ (Int × Int)) := iter f12l1B (x0, x1)
/-- bodega/bodegaref26.ReadEpoch -/
noncomputable def f12 (a0 : Val TPage) : Option (Int × Int) :=
  bif (!(decide (a0.1 = (97 : Int)))) then (
    some ((0 : Int), (1 : Int)))
  else (
    (f12l1 (1 : Int) a0).bind fun r1 =>
    match r1 with
    | .inl r2 => (
      bif (decide ((4294967296 : Int) ≤ (List.getD r2.2.2.1 0 (0 : Int)))) then (
        some ((0 : Int), (14 : Int)))
      else (
        some ((IntKind.wrap .u32 (List.getD r2.2.2.1 0 (0 : Int))), (0 : Int))))
    | .inr r3 => (
      some (r3.1, r3.2)))
noncomputable def f12I : Shape := { n := 25, nx := 0, sl := [(0, .dat false TPage)], ob := [], fix := [], may := true }
noncomputable def f12O : Shape := { n := 26, nx := 0, sl := [(25, .tup (.cons (.dat true (.int .u32)) (.cons (.dat true (.int .i64)) (.nil))))], ob := [], fix := [], may := true }
noncomputable def f12F : ((Val TPage)) → Option (Int × Int) := fun y => f12 y
noncomputable def f12ct : Ctr := ctrOf f12I f12O (fun d => d) (fun d => d) f12F
noncomputable def f12E : Env := { tf := tfE, fn := fun f => none }
theorem f12_env : EnvOk PT f12E := ⟨tyE, fun f ct h => by
  simp only [f12E] at h
  cases h⟩
noncomputable def f12C : Code := bodyOf Go.Proofs.Try.f12
noncomputable def f12l1C : Code := (loopsOf f12C).getD 0 .skip
noncomputable def f12l1S : Shape := { n := 25, nx := 1, sl := [(1, .ref 0 []), (4, .dat true (.int .i64))], ob := [(0, .box TPage (.dat false TPage))], fix := [], may := true }
noncomputable def f12l1O : List (Ex × Shape) := [(.exit 0, { n := 25, nx := 1, sl := [(1, .ref 0 [])], ob := [(0, .box TPage (.dat false TPage))], fix := [], may := true }), (.ret, { n := 25, nx := 0, sl := [(2, .dat true (.int .u32)), (3, .dat true (.int .i64))], ob := [], fix := [], may := true })]
noncomputable def f12l1M : Sum := loopSum (Y := Int × (Val TPage)) (Z := ((Val TPage)) ⊕ (Int × Int)) f12l1S f12l1O (fun d => d) (fun d => d) (iter f12l1B)
noncomputable def f12H : Nat → Option Sum := fun n => bif Nat.beq n 4 then some f12l1M else none
theorem f12l1_bd (y : Int × (Val TPage)) : @Eq (Option ((Int × (Val TPage)) ⊕ (((Val TPage)) ⊕ (Int × Int)))) (exec f12E f12H f12l1C (f12l1S.mk' (show f12l1S.D from y)) (kont (Y := Int × (Val TPage)) (Z := ((Val TPage)) ⊕ (Int × Int)) f12l1S f12l1O (fun d => d) (fun d => d))) (f12l1B y) := by kernel_rfl
theorem f12l1_ok {w0 : World} {Jo : Io} (hfix : ∀ i b, Jo.fix i = some b → i ∈ []) (hmay : true = true → Jo.may) : SumOk PT w0 Jo f12l1M (.loop f12l1C) :=
  @loop_ok w0 Jo PT f12E f12H (Int × (Val TPage)) (((Val TPage)) ⊕ (Int × Int)) f12_env mixed f12l1C f12l1S f12l1O (fun d => d) (fun d => d) (fun d => d) (fun d => d) (fun _ => rfl) (fun _ => rfl) hfix hmay (by kernel_rfl) (noLoops (by kernel_rfl)) f12l1B f12l1_bd
theorem f12_bd (y : (Val TPage)) : @Eq (Option (Int × Int)) (exec f12E f12H f12C (f12I.mk' (show f12I.D from y)) (kontF (Z := Int × Int) f12E Go.Proofs.Try.f12.results.toList f12O (fun d => d))) (f12F y) := by kernel_rfl
theorem f12_lo {w0 : World} {Jo : Io} (hfix : ∀ i b, Jo.fix i = some b → i ∈ []) (hmay : true = true → Jo.may) : LoopsOk PT w0 Jo f12H f12C := (loopsMk (by kernel_rfl) (loopsCons (c := f12l1C) (n := 4) (f := f12l1M) (by kernel_rfl) (by kernel_rfl) (f12l1_ok hfix hmay) loopsNil))
theorem f12_ctr : CtrOk PT 12 f12ct :=
  @ctr_ok PT f12E f12H f12_env mixed 12 Go.Proofs.Try.f12 f12C (by kernel_rfl) (by kernel_rfl) (enters_of (by kernel_rfl : PT.funcs[12]? = some Go.Proofs.Try.f12) (by kernel_rfl) (by kernel_rfl)) f12I f12O ((Val TPage)) (Int × Int) (fun d => d) (fun d => d) (fun d => d) (fun d => d) (fun _ => rfl) (fun _ => rfl) (by kernel_rfl) (by kernel_rfl) f12F f12_bd (fun w0 Jo hfix hmay => f12_lo hfix hmay)

/-- bodega/epoch.WriteEpoch -/
noncomputable def f13 (a0 : Val TPage) (a1 : Int) : Option ((Val TPage) × Int) :=
  bif (!(decide (a0.1 = (97 : Int)))) then (
    some (((0 : Int), ((0 : Int), ((List.replicate 7 (0 : Int)), ()))), (1 : Int)))
  else (
    some ((a0.1, (a0.2.1, ([(IntKind.wrap .u64 a1), (0 : Int), (0 : Int), (0 : Int), (0 : Int), (0 : Int), (0 : Int)], a0.2.2.2))), (0 : Int)))
noncomputable def f13I : Shape := { n := 15, nx := 0, sl := [(0, .dat false TPage), (1, .dat false (.int .u32))], ob := [], fix := [], may := true }
noncomputable def f13O : Shape := { n := 16, nx := 0, sl := [(15, .tup (.cons (.dat false TPage) (.cons (.dat true (.int .i64)) (.nil))))], ob := [], fix := [], may := true }
noncomputable def f13F : ((Val TPage) × Int) → Option ((Val TPage) × Int) := fun y => f13 y.1 y.2
noncomputable def f13ct : Ctr := ctrOf f13I f13O (fun d => d) (fun d => d) f13F
noncomputable def f13E : Env := { tf := tfE, fn := fun f => none }
theorem f13_env : EnvOk PT f13E := ⟨tyE, fun f ct h => by
  simp only [f13E] at h
  cases h⟩
noncomputable def f13C : Code := bodyOf Go.Proofs.Try.f13
noncomputable def f13H : Nat → Option Sum := fun n => none
theorem f13_bd (y : (Val TPage) × Int) : @Eq (Option ((Val TPage) × Int)) (exec f13E f13H f13C (f13I.mk' (show f13I.D from y)) (kontF (Z := (Val TPage) × Int) f13E Go.Proofs.Try.f13.results.toList f13O (fun d => d))) (f13F y) := by kernel_rfl
theorem f13_lo {w0 : World} {Jo : Io} (hfix : ∀ i b, Jo.fix i = some b → i ∈ []) (hmay : true = true → Jo.may) : LoopsOk PT w0 Jo f13H f13C := (noLoops (by kernel_rfl))
theorem f13_ctr : CtrOk PT 13 f13ct :=
  @ctr_ok PT f13E f13H f13_env mixed 13 Go.Proofs.Try.f13 f13C (by kernel_rfl) (by kernel_rfl) (enters_of (by kernel_rfl : PT.funcs[13]? = some Go.Proofs.Try.f13) (by kernel_rfl) (by kernel_rfl)) f13I f13O ((Val TPage) × Int) ((Val TPage) × Int) (fun d => d) (fun d => d) (fun d => d) (fun d => d) (fun _ => rfl) (fun _ => rfl) (by kernel_rfl) (by kernel_rfl) f13F f13_bd (fun w0 Jo hfix hmay => f13_lo hfix hmay)

/-- bodega/bodegaref26.WriteEpoch -/
noncomputable def f14 (a0 : Val TPage) (a1 : Int) : Option ((Val TPage) × Int) :=
  bif (!(decide (a0.1 = (97 : Int)))) then (
    some (((0 : Int), ((0 : Int), ((List.replicate 7 (0 : Int)), ()))), (1 : Int)))
  else (
    some ((a0.1, (a0.2.1, ((List.set (List.replicate 7 (0 : Int)) 0 (IntKind.wrap .u64 a1)), ()))), (0 : Int)))
noncomputable def f14I : Shape := { n := 21, nx := 0, sl := [(0, .dat false TPage), (1, .dat false (.int .u32))], ob := [], fix := [], may := true }
noncomputable def f14O : Shape := { n := 22, nx := 0, sl := [(21, .tup (.cons (.dat true TPage) (.cons (.dat true (.int .i64)) (.nil))))], ob := [], fix := [], may := true }
noncomputable def f14F : ((Val TPage) × Int) → Option ((Val TPage) × Int) := fun y => f14 y.1 y.2
noncomputable def f14ct : Ctr := ctrOf f14I f14O (fun d => d) (fun d => d) f14F
noncomputable def f14E : Env := { tf := tfE, fn := fun f => none }
theorem f14_env : EnvOk PT f14E := ⟨tyE, fun f ct h => by
  simp only [f14E] at h
  cases h⟩
noncomputable def f14C : Code := bodyOf Go.Proofs.Try.f14
noncomputable def f14H : Nat → Option Sum := fun n => none
theorem f14_bd (y : (Val TPage) × Int) : @Eq (Option ((Val TPage) × Int)) (exec f14E f14H f14C (f14I.mk' (show f14I.D from y)) (kontF (Z := (Val TPage) × Int) f14E Go.Proofs.Try.f14.results.toList f14O (fun d => d))) (f14F y) := by kernel_rfl
theorem f14_lo {w0 : World} {Jo : Io} (hfix : ∀ i b, Jo.fix i = some b → i ∈ []) (hmay : true = true → Jo.may) : LoopsOk PT w0 Jo f14H f14C := (noLoops (by kernel_rfl))
theorem f14_ctr : CtrOk PT 14 f14ct :=
  @ctr_ok PT f14E f14H f14_env mixed 14 Go.Proofs.Try.f14 f14C (by kernel_rfl) (by kernel_rfl) (enters_of (by kernel_rfl : PT.funcs[14]? = some Go.Proofs.Try.f14) (by kernel_rfl) (by kernel_rfl)) f14I f14O ((Val TPage) × Int) ((Val TPage) × Int) (fun d => d) (fun d => d) (fun d => d) (fun d => d) (fun _ => rfl) (fun _ => rfl) (by kernel_rfl) (by kernel_rfl) f14F f14_bd (fun w0 Jo hfix hmay => f14_lo hfix hmay)

/-- bodega/epoch.Safe -/
noncomputable def f17 (a0 : Int) (a1 : Int) : Option Bool :=
  some (decide ((IntKind.wrap .u64 ((IntKind.wrap .u64 a1) + (2 : Int))) ≤ (IntKind.wrap .u64 a0)))
noncomputable def f17I : Shape := { n := 11, nx := 0, sl := [(0, .dat false (.int .u32)), (1, .dat false (.int .u32))], ob := [], fix := [], may := true }
noncomputable def f17O : Shape := { n := 12, nx := 0, sl := [(11, .dat true .bool)], ob := [], fix := [], may := true }
noncomputable def f17F : (Int × Int) → Option Bool := fun y => f17 y.1 y.2
noncomputable def f17ct : Ctr := ctrOf f17I f17O (fun d => d) (fun d => d) f17F
noncomputable def f17E : Env := { tf := tfE, fn := fun f => none }
theorem f17_env : EnvOk PT f17E := ⟨tyE, fun f ct h => by
  simp only [f17E] at h
  cases h⟩
noncomputable def f17C : Code := bodyOf Go.Proofs.Try.f17
noncomputable def f17H : Nat → Option Sum := fun n => none
theorem f17_bd (y : Int × Int) : @Eq (Option Bool) (exec f17E f17H f17C (f17I.mk' (show f17I.D from y)) (kontF (Z := Bool) f17E Go.Proofs.Try.f17.results.toList f17O (fun d => d))) (f17F y) := by kernel_rfl
theorem f17_lo {w0 : World} {Jo : Io} (hfix : ∀ i b, Jo.fix i = some b → i ∈ []) (hmay : true = true → Jo.may) : LoopsOk PT w0 Jo f17H f17C := (noLoops (by kernel_rfl))
theorem f17_ctr : CtrOk PT 17 f17ct :=
  @ctr_ok PT f17E f17H f17_env mixed 17 Go.Proofs.Try.f17 f17C (by kernel_rfl) (by kernel_rfl) (enters_of (by kernel_rfl : PT.funcs[17]? = some Go.Proofs.Try.f17) (by kernel_rfl) (by kernel_rfl)) f17I f17O (Int × Int) Bool (fun d => d) (fun d => d) (fun d => d) (fun d => d) (fun _ => rfl) (fun _ => rfl) (by kernel_rfl) (by kernel_rfl) f17F f17_bd (fun w0 Jo hfix hmay => f17_lo hfix hmay)

/-- bodega/bodegalaw26.awake -/
noncomputable def f15  : Option Bool :=
  (f17 (5 : Int) (3 : Int)).bind fun r1 =>
  bif r1 then (
    (f17 (4 : Int) (3 : Int)).bind fun r2 =>
    some (!r2))
  else (
    some false)
noncomputable def f15I : Shape := { n := 6, nx := 0, sl := [], ob := [], fix := [], may := true }
noncomputable def f15O : Shape := { n := 7, nx := 0, sl := [(6, .dat true .bool)], ob := [], fix := [], may := true }
noncomputable def f15F : Unit → Option Bool := fun y => f15 
noncomputable def f15ct : Ctr := ctrOf f15I f15O (fun d => d) (fun d => d) f15F
noncomputable def f15E : Env := { tf := tfE, fn := fun f => bif Nat.beq f 17 then some f17ct else none }
theorem f15_env : EnvOk PT f15E := ⟨tyE, fun f ct h => by
  simp only [f15E] at h
  refine envCons (c := f17ct) h f17_ctr (fun h => ?_)
  cases h⟩
noncomputable def f15C : Code := bodyOf Go.Proofs.Try.f15
noncomputable def f15H : Nat → Option Sum := fun n => none
theorem f15_bd (y : Unit) : @Eq (Option Bool) (exec f15E f15H f15C (f15I.mk' (show f15I.D from y)) (kontF (Z := Bool) f15E Go.Proofs.Try.f15.results.toList f15O (fun d => d))) (f15F y) := by kernel_rfl
theorem f15_lo {w0 : World} {Jo : Io} (hfix : ∀ i b, Jo.fix i = some b → i ∈ []) (hmay : true = true → Jo.may) : LoopsOk PT w0 Jo f15H f15C := (noLoops (by kernel_rfl))
theorem f15_ctr : CtrOk PT 15 f15ct :=
  @ctr_ok PT f15E f15H f15_env mixed 15 Go.Proofs.Try.f15 f15C (by kernel_rfl) (by kernel_rfl) (enters_of (by kernel_rfl : PT.funcs[15]? = some Go.Proofs.Try.f15) (by kernel_rfl) (by kernel_rfl)) f15I f15O Unit Bool (fun d => d) (fun d => d) (fun d => d) (fun d => d) (fun _ => rfl) (fun _ => rfl) (by kernel_rfl) (by kernel_rfl) f15F f15_bd (fun w0 Jo hfix hmay => f15_lo hfix hmay)

noncomputable def f16l1b (x0 : Val (.slice TPage)) (x1 : Val (.slice TPage)) (x2 : Int) : Option (((Val (.slice TPage)) × (Val (.slice TPage)) × Int) ⊕ ((Unit) ⊕ (Bool))) :=
  bif (decide (x2 < (((List.length x0) : Nat) : Int))) then (
    bif (inR x2 (List.length x0)) then
    bif (inR x2 (List.length x1)) then
    bif (!(decide ((List.getD x0 (Int.toNat x2) ((0 : Int), ((0 : Int), ((List.replicate 7 (0 : Int)), ())))).1 = (List.getD x1 (Int.toNat x2) ((0 : Int), ((0 : Int), ((List.replicate 7 (0 : Int)), ())))).1))) then (
      some (Sum.inr (Sum.inr false)))
    else (
      bif (inR x2 (List.length x0)) then
      bif (inR x2 (List.length x1)) then
      bif (!(decide ((List.getD x0 (Int.toNat x2) ((0 : Int), ((0 : Int), ((List.replicate 7 (0 : Int)), ())))).2.1 = (List.getD x1 (Int.toNat x2) ((0 : Int), ((0 : Int), ((List.replicate 7 (0 : Int)), ())))).2.1))) then (
        some (Sum.inr (Sum.inr false)))
      else (
        bif (inR x2 (List.length x0)) then
        bif (inR x2 (List.length x1)) then
        bif (!(eqV (.arr 7 (.int .u64)) (List.getD x0 (Int.toNat x2) ((0 : Int), ((0 : Int), ((List.replicate 7 (0 : Int)), ())))).2.2.1 (List.getD x1 (Int.toNat x2) ((0 : Int), ((0 : Int), ((List.replicate 7 (0 : Int)), ())))).2.2.1)) then (
          some (Sum.inr (Sum.inr false)))
        else (
          some (Sum.inl (x0, (x1, (IntKind.wrap .i64 (x2 + (1 : Int)))))))
        else none
        else none)
      else none
      else none)
    else none
    else none)
  else (
    some (Sum.inr (Sum.inl ())))
noncomputable def f16l1B : ((Val (.slice TPage)) × (Val (.slice TPage)) × Int) → Option (((Val (.slice TPage)) × (Val (.slice TPage)) × Int) ⊕ ((Unit) ⊕ (Bool))) := fun y => f16l1b y.1 y.2.1 y.2.2
noncomputable def f16l1 (x0 : Val (.slice TPage)) (x1 : Val (.slice TPage)) (x2 : Int) : Option ((Unit) ⊕ (Bool)) := iter f16l1B (x0, (x1, x2))
/-- bodega/bodegaheap.SamePages -/
noncomputable def f16 (a0 : Val (.slice TPage)) (a1 : Val (.slice TPage)) : Option Bool :=
  bif (!(decide ((((List.length a0) : Nat) : Int) = (((List.length a1) : Nat) : Int)))) then (
    some false)
  else (
    (f16l1 a0 a1 (0 : Int)).bind fun r1 =>
    match r1 with
    | .inl r2 => (
      some true)
    | .inr r3 => (
      some r3))
noncomputable def f16I : Shape := { n := 54, nx := 0, sl := [(0, .dat false (.slice TPage)), (1, .dat false (.slice TPage))], ob := [], fix := [], may := true }
noncomputable def f16O : Shape := { n := 55, nx := 0, sl := [(54, .dat true .bool)], ob := [], fix := [], may := true }
noncomputable def f16F : ((Val (.slice TPage)) × (Val (.slice TPage))) → Option Bool := fun y => f16 y.1 y.2
noncomputable def f16ct : Ctr := ctrOf f16I f16O (fun d => d) (fun d => d) f16F
noncomputable def f16E : Env := { tf := tfE, fn := fun f => none }
theorem f16_env : EnvOk PT f16E := ⟨tyE, fun f ct h => by
  simp only [f16E] at h
  cases h⟩
noncomputable def f16C : Code := bodyOf Go.Proofs.Try.f16
noncomputable def f16l1C : Code := (loopsOf f16C).getD 0 .skip
noncomputable def f16l1S : Shape := { n := 54, nx := 0, sl := [(0, .dat false (.slice TPage)), (1, .dat false (.slice TPage)), (5, .dat true (.int .i64))], ob := [], fix := [], may := true }
noncomputable def f16l1O : List (Ex × Shape) := [(.exit 0, { n := 54, nx := 0, sl := [], ob := [], fix := [], may := true }), (.ret, { n := 54, nx := 0, sl := [(4, .dat true .bool)], ob := [], fix := [], may := true })]
noncomputable def f16l1M : Sum := loopSum (Y := (Val (.slice TPage)) × (Val (.slice TPage)) × Int) (Z := (Unit) ⊕ (Bool)) f16l1S f16l1O (fun d => d) (fun d => d) (iter f16l1B)
noncomputable def f16H : Nat → Option Sum := fun n => bif Nat.beq n 4 then some f16l1M else none
theorem f16l1_bd (y : (Val (.slice TPage)) × (Val (.slice TPage)) × Int) : @Eq (Option (((Val (.slice TPage)) × (Val (.slice TPage)) × Int) ⊕ ((Unit) ⊕ (Bool)))) (exec f16E f16H f16l1C (f16l1S.mk' (show f16l1S.D from y)) (kont (Y := (Val (.slice TPage)) × (Val (.slice TPage)) × Int) (Z := (Unit) ⊕ (Bool)) f16l1S f16l1O (fun d => d) (fun d => d))) (f16l1B y) := by kernel_rfl
theorem f16l1_ok {w0 : World} {Jo : Io} (hfix : ∀ i b, Jo.fix i = some b → i ∈ []) (hmay : true = true → Jo.may) : SumOk PT w0 Jo f16l1M (.loop f16l1C) :=
  @loop_ok w0 Jo PT f16E f16H ((Val (.slice TPage)) × (Val (.slice TPage)) × Int) ((Unit) ⊕ (Bool)) f16_env mixed f16l1C f16l1S f16l1O (fun d => d) (fun d => d) (fun d => d) (fun d => d) (fun _ => rfl) (fun _ => rfl) hfix hmay (by kernel_rfl) (noLoops (by kernel_rfl)) f16l1B f16l1_bd
theorem f16_bd (y : (Val (.slice TPage)) × (Val (.slice TPage))) : @Eq (Option Bool) (exec f16E f16H f16C (f16I.mk' (show f16I.D from y)) (kontF (Z := Bool) f16E Go.Proofs.Try.f16.results.toList f16O (fun d => d))) (f16F y) := by kernel_rfl
theorem f16_lo {w0 : World} {Jo : Io} (hfix : ∀ i b, Jo.fix i = some b → i ∈ []) (hmay : true = true → Jo.may) : LoopsOk PT w0 Jo f16H f16C := (loopsMk (by kernel_rfl) (loopsCons (c := f16l1C) (n := 4) (f := f16l1M) (by kernel_rfl) (by kernel_rfl) (f16l1_ok hfix hmay) loopsNil))
theorem f16_ctr : CtrOk PT 16 f16ct :=
  @ctr_ok PT f16E f16H f16_env mixed 16 Go.Proofs.Try.f16 f16C (by kernel_rfl) (by kernel_rfl) (enters_of (by kernel_rfl : PT.funcs[16]? = some Go.Proofs.Try.f16) (by kernel_rfl) (by kernel_rfl)) f16I f16O ((Val (.slice TPage)) × (Val (.slice TPage))) Bool (fun d => d) (fun d => d) (fun d => d) (fun d => d) (fun _ => rfl) (fun _ => rfl) (by kernel_rfl) (by kernel_rfl) f16F f16_bd (fun w0 Jo hfix hmay => f16_lo hfix hmay)

/-- bodega/bodegaref26.Safe -/
noncomputable def f18 (a0 : Int) (a1 : Int) : Option Bool :=
  some (decide ((IntKind.wrap .u64 ((IntKind.wrap .u64 a1) + (2 : Int))) ≤ (IntKind.wrap .u64 a0)))
noncomputable def f18I : Shape := { n := 11, nx := 0, sl := [(0, .dat false (.int .u32)), (1, .dat false (.int .u32))], ob := [], fix := [], may := true }
noncomputable def f18O : Shape := { n := 12, nx := 0, sl := [(11, .dat true .bool)], ob := [], fix := [], may := true }
noncomputable def f18F : (Int × Int) → Option Bool := fun y => f18 y.1 y.2
noncomputable def f18ct : Ctr := ctrOf f18I f18O (fun d => d) (fun d => d) f18F
noncomputable def f18E : Env := { tf := tfE, fn := fun f => none }
theorem f18_env : EnvOk PT f18E := ⟨tyE, fun f ct h => by
  simp only [f18E] at h
  cases h⟩
noncomputable def f18C : Code := bodyOf Go.Proofs.Try.f18
noncomputable def f18H : Nat → Option Sum := fun n => none
theorem f18_bd (y : Int × Int) : @Eq (Option Bool) (exec f18E f18H f18C (f18I.mk' (show f18I.D from y)) (kontF (Z := Bool) f18E Go.Proofs.Try.f18.results.toList f18O (fun d => d))) (f18F y) := by kernel_rfl
theorem f18_lo {w0 : World} {Jo : Io} (hfix : ∀ i b, Jo.fix i = some b → i ∈ []) (hmay : true = true → Jo.may) : LoopsOk PT w0 Jo f18H f18C := (noLoops (by kernel_rfl))
theorem f18_ctr : CtrOk PT 18 f18ct :=
  @ctr_ok PT f18E f18H f18_env mixed 18 Go.Proofs.Try.f18 f18C (by kernel_rfl) (by kernel_rfl) (enters_of (by kernel_rfl : PT.funcs[18]? = some Go.Proofs.Try.f18) (by kernel_rfl) (by kernel_rfl)) f18I f18O (Int × Int) Bool (fun d => d) (fun d => d) (fun d => d) (fun d => d) (fun _ => rfl) (fun _ => rfl) (by kernel_rfl) (by kernel_rfl) f18F f18_bd (fun w0 Jo hfix hmay => f18_lo hfix hmay)

/-- bodega/bodegalaw26.EpochPages -/
noncomputable def f3 (a0 : Val TPage) (a1 : Int) (a2 : Int) (a3 : Int) (a4 : Int) : Option Bool :=
  (f10 a4 (4 : Int)).bind fun r1 =>
  bif (decide ((0 : Int) < r1)) then (
    (f10 (IntKind.wrap .i64 (Int.tdiv a4 (4 : Int))) (7 : Int)).bind fun r2 =>
    bif (inR r2 7) then
    (f10 (IntKind.wrap .i64 (Int.tdiv a4 (28 : Int))) (3 : Int)).bind fun r3 =>
    bif (inR r2 7) then
    (f10 (IntKind.wrap .i64 (Int.tdiv a4 (84 : Int))) (6 : Int)).bind fun r4 =>
    (f11 ((97 : Int), (a0.2.1, ((List.set [(Int.tmod (List.getD a0.2.2.1 0 (0 : Int)) (4294967301 : Int)), (0 : Int), (0 : Int), (0 : Int), (0 : Int), (0 : Int), (0 : Int)] (Int.toNat r2) (IntKind.wrap .u64 ((List.getD [(Int.tmod (List.getD a0.2.2.1 0 (0 : Int)) (4294967301 : Int)), (0 : Int), (0 : Int), (0 : Int), (0 : Int), (0 : Int), (0 : Int)] (Int.toNat r2) (0 : Int)) + (IntKind.wrap .u64 (IntKind.wrap .i64 (Int.tdiv r3 (2 : Int))))))), a0.2.2.2)))).bind fun r5 =>
    (f12 ((97 : Int), (a0.2.1, ((List.set [(Int.tmod (List.getD a0.2.2.1 0 (0 : Int)) (4294967301 : Int)), (0 : Int), (0 : Int), (0 : Int), (0 : Int), (0 : Int), (0 : Int)] (Int.toNat r2) (IntKind.wrap .u64 ((List.getD [(Int.tmod (List.getD a0.2.2.1 0 (0 : Int)) (4294967301 : Int)), (0 : Int), (0 : Int), (0 : Int), (0 : Int), (0 : Int), (0 : Int)] (Int.toNat r2) (0 : Int)) + (IntKind.wrap .u64 (IntKind.wrap .i64 (Int.tdiv r3 (2 : Int))))))), a0.2.2.2)))).bind fun r6 =>
    (f13 ((97 : Int), (a0.2.1, ((List.set [(Int.tmod (List.getD a0.2.2.1 0 (0 : Int)) (4294967301 : Int)), (0 : Int), (0 : Int), (0 : Int), (0 : Int), (0 : Int), (0 : Int)] (Int.toNat r2) (IntKind.wrap .u64 ((List.getD [(Int.tmod (List.getD a0.2.2.1 0 (0 : Int)) (4294967301 : Int)), (0 : Int), (0 : Int), (0 : Int), (0 : Int), (0 : Int), (0 : Int)] (Int.toNat r2) (0 : Int)) + (IntKind.wrap .u64 (IntKind.wrap .i64 (Int.tdiv r3 (2 : Int))))))), a0.2.2.2))) a1).bind fun r7 =>
    (f14 ((97 : Int), (a0.2.1, ((List.set [(Int.tmod (List.getD a0.2.2.1 0 (0 : Int)) (4294967301 : Int)), (0 : Int), (0 : Int), (0 : Int), (0 : Int), (0 : Int), (0 : Int)] (Int.toNat r2) (IntKind.wrap .u64 ((List.getD [(Int.tmod (List.getD a0.2.2.1 0 (0 : Int)) (4294967301 : Int)), (0 : Int), (0 : Int), (0 : Int), (0 : Int), (0 : Int), (0 : Int)] (Int.toNat r2) (0 : Int)) + (IntKind.wrap .u64 (IntKind.wrap .i64 (Int.tdiv r3 (2 : Int))))))), a0.2.2.2))) a1).bind fun r8 =>
    (f15).bind fun r9 =>
    bif (!r9) then (
      some false)
    else (
      bif (!(decide (r5.1 = r6.1))) then (
        some false)
      else (
        bif (!(decide (r5.2 = r6.2))) then (
          some false)
        else (
          bif (!(decide (r7.2 = r8.2))) then (
            some false)
          else (
            (f16 [r7.1] [r8.1]).bind fun r10 =>
            bif (!r10) then (
              some false)
            else (
              bif (decide (r7.2 = (0 : Int))) then (
                (f11 r7.1).bind fun r11 =>
                bif (!(decide (r11.1 = a1))) then (
                  some false)
                else (
                  bif (!(decide (r11.2 = (0 : Int)))) then (
                    some false)
                  else (
                    (f17 a2 (IntKind.wrap .u32 ((IntKind.wrap .u32 (a2 - (IntKind.wrap .u32 r4))) + (2 : Int)))).bind fun r12 =>
                    (f18 a2 (IntKind.wrap .u32 ((IntKind.wrap .u32 (a2 - (IntKind.wrap .u32 r4))) + (2 : Int)))).bind fun r13 =>
                    bif (r12 == r13) then (
                      (f17 (IntKind.wrap .u32 ((IntKind.wrap .u32 (a2 - (IntKind.wrap .u32 r4))) + (2 : Int))) a2).bind fun r14 =>
                      (f18 (IntKind.wrap .u32 ((IntKind.wrap .u32 (a2 - (IntKind.wrap .u32 r4))) + (2 : Int))) a2).bind fun r15 =>
                      some (r14 == r15))
                    else (
                      some false))))
              else (
                (f17 a2 (IntKind.wrap .u32 ((IntKind.wrap .u32 (a2 - (IntKind.wrap .u32 r4))) + (2 : Int)))).bind fun r16 =>
                (f18 a2 (IntKind.wrap .u32 ((IntKind.wrap .u32 (a2 - (IntKind.wrap .u32 r4))) + (2 : Int)))).bind fun r17 =>
                bif (r16 == r17) then (
                  (f17 (IntKind.wrap .u32 ((IntKind.wrap .u32 (a2 - (IntKind.wrap .u32 r4))) + (2 : Int))) a2).bind fun r18 =>
                  (f18 (IntKind.wrap .u32 ((IntKind.wrap .u32 (a2 - (IntKind.wrap .u32 r4))) + (2 : Int))) a2).bind fun r19 =>
                  some (r18 == r19))
                else (
                  some false)))))))
    else none
    else none)
  else (
    (f11 a0).bind fun r20 =>
    (f12 a0).bind fun r21 =>
    (f13 a0 a1).bind fun r22 =>
    (f14 a0 a1).bind fun r23 =>
    (f15).bind fun r24 =>
    bif (!r24) then (
      some false)
    else (
      bif (!(decide (r20.1 = r21.1))) then (
        some false)
      else (
        bif (!(decide (r20.2 = r21.2))) then (
          some false)
        else (
          bif (!(decide (r22.2 = r23.2))) then (
            some false)
          else (
            (f16 [r22.1] [r23.1]).bind fun r25 =>
            bif (!r25) then (
              some false)
            else (
              bif (decide (r22.2 = (0 : Int))) then (
                (f11 r22.1).bind fun r26 =>
                bif (!(decide (r26.1 = a1))) then (
                  some false)
                else (
                  bif (!(decide (r26.2 = (0 : Int)))) then (
                    some false)
                  else (
                    (f17 a2 a3).bind fun r27 =>
                    (f18 a2 a3).bind fun r28 =>
                    bif (r27 == r28) then (
                      (f17 a3 a2).bind fun r29 =>
                      (f18 a3 a2).bind fun r30 =>
                      some (r29 == r30))
                    else (
                      some false))))
              else (
                (f17 a2 a3).bind fun r31 =>
                (f18 a2 a3).bind fun r32 =>
                bif (r31 == r32) then (
                  (f17 a3 a2).bind fun r33 =>
                  (f18 a3 a2).bind fun r34 =>
                  some (r33 == r34))
                else (
                  some false))))))))
noncomputable def f3I : Shape := { n := 129, nx := 0, sl := [(0, .dat false TPage), (1, .dat false (.int .u32)), (2, .dat false (.int .u32)), (3, .dat false (.int .u32)), (4, .dat false (.int .i64))], ob := [], fix := [], may := true }
noncomputable def f3O : Shape := { n := 130, nx := 0, sl := [(129, .dat true .bool)], ob := [], fix := [], may := true }
noncomputable def f3F : ((Val TPage) × Int × Int × Int × Int) → Option Bool := fun y => f3 y.1 y.2.1 y.2.2.1 y.2.2.2.1 y.2.2.2.2
noncomputable def f3ct : Ctr := ctrOf f3I f3O (fun d => d) (fun d => d) f3F
noncomputable def f3E : Env := { tf := tfE, fn := fun f => bif Nat.beq f 10 then some f10ct else bif Nat.beq f 11 then some f11ct else bif Nat.beq f 12 then some f12ct else bif Nat.beq f 13 then some f13ct else bif Nat.beq f 14 then some f14ct else bif Nat.beq f 15 then some f15ct else bif Nat.beq f 16 then some f16ct else bif Nat.beq f 17 then some f17ct else bif Nat.beq f 18 then some f18ct else none }
theorem f3_env : EnvOk PT f3E := ⟨tyE, fun f ct h => by
  simp only [f3E] at h
  refine envCons (c := f10ct) h f10_ctr (fun h => ?_)
  refine envCons (c := f11ct) h f11_ctr (fun h => ?_)
  refine envCons (c := f12ct) h f12_ctr (fun h => ?_)
  refine envCons (c := f13ct) h f13_ctr (fun h => ?_)
  refine envCons (c := f14ct) h f14_ctr (fun h => ?_)
  refine envCons (c := f15ct) h f15_ctr (fun h => ?_)
  refine envCons (c := f16ct) h f16_ctr (fun h => ?_)
  refine envCons (c := f17ct) h f17_ctr (fun h => ?_)
  refine envCons (c := f18ct) h f18_ctr (fun h => ?_)
  cases h⟩
noncomputable def f3C : Code := bodyOf Go.Proofs.Try.f3
noncomputable def f3H : Nat → Option Sum := fun n => none
theorem f3_bd (y : (Val TPage) × Int × Int × Int × Int) : @Eq (Option Bool) (exec f3E f3H f3C (f3I.mk' (show f3I.D from y)) (kontF (Z := Bool) f3E Go.Proofs.Try.f3.results.toList f3O (fun d => d))) (f3F y) := by kernel_rfl
theorem f3_lo {w0 : World} {Jo : Io} (hfix : ∀ i b, Jo.fix i = some b → i ∈ []) (hmay : true = true → Jo.may) : LoopsOk PT w0 Jo f3H f3C := (noLoops (by kernel_rfl))
theorem f3_ctr : CtrOk PT 3 f3ct :=
  @ctr_ok PT f3E f3H f3_env mixed 3 Go.Proofs.Try.f3 f3C (by kernel_rfl) (by kernel_rfl) (enters_of (by kernel_rfl : PT.funcs[3]? = some Go.Proofs.Try.f3) (by kernel_rfl) (by kernel_rfl)) f3I f3O ((Val TPage) × Int × Int × Int × Int) Bool (fun d => d) (fun d => d) (fun d => d) (fun d => d) (fun _ => rfl) (fun _ => rfl) (by kernel_rfl) (by kernel_rfl) f3F f3_bd (fun w0 Jo hfix hmay => f3_lo hfix hmay)

end Go.Sx
