/- A2: printed by a program of this session: the functions of the seat as plain functions, and that the code comes to them. -/
import Derived.Test.YteghkndbngddgaaA1
set_option linter.unusedVariables false
set_option maxRecDepth 100000
namespace Go.Sx
open Go.RowKit
noncomputable def str1 : ByteArray := (ByteArray.mk (List.toArray (List.append (List.append [0, 1, 2, 2, 3, 3, 3, 3, 4, 4, 4, 4, 4, 4, 4, 4, 5, 5, 5, 5, 5, 5, 5, 5, 5, 5, 5, 5, 5, 5, 5, 5, 6, 6, 6, 6, 6, 6, 6, 6, 6, 6, 6, 6, 6, 6, 6, 6, 6, 6, 6, 6, 6, 6, 6, 6, 6, 6, 6, 6, 6, 6, 6, 6] [7, 7, 7, 7, 7, 7, 7, 7, 7, 7, 7, 7, 7, 7, 7, 7, 7, 7, 7, 7, 7, 7, 7, 7, 7, 7, 7, 7, 7, 7, 7, 7, 7, 7, 7, 7, 7, 7, 7, 7, 7, 7, 7, 7, 7, 7, 7, 7, 7, 7, 7, 7, 7, 7, 7, 7, 7, 7, 7, 7, 7, 7, 7, 7]) (List.append [8, 8, 8, 8, 8, 8, 8, 8, 8, 8, 8, 8, 8, 8, 8, 8, 8, 8, 8, 8, 8, 8, 8, 8, 8, 8, 8, 8, 8, 8, 8, 8, 8, 8, 8, 8, 8, 8, 8, 8, 8, 8, 8, 8, 8, 8, 8, 8, 8, 8, 8, 8, 8, 8, 8, 8, 8, 8, 8, 8, 8, 8, 8, 8] [8, 8, 8, 8, 8, 8, 8, 8, 8, 8, 8, 8, 8, 8, 8, 8, 8, 8, 8, 8, 8, 8, 8, 8, 8, 8, 8, 8, 8, 8, 8, 8, 8, 8, 8, 8, 8, 8, 8, 8, 8, 8, 8, 8, 8, 8, 8, 8, 8, 8, 8, 8, 8, 8, 8, 8, 8, 8, 8, 8, 8, 8, 8, 8]))))
/-- bodega/segment.isSize -/
noncomputable def f60 (a0 : Int) : Option Bool :=
  bif (decide ((104 : Int) ≤ a0)) then (
    some (decide (a0 ≤ (256 : Int))))
  else (
    some false)
noncomputable def f60I : Shape := { n := 9, nx := 0, sl := [(0, .dat false (.int .i64))], ob := [], fix := [], may := true }
noncomputable def f60O : Shape := { n := 10, nx := 0, sl := [(9, .dat true .bool)], ob := [], fix := [], may := true }
noncomputable def f60F : Int → Option Bool := fun y => f60 y
noncomputable def f60ct : Ctr := ctrOf f60I f60O (fun d => d) (fun d => d) f60F
noncomputable def f60E : Env := { tf := tfE, fn := fun f => none }
theorem f60_env : EnvOk PT f60E := ⟨tyE, fun f ct h => by
  simp only [f60E] at h
  cases h⟩
noncomputable def f60C : Code := bodyOf Go.Proofs.Try.f60
noncomputable def f60H : Nat → Option Sum := fun n => none
theorem f60_bd (y : Int) : @Eq (Option Bool) (exec f60E f60H f60C (f60I.mk' (show f60I.D from y)) (kontF (Z := Bool) f60E Go.Proofs.Try.f60.results.toList f60O (fun d => d))) (f60F y) := by kernel_rfl
theorem f60_lo {w0 : World} {Jo : Io} (hfix : ∀ i b, Jo.fix i = some b → i ∈ []) (hmay : true = true → Jo.may) : LoopsOk PT w0 Jo f60H f60C := (noLoops (by kernel_rfl))
theorem f60_ctr : CtrOk PT 60 f60ct :=
  @ctr_ok PT f60E f60H f60_env mixed 60 Go.Proofs.Try.f60 f60C (by kernel_rfl) (by kernel_rfl) (enters_of (by kernel_rfl : PT.funcs[60]? = some Go.Proofs.Try.f60) (by kernel_rfl) (by kernel_rfl)) f60I f60O Int Bool (fun d => d) (fun d => d) (fun d => d) (fun d => d) (fun _ => rfl) (fun _ => rfl) (by kernel_rfl) (by kernel_rfl) f60F f60_bd (fun w0 Jo hfix hmay => f60_lo hfix hmay)

/-- bodega/segment.Count -/
noncomputable def f34 (a0 : Int) : Option Int :=
  (f60 a0).bind fun r1 =>
  bif (!r1) then (
    some (0 : Int))
  else (
    some (IntKind.wrap .i64 (Int.tdiv (IntKind.wrap .i64 (a0 - (104 : Int))) (16 : Int))))
noncomputable def f34I : Shape := { n := 9, nx := 0, sl := [(0, .dat false (.int .i64))], ob := [], fix := [], may := true }
noncomputable def f34O : Shape := { n := 10, nx := 0, sl := [(9, .dat true (.int .i64))], ob := [], fix := [], may := true }
noncomputable def f34F : Int → Option Int := fun y => f34 y
noncomputable def f34ct : Ctr := ctrOf f34I f34O (fun d => d) (fun d => d) f34F
noncomputable def f34E : Env := { tf := tfE, fn := fun f => bif Nat.beq f 60 then some f60ct else none }
theorem f34_env : EnvOk PT f34E := ⟨tyE, fun f ct h => by
  simp only [f34E] at h
  refine envCons (c := f60ct) h f60_ctr (fun h => ?_)
  cases h⟩
noncomputable def f34C : Code := bodyOf Go.Proofs.Try.f34
noncomputable def f34H : Nat → Option Sum := fun n => none
theorem f34_bd (y : Int) : @Eq (Option Int) (exec f34E f34H f34C (f34I.mk' (show f34I.D from y)) (kontF (Z := Int) f34E Go.Proofs.Try.f34.results.toList f34O (fun d => d))) (f34F y) := by kernel_rfl
theorem f34_lo {w0 : World} {Jo : Io} (hfix : ∀ i b, Jo.fix i = some b → i ∈ []) (hmay : true = true → Jo.may) : LoopsOk PT w0 Jo f34H f34C := (noLoops (by kernel_rfl))
theorem f34_ctr : CtrOk PT 34 f34ct :=
  @ctr_ok PT f34E f34H f34_env mixed 34 Go.Proofs.Try.f34 f34C (by kernel_rfl) (by kernel_rfl) (enters_of (by kernel_rfl : PT.funcs[34]? = some Go.Proofs.Try.f34) (by kernel_rfl) (by kernel_rfl)) f34I f34O Int Int (fun d => d) (fun d => d) (fun d => d) (fun d => d) (fun _ => rfl) (fun _ => rfl) (by kernel_rfl) (by kernel_rfl) f34F f34_bd (fun w0 Jo hfix hmay => f34_lo hfix hmay)

/-- bodega/segment.Locate -/
noncomputable def f32 (a0 : Int) (a1 : Int) : Option (Int × Int × Bool) :=
  bif (decide (a1 < (104 : Int))) then (
    some ((0 : Int), ((0 : Int), false)))
  else (
    (f34 a0).bind fun r1 =>
    bif (decide ((IntKind.wrap .i64 ((104 : Int) + (IntKind.wrap .i64 (r1 * (16 : Int))))) ≤ a1)) then (
      some ((0 : Int), ((0 : Int), false)))
    else (
      bif (decide ((Int.tmod (IntKind.wrap .i64 (a1 - (104 : Int))) (16 : Int)) = (0 : Int))) then (
        some ((0 : Int), ((0 : Int), false)))
      else (
        some ((IntKind.wrap .i64 (Int.tdiv (IntKind.wrap .i64 (a1 - (104 : Int))) (16 : Int))), ((Int.tmod (IntKind.wrap .i64 (a1 - (104 : Int))) (16 : Int)), true)))))
noncomputable def f32I : Shape := { n := 27, nx := 0, sl := [(0, .dat false (.int .i64)), (1, .dat false (.int .i64))], ob := [], fix := [], may := true }
noncomputable def f32O : Shape := { n := 28, nx := 0, sl := [(27, .tup (.cons (.dat true (.int .i64)) (.cons (.dat true (.int .i64)) (.cons (.dat true .bool) (.nil)))))], ob := [], fix := [], may := true }
noncomputable def f32F : (Int × Int) → Option (Int × Int × Bool) := fun y => f32 y.1 y.2
noncomputable def f32ct : Ctr := ctrOf f32I f32O (fun d => d) (fun d => d) f32F
noncomputable def f32E : Env := { tf := tfE, fn := fun f => bif Nat.beq f 34 then some f34ct else none }
theorem f32_env : EnvOk PT f32E := ⟨tyE, fun f ct h => by
  simp only [f32E] at h
  refine envCons (c := f34ct) h f34_ctr (fun h => ?_)
  cases h⟩
noncomputable def f32C : Code := bodyOf Go.Proofs.Try.f32
noncomputable def f32H : Nat → Option Sum := fun n => none
theorem f32_bd (y : Int × Int) : @Eq (Option (Int × Int × Bool)) (exec f32E f32H f32C (f32I.mk' (show f32I.D from y)) (kontF (Z := Int × Int × Bool) f32E Go.Proofs.Try.f32.results.toList f32O (fun d => d))) (f32F y) := by kernel_rfl
theorem f32_lo {w0 : World} {Jo : Io} (hfix : ∀ i b, Jo.fix i = some b → i ∈ []) (hmay : true = true → Jo.may) : LoopsOk PT w0 Jo f32H f32C := (noLoops (by kernel_rfl))
theorem f32_ctr : CtrOk PT 32 f32ct :=
  @ctr_ok PT f32E f32H f32_env mixed 32 Go.Proofs.Try.f32 f32C (by kernel_rfl) (by kernel_rfl) (enters_of (by kernel_rfl : PT.funcs[32]? = some Go.Proofs.Try.f32) (by kernel_rfl) (by kernel_rfl)) f32I f32O (Int × Int) (Int × Int × Bool) (fun d => d) (fun d => d) (fun d => d) (fun d => d) (fun _ => rfl) (fun _ => rfl) (by kernel_rfl) (by kernel_rfl) f32F f32_bd (fun w0 Jo hfix hmay => f32_lo hfix hmay)

/-- bodega/bodegaref19.Count -/
noncomputable def f35 (a0 : Int) : Option Int :=
  bif (decide (a0 < (104 : Int))) then (
    some (0 : Int))
  else (
    bif (decide ((256 : Int) < a0)) then (
      some (0 : Int))
    else (
      some (IntKind.wrap .i64 (Int.tdiv (IntKind.wrap .i64 (a0 - (104 : Int))) (16 : Int)))))
noncomputable def f35I : Shape := { n := 12, nx := 0, sl := [(0, .dat false (.int .i64))], ob := [], fix := [], may := true }
noncomputable def f35O : Shape := { n := 13, nx := 0, sl := [(12, .dat true (.int .i64))], ob := [], fix := [], may := true }
noncomputable def f35F : Int → Option Int := fun y => f35 y
noncomputable def f35ct : Ctr := ctrOf f35I f35O (fun d => d) (fun d => d) f35F
noncomputable def f35E : Env := { tf := tfE, fn := fun f => none }
theorem f35_env : EnvOk PT f35E := ⟨tyE, fun f ct h => by
  simp only [f35E] at h
  cases h⟩
noncomputable def f35C : Code := bodyOf Go.Proofs.Try.f35
noncomputable def f35H : Nat → Option Sum := fun n => none
theorem f35_bd (y : Int) : @Eq (Option Int) (exec f35E f35H f35C (f35I.mk' (show f35I.D from y)) (kontF (Z := Int) f35E Go.Proofs.Try.f35.results.toList f35O (fun d => d))) (f35F y) := by kernel_rfl
theorem f35_lo {w0 : World} {Jo : Io} (hfix : ∀ i b, Jo.fix i = some b → i ∈ []) (hmay : true = true → Jo.may) : LoopsOk PT w0 Jo f35H f35C := (noLoops (by kernel_rfl))
theorem f35_ctr : CtrOk PT 35 f35ct :=
  @ctr_ok PT f35E f35H f35_env mixed 35 Go.Proofs.Try.f35 f35C (by kernel_rfl) (by kernel_rfl) (enters_of (by kernel_rfl : PT.funcs[35]? = some Go.Proofs.Try.f35) (by kernel_rfl) (by kernel_rfl)) f35I f35O Int Int (fun d => d) (fun d => d) (fun d => d) (fun d => d) (fun _ => rfl) (fun _ => rfl) (by kernel_rfl) (by kernel_rfl) f35F f35_bd (fun w0 Jo hfix hmay => f35_lo hfix hmay)

/-- bodega/bodegaref19.HeaderLine -/
noncomputable def f37 (a0 : Int) : Option Int :=
  bif (decide (a0 < (0 : Int))) then (
    some (-1 : Int))
  else (
    bif (decide ((8 : Int) < a0)) then (
      some (-1 : Int))
    else (
      some (IntKind.wrap .i64 ((104 : Int) + (IntKind.wrap .i64 ((16 : Int) * a0))))))
noncomputable def f37I : Shape := { n := 12, nx := 0, sl := [(0, .dat false (.int .i64))], ob := [], fix := [], may := true }
noncomputable def f37O : Shape := { n := 13, nx := 0, sl := [(12, .dat true (.int .i64))], ob := [], fix := [], may := true }
noncomputable def f37F : Int → Option Int := fun y => f37 y
noncomputable def f37ct : Ctr := ctrOf f37I f37O (fun d => d) (fun d => d) f37F
noncomputable def f37E : Env := { tf := tfE, fn := fun f => none }
theorem f37_env : EnvOk PT f37E := ⟨tyE, fun f ct h => by
  simp only [f37E] at h
  cases h⟩
noncomputable def f37C : Code := bodyOf Go.Proofs.Try.f37
noncomputable def f37H : Nat → Option Sum := fun n => none
theorem f37_bd (y : Int) : @Eq (Option Int) (exec f37E f37H f37C (f37I.mk' (show f37I.D from y)) (kontF (Z := Int) f37E Go.Proofs.Try.f37.results.toList f37O (fun d => d))) (f37F y) := by kernel_rfl
theorem f37_lo {w0 : World} {Jo : Io} (hfix : ∀ i b, Jo.fix i = some b → i ∈ []) (hmay : true = true → Jo.may) : LoopsOk PT w0 Jo f37H f37C := (noLoops (by kernel_rfl))
theorem f37_ctr : CtrOk PT 37 f37ct :=
  @ctr_ok PT f37E f37H f37_env mixed 37 Go.Proofs.Try.f37 f37C (by kernel_rfl) (by kernel_rfl) (enters_of (by kernel_rfl : PT.funcs[37]? = some Go.Proofs.Try.f37) (by kernel_rfl) (by kernel_rfl)) f37I f37O Int Int (fun d => d) (fun d => d) (fun d => d) (fun d => d) (fun _ => rfl) (fun _ => rfl) (by kernel_rfl) (by kernel_rfl) f37F f37_bd (fun w0 Jo hfix hmay => f37_lo hfix hmay)

noncomputable def f33l1b (x0 : Int) (x1 : Int) (x2 : Int) : Option ((Int × Int × Int) ⊕ ((Unit) ⊕ (Int × Int × Bool))) :=
  (f35 x0).bind fun r1 =>
  bif (decide (x2 < r1)) then (
    (f37 x2).bind fun r2 =>
    (f37 x2).bind fun r3 =>
    bif (decide (r3 < x1)) then (
      (f37 x2).bind fun r4 =>
      bif (decide (x1 < (IntKind.wrap .i64 (r4 + (16 : Int))))) then (
        some (Sum.inr (Sum.inr (x2, ((IntKind.wrap .i64 (x1 - r2)), true)))))
      else (
        some (Sum.inl (x0, (x1, (IntKind.wrap .i64 (x2 + (1 : Int))))))))
    else (
      some (Sum.inl (x0, (x1, (IntKind.wrap .i64 (x2 + (1 : Int))))))))
  else (
    some (Sum.inr (Sum.inl ())))
noncomputable def f33l1B : (Int × Int × Int) → Option ((Int × Int × Int) ⊕ ((Unit) ⊕ (Int × Int × Bool))) := fun y => f33l1b y.1 y.2.1 y.2.2
noncomputable def f33l1 (x0 : Int) (x1 : Int) (x2 : Int) : Option ((Unit) ⊕ (Int × Int × Bool)) := iter f33l1B (x0, (x1, x2))
/-- bodega/bodegaref19.Locate -/
noncomputable def f33 (a0 : Int) (a1 : Int) : Option (Int × Int × Bool) :=
  (f33l1 a0 a1 (0 : Int)).bind fun r1 =>
  match r1 with
  | .inl r2 => (
    some ((0 : Int), ((0 : Int), false)))
  | .inr r3 => (
    some (r3.1, (r3.2.1, r3.2.2)))
noncomputable def f33I : Shape := { n := 32, nx := 0, sl := [(0, .dat false (.int .i64)), (1, .dat false (.int .i64))], ob := [], fix := [], may := true }
noncomputable def f33O : Shape := { n := 33, nx := 0, sl := [(32, .tup (.cons (.dat true (.int .i64)) (.cons (.dat true (.int .i64)) (.cons (.dat true .bool) (.nil)))))], ob := [], fix := [], may := true }
noncomputable def f33F : (Int × Int) → Option (Int × Int × Bool) := fun y => f33 y.1 y.2
noncomputable def f33ct : Ctr := ctrOf f33I f33O (fun d => d) (fun d => d) f33F
noncomputable def f33E : Env := { tf := tfE, fn := fun f => bif Nat.beq f 35 then some f35ct else bif Nat.beq f 37 then some f37ct else none }
theorem f33_env : EnvOk PT f33E := ⟨tyE, fun f ct h => by
  simp only [f33E] at h
  refine envCons (c := f35ct) h f35_ctr (fun h => ?_)
  refine envCons (c := f37ct) h f37_ctr (fun h => ?_)
  cases h⟩
noncomputable def f33C : Code := bodyOf Go.Proofs.Try.f33
noncomputable def f33l1C : Code := (loopsOf f33C).getD 0 .skip
noncomputable def f33l1S : Shape := { n := 32, nx := 0, sl := [(0, .dat false (.int .i64)), (1, .dat false (.int .i64)), (7, .dat true (.int .i64))], ob := [], fix := [], may := true }
noncomputable def f33l1O : List (Ex × Shape) := [(.exit 0, { n := 32, nx := 0, sl := [], ob := [], fix := [], may := true }), (.ret, { n := 32, nx := 0, sl := [(4, .dat true (.int .i64)), (5, .dat true (.int .i64)), (6, .dat true .bool)], ob := [], fix := [], may := true })]
noncomputable def f33l1M : Sum := loopSum (Y := Int × Int × Int) (Z := (Unit) ⊕ (Int × Int × Bool)) f33l1S f33l1O (fun d => d) (fun d => d) (iter f33l1B)
noncomputable def f33H : Nat → Option Sum := fun n => bif Nat.beq n 2 then some f33l1M else none
theorem f33l1_bd (y : Int × Int × Int) : @Eq (Option ((Int × Int × Int) ⊕ ((Unit) ⊕ (Int × Int × Bool)))) (exec f33E f33H f33l1C (f33l1S.mk' (show f33l1S.D from y)) (kont (Y := Int × Int × Int) (Z := (Unit) ⊕ (Int × Int × Bool)) f33l1S f33l1O (fun d => d) (fun d => d))) (f33l1B y) := by kernel_rfl
theorem f33l1_ok {w0 : World} {Jo : Io} (hfix : ∀ i b, Jo.fix i = some b → i ∈ []) (hmay : true = true → Jo.may) : SumOk PT w0 Jo f33l1M (.loop f33l1C) :=
  @loop_ok w0 Jo PT f33E f33H (Int × Int × Int) ((Unit) ⊕ (Int × Int × Bool)) f33_env mixed f33l1C f33l1S f33l1O (fun d => d) (fun d => d) (fun d => d) (fun d => d) (fun _ => rfl) (fun _ => rfl) hfix hmay (by kernel_rfl) (noLoops (by kernel_rfl)) f33l1B f33l1_bd
theorem f33_bd (y : Int × Int) : @Eq (Option (Int × Int × Bool)) (exec f33E f33H f33C (f33I.mk' (show f33I.D from y)) (kontF (Z := Int × Int × Bool) f33E Go.Proofs.Try.f33.results.toList f33O (fun d => d))) (f33F y) := by kernel_rfl
theorem f33_lo {w0 : World} {Jo : Io} (hfix : ∀ i b, Jo.fix i = some b → i ∈ []) (hmay : true = true → Jo.may) : LoopsOk PT w0 Jo f33H f33C := (loopsMk (by kernel_rfl) (loopsCons (c := f33l1C) (n := 2) (f := f33l1M) (by kernel_rfl) (by kernel_rfl) (f33l1_ok hfix hmay) loopsNil))
theorem f33_ctr : CtrOk PT 33 f33ct :=
  @ctr_ok PT f33E f33H f33_env mixed 33 Go.Proofs.Try.f33 f33C (by kernel_rfl) (by kernel_rfl) (enters_of (by kernel_rfl : PT.funcs[33]? = some Go.Proofs.Try.f33) (by kernel_rfl) (by kernel_rfl)) f33I f33O (Int × Int) (Int × Int × Bool) (fun d => d) (fun d => d) (fun d => d) (fun d => d) (fun _ => rfl) (fun _ => rfl) (by kernel_rfl) (by kernel_rfl) f33F f33_bd (fun w0 Jo hfix hmay => f33_lo hfix hmay)

noncomputable def f40l1b (x0 : Int) (x1 : Int) (x2 : Int) (x3 : Int) (x4 : Val (.pair (.int .i64) THead)) (x5 : Val (.slice TPage)) : Option ((Int × Int × Int × Int × (Val (.pair (.int .i64) THead)) × (Val (.slice TPage))) ⊕ (Int × Int × (Val (.pair (.int .i64) THead)) × (Val (.slice TPage)))) :=
  bif (decide (x1 < x0)) then (
    bif (decide (((List.length x5) + 1) ≤ lim)) then
    some (Sum.inl (x0, ((IntKind.wrap .i64 (x1 + (1 : Int))), (x2, (x3, (x4, (x5 ++ [(x1, ((256 : Int), ((List.replicate 7 (0 : Int)), ())))])))))))
    else none)
  else (
    some (Sum.inr (x2, (x3, (x4, x5)))))
noncomputable def f40l1B : (Int × Int × Int × Int × (Val (.pair (.int .i64) THead)) × (Val (.slice TPage))) → Option ((Int × Int × Int × Int × (Val (.pair (.int .i64) THead)) × (Val (.slice TPage))) ⊕ (Int × Int × (Val (.pair (.int .i64) THead)) × (Val (.slice TPage)))) := fun y => f40l1b y.1 y.2.1 y.2.2.1 y.2.2.2.1 y.2.2.2.2.1 y.2.2.2.2.2
noncomputable def f40l1 (x0 : Int) (x1 : Int) (x2 : Int) (x3 : Int) (x4 : Val (.pair (.int .i64) THead)) (x5 : Val (.slice TPage)) : Option (Int × Int × (Val (.pair (.int .i64) THead)) × (Val (.slice TPage))) := iter f40l1B (x0, (x1, (x2, (x3, (x4, x5)))))
/-- bodega/bodegaheap.New -/
noncomputable def f40 (a0 : Int) : Option (Int × Int × (Val (.pair (.int .i64) THead)) × (Val (.slice TPage))) :=
  (f40l1 a0 (96 : Int) a0 (0 : Int) ((1 : Int), ((0 : Int), ((1 : Int), ()))) []).bind fun r1 =>
  some (r1.1, (r1.2.1, (r1.2.2.1, r1.2.2.2)))
noncomputable def f40I : Shape := { n := 26, nx := 0, sl := [(0, .dat false (.int .i64))], ob := [], fix := [], may := true }
noncomputable def f40O : Shape := { n := 27, nx := 2, sl := [(26, .ref 0 [])], ob := [(0, .box (.pair (.slice TPage) (.pair (.int .i64) (.pair (.int .i64) (.pair (.slice (.pair (.int .u32) (.pair (.arr 3 (.int .i64)) .unit))) (.pair (.pair (.int .i64) THead) .unit))))) (.cons (.own TPage 1) (.cons (.dat false (.int .i64)) (.cons (.dat true (.int .i64)) (.cons (.nils) (.cons (.dat true (.pair (.int .i64) THead)) (.nil))))))), (1, .slc true TPage)], fix := [], may := true }
noncomputable def f40F : Int → Option (Int × Int × (Val (.pair (.int .i64) THead)) × (Val (.slice TPage))) := fun y => f40 y
noncomputable def f40ct : Ctr := ctrOf f40I f40O (fun d => d) (fun d => d) f40F
noncomputable def f40E : Env := { tf := tfE, fn := fun f => none }
theorem f40_env : EnvOk PT f40E := ⟨tyE, fun f ct h => by
  simp only [f40E] at h
  cases h⟩
noncomputable def f40C : Code := bodyOf Go.Proofs.Try.f40
noncomputable def f40l1C : Code := (loopsOf f40C).getD 0 .skip
noncomputable def f40l1S : Shape := { n := 26, nx := 2, sl := [(0, .dat false (.int .i64)), (3, .ref 0 []), (4, .dat true (.int .i64))], ob := [(0, .box (.pair (.slice TPage) (.pair (.int .i64) (.pair (.int .i64) (.pair (.slice (.pair (.int .u32) (.pair (.arr 3 (.int .i64)) .unit))) (.pair (.pair (.int .i64) THead) .unit))))) (.cons (.own TPage 1) (.cons (.dat false (.int .i64)) (.cons (.dat true (.int .i64)) (.cons (.nils) (.cons (.dat true (.pair (.int .i64) THead)) (.nil))))))), (1, .slc true TPage)], fix := [], may := true }
noncomputable def f40l1O : List (Ex × Shape) := [(.exit 0, { n := 26, nx := 2, sl := [(3, .ref 0 [])], ob := [(0, .box (.pair (.slice TPage) (.pair (.int .i64) (.pair (.int .i64) (.pair (.slice (.pair (.int .u32) (.pair (.arr 3 (.int .i64)) .unit))) (.pair (.pair (.int .i64) THead) .unit))))) (.cons (.own TPage 1) (.cons (.dat false (.int .i64)) (.cons (.dat true (.int .i64)) (.cons (.nils) (.cons (.dat true (.pair (.int .i64) THead)) (.nil))))))), (1, .slc true TPage)], fix := [], may := true })]
noncomputable def f40l1M : Sum := loopSum (Y := Int × Int × Int × Int × (Val (.pair (.int .i64) THead)) × (Val (.slice TPage))) (Z := Int × Int × (Val (.pair (.int .i64) THead)) × (Val (.slice TPage))) f40l1S f40l1O (fun d => d) (fun d => d) (iter f40l1B)
noncomputable def f40H : Nat → Option Sum := fun n => bif Nat.beq n 3 then some f40l1M else none
theorem f40l1_bd (y : Int × Int × Int × Int × (Val (.pair (.int .i64) THead)) × (Val (.slice TPage))) : @Eq (Option ((Int × Int × Int × Int × (Val (.pair (.int .i64) THead)) × (Val (.slice TPage))) ⊕ (Int × Int × (Val (.pair (.int .i64) THead)) × (Val (.slice TPage))))) (exec f40E f40H f40l1C (f40l1S.mk' (show f40l1S.D from y)) (kont (Y := Int × Int × Int × Int × (Val (.pair (.int .i64) THead)) × (Val (.slice TPage))) (Z := Int × Int × (Val (.pair (.int .i64) THead)) × (Val (.slice TPage))) f40l1S f40l1O (fun d => d) (fun d => d))) (f40l1B y) := by kernel_rfl
theorem f40l1_ok {w0 : World} {Jo : Io} (hfix : ∀ i b, Jo.fix i = some b → i ∈ []) (hmay : true = true → Jo.may) : SumOk PT w0 Jo f40l1M (.loop f40l1C) :=
  @loop_ok w0 Jo PT f40E f40H (Int × Int × Int × Int × (Val (.pair (.int .i64) THead)) × (Val (.slice TPage))) (Int × Int × (Val (.pair (.int .i64) THead)) × (Val (.slice TPage))) f40_env mixed f40l1C f40l1S f40l1O (fun d => d) (fun d => d) (fun d => d) (fun d => d) (fun _ => rfl) (fun _ => rfl) hfix hmay (by kernel_rfl) (noLoops (by kernel_rfl)) f40l1B f40l1_bd
theorem f40_bd (y : Int) : @Eq (Option (Int × Int × (Val (.pair (.int .i64) THead)) × (Val (.slice TPage)))) (exec f40E f40H f40C (f40I.mk' (show f40I.D from y)) (kontF (Z := Int × Int × (Val (.pair (.int .i64) THead)) × (Val (.slice TPage))) f40E Go.Proofs.Try.f40.results.toList f40O (fun d => d))) (f40F y) := by kernel_rfl
theorem f40_lo {w0 : World} {Jo : Io} (hfix : ∀ i b, Jo.fix i = some b → i ∈ []) (hmay : true = true → Jo.may) : LoopsOk PT w0 Jo f40H f40C := (loopsMk (by kernel_rfl) (loopsCons (c := f40l1C) (n := 3) (f := f40l1M) (by kernel_rfl) (by kernel_rfl) (f40l1_ok hfix hmay) loopsNil))
theorem f40_ctr : CtrOk PT 40 f40ct :=
  @ctr_ok PT f40E f40H f40_env mixed 40 Go.Proofs.Try.f40 f40C (by kernel_rfl) (by kernel_rfl) (enters_of (by kernel_rfl : PT.funcs[40]? = some Go.Proofs.Try.f40) (by kernel_rfl) (by kernel_rfl)) f40I f40O Int (Int × Int × (Val (.pair (.int .i64) THead)) × (Val (.slice TPage))) (fun d => d) (fun d => d) (fun d => d) (fun d => d) (fun _ => rfl) (fun _ => rfl) (by kernel_rfl) (by kernel_rfl) f40F f40_bd (fun w0 Jo hfix hmay => f40_lo hfix hmay)

/-- bodega/segment.isClient -/
noncomputable def f63 (a0 : Int) : Option Bool :=
  bif (decide ((0 : Int) ≤ a0)) then (
    some (decide (a0 < (6 : Int))))
  else (
    some false)
noncomputable def f63I : Shape := { n := 9, nx := 0, sl := [(0, .dat false (.int .i64))], ob := [], fix := [], may := true }
noncomputable def f63O : Shape := { n := 10, nx := 0, sl := [(9, .dat true .bool)], ob := [], fix := [], may := true }
noncomputable def f63F : Int → Option Bool := fun y => f63 y
noncomputable def f63ct : Ctr := ctrOf f63I f63O (fun d => d) (fun d => d) f63F
noncomputable def f63E : Env := { tf := tfE, fn := fun f => none }
theorem f63_env : EnvOk PT f63E := ⟨tyE, fun f ct h => by
  simp only [f63E] at h
  cases h⟩
noncomputable def f63C : Code := bodyOf Go.Proofs.Try.f63
noncomputable def f63H : Nat → Option Sum := fun n => none
theorem f63_bd (y : Int) : @Eq (Option Bool) (exec f63E f63H f63C (f63I.mk' (show f63I.D from y)) (kontF (Z := Bool) f63E Go.Proofs.Try.f63.results.toList f63O (fun d => d))) (f63F y) := by kernel_rfl
theorem f63_lo {w0 : World} {Jo : Io} (hfix : ∀ i b, Jo.fix i = some b → i ∈ []) (hmay : true = true → Jo.may) : LoopsOk PT w0 Jo f63H f63C := (noLoops (by kernel_rfl))
theorem f63_ctr : CtrOk PT 63 f63ct :=
  @ctr_ok PT f63E f63H f63_env mixed 63 Go.Proofs.Try.f63 f63C (by kernel_rfl) (by kernel_rfl) (enters_of (by kernel_rfl : PT.funcs[63]? = some Go.Proofs.Try.f63) (by kernel_rfl) (by kernel_rfl)) f63I f63O Int Bool (fun d => d) (fun d => d) (fun d => d) (fun d => d) (fun _ => rfl) (fun _ => rfl) (by kernel_rfl) (by kernel_rfl) f63F f63_bd (fun w0 Jo hfix hmay => f63_lo hfix hmay)

noncomputable def f71l1b (x0 : Val (.slice TPage)) (x1 : Int) (x2 : Int) (x3 : Val TPage) : Option (((Val (.slice TPage)) × Int × Int × (Val TPage)) ⊕ (((Val TPage)) ⊕ (Bool × (Val TPage)))) :=
  bif (decide ((0 : Int) ≤ x2)) then (
    bif (inR x2 (List.length x0)) then
    bif (decide ((List.getD x0 (Int.toNat x2) ((0 : Int), ((0 : Int), ((List.replicate 7 (0 : Int)), ())))).1 = x1)) then (
      bif (inR x2 (List.length x0)) then
      some (Sum.inr (Sum.inr (true, (List.getD x0 (Int.toNat x2) ((0 : Int), ((0 : Int), ((List.replicate 7 (0 : Int)), ())))))))
      else none)
    else (
      some (Sum.inl (x0, (x1, ((IntKind.wrap .i64 (x2 - (1 : Int))), x3)))))
    else none)
  else (
    some (Sum.inr (Sum.inl x3)))
noncomputable def f71l1B : ((Val (.slice TPage)) × Int × Int × (Val TPage)) → Option (((Val (.slice TPage)) × Int × Int × (Val TPage)) ⊕ (((Val TPage)) ⊕ (Bool × (Val TPage)))) := fun y => f71l1b y.1 y.2.1 y.2.2.1 y.2.2.2
noncomputable def f71l1 (x0 : Val (.slice TPage)) (x1 : Int) (x2 : Int) (x3 : Val TPage) : Option (((Val TPage)) ⊕ (Bool × (Val TPage))) := iter f71l1B (x0, (x1, (x2, x3)))
/-- bodega/pointer.Latest -/
noncomputable def f71 (a0 : Val (.slice TPage)) (a1 : Int) : Option ((Val TPage) × Bool) :=
  (f71l1 a0 a1 (IntKind.wrap .i64 ((((List.length a0) : Nat) : Int) - (1 : Int))) ((0 : Int), ((0 : Int), ((List.replicate 7 (0 : Int)), ())))).bind fun r1 =>
  match r1 with
  | .inl r2 => (
    some (((0 : Int), ((0 : Int), ((List.replicate 7 (0 : Int)), ()))), false))
  | .inr r3 => (
    some (r3.2, r3.1))
noncomputable def f71I : Shape := { n := 26, nx := 0, sl := [(0, .dat false (.slice TPage)), (1, .dat false (.int .i64))], ob := [], fix := [], may := true }
noncomputable def f71O : Shape := { n := 27, nx := 0, sl := [(26, .tup (.cons (.dat false TPage) (.cons (.dat true .bool) (.nil))))], ob := [], fix := [], may := true }
noncomputable def f71F : ((Val (.slice TPage)) × Int) → Option ((Val TPage) × Bool) := fun y => f71 y.1 y.2
noncomputable def f71ct : Ctr := ctrOf f71I f71O (fun d => d) (fun d => d) f71F
noncomputable def f71E : Env := { tf := tfE, fn := fun f => none }
theorem f71_env : EnvOk PT f71E := ⟨tyE, fun f ct h => by
  simp only [f71E] at h
  cases h⟩
noncomputable def f71C : Code := bodyOf Go.Proofs.Try.f71
noncomputable def f71l1C : Code := (loopsOf f71C).getD 0 .skip
noncomputable def f71l1S : Shape := { n := 26, nx := 1, sl := [(0, .dat false (.slice TPage)), (1, .dat false (.int .i64)), (4, .ref 0 []), (6, .dat true (.int .i64))], ob := [(0, .box TPage (.dat true TPage))], fix := [], may := true }
noncomputable def f71l1O : List (Ex × Shape) := [(.exit 0, { n := 26, nx := 1, sl := [(4, .ref 0 [])], ob := [(0, .box TPage (.dat true TPage))], fix := [], may := true }), (.ret, { n := 26, nx := 1, sl := [(4, .ref 0 []), (5, .dat true .bool)], ob := [(0, .box TPage (.dat false TPage))], fix := [], may := true })]
noncomputable def f71l1M : Sum := loopSum (Y := (Val (.slice TPage)) × Int × Int × (Val TPage)) (Z := ((Val TPage)) ⊕ (Bool × (Val TPage))) f71l1S f71l1O (fun d => d) (fun d => d) (iter f71l1B)
noncomputable def f71H : Nat → Option Sum := fun n => bif Nat.beq n 2 then some f71l1M else none
theorem f71l1_bd (y : (Val (.slice TPage)) × Int × Int × (Val TPage)) : @Eq (Option (((Val (.slice TPage)) × Int × Int × (Val TPage)) ⊕ (((Val TPage)) ⊕ (Bool × (Val TPage))))) (exec f71E f71H f71l1C (f71l1S.mk' (show f71l1S.D from y)) (kont (Y := (Val (.slice TPage)) × Int × Int × (Val TPage)) (Z := ((Val TPage)) ⊕ (Bool × (Val TPage))) f71l1S f71l1O (fun d => d) (fun d => d))) (f71l1B y) := by kernel_rfl
theorem f71l1_ok {w0 : World} {Jo : Io} (hfix : ∀ i b, Jo.fix i = some b → i ∈ []) (hmay : true = true → Jo.may) : SumOk PT w0 Jo f71l1M (.loop f71l1C) :=
  @loop_ok w0 Jo PT f71E f71H ((Val (.slice TPage)) × Int × Int × (Val TPage)) (((Val TPage)) ⊕ (Bool × (Val TPage))) f71_env mixed f71l1C f71l1S f71l1O (fun d => d) (fun d => d) (fun d => d) (fun d => d) (fun _ => rfl) (fun _ => rfl) hfix hmay (by kernel_rfl) (noLoops (by kernel_rfl)) f71l1B f71l1_bd
theorem f71_bd (y : (Val (.slice TPage)) × Int) : @Eq (Option ((Val TPage) × Bool)) (exec f71E f71H f71C (f71I.mk' (show f71I.D from y)) (kontF (Z := (Val TPage) × Bool) f71E Go.Proofs.Try.f71.results.toList f71O (fun d => d))) (f71F y) := by kernel_rfl
theorem f71_lo {w0 : World} {Jo : Io} (hfix : ∀ i b, Jo.fix i = some b → i ∈ []) (hmay : true = true → Jo.may) : LoopsOk PT w0 Jo f71H f71C := (loopsMk (by kernel_rfl) (loopsCons (c := f71l1C) (n := 2) (f := f71l1M) (by kernel_rfl) (by kernel_rfl) (f71l1_ok hfix hmay) loopsNil))
theorem f71_ctr : CtrOk PT 71 f71ct :=
  @ctr_ok PT f71E f71H f71_env mixed 71 Go.Proofs.Try.f71 f71C (by kernel_rfl) (by kernel_rfl) (enters_of (by kernel_rfl : PT.funcs[71]? = some Go.Proofs.Try.f71) (by kernel_rfl) (by kernel_rfl)) f71I f71O ((Val (.slice TPage)) × Int) ((Val TPage) × Bool) (fun d => d) (fun d => d) (fun d => d) (fun d => d) (fun _ => rfl) (fun _ => rfl) (by kernel_rfl) (by kernel_rfl) f71F f71_bd (fun w0 Jo hfix hmay => f71_lo hfix hmay)

/-- math/bits.Len64 -/
noncomputable def f110 (a0 : Int) : Option Int :=
  bif (decide ((4294967296 : Int) ≤ a0)) then (
    bif (decide ((65536 : Int) ≤ (shiftR .u64 a0 (32 : Int)))) then (
      bif (decide ((256 : Int) ≤ (shiftR .u64 (shiftR .u64 a0 (32 : Int)) (16 : Int)))) then (
        bif (inR (IntKind.wrap .u8 (shiftR .u64 (shiftR .u64 (shiftR .u64 a0 (32 : Int)) (16 : Int)) (8 : Int))) (ByteArray.size str1)) then
        some (IntKind.wrap .i64 ((56 : Int) + (IntKind.wrap .i64 ((UInt8.toNat (Array.getD (ByteArray.data str1) (Int.toNat (IntKind.wrap .u8 (shiftR .u64 (shiftR .u64 (shiftR .u64 a0 (32 : Int)) (16 : Int)) (8 : Int)))) 0) : Nat) : Int))))
        else none)
      else (
        bif (inR (IntKind.wrap .u8 (shiftR .u64 (shiftR .u64 a0 (32 : Int)) (16 : Int))) (ByteArray.size str1)) then
        some (IntKind.wrap .i64 ((48 : Int) + (IntKind.wrap .i64 ((UInt8.toNat (Array.getD (ByteArray.data str1) (Int.toNat (IntKind.wrap .u8 (shiftR .u64 (shiftR .u64 a0 (32 : Int)) (16 : Int)))) 0) : Nat) : Int))))
        else none))
    else (
      bif (decide ((256 : Int) ≤ (shiftR .u64 a0 (32 : Int)))) then (
        bif (inR (IntKind.wrap .u8 (shiftR .u64 (shiftR .u64 a0 (32 : Int)) (8 : Int))) (ByteArray.size str1)) then
        some (IntKind.wrap .i64 ((40 : Int) + (IntKind.wrap .i64 ((UInt8.toNat (Array.getD (ByteArray.data str1) (Int.toNat (IntKind.wrap .u8 (shiftR .u64 (shiftR .u64 a0 (32 : Int)) (8 : Int)))) 0) : Nat) : Int))))
        else none)
      else (
        bif (inR (IntKind.wrap .u8 (shiftR .u64 a0 (32 : Int))) (ByteArray.size str1)) then
        some (IntKind.wrap .i64 ((32 : Int) + (IntKind.wrap .i64 ((UInt8.toNat (Array.getD (ByteArray.data str1) (Int.toNat (IntKind.wrap .u8 (shiftR .u64 a0 (32 : Int)))) 0) : Nat) : Int))))
        else none)))
  else (
    bif (decide ((65536 : Int) ≤ a0)) then (
      bif (decide ((256 : Int) ≤ (shiftR .u64 a0 (16 : Int)))) then (
        bif (inR (IntKind.wrap .u8 (shiftR .u64 (shiftR .u64 a0 (16 : Int)) (8 : Int))) (ByteArray.size str1)) then
        some (IntKind.wrap .i64 ((24 : Int) + (IntKind.wrap .i64 ((UInt8.toNat (Array.getD (ByteArray.data str1) (Int.toNat (IntKind.wrap .u8 (shiftR .u64 (shiftR .u64 a0 (16 : Int)) (8 : Int)))) 0) : Nat) : Int))))
        else none)
      else (
        bif (inR (IntKind.wrap .u8 (shiftR .u64 a0 (16 : Int))) (ByteArray.size str1)) then
        some (IntKind.wrap .i64 ((16 : Int) + (IntKind.wrap .i64 ((UInt8.toNat (Array.getD (ByteArray.data str1) (Int.toNat (IntKind.wrap .u8 (shiftR .u64 a0 (16 : Int)))) 0) : Nat) : Int))))
        else none))
    else (
      bif (decide ((256 : Int) ≤ a0)) then (
        bif (inR (IntKind.wrap .u8 (shiftR .u64 a0 (8 : Int))) (ByteArray.size str1)) then
        some (IntKind.wrap .i64 ((8 : Int) + (IntKind.wrap .i64 ((UInt8.toNat (Array.getD (ByteArray.data str1) (Int.toNat (IntKind.wrap .u8 (shiftR .u64 a0 (8 : Int)))) 0) : Nat) : Int))))
        else none)
      else (
        bif (inR (IntKind.wrap .u8 a0) (ByteArray.size str1)) then
        some (IntKind.wrap .i64 ((0 : Int) + (IntKind.wrap .i64 ((UInt8.toNat (Array.getD (ByteArray.data str1) (Int.toNat (IntKind.wrap .u8 a0)) 0) : Nat) : Int))))
        else none)))
noncomputable def f110I : Shape := { n := 25, nx := 0, sl := [(0, .dat false (.int .u64))], ob := [], fix := [], may := true }
noncomputable def f110O : Shape := { n := 26, nx := 0, sl := [(25, .dat true (.int .i64))], ob := [], fix := [], may := true }
noncomputable def f110F : Int → Option Int := fun y => f110 y
noncomputable def f110ct : Ctr := ctrOf f110I f110O (fun d => d) (fun d => d) f110F
noncomputable def f110E : Env := { tf := tfE, fn := fun f => none }
theorem f110_env : EnvOk PT f110E := ⟨tyE, fun f ct h => by
  simp only [f110E] at h
  cases h⟩
noncomputable def f110C : Code := bodyOf Go.Proofs.Try.f110
noncomputable def f110H : Nat → Option Sum := fun n => none
theorem f110_bd (y : Int) : @Eq (Option Int) (exec f110E f110H f110C (f110I.mk' (show f110I.D from y)) (kontF (Z := Int) f110E Go.Proofs.Try.f110.results.toList f110O (fun d => d))) (f110F y) := by kernel_rfl
theorem f110_lo {w0 : World} {Jo : Io} (hfix : ∀ i b, Jo.fix i = some b → i ∈ []) (hmay : true = true → Jo.may) : LoopsOk PT w0 Jo f110H f110C := (noLoops (by kernel_rfl))
theorem f110_ctr : CtrOk PT 110 f110ct :=
  @ctr_ok PT f110E f110H f110_env mixed 110 Go.Proofs.Try.f110 f110C (by kernel_rfl) (by kernel_rfl) (enters_of (by kernel_rfl : PT.funcs[110]? = some Go.Proofs.Try.f110) (by kernel_rfl) (by kernel_rfl)) f110I f110O Int Int (fun d => d) (fun d => d) (fun d => d) (fun d => d) (fun _ => rfl) (fun _ => rfl) (by kernel_rfl) (by kernel_rfl) f110F f110_bd (fun w0 Jo hfix hmay => f110_lo hfix hmay)

/-- math/bits.Len -/
noncomputable def f97 (a0 : Int) : Option Int :=
  (f110 a0).bind fun r1 =>
  some r1
noncomputable def f97I : Shape := { n := 8, nx := 0, sl := [(0, .dat false (.int .u64))], ob := [], fix := [], may := true }
noncomputable def f97O : Shape := { n := 9, nx := 0, sl := [(8, .dat true (.int .i64))], ob := [], fix := [], may := true }
noncomputable def f97F : Int → Option Int := fun y => f97 y
noncomputable def f97ct : Ctr := ctrOf f97I f97O (fun d => d) (fun d => d) f97F
noncomputable def f97E : Env := { tf := tfE, fn := fun f => bif Nat.beq f 110 then some f110ct else none }
theorem f97_env : EnvOk PT f97E := ⟨tyE, fun f ct h => by
  simp only [f97E] at h
  refine envCons (c := f110ct) h f110_ctr (fun h => ?_)
  cases h⟩
noncomputable def f97C : Code := bodyOf Go.Proofs.Try.f97
noncomputable def f97H : Nat → Option Sum := fun n => none
theorem f97_bd (y : Int) : @Eq (Option Int) (exec f97E f97H f97C (f97I.mk' (show f97I.D from y)) (kontF (Z := Int) f97E Go.Proofs.Try.f97.results.toList f97O (fun d => d))) (f97F y) := by kernel_rfl
theorem f97_lo {w0 : World} {Jo : Io} (hfix : ∀ i b, Jo.fix i = some b → i ∈ []) (hmay : true = true → Jo.may) : LoopsOk PT w0 Jo f97H f97C := (noLoops (by kernel_rfl))
theorem f97_ctr : CtrOk PT 97 f97ct :=
  @ctr_ok PT f97E f97H f97_env mixed 97 Go.Proofs.Try.f97 f97C (by kernel_rfl) (by kernel_rfl) (enters_of (by kernel_rfl : PT.funcs[97]? = some Go.Proofs.Try.f97) (by kernel_rfl) (by kernel_rfl)) f97I f97O Int Int (fun d => d) (fun d => d) (fun d => d) (fun d => d) (fun _ => rfl) (fun _ => rfl) (by kernel_rfl) (by kernel_rfl) f97F f97_bd (fun w0 Jo hfix hmay => f97_lo hfix hmay)

/-- cmp.isNaN[int] -/
noncomputable def f95 (a0 : Int) : Option Bool :=
  some (!(decide (a0 = a0)))
noncomputable def f95I : Shape := { n := 6, nx := 0, sl := [(0, .dat false (.int .i64))], ob := [], fix := [], may := true }
noncomputable def f95O : Shape := { n := 7, nx := 0, sl := [(6, .dat true .bool)], ob := [], fix := [], may := true }
noncomputable def f95F : Int → Option Bool := fun y => f95 y
noncomputable def f95ct : Ctr := ctrOf f95I f95O (fun d => d) (fun d => d) f95F
noncomputable def f95E : Env := { tf := tfE, fn := fun f => none }
theorem f95_env : EnvOk PT f95E := ⟨tyE, fun f ct h => by
  simp only [f95E] at h
  cases h⟩
noncomputable def f95C : Code := bodyOf Go.Proofs.Try.f95
noncomputable def f95H : Nat → Option Sum := fun n => none
theorem f95_bd (y : Int) : @Eq (Option Bool) (exec f95E f95H f95C (f95I.mk' (show f95I.D from y)) (kontF (Z := Bool) f95E Go.Proofs.Try.f95.results.toList f95O (fun d => d))) (f95F y) := by kernel_rfl
theorem f95_lo {w0 : World} {Jo : Io} (hfix : ∀ i b, Jo.fix i = some b → i ∈ []) (hmay : true = true → Jo.may) : LoopsOk PT w0 Jo f95H f95C := (noLoops (by kernel_rfl))
theorem f95_ctr : CtrOk PT 95 f95ct :=
  @ctr_ok PT f95E f95H f95_env mixed 95 Go.Proofs.Try.f95 f95C (by kernel_rfl) (by kernel_rfl) (enters_of (by kernel_rfl : PT.funcs[95]? = some Go.Proofs.Try.f95) (by kernel_rfl) (by kernel_rfl)) f95I f95O Int Bool (fun d => d) (fun d => d) (fun d => d) (fun d => d) (fun _ => rfl) (fun _ => rfl) (by kernel_rfl) (by kernel_rfl) f95F f95_bd (fun w0 Jo hfix hmay => f95_lo hfix hmay)

/-- cmp.Less[int] -/
noncomputable def f106 (a0 : Int) (a1 : Int) : Option Bool :=
  (f95 a0).bind fun r1 =>
  bif r1 then (
    (f95 a1).bind fun r2 =>
    bif (!r2) then (
      some true)
    else (
      some (decide (a0 < a1))))
  else (
    some (decide (a0 < a1)))
noncomputable def f106I : Shape := { n := 17, nx := 0, sl := [(0, .dat false (.int .i64)), (1, .dat false (.int .i64))], ob := [], fix := [], may := true }
noncomputable def f106O : Shape := { n := 18, nx := 0, sl := [(17, .dat true .bool)], ob := [], fix := [], may := true }
noncomputable def f106F : (Int × Int) → Option Bool := fun y => f106 y.1 y.2
noncomputable def f106ct : Ctr := ctrOf f106I f106O (fun d => d) (fun d => d) f106F
noncomputable def f106E : Env := { tf := tfE, fn := fun f => bif Nat.beq f 95 then some f95ct else none }
theorem f106_env : EnvOk PT f106E := ⟨tyE, fun f ct h => by
  simp only [f106E] at h
  refine envCons (c := f95ct) h f95_ctr (fun h => ?_)
  cases h⟩
noncomputable def f106C : Code := bodyOf Go.Proofs.Try.f106
noncomputable def f106H : Nat → Option Sum := fun n => none
theorem f106_bd (y : Int × Int) : @Eq (Option Bool) (exec f106E f106H f106C (f106I.mk' (show f106I.D from y)) (kontF (Z := Bool) f106E Go.Proofs.Try.f106.results.toList f106O (fun d => d))) (f106F y) := by kernel_rfl
theorem f106_lo {w0 : World} {Jo : Io} (hfix : ∀ i b, Jo.fix i = some b → i ∈ []) (hmay : true = true → Jo.may) : LoopsOk PT w0 Jo f106H f106C := (noLoops (by kernel_rfl))
theorem f106_ctr : CtrOk PT 106 f106ct :=
  @ctr_ok PT f106E f106H f106_env mixed 106 Go.Proofs.Try.f106 f106C (by kernel_rfl) (by kernel_rfl) (enters_of (by kernel_rfl : PT.funcs[106]? = some Go.Proofs.Try.f106) (by kernel_rfl) (by kernel_rfl)) f106I f106O (Int × Int) Bool (fun d => d) (fun d => d) (fun d => d) (fun d => d) (fun _ => rfl) (fun _ => rfl) (by kernel_rfl) (by kernel_rfl) f106F f106_bd (fun w0 Jo hfix hmay => f106_lo hfix hmay)

noncomputable def f100l1b (x0 : Int) (x1 : Int) (x2 : Int) (x3 : Int) (x4 : Val (.slice (.int .i64))) : Option ((Int × Int × Int × Int × (Val (.slice (.int .i64)))) ⊕ (Int × Int × Int × (Val (.slice (.int .i64))))) :=
  bif (decide (x0 < x3)) then (
    bif (inR x3 (List.length x4)) then
    bif (inR (IntKind.wrap .i64 (x3 - (1 : Int))) (List.length x4)) then
    (f106 (List.getD x4 (Int.toNat x3) (0 : Int)) (List.getD x4 (Int.toNat (IntKind.wrap .i64 (x3 - (1 : Int)))) (0 : Int))).bind fun r1 =>
    bif r1 then (
      bif (inR (IntKind.wrap .i64 (x3 - (1 : Int))) (List.length x4)) then
      bif (inR x3 (List.length x4)) then
      bif (inR x3 (List.length x4)) then
      none
      else none
      else none
      else none)
    else (
      some (Sum.inr (x0, (x1, (x2, x4)))))
    else none
    else none)
  else (
    some (Sum.inr (x0, (x1, (x2, x4)))))
noncomputable def f100l1B : (Int × Int × Int × Int × (Val (.slice (.int .i64)))) → Option ((Int × Int × Int × Int × (Val (.slice (.int .i64)))) ⊕ (Int × Int × Int × (Val (.slice (.int .i64))))) := fun y => f100l1b y.1 y.2.1 y.2.2.1 y.2.2.2.1 y.2.2.2.2
noncomputable def f100l1 (x0 : Int) (x1 : Int) (x2 : Int) (x3 : Int) (x4 : Val (.slice (.int .i64))) : Option (Int × Int × Int × (Val (.slice (.int .i64)))) := iter f100l1B (x0, (x1, (x2, (x3, x4))))
noncomputable def f100l2b (x0 : Int) (x1 : Int) (x2 : Int) (x3 : Val (.slice (.int .i64))) : Option ((Int × Int × Int × (Val (.slice (.int .i64)))) ⊕ ((Val (.slice (.int .i64))))) :=
  bif (decide (x2 < x1)) then (
    (f100l1 x0 x1 x2 x2 x3).bind fun r1 =>
    some (Sum.inl (r1.1, (r1.2.1, ((IntKind.wrap .i64 (r1.2.2.1 + (1 : Int))), r1.2.2.2)))))
  else (
    some (Sum.inr x3))
noncomputable def f100l2B : (Int × Int × Int × (Val (.slice (.int .i64)))) → Option ((Int × Int × Int × (Val (.slice (.int .i64)))) ⊕ ((Val (.slice (.int .i64))))) := fun y => f100l2b y.1 y.2.1 y.2.2.1 y.2.2.2
noncomputable def f100l2 (x0 : Int) (x1 : Int) (x2 : Int) (x3 : Val (.slice (.int .i64))) : Option ((Val (.slice (.int .i64)))) := iter f100l2B (x0, (x1, (x2, x3)))
/-- slices.insertionSortOrdered[int] -/
noncomputable def f100 (a0 : Int) (a1 : Int) (a2 : Val (.slice (.int .i64))) : Option ((Val (.slice (.int .i64)))) :=
  (f100l2 a0 a1 (IntKind.wrap .i64 (a0 + (1 : Int))) a2).bind fun r1 =>
  some r1
noncomputable def f100I : Shape := { n := 49, nx := 1, sl := [(0, .own (.int .i64) 0), (1, .dat false (.int .i64)), (2, .dat false (.int .i64))], ob := [(0, .slc false (.int .i64))], fix := [0], may := false }
noncomputable def f100O : Shape := { n := 50, nx := 1, sl := [(49, .tup (.nil))], ob := [(0, .slc false (.int .i64))], fix := [0], may := false }
noncomputable def f100F : (Int × Int × (Val (.slice (.int .i64)))) → Option ((Val (.slice (.int .i64)))) := fun y => f100 y.1 y.2.1 y.2.2
noncomputable def f100ct : Ctr := ctrOf f100I f100O (fun d => d) (fun d => d) f100F
noncomputable def f100E : Env := { tf := tfE, fn := fun f => bif Nat.beq f 106 then some f106ct else none }
theorem f100_env : EnvOk PT f100E := ⟨tyE, fun f ct h => by
  simp only [f100E] at h
  refine envCons (c := f106ct) h f106_ctr (fun h => ?_)
  cases h⟩
noncomputable def f100C : Code := bodyOf Go.Proofs.Try.f100
noncomputable def f100l2C : Code := (loopsOf f100C).getD 0 .skip
noncomputable def f100l1C : Code := (loopsOf f100C).getD 1 .skip
noncomputable def f100l1S : Shape := { n := 49, nx := 1, sl := [(0, .own (.int .i64) 0), (1, .dat false (.int .i64)), (2, .dat false (.int .i64)), (6, .dat true (.int .i64)), (7, .dat true (.int .i64))], ob := [(0, .slc false (.int .i64))], fix := [0], may := false }
noncomputable def f100l1O : List (Ex × Shape) := [(.exit 2, { n := 49, nx := 1, sl := [(0, .own (.int .i64) 0), (1, .dat false (.int .i64)), (2, .dat false (.int .i64)), (6, .dat true (.int .i64))], ob := [(0, .slc false (.int .i64))], fix := [0], may := false })]
noncomputable def f100l1M : Sum := loopSum (Y := Int × Int × Int × Int × (Val (.slice (.int .i64)))) (Z := Int × Int × Int × (Val (.slice (.int .i64)))) f100l1S f100l1O (fun d => d) (fun d => d) (iter f100l1B)
noncomputable def f100l2S : Shape := { n := 49, nx := 1, sl := [(0, .own (.int .i64) 0), (1, .dat false (.int .i64)), (2, .dat false (.int .i64)), (6, .dat true (.int .i64))], ob := [(0, .slc false (.int .i64))], fix := [0], may := false }
noncomputable def f100l2O : List (Ex × Shape) := [(.exit 0, { n := 49, nx := 1, sl := [], ob := [(0, .slc false (.int .i64))], fix := [0], may := false })]
noncomputable def f100l2M : Sum := loopSum (Y := Int × Int × Int × (Val (.slice (.int .i64)))) (Z := (Val (.slice (.int .i64)))) f100l2S f100l2O (fun d => d) (fun d => d) (iter f100l2B)
noncomputable def f100H : Nat → Option Sum := fun n => bif Nat.beq n 4 then some f100l1M else bif Nat.beq n 1 then some f100l2M else none
theorem f100l1_bd (y : Int × Int × Int × Int × (Val (.slice (.int .i64)))) : @Eq (Option ((Int × Int × Int × Int × (Val (.slice (.int .i64)))) ⊕ (Int × Int × Int × (Val (.slice (.int .i64)))))) (exec f100E f100H f100l1C (f100l1S.mk' (show f100l1S.D from y)) (kont (Y := Int × Int × Int × Int × (Val (.slice (.int .i64)))) (Z := Int × Int × Int × (Val (.slice (.int .i64)))) f100l1S f100l1O (fun d => d) (fun d => d))) (f100l1B y) := by kernel_rfl
theorem f100l1_ok {w0 : World} {Jo : Io} (hfix : ∀ i b, Jo.fix i = some b → i ∈ [0]) (hmay : false = true → Jo.may) : SumOk PT w0 Jo f100l1M (.loop f100l1C) :=
  @loop_ok w0 Jo PT f100E f100H (Int × Int × Int × Int × (Val (.slice (.int .i64)))) (Int × Int × Int × (Val (.slice (.int .i64)))) f100_env mixed f100l1C f100l1S f100l1O (fun d => d) (fun d => d) (fun d => d) (fun d => d) (fun _ => rfl) (fun _ => rfl) hfix hmay (by kernel_rfl) (noLoops (by kernel_rfl)) f100l1B f100l1_bd
theorem f100l2_bd (y : Int × Int × Int × (Val (.slice (.int .i64)))) : @Eq (Option ((Int × Int × Int × (Val (.slice (.int .i64)))) ⊕ ((Val (.slice (.int .i64)))))) (exec f100E f100H f100l2C (f100l2S.mk' (show f100l2S.D from y)) (kont (Y := Int × Int × Int × (Val (.slice (.int .i64)))) (Z := (Val (.slice (.int .i64)))) f100l2S f100l2O (fun d => d) (fun d => d))) (f100l2B y) := by kernel_rfl
theorem f100l2_ok {w0 : World} {Jo : Io} (hfix : ∀ i b, Jo.fix i = some b → i ∈ [0]) (hmay : false = true → Jo.may) : SumOk PT w0 Jo f100l2M (.loop f100l2C) :=
  @loop_ok w0 Jo PT f100E f100H (Int × Int × Int × (Val (.slice (.int .i64)))) ((Val (.slice (.int .i64)))) f100_env mixed f100l2C f100l2S f100l2O (fun d => d) (fun d => d) (fun d => d) (fun d => d) (fun _ => rfl) (fun _ => rfl) hfix hmay (by kernel_rfl) (loopsMk (by kernel_rfl) (loopsCons (c := f100l1C) (n := 4) (f := f100l1M) (by kernel_rfl) (by kernel_rfl) (f100l1_ok hfix hmay) loopsNil)) f100l2B f100l2_bd
theorem f100_bd (y : Int × Int × (Val (.slice (.int .i64)))) : @Eq (Option ((Val (.slice (.int .i64))))) (exec f100E f100H f100C (f100I.mk' (show f100I.D from y)) (kontF (Z := (Val (.slice (.int .i64)))) f100E Go.Proofs.Try.f100.results.toList f100O (fun d => d))) (f100F y) := by kernel_rfl
theorem f100_lo {w0 : World} {Jo : Io} (hfix : ∀ i b, Jo.fix i = some b → i ∈ [0]) (hmay : false = true → Jo.may) : LoopsOk PT w0 Jo f100H f100C := (loopsMk (by kernel_rfl) (loopsCons (c := f100l2C) (n := 1) (f := f100l2M) (by kernel_rfl) (by kernel_rfl) (f100l2_ok hfix hmay) (loopsCons (c := f100l1C) (n := 4) (f := f100l1M) (by kernel_rfl) (by kernel_rfl) (f100l1_ok hfix hmay) loopsNil)))
theorem f100_ctr : CtrOk PT 100 f100ct :=
  @ctr_ok PT f100E f100H f100_env mixed 100 Go.Proofs.Try.f100 f100C (by kernel_rfl) (by kernel_rfl) (enters_of (by kernel_rfl : PT.funcs[100]? = some Go.Proofs.Try.f100) (by kernel_rfl) (by kernel_rfl)) f100I f100O (Int × Int × (Val (.slice (.int .i64)))) ((Val (.slice (.int .i64)))) (fun d => d) (fun d => d) (fun d => d) (fun d => d) (fun _ => rfl) (fun _ => rfl) (by kernel_rfl) (by kernel_rfl) f100F f100_bd (fun w0 Jo hfix hmay => f100_lo hfix hmay)

noncomputable def f96l1b (x0 : Int) (x1 : Int) (x2 : Int) (x3 : Bool) (x4 : Bool) (x5 : Val (.slice (.int .i64))) : Option ((Int × Int × Int × Bool × Bool × (Val (.slice (.int .i64)))) ⊕ ((Val (.slice (.int .i64))))) :=
  bif (decide ((IntKind.wrap .i64 (x1 - x0)) ≤ (12 : Int))) then (
    (f100 x0 x1 x5).bind fun r1 =>
    some (Sum.inr r1))
  else (
    bif (decide (x2 = (0 : Int))) then (
      none)
    else (
      bif (!x3) then (
        none)
      else (
        none)))
noncomputable def f96l1B : (Int × Int × Int × Bool × Bool × (Val (.slice (.int .i64)))) → Option ((Int × Int × Int × Bool × Bool × (Val (.slice (.int .i64)))) ⊕ ((Val (.slice (.int .i64))))) := fun y => f96l1b y.1 y.2.1 y.2.2.1 y.2.2.2.1 y.2.2.2.2.1 y.2.2.2.2.2
noncomputable def f96l1 (x0 : Int) (x1 : Int) (x2 : Int) (x3 : Bool) (x4 : Bool) (x5 : Val (.slice (.int .i64))) : Option ((Val (.slice (.int .i64)))) := iter f96l1B (x0, (x1, (x2, (x3, (x4, x5)))))
/-- slices.pdqsortOrdered[int] -/
noncomputable def f96 (a0 : Int) (a1 : Int) (a2 : Int) (a3 : Val (.slice (.int .i64))) : Option ((Val (.slice (.int .i64)))) :=
  (f96l1 a0 a1 a2 true true a3).bind fun r1 =>
  some r1
noncomputable def f96I : Shape := { n := 134, nx := 1, sl := [(0, .own (.int .i64) 0), (1, .dat false (.int .i64)), (2, .dat false (.int .i64)), (3, .dat false (.int .i64))], ob := [(0, .slc false (.int .i64))], fix := [0], may := false }
noncomputable def f96O : Shape := { n := 135, nx := 1, sl := [(134, .tup (.nil))], ob := [(0, .slc false (.int .i64))], fix := [0], may := false }
noncomputable def f96F : (Int × Int × Int × (Val (.slice (.int .i64)))) → Option ((Val (.slice (.int .i64)))) := fun y => f96 y.1 y.2.1 y.2.2.1 y.2.2.2
noncomputable def f96ct : Ctr := ctrOf f96I f96O (fun d => d) (fun d => d) f96F
noncomputable def f96E : Env := { tf := tfE, fn := fun f => bif Nat.beq f 100 then some f100ct else none }
theorem f96_env : EnvOk PT f96E := ⟨tyE, fun f ct h => by
  simp only [f96E] at h
  refine envCons (c := f100ct) h f100_ctr (fun h => ?_)
  cases h⟩
noncomputable def f96C : Code := bodyOf Go.Proofs.Try.f96
noncomputable def f96l1C : Code := (loopsOf f96C).getD 0 .skip
noncomputable def f96l1S : Shape := { n := 134, nx := 1, sl := [(0, .own (.int .i64) 0), (1, .dat false (.int .i64)), (2, .dat false (.int .i64)), (3, .dat false (.int .i64)), (8, .dat true .bool), (9, .dat true .bool)], ob := [(0, .slc false (.int .i64))], fix := [0], may := false }
noncomputable def f96l1O : List (Ex × Shape) := [(.ret, { n := 134, nx := 1, sl := [], ob := [(0, .slc false (.int .i64))], fix := [0], may := false })]
noncomputable def f96l1M : Sum := loopSum (Y := Int × Int × Int × Bool × Bool × (Val (.slice (.int .i64)))) (Z := (Val (.slice (.int .i64)))) f96l1S f96l1O (fun d => d) (fun d => d) (iter f96l1B)
noncomputable def f96H : Nat → Option Sum := fun n => bif Nat.beq n 2 then some f96l1M else none
theorem f96l1_bd (y : Int × Int × Int × Bool × Bool × (Val (.slice (.int .i64)))) : @Eq (Option ((Int × Int × Int × Bool × Bool × (Val (.slice (.int .i64)))) ⊕ ((Val (.slice (.int .i64)))))) (exec f96E f96H f96l1C (f96l1S.mk' (show f96l1S.D from y)) (kont (Y := Int × Int × Int × Bool × Bool × (Val (.slice (.int .i64)))) (Z := (Val (.slice (.int .i64)))) f96l1S f96l1O (fun d => d) (fun d => d))) (f96l1B y) := by kernel_rfl
theorem f96l1_ok {w0 : World} {Jo : Io} (hfix : ∀ i b, Jo.fix i = some b → i ∈ [0]) (hmay : false = true → Jo.may) : SumOk PT w0 Jo f96l1M (.loop f96l1C) :=
  @loop_ok w0 Jo PT f96E f96H (Int × Int × Int × Bool × Bool × (Val (.slice (.int .i64)))) ((Val (.slice (.int .i64)))) f96_env mixed f96l1C f96l1S f96l1O (fun d => d) (fun d => d) (fun d => d) (fun d => d) (fun _ => rfl) (fun _ => rfl) hfix hmay (by kernel_rfl) (noLoops (by kernel_rfl)) f96l1B f96l1_bd
theorem f96_bd (y : Int × Int × Int × (Val (.slice (.int .i64)))) : @Eq (Option ((Val (.slice (.int .i64))))) (exec f96E f96H f96C (f96I.mk' (show f96I.D from y)) (kontF (Z := (Val (.slice (.int .i64)))) f96E Go.Proofs.Try.f96.results.toList f96O (fun d => d))) (f96F y) := by kernel_rfl
theorem f96_lo {w0 : World} {Jo : Io} (hfix : ∀ i b, Jo.fix i = some b → i ∈ [0]) (hmay : false = true → Jo.may) : LoopsOk PT w0 Jo f96H f96C := (loopsMk (by kernel_rfl) (loopsCons (c := f96l1C) (n := 2) (f := f96l1M) (by kernel_rfl) (by kernel_rfl) (f96l1_ok hfix hmay) loopsNil))
theorem f96_ctr : CtrOk PT 96 f96ct :=
  @ctr_ok PT f96E f96H f96_env mixed 96 Go.Proofs.Try.f96 f96C (by kernel_rfl) (by kernel_rfl) (enters_of (by kernel_rfl : PT.funcs[96]? = some Go.Proofs.Try.f96) (by kernel_rfl) (by kernel_rfl)) f96I f96O (Int × Int × Int × (Val (.slice (.int .i64)))) ((Val (.slice (.int .i64)))) (fun d => d) (fun d => d) (fun d => d) (fun d => d) (fun _ => rfl) (fun _ => rfl) (by kernel_rfl) (by kernel_rfl) f96F f96_bd (fun w0 Jo hfix hmay => f96_lo hfix hmay)

/-- slices.Sort[[]int,int] -/
noncomputable def f88 (a0 : Val (.slice (.int .i64))) : Option ((Val (.slice (.int .i64)))) :=
  (f97 (IntKind.wrap .u64 (((List.length a0) : Nat) : Int))).bind fun r1 =>
  (f96 (0 : Int) (((List.length a0) : Nat) : Int) r1 a0).bind fun r2 =>
  some r2
noncomputable def f88I : Shape := { n := 11, nx := 1, sl := [(0, .own (.int .i64) 0)], ob := [(0, .slc false (.int .i64))], fix := [0], may := false }
noncomputable def f88O : Shape := { n := 12, nx := 1, sl := [(11, .tup (.nil))], ob := [(0, .slc false (.int .i64))], fix := [0], may := false }
noncomputable def f88F : ((Val (.slice (.int .i64)))) → Option ((Val (.slice (.int .i64)))) := fun y => f88 y
noncomputable def f88ct : Ctr := ctrOf f88I f88O (fun d => d) (fun d => d) f88F
noncomputable def f88E : Env := { tf := tfE, fn := fun f => bif Nat.beq f 97 then some f97ct else bif Nat.beq f 96 then some f96ct else none }
theorem f88_env : EnvOk PT f88E := ⟨tyE, fun f ct h => by
  simp only [f88E] at h
  refine envCons (c := f97ct) h f97_ctr (fun h => ?_)
  refine envCons (c := f96ct) h f96_ctr (fun h => ?_)
  cases h⟩
noncomputable def f88C : Code := bodyOf Go.Proofs.Try.f88
noncomputable def f88H : Nat → Option Sum := fun n => none
theorem f88_bd (y : (Val (.slice (.int .i64)))) : @Eq (Option ((Val (.slice (.int .i64))))) (exec f88E f88H f88C (f88I.mk' (show f88I.D from y)) (kontF (Z := (Val (.slice (.int .i64)))) f88E Go.Proofs.Try.f88.results.toList f88O (fun d => d))) (f88F y) := by kernel_rfl
theorem f88_lo {w0 : World} {Jo : Io} (hfix : ∀ i b, Jo.fix i = some b → i ∈ [0]) (hmay : false = true → Jo.may) : LoopsOk PT w0 Jo f88H f88C := (noLoops (by kernel_rfl))
theorem f88_ctr : CtrOk PT 88 f88ct :=
  @ctr_ok PT f88E f88H f88_env mixed 88 Go.Proofs.Try.f88 f88C (by kernel_rfl) (by kernel_rfl) (enters_of (by kernel_rfl : PT.funcs[88]? = some Go.Proofs.Try.f88) (by kernel_rfl) (by kernel_rfl)) f88I f88O ((Val (.slice (.int .i64)))) ((Val (.slice (.int .i64)))) (fun d => d) (fun d => d) (fun d => d) (fun d => d) (fun _ => rfl) (fun _ => rfl) (by kernel_rfl) (by kernel_rfl) f88F f88_bd (fun w0 Jo hfix hmay => f88_lo hfix hmay)

noncomputable def f89l1b (x0 : Int) (x1 : Nat) (x2 : Nat) (x3 : Int) (x4 : Val (.slice (.int .i64))) : Option ((Int × Nat × Nat × Int × (Val (.slice (.int .i64)))) ⊕ (Int × (Val (.slice (.int .i64))))) :=
  bif (decide (x3 < (((x2 : Nat) : Int) - ((x1 : Nat) : Int)))) then (
    bif (inR x3 (x2 - x1)) then
    bif (inR (IntKind.wrap .i64 (x3 - (1 : Int))) (x2 - x1)) then
    bif (!(decide ((List.getD x4 (x1 + (Int.toNat x3)) (0 : Int)) = (List.getD x4 (x1 + (Int.toNat (IntKind.wrap .i64 (x3 - (1 : Int))))) (0 : Int))))) then (
      bif (inR x3 (x2 - x1)) then
      bif (inR x0 (List.length x4)) then
      some (Sum.inl ((IntKind.wrap .i64 (x0 + (1 : Int))), (x1, (x2, ((IntKind.wrap .i64 (x3 + (1 : Int))), (List.set x4 (Int.toNat x0) (List.getD x4 (x1 + (Int.toNat x3)) (0 : Int))))))))
      else none
      else none)
    else (
      some (Sum.inl (x0, (x1, (x2, ((IntKind.wrap .i64 (x3 + (1 : Int))), x4))))))
    else none
    else none)
  else (
    some (Sum.inr (x0, x4)))
noncomputable def f89l1B : (Int × Nat × Nat × Int × (Val (.slice (.int .i64)))) → Option ((Int × Nat × Nat × Int × (Val (.slice (.int .i64)))) ⊕ (Int × (Val (.slice (.int .i64))))) := fun y => f89l1b y.1 y.2.1 y.2.2.1 y.2.2.2.1 y.2.2.2.2
noncomputable def f89l1 (x0 : Int) (x1 : Nat) (x2 : Nat) (x3 : Int) (x4 : Val (.slice (.int .i64))) : Option (Int × (Val (.slice (.int .i64)))) := iter f89l1B (x0, (x1, (x2, (x3, x4))))
noncomputable def f89l2b (x0 : Int) (x1 : Val (.slice (.int .i64))) : Option ((Int × (Val (.slice (.int .i64)))) ⊕ ((Val (.slice (.int .i64))))) :=
  bif (decide (x0 < (((List.length x1) : Nat) : Int))) then (
    bif (inR x0 (List.length x1)) then
    bif (inR (IntKind.wrap .i64 (x0 - (1 : Int))) (List.length x1)) then
    bif (decide ((List.getD x1 (Int.toNat x0) (0 : Int)) = (List.getD x1 (Int.toNat (IntKind.wrap .i64 (x0 - (1 : Int)))) (0 : Int)))) then (
      bif (((decide ((0 : Int) ≤ x0)) && (decide (x0 ≤ (((List.length x1) : Nat) : Int)))) && (decide ((((List.length x1) : Nat) : Int) ≤ (((List.length x1) : Nat) : Int)))) then
      (f89l1 x0 (Int.toNat x0) (List.length x1) (1 : Int) x1).bind fun r1 =>
      bif (((decide ((0 : Int) ≤ r1.1)) && (decide (r1.1 ≤ (((List.length r1.2) : Nat) : Int)))) && (decide ((((List.length r1.2) : Nat) : Int) ≤ (((List.length r1.2) : Nat) : Int)))) then
      none
      else none
      else none)
    else (
      some (Sum.inl ((IntKind.wrap .i64 (x0 + (1 : Int))), x1)))
    else none
    else none)
  else (
    some (Sum.inr x1))
noncomputable def f89l2B : (Int × (Val (.slice (.int .i64)))) → Option ((Int × (Val (.slice (.int .i64)))) ⊕ ((Val (.slice (.int .i64))))) := fun y => f89l2b y.1 y.2
noncomputable def f89l2 (x0 : Int) (x1 : Val (.slice (.int .i64))) : Option ((Val (.slice (.int .i64)))) := iter f89l2B (x0, x1)
/-- slices.Compact[[]int,int] -/
noncomputable def f89 (a0 : Val (.slice (.int .i64))) : Option ((Val (.slice (.int .i64)))) :=
  bif (decide ((((List.length a0) : Nat) : Int) < (2 : Int))) then (
    some a0)
  else (
    (f89l2 (1 : Int) a0).bind fun r1 =>
    some r1)
noncomputable def f89I : Shape := { n := 61, nx := 1, sl := [(0, .own (.int .i64) 0)], ob := [(0, .slc false (.int .i64))], fix := [0], may := false }
noncomputable def f89O : Shape := { n := 62, nx := 1, sl := [(61, .own (.int .i64) 0)], ob := [(0, .slc false (.int .i64))], fix := [0], may := false }
noncomputable def f89F : ((Val (.slice (.int .i64)))) → Option ((Val (.slice (.int .i64)))) := fun y => f89 y
noncomputable def f89ct : Ctr := ctrOf f89I f89O (fun d => d) (fun d => d) f89F
noncomputable def f89E : Env := { tf := tfE, fn := fun f => none }
theorem f89_env : EnvOk PT f89E := ⟨tyE, fun f ct h => by
  simp only [f89E] at h
  cases h⟩
noncomputable def f89C : Code := bodyOf Go.Proofs.Try.f89
noncomputable def f89l2C : Code := (loopsOf f89C).getD 0 .skip
noncomputable def f89l1C : Code := (loopsOf f89C).getD 1 .skip
noncomputable def f89l1S : Shape := { n := 61, nx := 1, sl := [(0, .own (.int .i64) 0), (3, .dat true (.int .i64)), (4, .sub (.int .i64) 0), (5, .dat true (.int .i64))], ob := [(0, .slc false (.int .i64))], fix := [0], may := false }
noncomputable def f89l1O : List (Ex × Shape) := [(.exit 2, { n := 61, nx := 1, sl := [(0, .own (.int .i64) 0), (3, .dat true (.int .i64))], ob := [(0, .slc false (.int .i64))], fix := [0], may := false })]
noncomputable def f89l1M : Sum := loopSum (Y := Int × Nat × Nat × Int × (Val (.slice (.int .i64)))) (Z := Int × (Val (.slice (.int .i64)))) f89l1S f89l1O (fun d => d) (fun d => d) (iter f89l1B)
noncomputable def f89l2S : Shape := { n := 61, nx := 1, sl := [(0, .own (.int .i64) 0), (3, .dat true (.int .i64))], ob := [(0, .slc false (.int .i64))], fix := [0], may := false }
noncomputable def f89l2O : List (Ex × Shape) := [(.exit 0, { n := 61, nx := 1, sl := [(0, .own (.int .i64) 0)], ob := [(0, .slc false (.int .i64))], fix := [0], may := false })]
noncomputable def f89l2M : Sum := loopSum (Y := Int × (Val (.slice (.int .i64)))) (Z := (Val (.slice (.int .i64)))) f89l2S f89l2O (fun d => d) (fun d => d) (iter f89l2B)
noncomputable def f89H : Nat → Option Sum := fun n => bif Nat.beq n 9 then some f89l1M else bif Nat.beq n 4 then some f89l2M else none
theorem f89l1_bd (y : Int × Nat × Nat × Int × (Val (.slice (.int .i64)))) : @Eq (Option ((Int × Nat × Nat × Int × (Val (.slice (.int .i64)))) ⊕ (Int × (Val (.slice (.int .i64)))))) (exec f89E f89H f89l1C (f89l1S.mk' (show f89l1S.D from y)) (kont (Y := Int × Nat × Nat × Int × (Val (.slice (.int .i64)))) (Z := Int × (Val (.slice (.int .i64)))) f89l1S f89l1O (fun d => d) (fun d => d))) (f89l1B y) := by kernel_rfl
theorem f89l1_ok {w0 : World} {Jo : Io} (hfix : ∀ i b, Jo.fix i = some b → i ∈ [0]) (hmay : false = true → Jo.may) : SumOk PT w0 Jo f89l1M (.loop f89l1C) :=
  @loop_ok w0 Jo PT f89E f89H (Int × Nat × Nat × Int × (Val (.slice (.int .i64)))) (Int × (Val (.slice (.int .i64)))) f89_env mixed f89l1C f89l1S f89l1O (fun d => d) (fun d => d) (fun d => d) (fun d => d) (fun _ => rfl) (fun _ => rfl) hfix hmay (by kernel_rfl) (noLoops (by kernel_rfl)) f89l1B f89l1_bd
theorem f89l2_bd (y : Int × (Val (.slice (.int .i64)))) : @Eq (Option ((Int × (Val (.slice (.int .i64)))) ⊕ ((Val (.slice (.int .i64)))))) (exec f89E f89H f89l2C (f89l2S.mk' (show f89l2S.D from y)) (kont (Y := Int × (Val (.slice (.int .i64)))) (Z := (Val (.slice (.int .i64)))) f89l2S f89l2O (fun d => d) (fun d => d))) (f89l2B y) := by kernel_rfl
theorem f89l2_ok {w0 : World} {Jo : Io} (hfix : ∀ i b, Jo.fix i = some b → i ∈ [0]) (hmay : false = true → Jo.may) : SumOk PT w0 Jo f89l2M (.loop f89l2C) :=
  @loop_ok w0 Jo PT f89E f89H (Int × (Val (.slice (.int .i64)))) ((Val (.slice (.int .i64)))) f89_env mixed f89l2C f89l2S f89l2O (fun d => d) (fun d => d) (fun d => d) (fun d => d) (fun _ => rfl) (fun _ => rfl) hfix hmay (by kernel_rfl) (loopsMk (by kernel_rfl) (loopsCons (c := f89l1C) (n := 9) (f := f89l1M) (by kernel_rfl) (by kernel_rfl) (f89l1_ok hfix hmay) loopsNil)) f89l2B f89l2_bd
theorem f89_bd (y : (Val (.slice (.int .i64)))) : @Eq (Option ((Val (.slice (.int .i64))))) (exec f89E f89H f89C (f89I.mk' (show f89I.D from y)) (kontF (Z := (Val (.slice (.int .i64)))) f89E Go.Proofs.Try.f89.results.toList f89O (fun d => d))) (f89F y) := by kernel_rfl
theorem f89_lo {w0 : World} {Jo : Io} (hfix : ∀ i b, Jo.fix i = some b → i ∈ [0]) (hmay : false = true → Jo.may) : LoopsOk PT w0 Jo f89H f89C := (loopsMk (by kernel_rfl) (loopsCons (c := f89l2C) (n := 4) (f := f89l2M) (by kernel_rfl) (by kernel_rfl) (f89l2_ok hfix hmay) (loopsCons (c := f89l1C) (n := 9) (f := f89l1M) (by kernel_rfl) (by kernel_rfl) (f89l1_ok hfix hmay) loopsNil)))
theorem f89_ctr : CtrOk PT 89 f89ct :=
  @ctr_ok PT f89E f89H f89_env mixed 89 Go.Proofs.Try.f89 f89C (by kernel_rfl) (by kernel_rfl) (enters_of (by kernel_rfl : PT.funcs[89]? = some Go.Proofs.Try.f89) (by kernel_rfl) (by kernel_rfl)) f89I f89O ((Val (.slice (.int .i64)))) ((Val (.slice (.int .i64)))) (fun d => d) (fun d => d) (fun d => d) (fun d => d) (fun _ => rfl) (fun _ => rfl) (by kernel_rfl) (by kernel_rfl) f89F f89_bd (fun w0 Jo hfix hmay => f89_lo hfix hmay)

noncomputable def f64l1b (x0 : Val (.slice TPage)) (x1 : Val (.slice (.int .i64))) (x2 : Int) (x3 : Int) (x4 : Val (.slice (.int .i64))) : Option (((Val (.slice TPage)) × (Val (.slice (.int .i64))) × Int × Int × (Val (.slice (.int .i64)))) ⊕ ((Val (.slice (.int .i64))))) :=
  bif (decide (x3 < x2)) then (
    bif (inR x3 (List.length x1)) then
    (f71 x0 (List.getD x1 (Int.toNat x3) (0 : Int))).bind fun r1 =>
    bif (!r1.2) then (
      bif (decide (((List.length x4) + 1) ≤ lim)) then
      some (Sum.inl (x0, (x1, (x2, ((IntKind.wrap .i64 (x3 + (1 : Int))), (x4 ++ [(List.getD x1 (Int.toNat x3) (0 : Int))]))))))
      else none)
    else (
      some (Sum.inl (x0, (x1, (x2, ((IntKind.wrap .i64 (x3 + (1 : Int))), x4))))))
    else none)
  else (
    some (Sum.inr x4))
noncomputable def f64l1B : ((Val (.slice TPage)) × (Val (.slice (.int .i64))) × Int × Int × (Val (.slice (.int .i64)))) → Option (((Val (.slice TPage)) × (Val (.slice (.int .i64))) × Int × Int × (Val (.slice (.int .i64)))) ⊕ ((Val (.slice (.int .i64))))) := fun y => f64l1b y.1 y.2.1 y.2.2.1 y.2.2.2.1 y.2.2.2.2
noncomputable def f64l1 (x0 : Val (.slice TPage)) (x1 : Val (.slice (.int .i64))) (x2 : Int) (x3 : Int) (x4 : Val (.slice (.int .i64))) : Option ((Val (.slice (.int .i64)))) := iter f64l1B (x0, (x1, (x2, (x3, x4))))
/-- bodega/segment.missing -/
noncomputable def f64 (a0 : Val (.slice TPage)) (a1 : Val (.slice (.int .i64))) : Option ((Val (.slice (.int .i64)))) :=
  (f64l1 a0 a1 (((List.length a1) : Nat) : Int) (0 : Int) []).bind fun r1 =>
  (f88 r1).bind fun r2 =>
  (f89 r2).bind fun r3 =>
  some r3
noncomputable def f64I : Shape := { n := 33, nx := 0, sl := [(0, .dat false (.slice TPage)), (1, .dat false (.slice (.int .i64)))], ob := [], fix := [], may := true }
noncomputable def f64O : Shape := { n := 34, nx := 0, sl := [(33, .dat true (.slice (.int .i64)))], ob := [], fix := [], may := true }
noncomputable def f64F : ((Val (.slice TPage)) × (Val (.slice (.int .i64)))) → Option ((Val (.slice (.int .i64)))) := fun y => f64 y.1 y.2
noncomputable def f64ct : Ctr := ctrOf f64I f64O (fun d => d) (fun d => d) f64F
noncomputable def f64E : Env := { tf := tfE, fn := fun f => bif Nat.beq f 71 then some f71ct else bif Nat.beq f 88 then some f88ct else bif Nat.beq f 89 then some f89ct else none }
theorem f64_env : EnvOk PT f64E := ⟨tyE, fun f ct h => by
  simp only [f64E] at h
  refine envCons (c := f71ct) h f71_ctr (fun h => ?_)
  refine envCons (c := f88ct) h f88_ctr (fun h => ?_)
  refine envCons (c := f89ct) h f89_ctr (fun h => ?_)
  cases h⟩
noncomputable def f64C : Code := bodyOf Go.Proofs.Try.f64
noncomputable def f64l1C : Code := (loopsOf f64C).getD 0 .skip
noncomputable def f64l1S : Shape := { n := 33, nx := 1, sl := [(0, .dat false (.slice TPage)), (5, .own (.int .i64) 0), (10, .dat false (.slice (.int .i64))), (11, .dat true (.int .i64)), (12, .dat true (.int .i64))], ob := [(0, .slc true (.int .i64))], fix := [], may := true }
noncomputable def f64l1O : List (Ex × Shape) := [(.exit 0, { n := 33, nx := 1, sl := [(5, .own (.int .i64) 0)], ob := [(0, .slc true (.int .i64))], fix := [], may := true })]
noncomputable def f64l1M : Sum := loopSum (Y := (Val (.slice TPage)) × (Val (.slice (.int .i64))) × Int × Int × (Val (.slice (.int .i64)))) (Z := (Val (.slice (.int .i64)))) f64l1S f64l1O (fun d => d) (fun d => d) (iter f64l1B)
noncomputable def f64H : Nat → Option Sum := fun n => bif Nat.beq n 3 then some f64l1M else none
theorem f64l1_bd (y : (Val (.slice TPage)) × (Val (.slice (.int .i64))) × Int × Int × (Val (.slice (.int .i64)))) : @Eq (Option (((Val (.slice TPage)) × (Val (.slice (.int .i64))) × Int × Int × (Val (.slice (.int .i64)))) ⊕ ((Val (.slice (.int .i64)))))) (exec f64E f64H f64l1C (f64l1S.mk' (show f64l1S.D from y)) (kont (Y := (Val (.slice TPage)) × (Val (.slice (.int .i64))) × Int × Int × (Val (.slice (.int .i64)))) (Z := (Val (.slice (.int .i64)))) f64l1S f64l1O (fun d => d) (fun d => d))) (f64l1B y) := by kernel_rfl
theorem f64l1_ok {w0 : World} {Jo : Io} (hfix : ∀ i b, Jo.fix i = some b → i ∈ []) (hmay : true = true → Jo.may) : SumOk PT w0 Jo f64l1M (.loop f64l1C) :=
  @loop_ok w0 Jo PT f64E f64H ((Val (.slice TPage)) × (Val (.slice (.int .i64))) × Int × Int × (Val (.slice (.int .i64)))) ((Val (.slice (.int .i64)))) f64_env mixed f64l1C f64l1S f64l1O (fun d => d) (fun d => d) (fun d => d) (fun d => d) (fun _ => rfl) (fun _ => rfl) hfix hmay (by kernel_rfl) (noLoops (by kernel_rfl)) f64l1B f64l1_bd
theorem f64_bd (y : (Val (.slice TPage)) × (Val (.slice (.int .i64)))) : @Eq (Option ((Val (.slice (.int .i64))))) (exec f64E f64H f64C (f64I.mk' (show f64I.D from y)) (kontF (Z := (Val (.slice (.int .i64)))) f64E Go.Proofs.Try.f64.results.toList f64O (fun d => d))) (f64F y) := by kernel_rfl
theorem f64_lo {w0 : World} {Jo : Io} (hfix : ∀ i b, Jo.fix i = some b → i ∈ []) (hmay : true = true → Jo.may) : LoopsOk PT w0 Jo f64H f64C := (loopsMk (by kernel_rfl) (loopsCons (c := f64l1C) (n := 3) (f := f64l1M) (by kernel_rfl) (by kernel_rfl) (f64l1_ok hfix hmay) loopsNil))
theorem f64_ctr : CtrOk PT 64 f64ct :=
  @ctr_ok PT f64E f64H f64_env mixed 64 Go.Proofs.Try.f64 f64C (by kernel_rfl) (by kernel_rfl) (enters_of (by kernel_rfl : PT.funcs[64]? = some Go.Proofs.Try.f64) (by kernel_rfl) (by kernel_rfl)) f64I f64O ((Val (.slice TPage)) × (Val (.slice (.int .i64)))) ((Val (.slice (.int .i64)))) (fun d => d) (fun d => d) (fun d => d) (fun d => d) (fun _ => rfl) (fun _ => rfl) (by kernel_rfl) (by kernel_rfl) f64F f64_bd (fun w0 Jo hfix hmay => f64_lo hfix hmay)

/-- bodega/pointer.Locked -/
noncomputable def f73 (a0 : Val TPage) : Option Bool :=
  some (!(decide ((IntKind.wrap .u64 ((BitVec.ofInt (IntKind.bits .u64) a0.2.1 &&& BitVec.ofInt (IntKind.bits .u64) (255 : Int)).toNat : Int)) = (0 : Int))))
noncomputable def f73I : Shape := { n := 7, nx := 0, sl := [(0, .dat false TPage)], ob := [], fix := [], may := true }
noncomputable def f73O : Shape := { n := 8, nx := 0, sl := [(7, .dat true .bool)], ob := [], fix := [], may := true }
noncomputable def f73F : ((Val TPage)) → Option Bool := fun y => f73 y
noncomputable def f73ct : Ctr := ctrOf f73I f73O (fun d => d) (fun d => d) f73F
noncomputable def f73E : Env := { tf := tfE, fn := fun f => none }
theorem f73_env : EnvOk PT f73E := ⟨tyE, fun f ct h => by
  simp only [f73E] at h
  cases h⟩
noncomputable def f73C : Code := bodyOf Go.Proofs.Try.f73
noncomputable def f73H : Nat → Option Sum := fun n => none
theorem f73_bd (y : (Val TPage)) : @Eq (Option Bool) (exec f73E f73H f73C (f73I.mk' (show f73I.D from y)) (kontF (Z := Bool) f73E Go.Proofs.Try.f73.results.toList f73O (fun d => d))) (f73F y) := by kernel_rfl
theorem f73_lo {w0 : World} {Jo : Io} (hfix : ∀ i b, Jo.fix i = some b → i ∈ []) (hmay : true = true → Jo.may) : LoopsOk PT w0 Jo f73H f73C := (noLoops (by kernel_rfl))
theorem f73_ctr : CtrOk PT 73 f73ct :=
  @ctr_ok PT f73E f73H f73_env mixed 73 Go.Proofs.Try.f73 f73C (by kernel_rfl) (by kernel_rfl) (enters_of (by kernel_rfl : PT.funcs[73]? = some Go.Proofs.Try.f73) (by kernel_rfl) (by kernel_rfl)) f73I f73O ((Val TPage)) Bool (fun d => d) (fun d => d) (fun d => d) (fun d => d) (fun _ => rfl) (fun _ => rfl) (by kernel_rfl) (by kernel_rfl) f73F f73_bd (fun w0 Jo hfix hmay => f73_lo hfix hmay)

/-- bodega/segment.isNodeLine -/
noncomputable def f51 (a0 : Int) : Option Bool :=
  bif (decide ((98 : Int) ≤ a0)) then (
    some (decide (a0 < (104 : Int))))
  else (
    some false)
noncomputable def f51I : Shape := { n := 9, nx := 0, sl := [(0, .dat false (.int .i64))], ob := [], fix := [], may := true }
noncomputable def f51O : Shape := { n := 10, nx := 0, sl := [(9, .dat true .bool)], ob := [], fix := [], may := true }
noncomputable def f51F : Int → Option Bool := fun y => f51 y
noncomputable def f51ct : Ctr := ctrOf f51I f51O (fun d => d) (fun d => d) f51F
noncomputable def f51E : Env := { tf := tfE, fn := fun f => none }
theorem f51_env : EnvOk PT f51E := ⟨tyE, fun f ct h => by
  simp only [f51E] at h
  cases h⟩
noncomputable def f51C : Code := bodyOf Go.Proofs.Try.f51
noncomputable def f51H : Nat → Option Sum := fun n => none
theorem f51_bd (y : Int) : @Eq (Option Bool) (exec f51E f51H f51C (f51I.mk' (show f51I.D from y)) (kontF (Z := Bool) f51E Go.Proofs.Try.f51.results.toList f51O (fun d => d))) (f51F y) := by kernel_rfl
theorem f51_lo {w0 : World} {Jo : Io} (hfix : ∀ i b, Jo.fix i = some b → i ∈ []) (hmay : true = true → Jo.may) : LoopsOk PT w0 Jo f51H f51C := (noLoops (by kernel_rfl))
theorem f51_ctr : CtrOk PT 51 f51ct :=
  @ctr_ok PT f51E f51H f51_env mixed 51 Go.Proofs.Try.f51 f51C (by kernel_rfl) (by kernel_rfl) (enters_of (by kernel_rfl : PT.funcs[51]? = some Go.Proofs.Try.f51) (by kernel_rfl) (by kernel_rfl)) f51I f51O Int Bool (fun d => d) (fun d => d) (fun d => d) (fun d => d) (fun _ => rfl) (fun _ => rfl) (by kernel_rfl) (by kernel_rfl) f51F f51_bd (fun w0 Jo hfix hmay => f51_lo hfix hmay)

/-- bodega/pointer.Unpack -/
noncomputable def f82 (a0 : Int) : Option ((Val TPtr)) :=
  some ((IntKind.wrap .i64 (IntKind.wrap .u32 ((BitVec.ofInt (IntKind.bits .u32) a0 &&& BitVec.ofInt (IntKind.bits .u32) (255 : Int)).toNat : Int))), ((IntKind.wrap .i64 (shiftR .u32 a0 (8 : Int))), ()))
noncomputable def f82I : Shape := { n := 10, nx := 0, sl := [(0, .dat false (.int .u32))], ob := [], fix := [], may := true }
noncomputable def f82O : Shape := { n := 11, nx := 0, sl := [(10, .dat true TPtr)], ob := [], fix := [], may := true }
noncomputable def f82F : Int → Option ((Val TPtr)) := fun y => f82 y
noncomputable def f82ct : Ctr := ctrOf f82I f82O (fun d => d) (fun d => d) f82F
noncomputable def f82E : Env := { tf := tfE, fn := fun f => none }
theorem f82_env : EnvOk PT f82E := ⟨tyE, fun f ct h => by
  simp only [f82E] at h
  cases h⟩
noncomputable def f82C : Code := bodyOf Go.Proofs.Try.f82
noncomputable def f82H : Nat → Option Sum := fun n => none
theorem f82_bd (y : Int) : @Eq (Option ((Val TPtr))) (exec f82E f82H f82C (f82I.mk' (show f82I.D from y)) (kontF (Z := (Val TPtr)) f82E Go.Proofs.Try.f82.results.toList f82O (fun d => d))) (f82F y) := by kernel_rfl
theorem f82_lo {w0 : World} {Jo : Io} (hfix : ∀ i b, Jo.fix i = some b → i ∈ []) (hmay : true = true → Jo.may) : LoopsOk PT w0 Jo f82H f82C := (noLoops (by kernel_rfl))
theorem f82_ctr : CtrOk PT 82 f82ct :=
  @ctr_ok PT f82E f82H f82_env mixed 82 Go.Proofs.Try.f82 f82C (by kernel_rfl) (by kernel_rfl) (enters_of (by kernel_rfl : PT.funcs[82]? = some Go.Proofs.Try.f82) (by kernel_rfl) (by kernel_rfl)) f82I f82O Int ((Val TPtr)) (fun d => d) (fun d => d) (fun d => d) (fun d => d) (fun _ => rfl) (fun _ => rfl) (by kernel_rfl) (by kernel_rfl) f82F f82_bd (fun w0 Jo hfix hmay => f82_lo hfix hmay)

/-- bodega/pointer.inHeap -/
noncomputable def f75 (a0 : Int) : Option Bool :=
  bif (decide ((104 : Int) ≤ a0)) then (
    some (decide (a0 < (256 : Int))))
  else (
    some false)
noncomputable def f75I : Shape := { n := 9, nx := 0, sl := [(0, .dat false (.int .i64))], ob := [], fix := [], may := true }
noncomputable def f75O : Shape := { n := 10, nx := 0, sl := [(9, .dat true .bool)], ob := [], fix := [], may := true }
noncomputable def f75F : Int → Option Bool := fun y => f75 y
noncomputable def f75ct : Ctr := ctrOf f75I f75O (fun d => d) (fun d => d) f75F
noncomputable def f75E : Env := { tf := tfE, fn := fun f => none }
theorem f75_env : EnvOk PT f75E := ⟨tyE, fun f ct h => by
  simp only [f75E] at h
  cases h⟩
noncomputable def f75C : Code := bodyOf Go.Proofs.Try.f75
noncomputable def f75H : Nat → Option Sum := fun n => none
theorem f75_bd (y : Int) : @Eq (Option Bool) (exec f75E f75H f75C (f75I.mk' (show f75I.D from y)) (kontF (Z := Bool) f75E Go.Proofs.Try.f75.results.toList f75O (fun d => d))) (f75F y) := by kernel_rfl
theorem f75_lo {w0 : World} {Jo : Io} (hfix : ∀ i b, Jo.fix i = some b → i ∈ []) (hmay : true = true → Jo.may) : LoopsOk PT w0 Jo f75H f75C := (noLoops (by kernel_rfl))
theorem f75_ctr : CtrOk PT 75 f75ct :=
  @ctr_ok PT f75E f75H f75_env mixed 75 Go.Proofs.Try.f75 f75C (by kernel_rfl) (by kernel_rfl) (enters_of (by kernel_rfl : PT.funcs[75]? = some Go.Proofs.Try.f75) (by kernel_rfl) (by kernel_rfl)) f75I f75O Int Bool (fun d => d) (fun d => d) (fun d => d) (fun d => d) (fun _ => rfl) (fun _ => rfl) (by kernel_rfl) (by kernel_rfl) f75F f75_bd (fun w0 Jo hfix hmay => f75_lo hfix hmay)

/-- bodega/pointer.Valid -/
noncomputable def f57 (a0 : Val TPtr) : Option Bool :=
  (f75 a0.1).bind fun r1 =>
  bif r1 then (
    bif (decide ((1 : Int) ≤ a0.2.1)) then (
      some (decide (a0.2.1 ≤ (16777215 : Int))))
    else (
      some false))
  else (
    some false)
noncomputable def f57I : Shape := { n := 16, nx := 0, sl := [(0, .dat false TPtr)], ob := [], fix := [], may := true }
noncomputable def f57O : Shape := { n := 17, nx := 0, sl := [(16, .dat true .bool)], ob := [], fix := [], may := true }
noncomputable def f57F : ((Val TPtr)) → Option Bool := fun y => f57 y
noncomputable def f57ct : Ctr := ctrOf f57I f57O (fun d => d) (fun d => d) f57F
noncomputable def f57E : Env := { tf := tfE, fn := fun f => bif Nat.beq f 75 then some f75ct else none }
theorem f57_env : EnvOk PT f57E := ⟨tyE, fun f ct h => by
  simp only [f57E] at h
  refine envCons (c := f75ct) h f75_ctr (fun h => ?_)
  cases h⟩
noncomputable def f57C : Code := bodyOf Go.Proofs.Try.f57
noncomputable def f57H : Nat → Option Sum := fun n => none
theorem f57_bd (y : (Val TPtr)) : @Eq (Option Bool) (exec f57E f57H f57C (f57I.mk' (show f57I.D from y)) (kontF (Z := Bool) f57E Go.Proofs.Try.f57.results.toList f57O (fun d => d))) (f57F y) := by kernel_rfl
theorem f57_lo {w0 : World} {Jo : Io} (hfix : ∀ i b, Jo.fix i = some b → i ∈ []) (hmay : true = true → Jo.may) : LoopsOk PT w0 Jo f57H f57C := (noLoops (by kernel_rfl))
theorem f57_ctr : CtrOk PT 57 f57ct :=
  @ctr_ok PT f57E f57H f57_env mixed 57 Go.Proofs.Try.f57 f57C (by kernel_rfl) (by kernel_rfl) (enters_of (by kernel_rfl : PT.funcs[57]? = some Go.Proofs.Try.f57) (by kernel_rfl) (by kernel_rfl)) f57I f57O ((Val TPtr)) Bool (fun d => d) (fun d => d) (fun d => d) (fun d => d) (fun _ => rfl) (fun _ => rfl) (by kernel_rfl) (by kernel_rfl) f57F f57_bd (fun w0 Jo hfix hmay => f57_lo hfix hmay)

/-- bodega/segment.unpackRetired -/
noncomputable def f52 (a0 : Int) : Option ((Val TRet) × Bool) :=
  bif (decide (a0 = (0 : Int))) then (
    some ((((0 : Int), ((0 : Int), ())), ((0 : Int), ())), true))
  else (
    (f82 (IntKind.wrap .u32 a0)).bind fun r1 =>
    (f57 r1).bind fun r2 =>
    some ((r1, ((IntKind.wrap .u32 (shiftR .u64 a0 (32 : Int))), ())), r2))
noncomputable def f52I : Shape := { n := 19, nx := 0, sl := [(0, .dat false (.int .u64))], ob := [], fix := [], may := true }
noncomputable def f52O : Shape := { n := 20, nx := 0, sl := [(19, .tup (.cons (.dat true TRet) (.cons (.dat true .bool) (.nil))))], ob := [], fix := [], may := true }
noncomputable def f52F : Int → Option ((Val TRet) × Bool) := fun y => f52 y
noncomputable def f52ct : Ctr := ctrOf f52I f52O (fun d => d) (fun d => d) f52F
noncomputable def f52E : Env := { tf := tfE, fn := fun f => bif Nat.beq f 82 then some f82ct else bif Nat.beq f 57 then some f57ct else none }
theorem f52_env : EnvOk PT f52E := ⟨tyE, fun f ct h => by
  simp only [f52E] at h
  refine envCons (c := f82ct) h f82_ctr (fun h => ?_)
  refine envCons (c := f57ct) h f57_ctr (fun h => ?_)
  cases h⟩
noncomputable def f52C : Code := bodyOf Go.Proofs.Try.f52
noncomputable def f52H : Nat → Option Sum := fun n => none
theorem f52_bd (y : Int) : @Eq (Option ((Val TRet) × Bool)) (exec f52E f52H f52C (f52I.mk' (show f52I.D from y)) (kontF (Z := (Val TRet) × Bool) f52E Go.Proofs.Try.f52.results.toList f52O (fun d => d))) (f52F y) := by kernel_rfl
theorem f52_lo {w0 : World} {Jo : Io} (hfix : ∀ i b, Jo.fix i = some b → i ∈ []) (hmay : true = true → Jo.may) : LoopsOk PT w0 Jo f52H f52C := (noLoops (by kernel_rfl))
theorem f52_ctr : CtrOk PT 52 f52ct :=
  @ctr_ok PT f52E f52H f52_env mixed 52 Go.Proofs.Try.f52 f52C (by kernel_rfl) (by kernel_rfl) (enters_of (by kernel_rfl : PT.funcs[52]? = some Go.Proofs.Try.f52) (by kernel_rfl) (by kernel_rfl)) f52I f52O Int ((Val TRet) × Bool) (fun d => d) (fun d => d) (fun d => d) (fun d => d) (fun _ => rfl) (fun _ => rfl) (by kernel_rfl) (by kernel_rfl) f52F f52_bd (fun w0 Jo hfix hmay => f52_lo hfix hmay)

noncomputable def f22l1b (x0 : Int) (x1 : Val TPage) (x2 : Val TNode) (x3 : Val TNode) : Option ((Int × (Val TPage) × (Val TNode) × (Val TNode)) ⊕ (((Val TNode) × (Val TNode)) ⊕ (Int × (Val TNode)))) :=
  bif (decide (x0 < (4 : Int))) then (
    bif (inR (IntKind.wrap .i64 ((3 : Int) + x0)) 7) then
    (f52 (List.getD x1.2.2.1 (Int.toNat (IntKind.wrap .i64 ((3 : Int) + x0))) (0 : Int))).bind fun r1 =>
    bif (!r1.2) then (
      some (Sum.inr (Sum.inr ((14 : Int), (false, ((0 : Int), ((0 : Int), ((0 : Int), ((List.replicate 4 (((0 : Int), ((0 : Int), ())), ((0 : Int), ()))), ())))))))))
    else (
      bif (inR x0 4) then
      some (Sum.inl ((IntKind.wrap .i64 (x0 + (1 : Int))), (x1, (x2, (x3.1, (x3.2.1, (x3.2.2.1, (x3.2.2.2.1, ((List.set x3.2.2.2.2.1 (Int.toNat x0) r1.1), x3.2.2.2.2.2)))))))))
      else none)
    else none)
  else (
    some (Sum.inr (Sum.inl (x2, x3))))
noncomputable def f22l1B : (Int × (Val TPage) × (Val TNode) × (Val TNode)) → Option ((Int × (Val TPage) × (Val TNode) × (Val TNode)) ⊕ (((Val TNode) × (Val TNode)) ⊕ (Int × (Val TNode)))) := fun y => f22l1b y.1 y.2.1 y.2.2.1 y.2.2.2
noncomputable def f22l1 (x0 : Int) (x1 : Val TPage) (x2 : Val TNode) (x3 : Val TNode) : Option (((Val TNode) × (Val TNode)) ⊕ (Int × (Val TNode))) := iter f22l1B (x0, (x1, (x2, x3)))
/-- bodega/segment.ReadNode -/
noncomputable def f22 (a0 : Val TPage) : Option ((Val TNode) × Int) :=
  (f51 a0.1).bind fun r1 =>
  bif (!r1) then (
    some ((false, ((0 : Int), ((0 : Int), ((0 : Int), ((List.replicate 4 (((0 : Int), ((0 : Int), ())), ((0 : Int), ()))), ()))))), (1 : Int)))
  else (
    bif (decide ((4294967296 : Int) < (List.getD a0.2.2.1 0 (0 : Int)))) then (
      some ((false, ((0 : Int), ((0 : Int), ((0 : Int), ((List.replicate 4 (((0 : Int), ((0 : Int), ())), ((0 : Int), ()))), ()))))), (14 : Int)))
    else (
      bif (decide ((512 : Int) ≤ (List.getD a0.2.2.1 1 (0 : Int)))) then (
        some ((false, ((0 : Int), ((0 : Int), ((0 : Int), ((List.replicate 4 (((0 : Int), ((0 : Int), ())), ((0 : Int), ()))), ()))))), (14 : Int)))
      else (
        bif (decide ((59 : Int) < (List.getD a0.2.2.1 2 (0 : Int)))) then (
          some ((false, ((0 : Int), ((0 : Int), ((0 : Int), ((List.replicate 4 (((0 : Int), ((0 : Int), ())), ((0 : Int), ()))), ()))))), (14 : Int)))
        else (
          bif (decide ((0 : Int) < (List.getD a0.2.2.1 0 (0 : Int)))) then (
            (f22l1 (0 : Int) a0 (false, ((0 : Int), ((0 : Int), ((0 : Int), ((List.replicate 4 (((0 : Int), ((0 : Int), ())), ((0 : Int), ()))), ()))))) (true, ((IntKind.wrap .u32 (IntKind.wrap .u64 ((List.getD a0.2.2.1 0 (0 : Int)) - (1 : Int)))), ((IntKind.wrap .u32 (List.getD a0.2.2.1 1 (0 : Int))), ((IntKind.wrap .i64 (List.getD a0.2.2.1 2 (0 : Int))), ((List.replicate 4 (((0 : Int), ((0 : Int), ())), ((0 : Int), ()))), ())))))).bind fun r2 =>
            match r2 with
            | .inl r3 => (
              some (r3.2, (0 : Int)))
            | .inr r4 => (
              some (r4.2, r4.1)))
          else (
            (f22l1 (0 : Int) a0 (false, ((0 : Int), ((0 : Int), ((0 : Int), ((List.replicate 4 (((0 : Int), ((0 : Int), ())), ((0 : Int), ()))), ()))))) (false, ((0 : Int), ((IntKind.wrap .u32 (List.getD a0.2.2.1 1 (0 : Int))), ((IntKind.wrap .i64 (List.getD a0.2.2.1 2 (0 : Int))), ((List.replicate 4 (((0 : Int), ((0 : Int), ())), ((0 : Int), ()))), ())))))).bind fun r5 =>
            match r5 with
            | .inl r6 => (
              some (r6.2, (0 : Int)))
            | .inr r7 => (
              some (r7.2, r7.1)))))))
noncomputable def f22I : Shape := { n := 71, nx := 0, sl := [(0, .dat false TPage)], ob := [], fix := [], may := true }
noncomputable def f22O : Shape := { n := 72, nx := 0, sl := [(71, .tup (.cons (.dat true TNode) (.cons (.dat true (.int .i64)) (.nil))))], ob := [], fix := [], may := true }
noncomputable def f22F : ((Val TPage)) → Option ((Val TNode) × Int) := fun y => f22 y
noncomputable def f22ct : Ctr := ctrOf f22I f22O (fun d => d) (fun d => d) f22F
noncomputable def f22E : Env := { tf := tfE, fn := fun f => bif Nat.beq f 51 then some f51ct else bif Nat.beq f 52 then some f52ct else none }
theorem f22_env : EnvOk PT f22E := ⟨tyE, fun f ct h => by
  simp only [f22E] at h
  refine envCons (c := f51ct) h f51_ctr (fun h => ?_)
  refine envCons (c := f52ct) h f52_ctr (fun h => ?_)
  cases h⟩
noncomputable def f22C : Code := bodyOf Go.Proofs.Try.f22
noncomputable def f22l1C : Code := (loopsOf f22C).getD 0 .skip
noncomputable def f22l1S : Shape := { n := 71, nx := 3, sl := [(1, .ref 0 []), (2, .ref 1 []), (4, .ref 2 []), (50, .dat true (.int .i64))], ob := [(0, .box TPage (.dat false TPage)), (1, .box TNode (.dat true TNode)), (2, .box TNode (.dat true TNode))], fix := [], may := true }
noncomputable def f22l1O : List (Ex × Shape) := [(.exit 0, { n := 71, nx := 2, sl := [(2, .ref 0 []), (4, .ref 1 [])], ob := [(0, .box TNode (.dat true TNode)), (1, .box TNode (.dat true TNode))], fix := [], may := true }), (.ret, { n := 71, nx := 1, sl := [(2, .ref 0 []), (3, .dat true (.int .i64))], ob := [(0, .box TNode (.dat true TNode))], fix := [], may := true })]
noncomputable def f22l1M : Sum := loopSum (Y := Int × (Val TPage) × (Val TNode) × (Val TNode)) (Z := ((Val TNode) × (Val TNode)) ⊕ (Int × (Val TNode))) f22l1S f22l1O (fun d => d) (fun d => d) (iter f22l1B)
noncomputable def f22H : Nat → Option Sum := fun n => bif Nat.beq n 9 then some f22l1M else none
theorem f22l1_bd (y : Int × (Val TPage) × (Val TNode) × (Val TNode)) : @Eq (Option ((Int × (Val TPage) × (Val TNode) × (Val TNode)) ⊕ (((Val TNode) × (Val TNode)) ⊕ (Int × (Val TNode))))) (exec f22E f22H f22l1C (f22l1S.mk' (show f22l1S.D from y)) (kont (Y := Int × (Val TPage) × (Val TNode) × (Val TNode)) (Z := ((Val TNode) × (Val TNode)) ⊕ (Int × (Val TNode))) f22l1S f22l1O (fun d => d) (fun d => d))) (f22l1B y) := by kernel_rfl
theorem f22l1_ok {w0 : World} {Jo : Io} (hfix : ∀ i b, Jo.fix i = some b → i ∈ []) (hmay : true = true → Jo.may) : SumOk PT w0 Jo f22l1M (.loop f22l1C) :=
  @loop_ok w0 Jo PT f22E f22H (Int × (Val TPage) × (Val TNode) × (Val TNode)) (((Val TNode) × (Val TNode)) ⊕ (Int × (Val TNode))) f22_env mixed f22l1C f22l1S f22l1O (fun d => d) (fun d => d) (fun d => d) (fun d => d) (fun _ => rfl) (fun _ => rfl) hfix hmay (by kernel_rfl) (noLoops (by kernel_rfl)) f22l1B f22l1_bd
theorem f22_bd (y : (Val TPage)) : @Eq (Option ((Val TNode) × Int)) (exec f22E f22H f22C (f22I.mk' (show f22I.D from y)) (kontF (Z := (Val TNode) × Int) f22E Go.Proofs.Try.f22.results.toList f22O (fun d => d))) (f22F y) := by kernel_rfl
theorem f22_lo {w0 : World} {Jo : Io} (hfix : ∀ i b, Jo.fix i = some b → i ∈ []) (hmay : true = true → Jo.may) : LoopsOk PT w0 Jo f22H f22C := (loopsMk (by kernel_rfl) (loopsCons (c := f22l1C) (n := 9) (f := f22l1M) (by kernel_rfl) (by kernel_rfl) (f22l1_ok hfix hmay) loopsNil))
theorem f22_ctr : CtrOk PT 22 f22ct :=
  @ctr_ok PT f22E f22H f22_env mixed 22 Go.Proofs.Try.f22 f22C (by kernel_rfl) (by kernel_rfl) (enters_of (by kernel_rfl : PT.funcs[22]? = some Go.Proofs.Try.f22) (by kernel_rfl) (by kernel_rfl)) f22I f22O ((Val TPage)) ((Val TNode) × Int) (fun d => d) (fun d => d) (fun d => d) (fun d => d) (fun _ => rfl) (fun _ => rfl) (by kernel_rfl) (by kernel_rfl) f22F f22_bd (fun w0 Jo hfix hmay => f22_lo hfix hmay)

/-- bodega/segment.node -/
noncomputable def f65 (a0 : Val (.slice TPage)) (a1 : Int) : Option ((Val TPage) × (Val TNode) × Bool × Int) :=
  (f71 a0 (IntKind.wrap .i64 ((98 : Int) + a1))).bind fun r1 =>
  bif (!r1.2) then (
    some (((0 : Int), ((0 : Int), ((List.replicate 7 (0 : Int)), ()))), ((false, ((0 : Int), ((0 : Int), ((0 : Int), ((List.replicate 4 (((0 : Int), ((0 : Int), ())), ((0 : Int), ()))), ()))))), (false, (0 : Int)))))
  else (
    (f73 r1.1).bind fun r2 =>
    bif r2 then (
      some (((0 : Int), ((0 : Int), ((List.replicate 7 (0 : Int)), ()))), ((false, ((0 : Int), ((0 : Int), ((0 : Int), ((List.replicate 4 (((0 : Int), ((0 : Int), ())), ((0 : Int), ()))), ()))))), (true, (3 : Int)))))
    else (
      (f22 r1.1).bind fun r3 =>
      some (r1.1, (r3.1, (true, r3.2)))))
noncomputable def f65I : Shape := { n := 31, nx := 0, sl := [(0, .dat false (.slice TPage)), (1, .dat false (.int .i64))], ob := [], fix := [], may := true }
noncomputable def f65O : Shape := { n := 32, nx := 0, sl := [(31, .tup (.cons (.dat false TPage) (.cons (.dat true TNode) (.cons (.dat true .bool) (.cons (.dat true (.int .i64)) (.nil))))))], ob := [], fix := [], may := true }
noncomputable def f65F : ((Val (.slice TPage)) × Int) → Option ((Val TPage) × (Val TNode) × Bool × Int) := fun y => f65 y.1 y.2
noncomputable def f65ct : Ctr := ctrOf f65I f65O (fun d => d) (fun d => d) f65F
noncomputable def f65E : Env := { tf := tfE, fn := fun f => bif Nat.beq f 71 then some f71ct else bif Nat.beq f 73 then some f73ct else bif Nat.beq f 22 then some f22ct else none }
theorem f65_env : EnvOk PT f65E := ⟨tyE, fun f ct h => by
  simp only [f65E] at h
  refine envCons (c := f71ct) h f71_ctr (fun h => ?_)
  refine envCons (c := f73ct) h f73_ctr (fun h => ?_)
  refine envCons (c := f22ct) h f22_ctr (fun h => ?_)
  cases h⟩
noncomputable def f65C : Code := bodyOf Go.Proofs.Try.f65
noncomputable def f65H : Nat → Option Sum := fun n => none
theorem f65_bd (y : (Val (.slice TPage)) × Int) : @Eq (Option ((Val TPage) × (Val TNode) × Bool × Int)) (exec f65E f65H f65C (f65I.mk' (show f65I.D from y)) (kontF (Z := (Val TPage) × (Val TNode) × Bool × Int) f65E Go.Proofs.Try.f65.results.toList f65O (fun d => d))) (f65F y) := by kernel_rfl
theorem f65_lo {w0 : World} {Jo : Io} (hfix : ∀ i b, Jo.fix i = some b → i ∈ []) (hmay : true = true → Jo.may) : LoopsOk PT w0 Jo f65H f65C := (noLoops (by kernel_rfl))
theorem f65_ctr : CtrOk PT 65 f65ct :=
  @ctr_ok PT f65E f65H f65_env mixed 65 Go.Proofs.Try.f65 f65C (by kernel_rfl) (by kernel_rfl) (enters_of (by kernel_rfl : PT.funcs[65]? = some Go.Proofs.Try.f65) (by kernel_rfl) (by kernel_rfl)) f65I f65O ((Val (.slice TPage)) × Int) ((Val TPage) × (Val TNode) × Bool × Int) (fun d => d) (fun d => d) (fun d => d) (fun d => d) (fun _ => rfl) (fun _ => rfl) (by kernel_rfl) (by kernel_rfl) f65F f65_bd (fun w0 Jo hfix hmay => f65_lo hfix hmay)

noncomputable def f67l1b (x0 : Int) (x1 : Int) (x2 : Int) (x3 : Val (.slice (.int .i64))) : Option ((Int × Int × Int × (Val (.slice (.int .i64)))) ⊕ ((Val (.slice (.int .i64))))) :=
  bif (decide (x2 < x1)) then (
    bif (decide ((0 : Int) ≤ (IntKind.wrap .u64 x2))) then
    bif (decide ((IntKind.wrap .u32 ((BitVec.ofInt (IntKind.bits .u32) (shiftR .u32 x0 (IntKind.wrap .u64 x2)) &&& BitVec.ofInt (IntKind.bits .u32) (1 : Int)).toNat : Int)) = (1 : Int))) then (
      bif (decide (((List.length x3) + 1) ≤ lim)) then
      some (Sum.inl (x0, (x1, ((IntKind.wrap .i64 (x2 + (1 : Int))), (x3 ++ [x2])))))
      else none)
    else (
      some (Sum.inl (x0, (x1, ((IntKind.wrap .i64 (x2 + (1 : Int))), x3)))))
    else none)
  else (
    some (Sum.inr x3))
noncomputable def f67l1B : (Int × Int × Int × (Val (.slice (.int .i64)))) → Option ((Int × Int × Int × (Val (.slice (.int .i64)))) ⊕ ((Val (.slice (.int .i64))))) := fun y => f67l1b y.1 y.2.1 y.2.2.1 y.2.2.2
noncomputable def f67l1 (x0 : Int) (x1 : Int) (x2 : Int) (x3 : Val (.slice (.int .i64))) : Option ((Val (.slice (.int .i64)))) := iter f67l1B (x0, (x1, (x2, x3)))
/-- bodega/segment.owned -/
noncomputable def f67 (a0 : Int) (a1 : Int) : Option ((Val (.slice (.int .i64)))) :=
  (f67l1 a0 a1 (0 : Int) []).bind fun r1 =>
  some r1
noncomputable def f67I : Shape := { n := 23, nx := 0, sl := [(0, .dat false (.int .u32)), (1, .dat false (.int .i64))], ob := [], fix := [], may := true }
noncomputable def f67O : Shape := { n := 24, nx := 0, sl := [(23, .dat true (.slice (.int .i64)))], ob := [], fix := [], may := true }
noncomputable def f67F : (Int × Int) → Option ((Val (.slice (.int .i64)))) := fun y => f67 y.1 y.2
noncomputable def f67ct : Ctr := ctrOf f67I f67O (fun d => d) (fun d => d) f67F
noncomputable def f67E : Env := { tf := tfE, fn := fun f => none }
theorem f67_env : EnvOk PT f67E := ⟨tyE, fun f ct h => by
  simp only [f67E] at h
  cases h⟩
noncomputable def f67C : Code := bodyOf Go.Proofs.Try.f67
noncomputable def f67l1C : Code := (loopsOf f67C).getD 0 .skip
noncomputable def f67l1S : Shape := { n := 23, nx := 1, sl := [(0, .dat false (.int .u32)), (1, .dat false (.int .i64)), (5, .own (.int .i64) 0), (6, .dat true (.int .i64))], ob := [(0, .slc true (.int .i64))], fix := [], may := true }
noncomputable def f67l1O : List (Ex × Shape) := [(.exit 0, { n := 23, nx := 1, sl := [(5, .own (.int .i64) 0)], ob := [(0, .slc true (.int .i64))], fix := [], may := true })]
noncomputable def f67l1M : Sum := loopSum (Y := Int × Int × Int × (Val (.slice (.int .i64)))) (Z := (Val (.slice (.int .i64)))) f67l1S f67l1O (fun d => d) (fun d => d) (iter f67l1B)
noncomputable def f67H : Nat → Option Sum := fun n => bif Nat.beq n 3 then some f67l1M else none
theorem f67l1_bd (y : Int × Int × Int × (Val (.slice (.int .i64)))) : @Eq (Option ((Int × Int × Int × (Val (.slice (.int .i64)))) ⊕ ((Val (.slice (.int .i64)))))) (exec f67E f67H f67l1C (f67l1S.mk' (show f67l1S.D from y)) (kont (Y := Int × Int × Int × (Val (.slice (.int .i64)))) (Z := (Val (.slice (.int .i64)))) f67l1S f67l1O (fun d => d) (fun d => d))) (f67l1B y) := by kernel_rfl
theorem f67l1_ok {w0 : World} {Jo : Io} (hfix : ∀ i b, Jo.fix i = some b → i ∈ []) (hmay : true = true → Jo.may) : SumOk PT w0 Jo f67l1M (.loop f67l1C) :=
  @loop_ok w0 Jo PT f67E f67H (Int × Int × Int × (Val (.slice (.int .i64)))) ((Val (.slice (.int .i64)))) f67_env mixed f67l1C f67l1S f67l1O (fun d => d) (fun d => d) (fun d => d) (fun d => d) (fun _ => rfl) (fun _ => rfl) hfix hmay (by kernel_rfl) (noLoops (by kernel_rfl)) f67l1B f67l1_bd
theorem f67_bd (y : Int × Int) : @Eq (Option ((Val (.slice (.int .i64))))) (exec f67E f67H f67C (f67I.mk' (show f67I.D from y)) (kontF (Z := (Val (.slice (.int .i64)))) f67E Go.Proofs.Try.f67.results.toList f67O (fun d => d))) (f67F y) := by kernel_rfl
theorem f67_lo {w0 : World} {Jo : Io} (hfix : ∀ i b, Jo.fix i = some b → i ∈ []) (hmay : true = true → Jo.may) : LoopsOk PT w0 Jo f67H f67C := (loopsMk (by kernel_rfl) (loopsCons (c := f67l1C) (n := 3) (f := f67l1M) (by kernel_rfl) (by kernel_rfl) (f67l1_ok hfix hmay) loopsNil))
theorem f67_ctr : CtrOk PT 67 f67ct :=
  @ctr_ok PT f67E f67H f67_env mixed 67 Go.Proofs.Try.f67 f67C (by kernel_rfl) (by kernel_rfl) (enters_of (by kernel_rfl : PT.funcs[67]? = some Go.Proofs.Try.f67) (by kernel_rfl) (by kernel_rfl)) f67I f67O (Int × Int) ((Val (.slice (.int .i64)))) (fun d => d) (fun d => d) (fun d => d) (fun d => d) (fun _ => rfl) (fun _ => rfl) (by kernel_rfl) (by kernel_rfl) f67F f67_bd (fun w0 Jo hfix hmay => f67_lo hfix hmay)

/-- bodega/segment.HeaderLine -/
noncomputable def f36 (a0 : Int) : Option Int :=
  bif (decide (a0 < (0 : Int))) then (
    some (-1 : Int))
  else (
    bif (decide ((9 : Int) ≤ a0)) then (
      some (-1 : Int))
    else (
      some (IntKind.wrap .i64 ((104 : Int) + (IntKind.wrap .i64 (a0 * (16 : Int)))))))
noncomputable def f36I : Shape := { n := 12, nx := 0, sl := [(0, .dat false (.int .i64))], ob := [], fix := [], may := true }
noncomputable def f36O : Shape := { n := 13, nx := 0, sl := [(12, .dat true (.int .i64))], ob := [], fix := [], may := true }
noncomputable def f36F : Int → Option Int := fun y => f36 y
noncomputable def f36ct : Ctr := ctrOf f36I f36O (fun d => d) (fun d => d) f36F
noncomputable def f36E : Env := { tf := tfE, fn := fun f => none }
theorem f36_env : EnvOk PT f36E := ⟨tyE, fun f ct h => by
  simp only [f36E] at h
  cases h⟩
noncomputable def f36C : Code := bodyOf Go.Proofs.Try.f36
noncomputable def f36H : Nat → Option Sum := fun n => none
theorem f36_bd (y : Int) : @Eq (Option Int) (exec f36E f36H f36C (f36I.mk' (show f36I.D from y)) (kontF (Z := Int) f36E Go.Proofs.Try.f36.results.toList f36O (fun d => d))) (f36F y) := by kernel_rfl
theorem f36_lo {w0 : World} {Jo : Io} (hfix : ∀ i b, Jo.fix i = some b → i ∈ []) (hmay : true = true → Jo.may) : LoopsOk PT w0 Jo f36H f36C := (noLoops (by kernel_rfl))
theorem f36_ctr : CtrOk PT 36 f36ct :=
  @ctr_ok PT f36E f36H f36_env mixed 36 Go.Proofs.Try.f36 f36C (by kernel_rfl) (by kernel_rfl) (enters_of (by kernel_rfl : PT.funcs[36]? = some Go.Proofs.Try.f36) (by kernel_rfl) (by kernel_rfl)) f36I f36O Int Int (fun d => d) (fun d => d) (fun d => d) (fun d => d) (fun _ => rfl) (fun _ => rfl) (by kernel_rfl) (by kernel_rfl) f36F f36_bd (fun w0 Jo hfix hmay => f36_lo hfix hmay)

noncomputable def f66l1b (x0 : Val (.slice (.int .i64))) (x1 : Int) (x2 : Int) (x3 : Val (.slice (.int .i64))) : Option (((Val (.slice (.int .i64))) × Int × Int × (Val (.slice (.int .i64)))) ⊕ ((Val (.slice (.int .i64))))) :=
  bif (decide (x2 < x1)) then (
    bif (inR x2 (List.length x0)) then
    (f36 (List.getD x0 (Int.toNat x2) (0 : Int))).bind fun r1 =>
    bif (decide (((List.length x3) + 1) ≤ lim)) then
    some (Sum.inl (x0, (x1, ((IntKind.wrap .i64 (x2 + (1 : Int))), (x3 ++ [r1])))))
    else none
    else none)
  else (
    some (Sum.inr x3))
noncomputable def f66l1B : ((Val (.slice (.int .i64))) × Int × Int × (Val (.slice (.int .i64)))) → Option (((Val (.slice (.int .i64))) × Int × Int × (Val (.slice (.int .i64)))) ⊕ ((Val (.slice (.int .i64))))) := fun y => f66l1b y.1 y.2.1 y.2.2.1 y.2.2.2
noncomputable def f66l1 (x0 : Val (.slice (.int .i64))) (x1 : Int) (x2 : Int) (x3 : Val (.slice (.int .i64))) : Option ((Val (.slice (.int .i64)))) := iter f66l1B (x0, (x1, (x2, x3)))
/-- bodega/segment.headerLines -/
noncomputable def f66 (a0 : Val (.slice (.int .i64))) : Option ((Val (.slice (.int .i64)))) :=
  (f66l1 a0 (((List.length a0) : Nat) : Int) (0 : Int) []).bind fun r1 =>
  some r1
noncomputable def f66I : Shape := { n := 19, nx := 0, sl := [(0, .dat false (.slice (.int .i64)))], ob := [], fix := [], may := true }
noncomputable def f66O : Shape := { n := 20, nx := 0, sl := [(19, .dat true (.slice (.int .i64)))], ob := [], fix := [], may := true }
noncomputable def f66F : ((Val (.slice (.int .i64)))) → Option ((Val (.slice (.int .i64)))) := fun y => f66 y
noncomputable def f66ct : Ctr := ctrOf f66I f66O (fun d => d) (fun d => d) f66F
noncomputable def f66E : Env := { tf := tfE, fn := fun f => bif Nat.beq f 36 then some f36ct else none }
theorem f66_env : EnvOk PT f66E := ⟨tyE, fun f ct h => by
  simp only [f66E] at h
  refine envCons (c := f36ct) h f36_ctr (fun h => ?_)
  cases h⟩
noncomputable def f66C : Code := bodyOf Go.Proofs.Try.f66
noncomputable def f66l1C : Code := (loopsOf f66C).getD 0 .skip
noncomputable def f66l1S : Shape := { n := 19, nx := 1, sl := [(3, .own (.int .i64) 0), (6, .dat false (.slice (.int .i64))), (7, .dat true (.int .i64)), (8, .dat true (.int .i64))], ob := [(0, .slc true (.int .i64))], fix := [], may := true }
noncomputable def f66l1O : List (Ex × Shape) := [(.exit 0, { n := 19, nx := 1, sl := [(3, .own (.int .i64) 0)], ob := [(0, .slc true (.int .i64))], fix := [], may := true })]
noncomputable def f66l1M : Sum := loopSum (Y := (Val (.slice (.int .i64))) × Int × Int × (Val (.slice (.int .i64)))) (Z := (Val (.slice (.int .i64)))) f66l1S f66l1O (fun d => d) (fun d => d) (iter f66l1B)
noncomputable def f66H : Nat → Option Sum := fun n => bif Nat.beq n 3 then some f66l1M else none
theorem f66l1_bd (y : (Val (.slice (.int .i64))) × Int × Int × (Val (.slice (.int .i64)))) : @Eq (Option (((Val (.slice (.int .i64))) × Int × Int × (Val (.slice (.int .i64)))) ⊕ ((Val (.slice (.int .i64)))))) (exec f66E f66H f66l1C (f66l1S.mk' (show f66l1S.D from y)) (kont (Y := (Val (.slice (.int .i64))) × Int × Int × (Val (.slice (.int .i64)))) (Z := (Val (.slice (.int .i64)))) f66l1S f66l1O (fun d => d) (fun d => d))) (f66l1B y) := by kernel_rfl
theorem f66l1_ok {w0 : World} {Jo : Io} (hfix : ∀ i b, Jo.fix i = some b → i ∈ []) (hmay : true = true → Jo.may) : SumOk PT w0 Jo f66l1M (.loop f66l1C) :=
  @loop_ok w0 Jo PT f66E f66H ((Val (.slice (.int .i64))) × Int × Int × (Val (.slice (.int .i64)))) ((Val (.slice (.int .i64)))) f66_env mixed f66l1C f66l1S f66l1O (fun d => d) (fun d => d) (fun d => d) (fun d => d) (fun _ => rfl) (fun _ => rfl) hfix hmay (by kernel_rfl) (noLoops (by kernel_rfl)) f66l1B f66l1_bd
theorem f66_bd (y : (Val (.slice (.int .i64)))) : @Eq (Option ((Val (.slice (.int .i64))))) (exec f66E f66H f66C (f66I.mk' (show f66I.D from y)) (kontF (Z := (Val (.slice (.int .i64)))) f66E Go.Proofs.Try.f66.results.toList f66O (fun d => d))) (f66F y) := by kernel_rfl
theorem f66_lo {w0 : World} {Jo : Io} (hfix : ∀ i b, Jo.fix i = some b → i ∈ []) (hmay : true = true → Jo.may) : LoopsOk PT w0 Jo f66H f66C := (loopsMk (by kernel_rfl) (loopsCons (c := f66l1C) (n := 3) (f := f66l1M) (by kernel_rfl) (by kernel_rfl) (f66l1_ok hfix hmay) loopsNil))
theorem f66_ctr : CtrOk PT 66 f66ct :=
  @ctr_ok PT f66E f66H f66_env mixed 66 Go.Proofs.Try.f66 f66C (by kernel_rfl) (by kernel_rfl) (enters_of (by kernel_rfl : PT.funcs[66]? = some Go.Proofs.Try.f66) (by kernel_rfl) (by kernel_rfl)) f66I f66O ((Val (.slice (.int .i64)))) ((Val (.slice (.int .i64)))) (fun d => d) (fun d => d) (fun d => d) (fun d => d) (fun _ => rfl) (fun _ => rfl) (by kernel_rfl) (by kernel_rfl) f66F f66_bd (fun w0 Jo hfix hmay => f66_lo hfix hmay)

/-- bodega/segment.isHeaderLine -/
noncomputable def f48 (a0 : Int) : Option Bool :=
  bif (decide ((104 : Int) ≤ a0)) then (
    bif (decide (a0 < (248 : Int))) then (
      some (decide ((Int.tmod (IntKind.wrap .i64 (a0 - (104 : Int))) (16 : Int)) = (0 : Int))))
    else (
      some false))
  else (
    some false)
noncomputable def f48I : Shape := { n := 15, nx := 0, sl := [(0, .dat false (.int .i64))], ob := [], fix := [], may := true }
noncomputable def f48O : Shape := { n := 16, nx := 0, sl := [(15, .dat true .bool)], ob := [], fix := [], may := true }
noncomputable def f48F : Int → Option Bool := fun y => f48 y
noncomputable def f48ct : Ctr := ctrOf f48I f48O (fun d => d) (fun d => d) f48F
noncomputable def f48E : Env := { tf := tfE, fn := fun f => none }
theorem f48_env : EnvOk PT f48E := ⟨tyE, fun f ct h => by
  simp only [f48E] at h
  cases h⟩
noncomputable def f48C : Code := bodyOf Go.Proofs.Try.f48
noncomputable def f48H : Nat → Option Sum := fun n => none
theorem f48_bd (y : Int) : @Eq (Option Bool) (exec f48E f48H f48C (f48I.mk' (show f48I.D from y)) (kontF (Z := Bool) f48E Go.Proofs.Try.f48.results.toList f48O (fun d => d))) (f48F y) := by kernel_rfl
theorem f48_lo {w0 : World} {Jo : Io} (hfix : ∀ i b, Jo.fix i = some b → i ∈ []) (hmay : true = true → Jo.may) : LoopsOk PT w0 Jo f48H f48C := (noLoops (by kernel_rfl))
theorem f48_ctr : CtrOk PT 48 f48ct :=
  @ctr_ok PT f48E f48H f48_env mixed 48 Go.Proofs.Try.f48 f48C (by kernel_rfl) (by kernel_rfl) (enters_of (by kernel_rfl : PT.funcs[48]? = some Go.Proofs.Try.f48) (by kernel_rfl) (by kernel_rfl)) f48I f48O Int Bool (fun d => d) (fun d => d) (fun d => d) (fun d => d) (fun _ => rfl) (fun _ => rfl) (by kernel_rfl) (by kernel_rfl) f48F f48_bd (fun w0 Jo hfix hmay => f48_lo hfix hmay)

/-- bodega/segment.zeros$1 -/
noncomputable def f81 (a0 : Int) : Option Bool :=
  some (!(decide (a0 = (0 : Int))))
noncomputable def f81I : Shape := { n := 5, nx := 0, sl := [(0, .dat false (.int .u64))], ob := [], fix := [], may := true }
noncomputable def f81O : Shape := { n := 6, nx := 0, sl := [(5, .dat true .bool)], ob := [], fix := [], may := true }
noncomputable def f81F : Int → Option Bool := fun y => f81 y
noncomputable def f81ct : Ctr := ctrOf f81I f81O (fun d => d) (fun d => d) f81F
noncomputable def f81E : Env := { tf := tfE, fn := fun f => none }
theorem f81_env : EnvOk PT f81E := ⟨tyE, fun f ct h => by
  simp only [f81E] at h
  cases h⟩
noncomputable def f81C : Code := bodyOf Go.Proofs.Try.f81
noncomputable def f81H : Nat → Option Sum := fun n => none
theorem f81_bd (y : Int) : @Eq (Option Bool) (exec f81E f81H f81C (f81I.mk' (show f81I.D from y)) (kontF (Z := Bool) f81E Go.Proofs.Try.f81.results.toList f81O (fun d => d))) (f81F y) := by kernel_rfl
theorem f81_lo {w0 : World} {Jo : Io} (hfix : ∀ i b, Jo.fix i = some b → i ∈ []) (hmay : true = true → Jo.may) : LoopsOk PT w0 Jo f81H f81C := (noLoops (by kernel_rfl))
theorem f81_ctr : CtrOk PT 81 f81ct :=
  @ctr_ok PT f81E f81H f81_env mixed 81 Go.Proofs.Try.f81 f81C (by kernel_rfl) (by kernel_rfl) (enters_of (by kernel_rfl : PT.funcs[81]? = some Go.Proofs.Try.f81) (by kernel_rfl) (by kernel_rfl)) f81I f81O Int Bool (fun d => d) (fun d => d) (fun d => d) (fun d => d) (fun _ => rfl) (fun _ => rfl) (by kernel_rfl) (by kernel_rfl) f81F f81_bd (fun w0 Jo hfix hmay => f81_lo hfix hmay)

noncomputable def f93l1b (x0 : Val (.slice (.int .u64))) (x1 : Int) (x2 : Int) : Option (((Val (.slice (.int .u64))) × Int × Int) ⊕ ((Unit) ⊕ (Int))) :=
  bif (decide (x2 < x1)) then (
    bif (inR x2 (List.length x0)) then
    (f81 (List.getD x0 (Int.toNat x2) (0 : Int))).bind fun r1 =>
    bif r1 then (
      some (Sum.inr (Sum.inr x2)))
    else (
      some (Sum.inl (x0, (x1, (IntKind.wrap .i64 (x2 + (1 : Int)))))))
    else none)
  else (
    some (Sum.inr (Sum.inl ())))
noncomputable def f93l1B : ((Val (.slice (.int .u64))) × Int × Int) → Option (((Val (.slice (.int .u64))) × Int × Int) ⊕ ((Unit) ⊕ (Int))) := fun y => f93l1b y.1 y.2.1 y.2.2
noncomputable def f93l1 (x0 : Val (.slice (.int .u64))) (x1 : Int) (x2 : Int) : Option ((Unit) ⊕ (Int)) := iter f93l1B (x0, (x1, x2))
/-- slices.IndexFunc[[]uint64,uint64] -/
noncomputable def f93 (a0 : Val (.slice (.int .u64))) : Option Int :=
  (f93l1 a0 (((List.length a0) : Nat) : Int) (0 : Int)).bind fun r1 =>
  match r1 with
  | .inl r2 => (
    some (-1 : Int))
  | .inr r3 => (
    some r3)
noncomputable def f93I : Shape := { n := 19, nx := 0, sl := [(0, .dat false (.slice (.int .u64))), (1, .fn 81 (.nil))], ob := [], fix := [], may := true }
noncomputable def f93O : Shape := { n := 20, nx := 0, sl := [(19, .dat true (.int .i64))], ob := [], fix := [], may := true }
noncomputable def f93F : ((Val (.slice (.int .u64)))) → Option Int := fun y => f93 y
noncomputable def f93ct : Ctr := ctrOf f93I f93O (fun d => d) (fun d => d) f93F
noncomputable def f93E : Env := { tf := tfE, fn := fun f => bif Nat.beq f 81 then some f81ct else none }
theorem f93_env : EnvOk PT f93E := ⟨tyE, fun f ct h => by
  simp only [f93E] at h
  refine envCons (c := f81ct) h f81_ctr (fun h => ?_)
  cases h⟩
noncomputable def f93C : Code := bodyOf Go.Proofs.Try.f93
noncomputable def f93l1C : Code := (loopsOf f93C).getD 0 .skip
noncomputable def f93l1S : Shape := { n := 19, nx := 0, sl := [(0, .dat false (.slice (.int .u64))), (1, .fn 81 (.nil)), (7, .dat true (.int .i64)), (8, .dat true (.int .i64))], ob := [], fix := [], may := true }
noncomputable def f93l1O : List (Ex × Shape) := [(.exit 0, { n := 19, nx := 0, sl := [], ob := [], fix := [], may := true }), (.ret, { n := 19, nx := 0, sl := [(4, .dat true (.int .i64))], ob := [], fix := [], may := true })]
noncomputable def f93l1M : Sum := loopSum (Y := (Val (.slice (.int .u64))) × Int × Int) (Z := (Unit) ⊕ (Int)) f93l1S f93l1O (fun d => d) (fun d => d) (iter f93l1B)
noncomputable def f93H : Nat → Option Sum := fun n => bif Nat.beq n 2 then some f93l1M else none
theorem f93l1_bd (y : (Val (.slice (.int .u64))) × Int × Int) : @Eq (Option (((Val (.slice (.int .u64))) × Int × Int) ⊕ ((Unit) ⊕ (Int)))) (exec f93E f93H f93l1C (f93l1S.mk' (show f93l1S.D from y)) (kont (Y := (Val (.slice (.int .u64))) × Int × Int) (Z := (Unit) ⊕ (Int)) f93l1S f93l1O (fun d => d) (fun d => d))) (f93l1B y) := by kernel_rfl
theorem f93l1_ok {w0 : World} {Jo : Io} (hfix : ∀ i b, Jo.fix i = some b → i ∈ []) (hmay : true = true → Jo.may) : SumOk PT w0 Jo f93l1M (.loop f93l1C) :=
  @loop_ok w0 Jo PT f93E f93H ((Val (.slice (.int .u64))) × Int × Int) ((Unit) ⊕ (Int)) f93_env mixed f93l1C f93l1S f93l1O (fun d => d) (fun d => d) (fun d => d) (fun d => d) (fun _ => rfl) (fun _ => rfl) hfix hmay (by kernel_rfl) (noLoops (by kernel_rfl)) f93l1B f93l1_bd
theorem f93_bd (y : (Val (.slice (.int .u64)))) : @Eq (Option Int) (exec f93E f93H f93C (f93I.mk' (show f93I.D from y)) (kontF (Z := Int) f93E Go.Proofs.Try.f93.results.toList f93O (fun d => d))) (f93F y) := by kernel_rfl
theorem f93_lo {w0 : World} {Jo : Io} (hfix : ∀ i b, Jo.fix i = some b → i ∈ []) (hmay : true = true → Jo.may) : LoopsOk PT w0 Jo f93H f93C := (loopsMk (by kernel_rfl) (loopsCons (c := f93l1C) (n := 2) (f := f93l1M) (by kernel_rfl) (by kernel_rfl) (f93l1_ok hfix hmay) loopsNil))
theorem f93_ctr : CtrOk PT 93 f93ct :=
  @ctr_ok PT f93E f93H f93_env mixed 93 Go.Proofs.Try.f93 f93C (by kernel_rfl) (by kernel_rfl) (enters_of (by kernel_rfl : PT.funcs[93]? = some Go.Proofs.Try.f93) (by kernel_rfl) (by kernel_rfl)) f93I f93O ((Val (.slice (.int .u64)))) Int (fun d => d) (fun d => d) (fun d => d) (fun d => d) (fun _ => rfl) (fun _ => rfl) (by kernel_rfl) (by kernel_rfl) f93F f93_bd (fun w0 Jo hfix hmay => f93_lo hfix hmay)

/-- slices.ContainsFunc[[]uint64,uint64] -/
noncomputable def f80 (a0 : Val (.slice (.int .u64))) : Option Bool :=
  (f93 a0).bind fun r1 =>
  some (decide ((0 : Int) ≤ r1))
noncomputable def f80I : Shape := { n := 9, nx := 0, sl := [(0, .dat false (.slice (.int .u64))), (1, .fn 81 (.nil))], ob := [], fix := [], may := true }
noncomputable def f80O : Shape := { n := 10, nx := 0, sl := [(9, .dat true .bool)], ob := [], fix := [], may := true }
noncomputable def f80F : ((Val (.slice (.int .u64)))) → Option Bool := fun y => f80 y
noncomputable def f80ct : Ctr := ctrOf f80I f80O (fun d => d) (fun d => d) f80F
noncomputable def f80E : Env := { tf := tfE, fn := fun f => bif Nat.beq f 93 then some f93ct else none }
theorem f80_env : EnvOk PT f80E := ⟨tyE, fun f ct h => by
  simp only [f80E] at h
  refine envCons (c := f93ct) h f93_ctr (fun h => ?_)
  cases h⟩
noncomputable def f80C : Code := bodyOf Go.Proofs.Try.f80
noncomputable def f80H : Nat → Option Sum := fun n => none
theorem f80_bd (y : (Val (.slice (.int .u64)))) : @Eq (Option Bool) (exec f80E f80H f80C (f80I.mk' (show f80I.D from y)) (kontF (Z := Bool) f80E Go.Proofs.Try.f80.results.toList f80O (fun d => d))) (f80F y) := by kernel_rfl
theorem f80_lo {w0 : World} {Jo : Io} (hfix : ∀ i b, Jo.fix i = some b → i ∈ []) (hmay : true = true → Jo.may) : LoopsOk PT w0 Jo f80H f80C := (noLoops (by kernel_rfl))
theorem f80_ctr : CtrOk PT 80 f80ct :=
  @ctr_ok PT f80E f80H f80_env mixed 80 Go.Proofs.Try.f80 f80C (by kernel_rfl) (by kernel_rfl) (enters_of (by kernel_rfl : PT.funcs[80]? = some Go.Proofs.Try.f80) (by kernel_rfl) (by kernel_rfl)) f80I f80O ((Val (.slice (.int .u64)))) Bool (fun d => d) (fun d => d) (fun d => d) (fun d => d) (fun _ => rfl) (fun _ => rfl) (by kernel_rfl) (by kernel_rfl) f80F f80_bd (fun w0 Jo hfix hmay => f80_lo hfix hmay)

/-- bodega/segment.zeros -/
noncomputable def f49 (a0 : Val (.slice (.int .u64))) : Option Bool :=
  (f80 a0).bind fun r1 =>
  some (!r1)
noncomputable def f49I : Shape := { n := 6, nx := 0, sl := [(0, .dat false (.slice (.int .u64)))], ob := [], fix := [], may := true }
noncomputable def f49O : Shape := { n := 7, nx := 0, sl := [(6, .dat true .bool)], ob := [], fix := [], may := true }
noncomputable def f49F : ((Val (.slice (.int .u64)))) → Option Bool := fun y => f49 y
noncomputable def f49ct : Ctr := ctrOf f49I f49O (fun d => d) (fun d => d) f49F
noncomputable def f49E : Env := { tf := tfE, fn := fun f => bif Nat.beq f 80 then some f80ct else none }
theorem f49_env : EnvOk PT f49E := ⟨tyE, fun f ct h => by
  simp only [f49E] at h
  refine envCons (c := f80ct) h f80_ctr (fun h => ?_)
  cases h⟩
noncomputable def f49C : Code := bodyOf Go.Proofs.Try.f49
noncomputable def f49H : Nat → Option Sum := fun n => none
theorem f49_bd (y : (Val (.slice (.int .u64)))) : @Eq (Option Bool) (exec f49E f49H f49C (f49I.mk' (show f49I.D from y)) (kontF (Z := Bool) f49E Go.Proofs.Try.f49.results.toList f49O (fun d => d))) (f49F y) := by kernel_rfl
theorem f49_lo {w0 : World} {Jo : Io} (hfix : ∀ i b, Jo.fix i = some b → i ∈ []) (hmay : true = true → Jo.may) : LoopsOk PT w0 Jo f49H f49C := (noLoops (by kernel_rfl))
theorem f49_ctr : CtrOk PT 49 f49ct :=
  @ctr_ok PT f49E f49H f49_env mixed 49 Go.Proofs.Try.f49 f49C (by kernel_rfl) (by kernel_rfl) (enters_of (by kernel_rfl : PT.funcs[49]? = some Go.Proofs.Try.f49) (by kernel_rfl) (by kernel_rfl)) f49I f49O ((Val (.slice (.int .u64)))) Bool (fun d => d) (fun d => d) (fun d => d) (fun d => d) (fun _ => rfl) (fun _ => rfl) (by kernel_rfl) (by kernel_rfl) f49F f49_bd (fun w0 Jo hfix hmay => f49_lo hfix hmay)

/-- bodega/segment.ReadHeader -/
noncomputable def f20 (a0 : Val TPage) : Option ((Val THead) × Int) :=
  (f48 a0.1).bind fun r1 =>
  bif (!r1) then (
    some (((0 : Int), ((0 : Int), ())), (1 : Int)))
  else (
    bif (decide ((6 : Int) < (List.getD a0.2.2.1 0 (0 : Int)))) then (
      some (((0 : Int), ((0 : Int), ())), (14 : Int)))
    else (
      bif (!(decide ((IntKind.wrap .u64 ((BitVec.ofInt (IntKind.bits .u64) (List.getD a0.2.2.1 1 (0 : Int)) &&& ~~~ BitVec.ofInt (IntKind.bits .u64) (65534 : Int)).toNat : Int)) = (0 : Int)))) then (
        some (((0 : Int), ((0 : Int), ())), (14 : Int)))
      else (
        (f49 (List.drop 2 (List.take 7 a0.2.2.1))).bind fun r2 =>
        bif (!r2) then (
          some (((0 : Int), ((0 : Int), ())), (14 : Int)))
        else (
          some (((IntKind.wrap .i64 ((IntKind.wrap .i64 (List.getD a0.2.2.1 0 (0 : Int))) - (1 : Int))), ((IntKind.wrap .u32 (List.getD a0.2.2.1 1 (0 : Int))), ())), (0 : Int))))))
noncomputable def f20I : Shape := { n := 37, nx := 0, sl := [(0, .dat false TPage)], ob := [], fix := [], may := true }
noncomputable def f20O : Shape := { n := 38, nx := 0, sl := [(37, .tup (.cons (.dat true THead) (.cons (.dat true (.int .i64)) (.nil))))], ob := [], fix := [], may := true }
noncomputable def f20F : ((Val TPage)) → Option ((Val THead) × Int) := fun y => f20 y
noncomputable def f20ct : Ctr := ctrOf f20I f20O (fun d => d) (fun d => d) f20F
noncomputable def f20E : Env := { tf := tfE, fn := fun f => bif Nat.beq f 48 then some f48ct else bif Nat.beq f 49 then some f49ct else none }
theorem f20_env : EnvOk PT f20E := ⟨tyE, fun f ct h => by
  simp only [f20E] at h
  refine envCons (c := f48ct) h f48_ctr (fun h => ?_)
  refine envCons (c := f49ct) h f49_ctr (fun h => ?_)
  cases h⟩
noncomputable def f20C : Code := bodyOf Go.Proofs.Try.f20
noncomputable def f20H : Nat → Option Sum := fun n => none
theorem f20_bd (y : (Val TPage)) : @Eq (Option ((Val THead) × Int)) (exec f20E f20H f20C (f20I.mk' (show f20I.D from y)) (kontF (Z := (Val THead) × Int) f20E Go.Proofs.Try.f20.results.toList f20O (fun d => d))) (f20F y) := by kernel_rfl
theorem f20_lo {w0 : World} {Jo : Io} (hfix : ∀ i b, Jo.fix i = some b → i ∈ []) (hmay : true = true → Jo.may) : LoopsOk PT w0 Jo f20H f20C := (noLoops (by kernel_rfl))
theorem f20_ctr : CtrOk PT 20 f20ct :=
  @ctr_ok PT f20E f20H f20_env mixed 20 Go.Proofs.Try.f20 f20C (by kernel_rfl) (by kernel_rfl) (enters_of (by kernel_rfl : PT.funcs[20]? = some Go.Proofs.Try.f20) (by kernel_rfl) (by kernel_rfl)) f20I f20O ((Val TPage)) ((Val THead) × Int) (fun d => d) (fun d => d) (fun d => d) (fun d => d) (fun _ => rfl) (fun _ => rfl) (by kernel_rfl) (by kernel_rfl) f20F f20_bd (fun w0 Jo hfix hmay => f20_lo hfix hmay)

/-- bodega/segment.header -/
noncomputable def f69 (a0 : Val (.slice TPage)) (a1 : Int) : Option ((Val TPage) × (Val THead) × Bool × Int) :=
  (f36 a1).bind fun r1 =>
  (f71 a0 r1).bind fun r2 =>
  bif (!r2.2) then (
    some (((0 : Int), ((0 : Int), ((List.replicate 7 (0 : Int)), ()))), (((0 : Int), ((0 : Int), ())), (false, (0 : Int)))))
  else (
    (f73 r2.1).bind fun r3 =>
    bif r3 then (
      some (((0 : Int), ((0 : Int), ((List.replicate 7 (0 : Int)), ()))), (((0 : Int), ((0 : Int), ())), (true, (3 : Int)))))
    else (
      (f20 r2.1).bind fun r4 =>
      some (r2.1, (r4.1, (true, r4.2)))))
noncomputable def f69I : Shape := { n := 31, nx := 0, sl := [(0, .dat false (.slice TPage)), (1, .dat false (.int .i64))], ob := [], fix := [], may := true }
noncomputable def f69O : Shape := { n := 32, nx := 0, sl := [(31, .tup (.cons (.dat false TPage) (.cons (.dat true THead) (.cons (.dat true .bool) (.cons (.dat true (.int .i64)) (.nil))))))], ob := [], fix := [], may := true }
noncomputable def f69F : ((Val (.slice TPage)) × Int) → Option ((Val TPage) × (Val THead) × Bool × Int) := fun y => f69 y.1 y.2
noncomputable def f69ct : Ctr := ctrOf f69I f69O (fun d => d) (fun d => d) f69F
noncomputable def f69E : Env := { tf := tfE, fn := fun f => bif Nat.beq f 36 then some f36ct else bif Nat.beq f 71 then some f71ct else bif Nat.beq f 73 then some f73ct else bif Nat.beq f 20 then some f20ct else none }
theorem f69_env : EnvOk PT f69E := ⟨tyE, fun f ct h => by
  simp only [f69E] at h
  refine envCons (c := f36ct) h f36_ctr (fun h => ?_)
  refine envCons (c := f71ct) h f71_ctr (fun h => ?_)
  refine envCons (c := f73ct) h f73_ctr (fun h => ?_)
  refine envCons (c := f20ct) h f20_ctr (fun h => ?_)
  cases h⟩
noncomputable def f69C : Code := bodyOf Go.Proofs.Try.f69
noncomputable def f69H : Nat → Option Sum := fun n => none
theorem f69_bd (y : (Val (.slice TPage)) × Int) : @Eq (Option ((Val TPage) × (Val THead) × Bool × Int)) (exec f69E f69H f69C (f69I.mk' (show f69I.D from y)) (kontF (Z := (Val TPage) × (Val THead) × Bool × Int) f69E Go.Proofs.Try.f69.results.toList f69O (fun d => d))) (f69F y) := by kernel_rfl
theorem f69_lo {w0 : World} {Jo : Io} (hfix : ∀ i b, Jo.fix i = some b → i ∈ []) (hmay : true = true → Jo.may) : LoopsOk PT w0 Jo f69H f69C := (noLoops (by kernel_rfl))
theorem f69_ctr : CtrOk PT 69 f69ct :=
  @ctr_ok PT f69E f69H f69_env mixed 69 Go.Proofs.Try.f69 f69C (by kernel_rfl) (by kernel_rfl) (enters_of (by kernel_rfl : PT.funcs[69]? = some Go.Proofs.Try.f69) (by kernel_rfl) (by kernel_rfl)) f69I f69O ((Val (.slice TPage)) × Int) ((Val TPage) × (Val THead) × Bool × Int) (fun d => d) (fun d => d) (fun d => d) (fun d => d) (fun _ => rfl) (fun _ => rfl) (by kernel_rfl) (by kernel_rfl) f69F f69_bd (fun w0 Jo hfix hmay => f69_lo hfix hmay)

noncomputable def f68l1b (x0 : Val (.slice TPage)) (x1 : Int) (x2 : Int) (x3 : Int) : Option (((Val (.slice TPage)) × Int × Int × Int) ⊕ ((Unit) ⊕ (Int × Bool))) :=
  bif (decide (x3 < x2)) then (
    bif (!(decide (x2 = (0 : Int)))) then
    (f69 x0 (Int.tmod (IntKind.wrap .i64 (x1 + x3)) x2)).bind fun r1 =>
    bif (decide (r1.2.2.2 = (0 : Int))) then (
      bif (decide (r1.2.1.1 = (-1 : Int))) then (
        some (Sum.inr (Sum.inr ((Int.tmod (IntKind.wrap .i64 (x1 + x3)) x2), true))))
      else (
        some (Sum.inl (x0, (x1, (x2, (IntKind.wrap .i64 (x3 + (1 : Int)))))))))
    else (
      some (Sum.inl (x0, (x1, (x2, (IntKind.wrap .i64 (x3 + (1 : Int))))))))
    else none)
  else (
    some (Sum.inr (Sum.inl ())))
noncomputable def f68l1B : ((Val (.slice TPage)) × Int × Int × Int) → Option (((Val (.slice TPage)) × Int × Int × Int) ⊕ ((Unit) ⊕ (Int × Bool))) := fun y => f68l1b y.1 y.2.1 y.2.2.1 y.2.2.2
noncomputable def f68l1 (x0 : Val (.slice TPage)) (x1 : Int) (x2 : Int) (x3 : Int) : Option ((Unit) ⊕ (Int × Bool)) := iter f68l1B (x0, (x1, (x2, x3)))
/-- bodega/segment.unowned -/
noncomputable def f68 (a0 : Val (.slice TPage)) (a1 : Int) (a2 : Int) : Option (Int × Bool) :=
  (f68l1 a0 a1 a2 (0 : Int)).bind fun r1 =>
  match r1 with
  | .inl r2 => (
    some ((0 : Int), false))
  | .inr r3 => (
    some (r3.1, r3.2))
noncomputable def f68I : Shape := { n := 40, nx := 0, sl := [(0, .dat false (.slice TPage)), (1, .dat false (.int .i64)), (2, .dat false (.int .i64))], ob := [], fix := [], may := true }
noncomputable def f68O : Shape := { n := 41, nx := 0, sl := [(40, .tup (.cons (.dat true (.int .i64)) (.cons (.dat true .bool) (.nil))))], ob := [], fix := [], may := true }
noncomputable def f68F : ((Val (.slice TPage)) × Int × Int) → Option (Int × Bool) := fun y => f68 y.1 y.2.1 y.2.2
noncomputable def f68ct : Ctr := ctrOf f68I f68O (fun d => d) (fun d => d) f68F
noncomputable def f68E : Env := { tf := tfE, fn := fun f => bif Nat.beq f 69 then some f69ct else none }
theorem f68_env : EnvOk PT f68E := ⟨tyE, fun f ct h => by
  simp only [f68E] at h
  refine envCons (c := f69ct) h f69_ctr (fun h => ?_)
  cases h⟩
noncomputable def f68C : Code := bodyOf Go.Proofs.Try.f68
noncomputable def f68l1C : Code := (loopsOf f68C).getD 0 .skip
noncomputable def f68l1S : Shape := { n := 40, nx := 0, sl := [(0, .dat false (.slice TPage)), (1, .dat false (.int .i64)), (2, .dat false (.int .i64)), (8, .dat true (.int .i64))], ob := [], fix := [], may := true }
noncomputable def f68l1O : List (Ex × Shape) := [(.exit 0, { n := 40, nx := 0, sl := [], ob := [], fix := [], may := true }), (.ret, { n := 40, nx := 0, sl := [(6, .dat true (.int .i64)), (7, .dat true .bool)], ob := [], fix := [], may := true })]
noncomputable def f68l1M : Sum := loopSum (Y := (Val (.slice TPage)) × Int × Int × Int) (Z := (Unit) ⊕ (Int × Bool)) f68l1S f68l1O (fun d => d) (fun d => d) (iter f68l1B)
noncomputable def f68H : Nat → Option Sum := fun n => bif Nat.beq n 2 then some f68l1M else none
theorem f68l1_bd (y : (Val (.slice TPage)) × Int × Int × Int) : @Eq (Option (((Val (.slice TPage)) × Int × Int × Int) ⊕ ((Unit) ⊕ (Int × Bool)))) (exec f68E f68H f68l1C (f68l1S.mk' (show f68l1S.D from y)) (kont (Y := (Val (.slice TPage)) × Int × Int × Int) (Z := (Unit) ⊕ (Int × Bool)) f68l1S f68l1O (fun d => d) (fun d => d))) (f68l1B y) := by kernel_rfl
theorem f68l1_ok {w0 : World} {Jo : Io} (hfix : ∀ i b, Jo.fix i = some b → i ∈ []) (hmay : true = true → Jo.may) : SumOk PT w0 Jo f68l1M (.loop f68l1C) :=
  @loop_ok w0 Jo PT f68E f68H ((Val (.slice TPage)) × Int × Int × Int) ((Unit) ⊕ (Int × Bool)) f68_env mixed f68l1C f68l1S f68l1O (fun d => d) (fun d => d) (fun d => d) (fun d => d) (fun _ => rfl) (fun _ => rfl) hfix hmay (by kernel_rfl) (noLoops (by kernel_rfl)) f68l1B f68l1_bd
theorem f68_bd (y : (Val (.slice TPage)) × Int × Int) : @Eq (Option (Int × Bool)) (exec f68E f68H f68C (f68I.mk' (show f68I.D from y)) (kontF (Z := Int × Bool) f68E Go.Proofs.Try.f68.results.toList f68O (fun d => d))) (f68F y) := by kernel_rfl
theorem f68_lo {w0 : World} {Jo : Io} (hfix : ∀ i b, Jo.fix i = some b → i ∈ []) (hmay : true = true → Jo.may) : LoopsOk PT w0 Jo f68H f68C := (loopsMk (by kernel_rfl) (loopsCons (c := f68l1C) (n := 2) (f := f68l1M) (by kernel_rfl) (by kernel_rfl) (f68l1_ok hfix hmay) loopsNil))
theorem f68_ctr : CtrOk PT 68 f68ct :=
  @ctr_ok PT f68E f68H f68_env mixed 68 Go.Proofs.Try.f68 f68C (by kernel_rfl) (by kernel_rfl) (enters_of (by kernel_rfl : PT.funcs[68]? = some Go.Proofs.Try.f68) (by kernel_rfl) (by kernel_rfl)) f68I f68O ((Val (.slice TPage)) × Int × Int) (Int × Bool) (fun d => d) (fun d => d) (fun d => d) (fun d => d) (fun _ => rfl) (fun _ => rfl) (by kernel_rfl) (by kernel_rfl) f68F f68_bd (fun w0 Jo hfix hmay => f68_lo hfix hmay)

/-- bodega/pointer.Pack -/
noncomputable def f58 (a0 : Val TPtr) : Option Int :=
  (f57 a0).bind fun r1 =>
  bif (!r1) then (
    some (0 : Int))
  else (
    some (IntKind.wrap .u32 ((BitVec.ofInt (IntKind.bits .u32) (shiftL .u32 (IntKind.wrap .u32 a0.2.1) (8 : Int)) ||| BitVec.ofInt (IntKind.bits .u32) (IntKind.wrap .u32 a0.1)).toNat : Int)))
noncomputable def f58I : Shape := { n := 14, nx := 0, sl := [(0, .dat false TPtr)], ob := [], fix := [], may := true }
noncomputable def f58O : Shape := { n := 15, nx := 0, sl := [(14, .dat true (.int .u32))], ob := [], fix := [], may := true }
noncomputable def f58F : ((Val TPtr)) → Option Int := fun y => f58 y
noncomputable def f58ct : Ctr := ctrOf f58I f58O (fun d => d) (fun d => d) f58F
noncomputable def f58E : Env := { tf := tfE, fn := fun f => bif Nat.beq f 57 then some f57ct else none }
theorem f58_env : EnvOk PT f58E := ⟨tyE, fun f ct h => by
  simp only [f58E] at h
  refine envCons (c := f57ct) h f57_ctr (fun h => ?_)
  cases h⟩
noncomputable def f58C : Code := bodyOf Go.Proofs.Try.f58
noncomputable def f58H : Nat → Option Sum := fun n => none
theorem f58_bd (y : (Val TPtr)) : @Eq (Option Int) (exec f58E f58H f58C (f58I.mk' (show f58I.D from y)) (kontF (Z := Int) f58E Go.Proofs.Try.f58.results.toList f58O (fun d => d))) (f58F y) := by kernel_rfl
theorem f58_lo {w0 : World} {Jo : Io} (hfix : ∀ i b, Jo.fix i = some b → i ∈ []) (hmay : true = true → Jo.may) : LoopsOk PT w0 Jo f58H f58C := (noLoops (by kernel_rfl))
theorem f58_ctr : CtrOk PT 58 f58ct :=
  @ctr_ok PT f58E f58H f58_env mixed 58 Go.Proofs.Try.f58 f58C (by kernel_rfl) (by kernel_rfl) (enters_of (by kernel_rfl : PT.funcs[58]? = some Go.Proofs.Try.f58) (by kernel_rfl) (by kernel_rfl)) f58I f58O ((Val TPtr)) Int (fun d => d) (fun d => d) (fun d => d) (fun d => d) (fun _ => rfl) (fun _ => rfl) (by kernel_rfl) (by kernel_rfl) f58F f58_bd (fun w0 Jo hfix hmay => f58_lo hfix hmay)

noncomputable def f29l1b (x0 : Val (.arr 4 TRet)) (x1 : Int) (x2 : Val TPage) (x3 : Val TPage) : Option (((Val (.arr 4 TRet)) × Int × (Val TPage) × (Val TPage)) ⊕ (((Val TPage) × (Val TPage)) ⊕ (Int × (Val TPage)))) :=
  bif (decide (x1 < (4 : Int))) then (
    bif (inR x1 4) then
    bif (eqV TRet (List.getD x0 (Int.toNat x1) (((0 : Int), ((0 : Int), ())), ((0 : Int), ()))) (((0 : Int), ((0 : Int), ())), ((0 : Int), ()))) then (
      some (Sum.inl (x0, ((IntKind.wrap .i64 (x1 + (1 : Int))), (x2, x3)))))
    else (
      (f57 (List.getD x0 (Int.toNat x1) (((0 : Int), ((0 : Int), ())), ((0 : Int), ()))).1).bind fun r1 =>
      bif r1 then (
        (f58 (List.getD x0 (Int.toNat x1) (((0 : Int), ((0 : Int), ())), ((0 : Int), ()))).1).bind fun r2 =>
        bif (inR (IntKind.wrap .i64 ((3 : Int) + x1)) 7) then
        some (Sum.inl (x0, ((IntKind.wrap .i64 (x1 + (1 : Int))), ((x2.1, (x2.2.1, ((List.set x2.2.2.1 (Int.toNat (IntKind.wrap .i64 ((3 : Int) + x1))) (IntKind.wrap .u64 ((BitVec.ofInt (IntKind.bits .u64) (IntKind.wrap .u64 r2) ||| BitVec.ofInt (IntKind.bits .u64) (shiftL .u64 (IntKind.wrap .u64 (List.getD x0 (Int.toNat x1) (((0 : Int), ((0 : Int), ())), ((0 : Int), ()))).2.1) (32 : Int))).toNat : Int))), x2.2.2.2))), x3))))
        else none)
      else (
        some (Sum.inr (Sum.inr ((1 : Int), ((0 : Int), ((0 : Int), ((List.replicate 7 (0 : Int)), ()))))))))
    else none)
  else (
    some (Sum.inr (Sum.inl (x2, x3))))
noncomputable def f29l1B : ((Val (.arr 4 TRet)) × Int × (Val TPage) × (Val TPage)) → Option (((Val (.arr 4 TRet)) × Int × (Val TPage) × (Val TPage)) ⊕ (((Val TPage) × (Val TPage)) ⊕ (Int × (Val TPage)))) := fun y => f29l1b y.1 y.2.1 y.2.2.1 y.2.2.2
noncomputable def f29l1 (x0 : Val (.arr 4 TRet)) (x1 : Int) (x2 : Val TPage) (x3 : Val TPage) : Option (((Val TPage) × (Val TPage)) ⊕ (Int × (Val TPage))) := iter f29l1B (x0, (x1, (x2, x3)))
/-- bodega/segment.WriteNode -/
noncomputable def f29 (a0 : Val TPage) (a1 : Val TNode) : Option ((Val TPage) × Int) :=
  (f51 a0.1).bind fun r1 =>
  bif (!r1) then (
    some (((0 : Int), ((0 : Int), ((List.replicate 7 (0 : Int)), ()))), (1 : Int)))
  else (
    bif (!a1.1) then (
      bif (!(decide (a1.2.1 = (0 : Int)))) then (
        some (((0 : Int), ((0 : Int), ((List.replicate 7 (0 : Int)), ()))), (1 : Int)))
      else (
        bif (decide ((512 : Int) ≤ a1.2.2.1)) then (
          some (((0 : Int), ((0 : Int), ((List.replicate 7 (0 : Int)), ()))), (1 : Int)))
        else (
          bif (decide (a1.2.2.2.1 < (0 : Int))) then (
            some (((0 : Int), ((0 : Int), ((List.replicate 7 (0 : Int)), ()))), (1 : Int)))
          else (
            bif (decide ((59 : Int) < a1.2.2.2.1)) then (
              some (((0 : Int), ((0 : Int), ((List.replicate 7 (0 : Int)), ()))), (1 : Int)))
            else (
              bif a1.1 then (
                (f29l1 a1.2.2.2.2.1 (0 : Int) (a0.1, (a0.2.1, ((List.set [(0 : Int), (IntKind.wrap .u64 a1.2.2.1), (IntKind.wrap .u64 a1.2.2.2.1), (0 : Int), (0 : Int), (0 : Int), (0 : Int)] 0 (IntKind.wrap .u64 ((IntKind.wrap .u64 a1.2.1) + (1 : Int)))), a0.2.2.2))) ((0 : Int), ((0 : Int), ((List.replicate 7 (0 : Int)), ())))).bind fun r2 =>
                match r2 with
                | .inl r3 => (
                  some (r3.1, (0 : Int)))
                | .inr r4 => (
                  some (r4.2, r4.1)))
              else (
                (f29l1 a1.2.2.2.2.1 (0 : Int) (a0.1, (a0.2.1, ([(0 : Int), (IntKind.wrap .u64 a1.2.2.1), (IntKind.wrap .u64 a1.2.2.2.1), (0 : Int), (0 : Int), (0 : Int), (0 : Int)], a0.2.2.2))) ((0 : Int), ((0 : Int), ((List.replicate 7 (0 : Int)), ())))).bind fun r5 =>
                match r5 with
                | .inl r6 => (
                  some (r6.1, (0 : Int)))
                | .inr r7 => (
                  some (r7.2, r7.1))))))))
    else (
      bif (decide ((512 : Int) ≤ a1.2.2.1)) then (
        some (((0 : Int), ((0 : Int), ((List.replicate 7 (0 : Int)), ()))), (1 : Int)))
      else (
        bif (decide (a1.2.2.2.1 < (0 : Int))) then (
          some (((0 : Int), ((0 : Int), ((List.replicate 7 (0 : Int)), ()))), (1 : Int)))
        else (
          bif (decide ((59 : Int) < a1.2.2.2.1)) then (
            some (((0 : Int), ((0 : Int), ((List.replicate 7 (0 : Int)), ()))), (1 : Int)))
          else (
            bif a1.1 then (
              (f29l1 a1.2.2.2.2.1 (0 : Int) (a0.1, (a0.2.1, ((List.set [(0 : Int), (IntKind.wrap .u64 a1.2.2.1), (IntKind.wrap .u64 a1.2.2.2.1), (0 : Int), (0 : Int), (0 : Int), (0 : Int)] 0 (IntKind.wrap .u64 ((IntKind.wrap .u64 a1.2.1) + (1 : Int)))), a0.2.2.2))) ((0 : Int), ((0 : Int), ((List.replicate 7 (0 : Int)), ())))).bind fun r8 =>
              match r8 with
              | .inl r9 => (
                some (r9.1, (0 : Int)))
              | .inr r10 => (
                some (r10.2, r10.1)))
            else (
              (f29l1 a1.2.2.2.2.1 (0 : Int) (a0.1, (a0.2.1, ([(0 : Int), (IntKind.wrap .u64 a1.2.2.1), (IntKind.wrap .u64 a1.2.2.2.1), (0 : Int), (0 : Int), (0 : Int), (0 : Int)], a0.2.2.2))) ((0 : Int), ((0 : Int), ((List.replicate 7 (0 : Int)), ())))).bind fun r11 =>
              match r11 with
              | .inl r12 => (
                some (r12.1, (0 : Int)))
              | .inr r13 => (
                some (r13.2, r13.1))))))))
noncomputable def f29I : Shape := { n := 84, nx := 0, sl := [(0, .dat false TPage), (1, .dat false TNode)], ob := [], fix := [], may := true }
noncomputable def f29O : Shape := { n := 85, nx := 0, sl := [(84, .tup (.cons (.dat false TPage) (.cons (.dat true (.int .i64)) (.nil))))], ob := [], fix := [], may := true }
noncomputable def f29F : ((Val TPage) × (Val TNode)) → Option ((Val TPage) × Int) := fun y => f29 y.1 y.2
noncomputable def f29ct : Ctr := ctrOf f29I f29O (fun d => d) (fun d => d) f29F
noncomputable def f29E : Env := { tf := tfE, fn := fun f => bif Nat.beq f 51 then some f51ct else bif Nat.beq f 57 then some f57ct else bif Nat.beq f 58 then some f58ct else none }
theorem f29_env : EnvOk PT f29E := ⟨tyE, fun f ct h => by
  simp only [f29E] at h
  refine envCons (c := f51ct) h f51_ctr (fun h => ?_)
  refine envCons (c := f57ct) h f57_ctr (fun h => ?_)
  refine envCons (c := f58ct) h f58_ctr (fun h => ?_)
  cases h⟩
noncomputable def f29C : Code := bodyOf Go.Proofs.Try.f29
noncomputable def f29l1C : Code := (loopsOf f29C).getD 0 .skip
noncomputable def f29l1S : Shape := { n := 84, nx := 2, sl := [(2, .ref 0 []), (4, .ref 1 []), (55, .dat false (.arr 4 TRet)), (56, .dat true (.int .i64))], ob := [(0, .box TPage (.dat false TPage)), (1, .box TPage (.dat true TPage))], fix := [], may := true }
noncomputable def f29l1O : List (Ex × Shape) := [(.exit 0, { n := 84, nx := 2, sl := [(2, .ref 0 []), (4, .ref 1 [])], ob := [(0, .box TPage (.dat false TPage)), (1, .box TPage (.dat true TPage))], fix := [], may := true }), (.ret, { n := 84, nx := 1, sl := [(4, .ref 0 []), (5, .dat true (.int .i64))], ob := [(0, .box TPage (.dat true TPage))], fix := [], may := true })]
noncomputable def f29l1M : Sum := loopSum (Y := (Val (.arr 4 TRet)) × Int × (Val TPage) × (Val TPage)) (Z := ((Val TPage) × (Val TPage)) ⊕ (Int × (Val TPage))) f29l1S f29l1O (fun d => d) (fun d => d) (iter f29l1B)
noncomputable def f29H : Nat → Option Sum := fun n => bif Nat.beq n 7 then some f29l1M else none
theorem f29l1_bd (y : (Val (.arr 4 TRet)) × Int × (Val TPage) × (Val TPage)) : @Eq (Option (((Val (.arr 4 TRet)) × Int × (Val TPage) × (Val TPage)) ⊕ (((Val TPage) × (Val TPage)) ⊕ (Int × (Val TPage))))) (exec f29E f29H f29l1C (f29l1S.mk' (show f29l1S.D from y)) (kont (Y := (Val (.arr 4 TRet)) × Int × (Val TPage) × (Val TPage)) (Z := ((Val TPage) × (Val TPage)) ⊕ (Int × (Val TPage))) f29l1S f29l1O (fun d => d) (fun d => d))) (f29l1B y) := by kernel_rfl
theorem f29l1_ok {w0 : World} {Jo : Io} (hfix : ∀ i b, Jo.fix i = some b → i ∈ []) (hmay : true = true → Jo.may) : SumOk PT w0 Jo f29l1M (.loop f29l1C) :=
  @loop_ok w0 Jo PT f29E f29H ((Val (.arr 4 TRet)) × Int × (Val TPage) × (Val TPage)) (((Val TPage) × (Val TPage)) ⊕ (Int × (Val TPage))) f29_env mixed f29l1C f29l1S f29l1O (fun d => d) (fun d => d) (fun d => d) (fun d => d) (fun _ => rfl) (fun _ => rfl) hfix hmay (by kernel_rfl) (noLoops (by kernel_rfl)) f29l1B f29l1_bd
theorem f29_bd (y : (Val TPage) × (Val TNode)) : @Eq (Option ((Val TPage) × Int)) (exec f29E f29H f29C (f29I.mk' (show f29I.D from y)) (kontF (Z := (Val TPage) × Int) f29E Go.Proofs.Try.f29.results.toList f29O (fun d => d))) (f29F y) := by kernel_rfl
theorem f29_lo {w0 : World} {Jo : Io} (hfix : ∀ i b, Jo.fix i = some b → i ∈ []) (hmay : true = true → Jo.may) : LoopsOk PT w0 Jo f29H f29C := (loopsMk (by kernel_rfl) (loopsCons (c := f29l1C) (n := 7) (f := f29l1M) (by kernel_rfl) (by kernel_rfl) (f29l1_ok hfix hmay) loopsNil))
theorem f29_ctr : CtrOk PT 29 f29ct :=
  @ctr_ok PT f29E f29H f29_env mixed 29 Go.Proofs.Try.f29 f29C (by kernel_rfl) (by kernel_rfl) (enters_of (by kernel_rfl : PT.funcs[29]? = some Go.Proofs.Try.f29) (by kernel_rfl) (by kernel_rfl)) f29I f29O ((Val TPage) × (Val TNode)) ((Val TPage) × Int) (fun d => d) (fun d => d) (fun d => d) (fun d => d) (fun _ => rfl) (fun _ => rfl) (by kernel_rfl) (by kernel_rfl) f29F f29_bd (fun w0 Jo hfix hmay => f29_lo hfix hmay)

/-- bodega/segment.WriteHeader -/
noncomputable def f27 (a0 : Val TPage) (a1 : Val THead) : Option ((Val TPage) × Int) :=
  (f48 a0.1).bind fun r1 =>
  bif (!r1) then (
    some (((0 : Int), ((0 : Int), ((List.replicate 7 (0 : Int)), ()))), (1 : Int)))
  else (
    bif (decide (a1.1 < (-1 : Int))) then (
      some (((0 : Int), ((0 : Int), ((List.replicate 7 (0 : Int)), ()))), (1 : Int)))
    else (
      bif (decide ((6 : Int) ≤ a1.1)) then (
        some (((0 : Int), ((0 : Int), ((List.replicate 7 (0 : Int)), ()))), (1 : Int)))
      else (
        bif (!(decide ((IntKind.wrap .u32 ((BitVec.ofInt (IntKind.bits .u32) a1.2.1 &&& ~~~ BitVec.ofInt (IntKind.bits .u32) (65534 : Int)).toNat : Int)) = (0 : Int)))) then (
          some (((0 : Int), ((0 : Int), ((List.replicate 7 (0 : Int)), ()))), (1 : Int)))
        else (
          some ((a0.1, (a0.2.1, ([(IntKind.wrap .u64 (IntKind.wrap .i64 (a1.1 + (1 : Int)))), (IntKind.wrap .u64 a1.2.1), (0 : Int), (0 : Int), (0 : Int), (0 : Int), (0 : Int)], a0.2.2.2))), (0 : Int))))))
noncomputable def f27I : Shape := { n := 37, nx := 0, sl := [(0, .dat false TPage), (1, .dat false THead)], ob := [], fix := [], may := true }
noncomputable def f27O : Shape := { n := 38, nx := 0, sl := [(37, .tup (.cons (.dat false TPage) (.cons (.dat true (.int .i64)) (.nil))))], ob := [], fix := [], may := true }
noncomputable def f27F : ((Val TPage) × (Val THead)) → Option ((Val TPage) × Int) := fun y => f27 y.1 y.2
noncomputable def f27ct : Ctr := ctrOf f27I f27O (fun d => d) (fun d => d) f27F
noncomputable def f27E : Env := { tf := tfE, fn := fun f => bif Nat.beq f 48 then some f48ct else none }
theorem f27_env : EnvOk PT f27E := ⟨tyE, fun f ct h => by
  simp only [f27E] at h
  refine envCons (c := f48ct) h f48_ctr (fun h => ?_)
  cases h⟩
noncomputable def f27C : Code := bodyOf Go.Proofs.Try.f27
noncomputable def f27H : Nat → Option Sum := fun n => none
theorem f27_bd (y : (Val TPage) × (Val THead)) : @Eq (Option ((Val TPage) × Int)) (exec f27E f27H f27C (f27I.mk' (show f27I.D from y)) (kontF (Z := (Val TPage) × Int) f27E Go.Proofs.Try.f27.results.toList f27O (fun d => d))) (f27F y) := by kernel_rfl
theorem f27_lo {w0 : World} {Jo : Io} (hfix : ∀ i b, Jo.fix i = some b → i ∈ []) (hmay : true = true → Jo.may) : LoopsOk PT w0 Jo f27H f27C := (noLoops (by kernel_rfl))
theorem f27_ctr : CtrOk PT 27 f27ct :=
  @ctr_ok PT f27E f27H f27_env mixed 27 Go.Proofs.Try.f27 f27C (by kernel_rfl) (by kernel_rfl) (enters_of (by kernel_rfl : PT.funcs[27]? = some Go.Proofs.Try.f27) (by kernel_rfl) (by kernel_rfl)) f27I f27O ((Val TPage) × (Val THead)) ((Val TPage) × Int) (fun d => d) (fun d => d) (fun d => d) (fun d => d) (fun _ => rfl) (fun _ => rfl) (by kernel_rfl) (by kernel_rfl) f27F f27_bd (fun w0 Jo hfix hmay => f27_lo hfix hmay)

/-- cmp.Compare[int] -/
noncomputable def f87 (a0 : Int) (a1 : Int) : Option Int :=
  (f95 a0).bind fun r1 =>
  (f95 a1).bind fun r2 =>
  bif r1 then (
    bif r2 then (
      some (0 : Int))
    else (
      some (-1 : Int)))
  else (
    bif r2 then (
      some (1 : Int))
    else (
      bif (decide (a0 < a1)) then (
        some (-1 : Int))
      else (
        bif (decide (a1 < a0)) then (
          some (1 : Int))
        else (
          some (0 : Int)))))
noncomputable def f87I : Shape := { n := 20, nx := 0, sl := [(0, .dat false (.int .i64)), (1, .dat false (.int .i64))], ob := [], fix := [], may := true }
noncomputable def f87O : Shape := { n := 21, nx := 0, sl := [(20, .dat true (.int .i64))], ob := [], fix := [], may := true }
noncomputable def f87F : (Int × Int) → Option Int := fun y => f87 y.1 y.2
noncomputable def f87ct : Ctr := ctrOf f87I f87O (fun d => d) (fun d => d) f87F
noncomputable def f87E : Env := { tf := tfE, fn := fun f => bif Nat.beq f 95 then some f95ct else none }
theorem f87_env : EnvOk PT f87E := ⟨tyE, fun f ct h => by
  simp only [f87E] at h
  refine envCons (c := f95ct) h f95_ctr (fun h => ?_)
  cases h⟩
noncomputable def f87C : Code := bodyOf Go.Proofs.Try.f87
noncomputable def f87H : Nat → Option Sum := fun n => none
theorem f87_bd (y : Int × Int) : @Eq (Option Int) (exec f87E f87H f87C (f87I.mk' (show f87I.D from y)) (kontF (Z := Int) f87E Go.Proofs.Try.f87.results.toList f87O (fun d => d))) (f87F y) := by kernel_rfl
theorem f87_lo {w0 : World} {Jo : Io} (hfix : ∀ i b, Jo.fix i = some b → i ∈ []) (hmay : true = true → Jo.may) : LoopsOk PT w0 Jo f87H f87C := (noLoops (by kernel_rfl))
theorem f87_ctr : CtrOk PT 87 f87ct :=
  @ctr_ok PT f87E f87H f87_env mixed 87 Go.Proofs.Try.f87 f87C (by kernel_rfl) (by kernel_rfl) (enters_of (by kernel_rfl : PT.funcs[87]? = some Go.Proofs.Try.f87) (by kernel_rfl) (by kernel_rfl)) f87I f87O (Int × Int) Int (fun d => d) (fun d => d) (fun d => d) (fun d => d) (fun _ => rfl) (fun _ => rfl) (by kernel_rfl) (by kernel_rfl) f87F f87_bd (fun w0 Jo hfix hmay => f87_lo hfix hmay)

/-- bodega/segment.ascending$1 -/
noncomputable def f86 (a0 : Val TPage) (a1 : Val TPage) : Option Int :=
  (f87 a0.1 a1.1).bind fun r1 =>
  some r1
noncomputable def f86I : Shape := { n := 10, nx := 0, sl := [(0, .dat false TPage), (1, .dat false TPage)], ob := [], fix := [], may := true }
noncomputable def f86O : Shape := { n := 11, nx := 0, sl := [(10, .dat true (.int .i64))], ob := [], fix := [], may := true }
noncomputable def f86F : ((Val TPage) × (Val TPage)) → Option Int := fun y => f86 y.1 y.2
noncomputable def f86ct : Ctr := ctrOf f86I f86O (fun d => d) (fun d => d) f86F
noncomputable def f86E : Env := { tf := tfE, fn := fun f => bif Nat.beq f 87 then some f87ct else none }
theorem f86_env : EnvOk PT f86E := ⟨tyE, fun f ct h => by
  simp only [f86E] at h
  refine envCons (c := f87ct) h f87_ctr (fun h => ?_)
  cases h⟩
noncomputable def f86C : Code := bodyOf Go.Proofs.Try.f86
noncomputable def f86H : Nat → Option Sum := fun n => none
theorem f86_bd (y : (Val TPage) × (Val TPage)) : @Eq (Option Int) (exec f86E f86H f86C (f86I.mk' (show f86I.D from y)) (kontF (Z := Int) f86E Go.Proofs.Try.f86.results.toList f86O (fun d => d))) (f86F y) := by kernel_rfl
theorem f86_lo {w0 : World} {Jo : Io} (hfix : ∀ i b, Jo.fix i = some b → i ∈ []) (hmay : true = true → Jo.may) : LoopsOk PT w0 Jo f86H f86C := (noLoops (by kernel_rfl))
theorem f86_ctr : CtrOk PT 86 f86ct :=
  @ctr_ok PT f86E f86H f86_env mixed 86 Go.Proofs.Try.f86 f86C (by kernel_rfl) (by kernel_rfl) (enters_of (by kernel_rfl : PT.funcs[86]? = some Go.Proofs.Try.f86) (by kernel_rfl) (by kernel_rfl)) f86I f86O ((Val TPage) × (Val TPage)) Int (fun d => d) (fun d => d) (fun d => d) (fun d => d) (fun _ => rfl) (fun _ => rfl) (by kernel_rfl) (by kernel_rfl) f86F f86_bd (fun w0 Jo hfix hmay => f86_lo hfix hmay)

noncomputable def f98l1b (x0 : Int) (x1 : Int) (x2 : Int) (x3 : Int) (x4 : Val (.slice TPage)) : Option ((Int × Int × Int × Int × (Val (.slice TPage))) ⊕ (Int × Int × Int × (Val (.slice TPage)))) :=
  bif (decide (x0 < x3)) then (
    bif (inR x3 (List.length x4)) then
    bif (inR (IntKind.wrap .i64 (x3 - (1 : Int))) (List.length x4)) then
    (f86 (List.getD x4 (Int.toNat x3) ((0 : Int), ((0 : Int), ((List.replicate 7 (0 : Int)), ())))) (List.getD x4 (Int.toNat (IntKind.wrap .i64 (x3 - (1 : Int)))) ((0 : Int), ((0 : Int), ((List.replicate 7 (0 : Int)), ()))))).bind fun r1 =>
    bif (decide (r1 < (0 : Int))) then (
      bif (inR (IntKind.wrap .i64 (x3 - (1 : Int))) (List.length x4)) then
      bif (inR x3 (List.length x4)) then
      bif (inR x3 (List.length x4)) then
      none
      else none
      else none
      else none)
    else (
      some (Sum.inr (x0, (x1, (x2, x4)))))
    else none
    else none)
  else (
    some (Sum.inr (x0, (x1, (x2, x4)))))
noncomputable def f98l1B : (Int × Int × Int × Int × (Val (.slice TPage))) → Option ((Int × Int × Int × Int × (Val (.slice TPage))) ⊕ (Int × Int × Int × (Val (.slice TPage)))) := fun y => f98l1b y.1 y.2.1 y.2.2.1 y.2.2.2.1 y.2.2.2.2
noncomputable def f98l1 (x0 : Int) (x1 : Int) (x2 : Int) (x3 : Int) (x4 : Val (.slice TPage)) : Option (Int × Int × Int × (Val (.slice TPage))) := iter f98l1B (x0, (x1, (x2, (x3, x4))))
noncomputable def f98l2b (x0 : Int) (x1 : Int) (x2 : Int) (x3 : Val (.slice TPage)) : Option ((Int × Int × Int × (Val (.slice TPage))) ⊕ ((Val (.slice TPage)))) :=
  bif (decide (x2 < x1)) then (
    (f98l1 x0 x1 x2 x2 x3).bind fun r1 =>
    some (Sum.inl (r1.1, (r1.2.1, ((IntKind.wrap .i64 (r1.2.2.1 + (1 : Int))), r1.2.2.2)))))
  else (
    some (Sum.inr x3))
noncomputable def f98l2B : (Int × Int × Int × (Val (.slice TPage))) → Option ((Int × Int × Int × (Val (.slice TPage))) ⊕ ((Val (.slice TPage)))) := fun y => f98l2b y.1 y.2.1 y.2.2.1 y.2.2.2
noncomputable def f98l2 (x0 : Int) (x1 : Int) (x2 : Int) (x3 : Val (.slice TPage)) : Option ((Val (.slice TPage))) := iter f98l2B (x0, (x1, (x2, x3)))
/-- slices.insertionSortCmpFunc[bodega/api.Page] -/
noncomputable def f98 (a0 : Int) (a1 : Int) (a2 : Val (.slice TPage)) : Option ((Val (.slice TPage))) :=
  (f98l2 a0 a1 (IntKind.wrap .i64 (a0 + (1 : Int))) a2).bind fun r1 =>
  some r1
noncomputable def f98I : Shape := { n := 53, nx := 1, sl := [(0, .own TPage 0), (1, .dat false (.int .i64)), (2, .dat false (.int .i64)), (3, .fn 86 (.nil))], ob := [(0, .slc false TPage)], fix := [0], may := false }
noncomputable def f98O : Shape := { n := 54, nx := 1, sl := [(53, .tup (.nil))], ob := [(0, .slc false TPage)], fix := [0], may := false }
noncomputable def f98F : (Int × Int × (Val (.slice TPage))) → Option ((Val (.slice TPage))) := fun y => f98 y.1 y.2.1 y.2.2
noncomputable def f98ct : Ctr := ctrOf f98I f98O (fun d => d) (fun d => d) f98F
noncomputable def f98E : Env := { tf := tfE, fn := fun f => bif Nat.beq f 86 then some f86ct else none }
theorem f98_env : EnvOk PT f98E := ⟨tyE, fun f ct h => by
  simp only [f98E] at h
  refine envCons (c := f86ct) h f86_ctr (fun h => ?_)
  cases h⟩
noncomputable def f98C : Code := bodyOf Go.Proofs.Try.f98
noncomputable def f98l2C : Code := (loopsOf f98C).getD 0 .skip
noncomputable def f98l1C : Code := (loopsOf f98C).getD 1 .skip
noncomputable def f98l1S : Shape := { n := 53, nx := 1, sl := [(0, .own TPage 0), (1, .dat false (.int .i64)), (2, .dat false (.int .i64)), (3, .fn 86 (.nil)), (8, .dat true (.int .i64)), (9, .dat true (.int .i64))], ob := [(0, .slc false TPage)], fix := [0], may := false }
noncomputable def f98l1O : List (Ex × Shape) := [(.exit 2, { n := 53, nx := 1, sl := [(0, .own TPage 0), (1, .dat false (.int .i64)), (2, .dat false (.int .i64)), (3, .fn 86 (.nil)), (8, .dat true (.int .i64))], ob := [(0, .slc false TPage)], fix := [0], may := false })]
noncomputable def f98l1M : Sum := loopSum (Y := Int × Int × Int × Int × (Val (.slice TPage))) (Z := Int × Int × Int × (Val (.slice TPage))) f98l1S f98l1O (fun d => d) (fun d => d) (iter f98l1B)
noncomputable def f98l2S : Shape := { n := 53, nx := 1, sl := [(0, .own TPage 0), (1, .dat false (.int .i64)), (2, .dat false (.int .i64)), (3, .fn 86 (.nil)), (8, .dat true (.int .i64))], ob := [(0, .slc false TPage)], fix := [0], may := false }
noncomputable def f98l2O : List (Ex × Shape) := [(.exit 0, { n := 53, nx := 1, sl := [], ob := [(0, .slc false TPage)], fix := [0], may := false })]
noncomputable def f98l2M : Sum := loopSum (Y := Int × Int × Int × (Val (.slice TPage))) (Z := (Val (.slice TPage))) f98l2S f98l2O (fun d => d) (fun d => d) (iter f98l2B)
noncomputable def f98H : Nat → Option Sum := fun n => bif Nat.beq n 4 then some f98l1M else bif Nat.beq n 1 then some f98l2M else none
theorem f98l1_bd (y : Int × Int × Int × Int × (Val (.slice TPage))) : @Eq (Option ((Int × Int × Int × Int × (Val (.slice TPage))) ⊕ (Int × Int × Int × (Val (.slice TPage))))) (exec f98E f98H f98l1C (f98l1S.mk' (show f98l1S.D from y)) (kont (Y := Int × Int × Int × Int × (Val (.slice TPage))) (Z := Int × Int × Int × (Val (.slice TPage))) f98l1S f98l1O (fun d => d) (fun d => d))) (f98l1B y) := by kernel_rfl
theorem f98l1_ok {w0 : World} {Jo : Io} (hfix : ∀ i b, Jo.fix i = some b → i ∈ [0]) (hmay : false = true → Jo.may) : SumOk PT w0 Jo f98l1M (.loop f98l1C) :=
  @loop_ok w0 Jo PT f98E f98H (Int × Int × Int × Int × (Val (.slice TPage))) (Int × Int × Int × (Val (.slice TPage))) f98_env mixed f98l1C f98l1S f98l1O (fun d => d) (fun d => d) (fun d => d) (fun d => d) (fun _ => rfl) (fun _ => rfl) hfix hmay (by kernel_rfl) (noLoops (by kernel_rfl)) f98l1B f98l1_bd
theorem f98l2_bd (y : Int × Int × Int × (Val (.slice TPage))) : @Eq (Option ((Int × Int × Int × (Val (.slice TPage))) ⊕ ((Val (.slice TPage))))) (exec f98E f98H f98l2C (f98l2S.mk' (show f98l2S.D from y)) (kont (Y := Int × Int × Int × (Val (.slice TPage))) (Z := (Val (.slice TPage))) f98l2S f98l2O (fun d => d) (fun d => d))) (f98l2B y) := by kernel_rfl
theorem f98l2_ok {w0 : World} {Jo : Io} (hfix : ∀ i b, Jo.fix i = some b → i ∈ [0]) (hmay : false = true → Jo.may) : SumOk PT w0 Jo f98l2M (.loop f98l2C) :=
  @loop_ok w0 Jo PT f98E f98H (Int × Int × Int × (Val (.slice TPage))) ((Val (.slice TPage))) f98_env mixed f98l2C f98l2S f98l2O (fun d => d) (fun d => d) (fun d => d) (fun d => d) (fun _ => rfl) (fun _ => rfl) hfix hmay (by kernel_rfl) (loopsMk (by kernel_rfl) (loopsCons (c := f98l1C) (n := 4) (f := f98l1M) (by kernel_rfl) (by kernel_rfl) (f98l1_ok hfix hmay) loopsNil)) f98l2B f98l2_bd
theorem f98_bd (y : Int × Int × (Val (.slice TPage))) : @Eq (Option ((Val (.slice TPage)))) (exec f98E f98H f98C (f98I.mk' (show f98I.D from y)) (kontF (Z := (Val (.slice TPage))) f98E Go.Proofs.Try.f98.results.toList f98O (fun d => d))) (f98F y) := by kernel_rfl
theorem f98_lo {w0 : World} {Jo : Io} (hfix : ∀ i b, Jo.fix i = some b → i ∈ [0]) (hmay : false = true → Jo.may) : LoopsOk PT w0 Jo f98H f98C := (loopsMk (by kernel_rfl) (loopsCons (c := f98l2C) (n := 1) (f := f98l2M) (by kernel_rfl) (by kernel_rfl) (f98l2_ok hfix hmay) (loopsCons (c := f98l1C) (n := 4) (f := f98l1M) (by kernel_rfl) (by kernel_rfl) (f98l1_ok hfix hmay) loopsNil)))
theorem f98_ctr : CtrOk PT 98 f98ct :=
  @ctr_ok PT f98E f98H f98_env mixed 98 Go.Proofs.Try.f98 f98C (by kernel_rfl) (by kernel_rfl) (enters_of (by kernel_rfl : PT.funcs[98]? = some Go.Proofs.Try.f98) (by kernel_rfl) (by kernel_rfl)) f98I f98O (Int × Int × (Val (.slice TPage))) ((Val (.slice TPage))) (fun d => d) (fun d => d) (fun d => d) (fun d => d) (fun _ => rfl) (fun _ => rfl) (by kernel_rfl) (by kernel_rfl) f98F f98_bd (fun w0 Jo hfix hmay => f98_lo hfix hmay)

noncomputable def f94l1b (x0 : Int) (x1 : Int) (x2 : Int) (x3 : Int) (x4 : Val (.slice TPage)) : Option ((Int × Int × Int × Int × (Val (.slice TPage))) ⊕ (Int × Int × Int × (Val (.slice TPage)))) :=
  bif (decide (x3 ≤ x0)) then (
    (f98 x2 x3 x4).bind fun r1 =>
    some (Sum.inl (x0, (x1, (x3, ((IntKind.wrap .i64 (x3 + x1)), r1))))))
  else (
    some (Sum.inr (x0, (x1, (x2, x4)))))
noncomputable def f94l1B : (Int × Int × Int × Int × (Val (.slice TPage))) → Option ((Int × Int × Int × Int × (Val (.slice TPage))) ⊕ (Int × Int × Int × (Val (.slice TPage)))) := fun y => f94l1b y.1 y.2.1 y.2.2.1 y.2.2.2.1 y.2.2.2.2
noncomputable def f94l1 (x0 : Int) (x1 : Int) (x2 : Int) (x3 : Int) (x4 : Val (.slice TPage)) : Option (Int × Int × Int × (Val (.slice TPage))) := iter f94l1B (x0, (x1, (x2, (x3, x4))))
noncomputable def f94l2b (x0 : Int) (x1 : Int) (x2 : Int) (x3 : Int) (x4 : Val (.slice TPage)) : Option ((Int × Int × Int × Int × (Val (.slice TPage))) ⊕ (Int × Int × Int × (Val (.slice TPage)))) :=
  bif (decide (x3 ≤ x0)) then (
    none)
  else (
    some (Sum.inr (x0, (x1, (x2, x4)))))
noncomputable def f94l2B : (Int × Int × Int × Int × (Val (.slice TPage))) → Option ((Int × Int × Int × Int × (Val (.slice TPage))) ⊕ (Int × Int × Int × (Val (.slice TPage)))) := fun y => f94l2b y.1 y.2.1 y.2.2.1 y.2.2.2.1 y.2.2.2.2
noncomputable def f94l2 (x0 : Int) (x1 : Int) (x2 : Int) (x3 : Int) (x4 : Val (.slice TPage)) : Option (Int × Int × Int × (Val (.slice TPage))) := iter f94l2B (x0, (x1, (x2, (x3, x4))))
noncomputable def f94l3b (x0 : Int) (x1 : Int) (x2 : Val (.slice TPage)) : Option ((Int × Int × (Val (.slice TPage))) ⊕ ((Val (.slice TPage)))) :=
  bif (decide (x1 < x0)) then (
    (f94l2 x0 x1 (0 : Int) (IntKind.wrap .i64 ((2 : Int) * x1)) x2).bind fun r1 =>
    bif (decide ((IntKind.wrap .i64 (r1.2.2.1 + r1.2.1)) < r1.1)) then (
      none)
    else (
      some (Sum.inl (r1.1, ((IntKind.wrap .i64 (r1.2.1 * (2 : Int))), r1.2.2.2)))))
  else (
    some (Sum.inr x2))
noncomputable def f94l3B : (Int × Int × (Val (.slice TPage))) → Option ((Int × Int × (Val (.slice TPage))) ⊕ ((Val (.slice TPage)))) := fun y => f94l3b y.1 y.2.1 y.2.2
noncomputable def f94l3 (x0 : Int) (x1 : Int) (x2 : Val (.slice TPage)) : Option ((Val (.slice TPage))) := iter f94l3B (x0, (x1, x2))
/-- slices.stableCmpFunc[bodega/api.Page] -/
noncomputable def f94 (a0 : Int) (a1 : Val (.slice TPage)) : Option ((Val (.slice TPage))) :=
  (f94l1 a0 (20 : Int) (0 : Int) (20 : Int) a1).bind fun r1 =>
  (f98 r1.2.2.1 r1.1 r1.2.2.2).bind fun r2 =>
  (f94l3 r1.1 r1.2.1 r2).bind fun r3 =>
  some r3
noncomputable def f94I : Shape := { n := 63, nx := 1, sl := [(0, .own TPage 0), (1, .dat false (.int .i64)), (2, .fn 86 (.nil))], ob := [(0, .slc false TPage)], fix := [0], may := false }
noncomputable def f94O : Shape := { n := 64, nx := 1, sl := [(63, .tup (.nil))], ob := [(0, .slc false TPage)], fix := [0], may := false }
noncomputable def f94F : (Int × (Val (.slice TPage))) → Option ((Val (.slice TPage))) := fun y => f94 y.1 y.2
noncomputable def f94ct : Ctr := ctrOf f94I f94O (fun d => d) (fun d => d) f94F
noncomputable def f94E : Env := { tf := tfE, fn := fun f => bif Nat.beq f 98 then some f98ct else none }
theorem f94_env : EnvOk PT f94E := ⟨tyE, fun f ct h => by
  simp only [f94E] at h
  refine envCons (c := f98ct) h f98_ctr (fun h => ?_)
  cases h⟩
noncomputable def f94C : Code := bodyOf Go.Proofs.Try.f94
noncomputable def f94l1C : Code := (loopsOf f94C).getD 0 .skip
noncomputable def f94l3C : Code := (loopsOf f94C).getD 1 .skip
noncomputable def f94l2C : Code := (loopsOf f94C).getD 2 .skip
noncomputable def f94l1S : Shape := { n := 63, nx := 1, sl := [(0, .own TPage 0), (1, .dat false (.int .i64)), (2, .fn 86 (.nil)), (6, .dat true (.int .i64)), (7, .dat true (.int .i64)), (8, .dat true (.int .i64))], ob := [(0, .slc false TPage)], fix := [0], may := false }
noncomputable def f94l1O : List (Ex × Shape) := [(.exit 0, { n := 63, nx := 1, sl := [(0, .own TPage 0), (1, .dat false (.int .i64)), (2, .fn 86 (.nil)), (6, .dat true (.int .i64)), (7, .dat true (.int .i64))], ob := [(0, .slc false TPage)], fix := [0], may := false })]
noncomputable def f94l1M : Sum := loopSum (Y := Int × Int × Int × Int × (Val (.slice TPage))) (Z := Int × Int × Int × (Val (.slice TPage))) f94l1S f94l1O (fun d => d) (fun d => d) (iter f94l1B)
noncomputable def f94l2S : Shape := { n := 63, nx := 1, sl := [(0, .own TPage 0), (1, .dat false (.int .i64)), (2, .fn 86 (.nil)), (6, .dat true (.int .i64)), (7, .dat true (.int .i64)), (8, .dat true (.int .i64))], ob := [(0, .slc false TPage)], fix := [0], may := false }
noncomputable def f94l2O : List (Ex × Shape) := [(.exit 4, { n := 63, nx := 1, sl := [(0, .own TPage 0), (1, .dat false (.int .i64)), (2, .fn 86 (.nil)), (6, .dat true (.int .i64)), (7, .dat true (.int .i64))], ob := [(0, .slc false TPage)], fix := [0], may := false })]
noncomputable def f94l2M : Sum := loopSum (Y := Int × Int × Int × Int × (Val (.slice TPage))) (Z := Int × Int × Int × (Val (.slice TPage))) f94l2S f94l2O (fun d => d) (fun d => d) (iter f94l2B)
noncomputable def f94l3S : Shape := { n := 63, nx := 1, sl := [(0, .own TPage 0), (1, .dat false (.int .i64)), (2, .fn 86 (.nil)), (6, .dat true (.int .i64))], ob := [(0, .slc false TPage)], fix := [0], may := false }
noncomputable def f94l3O : List (Ex × Shape) := [(.exit 2, { n := 63, nx := 1, sl := [], ob := [(0, .slc false TPage)], fix := [0], may := false })]
noncomputable def f94l3M : Sum := loopSum (Y := Int × Int × (Val (.slice TPage))) (Z := (Val (.slice TPage))) f94l3S f94l3O (fun d => d) (fun d => d) (iter f94l3B)
noncomputable def f94H : Nat → Option Sum := fun n => bif Nat.beq n 2 then some f94l1M else bif Nat.beq n 9 then some f94l2M else bif Nat.beq n 7 then some f94l3M else none
theorem f94l1_bd (y : Int × Int × Int × Int × (Val (.slice TPage))) : @Eq (Option ((Int × Int × Int × Int × (Val (.slice TPage))) ⊕ (Int × Int × Int × (Val (.slice TPage))))) (exec f94E f94H f94l1C (f94l1S.mk' (show f94l1S.D from y)) (kont (Y := Int × Int × Int × Int × (Val (.slice TPage))) (Z := Int × Int × Int × (Val (.slice TPage))) f94l1S f94l1O (fun d => d) (fun d => d))) (f94l1B y) := by kernel_rfl
theorem f94l1_ok {w0 : World} {Jo : Io} (hfix : ∀ i b, Jo.fix i = some b → i ∈ [0]) (hmay : false = true → Jo.may) : SumOk PT w0 Jo f94l1M (.loop f94l1C) :=
  @loop_ok w0 Jo PT f94E f94H (Int × Int × Int × Int × (Val (.slice TPage))) (Int × Int × Int × (Val (.slice TPage))) f94_env mixed f94l1C f94l1S f94l1O (fun d => d) (fun d => d) (fun d => d) (fun d => d) (fun _ => rfl) (fun _ => rfl) hfix hmay (by kernel_rfl) (noLoops (by kernel_rfl)) f94l1B f94l1_bd
theorem f94l2_bd (y : Int × Int × Int × Int × (Val (.slice TPage))) : @Eq (Option ((Int × Int × Int × Int × (Val (.slice TPage))) ⊕ (Int × Int × Int × (Val (.slice TPage))))) (exec f94E f94H f94l2C (f94l2S.mk' (show f94l2S.D from y)) (kont (Y := Int × Int × Int × Int × (Val (.slice TPage))) (Z := Int × Int × Int × (Val (.slice TPage))) f94l2S f94l2O (fun d => d) (fun d => d))) (f94l2B y) := by kernel_rfl
theorem f94l2_ok {w0 : World} {Jo : Io} (hfix : ∀ i b, Jo.fix i = some b → i ∈ [0]) (hmay : false = true → Jo.may) : SumOk PT w0 Jo f94l2M (.loop f94l2C) :=
  @loop_ok w0 Jo PT f94E f94H (Int × Int × Int × Int × (Val (.slice TPage))) (Int × Int × Int × (Val (.slice TPage))) f94_env mixed f94l2C f94l2S f94l2O (fun d => d) (fun d => d) (fun d => d) (fun d => d) (fun _ => rfl) (fun _ => rfl) hfix hmay (by kernel_rfl) (noLoops (by kernel_rfl)) f94l2B f94l2_bd
theorem f94l3_bd (y : Int × Int × (Val (.slice TPage))) : @Eq (Option ((Int × Int × (Val (.slice TPage))) ⊕ ((Val (.slice TPage))))) (exec f94E f94H f94l3C (f94l3S.mk' (show f94l3S.D from y)) (kont (Y := Int × Int × (Val (.slice TPage))) (Z := (Val (.slice TPage))) f94l3S f94l3O (fun d => d) (fun d => d))) (f94l3B y) := by kernel_rfl
theorem f94l3_ok {w0 : World} {Jo : Io} (hfix : ∀ i b, Jo.fix i = some b → i ∈ [0]) (hmay : false = true → Jo.may) : SumOk PT w0 Jo f94l3M (.loop f94l3C) :=
  @loop_ok w0 Jo PT f94E f94H (Int × Int × (Val (.slice TPage))) ((Val (.slice TPage))) f94_env mixed f94l3C f94l3S f94l3O (fun d => d) (fun d => d) (fun d => d) (fun d => d) (fun _ => rfl) (fun _ => rfl) hfix hmay (by kernel_rfl) (loopsMk (by kernel_rfl) (loopsCons (c := f94l2C) (n := 9) (f := f94l2M) (by kernel_rfl) (by kernel_rfl) (f94l2_ok hfix hmay) loopsNil)) f94l3B f94l3_bd
theorem f94_bd (y : Int × (Val (.slice TPage))) : @Eq (Option ((Val (.slice TPage)))) (exec f94E f94H f94C (f94I.mk' (show f94I.D from y)) (kontF (Z := (Val (.slice TPage))) f94E Go.Proofs.Try.f94.results.toList f94O (fun d => d))) (f94F y) := by kernel_rfl
theorem f94_lo {w0 : World} {Jo : Io} (hfix : ∀ i b, Jo.fix i = some b → i ∈ [0]) (hmay : false = true → Jo.may) : LoopsOk PT w0 Jo f94H f94C := (loopsMk (by kernel_rfl) (loopsCons (c := f94l1C) (n := 2) (f := f94l1M) (by kernel_rfl) (by kernel_rfl) (f94l1_ok hfix hmay) (loopsCons (c := f94l3C) (n := 7) (f := f94l3M) (by kernel_rfl) (by kernel_rfl) (f94l3_ok hfix hmay) (loopsCons (c := f94l2C) (n := 9) (f := f94l2M) (by kernel_rfl) (by kernel_rfl) (f94l2_ok hfix hmay) loopsNil))))
theorem f94_ctr : CtrOk PT 94 f94ct :=
  @ctr_ok PT f94E f94H f94_env mixed 94 Go.Proofs.Try.f94 f94C (by kernel_rfl) (by kernel_rfl) (enters_of (by kernel_rfl : PT.funcs[94]? = some Go.Proofs.Try.f94) (by kernel_rfl) (by kernel_rfl)) f94I f94O (Int × (Val (.slice TPage))) ((Val (.slice TPage))) (fun d => d) (fun d => d) (fun d => d) (fun d => d) (fun _ => rfl) (fun _ => rfl) (by kernel_rfl) (by kernel_rfl) f94F f94_bd (fun w0 Jo hfix hmay => f94_lo hfix hmay)

/-- slices.SortStableFunc[[]bodega/api.Page,bodega/api.Page] -/
noncomputable def f85 (a0 : Val (.slice TPage)) : Option ((Val (.slice TPage))) :=
  (f94 (((List.length a0) : Nat) : Int) a0).bind fun r1 =>
  some r1
noncomputable def f85I : Shape := { n := 9, nx := 1, sl := [(0, .own TPage 0), (1, .fn 86 (.nil))], ob := [(0, .slc false TPage)], fix := [0], may := false }
noncomputable def f85O : Shape := { n := 10, nx := 1, sl := [(9, .tup (.nil))], ob := [(0, .slc false TPage)], fix := [0], may := false }
noncomputable def f85F : ((Val (.slice TPage))) → Option ((Val (.slice TPage))) := fun y => f85 y
noncomputable def f85ct : Ctr := ctrOf f85I f85O (fun d => d) (fun d => d) f85F
noncomputable def f85E : Env := { tf := tfE, fn := fun f => bif Nat.beq f 94 then some f94ct else none }
theorem f85_env : EnvOk PT f85E := ⟨tyE, fun f ct h => by
  simp only [f85E] at h
  refine envCons (c := f94ct) h f94_ctr (fun h => ?_)
  cases h⟩
noncomputable def f85C : Code := bodyOf Go.Proofs.Try.f85
noncomputable def f85H : Nat → Option Sum := fun n => none
theorem f85_bd (y : (Val (.slice TPage))) : @Eq (Option ((Val (.slice TPage)))) (exec f85E f85H f85C (f85I.mk' (show f85I.D from y)) (kontF (Z := (Val (.slice TPage))) f85E Go.Proofs.Try.f85.results.toList f85O (fun d => d))) (f85F y) := by kernel_rfl
theorem f85_lo {w0 : World} {Jo : Io} (hfix : ∀ i b, Jo.fix i = some b → i ∈ [0]) (hmay : false = true → Jo.may) : LoopsOk PT w0 Jo f85H f85C := (noLoops (by kernel_rfl))
theorem f85_ctr : CtrOk PT 85 f85ct :=
  @ctr_ok PT f85E f85H f85_env mixed 85 Go.Proofs.Try.f85 f85C (by kernel_rfl) (by kernel_rfl) (enters_of (by kernel_rfl : PT.funcs[85]? = some Go.Proofs.Try.f85) (by kernel_rfl) (by kernel_rfl)) f85I f85O ((Val (.slice TPage))) ((Val (.slice TPage))) (fun d => d) (fun d => d) (fun d => d) (fun d => d) (fun _ => rfl) (fun _ => rfl) (by kernel_rfl) (by kernel_rfl) f85F f85_bd (fun w0 Jo hfix hmay => f85_lo hfix hmay)

/-- bodega/segment.ascending -/
noncomputable def f62 (a0 : Val (.slice TPage)) : Option ((Val (.slice TPage))) :=
  (f85 a0).bind fun r1 =>
  some r1
noncomputable def f62I : Shape := { n := 6, nx := 1, sl := [(0, .own TPage 0)], ob := [(0, .slc false TPage)], fix := [0], may := false }
noncomputable def f62O : Shape := { n := 7, nx := 1, sl := [(6, .own TPage 0)], ob := [(0, .slc false TPage)], fix := [0], may := false }
noncomputable def f62F : ((Val (.slice TPage))) → Option ((Val (.slice TPage))) := fun y => f62 y
noncomputable def f62ct : Ctr := ctrOf f62I f62O (fun d => d) (fun d => d) f62F
noncomputable def f62E : Env := { tf := tfE, fn := fun f => bif Nat.beq f 85 then some f85ct else none }
theorem f62_env : EnvOk PT f62E := ⟨tyE, fun f ct h => by
  simp only [f62E] at h
  refine envCons (c := f85ct) h f85_ctr (fun h => ?_)
  cases h⟩
noncomputable def f62C : Code := bodyOf Go.Proofs.Try.f62
noncomputable def f62H : Nat → Option Sum := fun n => none
theorem f62_bd (y : (Val (.slice TPage))) : @Eq (Option ((Val (.slice TPage)))) (exec f62E f62H f62C (f62I.mk' (show f62I.D from y)) (kontF (Z := (Val (.slice TPage))) f62E Go.Proofs.Try.f62.results.toList f62O (fun d => d))) (f62F y) := by kernel_rfl
theorem f62_lo {w0 : World} {Jo : Io} (hfix : ∀ i b, Jo.fix i = some b → i ∈ [0]) (hmay : false = true → Jo.may) : LoopsOk PT w0 Jo f62H f62C := (noLoops (by kernel_rfl))
theorem f62_ctr : CtrOk PT 62 f62ct :=
  @ctr_ok PT f62E f62H f62_env mixed 62 Go.Proofs.Try.f62 f62C (by kernel_rfl) (by kernel_rfl) (enters_of (by kernel_rfl : PT.funcs[62]? = some Go.Proofs.Try.f62) (by kernel_rfl) (by kernel_rfl)) f62I f62O ((Val (.slice TPage))) ((Val (.slice TPage))) (fun d => d) (fun d => d) (fun d => d) (fun d => d) (fun _ => rfl) (fun _ => rfl) (by kernel_rfl) (by kernel_rfl) f62F f62_bd (fun w0 Jo hfix hmay => f62_lo hfix hmay)

/-- bodega/segment.Acquire -/
noncomputable def f42 (a0 : Val TClaim) (a1 : Val (.slice TPage)) : Option ((Val (.slice (.int .i64))) × (Val (.slice TPage)) × Int × Int × Bool) :=
  (f63 a0.1).bind fun r1 =>
  bif (!r1) then (
    some ([], ([], ((0 : Int), ((1 : Int), true)))))
  else (
    bif (decide (a0.2.1 < (1 : Int))) then (
      some ([], ([], ((0 : Int), ((1 : Int), true)))))
    else (
      bif (decide ((59 : Int) < a0.2.1)) then (
        some ([], ([], ((0 : Int), ((1 : Int), true)))))
      else (
        (f60 a0.2.2.1).bind fun r2 =>
        bif (!r2) then (
          some ([], ([], ((0 : Int), ((1 : Int), true)))))
        else (
          bif (decide (a0.2.2.2.1 < (-1 : Int))) then (
            some ([], ([], ((0 : Int), ((1 : Int), true)))))
          else (
            bif (decide ((6 : Int) ≤ a0.2.2.2.1)) then (
              some ([], ([], ((0 : Int), ((1 : Int), true)))))
            else (
              bif (decide (a0.2.2.2.1 = a0.1)) then (
                some ([], ([], ((0 : Int), ((1 : Int), true)))))
              else (
                bif (!(decide (a0.2.2.2.1 = (-1 : Int)))) then (
                  (f64 a1 ([(IntKind.wrap .i64 ((98 : Int) + a0.1))] ++ [(IntKind.wrap .i64 ((98 : Int) + a0.2.2.2.1))])).bind fun r3 =>
                  bif (decide ((0 : Int) < (((List.length r3) : Nat) : Int))) then (
                    some (r3, ([], ((0 : Int), ((0 : Int), false)))))
                  else (
                    (f65 a1 a0.1).bind fun r4 =>
                    bif (!(decide (r4.2.2.2 = (0 : Int)))) then (
                      some ([], ([], ((0 : Int), (r4.2.2.2, true)))))
                    else (
                      bif (!(decide (a0.2.2.2.1 = (-1 : Int)))) then (
                        (f65 a1 a0.2.2.2.1).bind fun r5 =>
                        bif (!(decide (r5.2.2.2 = (0 : Int)))) then (
                          some ([], ([], ((0 : Int), (r5.2.2.2, true)))))
                        else (
                          (f34 a0.2.2.1).bind fun r6 =>
                          bif (decide (a0.2.2.2.1 = (-1 : Int))) then (
                            (f67 (511 : Int) r6).bind fun r7 =>
                            (f66 r7).bind fun r8 =>
                            (f64 a1 r8).bind fun r9 =>
                            bif (decide ((0 : Int) < (((List.length r9) : Nat) : Int))) then (
                              some (r9, ([], ((0 : Int), ((0 : Int), false)))))
                            else (
                              (f68 a1 a0.1 r6).bind fun r10 =>
                              bif (!r10.2) then (
                                some ([], ([], ((0 : Int), ((12 : Int), true)))))
                              else (
                                (f69 a1 r10.1).bind fun r11 =>
                                bif (!r11.2.2.1) then (
                                  (f36 r10.1).bind fun r12 =>
                                  some ([r12], ([], ((0 : Int), ((0 : Int), false)))))
                                else (
                                  bif (!(decide (r11.2.2.2 = (0 : Int)))) then (
                                    some ([], ([], ((0 : Int), (r11.2.2.2, true)))))
                                  else (
                                    bif (!(decide (r11.2.1.1 = a0.2.2.2.1))) then (
                                      some ([], ([], ((0 : Int), ((11 : Int), true)))))
                                    else (
                                      bif (decide ((0 : Int) ≤ (IntKind.wrap .u64 r10.1))) then
                                      (f29 r4.1 (r4.2.1.1, (r4.2.1.2.1, ((IntKind.wrap .u32 ((BitVec.ofInt (IntKind.bits .u32) r4.2.1.2.2.1 ||| BitVec.ofInt (IntKind.bits .u32) (shiftL .u32 (1 : Int) (IntKind.wrap .u64 r10.1))).toNat : Int)), (a0.2.1, r4.2.1.2.2.2.2))))).bind fun r13 =>
                                      (f27 r11.1 (a0.1, r11.2.1.2)).bind fun r14 =>
                                      bif (!(decide (a0.2.2.2.1 = (-1 : Int)))) then (
                                        bif (decide ((0 : Int) ≤ (IntKind.wrap .u64 r10.1))) then
                                        (f29 r5.1 (r5.2.1.1, (r5.2.1.2.1, ((IntKind.wrap .u32 ((BitVec.ofInt (IntKind.bits .u32) r5.2.1.2.2.1 &&& ~~~ BitVec.ofInt (IntKind.bits .u32) (shiftL .u32 (1 : Int) (IntKind.wrap .u64 r10.1))).toNat : Int)), r5.2.1.2.2.2)))).bind fun r15 =>
                                        (f62 ([r13.1, r14.1] ++ [r15.1])).bind fun r16 =>
                                        some ([], (r16, (r10.1, ((0 : Int), true))))
                                        else none)
                                      else (
                                        (f62 [r13.1, r14.1]).bind fun r17 =>
                                        some ([], (r17, (r10.1, ((0 : Int), true)))))
                                      else none))))))
                          else (
                            (f67 r5.2.1.2.2.1 r6).bind fun r18 =>
                            bif (decide ((((List.length r18) : Nat) : Int) = (0 : Int))) then (
                              some ([], ([], ((0 : Int), ((16 : Int), true)))))
                            else (
                              bif (inR (0 : Int) (List.length r18)) then
                              (f69 a1 (List.getD r18 0 (0 : Int))).bind fun r19 =>
                              bif (!r19.2.2.1) then (
                                (f36 (List.getD r18 0 (0 : Int))).bind fun r20 =>
                                some ([r20], ([], ((0 : Int), ((0 : Int), false)))))
                              else (
                                bif (!(decide (r19.2.2.2 = (0 : Int)))) then (
                                  some ([], ([], ((0 : Int), (r19.2.2.2, true)))))
                                else (
                                  bif (!(decide (r19.2.1.1 = a0.2.2.2.1))) then (
                                    some ([], ([], ((0 : Int), ((11 : Int), true)))))
                                  else (
                                    bif (decide ((0 : Int) ≤ (IntKind.wrap .u64 (List.getD r18 0 (0 : Int))))) then
                                    (f29 r4.1 (r4.2.1.1, (r4.2.1.2.1, ((IntKind.wrap .u32 ((BitVec.ofInt (IntKind.bits .u32) r4.2.1.2.2.1 ||| BitVec.ofInt (IntKind.bits .u32) (shiftL .u32 (1 : Int) (IntKind.wrap .u64 (List.getD r18 0 (0 : Int))))).toNat : Int)), (a0.2.1, r4.2.1.2.2.2.2))))).bind fun r21 =>
                                    (f27 r19.1 (a0.1, r19.2.1.2)).bind fun r22 =>
                                    bif (!(decide (a0.2.2.2.1 = (-1 : Int)))) then (
                                      bif (decide ((0 : Int) ≤ (IntKind.wrap .u64 (List.getD r18 0 (0 : Int))))) then
                                      (f29 r5.1 (r5.2.1.1, (r5.2.1.2.1, ((IntKind.wrap .u32 ((BitVec.ofInt (IntKind.bits .u32) r5.2.1.2.2.1 &&& ~~~ BitVec.ofInt (IntKind.bits .u32) (shiftL .u32 (1 : Int) (IntKind.wrap .u64 (List.getD r18 0 (0 : Int))))).toNat : Int)), r5.2.1.2.2.2)))).bind fun r23 =>
                                      (f62 ([r21.1, r22.1] ++ [r23.1])).bind fun r24 =>
                                      some ([], (r24, ((List.getD r18 0 (0 : Int)), ((0 : Int), true))))
                                      else none)
                                    else (
                                      (f62 [r21.1, r22.1]).bind fun r25 =>
                                      some ([], (r25, ((List.getD r18 0 (0 : Int)), ((0 : Int), true)))))
                                    else none)))
                              else none))))
                      else (
                        (f34 a0.2.2.1).bind fun r26 =>
                        bif (decide (a0.2.2.2.1 = (-1 : Int))) then (
                          (f67 (511 : Int) r26).bind fun r27 =>
                          (f66 r27).bind fun r28 =>
                          (f64 a1 r28).bind fun r29 =>
                          bif (decide ((0 : Int) < (((List.length r29) : Nat) : Int))) then (
                            some (r29, ([], ((0 : Int), ((0 : Int), false)))))
                          else (
                            (f68 a1 a0.1 r26).bind fun r30 =>
                            bif (!r30.2) then (
                              some ([], ([], ((0 : Int), ((12 : Int), true)))))
                            else (
                              (f69 a1 r30.1).bind fun r31 =>
                              bif (!r31.2.2.1) then (
                                (f36 r30.1).bind fun r32 =>
                                some ([r32], ([], ((0 : Int), ((0 : Int), false)))))
                              else (
                                bif (!(decide (r31.2.2.2 = (0 : Int)))) then (
                                  some ([], ([], ((0 : Int), (r31.2.2.2, true)))))
                                else (
                                  bif (!(decide (r31.2.1.1 = a0.2.2.2.1))) then (
                                    some ([], ([], ((0 : Int), ((11 : Int), true)))))
                                  else (
                                    bif (decide ((0 : Int) ≤ (IntKind.wrap .u64 r30.1))) then
                                    (f29 r4.1 (r4.2.1.1, (r4.2.1.2.1, ((IntKind.wrap .u32 ((BitVec.ofInt (IntKind.bits .u32) r4.2.1.2.2.1 ||| BitVec.ofInt (IntKind.bits .u32) (shiftL .u32 (1 : Int) (IntKind.wrap .u64 r30.1))).toNat : Int)), (a0.2.1, r4.2.1.2.2.2.2))))).bind fun r33 =>
                                    (f27 r31.1 (a0.1, r31.2.1.2)).bind fun r34 =>
                                    bif (!(decide (a0.2.2.2.1 = (-1 : Int)))) then (
                                      bif (decide ((0 : Int) ≤ (IntKind.wrap .u64 r30.1))) then
                                      (f29 ((0 : Int), ((0 : Int), ((List.replicate 7 (0 : Int)), ()))) (false, ((0 : Int), ((IntKind.wrap .u32 ((BitVec.ofInt (IntKind.bits .u32) (0 : Int) &&& ~~~ BitVec.ofInt (IntKind.bits .u32) (shiftL .u32 (1 : Int) (IntKind.wrap .u64 r30.1))).toNat : Int)), ((0 : Int), ((List.replicate 4 (((0 : Int), ((0 : Int), ())), ((0 : Int), ()))), ())))))).bind fun r35 =>
                                      (f62 ([r33.1, r34.1] ++ [r35.1])).bind fun r36 =>
                                      some ([], (r36, (r30.1, ((0 : Int), true))))
                                      else none)
                                    else (
                                      (f62 [r33.1, r34.1]).bind fun r37 =>
                                      some ([], (r37, (r30.1, ((0 : Int), true)))))
                                    else none))))))
                        else (
                          (f67 (0 : Int) r26).bind fun r38 =>
                          bif (decide ((((List.length r38) : Nat) : Int) = (0 : Int))) then (
                            some ([], ([], ((0 : Int), ((16 : Int), true)))))
                          else (
                            bif (inR (0 : Int) (List.length r38)) then
                            (f69 a1 (List.getD r38 0 (0 : Int))).bind fun r39 =>
                            bif (!r39.2.2.1) then (
                              (f36 (List.getD r38 0 (0 : Int))).bind fun r40 =>
                              some ([r40], ([], ((0 : Int), ((0 : Int), false)))))
                            else (
                              bif (!(decide (r39.2.2.2 = (0 : Int)))) then (
                                some ([], ([], ((0 : Int), (r39.2.2.2, true)))))
                              else (
                                bif (!(decide (r39.2.1.1 = a0.2.2.2.1))) then (
                                  some ([], ([], ((0 : Int), ((11 : Int), true)))))
                                else (
                                  bif (decide ((0 : Int) ≤ (IntKind.wrap .u64 (List.getD r38 0 (0 : Int))))) then
                                  (f29 r4.1 (r4.2.1.1, (r4.2.1.2.1, ((IntKind.wrap .u32 ((BitVec.ofInt (IntKind.bits .u32) r4.2.1.2.2.1 ||| BitVec.ofInt (IntKind.bits .u32) (shiftL .u32 (1 : Int) (IntKind.wrap .u64 (List.getD r38 0 (0 : Int))))).toNat : Int)), (a0.2.1, r4.2.1.2.2.2.2))))).bind fun r41 =>
                                  (f27 r39.1 (a0.1, r39.2.1.2)).bind fun r42 =>
                                  bif (!(decide (a0.2.2.2.1 = (-1 : Int)))) then (
                                    bif (decide ((0 : Int) ≤ (IntKind.wrap .u64 (List.getD r38 0 (0 : Int))))) then
                                    (f29 ((0 : Int), ((0 : Int), ((List.replicate 7 (0 : Int)), ()))) (false, ((0 : Int), ((IntKind.wrap .u32 ((BitVec.ofInt (IntKind.bits .u32) (0 : Int) &&& ~~~ BitVec.ofInt (IntKind.bits .u32) (shiftL .u32 (1 : Int) (IntKind.wrap .u64 (List.getD r38 0 (0 : Int))))).toNat : Int)), ((0 : Int), ((List.replicate 4 (((0 : Int), ((0 : Int), ())), ((0 : Int), ()))), ())))))).bind fun r43 =>
                                    (f62 ([r41.1, r42.1] ++ [r43.1])).bind fun r44 =>
                                    some ([], (r44, ((List.getD r38 0 (0 : Int)), ((0 : Int), true))))
                                    else none)
                                  else (
                                    (f62 [r41.1, r42.1]).bind fun r45 =>
                                    some ([], (r45, ((List.getD r38 0 (0 : Int)), ((0 : Int), true)))))
                                  else none)))
                            else none))))))
                else (
                  (f64 a1 [(IntKind.wrap .i64 ((98 : Int) + a0.1))]).bind fun r46 =>
                  bif (decide ((0 : Int) < (((List.length r46) : Nat) : Int))) then (
                    some (r46, ([], ((0 : Int), ((0 : Int), false)))))
                  else (
                    (f65 a1 a0.1).bind fun r47 =>
                    bif (!(decide (r47.2.2.2 = (0 : Int)))) then (
                      some ([], ([], ((0 : Int), (r47.2.2.2, true)))))
                    else (
                      bif (!(decide (a0.2.2.2.1 = (-1 : Int)))) then (
                        (f65 a1 a0.2.2.2.1).bind fun r48 =>
                        bif (!(decide (r48.2.2.2 = (0 : Int)))) then (
                          some ([], ([], ((0 : Int), (r48.2.2.2, true)))))
                        else (
                          (f34 a0.2.2.1).bind fun r49 =>
                          bif (decide (a0.2.2.2.1 = (-1 : Int))) then (
                            (f67 (511 : Int) r49).bind fun r50 =>
                            (f66 r50).bind fun r51 =>
                            (f64 a1 r51).bind fun r52 =>
                            bif (decide ((0 : Int) < (((List.length r52) : Nat) : Int))) then (
                              some (r52, ([], ((0 : Int), ((0 : Int), false)))))
                            else (
                              (f68 a1 a0.1 r49).bind fun r53 =>
                              bif (!r53.2) then (
                                some ([], ([], ((0 : Int), ((12 : Int), true)))))
                              else (
                                (f69 a1 r53.1).bind fun r54 =>
                                bif (!r54.2.2.1) then (
                                  (f36 r53.1).bind fun r55 =>
                                  some ([r55], ([], ((0 : Int), ((0 : Int), false)))))
                                else (
                                  bif (!(decide (r54.2.2.2 = (0 : Int)))) then (
                                    some ([], ([], ((0 : Int), (r54.2.2.2, true)))))
                                  else (
                                    bif (!(decide (r54.2.1.1 = a0.2.2.2.1))) then (
                                      some ([], ([], ((0 : Int), ((11 : Int), true)))))
                                    else (
                                      bif (decide ((0 : Int) ≤ (IntKind.wrap .u64 r53.1))) then
                                      (f29 r47.1 (r47.2.1.1, (r47.2.1.2.1, ((IntKind.wrap .u32 ((BitVec.ofInt (IntKind.bits .u32) r47.2.1.2.2.1 ||| BitVec.ofInt (IntKind.bits .u32) (shiftL .u32 (1 : Int) (IntKind.wrap .u64 r53.1))).toNat : Int)), (a0.2.1, r47.2.1.2.2.2.2))))).bind fun r56 =>
                                      (f27 r54.1 (a0.1, r54.2.1.2)).bind fun r57 =>
                                      bif (!(decide (a0.2.2.2.1 = (-1 : Int)))) then (
                                        bif (decide ((0 : Int) ≤ (IntKind.wrap .u64 r53.1))) then
                                        (f29 r48.1 (r48.2.1.1, (r48.2.1.2.1, ((IntKind.wrap .u32 ((BitVec.ofInt (IntKind.bits .u32) r48.2.1.2.2.1 &&& ~~~ BitVec.ofInt (IntKind.bits .u32) (shiftL .u32 (1 : Int) (IntKind.wrap .u64 r53.1))).toNat : Int)), r48.2.1.2.2.2)))).bind fun r58 =>
                                        (f62 ([r56.1, r57.1] ++ [r58.1])).bind fun r59 =>
                                        some ([], (r59, (r53.1, ((0 : Int), true))))
                                        else none)
                                      else (
                                        (f62 [r56.1, r57.1]).bind fun r60 =>
                                        some ([], (r60, (r53.1, ((0 : Int), true)))))
                                      else none))))))
                          else (
                            (f67 r48.2.1.2.2.1 r49).bind fun r61 =>
                            bif (decide ((((List.length r61) : Nat) : Int) = (0 : Int))) then (
                              some ([], ([], ((0 : Int), ((16 : Int), true)))))
                            else (
                              bif (inR (0 : Int) (List.length r61)) then
                              (f69 a1 (List.getD r61 0 (0 : Int))).bind fun r62 =>
                              bif (!r62.2.2.1) then (
                                (f36 (List.getD r61 0 (0 : Int))).bind fun r63 =>
                                some ([r63], ([], ((0 : Int), ((0 : Int), false)))))
                              else (
                                bif (!(decide (r62.2.2.2 = (0 : Int)))) then (
                                  some ([], ([], ((0 : Int), (r62.2.2.2, true)))))
                                else (
                                  bif (!(decide (r62.2.1.1 = a0.2.2.2.1))) then (
                                    some ([], ([], ((0 : Int), ((11 : Int), true)))))
                                  else (
                                    bif (decide ((0 : Int) ≤ (IntKind.wrap .u64 (List.getD r61 0 (0 : Int))))) then
                                    (f29 r47.1 (r47.2.1.1, (r47.2.1.2.1, ((IntKind.wrap .u32 ((BitVec.ofInt (IntKind.bits .u32) r47.2.1.2.2.1 ||| BitVec.ofInt (IntKind.bits .u32) (shiftL .u32 (1 : Int) (IntKind.wrap .u64 (List.getD r61 0 (0 : Int))))).toNat : Int)), (a0.2.1, r47.2.1.2.2.2.2))))).bind fun r64 =>
                                    (f27 r62.1 (a0.1, r62.2.1.2)).bind fun r65 =>
                                    bif (!(decide (a0.2.2.2.1 = (-1 : Int)))) then (
                                      bif (decide ((0 : Int) ≤ (IntKind.wrap .u64 (List.getD r61 0 (0 : Int))))) then
                                      (f29 r48.1 (r48.2.1.1, (r48.2.1.2.1, ((IntKind.wrap .u32 ((BitVec.ofInt (IntKind.bits .u32) r48.2.1.2.2.1 &&& ~~~ BitVec.ofInt (IntKind.bits .u32) (shiftL .u32 (1 : Int) (IntKind.wrap .u64 (List.getD r61 0 (0 : Int))))).toNat : Int)), r48.2.1.2.2.2)))).bind fun r66 =>
                                      (f62 ([r64.1, r65.1] ++ [r66.1])).bind fun r67 =>
                                      some ([], (r67, ((List.getD r61 0 (0 : Int)), ((0 : Int), true))))
                                      else none)
                                    else (
                                      (f62 [r64.1, r65.1]).bind fun r68 =>
                                      some ([], (r68, ((List.getD r61 0 (0 : Int)), ((0 : Int), true)))))
                                    else none)))
                              else none))))
                      else (
                        (f34 a0.2.2.1).bind fun r69 =>
                        bif (decide (a0.2.2.2.1 = (-1 : Int))) then (
                          (f67 (511 : Int) r69).bind fun r70 =>
                          (f66 r70).bind fun r71 =>
                          (f64 a1 r71).bind fun r72 =>
                          bif (decide ((0 : Int) < (((List.length r72) : Nat) : Int))) then (
                            some (r72, ([], ((0 : Int), ((0 : Int), false)))))
                          else (
                            (f68 a1 a0.1 r69).bind fun r73 =>
                            bif (!r73.2) then (
                              some ([], ([], ((0 : Int), ((12 : Int), true)))))
                            else (
                              (f69 a1 r73.1).bind fun r74 =>
                              bif (!r74.2.2.1) then (
                                (f36 r73.1).bind fun r75 =>
                                some ([r75], ([], ((0 : Int), ((0 : Int), false)))))
                              else (
                                bif (!(decide (r74.2.2.2 = (0 : Int)))) then (
                                  some ([], ([], ((0 : Int), (r74.2.2.2, true)))))
                                else (
                                  bif (!(decide (r74.2.1.1 = a0.2.2.2.1))) then (
                                    some ([], ([], ((0 : Int), ((11 : Int), true)))))
                                  else (
                                    bif (decide ((0 : Int) ≤ (IntKind.wrap .u64 r73.1))) then
                                    (f29 r47.1 (r47.2.1.1, (r47.2.1.2.1, ((IntKind.wrap .u32 ((BitVec.ofInt (IntKind.bits .u32) r47.2.1.2.2.1 ||| BitVec.ofInt (IntKind.bits .u32) (shiftL .u32 (1 : Int) (IntKind.wrap .u64 r73.1))).toNat : Int)), (a0.2.1, r47.2.1.2.2.2.2))))).bind fun r76 =>
                                    (f27 r74.1 (a0.1, r74.2.1.2)).bind fun r77 =>
                                    bif (!(decide (a0.2.2.2.1 = (-1 : Int)))) then (
                                      bif (decide ((0 : Int) ≤ (IntKind.wrap .u64 r73.1))) then
                                      (f29 ((0 : Int), ((0 : Int), ((List.replicate 7 (0 : Int)), ()))) (false, ((0 : Int), ((IntKind.wrap .u32 ((BitVec.ofInt (IntKind.bits .u32) (0 : Int) &&& ~~~ BitVec.ofInt (IntKind.bits .u32) (shiftL .u32 (1 : Int) (IntKind.wrap .u64 r73.1))).toNat : Int)), ((0 : Int), ((List.replicate 4 (((0 : Int), ((0 : Int), ())), ((0 : Int), ()))), ())))))).bind fun r78 =>
                                      (f62 ([r76.1, r77.1] ++ [r78.1])).bind fun r79 =>
                                      some ([], (r79, (r73.1, ((0 : Int), true))))
                                      else none)
                                    else (
                                      (f62 [r76.1, r77.1]).bind fun r80 =>
                                      some ([], (r80, (r73.1, ((0 : Int), true)))))
                                    else none))))))
                        else (
                          (f67 (0 : Int) r69).bind fun r81 =>
                          bif (decide ((((List.length r81) : Nat) : Int) = (0 : Int))) then (
                            some ([], ([], ((0 : Int), ((16 : Int), true)))))
                          else (
                            bif (inR (0 : Int) (List.length r81)) then
                            (f69 a1 (List.getD r81 0 (0 : Int))).bind fun r82 =>
                            bif (!r82.2.2.1) then (
                              (f36 (List.getD r81 0 (0 : Int))).bind fun r83 =>
                              some ([r83], ([], ((0 : Int), ((0 : Int), false)))))
                            else (
                              bif (!(decide (r82.2.2.2 = (0 : Int)))) then (
                                some ([], ([], ((0 : Int), (r82.2.2.2, true)))))
                              else (
                                bif (!(decide (r82.2.1.1 = a0.2.2.2.1))) then (
                                  some ([], ([], ((0 : Int), ((11 : Int), true)))))
                                else (
                                  bif (decide ((0 : Int) ≤ (IntKind.wrap .u64 (List.getD r81 0 (0 : Int))))) then
                                  (f29 r47.1 (r47.2.1.1, (r47.2.1.2.1, ((IntKind.wrap .u32 ((BitVec.ofInt (IntKind.bits .u32) r47.2.1.2.2.1 ||| BitVec.ofInt (IntKind.bits .u32) (shiftL .u32 (1 : Int) (IntKind.wrap .u64 (List.getD r81 0 (0 : Int))))).toNat : Int)), (a0.2.1, r47.2.1.2.2.2.2))))).bind fun r84 =>
                                  (f27 r82.1 (a0.1, r82.2.1.2)).bind fun r85 =>
                                  bif (!(decide (a0.2.2.2.1 = (-1 : Int)))) then (
                                    bif (decide ((0 : Int) ≤ (IntKind.wrap .u64 (List.getD r81 0 (0 : Int))))) then
                                    (f29 ((0 : Int), ((0 : Int), ((List.replicate 7 (0 : Int)), ()))) (false, ((0 : Int), ((IntKind.wrap .u32 ((BitVec.ofInt (IntKind.bits .u32) (0 : Int) &&& ~~~ BitVec.ofInt (IntKind.bits .u32) (shiftL .u32 (1 : Int) (IntKind.wrap .u64 (List.getD r81 0 (0 : Int))))).toNat : Int)), ((0 : Int), ((List.replicate 4 (((0 : Int), ((0 : Int), ())), ((0 : Int), ()))), ())))))).bind fun r86 =>
                                    (f62 ([r84.1, r85.1] ++ [r86.1])).bind fun r87 =>
                                    some ([], (r87, ((List.getD r81 0 (0 : Int)), ((0 : Int), true))))
                                    else none)
                                  else (
                                    (f62 [r84.1, r85.1]).bind fun r88 =>
                                    some ([], (r88, ((List.getD r81 0 (0 : Int)), ((0 : Int), true)))))
                                  else none)))
                            else none)))))))))))))
noncomputable def f42I : Shape := { n := 215, nx := 0, sl := [(0, .dat false TClaim), (1, .dat false (.slice TPage))], ob := [], fix := [], may := true }
noncomputable def f42O : Shape := { n := 216, nx := 0, sl := [(215, .tup (.cons (.dat true (.slice (.int .i64))) (.cons (.dat true (.slice TPage)) (.cons (.dat true (.int .i64)) (.cons (.dat true (.int .i64)) (.cons (.dat true .bool) (.nil)))))))], ob := [], fix := [], may := true }
noncomputable def f42F : ((Val TClaim) × (Val (.slice TPage))) → Option ((Val (.slice (.int .i64))) × (Val (.slice TPage)) × Int × Int × Bool) := fun y => f42 y.1 y.2
noncomputable def f42ct : Ctr := ctrOf f42I f42O (fun d => d) (fun d => d) f42F
noncomputable def f42E : Env := { tf := tfE, fn := fun f => bif Nat.beq f 63 then some f63ct else bif Nat.beq f 60 then some f60ct else bif Nat.beq f 64 then some f64ct else bif Nat.beq f 65 then some f65ct else bif Nat.beq f 34 then some f34ct else bif Nat.beq f 67 then some f67ct else bif Nat.beq f 66 then some f66ct else bif Nat.beq f 68 then some f68ct else bif Nat.beq f 69 then some f69ct else bif Nat.beq f 36 then some f36ct else bif Nat.beq f 29 then some f29ct else bif Nat.beq f 27 then some f27ct else bif Nat.beq f 62 then some f62ct else none }
theorem f42_env : EnvOk PT f42E := ⟨tyE, fun f ct h => by
  simp only [f42E] at h
  refine envCons (c := f63ct) h f63_ctr (fun h => ?_)
  refine envCons (c := f60ct) h f60_ctr (fun h => ?_)
  refine envCons (c := f64ct) h f64_ctr (fun h => ?_)
  refine envCons (c := f65ct) h f65_ctr (fun h => ?_)
  refine envCons (c := f34ct) h f34_ctr (fun h => ?_)
  refine envCons (c := f67ct) h f67_ctr (fun h => ?_)
  refine envCons (c := f66ct) h f66_ctr (fun h => ?_)
  refine envCons (c := f68ct) h f68_ctr (fun h => ?_)
  refine envCons (c := f69ct) h f69_ctr (fun h => ?_)
  refine envCons (c := f36ct) h f36_ctr (fun h => ?_)
  refine envCons (c := f29ct) h f29_ctr (fun h => ?_)
  refine envCons (c := f27ct) h f27_ctr (fun h => ?_)
  refine envCons (c := f62ct) h f62_ctr (fun h => ?_)
  cases h⟩
noncomputable def f42C : Code := bodyOf Go.Proofs.Try.f42
noncomputable def f42H : Nat → Option Sum := fun n => none
theorem f42_bd (y : (Val TClaim) × (Val (.slice TPage))) : @Eq (Option ((Val (.slice (.int .i64))) × (Val (.slice TPage)) × Int × Int × Bool)) (exec f42E f42H f42C (f42I.mk' (show f42I.D from y)) (kontF (Z := (Val (.slice (.int .i64))) × (Val (.slice TPage)) × Int × Int × Bool) f42E Go.Proofs.Try.f42.results.toList f42O (fun d => d))) (f42F y) := by kernel_rfl
theorem f42_lo {w0 : World} {Jo : Io} (hfix : ∀ i b, Jo.fix i = some b → i ∈ []) (hmay : true = true → Jo.may) : LoopsOk PT w0 Jo f42H f42C := (noLoops (by kernel_rfl))
theorem f42_ctr : CtrOk PT 42 f42ct :=
  @ctr_ok PT f42E f42H f42_env mixed 42 Go.Proofs.Try.f42 f42C (by kernel_rfl) (by kernel_rfl) (enters_of (by kernel_rfl : PT.funcs[42]? = some Go.Proofs.Try.f42) (by kernel_rfl) (by kernel_rfl)) f42I f42O ((Val TClaim) × (Val (.slice TPage))) ((Val (.slice (.int .i64))) × (Val (.slice TPage)) × Int × Int × Bool) (fun d => d) (fun d => d) (fun d => d) (fun d => d) (fun _ => rfl) (fun _ => rfl) (by kernel_rfl) (by kernel_rfl) f42F f42_bd (fun w0 Jo hfix hmay => f42_lo hfix hmay)

/-- bodega/bodegalaw20.awake -/
noncomputable def f24  : Option Bool :=
  (f40 (256 : Int)).bind fun r1 =>
  (f42 ((1 : Int), ((1 : Int), ((256 : Int), ((-1 : Int), ())))) []).bind fun r2 =>
  (f42 ((1 : Int), ((1 : Int), ((256 : Int), ((-1 : Int), ())))) r1.2.2.2).bind fun r3 =>
  bif (!r2.2.2.2.2) then (
    bif (decide ((((List.length r2.1) : Nat) : Int) = (1 : Int))) then (
      bif r3.2.2.2.2 then (
        bif (decide (r3.2.2.2.1 = (0 : Int))) then (
          bif (decide (r3.2.2.1 = (1 : Int))) then (
            some (decide ((((List.length r3.2.1) : Nat) : Int) = (2 : Int))))
          else (
            some false))
        else (
          some false))
      else (
        some false))
    else (
      some false))
  else (
    some false)
noncomputable def f24I : Shape := { n := 56, nx := 0, sl := [], ob := [], fix := [], may := true }
noncomputable def f24O : Shape := { n := 57, nx := 0, sl := [(56, .dat true .bool)], ob := [], fix := [], may := true }
noncomputable def f24F : Unit → Option Bool := fun y => f24 
noncomputable def f24ct : Ctr := ctrOf f24I f24O (fun d => d) (fun d => d) f24F
noncomputable def f24E : Env := { tf := tfE, fn := fun f => bif Nat.beq f 40 then some f40ct else bif Nat.beq f 42 then some f42ct else none }
theorem f24_env : EnvOk PT f24E := ⟨tyE, fun f ct h => by
  simp only [f24E] at h
  refine envCons (c := f40ct) h f40_ctr (fun h => ?_)
  refine envCons (c := f42ct) h f42_ctr (fun h => ?_)
  cases h⟩
noncomputable def f24C : Code := bodyOf Go.Proofs.Try.f24
noncomputable def f24H : Nat → Option Sum := fun n => none
theorem f24_bd (y : Unit) : @Eq (Option Bool) (exec f24E f24H f24C (f24I.mk' (show f24I.D from y)) (kontF (Z := Bool) f24E Go.Proofs.Try.f24.results.toList f24O (fun d => d))) (f24F y) := by kernel_rfl
theorem f24_lo {w0 : World} {Jo : Io} (hfix : ∀ i b, Jo.fix i = some b → i ∈ []) (hmay : true = true → Jo.may) : LoopsOk PT w0 Jo f24H f24C := (noLoops (by kernel_rfl))
theorem f24_ctr : CtrOk PT 24 f24ct :=
  @ctr_ok PT f24E f24H f24_env mixed 24 Go.Proofs.Try.f24 f24C (by kernel_rfl) (by kernel_rfl) (enters_of (by kernel_rfl : PT.funcs[24]? = some Go.Proofs.Try.f24) (by kernel_rfl) (by kernel_rfl)) f24I f24O Unit Bool (fun d => d) (fun d => d) (fun d => d) (fun d => d) (fun _ => rfl) (fun _ => rfl) (by kernel_rfl) (by kernel_rfl) f24F f24_bd (fun w0 Jo hfix hmay => f24_lo hfix hmay)

/-- bodega/bodegalaw20.SegmentLines -/
noncomputable def f6 (a0 : Int) (a1 : Int) (a2 : Int) (a3 : Bool) : Option Bool :=
  bif a3 then (
    (f10 a0 (270 : Int)).bind fun r1 =>
    (f10 a1 (270 : Int)).bind fun r2 =>
    (f10 a2 (13 : Int)).bind fun r3 =>
    (f32 (IntKind.wrap .i64 (r1 - (5 : Int))) (IntKind.wrap .i64 (r2 - (5 : Int)))).bind fun r4 =>
    (f33 (IntKind.wrap .i64 (r1 - (5 : Int))) (IntKind.wrap .i64 (r2 - (5 : Int)))).bind fun r5 =>
    (f24).bind fun r6 =>
    bif r6 then (
      (f34 (IntKind.wrap .i64 (r1 - (5 : Int)))).bind fun r7 =>
      (f35 (IntKind.wrap .i64 (r1 - (5 : Int)))).bind fun r8 =>
      bif (decide (r7 = r8)) then (
        (f36 (IntKind.wrap .i64 (r3 - (2 : Int)))).bind fun r9 =>
        (f37 (IntKind.wrap .i64 (r3 - (2 : Int)))).bind fun r10 =>
        bif (decide (r9 = r10)) then (
          bif (decide (r4.1 = r5.1)) then (
            bif (decide (r4.2.1 = r5.2.1)) then (
              some (r4.2.2 == r5.2.2))
            else (
              some false))
          else (
            some false))
        else (
          some false))
      else (
        some false))
    else (
      some false))
  else (
    (f32 a0 a1).bind fun r11 =>
    (f33 a0 a1).bind fun r12 =>
    (f24).bind fun r13 =>
    bif r13 then (
      (f34 a0).bind fun r14 =>
      (f35 a0).bind fun r15 =>
      bif (decide (r14 = r15)) then (
        (f36 a2).bind fun r16 =>
        (f37 a2).bind fun r17 =>
        bif (decide (r16 = r17)) then (
          bif (decide (r11.1 = r12.1)) then (
            bif (decide (r11.2.1 = r12.2.1)) then (
              some (r11.2.2 == r12.2.2))
            else (
              some false))
          else (
            some false))
        else (
          some false))
      else (
        some false))
    else (
      some false))
noncomputable def f6I : Shape := { n := 69, nx := 0, sl := [(0, .dat false (.int .i64)), (1, .dat false (.int .i64)), (2, .dat false (.int .i64)), (3, .dat false .bool)], ob := [], fix := [], may := true }
noncomputable def f6O : Shape := { n := 70, nx := 0, sl := [(69, .dat true .bool)], ob := [], fix := [], may := true }
noncomputable def f6F : (Int × Int × Int × Bool) → Option Bool := fun y => f6 y.1 y.2.1 y.2.2.1 y.2.2.2
noncomputable def f6ct : Ctr := ctrOf f6I f6O (fun d => d) (fun d => d) f6F
noncomputable def f6E : Env := { tf := tfE, fn := fun f => bif Nat.beq f 10 then some f10ct else bif Nat.beq f 32 then some f32ct else bif Nat.beq f 33 then some f33ct else bif Nat.beq f 24 then some f24ct else bif Nat.beq f 34 then some f34ct else bif Nat.beq f 35 then some f35ct else bif Nat.beq f 36 then some f36ct else bif Nat.beq f 37 then some f37ct else none }
theorem f6_env : EnvOk PT f6E := ⟨tyE, fun f ct h => by
  simp only [f6E] at h
  refine envCons (c := f10ct) h f10_ctr (fun h => ?_)
  refine envCons (c := f32ct) h f32_ctr (fun h => ?_)
  refine envCons (c := f33ct) h f33_ctr (fun h => ?_)
  refine envCons (c := f24ct) h f24_ctr (fun h => ?_)
  refine envCons (c := f34ct) h f34_ctr (fun h => ?_)
  refine envCons (c := f35ct) h f35_ctr (fun h => ?_)
  refine envCons (c := f36ct) h f36_ctr (fun h => ?_)
  refine envCons (c := f37ct) h f37_ctr (fun h => ?_)
  cases h⟩
noncomputable def f6C : Code := bodyOf Go.Proofs.Try.f6
noncomputable def f6H : Nat → Option Sum := fun n => none
theorem f6_bd (y : Int × Int × Int × Bool) : @Eq (Option Bool) (exec f6E f6H f6C (f6I.mk' (show f6I.D from y)) (kontF (Z := Bool) f6E Go.Proofs.Try.f6.results.toList f6O (fun d => d))) (f6F y) := by kernel_rfl
theorem f6_lo {w0 : World} {Jo : Io} (hfix : ∀ i b, Jo.fix i = some b → i ∈ []) (hmay : true = true → Jo.may) : LoopsOk PT w0 Jo f6H f6C := (noLoops (by kernel_rfl))
theorem f6_ctr : CtrOk PT 6 f6ct :=
  @ctr_ok PT f6E f6H f6_env mixed 6 Go.Proofs.Try.f6 f6C (by kernel_rfl) (by kernel_rfl) (enters_of (by kernel_rfl : PT.funcs[6]? = some Go.Proofs.Try.f6) (by kernel_rfl) (by kernel_rfl)) f6I f6O (Int × Int × Int × Bool) Bool (fun d => d) (fun d => d) (fun d => d) (fun d => d) (fun _ => rfl) (fun _ => rfl) (by kernel_rfl) (by kernel_rfl) f6F f6_bd (fun w0 Jo hfix hmay => f6_lo hfix hmay)

end Go.Sx
