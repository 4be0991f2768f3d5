/- A2: printed by a program of this session: the functions of the seat as plain functions, and that the code comes to them. -/
import Derived.Test.YteghkndbngddgaaGreatA1
set_option linter.unusedVariables false
set_option maxRecDepth 100000
namespace Go.Sx
open Go.RowKit Go.Proofs
noncomputable def qf92 (a0 : Val (.slice TPage)) (a1 : Val TPtr) (a2 : Int) (a3 : Bool) : Option ((Val TPage) × Bool × Int) :=
(qf21 a1).bind fun r1 =>
bif (!r1) then (
some (((0 : Int), (0 : Int), (List.replicate 7 (0 : Int)), ()), false, (1 : Int)))
else (
(qf7 a0 a1.1).bind fun r2 =>
bif (!r2.2) then (
some (((0 : Int), (0 : Int), (List.replicate 7 (0 : Int)), ()), false, (0 : Int)))
else (
(qf54 r2.1).bind fun r3 =>
bif a3 then (
(qf17 r2.1).bind fun r4 =>
bif r4 then (
some (((0 : Int), (0 : Int), (List.replicate 7 (0 : Int)), ()), false, (3 : Int)))
else (
bif (decide (r3.1 = (0 : Int))) then (
some (((0 : Int), (0 : Int), (List.replicate 7 (0 : Int)), ()), false, (11 : Int)))
else (
bif (!(decide (r3.2.1 = a1.2.1))) then (
some (((0 : Int), (0 : Int), (List.replicate 7 (0 : Int)), ()), false, (11 : Int)))
else (
bif (!(decide (r3.1 = a2))) then (
some (((0 : Int), (0 : Int), (List.replicate 7 (0 : Int)), ()), false, (14 : Int)))
else (
some (r2.1, true, (0 : Int)))))))
else (
bif (decide (r3.1 = (0 : Int))) then (
some (((0 : Int), (0 : Int), (List.replicate 7 (0 : Int)), ()), false, (11 : Int)))
else (
bif (!(decide (r3.2.1 = a1.2.1))) then (
some (((0 : Int), (0 : Int), (List.replicate 7 (0 : Int)), ()), false, (11 : Int)))
else (
bif (!(decide (r3.1 = a2))) then (
some (((0 : Int), (0 : Int), (List.replicate 7 (0 : Int)), ()), false, (14 : Int)))
else (
some (r2.1, true, (0 : Int))))))))
abbrev qf92Y : Type := (Val (.slice TPage)) × (Val TPtr) × Int × Bool
noncomputable def qf92I : Shape := ⟨56, 0, [(0, .dat false (.slice TPage)), (1, .dat false TPtr), (2, .dat false (.int .i64)), (3, .dat false .bool)], [], [], true⟩
noncomputable def qf92O : Shape := ⟨57, 0, [(56, .tup (.cons (.dat false TPage) (.cons (.dat true .bool) (.cons (.dat true (.int .i64)) (.nil)))))], [], [], true⟩
noncomputable def qf92F : qf92Y → Option ((Val TPage) × Bool × Int) := fun y => qf92 y.1 y.2.1 y.2.2.1 y.2.2.2
noncomputable def qf92ct : Ctr := ctrOf qf92I qf92O id id qf92F
noncomputable def qf92E : Env := { tf := tfE, mt := mtE, fn := fun f => bif Nat.beq f 78 then some qf21ct else bif Nat.beq f 70 then some qf7ct else bif Nat.beq f 125 then some qf54ct else bif Nat.beq f 72 then some qf17ct else none }
theorem qf92_env : EnvOk PT qf92E := ⟨tyE, (fun f ct h => by
  simp only [qf92E] at h
  refine envCons (c := qf21ct) h qf21_ctr (fun h => ?_)
  refine envCons (c := qf7ct) h qf7_ctr (fun h => ?_)
  refine envCons (c := qf54ct) h qf54_ctr (fun h => ?_)
  refine envCons (c := qf17ct) h qf17_ctr (fun h => ?_)
  cases h), mapE⟩
noncomputable def qf92C : Code := bodyOf Tryz.f103
noncomputable def qf92H : Nat → Option Sum := fun n => none
theorem qf92_bd (y : qf92Y) : @Eq (Option ((Val TPage) × Bool × Int)) (exec qf92E qf92H qf92C (qf92I.mk' (show qf92I.D from y)) (kontF (Z := (Val TPage) × Bool × Int) qf92E Tryz.f103.results.toList qf92O id)) (qf92F y) := by kernel_rfl
theorem qf92_ctr : CtrOk PT 103 qf92ct :=
  @ctr_ok PT qf92E qf92H qf92_env mixed 103 Tryz.f103 qf92C (by kernel_rfl) (by kernel_rfl) (enters_of (by kernel_rfl : PT.funcs[103]? = some Tryz.f103) (by kernel_rfl) (by kernel_rfl)) qf92I qf92O qf92Y ((Val TPage) × Bool × Int) id id id id (fun _ => rfl) (fun _ => rfl) (by kernel_rfl) (by kernel_rfl) qf92F qf92_bd (fun _ _ _ _ => noLoops (by kernel_rfl))
noncomputable def qf93 (a0 : Val (.slice TPage)) (a1 : Val TPtr) (a2 : Int) : Option ((Val TPage) × Bool × Int) :=
(qf92 a0 a1 a2 true).bind fun r1 =>
some r1
noncomputable def qf93I : Shape := ⟨16, 0, [(0, .dat false (.slice TPage)), (1, .dat false TPtr), (2, .dat false (.int .i64))], [], [], true⟩
noncomputable def qf93O : Shape := ⟨17, 0, [(16, .tup (.cons (.dat false TPage) (.cons (.dat true .bool) (.cons (.dat true (.int .i64)) (.nil)))))], [], [], true⟩
noncomputable def qf93F : ((Val (.slice TPage)) × (Val TPtr) × Int) → Option ((Val TPage) × Bool × Int) := fun y => qf93 y.1 y.2.1 y.2.2
noncomputable def qf93ct : Ctr := ctrOf qf93I qf93O id id qf93F
noncomputable def qf93E : Env := { tf := tfE, mt := mtE, fn := fun f => bif Nat.beq f 103 then some qf92ct else none }
theorem qf93_env : EnvOk PT qf93E := ⟨tyE, (fun f ct h => by
  simp only [qf93E] at h
  refine envCons (c := qf92ct) h qf92_ctr (fun h => ?_)
  cases h), mapE⟩
noncomputable def qf93C : Code := bodyOf Tryz.f40
theorem qf93_bd (y : (Val (.slice TPage)) × (Val TPtr) × Int) : @Eq (Option ((Val TPage) × Bool × Int)) (exec qf93E qf92H qf93C (qf93I.mk' (show qf93I.D from y)) (kontF (Z := (Val TPage) × Bool × Int) qf93E Tryz.f40.results.toList qf93O id)) (qf93F y) := by kernel_rfl
theorem qf93_ctr : CtrOk PT 40 qf93ct :=
  @ctr_ok PT qf93E qf92H qf93_env mixed 40 Tryz.f40 qf93C (by kernel_rfl) (by kernel_rfl) (enters_of (by kernel_rfl : PT.funcs[40]? = some Tryz.f40) (by kernel_rfl) (by kernel_rfl)) qf93I qf93O ((Val (.slice TPage)) × (Val TPtr) × Int) ((Val TPage) × Bool × Int) id id id id (fun _ => rfl) (fun _ => rfl) (by kernel_rfl) (by kernel_rfl) qf93F qf93_bd (fun _ _ _ _ => noLoops (by kernel_rfl))
noncomputable def qf94L1b (x0 : Val (.slice TReq)) (x1 : Int) (x2 : Int) (x3 : Int) (x4 : Val (.arr 6 (.int .i64))) (x5 : Int) (x6 : Val (.slice (.arr 6 .bool))) (x7 : Val (.slice .bool)) (x8 : Val (.slice (.int .i64))) (x9 : Int) (x10 : Int) (x11 : Val (.pair (.int .i64) THead)) (x12 : Val (.slice (.int .i64))) (x13 : Val (.slice TPtr)) (x14 : Val (.slice .bool)) (x15 : Val (.slice TPage)) : Option (((Val (.slice TReq)) × Int × Int × Int × (Val (.arr 6 (.int .i64))) × Int × (Val (.slice (.arr 6 .bool))) × (Val (.slice .bool)) × (Val (.slice (.int .i64))) × Int × Int × (Val (.pair (.int .i64) THead)) × (Val (.slice (.int .i64))) × (Val (.slice TPtr)) × (Val (.slice .bool)) × (Val (.slice TPage))) ⊕ (((Val (.slice TReq)) × Int × Int × (Val (.arr 6 (.int .i64))) × Int × (Val (.slice (.arr 6 .bool))) × (Val (.slice .bool)) × (Val (.slice (.int .i64))) × Int × Int × (Val (.pair (.int .i64) THead)) × (Val (.slice (.int .i64))) × (Val (.slice TPtr)) × (Val (.slice .bool)) × (Val (.slice TPage))) ⊕ (Bool))) :=
bif (decide (x3 < (6 : Int))) then (
bif (inR x3 6) then
bif (decide ((List.getD x4 (Int.toNat x3) (0 : Int)) = (0 : Int))) then (
bif (inR x2 (List.length x6)) then
bif (inR x3 6) then
bif (inR x2 (List.length x14)) then
bif (List.getD x14 (Int.toNat x2) false) then (
bif (inR x2 (List.length x7)) then
bif (!(List.getD x7 (Int.toNat x2) false)) then (
bif (inR x2 (List.length (List.set x6 (Int.toNat x2) (List.set (List.getD x6 (Int.toNat x2) (List.replicate 6 false)) (Int.toNat x3) false)))) then
bif (inR x3 6) then
bif (List.getD (List.getD (List.set x6 (Int.toNat x2) (List.set (List.getD x6 (Int.toNat x2) (List.replicate 6 false)) (Int.toNat x3) false)) (Int.toNat x2) (List.replicate 6 false)) (Int.toNat x3) false) then (
some (Sum.inr (Sum.inr false)))
else (
some (Sum.inl (x0, x1, x2, (IntKind.wrap .i64 (x3 + (1 : Int))), x4, x5, (List.set x6 (Int.toNat x2) (List.set (List.getD x6 (Int.toNat x2) (List.replicate 6 false)) (Int.toNat x3) false)), x7, x8, x9, x10, x11, x12, x13, x14, x15)))
else none
else none)
else (
some (Sum.inl (x0, x1, x2, (IntKind.wrap .i64 (x3 + (1 : Int))), x4, x5, (List.set x6 (Int.toNat x2) (List.set (List.getD x6 (Int.toNat x2) (List.replicate 6 false)) (Int.toNat x3) false)), x7, x8, x9, x10, x11, x12, x13, x14, x15)))
else none)
else (
some (Sum.inl (x0, x1, x2, (IntKind.wrap .i64 (x3 + (1 : Int))), x4, x5, (List.set x6 (Int.toNat x2) (List.set (List.getD x6 (Int.toNat x2) (List.replicate 6 false)) (Int.toNat x3) false)), x7, x8, x9, x10, x11, x12, x13, x14, x15)))
else none
else none
else none)
else (
bif (inR x2 (List.length x8)) then
bif (decide ((List.getD x8 (Int.toNat x2) (0 : Int)) < (0 : Int))) then (
bif (inR x2 (List.length x12)) then
bif (decide ((0 : Int) ≤ (List.getD x12 (Int.toNat x2) (0 : Int)))) then (
bif (inR x2 (List.length x6)) then
bif (inR x3 6) then
bif (inR x2 (List.length x14)) then
bif (List.getD x14 (Int.toNat x2) false) then (
bif (inR x2 (List.length x7)) then
bif (!(List.getD x7 (Int.toNat x2) false)) then (
bif (inR x2 (List.length (List.set x6 (Int.toNat x2) (List.set (List.getD x6 (Int.toNat x2) (List.replicate 6 false)) (Int.toNat x3) true)))) then
bif (inR x3 6) then
bif (List.getD (List.getD (List.set x6 (Int.toNat x2) (List.set (List.getD x6 (Int.toNat x2) (List.replicate 6 false)) (Int.toNat x3) true)) (Int.toNat x2) (List.replicate 6 false)) (Int.toNat x3) false) then (
some (Sum.inr (Sum.inr false)))
else (
some (Sum.inl (x0, x1, x2, (IntKind.wrap .i64 (x3 + (1 : Int))), x4, x5, (List.set x6 (Int.toNat x2) (List.set (List.getD x6 (Int.toNat x2) (List.replicate 6 false)) (Int.toNat x3) true)), x7, x8, x9, x10, x11, x12, x13, x14, x15)))
else none
else none)
else (
some (Sum.inl (x0, x1, x2, (IntKind.wrap .i64 (x3 + (1 : Int))), x4, x5, (List.set x6 (Int.toNat x2) (List.set (List.getD x6 (Int.toNat x2) (List.replicate 6 false)) (Int.toNat x3) true)), x7, x8, x9, x10, x11, x12, x13, x14, x15)))
else none)
else (
some (Sum.inl (x0, x1, x2, (IntKind.wrap .i64 (x3 + (1 : Int))), x4, x5, (List.set x6 (Int.toNat x2) (List.set (List.getD x6 (Int.toNat x2) (List.replicate 6 false)) (Int.toNat x3) true)), x7, x8, x9, x10, x11, x12, x13, x14, x15)))
else none
else none
else none)
else (
bif (inR x2 (List.length x14)) then
bif (List.getD x14 (Int.toNat x2) false) then (
bif (inR x2 (List.length x7)) then
bif (!(List.getD x7 (Int.toNat x2) false)) then (
bif (inR x2 (List.length x6)) then
bif (inR x3 6) then
bif (List.getD (List.getD x6 (Int.toNat x2) (List.replicate 6 false)) (Int.toNat x3) false) then (
some (Sum.inr (Sum.inr false)))
else (
some (Sum.inl (x0, x1, x2, (IntKind.wrap .i64 (x3 + (1 : Int))), x4, x5, x6, x7, x8, x9, x10, x11, x12, x13, x14, x15)))
else none
else none)
else (
some (Sum.inl (x0, x1, x2, (IntKind.wrap .i64 (x3 + (1 : Int))), x4, x5, x6, x7, x8, x9, x10, x11, x12, x13, x14, x15)))
else none)
else (
some (Sum.inl (x0, x1, x2, (IntKind.wrap .i64 (x3 + (1 : Int))), x4, x5, x6, x7, x8, x9, x10, x11, x12, x13, x14, x15)))
else none)
else none)
else (
bif (inR x2 (List.length x14)) then
bif (List.getD x14 (Int.toNat x2) false) then (
bif (inR x2 (List.length x7)) then
bif (!(List.getD x7 (Int.toNat x2) false)) then (
bif (inR x2 (List.length x6)) then
bif (inR x3 6) then
bif (List.getD (List.getD x6 (Int.toNat x2) (List.replicate 6 false)) (Int.toNat x3) false) then (
some (Sum.inr (Sum.inr false)))
else (
some (Sum.inl (x0, x1, x2, (IntKind.wrap .i64 (x3 + (1 : Int))), x4, x5, x6, x7, x8, x9, x10, x11, x12, x13, x14, x15)))
else none
else none)
else (
some (Sum.inl (x0, x1, x2, (IntKind.wrap .i64 (x3 + (1 : Int))), x4, x5, x6, x7, x8, x9, x10, x11, x12, x13, x14, x15)))
else none)
else (
some (Sum.inl (x0, x1, x2, (IntKind.wrap .i64 (x3 + (1 : Int))), x4, x5, x6, x7, x8, x9, x10, x11, x12, x13, x14, x15)))
else none)
else none)
else none)
else (
some (Sum.inr (Sum.inl (x0, x1, x2, x4, x5, x6, x7, x8, x9, x10, x11, x12, x13, x14, x15))))
noncomputable def qf94L1B : ((Val (.slice TReq)) × Int × Int × Int × (Val (.arr 6 (.int .i64))) × Int × (Val (.slice (.arr 6 .bool))) × (Val (.slice .bool)) × (Val (.slice (.int .i64))) × Int × Int × (Val (.pair (.int .i64) THead)) × (Val (.slice (.int .i64))) × (Val (.slice TPtr)) × (Val (.slice .bool)) × (Val (.slice TPage))) → Option (((Val (.slice TReq)) × Int × Int × Int × (Val (.arr 6 (.int .i64))) × Int × (Val (.slice (.arr 6 .bool))) × (Val (.slice .bool)) × (Val (.slice (.int .i64))) × Int × Int × (Val (.pair (.int .i64) THead)) × (Val (.slice (.int .i64))) × (Val (.slice TPtr)) × (Val (.slice .bool)) × (Val (.slice TPage))) ⊕ (((Val (.slice TReq)) × Int × Int × (Val (.arr 6 (.int .i64))) × Int × (Val (.slice (.arr 6 .bool))) × (Val (.slice .bool)) × (Val (.slice (.int .i64))) × Int × Int × (Val (.pair (.int .i64) THead)) × (Val (.slice (.int .i64))) × (Val (.slice TPtr)) × (Val (.slice .bool)) × (Val (.slice TPage))) ⊕ (Bool))) := fun y => qf94L1b y.1 y.2.1 y.2.2.1 y.2.2.2.1 y.2.2.2.2.1 y.2.2.2.2.2.1 y.2.2.2.2.2.2.1 y.2.2.2.2.2.2.2.1 y.2.2.2.2.2.2.2.2.1 y.2.2.2.2.2.2.2.2.2.1 y.2.2.2.2.2.2.2.2.2.2.1 y.2.2.2.2.2.2.2.2.2.2.2.1 y.2.2.2.2.2.2.2.2.2.2.2.2.1 y.2.2.2.2.2.2.2.2.2.2.2.2.2.1 y.2.2.2.2.2.2.2.2.2.2.2.2.2.2.1 y.2.2.2.2.2.2.2.2.2.2.2.2.2.2.2
noncomputable def qf94L1 (x0 : Val (.slice TReq)) (x1 : Int) (x2 : Int) (x3 : Int) (x4 : Val (.arr 6 (.int .i64))) (x5 : Int) (x6 : Val (.slice (.arr 6 .bool))) (x7 : Val (.slice .bool)) (x8 : Val (.slice (.int .i64))) (x9 : Int) (x10 : Int) (x11 : Val (.pair (.int .i64) THead)) (x12 : Val (.slice (.int .i64))) (x13 : Val (.slice TPtr)) (x14 : Val (.slice .bool)) (x15 : Val (.slice TPage)) : Option (((Val (.slice TReq)) × Int × Int × (Val (.arr 6 (.int .i64))) × Int × (Val (.slice (.arr 6 .bool))) × (Val (.slice .bool)) × (Val (.slice (.int .i64))) × Int × Int × (Val (.pair (.int .i64) THead)) × (Val (.slice (.int .i64))) × (Val (.slice TPtr)) × (Val (.slice .bool)) × (Val (.slice TPage))) ⊕ (Bool)) := iter qf94L1B (x0, x1, x2, x3, x4, x5, x6, x7, x8, x9, x10, x11, x12, x13, x14, x15)
noncomputable def qf94L2b (x0 : Val (.slice TReq)) (x1 : Int) (x2 : Int) (x3 : Val (.arr 6 (.int .i64))) (x4 : Int) (x5 : Val (.slice (.arr 6 .bool))) (x6 : Val (.slice .bool)) (x7 : Val (.slice (.int .i64))) (x8 : Int) (x9 : Int) (x10 : Val (.pair (.int .i64) THead)) (x11 : Val (.slice (.int .i64))) (x12 : Val (.slice TPtr)) (x13 : Val (.slice .bool)) (x14 : Val (.slice TPage)) : Option (((Val (.slice TReq)) × Int × Int × (Val (.arr 6 (.int .i64))) × Int × (Val (.slice (.arr 6 .bool))) × (Val (.slice .bool)) × (Val (.slice (.int .i64))) × Int × Int × (Val (.pair (.int .i64) THead)) × (Val (.slice (.int .i64))) × (Val (.slice TPtr)) × (Val (.slice .bool)) × (Val (.slice TPage))) ⊕ (((Val (.slice TReq)) × Int × (Val (.arr 6 (.int .i64))) × Int × (Val (.slice (.arr 6 .bool))) × Int × Int × (Val (.pair (.int .i64) THead)) × (Val (.slice (.int .i64))) × (Val (.slice TPtr)) × (Val (.slice .bool)) × (Val (.slice TPage))) ⊕ (Bool))) :=
bif (decide (x2 < (((List.length x12) : Nat) : Int))) then (
(qf94L1 x0 x1 x2 (0 : Int) x3 x4 x5 x6 x7 x8 x9 x10 x11 x12 x13 x14).bind fun r1 =>
match r1 with
| .inl r2 => (
bif (inR r2.2.2.1 (List.length r2.2.2.2.2.2.2.2.2.2.2.2.2.1)) then
(qf93 r2.2.2.2.2.2.2.2.2.2.2.2.2.2.2 (List.getD r2.2.2.2.2.2.2.2.2.2.2.2.2.1 (Int.toNat r2.2.2.1) ((0 : Int), (0 : Int), ())) (1 : Int)).bind fun r4 =>
bif (inR r2.2.2.1 (List.length r2.2.2.2.2.2.2.2.2.2.2.2.2.2.1)) then
bif (r4.2.1 == (List.getD r2.2.2.2.2.2.2.2.2.2.2.2.2.2.1 (Int.toNat r2.2.2.1) false)) then (
some (Sum.inr (Sum.inr false)))
else (
bif (inR r2.2.2.1 (List.length r2.2.2.2.2.2.2.2.2.2.2.2.2.2.1)) then
bif (List.getD r2.2.2.2.2.2.2.2.2.2.2.2.2.2.1 (Int.toNat r2.2.2.1) false) then (
bif (!(decide (r4.2.2 = (11 : Int)))) then (
some (Sum.inr (Sum.inr false)))
else (
some (Sum.inl (r2.1, r2.2.1, (IntKind.wrap .i64 (r2.2.2.1 + (1 : Int))), r2.2.2.2))))
else (
some (Sum.inl (r2.1, r2.2.1, (IntKind.wrap .i64 (r2.2.2.1 + (1 : Int))), r2.2.2.2)))
else none)
else none
else none)
| .inr r3 => (
some (Sum.inr (Sum.inr r3))))
else (
some (Sum.inr (Sum.inl (x0, x1, x3, x4, x5, x8, x9, x10, x11, x12, x13, x14))))
noncomputable def qf94L2B : ((Val (.slice TReq)) × Int × Int × (Val (.arr 6 (.int .i64))) × Int × (Val (.slice (.arr 6 .bool))) × (Val (.slice .bool)) × (Val (.slice (.int .i64))) × Int × Int × (Val (.pair (.int .i64) THead)) × (Val (.slice (.int .i64))) × (Val (.slice TPtr)) × (Val (.slice .bool)) × (Val (.slice TPage))) → Option (((Val (.slice TReq)) × Int × Int × (Val (.arr 6 (.int .i64))) × Int × (Val (.slice (.arr 6 .bool))) × (Val (.slice .bool)) × (Val (.slice (.int .i64))) × Int × Int × (Val (.pair (.int .i64) THead)) × (Val (.slice (.int .i64))) × (Val (.slice TPtr)) × (Val (.slice .bool)) × (Val (.slice TPage))) ⊕ (((Val (.slice TReq)) × Int × (Val (.arr 6 (.int .i64))) × Int × (Val (.slice (.arr 6 .bool))) × Int × Int × (Val (.pair (.int .i64) THead)) × (Val (.slice (.int .i64))) × (Val (.slice TPtr)) × (Val (.slice .bool)) × (Val (.slice TPage))) ⊕ (Bool))) := fun y => qf94L2b y.1 y.2.1 y.2.2.1 y.2.2.2.1 y.2.2.2.2.1 y.2.2.2.2.2.1 y.2.2.2.2.2.2.1 y.2.2.2.2.2.2.2.1 y.2.2.2.2.2.2.2.2.1 y.2.2.2.2.2.2.2.2.2.1 y.2.2.2.2.2.2.2.2.2.2.1 y.2.2.2.2.2.2.2.2.2.2.2.1 y.2.2.2.2.2.2.2.2.2.2.2.2.1 y.2.2.2.2.2.2.2.2.2.2.2.2.2.1 y.2.2.2.2.2.2.2.2.2.2.2.2.2.2
noncomputable def qf94L2 (x0 : Val (.slice TReq)) (x1 : Int) (x2 : Int) (x3 : Val (.arr 6 (.int .i64))) (x4 : Int) (x5 : Val (.slice (.arr 6 .bool))) (x6 : Val (.slice .bool)) (x7 : Val (.slice (.int .i64))) (x8 : Int) (x9 : Int) (x10 : Val (.pair (.int .i64) THead)) (x11 : Val (.slice (.int .i64))) (x12 : Val (.slice TPtr)) (x13 : Val (.slice .bool)) (x14 : Val (.slice TPage)) : Option (((Val (.slice TReq)) × Int × (Val (.arr 6 (.int .i64))) × Int × (Val (.slice (.arr 6 .bool))) × Int × Int × (Val (.pair (.int .i64) THead)) × (Val (.slice (.int .i64))) × (Val (.slice TPtr)) × (Val (.slice .bool)) × (Val (.slice TPage))) ⊕ (Bool)) := iter qf94L2B (x0, x1, x2, x3, x4, x5, x6, x7, x8, x9, x10, x11, x12, x13, x14)
noncomputable def qf94L3b (x0 : Val (.slice TReq)) (x1 : Int) (x2 : Int) (x3 : Val (.arr 6 (.int .i64))) (x4 : Int) (x5 : Val (.slice (.arr 6 .bool))) (x6 : Int) (x7 : Int) (x8 : Val (.pair (.int .i64) THead)) (x9 : Val (.slice (.int .i64))) (x10 : Val (.slice TPtr)) (x11 : Val (.slice .bool)) (x12 : Val (.slice TPage)) : Option (((Val (.slice TReq)) × Int × Int × (Val (.arr 6 (.int .i64))) × Int × (Val (.slice (.arr 6 .bool))) × Int × Int × (Val (.pair (.int .i64) THead)) × (Val (.slice (.int .i64))) × (Val (.slice TPtr)) × (Val (.slice .bool)) × (Val (.slice TPage))) ⊕ (((Val (.slice TReq)) × Int × (Val (.arr 6 (.int .i64))) × Int × (Val (.slice (.arr 6 .bool))) × Int × Int × (Val (.pair (.int .i64) THead)) × (Val (.slice (.int .i64))) × (Val (.slice TPtr)) × (Val (.slice .bool)) × (Val (.slice TPage))) ⊕ (Bool))) :=
bif (decide (x2 < (6 : Int))) then (
bif (inR x2 6) then
bif (decide ((0 : Int) < (List.getD x3 (Int.toNat x2) (0 : Int)))) then (
bif (inR x2 6) then
bif (!(decide ((IntKind.wrap .i64 ((List.getD x3 (Int.toNat x2) (0 : Int)) - (1 : Int))) = x4))) then (
bif (inR x2 6) then
bif (!(decide ((List.getD x3 (Int.toNat x2) (0 : Int)) = x4))) then (
some (Sum.inr (Sum.inr false)))
else (
some (Sum.inl (x0, x1, (IntKind.wrap .i64 (x2 + (1 : Int))), x3, x4, x5, x6, x7, x8, x9, x10, x11, x12)))
else none)
else (
some (Sum.inl (x0, x1, (IntKind.wrap .i64 (x2 + (1 : Int))), x3, x4, x5, x6, x7, x8, x9, x10, x11, x12)))
else none)
else (
some (Sum.inl (x0, x1, (IntKind.wrap .i64 (x2 + (1 : Int))), x3, x4, x5, x6, x7, x8, x9, x10, x11, x12)))
else none)
else (
some (Sum.inr (Sum.inl (x0, x1, x3, x4, x5, x6, x7, x8, x9, x10, x11, x12))))
noncomputable def qf94L3B : ((Val (.slice TReq)) × Int × Int × (Val (.arr 6 (.int .i64))) × Int × (Val (.slice (.arr 6 .bool))) × Int × Int × (Val (.pair (.int .i64) THead)) × (Val (.slice (.int .i64))) × (Val (.slice TPtr)) × (Val (.slice .bool)) × (Val (.slice TPage))) → Option (((Val (.slice TReq)) × Int × Int × (Val (.arr 6 (.int .i64))) × Int × (Val (.slice (.arr 6 .bool))) × Int × Int × (Val (.pair (.int .i64) THead)) × (Val (.slice (.int .i64))) × (Val (.slice TPtr)) × (Val (.slice .bool)) × (Val (.slice TPage))) ⊕ (((Val (.slice TReq)) × Int × (Val (.arr 6 (.int .i64))) × Int × (Val (.slice (.arr 6 .bool))) × Int × Int × (Val (.pair (.int .i64) THead)) × (Val (.slice (.int .i64))) × (Val (.slice TPtr)) × (Val (.slice .bool)) × (Val (.slice TPage))) ⊕ (Bool))) := fun y => qf94L3b y.1 y.2.1 y.2.2.1 y.2.2.2.1 y.2.2.2.2.1 y.2.2.2.2.2.1 y.2.2.2.2.2.2.1 y.2.2.2.2.2.2.2.1 y.2.2.2.2.2.2.2.2.1 y.2.2.2.2.2.2.2.2.2.1 y.2.2.2.2.2.2.2.2.2.2.1 y.2.2.2.2.2.2.2.2.2.2.2.1 y.2.2.2.2.2.2.2.2.2.2.2.2
noncomputable def qf94L3 (x0 : Val (.slice TReq)) (x1 : Int) (x2 : Int) (x3 : Val (.arr 6 (.int .i64))) (x4 : Int) (x5 : Val (.slice (.arr 6 .bool))) (x6 : Int) (x7 : Int) (x8 : Val (.pair (.int .i64) THead)) (x9 : Val (.slice (.int .i64))) (x10 : Val (.slice TPtr)) (x11 : Val (.slice .bool)) (x12 : Val (.slice TPage)) : Option (((Val (.slice TReq)) × Int × (Val (.arr 6 (.int .i64))) × Int × (Val (.slice (.arr 6 .bool))) × Int × Int × (Val (.pair (.int .i64) THead)) × (Val (.slice (.int .i64))) × (Val (.slice TPtr)) × (Val (.slice .bool)) × (Val (.slice TPage))) ⊕ (Bool)) := iter qf94L3B (x0, x1, x2, x3, x4, x5, x6, x7, x8, x9, x10, x11, x12)
noncomputable def qf94L4b (x0 : Val (.slice TReq)) (x1 : Int) (x2 : Val (.arr 6 (.int .i64))) (x3 : Int) (x4 : Val (.slice (.arr 6 .bool))) (x5 : Int) (x6 : Int) (x7 : Val (.pair (.int .i64) THead)) (x8 : Val (.slice (.int .i64))) (x9 : Val (.slice TPtr)) (x10 : Val (.slice .bool)) (x11 : Val (.slice TPage)) : Option (((Val (.slice TReq)) × Int × (Val (.arr 6 (.int .i64))) × Int × (Val (.slice (.arr 6 .bool))) × Int × Int × (Val (.pair (.int .i64) THead)) × (Val (.slice (.int .i64))) × (Val (.slice TPtr)) × (Val (.slice .bool)) × (Val (.slice TPage))) ⊕ ((Unit) ⊕ (Bool))) :=
bif (decide (x1 < (((List.length x0) : Nat) : Int))) then (
bif (decide ((0 + (List.length x10)) ≤ lim)) then
bif (decide ((0 + (List.length x8)) ≤ lim)) then
bif (inR x1 (List.length x0)) then
(qf91 (List.getD x0 (Int.toNat x1) ((0 : Int), (0 : Int), (0 : Int), ())) x1 x2 x3 x5 x6 x7 x11 x8 x9 x10).bind fun r1 =>
bif (!r1.1) then (
some (Sum.inr (Sum.inr false)))
else (
(qf94L2 x0 x1 (0 : Int) r1.2.1 r1.2.2.1 x4 ([] ++ x10) ([] ++ x8) r1.2.2.2.1 r1.2.2.2.2.1 r1.2.2.2.2.2.1 r1.2.2.2.2.2.2.2.1 r1.2.2.2.2.2.2.2.2.1 r1.2.2.2.2.2.2.2.2.2 r1.2.2.2.2.2.2.1).bind fun r2 =>
match r2 with
| .inl r3 => (
(qf94L3 r3.1 r3.2.1 (0 : Int) r3.2.2.1 r3.2.2.2.1 r3.2.2.2.2.1 r3.2.2.2.2.2.1 r3.2.2.2.2.2.2.1 r3.2.2.2.2.2.2.2.1 r3.2.2.2.2.2.2.2.2.1 r3.2.2.2.2.2.2.2.2.2.1 r3.2.2.2.2.2.2.2.2.2.2.1 r3.2.2.2.2.2.2.2.2.2.2.2).bind fun r5 =>
match r5 with
| .inl r6 => (
some (Sum.inl (r6.1, (IntKind.wrap .i64 (r6.2.1 + (1 : Int))), r6.2.2)))
| .inr r7 => (
some (Sum.inr (Sum.inr r7))))
| .inr r4 => (
some (Sum.inr (Sum.inr r4))))
else none
else none
else none)
else (
some (Sum.inr (Sum.inl ())))
noncomputable def qf94L4B : ((Val (.slice TReq)) × Int × (Val (.arr 6 (.int .i64))) × Int × (Val (.slice (.arr 6 .bool))) × Int × Int × (Val (.pair (.int .i64) THead)) × (Val (.slice (.int .i64))) × (Val (.slice TPtr)) × (Val (.slice .bool)) × (Val (.slice TPage))) → Option (((Val (.slice TReq)) × Int × (Val (.arr 6 (.int .i64))) × Int × (Val (.slice (.arr 6 .bool))) × Int × Int × (Val (.pair (.int .i64) THead)) × (Val (.slice (.int .i64))) × (Val (.slice TPtr)) × (Val (.slice .bool)) × (Val (.slice TPage))) ⊕ ((Unit) ⊕ (Bool))) := fun y => qf94L4b y.1 y.2.1 y.2.2.1 y.2.2.2.1 y.2.2.2.2.1 y.2.2.2.2.2.1 y.2.2.2.2.2.2.1 y.2.2.2.2.2.2.2.1 y.2.2.2.2.2.2.2.2.1 y.2.2.2.2.2.2.2.2.2.1 y.2.2.2.2.2.2.2.2.2.2.1 y.2.2.2.2.2.2.2.2.2.2.2
noncomputable def qf94L4 (x0 : Val (.slice TReq)) (x1 : Int) (x2 : Val (.arr 6 (.int .i64))) (x3 : Int) (x4 : Val (.slice (.arr 6 .bool))) (x5 : Int) (x6 : Int) (x7 : Val (.pair (.int .i64) THead)) (x8 : Val (.slice (.int .i64))) (x9 : Val (.slice TPtr)) (x10 : Val (.slice .bool)) (x11 : Val (.slice TPage)) : Option ((Unit) ⊕ (Bool)) := iter qf94L4B (x0, x1, x2, x3, x4, x5, x6, x7, x8, x9, x10, x11)
noncomputable def qf94 (a0 : Int) (a1 : Val (.slice TReq)) : Option Bool :=
bif (decide ((80 : Int) < (((List.length a1) : Nat) : Int))) then (
(qf1).bind fun r1 =>
some r1)
else (
(qf1).bind fun r2 =>
bif (!r2) then (
(qf1).bind fun r3 =>
some r3)
else (
(qf59 a0).bind fun r4 =>
bif (!r4.1) then (
some false)
else (
bif (((decide ((0 : Int) ≤ (((List.length r4.2.2.2.2.2.2.2.1) : Nat) : Int))) && (decide ((((List.length r4.2.2.2.2.2.2.2.1) : Nat) : Int) ≤ (((List.length r4.2.2.2.2.2.2.2.1) : Nat) : Int)))) && (decide ((((List.length r4.2.2.2.2.2.2.2.1) : Nat) : Int) ≤ (lim : Int)))) then
(qf94L4 a1 (0 : Int) r4.2.1 r4.2.2.1 (List.replicate (List.length r4.2.2.2.2.2.2.2.1) (List.replicate 6 false)) r4.2.2.2.1 r4.2.2.2.2.1 r4.2.2.2.2.2.1 r4.2.2.2.2.2.2.1 r4.2.2.2.2.2.2.2.1 r4.2.2.2.2.2.2.2.2.1 r4.2.2.2.2.2.2.2.2.2).bind fun r5 =>
match r5 with
| .inl r6 => (
some true)
| .inr r7 => (
some r7)
else none)))
abbrev qf94L1Y : Type := (Val (.slice TReq)) × Int × Int × Int × (Val (.arr 6 (.int .i64))) × Int × (Val (.slice (.arr 6 .bool))) × (Val (.slice .bool)) × (Val (.slice (.int .i64))) × Int × Int × (Val (.pair (.int .i64) THead)) × (Val (.slice (.int .i64))) × (Val (.slice TPtr)) × (Val (.slice .bool)) × (Val (.slice TPage))
abbrev qf94L1Z : Type := ((Val (.slice TReq)) × Int × Int × (Val (.arr 6 (.int .i64))) × Int × (Val (.slice (.arr 6 .bool))) × (Val (.slice .bool)) × (Val (.slice (.int .i64))) × Int × Int × (Val (.pair (.int .i64) THead)) × (Val (.slice (.int .i64))) × (Val (.slice TPtr)) × (Val (.slice .bool)) × (Val (.slice TPage))) ⊕ (Bool)
abbrev qf94L2Y : Type := (Val (.slice TReq)) × Int × Int × (Val (.arr 6 (.int .i64))) × Int × (Val (.slice (.arr 6 .bool))) × (Val (.slice .bool)) × (Val (.slice (.int .i64))) × Int × Int × (Val (.pair (.int .i64) THead)) × (Val (.slice (.int .i64))) × (Val (.slice TPtr)) × (Val (.slice .bool)) × (Val (.slice TPage))
abbrev qf94L2Z : Type := ((Val (.slice TReq)) × Int × (Val (.arr 6 (.int .i64))) × Int × (Val (.slice (.arr 6 .bool))) × Int × Int × (Val (.pair (.int .i64) THead)) × (Val (.slice (.int .i64))) × (Val (.slice TPtr)) × (Val (.slice .bool)) × (Val (.slice TPage))) ⊕ (Bool)
abbrev qf94L3Y : Type := (Val (.slice TReq)) × Int × Int × (Val (.arr 6 (.int .i64))) × Int × (Val (.slice (.arr 6 .bool))) × Int × Int × (Val (.pair (.int .i64) THead)) × (Val (.slice (.int .i64))) × (Val (.slice TPtr)) × (Val (.slice .bool)) × (Val (.slice TPage))
abbrev qf94L3Z : Type := ((Val (.slice TReq)) × Int × (Val (.arr 6 (.int .i64))) × Int × (Val (.slice (.arr 6 .bool))) × Int × Int × (Val (.pair (.int .i64) THead)) × (Val (.slice (.int .i64))) × (Val (.slice TPtr)) × (Val (.slice .bool)) × (Val (.slice TPage))) ⊕ (Bool)
abbrev qf94L4Y : Type := (Val (.slice TReq)) × Int × (Val (.arr 6 (.int .i64))) × Int × (Val (.slice (.arr 6 .bool))) × Int × Int × (Val (.pair (.int .i64) THead)) × (Val (.slice (.int .i64))) × (Val (.slice TPtr)) × (Val (.slice .bool)) × (Val (.slice TPage))
noncomputable def qf94I : Shape := ⟨210, 0, [(0, .dat false (.int .i64)), (1, .dat false (.slice TReq))], [], [], true⟩
noncomputable def qf94O : Shape := ⟨211, 0, [(210, .dat true .bool)], [], [], true⟩
noncomputable def qf94F : (Int × (Val (.slice TReq))) → Option Bool := fun y => qf94 y.1 y.2
noncomputable def qf94ct : Ctr := ctrOf qf94I qf94O id id qf94F
noncomputable def qf94E : Env := { tf := tfE, mt := mtE, fn := fun f => bif Nat.beq f 37 then some qf1ct else bif Nat.beq f 38 then some qf59ct else bif Nat.beq f 39 then some qf91ct else bif Nat.beq f 40 then some qf93ct else none }
theorem qf94_env : EnvOk PT qf94E := ⟨tyE, (fun f ct h => by
  simp only [qf94E] at h
  refine envCons (c := qf1ct) h qf1_ctr (fun h => ?_)
  refine envCons (c := qf59ct) h qf59_ctr (fun h => ?_)
  refine envCons (c := qf91ct) h qf91_ctr (fun h => ?_)
  refine envCons (c := qf93ct) h qf93_ctr (fun h => ?_)
  cases h), mapE⟩
noncomputable def qf94C : Code := bodyOf Tryz.f9
noncomputable def qf94L4C : Code := (loopsOf qf94C).getD 0 .skip
noncomputable def qf94L2C : Code := (loopsOf qf94C).getD 1 .skip
noncomputable def qf94L1C : Code := (loopsOf qf94C).getD 2 .skip
noncomputable def qf94L3C : Code := (loopsOf qf94C).getD 3 .skip
noncomputable def qf94L1S : Shape := ⟨210, 9, [(1, .dat false (.slice TReq)), (5, .ref 0 []), (7, .own (.arr 6 .bool) 1), (8, .dat true (.int .i64)), (9, .own .bool 2), (10, .own (.int .i64) 3), (11, .dat true (.int .i64)), (12, .dat true (.int .i64))], [(0, .box (.pair (.cell .ptr) (.pair (.arr 6 (.int .i64)) (.pair (.slice (.int .i64)) (.pair (.slice TPtr) (.pair (.slice .bool) (.pair (.int .i64) .unit)))))) (.cons (.ref 4 []) (.cons (.dat false (.arr 6 (.int .i64))) (.cons (.own (.int .i64) 5) (.cons (.own TPtr 6) (.cons (.own .bool 7) (.cons (.dat false (.int .i64)) (.nil)))))))), (1, .slc true (.arr 6 .bool)), (2, .slc true .bool), (3, .slc true (.int .i64)), (4, .box TStore (.cons (.own TPage 8) (.cons (.dat false (.int .i64)) (.cons (.dat false (.int .i64)) (.cons (.nils) (.cons (.dat false (.pair (.int .i64) THead)) (.nil))))))), (5, .slc true (.int .i64)), (6, .slc true TPtr), (7, .slc true .bool), (8, .slc true TPage)], [], true⟩
noncomputable def qf94L1O : List (Ex × Shape) := [(.exit 4, ⟨210, 9, [(1, .dat false (.slice TReq)), (5, .ref 0 []), (7, .own (.arr 6 .bool) 1), (8, .dat true (.int .i64)), (9, .own .bool 2), (10, .own (.int .i64) 3), (11, .dat true (.int .i64))], [(0, .box (.pair (.cell .ptr) (.pair (.arr 6 (.int .i64)) (.pair (.slice (.int .i64)) (.pair (.slice TPtr) (.pair (.slice .bool) (.pair (.int .i64) .unit)))))) (.cons (.ref 4 []) (.cons (.dat false (.arr 6 (.int .i64))) (.cons (.own (.int .i64) 5) (.cons (.own TPtr 6) (.cons (.own .bool 7) (.cons (.dat false (.int .i64)) (.nil)))))))), (1, .slc true (.arr 6 .bool)), (2, .slc true .bool), (3, .slc true (.int .i64)), (4, .box TStore (.cons (.own TPage 8) (.cons (.dat false (.int .i64)) (.cons (.dat false (.int .i64)) (.cons (.nils) (.cons (.dat false (.pair (.int .i64) THead)) (.nil))))))), (5, .slc true (.int .i64)), (6, .slc true TPtr), (7, .slc true .bool), (8, .slc true TPage)], [], true⟩), (.ret, ⟨210, 0, [(4, .dat true .bool)], [], [], true⟩)]
noncomputable def qf94L1M : Sum := loopSum (Y := qf94L1Y) (Z := qf94L1Z) qf94L1S qf94L1O id id (iter qf94L1B)
noncomputable def qf94L2S : Shape := ⟨210, 9, [(1, .dat false (.slice TReq)), (5, .ref 0 []), (7, .own (.arr 6 .bool) 1), (8, .dat true (.int .i64)), (9, .own .bool 2), (10, .own (.int .i64) 3), (11, .dat true (.int .i64))], [(0, .box (.pair (.cell .ptr) (.pair (.arr 6 (.int .i64)) (.pair (.slice (.int .i64)) (.pair (.slice TPtr) (.pair (.slice .bool) (.pair (.int .i64) .unit)))))) (.cons (.ref 4 []) (.cons (.dat false (.arr 6 (.int .i64))) (.cons (.own (.int .i64) 5) (.cons (.own TPtr 6) (.cons (.own .bool 7) (.cons (.dat false (.int .i64)) (.nil)))))))), (1, .slc true (.arr 6 .bool)), (2, .slc true .bool), (3, .slc true (.int .i64)), (4, .box TStore (.cons (.own TPage 8) (.cons (.dat false (.int .i64)) (.cons (.dat false (.int .i64)) (.cons (.nils) (.cons (.dat false (.pair (.int .i64) THead)) (.nil))))))), (5, .slc true (.int .i64)), (6, .slc true TPtr), (7, .slc true .bool), (8, .slc true TPage)], [], true⟩
noncomputable def qf94L2O : List (Ex × Shape) := [(.exit 2, ⟨210, 7, [(1, .dat false (.slice TReq)), (5, .ref 0 []), (7, .own (.arr 6 .bool) 1), (8, .dat true (.int .i64))], [(0, .box (.pair (.cell .ptr) (.pair (.arr 6 (.int .i64)) (.pair (.slice (.int .i64)) (.pair (.slice TPtr) (.pair (.slice .bool) (.pair (.int .i64) .unit)))))) (.cons (.ref 2 []) (.cons (.dat false (.arr 6 (.int .i64))) (.cons (.own (.int .i64) 3) (.cons (.own TPtr 4) (.cons (.own .bool 5) (.cons (.dat false (.int .i64)) (.nil)))))))), (1, .slc true (.arr 6 .bool)), (2, .box TStore (.cons (.own TPage 6) (.cons (.dat false (.int .i64)) (.cons (.dat false (.int .i64)) (.cons (.nils) (.cons (.dat false (.pair (.int .i64) THead)) (.nil))))))), (3, .slc true (.int .i64)), (4, .slc true TPtr), (5, .slc true .bool), (6, .slc true TPage)], [], true⟩), (.ret, ⟨210, 0, [(4, .dat true .bool)], [], [], true⟩)]
noncomputable def qf94L2M : Sum := loopSum (Y := qf94L2Y) (Z := qf94L2Z) qf94L2S qf94L2O id id (iter qf94L2B)
noncomputable def qf94L3S : Shape := ⟨210, 7, [(1, .dat false (.slice TReq)), (5, .ref 0 []), (7, .own (.arr 6 .bool) 1), (8, .dat true (.int .i64)), (16, .dat true (.int .i64))], [(0, .box (.pair (.cell .ptr) (.pair (.arr 6 (.int .i64)) (.pair (.slice (.int .i64)) (.pair (.slice TPtr) (.pair (.slice .bool) (.pair (.int .i64) .unit)))))) (.cons (.ref 2 []) (.cons (.dat false (.arr 6 (.int .i64))) (.cons (.own (.int .i64) 3) (.cons (.own TPtr 4) (.cons (.own .bool 5) (.cons (.dat false (.int .i64)) (.nil)))))))), (1, .slc true (.arr 6 .bool)), (2, .box TStore (.cons (.own TPage 6) (.cons (.dat false (.int .i64)) (.cons (.dat false (.int .i64)) (.cons (.nils) (.cons (.dat false (.pair (.int .i64) THead)) (.nil))))))), (3, .slc true (.int .i64)), (4, .slc true TPtr), (5, .slc true .bool), (6, .slc true TPage)], [], true⟩
noncomputable def qf94L3O : List (Ex × Shape) := [(.exit 6, ⟨210, 7, [(1, .dat false (.slice TReq)), (5, .ref 0 []), (7, .own (.arr 6 .bool) 1), (8, .dat true (.int .i64))], [(0, .box (.pair (.cell .ptr) (.pair (.arr 6 (.int .i64)) (.pair (.slice (.int .i64)) (.pair (.slice TPtr) (.pair (.slice .bool) (.pair (.int .i64) .unit)))))) (.cons (.ref 2 []) (.cons (.dat false (.arr 6 (.int .i64))) (.cons (.own (.int .i64) 3) (.cons (.own TPtr 4) (.cons (.own .bool 5) (.cons (.dat false (.int .i64)) (.nil)))))))), (1, .slc true (.arr 6 .bool)), (2, .box TStore (.cons (.own TPage 6) (.cons (.dat false (.int .i64)) (.cons (.dat false (.int .i64)) (.cons (.nils) (.cons (.dat false (.pair (.int .i64) THead)) (.nil))))))), (3, .slc true (.int .i64)), (4, .slc true TPtr), (5, .slc true .bool), (6, .slc true TPage)], [], true⟩), (.ret, ⟨210, 0, [(4, .dat true .bool)], [], [], true⟩)]
noncomputable def qf94L3M : Sum := loopSum (Y := qf94L3Y) (Z := qf94L3Z) qf94L3S qf94L3O id id (iter qf94L3B)
noncomputable def qf94L4S : Shape := ⟨210, 7, [(1, .dat false (.slice TReq)), (5, .ref 0 []), (7, .own (.arr 6 .bool) 1), (8, .dat true (.int .i64))], [(0, .box (.pair (.cell .ptr) (.pair (.arr 6 (.int .i64)) (.pair (.slice (.int .i64)) (.pair (.slice TPtr) (.pair (.slice .bool) (.pair (.int .i64) .unit)))))) (.cons (.ref 2 []) (.cons (.dat false (.arr 6 (.int .i64))) (.cons (.own (.int .i64) 3) (.cons (.own TPtr 4) (.cons (.own .bool 5) (.cons (.dat false (.int .i64)) (.nil)))))))), (1, .slc true (.arr 6 .bool)), (2, .box TStore (.cons (.own TPage 6) (.cons (.dat false (.int .i64)) (.cons (.dat false (.int .i64)) (.cons (.nils) (.cons (.dat false (.pair (.int .i64) THead)) (.nil))))))), (3, .slc true (.int .i64)), (4, .slc true TPtr), (5, .slc true .bool), (6, .slc true TPage)], [], true⟩
noncomputable def qf94L4O : List (Ex × Shape) := [(.exit 0, ⟨210, 0, [], [], [], true⟩), (.ret, ⟨210, 0, [(4, .dat true .bool)], [], [], true⟩)]
noncomputable def qf94L4M : Sum := loopSum (Y := qf94L4Y) (Z := (Unit) ⊕ (Bool)) qf94L4S qf94L4O id id (iter qf94L4B)
noncomputable def qf94H : Nat → Option Sum := fun n => bif Nat.beq n 18 then some qf94L1M else bif Nat.beq n 15 then some qf94L2M else bif Nat.beq n 30 then some qf94L3M else bif Nat.beq n 8 then some qf94L4M else none
theorem qf94L1_bd (y : qf94L1Y) : @Eq (Option (qf94L1Y ⊕ qf94L1Z)) (exec qf94E qf94H qf94L1C (qf94L1S.mk' (show qf94L1S.D from y)) (kont (Y := qf94L1Y) (Z := qf94L1Z) qf94L1S qf94L1O id id)) (qf94L1B y) := by kernel_rfl
theorem qf94L1_ok {w0 : World} {Jo : Io} (hfix : ∀ i b, Jo.fix i = some b → i ∈ []) (hmay : true = true → Jo.may) : SumOk PT w0 Jo qf94L1M (.loop qf94L1C) :=
  @loop_ok w0 Jo PT qf94E qf94H qf94L1Y qf94L1Z qf94_env mixed qf94L1C qf94L1S qf94L1O id id id id (fun _ => rfl) (fun _ => rfl) hfix hmay (by kernel_rfl) (noLoops (by kernel_rfl)) qf94L1B qf94L1_bd
theorem qf94L2_bd (y : qf94L2Y) : @Eq (Option (qf94L2Y ⊕ qf94L2Z)) (exec qf94E qf94H qf94L2C (qf94L2S.mk' (show qf94L2S.D from y)) (kont (Y := qf94L2Y) (Z := qf94L2Z) qf94L2S qf94L2O id id)) (qf94L2B y) := by kernel_rfl
theorem qf94L2_ok {w0 : World} {Jo : Io} (hfix : ∀ i b, Jo.fix i = some b → i ∈ []) (hmay : true = true → Jo.may) : SumOk PT w0 Jo qf94L2M (.loop qf94L2C) :=
  @loop_ok w0 Jo PT qf94E qf94H qf94L2Y qf94L2Z qf94_env mixed qf94L2C qf94L2S qf94L2O id id id id (fun _ => rfl) (fun _ => rfl) hfix hmay (by kernel_rfl) (loopsMk (by kernel_rfl) (loopsCons (c := qf94L1C) (n := 18) (f := qf94L1M) (by kernel_rfl) (by kernel_rfl) (qf94L1_ok hfix hmay) loopsNil)) qf94L2B qf94L2_bd
theorem qf94L3_bd (y : qf94L3Y) : @Eq (Option (qf94L3Y ⊕ qf94L3Z)) (exec qf94E qf94H qf94L3C (qf94L3S.mk' (show qf94L3S.D from y)) (kont (Y := qf94L3Y) (Z := qf94L3Z) qf94L3S qf94L3O id id)) (qf94L3B y) := by kernel_rfl
theorem qf94L3_ok {w0 : World} {Jo : Io} (hfix : ∀ i b, Jo.fix i = some b → i ∈ []) (hmay : true = true → Jo.may) : SumOk PT w0 Jo qf94L3M (.loop qf94L3C) :=
  @loop_ok w0 Jo PT qf94E qf94H qf94L3Y qf94L3Z qf94_env mixed qf94L3C qf94L3S qf94L3O id id id id (fun _ => rfl) (fun _ => rfl) hfix hmay (by kernel_rfl) (noLoops (by kernel_rfl)) qf94L3B qf94L3_bd
theorem qf94L4_bd (y : qf94L4Y) : @Eq (Option (qf94L4Y ⊕ ((Unit) ⊕ (Bool)))) (exec qf94E qf94H qf94L4C (qf94L4S.mk' (show qf94L4S.D from y)) (kont (Y := qf94L4Y) (Z := (Unit) ⊕ (Bool)) qf94L4S qf94L4O id id)) (qf94L4B y) := by kernel_rfl
theorem qf94L4_ok {w0 : World} {Jo : Io} (hfix : ∀ i b, Jo.fix i = some b → i ∈ []) (hmay : true = true → Jo.may) : SumOk PT w0 Jo qf94L4M (.loop qf94L4C) :=
  @loop_ok w0 Jo PT qf94E qf94H qf94L4Y ((Unit) ⊕ (Bool)) qf94_env mixed qf94L4C qf94L4S qf94L4O id id id id (fun _ => rfl) (fun _ => rfl) hfix hmay (by kernel_rfl) (loopsMk (by kernel_rfl) (loopsCons (c := qf94L2C) (n := 15) (f := qf94L2M) (by kernel_rfl) (by kernel_rfl) (qf94L2_ok hfix hmay) (loopsCons (c := qf94L1C) (n := 18) (f := qf94L1M) (by kernel_rfl) (by kernel_rfl) (qf94L1_ok hfix hmay) (loopsCons (c := qf94L3C) (n := 30) (f := qf94L3M) (by kernel_rfl) (by kernel_rfl) (qf94L3_ok hfix hmay) loopsNil)))) qf94L4B qf94L4_bd
theorem qf94_bd (y : Int × (Val (.slice TReq))) : @Eq (Option Bool) (exec qf94E qf94H qf94C (qf94I.mk' (show qf94I.D from y)) (kontF (Z := Bool) qf94E Tryz.f9.results.toList qf94O id)) (qf94F y) := by kernel_rfl
theorem qf94_lo {w0 : World} {Jo : Io} (hfix : ∀ i b, Jo.fix i = some b → i ∈ []) (hmay : true = true → Jo.may) : LoopsOk PT w0 Jo qf94H qf94C := (loopsMk (by kernel_rfl) (loopsCons (c := qf94L4C) (n := 8) (f := qf94L4M) (by kernel_rfl) (by kernel_rfl) (qf94L4_ok hfix hmay) (loopsCons (c := qf94L2C) (n := 15) (f := qf94L2M) (by kernel_rfl) (by kernel_rfl) (qf94L2_ok hfix hmay) (loopsCons (c := qf94L1C) (n := 18) (f := qf94L1M) (by kernel_rfl) (by kernel_rfl) (qf94L1_ok hfix hmay) (loopsCons (c := qf94L3C) (n := 30) (f := qf94L3M) (by kernel_rfl) (by kernel_rfl) (qf94L3_ok hfix hmay) loopsNil)))))
theorem qf94_ctr : CtrOk PT 9 qf94ct :=
  @ctr_ok PT qf94E qf94H qf94_env mixed 9 Tryz.f9 qf94C (by kernel_rfl) (by kernel_rfl) (enters_of (by kernel_rfl : PT.funcs[9]? = some Tryz.f9) (by kernel_rfl) (by kernel_rfl)) qf94I qf94O (Int × (Val (.slice TReq))) Bool id id id id (fun _ => rfl) (fun _ => rfl) (by kernel_rfl) (by kernel_rfl) qf94F qf94_bd (fun w0 Jo hfix hmay => qf94_lo hfix hmay)
end Go.Sx
