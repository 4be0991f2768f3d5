/- A1: printed by a program of this session: the functions of the seat as plain functions, and that the code comes to them. -/
import Derived.Test.YteghkndbngddgaaGreatA1a
set_option linter.unusedVariables false
set_option maxRecDepth 100000
namespace Go.Sx
open Go.RowKit Go.Proofs
noncomputable def qf53L4C : Code := (loopsOf qf53C).getD 2 .skip
noncomputable def qf53L3C : Code := (loopsOf qf53C).getD 3 .skip
noncomputable def qf53L5C : Code := (loopsOf qf53C).getD 4 .skip
noncomputable def qf53L1S : Shape := ⟨254, 4, [(1, .dat false (.slice TPage)), (2, .ref 0 []), (4, .own (.int .i64) 1), (5, .nils), (6, .nils), (12, .dat true (.slice (.int .i64))), (13, .mp 2), (14, .mp 3), (94, .dat true (.slice (.int .i64))), (95, .dat true (.int .i64)), (96, .dat true (.int .i64))], [(0, .box TReq (.dat false TReq)), (1, .slc true (.int .i64)), (2, .map .i64 true TPage), (3, .map .i64 true THead)], [], true⟩
noncomputable def qf53L1O : List (Ex × Shape) := [(.exit 0, ⟨254, 4, [(1, .dat false (.slice TPage)), (2, .ref 0 []), (4, .own (.int .i64) 1), (5, .nils), (6, .nils), (12, .dat true (.slice (.int .i64))), (13, .mp 2), (14, .mp 3)], [(0, .box TReq (.dat false TReq)), (1, .slc true (.int .i64)), (2, .map .i64 true TPage), (3, .map .i64 true THead)], [], true⟩), (.ret, ⟨254, 0, [(4, .nils), (5, .nils), (6, .nils), (7, .dat true (.int .i64)), (8, .dat true .bool)], [], [], true⟩)]
noncomputable def qf53L1M : Sum := loopSum (Y := qf53L1Y) (Z := qf53L1Z) qf53L1S qf53L1O id id (iter qf53L1B)
noncomputable def qf53L2S : Shape := ⟨254, 4, [(1, .dat false (.slice TPage)), (2, .ref 0 []), (4, .own (.int .i64) 1), (5, .nils), (6, .nils), (13, .mp 2), (14, .mp 3), (21, .dat true (.slice (.int .i64))), (126, .dat true (.slice (.int .i64))), (127, .dat true (.int .i64)), (128, .dat true (.int .i64))], [(0, .box TReq (.dat false TReq)), (1, .slc true (.int .i64)), (2, .map .i64 true TPage), (3, .map .i64 true THead)], [], true⟩
noncomputable def qf53L2O : List (Ex × Shape) := [(.exit 3, ⟨254, 4, [(1, .dat false (.slice TPage)), (2, .ref 0 []), (4, .own (.int .i64) 1), (5, .nils), (6, .nils), (13, .mp 2), (14, .mp 3), (21, .dat true (.slice (.int .i64)))], [(0, .box TReq (.dat false TReq)), (1, .slc true (.int .i64)), (2, .map .i64 true TPage), (3, .map .i64 true THead)], [], true⟩)]
noncomputable def qf53L2M : Sum := loopSum (Y := qf53L2Y) (Z := qf53L2Z) qf53L2S qf53L2O id id (iter qf53L2B)
noncomputable def qf53L3S : Shape := ⟨254, 7, [(1, .dat false (.slice TPage)), (2, .ref 0 []), (4, .own (.int .i64) 1), (5, .own TPage 2), (6, .nils), (13, .mp 3), (14, .mp 4), (21, .dat true (.slice (.int .i64))), (24, .dat true (.int .i64)), (25, .mp 5), (27, .dat true (.int .i64)), (28, .ref 6 []), (29, .dat true (.int .i64)), (143, .dat true (.slice (.int .i64))), (144, .dat true (.int .i64)), (145, .dat true (.int .i64))], [(0, .box TReq (.dat false TReq)), (1, .slc true (.int .i64)), (2, .slc true TPage), (3, .map .i64 true TPage), (4, .map .i64 true THead), (5, .map .i64 true THead), (6, .box THead (.dat true THead))], [], true⟩
noncomputable def qf53L3O : List (Ex × Shape) := [(.exit 7, ⟨254, 6, [(1, .dat false (.slice TPage)), (2, .ref 0 []), (4, .own (.int .i64) 1), (5, .own TPage 2), (6, .nils), (13, .mp 3), (14, .mp 4), (21, .dat true (.slice (.int .i64))), (24, .dat true (.int .i64)), (25, .mp 5), (143, .dat true (.slice (.int .i64))), (144, .dat true (.int .i64)), (145, .dat true (.int .i64))], [(0, .box TReq (.dat false TReq)), (1, .slc true (.int .i64)), (2, .slc true TPage), (3, .map .i64 true TPage), (4, .map .i64 true THead), (5, .map .i64 true THead)], [], true⟩), (.ret, ⟨254, 0, [(4, .nils), (5, .nils), (6, .nils), (7, .dat true (.int .i64)), (8, .dat true .bool)], [], [], true⟩)]
noncomputable def qf53L3M : Sum := loopSum (Y := qf53L3Y) (Z := qf53L3Z) qf53L3S qf53L3O id id (iter qf53L3B)
noncomputable def qf53L4S : Shape := ⟨254, 6, [(1, .dat false (.slice TPage)), (2, .ref 0 []), (4, .own (.int .i64) 1), (5, .own TPage 2), (6, .nils), (13, .mp 3), (14, .mp 4), (21, .dat true (.slice (.int .i64))), (24, .dat true (.int .i64)), (25, .mp 5), (143, .dat true (.slice (.int .i64))), (144, .dat true (.int .i64)), (145, .dat true (.int .i64))], [(0, .box TReq (.dat false TReq)), (1, .slc true (.int .i64)), (2, .slc true TPage), (3, .map .i64 true TPage), (4, .map .i64 true THead), (5, .map .i64 true THead)], [], true⟩
noncomputable def qf53L4O : List (Ex × Shape) := [(.exit 5, ⟨254, 5, [(2, .ref 0 []), (4, .own (.int .i64) 1), (5, .own TPage 2), (6, .nils), (13, .mp 3), (21, .dat true (.slice (.int .i64))), (24, .dat true (.int .i64)), (25, .mp 4)], [(0, .box TReq (.dat false TReq)), (1, .slc true (.int .i64)), (2, .slc true TPage), (3, .map .i64 true TPage), (4, .map .i64 true THead)], [], true⟩), (.ret, ⟨254, 0, [(4, .nils), (5, .nils), (6, .nils), (7, .dat true (.int .i64)), (8, .dat true .bool)], [], [], true⟩)]
noncomputable def qf53L4M : Sum := loopSum (Y := qf53L4Y) (Z := qf53L4Z) qf53L4S qf53L4O id id (iter qf53L4B)
noncomputable def qf53L5S : Shape := ⟨254, 4, [(5, .own TPage 0), (6, .own TPage 1), (13, .mp 2), (25, .mp 3), (226, .dat true (.slice (.int .i64))), (227, .dat true (.int .i64)), (228, .dat true (.int .i64))], [(0, .slc true TPage), (1, .slc true TPage), (2, .map .i64 true TPage), (3, .map .i64 true THead)], [], true⟩
noncomputable def qf53L5O : List (Ex × Shape) := [(.exit 10, ⟨254, 2, [(5, .own TPage 0), (6, .own TPage 1)], [(0, .slc true TPage), (1, .slc true TPage)], [], true⟩)]
noncomputable def qf53L5M : Sum := loopSum (Y := qf53L5Y) (Z := qf53L5Z) qf53L5S qf53L5O id id (iter qf53L5B)
noncomputable def qf53H : Nat → Option Sum := fun n => bif Nat.beq n 14 then some qf53L1M else bif Nat.beq n 25 then some qf53L2M else bif Nat.beq n 36 then some qf53L3M else bif Nat.beq n 32 then some qf53L4M else bif Nat.beq n 59 then some qf53L5M else none
theorem qf53L1_bd (y : qf53L1Y) : @Eq (Option (qf53L1Y ⊕ qf53L1Z)) (exec qf53E qf53H qf53L1C (qf53L1S.mk' (show qf53L1S.D from y)) (kont (Y := qf53L1Y) (Z := qf53L1Z) qf53L1S qf53L1O id id)) (qf53L1B y) := by kernel_rfl
theorem qf53L1_ok {w0 : World} {Jo : Io} (hfix : ∀ i b, Jo.fix i = some b → i ∈ []) (hmay : true = true → Jo.may) : SumOk PT w0 Jo qf53L1M (.loop qf53L1C) :=
  @loop_ok w0 Jo PT qf53E qf53H qf53L1Y qf53L1Z qf53_env mixed qf53L1C qf53L1S qf53L1O id id id id (fun _ => rfl) (fun _ => rfl) hfix hmay (by kernel_rfl) (noLoops (by kernel_rfl)) qf53L1B qf53L1_bd
theorem qf53L2_bd (y : qf53L2Y) : @Eq (Option (qf53L2Y ⊕ qf53L2Z)) (exec qf53E qf53H qf53L2C (qf53L2S.mk' (show qf53L2S.D from y)) (kont (Y := qf53L2Y) (Z := qf53L2Z) qf53L2S qf53L2O id id)) (qf53L2B y) := by kernel_rfl
theorem qf53L2_ok {w0 : World} {Jo : Io} (hfix : ∀ i b, Jo.fix i = some b → i ∈ []) (hmay : true = true → Jo.may) : SumOk PT w0 Jo qf53L2M (.loop qf53L2C) :=
  @loop_ok w0 Jo PT qf53E qf53H qf53L2Y qf53L2Z qf53_env mixed qf53L2C qf53L2S qf53L2O id id id id (fun _ => rfl) (fun _ => rfl) hfix hmay (by kernel_rfl) (noLoops (by kernel_rfl)) qf53L2B qf53L2_bd
theorem qf53L3_bd (y : qf53L3Y) : @Eq (Option (qf53L3Y ⊕ qf53L3Z)) (exec qf53E qf53H qf53L3C (qf53L3S.mk' (show qf53L3S.D from y)) (kont (Y := qf53L3Y) (Z := qf53L3Z) qf53L3S qf53L3O id id)) (qf53L3B y) := by kernel_rfl
theorem qf53L3_ok {w0 : World} {Jo : Io} (hfix : ∀ i b, Jo.fix i = some b → i ∈ []) (hmay : true = true → Jo.may) : SumOk PT w0 Jo qf53L3M (.loop qf53L3C) :=
  @loop_ok w0 Jo PT qf53E qf53H qf53L3Y qf53L3Z qf53_env mixed qf53L3C qf53L3S qf53L3O id id id id (fun _ => rfl) (fun _ => rfl) hfix hmay (by kernel_rfl) (noLoops (by kernel_rfl)) qf53L3B qf53L3_bd
theorem qf53L4_bd (y : qf53L4Y) : @Eq (Option (qf53L4Y ⊕ qf53L4Z)) (exec qf53E qf53H qf53L4C (qf53L4S.mk' (show qf53L4S.D from y)) (kont (Y := qf53L4Y) (Z := qf53L4Z) qf53L4S qf53L4O id id)) (qf53L4B y) := by kernel_rfl
theorem qf53L4_ok {w0 : World} {Jo : Io} (hfix : ∀ i b, Jo.fix i = some b → i ∈ []) (hmay : true = true → Jo.may) : SumOk PT w0 Jo qf53L4M (.loop qf53L4C) :=
  @loop_ok w0 Jo PT qf53E qf53H qf53L4Y qf53L4Z qf53_env mixed qf53L4C qf53L4S qf53L4O id id id id (fun _ => rfl) (fun _ => rfl) hfix hmay (by kernel_rfl) (loopsMk (by kernel_rfl) (loopsCons (c := qf53L3C) (n := 36) (f := qf53L3M) (by kernel_rfl) (by kernel_rfl) (qf53L3_ok hfix hmay) loopsNil)) qf53L4B qf53L4_bd
theorem qf53L5_bd (y : qf53L5Y) : @Eq (Option (qf53L5Y ⊕ qf53L5Z)) (exec qf53E qf53H qf53L5C (qf53L5S.mk' (show qf53L5S.D from y)) (kont (Y := qf53L5Y) (Z := qf53L5Z) qf53L5S qf53L5O id id)) (qf53L5B y) := by kernel_rfl
theorem qf53L5_ok {w0 : World} {Jo : Io} (hfix : ∀ i b, Jo.fix i = some b → i ∈ []) (hmay : true = true → Jo.may) : SumOk PT w0 Jo qf53L5M (.loop qf53L5C) :=
  @loop_ok w0 Jo PT qf53E qf53H qf53L5Y qf53L5Z qf53_env mixed qf53L5C qf53L5S qf53L5O id id id id (fun _ => rfl) (fun _ => rfl) hfix hmay (by kernel_rfl) (noLoops (by kernel_rfl)) qf53L5B qf53L5_bd
theorem qf53_bd (y : (Val TReq) × (Val (.slice TPage))) : @Eq (Option qf53Z) (exec qf53E qf53H qf53C (qf53I.mk' (show qf53I.D from y)) (kontF (Z := qf53Z) qf53E Tryz.f27.results.toList qf53O id)) (qf53F y) := by kernel_rfl
theorem qf53_lo {w0 : World} {Jo : Io} (hfix : ∀ i b, Jo.fix i = some b → i ∈ []) (hmay : true = true → Jo.may) : LoopsOk PT w0 Jo qf53H qf53C := (loopsMk (by kernel_rfl) (loopsCons (c := qf53L1C) (n := 14) (f := qf53L1M) (by kernel_rfl) (by kernel_rfl) (qf53L1_ok hfix hmay) (loopsCons (c := qf53L2C) (n := 25) (f := qf53L2M) (by kernel_rfl) (by kernel_rfl) (qf53L2_ok hfix hmay) (loopsCons (c := qf53L4C) (n := 32) (f := qf53L4M) (by kernel_rfl) (by kernel_rfl) (qf53L4_ok hfix hmay) (loopsCons (c := qf53L3C) (n := 36) (f := qf53L3M) (by kernel_rfl) (by kernel_rfl) (qf53L3_ok hfix hmay) (loopsCons (c := qf53L5C) (n := 59) (f := qf53L5M) (by kernel_rfl) (by kernel_rfl) (qf53L5_ok hfix hmay) loopsNil))))))
theorem qf53_ctr : CtrOk PT 27 qf53ct :=
  @ctr_ok PT qf53E qf53H qf53_env mixed 27 Tryz.f27 qf53C (by kernel_rfl) (by kernel_rfl) (enters_of (by kernel_rfl : PT.funcs[27]? = some Tryz.f27) (by kernel_rfl) (by kernel_rfl)) qf53I qf53O ((Val TReq) × (Val (.slice TPage))) qf53Z id id id id (fun _ => rfl) (fun _ => rfl) (by kernel_rfl) (by kernel_rfl) qf53F qf53_bd (fun w0 Jo hfix hmay => qf53_lo hfix hmay)
noncomputable def qf54 (a0 : Val TPage) : Option ((Val (.pair (.int .i64) THead))) :=
(qf52 (List.getD a0.2.2.1 0 (0 : Int))).bind fun r1 =>
some r1
noncomputable def qf54I : Shape := ⟨7, 0, [(0, .dat false TPage)], [], [], true⟩
noncomputable def qf54O : Shape := ⟨8, 0, [(7, .dat true (.pair (.int .i64) THead))], [], [], true⟩
noncomputable def qf54F : ((Val TPage)) → Option ((Val (.pair (.int .i64) THead))) := fun y => qf54 y
noncomputable def qf54ct : Ctr := ctrOf qf54I qf54O id id qf54F
noncomputable def qf54E : Env := { tf := tfE, mt := mtE, fn := fun f => bif Nat.beq f 71 then some qf52ct else none }
theorem qf54_env : EnvOk PT qf54E := ⟨tyE, (fun f ct h => by
  simp only [qf54E] at h
  refine envCons (c := qf52ct) h qf52_ctr (fun h => ?_)
  cases h), mapE⟩
noncomputable def qf54C : Code := bodyOf Tryz.f125
theorem qf54_bd (y : (Val TPage)) : @Eq (Option ((Val (.pair (.int .i64) THead)))) (exec qf54E qf0H qf54C (qf54I.mk' (show qf54I.D from y)) (kontF (Z := (Val (.pair (.int .i64) THead))) qf54E Tryz.f125.results.toList qf54O id)) (qf54F y) := by kernel_rfl
theorem qf54_ctr : CtrOk PT 125 qf54ct :=
  @ctr_ok PT qf54E qf0H qf54_env mixed 125 Tryz.f125 qf54C (by kernel_rfl) (by kernel_rfl) (enters_of (by kernel_rfl : PT.funcs[125]? = some Tryz.f125) (by kernel_rfl) (by kernel_rfl)) qf54I qf54O ((Val TPage)) ((Val (.pair (.int .i64) THead))) id id id id (fun _ => rfl) (fun _ => rfl) (by kernel_rfl) (by kernel_rfl) qf54F qf54_bd (fun _ _ _ _ => noLoops (by kernel_rfl))
noncomputable def qf55 (a0 : Val (.pair (.int .i64) THead)) : Option Int :=
some (IntKind.wrap .u64 ((BitVec.ofInt (IntKind.bits .u64) (IntKind.wrap .u64 ((BitVec.ofInt (IntKind.bits .u64) (IntKind.wrap .u64 ((BitVec.ofInt (IntKind.bits .u64) (IntKind.wrap .u64 a0.1) &&& BitVec.ofInt (IntKind.bits .u64) (255 : Int)).toNat : Int)) ||| BitVec.ofInt (IntKind.bits .u64) (shiftL .u64 (IntKind.wrap .u64 ((BitVec.ofInt (IntKind.bits .u64) (IntKind.wrap .u64 a0.2.1) &&& BitVec.ofInt (IntKind.bits .u64) (16777215 : Int)).toNat : Int)) (8 : Int))).toNat : Int)) ||| BitVec.ofInt (IntKind.bits .u64) (shiftL .u64 (IntKind.wrap .u64 a0.2.2.1) (32 : Int))).toNat : Int))
noncomputable def qf55I : Shape := ⟨22, 0, [(0, .dat false (.pair (.int .i64) THead))], [], [], true⟩
noncomputable def qf55O : Shape := ⟨23, 0, [(22, .dat true (.int .u64))], [], [], true⟩
noncomputable def qf55F : ((Val (.pair (.int .i64) THead))) → Option Int := fun y => qf55 y
noncomputable def qf55ct : Ctr := ctrOf qf55I qf55O id id qf55F
noncomputable def qf55E : Env := { tf := tfE, mt := mtE, fn := fun f => none }
theorem qf55_env : EnvOk PT qf55E := ⟨tyE, (fun f ct h => by
  simp only [qf55E] at h
  cases h), mapE⟩
noncomputable def qf55C : Code := bodyOf Tryz.f151
theorem qf55_bd (y : (Val (.pair (.int .i64) THead))) : @Eq (Option Int) (exec qf55E qf0H qf55C (qf55I.mk' (show qf55I.D from y)) (kontF (Z := Int) qf55E Tryz.f151.results.toList qf55O id)) (qf55F y) := by kernel_rfl
theorem qf55_ctr : CtrOk PT 151 qf55ct :=
  @ctr_ok PT qf55E qf0H qf55_env mixed 151 Tryz.f151 qf55C (by kernel_rfl) (by kernel_rfl) (enters_of (by kernel_rfl : PT.funcs[151]? = some Tryz.f151) (by kernel_rfl) (by kernel_rfl)) qf55I qf55O ((Val (.pair (.int .i64) THead))) Int id id id id (fun _ => rfl) (fun _ => rfl) (by kernel_rfl) (by kernel_rfl) qf55F qf55_bd (fun _ _ _ _ => noLoops (by kernel_rfl))
noncomputable def qf56 (a0 : Val TPage) (a1 : Val (.pair (.int .i64) THead)) : Option ((Val TPage)) :=
(qf55 a1).bind fun r1 =>
some (a0.1, a0.2.1, (List.set (List.replicate 7 (0 : Int)) 0 r1), ())
abbrev qf56Y : Type := (Val TPage) × (Val (.pair (.int .i64) THead))
noncomputable def qf56I : Shape := ⟨16, 0, [(0, .dat false TPage), (1, .dat false (.pair (.int .i64) THead))], [], [], true⟩
noncomputable def qf56O : Shape := ⟨17, 0, [(16, .dat true TPage)], [], [], true⟩
noncomputable def qf56F : qf56Y → Option ((Val TPage)) := fun y => qf56 y.1 y.2
noncomputable def qf56ct : Ctr := ctrOf qf56I qf56O id id qf56F
noncomputable def qf56E : Env := { tf := tfE, mt := mtE, fn := fun f => bif Nat.beq f 151 then some qf55ct else none }
theorem qf56_env : EnvOk PT qf56E := ⟨tyE, (fun f ct h => by
  simp only [qf56E] at h
  refine envCons (c := qf55ct) h qf55_ctr (fun h => ?_)
  cases h), mapE⟩
noncomputable def qf56C : Code := bodyOf Tryz.f126
theorem qf56_bd (y : qf56Y) : @Eq (Option ((Val TPage))) (exec qf56E qf0H qf56C (qf56I.mk' (show qf56I.D from y)) (kontF (Z := (Val TPage)) qf56E Tryz.f126.results.toList qf56O id)) (qf56F y) := by kernel_rfl
theorem qf56_ctr : CtrOk PT 126 qf56ct :=
  @ctr_ok PT qf56E qf0H qf56_env mixed 126 Tryz.f126 qf56C (by kernel_rfl) (by kernel_rfl) (enters_of (by kernel_rfl : PT.funcs[126]? = some Tryz.f126) (by kernel_rfl) (by kernel_rfl)) qf56I qf56O qf56Y ((Val TPage)) id id id id (fun _ => rfl) (fun _ => rfl) (by kernel_rfl) (by kernel_rfl) qf56F qf56_bd (fun _ _ _ _ => noLoops (by kernel_rfl))
noncomputable def qf57 (a0 : Val TPage) (a1 : Int) (a2 : Int) : Option ((Val TPage) × Int) :=
(qf54 a0).bind fun r1 =>
(qf20 a0.1).bind fun r2 =>
bif (!r2) then (
some (((0 : Int), (0 : Int), (List.replicate 7 (0 : Int)), ()), (1 : Int)))
else (
bif (decide (a1 < (1 : Int))) then (
some (((0 : Int), (0 : Int), (List.replicate 7 (0 : Int)), ()), (1 : Int)))
else (
bif (decide ((4 : Int) < a1)) then (
some (((0 : Int), (0 : Int), (List.replicate 7 (0 : Int)), ()), (1 : Int)))
else (
(qf17 a0).bind fun r3 =>
bif r3 then (
some (((0 : Int), (0 : Int), (List.replicate 7 (0 : Int)), ()), (3 : Int)))
else (
bif (!(decide (r1.1 = (0 : Int)))) then (
some (((0 : Int), (0 : Int), (List.replicate 7 (0 : Int)), ()), (17 : Int)))
else (
bif (decide (r1.2.1 = (16777215 : Int))) then (
some (((0 : Int), (0 : Int), (List.replicate 7 (0 : Int)), ()), (18 : Int)))
else (
(qf56 a0 (a1, (IntKind.wrap .i64 (r1.2.1 + (1 : Int))), a2, ())).bind fun r4 =>
some (r4, (0 : Int))))))))
noncomputable def qf57I : Shape := ⟨47, 0, [(0, .dat false TPage), (1, .dat false (.int .i64)), (2, .dat false (.int .u32))], [], [], true⟩
noncomputable def qf57O : Shape := ⟨48, 0, [(47, .tup (.cons (.dat true TPage) (.cons (.dat true (.int .i64)) (.nil))))], [], [], true⟩
noncomputable def qf57F : ((Val TPage) × Int × Int) → Option ((Val TPage) × Int) := fun y => qf57 y.1 y.2.1 y.2.2
noncomputable def qf57ct : Ctr := ctrOf qf57I qf57O id id qf57F
noncomputable def qf57E : Env := { tf := tfE, mt := mtE, fn := fun f => bif Nat.beq f 125 then some qf54ct else bif Nat.beq f 124 then some qf20ct else bif Nat.beq f 72 then some qf17ct else bif Nat.beq f 126 then some qf56ct else none }
theorem qf57_env : EnvOk PT qf57E := ⟨tyE, (fun f ct h => by
  simp only [qf57E] at h
  refine envCons (c := qf54ct) h qf54_ctr (fun h => ?_)
  refine envCons (c := qf20ct) h qf20_ctr (fun h => ?_)
  refine envCons (c := qf17ct) h qf17_ctr (fun h => ?_)
  refine envCons (c := qf56ct) h qf56_ctr (fun h => ?_)
  cases h), mapE⟩
noncomputable def qf57C : Code := bodyOf Tryz.f100
theorem qf57_bd (y : (Val TPage) × Int × Int) : @Eq (Option ((Val TPage) × Int)) (exec qf57E qf0H qf57C (qf57I.mk' (show qf57I.D from y)) (kontF (Z := (Val TPage) × Int) qf57E Tryz.f100.results.toList qf57O id)) (qf57F y) := by kernel_rfl
theorem qf57_ctr : CtrOk PT 100 qf57ct :=
  @ctr_ok PT qf57E qf0H qf57_env mixed 100 Tryz.f100 qf57C (by kernel_rfl) (by kernel_rfl) (enters_of (by kernel_rfl : PT.funcs[100]? = some Tryz.f100) (by kernel_rfl) (by kernel_rfl)) qf57I qf57O ((Val TPage) × Int × Int) ((Val TPage) × Int) id id id id (fun _ => rfl) (fun _ => rfl) (by kernel_rfl) (by kernel_rfl) qf57F qf57_bd (fun _ _ _ _ => noLoops (by kernel_rfl))
noncomputable def qf58 (a0 : Val TPage) : Option ((Val TPtr)) :=
(qf54 a0).bind fun r1 =>
some (a0.1, r1.2.1, ())
noncomputable def qf58I : Shape := ⟨9, 0, [(0, .dat false TPage)], [], [], true⟩
noncomputable def qf58O : Shape := ⟨10, 0, [(9, .dat true TPtr)], [], [], true⟩
noncomputable def qf58F : ((Val TPage)) → Option ((Val TPtr)) := fun y => qf58 y
noncomputable def qf58ct : Ctr := ctrOf qf58I qf58O id id qf58F
noncomputable def qf58E : Env := { tf := tfE, mt := mtE, fn := fun f => bif Nat.beq f 125 then some qf54ct else none }
theorem qf58_env : EnvOk PT qf58E := ⟨tyE, (fun f ct h => by
  simp only [qf58E] at h
  refine envCons (c := qf54ct) h qf54_ctr (fun h => ?_)
  cases h), mapE⟩
noncomputable def qf58C : Code := bodyOf Tryz.f101
theorem qf58_bd (y : (Val TPage)) : @Eq (Option ((Val TPtr))) (exec qf58E qf0H qf58C (qf58I.mk' (show qf58I.D from y)) (kontF (Z := (Val TPtr)) qf58E Tryz.f101.results.toList qf58O id)) (qf58F y) := by kernel_rfl
theorem qf58_ctr : CtrOk PT 101 qf58ct :=
  @ctr_ok PT qf58E qf0H qf58_env mixed 101 Tryz.f101 qf58C (by kernel_rfl) (by kernel_rfl) (enters_of (by kernel_rfl : PT.funcs[101]? = some Tryz.f101) (by kernel_rfl) (by kernel_rfl)) qf58I qf58O ((Val TPage)) ((Val TPtr)) id id id id (fun _ => rfl) (fun _ => rfl) (by kernel_rfl) (by kernel_rfl) qf58F qf58_bd (fun _ _ _ _ => noLoops (by kernel_rfl))
noncomputable def qf59L1b (x0 : Val (.slice TPage)) (x1 : Int) (x2 : Val (.arr 6 (.int .i64))) (x3 : Int) (x4 : Int) (x5 : Int) (x6 : Val (.pair (.int .i64) THead)) (x7 : Val (.slice (.int .i64))) (x8 : Val (.slice TPtr)) (x9 : Val (.slice .bool)) (x10 : Val (.slice TPage)) : Option (((Val (.slice TPage)) × Int × (Val (.arr 6 (.int .i64))) × Int × Int × Int × (Val (.pair (.int .i64) THead)) × (Val (.slice (.int .i64))) × (Val (.slice TPtr)) × (Val (.slice .bool)) × (Val (.slice TPage))) ⊕ (((Val (.arr 6 (.int .i64))) × Int × Int × Int × (Val (.pair (.int .i64) THead)) × (Val (.slice (.int .i64))) × (Val (.slice TPtr)) × (Val (.slice .bool)) × (Val (.slice TPage))) ⊕ (Bool))) :=
bif (decide (x1 < (((List.length x0) : Nat) : Int))) then (
bif (inR x1 (List.length x0)) then
(qf57 (List.getD x0 (Int.toNat x1) ((0 : Int), (0 : Int), (List.replicate 7 (0 : Int)), ())) (1 : Int) (0 : Int)).bind fun r1 =>
bif (!(decide (r1.2 = (0 : Int)))) then (
some (Sum.inr (Sum.inr false)))
else (
(qf49 [r1.1] x4 x5 x6 x10).bind fun r2 =>
(qf58 r1.1).bind fun r3 =>
bif (decide (((List.length x8) + 1) ≤ lim)) then
bif (decide (((List.length x7) + 1) ≤ lim)) then
bif (decide (((List.length x9) + 1) ≤ lim)) then
some (Sum.inl (x0, (IntKind.wrap .i64 (x1 + (1 : Int))), x2, x3, r2.1, r2.2.1, r2.2.2.1, (x7 ++ [(-1 : Int)]), (x8 ++ [r3]), (x9 ++ [false]), r2.2.2.2))
else none
else none
else none)
else none)
else (
some (Sum.inr (Sum.inl (x2, x3, x4, x5, x6, x7, x8, x9, x10))))
noncomputable def qf59L1B : ((Val (.slice TPage)) × Int × (Val (.arr 6 (.int .i64))) × Int × Int × Int × (Val (.pair (.int .i64) THead)) × (Val (.slice (.int .i64))) × (Val (.slice TPtr)) × (Val (.slice .bool)) × (Val (.slice TPage))) → Option (((Val (.slice TPage)) × Int × (Val (.arr 6 (.int .i64))) × Int × Int × Int × (Val (.pair (.int .i64) THead)) × (Val (.slice (.int .i64))) × (Val (.slice TPtr)) × (Val (.slice .bool)) × (Val (.slice TPage))) ⊕ (((Val (.arr 6 (.int .i64))) × Int × Int × Int × (Val (.pair (.int .i64) THead)) × (Val (.slice (.int .i64))) × (Val (.slice TPtr)) × (Val (.slice .bool)) × (Val (.slice TPage))) ⊕ (Bool))) := fun y => qf59L1b y.1 y.2.1 y.2.2.1 y.2.2.2.1 y.2.2.2.2.1 y.2.2.2.2.2.1 y.2.2.2.2.2.2.1 y.2.2.2.2.2.2.2.1 y.2.2.2.2.2.2.2.2.1 y.2.2.2.2.2.2.2.2.2.1 y.2.2.2.2.2.2.2.2.2.2
noncomputable def qf59L1 (x0 : Val (.slice TPage)) (x1 : Int) (x2 : Val (.arr 6 (.int .i64))) (x3 : Int) (x4 : Int) (x5 : Int) (x6 : Val (.pair (.int .i64) THead)) (x7 : Val (.slice (.int .i64))) (x8 : Val (.slice TPtr)) (x9 : Val (.slice .bool)) (x10 : Val (.slice TPage)) : Option (((Val (.arr 6 (.int .i64))) × Int × Int × Int × (Val (.pair (.int .i64) THead)) × (Val (.slice (.int .i64))) × (Val (.slice TPtr)) × (Val (.slice .bool)) × (Val (.slice TPage))) ⊕ (Bool)) := iter qf59L1B (x0, x1, x2, x3, x4, x5, x6, x7, x8, x9, x10)
noncomputable def qf59 (a0 : Int) : Option (Bool × (Val (.arr 6 (.int .i64))) × Int × Int × Int × (Val (.pair (.int .i64) THead)) × (Val (.slice (.int .i64))) × (Val (.slice TPtr)) × (Val (.slice .bool)) × (Val (.slice TPage))) :=
(qf3 a0).bind fun r1 =>
(qf4 r1).bind fun r2 =>
(qf48 ((0 : Int), (1 : Int), r2.1, (-1 : Int), ()) r2.2.2.2).bind fun r3 =>
bif (!r3.2.2.2.2) then (
none)
else (
bif (!(decide (r3.2.2.2.1 = (0 : Int)))) then (
none)
else (
(qf49 r3.2.1 r2.1 r2.2.1 r2.2.2.1 r2.2.2.2).bind fun r4 =>
(qf53 ((0 : Int), r4.1, (12 : Int), ()) r4.2.2.2).bind fun r5 =>
bif (!r5.2.2.2.2) then (
none)
else (
bif (!(decide (r5.2.2.2.1 = (0 : Int)))) then (
none)
else (
bif (!(decide ((((List.length r5.2.1) : Nat) : Int) = (12 : Int)))) then (
none)
else (
(qf49 r5.2.2.1 r4.1 r4.2.1 r4.2.2.1 r4.2.2.2).bind fun r6 =>
(qf59L1 r5.2.1 (0 : Int) (List.replicate 6 (0 : Int)) (0 : Int) r6.1 r6.2.1 r6.2.2.1 [] [] [] r6.2.2.2).bind fun r7 =>
match r7 with
| .inl r8 => (
some (true, r8))
| .inr r9 => (
none))))))
abbrev qf59Z : Type := Bool × (Val (.arr 6 (.int .i64))) × Int × Int × Int × (Val (.pair (.int .i64) THead)) × (Val (.slice (.int .i64))) × (Val (.slice TPtr)) × (Val (.slice .bool)) × (Val (.slice TPage))
abbrev qf59L1Y : Type := (Val (.slice TPage)) × Int × (Val (.arr 6 (.int .i64))) × Int × Int × Int × (Val (.pair (.int .i64) THead)) × (Val (.slice (.int .i64))) × (Val (.slice TPtr)) × (Val (.slice .bool)) × (Val (.slice TPage))
abbrev qf59L1Z : Type := ((Val (.arr 6 (.int .i64))) × Int × Int × Int × (Val (.pair (.int .i64) THead)) × (Val (.slice (.int .i64))) × (Val (.slice TPtr)) × (Val (.slice .bool)) × (Val (.slice TPage))) ⊕ (Bool)
noncomputable def qf59I : Shape := ⟨146, 0, [(0, .dat false (.int .i64))], [], [], true⟩
noncomputable def qf59O : Shape := ⟨147, 6, [(146, .tup (.cons (.ref 0 []) (.cons (.dat true .bool) (.nil))))], [(0, .box (.pair (.cell .ptr) (.pair (.arr 6 (.int .i64)) (.pair (.slice (.int .i64)) (.pair (.slice TPtr) (.pair (.slice .bool) (.pair (.int .i64) .unit)))))) (.cons (.ref 1 []) (.cons (.dat true (.arr 6 (.int .i64))) (.cons (.own (.int .i64) 2) (.cons (.own TPtr 3) (.cons (.own .bool 4) (.cons (.dat true (.int .i64)) (.nil)))))))), (1, .box TStore (.cons (.own TPage 5) (.cons (.dat false (.int .i64)) (.cons (.dat false (.int .i64)) (.cons (.nils) (.cons (.dat false (.pair (.int .i64) THead)) (.nil))))))), (2, .slc true (.int .i64)), (3, .slc true TPtr), (4, .slc true .bool), (5, .slc true TPage)], [], true⟩
noncomputable def qf59F : Int → Option qf59Z := fun y => qf59 y
noncomputable def qf59ct : Ctr := ctrOf qf59I qf59O id id qf59F
noncomputable def qf59E : Env := { tf := tfE, mt := mtE, fn := fun f => bif Nat.beq f 21 then some qf3ct else bif Nat.beq f 63 then some qf4ct else bif Nat.beq f 14 then some qf48ct else bif Nat.beq f 26 then some qf49ct else bif Nat.beq f 27 then some qf53ct else bif Nat.beq f 100 then some qf57ct else bif Nat.beq f 101 then some qf58ct else none }
theorem qf59_env : EnvOk PT qf59E := ⟨tyE, (fun f ct h => by
  simp only [qf59E] at h
  refine envCons (c := qf3ct) h qf3_ctr (fun h => ?_)
  refine envCons (c := qf4ct) h qf4_ctr (fun h => ?_)
  refine envCons (c := qf48ct) h qf48_ctr (fun h => ?_)
  refine envCons (c := qf49ct) h qf49_ctr (fun h => ?_)
  refine envCons (c := qf53ct) h qf53_ctr (fun h => ?_)
  refine envCons (c := qf57ct) h qf57_ctr (fun h => ?_)
  refine envCons (c := qf58ct) h qf58_ctr (fun h => ?_)
  cases h), mapE⟩
noncomputable def qf59C : Code := bodyOf Tryz.f38
noncomputable def qf59L1C : Code := (loopsOf qf59C).getD 0 .skip
noncomputable def qf59L1S : Shape := ⟨146, 6, [(4, .ref 0 []), (11, .dat true (.slice TPage)), (12, .dat true (.int .i64))], [(0, .box (.pair (.cell .ptr) (.pair (.arr 6 (.int .i64)) (.pair (.slice (.int .i64)) (.pair (.slice TPtr) (.pair (.slice .bool) (.pair (.int .i64) .unit)))))) (.cons (.ref 1 []) (.cons (.dat true (.arr 6 (.int .i64))) (.cons (.own (.int .i64) 2) (.cons (.own TPtr 3) (.cons (.own .bool 4) (.cons (.dat true (.int .i64)) (.nil)))))))), (1, .box TStore (.cons (.own TPage 5) (.cons (.dat false (.int .i64)) (.cons (.dat false (.int .i64)) (.cons (.nils) (.cons (.dat false (.pair (.int .i64) THead)) (.nil))))))), (2, .slc true (.int .i64)), (3, .slc true TPtr), (4, .slc true .bool), (5, .slc true TPage)], [], true⟩
noncomputable def qf59L1O : List (Ex × Shape) := [(.exit 0, ⟨146, 6, [(4, .ref 0 [])], [(0, .box (.pair (.cell .ptr) (.pair (.arr 6 (.int .i64)) (.pair (.slice (.int .i64)) (.pair (.slice TPtr) (.pair (.slice .bool) (.pair (.int .i64) .unit)))))) (.cons (.ref 1 []) (.cons (.dat true (.arr 6 (.int .i64))) (.cons (.own (.int .i64) 2) (.cons (.own TPtr 3) (.cons (.own .bool 4) (.cons (.dat true (.int .i64)) (.nil)))))))), (1, .box TStore (.cons (.own TPage 5) (.cons (.dat false (.int .i64)) (.cons (.dat false (.int .i64)) (.cons (.nils) (.cons (.dat false (.pair (.int .i64) THead)) (.nil))))))), (2, .slc true (.int .i64)), (3, .slc true TPtr), (4, .slc true .bool), (5, .slc true TPage)], [], true⟩), (.ret, ⟨146, 0, [(2, .zc .ptr), (3, .dat true .bool)], [], [], true⟩)]
noncomputable def qf59L1M : Sum := loopSum (Y := qf59L1Y) (Z := qf59L1Z) qf59L1S qf59L1O id id (iter qf59L1B)
noncomputable def qf59H : Nat → Option Sum := fun n => bif Nat.beq n 11 then some qf59L1M else none
theorem qf59L1_bd (y : qf59L1Y) : @Eq (Option (qf59L1Y ⊕ qf59L1Z)) (exec qf59E qf59H qf59L1C (qf59L1S.mk' (show qf59L1S.D from y)) (kont (Y := qf59L1Y) (Z := qf59L1Z) qf59L1S qf59L1O id id)) (qf59L1B y) := by kernel_rfl
theorem qf59L1_ok {w0 : World} {Jo : Io} (hfix : ∀ i b, Jo.fix i = some b → i ∈ []) (hmay : true = true → Jo.may) : SumOk PT w0 Jo qf59L1M (.loop qf59L1C) :=
  @loop_ok w0 Jo PT qf59E qf59H qf59L1Y qf59L1Z qf59_env mixed qf59L1C qf59L1S qf59L1O id id id id (fun _ => rfl) (fun _ => rfl) hfix hmay (by kernel_rfl) (noLoops (by kernel_rfl)) qf59L1B qf59L1_bd
theorem qf59_bd (y : Int) : @Eq (Option qf59Z) (exec qf59E qf59H qf59C (qf59I.mk' (show qf59I.D from y)) (kontF (Z := qf59Z) qf59E Tryz.f38.results.toList qf59O id)) (qf59F y) := by kernel_rfl
theorem qf59_lo {w0 : World} {Jo : Io} (hfix : ∀ i b, Jo.fix i = some b → i ∈ []) (hmay : true = true → Jo.may) : LoopsOk PT w0 Jo qf59H qf59C := (loopsMk (by kernel_rfl) (loopsCons (c := qf59L1C) (n := 11) (f := qf59L1M) (by kernel_rfl) (by kernel_rfl) (qf59L1_ok hfix hmay) loopsNil))
theorem qf59_ctr : CtrOk PT 38 qf59ct :=
  @ctr_ok PT qf59E qf59H qf59_env mixed 38 Tryz.f38 qf59C (by kernel_rfl) (by kernel_rfl) (enters_of (by kernel_rfl : PT.funcs[38]? = some Tryz.f38) (by kernel_rfl) (by kernel_rfl)) qf59I qf59O Int qf59Z id id id id (fun _ => rfl) (fun _ => rfl) (by kernel_rfl) (by kernel_rfl) qf59F qf59_bd (fun w0 Jo hfix hmay => qf59_lo hfix hmay)
noncomputable def qf60 (a0 : Int) : Option Bool :=
bif (decide ((0 : Int) ≤ a0)) then (
some (decide (a0 < (6 : Int))))
else (
some false)
noncomputable def qf60I : Shape := ⟨9, 0, [(0, .dat false (.int .i64))], [], [], true⟩
noncomputable def qf60O : Shape := ⟨10, 0, [(9, .dat true .bool)], [], [], true⟩
noncomputable def qf60F : Int → Option Bool := fun y => qf60 y
noncomputable def qf60ct : Ctr := ctrOf qf60I qf60O id id qf60F
noncomputable def qf60E : Env := { tf := tfE, mt := mtE, fn := fun f => none }
theorem qf60_env : EnvOk PT qf60E := ⟨tyE, (fun f ct h => by
  simp only [qf60E] at h
  cases h), mapE⟩
noncomputable def qf60C : Code := bodyOf Tryz.f129
theorem qf60_bd (y : Int) : @Eq (Option Bool) (exec qf60E qf0H qf60C (qf60I.mk' (show qf60I.D from y)) (kontF (Z := Bool) qf60E Tryz.f129.results.toList qf60O id)) (qf60F y) := by kernel_rfl
theorem qf60_ctr : CtrOk PT 129 qf60ct :=
  @ctr_ok PT qf60E qf0H qf60_env mixed 129 Tryz.f129 qf60C (by kernel_rfl) (by kernel_rfl) (enters_of (by kernel_rfl : PT.funcs[129]? = some Tryz.f129) (by kernel_rfl) (by kernel_rfl)) qf60I qf60O Int Bool id id id id (fun _ => rfl) (fun _ => rfl) (by kernel_rfl) (by kernel_rfl) qf60F qf60_bd (fun _ _ _ _ => noLoops (by kernel_rfl))
noncomputable def qf61L1b (x0 : Val (.slice TPtr)) (x1 : Int) (x2 : Int) (x3 : Val TPtr) : Option (((Val (.slice TPtr)) × Int × Int × (Val TPtr)) ⊕ ((Unit) ⊕ (Int))) :=
bif (decide (x2 < x1)) then (
bif (inR x2 (List.length x0)) then
bif (eqV TPtr x3 (List.getD x0 (Int.toNat x2) ((0 : Int), (0 : Int), ()))) then (
some (Sum.inr (Sum.inr x2)))
else (
some (Sum.inl (x0, x1, (IntKind.wrap .i64 (x2 + (1 : Int))), x3)))
else none)
else (
some (Sum.inr (Sum.inl ())))
noncomputable def qf61L1B : ((Val (.slice TPtr)) × Int × Int × (Val TPtr)) → Option (((Val (.slice TPtr)) × Int × Int × (Val TPtr)) ⊕ ((Unit) ⊕ (Int))) := fun y => qf61L1b y.1 y.2.1 y.2.2.1 y.2.2.2
noncomputable def qf61L1 (x0 : Val (.slice TPtr)) (x1 : Int) (x2 : Int) (x3 : Val TPtr) : Option ((Unit) ⊕ (Int)) := iter qf61L1B (x0, x1, x2, x3)
noncomputable def qf61 (a0 : Val (.slice TPtr)) (a1 : Val TPtr) : Option Int :=
(qf61L1 a0 (((List.length a0) : Nat) : Int) (0 : Int) a1).bind fun r1 =>
match r1 with
| .inl r2 => (
some (-1 : Int))
| .inr r3 => (
some r3)
abbrev qf61L1Y : Type := (Val (.slice TPtr)) × Int × Int × (Val TPtr)
noncomputable def qf61I : Shape := ⟨19, 0, [(0, .dat false (.slice TPtr)), (1, .dat false TPtr)], [], [], true⟩
noncomputable def qf61O : Shape := ⟨20, 0, [(19, .dat true (.int .i64))], [], [], true⟩
noncomputable def qf61F : ((Val (.slice TPtr)) × (Val TPtr)) → Option Int := fun y => qf61 y.1 y.2
noncomputable def qf61ct : Ctr := ctrOf qf61I qf61O id id qf61F
noncomputable def qf61E : Env := { tf := tfE, mt := mtE, fn := fun f => none }
theorem qf61_env : EnvOk PT qf61E := ⟨tyE, (fun f ct h => by
  simp only [qf61E] at h
  cases h), mapE⟩
noncomputable def qf61C : Code := bodyOf Tryz.f152
noncomputable def qf61L1C : Code := (loopsOf qf61C).getD 0 .skip
noncomputable def qf61L1S : Shape := ⟨19, 1, [(0, .dat false (.slice TPtr)), (3, .ref 0 []), (7, .dat true (.int .i64)), (8, .dat true (.int .i64))], [(0, .box TPtr (.dat false TPtr))], [], true⟩
noncomputable def qf61L1O : List (Ex × Shape) := [(.exit 0, ⟨19, 0, [], [], [], true⟩), (.ret, ⟨19, 0, [(4, .dat true (.int .i64))], [], [], true⟩)]
noncomputable def qf61L1M : Sum := loopSum (Y := qf61L1Y) (Z := (Unit) ⊕ (Int)) qf61L1S qf61L1O id id (iter qf61L1B)
noncomputable def qf61H : Nat → Option Sum := fun n => bif Nat.beq n 2 then some qf61L1M else none
theorem qf61L1_bd (y : qf61L1Y) : @Eq (Option (qf61L1Y ⊕ ((Unit) ⊕ (Int)))) (exec qf61E qf61H qf61L1C (qf61L1S.mk' (show qf61L1S.D from y)) (kont (Y := qf61L1Y) (Z := (Unit) ⊕ (Int)) qf61L1S qf61L1O id id)) (qf61L1B y) := by kernel_rfl
theorem qf61L1_ok {w0 : World} {Jo : Io} (hfix : ∀ i b, Jo.fix i = some b → i ∈ []) (hmay : true = true → Jo.may) : SumOk PT w0 Jo qf61L1M (.loop qf61L1C) :=
  @loop_ok w0 Jo PT qf61E qf61H qf61L1Y ((Unit) ⊕ (Int)) qf61_env mixed qf61L1C qf61L1S qf61L1O id id id id (fun _ => rfl) (fun _ => rfl) hfix hmay (by kernel_rfl) (noLoops (by kernel_rfl)) qf61L1B qf61L1_bd
theorem qf61_bd (y : (Val (.slice TPtr)) × (Val TPtr)) : @Eq (Option Int) (exec qf61E qf61H qf61C (qf61I.mk' (show qf61I.D from y)) (kontF (Z := Int) qf61E Tryz.f152.results.toList qf61O id)) (qf61F y) := by kernel_rfl
theorem qf61_lo {w0 : World} {Jo : Io} (hfix : ∀ i b, Jo.fix i = some b → i ∈ []) (hmay : true = true → Jo.may) : LoopsOk PT w0 Jo qf61H qf61C := (loopsMk (by kernel_rfl) (loopsCons (c := qf61L1C) (n := 2) (f := qf61L1M) (by kernel_rfl) (by kernel_rfl) (qf61L1_ok hfix hmay) loopsNil))
theorem qf61_ctr : CtrOk PT 152 qf61ct :=
  @ctr_ok PT qf61E qf61H qf61_env mixed 152 Tryz.f152 qf61C (by kernel_rfl) (by kernel_rfl) (enters_of (by kernel_rfl : PT.funcs[152]? = some Tryz.f152) (by kernel_rfl) (by kernel_rfl)) qf61I qf61O ((Val (.slice TPtr)) × (Val TPtr)) Int id id id id (fun _ => rfl) (fun _ => rfl) (by kernel_rfl) (by kernel_rfl) qf61F qf61_bd (fun w0 Jo hfix hmay => qf61_lo hfix hmay)
noncomputable def qf62 (a0 : Val (.slice TPtr)) (a1 : Val TPtr) : Option Bool :=
(qf61 a0 a1).bind fun r1 =>
some (decide ((0 : Int) ≤ r1))
noncomputable def qf62I : Shape := ⟨9, 0, [(0, .dat false (.slice TPtr)), (1, .dat false TPtr)], [], [], true⟩
noncomputable def qf62O : Shape := ⟨10, 0, [(9, .dat true .bool)], [], [], true⟩
noncomputable def qf62F : ((Val (.slice TPtr)) × (Val TPtr)) → Option Bool := fun y => qf62 y.1 y.2
noncomputable def qf62ct : Ctr := ctrOf qf62I qf62O id id qf62F
noncomputable def qf62E : Env := { tf := tfE, mt := mtE, fn := fun f => bif Nat.beq f 152 then some qf61ct else none }
theorem qf62_env : EnvOk PT qf62E := ⟨tyE, (fun f ct h => by
  simp only [qf62E] at h
  refine envCons (c := qf61ct) h qf61_ctr (fun h => ?_)
  cases h), mapE⟩
noncomputable def qf62C : Code := bodyOf Tryz.f136
theorem qf62_bd (y : (Val (.slice TPtr)) × (Val TPtr)) : @Eq (Option Bool) (exec qf62E qf0H qf62C (qf62I.mk' (show qf62I.D from y)) (kontF (Z := Bool) qf62E Tryz.f136.results.toList qf62O id)) (qf62F y) := by kernel_rfl
theorem qf62_ctr : CtrOk PT 136 qf62ct :=
  @ctr_ok PT qf62E qf0H qf62_env mixed 136 Tryz.f136 qf62C (by kernel_rfl) (by kernel_rfl) (enters_of (by kernel_rfl : PT.funcs[136]? = some Tryz.f136) (by kernel_rfl) (by kernel_rfl)) qf62I qf62O ((Val (.slice TPtr)) × (Val TPtr)) Bool id id id id (fun _ => rfl) (fun _ => rfl) (by kernel_rfl) (by kernel_rfl) qf62F qf62_bd (fun _ _ _ _ => noLoops (by kernel_rfl))
noncomputable def qf63L1b (x0 : Val (.slice TPtr)) (x1 : Val (.slice TPtr)) (x2 : Int) (x3 : Int) : Option (((Val (.slice TPtr)) × (Val (.slice TPtr)) × Int × Int) ⊕ ((Unit) ⊕ (Bool))) :=
bif (decide (x3 < x2)) then (
bif (inR x3 (List.length x1)) then
(qf21 (List.getD x1 (Int.toNat x3) ((0 : Int), (0 : Int), ()))).bind fun r1 =>
bif (!r1) then (
some (Sum.inr (Sum.inr false)))
else (
bif ((decide ((0 : Int) ≤ x3)) && (decide (x3 ≤ (((List.length x0) : Nat) : Int)))) then
(qf62 (List.drop 0 (List.take (Int.toNat x3) x0)) (List.getD x1 (Int.toNat x3) ((0 : Int), (0 : Int), ()))).bind fun r2 =>
bif r2 then (
some (Sum.inr (Sum.inr false)))
else (
some (Sum.inl (x0, x1, x2, (IntKind.wrap .i64 (x3 + (1 : Int))))))
else none)
else none)
else (
some (Sum.inr (Sum.inl ())))
noncomputable def qf63L1B : ((Val (.slice TPtr)) × (Val (.slice TPtr)) × Int × Int) → Option (((Val (.slice TPtr)) × (Val (.slice TPtr)) × Int × Int) ⊕ ((Unit) ⊕ (Bool))) := fun y => qf63L1b y.1 y.2.1 y.2.2.1 y.2.2.2
noncomputable def qf63L1 (x0 : Val (.slice TPtr)) (x1 : Val (.slice TPtr)) (x2 : Int) (x3 : Int) : Option ((Unit) ⊕ (Bool)) := iter qf63L1B (x0, x1, x2, x3)
noncomputable def qf63 (a0 : Val (.slice TPtr)) : Option Bool :=
bif (decide ((((List.length a0) : Nat) : Int) < (1 : Int))) then (
some false)
else (
bif (decide ((4 : Int) < (((List.length a0) : Nat) : Int))) then (
some false)
else (
(qf63L1 a0 a0 (((List.length a0) : Nat) : Int) (0 : Int)).bind fun r1 =>
match r1 with
| .inl r2 => (
some true)
| .inr r3 => (
some r3)))
abbrev qf63L1Y : Type := (Val (.slice TPtr)) × (Val (.slice TPtr)) × Int × Int
noncomputable def qf63I : Shape := ⟨31, 0, [(0, .dat false (.slice TPtr))], [], [], true⟩
noncomputable def qf63O : Shape := ⟨32, 0, [(31, .dat true .bool)], [], [], true⟩
noncomputable def qf63F : ((Val (.slice TPtr))) → Option Bool := fun y => qf63 y
noncomputable def qf63ct : Ctr := ctrOf qf63I qf63O id id qf63F
noncomputable def qf63E : Env := { tf := tfE, mt := mtE, fn := fun f => bif Nat.beq f 78 then some qf21ct else bif Nat.beq f 136 then some qf62ct else none }
theorem qf63_env : EnvOk PT qf63E := ⟨tyE, (fun f ct h => by
  simp only [qf63E] at h
  refine envCons (c := qf21ct) h qf21_ctr (fun h => ?_)
  refine envCons (c := qf62ct) h qf62_ctr (fun h => ?_)
  cases h), mapE⟩
noncomputable def qf63C : Code := bodyOf Tryz.f130
noncomputable def qf63L1C : Code := (loopsOf qf63C).getD 0 .skip
noncomputable def qf63L1S : Shape := ⟨31, 0, [(0, .dat false (.slice TPtr)), (13, .dat false (.slice TPtr)), (14, .dat true (.int .i64)), (15, .dat true (.int .i64))], [], [], true⟩
noncomputable def qf63L1O : List (Ex × Shape) := [(.exit 0, ⟨31, 0, [], [], [], true⟩), (.ret, ⟨31, 0, [(2, .dat true .bool)], [], [], true⟩)]
noncomputable def qf63L1M : Sum := loopSum (Y := qf63L1Y) (Z := (Unit) ⊕ (Bool)) qf63L1S qf63L1O id id (iter qf63L1B)
noncomputable def qf63H : Nat → Option Sum := fun n => bif Nat.beq n 4 then some qf63L1M else none
theorem qf63L1_bd (y : qf63L1Y) : @Eq (Option (qf63L1Y ⊕ ((Unit) ⊕ (Bool)))) (exec qf63E qf63H qf63L1C (qf63L1S.mk' (show qf63L1S.D from y)) (kont (Y := qf63L1Y) (Z := (Unit) ⊕ (Bool)) qf63L1S qf63L1O id id)) (qf63L1B y) := by kernel_rfl
theorem qf63L1_ok {w0 : World} {Jo : Io} (hfix : ∀ i b, Jo.fix i = some b → i ∈ []) (hmay : true = true → Jo.may) : SumOk PT w0 Jo qf63L1M (.loop qf63L1C) :=
  @loop_ok w0 Jo PT qf63E qf63H qf63L1Y ((Unit) ⊕ (Bool)) qf63_env mixed qf63L1C qf63L1S qf63L1O id id id id (fun _ => rfl) (fun _ => rfl) hfix hmay (by kernel_rfl) (noLoops (by kernel_rfl)) qf63L1B qf63L1_bd
theorem qf63_bd (y : (Val (.slice TPtr))) : @Eq (Option Bool) (exec qf63E qf63H qf63C (qf63I.mk' (show qf63I.D from y)) (kontF (Z := Bool) qf63E Tryz.f130.results.toList qf63O id)) (qf63F y) := by kernel_rfl
theorem qf63_lo {w0 : World} {Jo : Io} (hfix : ∀ i b, Jo.fix i = some b → i ∈ []) (hmay : true = true → Jo.may) : LoopsOk PT w0 Jo qf63H qf63C := (loopsMk (by kernel_rfl) (loopsCons (c := qf63L1C) (n := 4) (f := qf63L1M) (by kernel_rfl) (by kernel_rfl) (qf63L1_ok hfix hmay) loopsNil))
theorem qf63_ctr : CtrOk PT 130 qf63ct :=
  @ctr_ok PT qf63E qf63H qf63_env mixed 130 Tryz.f130 qf63C (by kernel_rfl) (by kernel_rfl) (enters_of (by kernel_rfl : PT.funcs[130]? = some Tryz.f130) (by kernel_rfl) (by kernel_rfl)) qf63I qf63O ((Val (.slice TPtr))) Bool id id id id (fun _ => rfl) (fun _ => rfl) (by kernel_rfl) (by kernel_rfl) qf63F qf63_bd (fun w0 Jo hfix hmay => qf63_lo hfix hmay)
noncomputable def qf64 (a0 : Val TOp) : Option Bool :=
(qf60 a0.2.1).bind fun r1 =>
bif (!r1) then (
some false)
else (
bif (decide ((1 : Int) ≤ a0.2.2.1)) then (
bif (decide (a0.1 = (1 : Int))) then (
bif (decide (a0.1 = (1 : Int))) then (
some (decide (a0.2.2.1 ≤ (59 : Int))))
else (
bif (decide (a0.1 = (6 : Int))) then (
bif (decide (a0.2.2.1 ≤ (59 : Int))) then (
(qf60 a0.2.2.2.2.1).bind fun r2 =>
some r2)
else (
some false))
else (
bif (decide (a0.1 = (5 : Int))) then (
(qf60 a0.2.2.2.2.1).bind fun r3 =>
bif r3 then (
bif (decide ((104 : Int) ≤ a0.2.2.2.1)) then (
some (decide (a0.2.2.2.1 ≤ (256 : Int))))
else (
some false))
else (
some false))
else (
bif (decide (a0.1 = (4 : Int))) then (
(qf63 a0.2.2.2.2.2.1).bind fun r4 =>
some r4)
else (
some (decide (a0.1 = (3 : Int))))))))
else (
bif (decide (a0.1 = (2 : Int))) then (
some (decide (a0.2.2.1 ≤ (59 : Int))))
else (
bif (decide (a0.1 = (6 : Int))) then (
bif (decide (a0.2.2.1 ≤ (59 : Int))) then (
(qf60 a0.2.2.2.2.1).bind fun r5 =>
some r5)
else (
some false))
else (
bif (decide (a0.1 = (5 : Int))) then (
(qf60 a0.2.2.2.2.1).bind fun r6 =>
bif r6 then (
bif (decide ((104 : Int) ≤ a0.2.2.2.1)) then (
some (decide (a0.2.2.2.1 ≤ (256 : Int))))
else (
some false))
else (
some false))
else (
bif (decide (a0.1 = (4 : Int))) then (
(qf63 a0.2.2.2.2.2.1).bind fun r7 =>
some r7)
else (
some (decide (a0.1 = (3 : Int)))))))))
else (
bif (decide (a0.1 = (1 : Int))) then (
bif (decide (a0.1 = (1 : Int))) then (
some false)
else (
bif (decide (a0.1 = (6 : Int))) then (
some false)
else (
bif (decide (a0.1 = (5 : Int))) then (
(qf60 a0.2.2.2.2.1).bind fun r8 =>
bif r8 then (
bif (decide ((104 : Int) ≤ a0.2.2.2.1)) then (
some (decide (a0.2.2.2.1 ≤ (256 : Int))))
else (
some false))
else (
some false))
else (
bif (decide (a0.1 = (4 : Int))) then (
(qf63 a0.2.2.2.2.2.1).bind fun r9 =>
some r9)
else (
some (decide (a0.1 = (3 : Int))))))))
else (
bif (decide (a0.1 = (2 : Int))) then (
some false)
else (
bif (decide (a0.1 = (6 : Int))) then (
some false)
else (
bif (decide (a0.1 = (5 : Int))) then (
(qf60 a0.2.2.2.2.1).bind fun r10 =>
bif r10 then (
bif (decide ((104 : Int) ≤ a0.2.2.2.1)) then (
some (decide (a0.2.2.2.1 ≤ (256 : Int))))
else (
some false))
else (
some false))
else (
bif (decide (a0.1 = (4 : Int))) then (
(qf63 a0.2.2.2.2.2.1).bind fun r11 =>
some r11)
else (
some (decide (a0.1 = (3 : Int))))))))))
noncomputable def qf64I : Shape := ⟨53, 0, [(0, .dat false TOp)], [], [], true⟩
noncomputable def qf64O : Shape := ⟨54, 0, [(53, .dat true .bool)], [], [], true⟩
noncomputable def qf64F : ((Val TOp)) → Option Bool := fun y => qf64 y
noncomputable def qf64ct : Ctr := ctrOf qf64I qf64O id id qf64F
noncomputable def qf64E : Env := { tf := tfE, mt := mtE, fn := fun f => bif Nat.beq f 129 then some qf60ct else bif Nat.beq f 130 then some qf63ct else none }
theorem qf64_env : EnvOk PT qf64E := ⟨tyE, (fun f ct h => by
  simp only [qf64E] at h
  refine envCons (c := qf60ct) h qf60_ctr (fun h => ?_)
  refine envCons (c := qf63ct) h qf63_ctr (fun h => ?_)
  cases h), mapE⟩
noncomputable def qf64C : Code := bodyOf Tryz.f82
theorem qf64_bd (y : (Val TOp)) : @Eq (Option Bool) (exec qf64E qf0H qf64C (qf64I.mk' (show qf64I.D from y)) (kontF (Z := Bool) qf64E Tryz.f82.results.toList qf64O id)) (qf64F y) := by kernel_rfl
theorem qf64_ctr : CtrOk PT 82 qf64ct :=
  @ctr_ok PT qf64E qf0H qf64_env mixed 82 Tryz.f82 qf64C (by kernel_rfl) (by kernel_rfl) (enters_of (by kernel_rfl : PT.funcs[82]? = some Tryz.f82) (by kernel_rfl) (by kernel_rfl)) qf64I qf64O ((Val TOp)) Bool id id id id (fun _ => rfl) (fun _ => rfl) (by kernel_rfl) (by kernel_rfl) qf64F qf64_bd (fun _ _ _ _ => noLoops (by kernel_rfl))
noncomputable def qf65L1b (x0 : Int) (x1 : Val (.slice (.int .i64))) : Option ((Int × (Val (.slice (.int .i64)))) ⊕ ((Val (.slice (.int .i64))))) :=
bif (decide (x0 < (6 : Int))) then (
bif (decide (((List.length x1) + 1) ≤ lim)) then
some (Sum.inl ((IntKind.wrap .i64 (x0 + (1 : Int))), (x1 ++ [x0])))
else none)
else (
some (Sum.inr x1))
noncomputable def qf65L1B : (Int × (Val (.slice (.int .i64)))) → Option ((Int × (Val (.slice (.int .i64)))) ⊕ ((Val (.slice (.int .i64))))) := fun y => qf65L1b y.1 y.2
noncomputable def qf65L1 (x0 : Int) (x1 : Val (.slice (.int .i64))) : Option ((Val (.slice (.int .i64)))) := iter qf65L1B (x0, x1)
noncomputable def qf65 (a0 : Val TOp) : Option ((Val (.slice (.int .i64)))) :=
bif (decide (a0.1 = (6 : Int))) then (
bif (decide (a0.1 = (6 : Int))) then (
some [a0.2.2.2.2.1])
else (
bif (decide (a0.1 = (3 : Int))) then (
(qf65L1 (0 : Int) []).bind fun r1 =>
some r1)
else (
some [a0.2.1])))
else (
bif (decide (a0.1 = (5 : Int))) then (
some [a0.2.2.2.2.1])
else (
bif (decide (a0.1 = (3 : Int))) then (
(qf65L1 (0 : Int) []).bind fun r2 =>
some r2)
else (
some [a0.2.1])))
noncomputable def qf65I : Shape := ⟨27, 0, [(0, .dat false TOp)], [], [], true⟩
noncomputable def qf65O : Shape := ⟨28, 0, [(27, .dat true (.slice (.int .i64)))], [], [], true⟩
noncomputable def qf65F : ((Val TOp)) → Option ((Val (.slice (.int .i64)))) := fun y => qf65 y
noncomputable def qf65ct : Ctr := ctrOf qf65I qf65O id id qf65F
noncomputable def qf65E : Env := { tf := tfE, mt := mtE, fn := fun f => none }
theorem qf65_env : EnvOk PT qf65E := ⟨tyE, (fun f ct h => by
  simp only [qf65E] at h
  cases h), mapE⟩
noncomputable def qf65C : Code := bodyOf Tryz.f134
noncomputable def qf65L1C : Code := (loopsOf qf65C).getD 0 .skip
noncomputable def qf65L1S : Shape := ⟨27, 1, [(3, .own (.int .i64) 0), (15, .dat true (.int .i64))], [(0, .slc true (.int .i64))], [], true⟩
noncomputable def qf65L1O : List (Ex × Shape) := [(.exit 1, ⟨27, 1, [(3, .own (.int .i64) 0)], [(0, .slc true (.int .i64))], [], true⟩)]
noncomputable def qf65L1M : Sum := loopSum (Y := Int × (Val (.slice (.int .i64)))) (Z := (Val (.slice (.int .i64)))) qf65L1S qf65L1O id id (iter qf65L1B)
noncomputable def qf65H : Nat → Option Sum := fun n => bif Nat.beq n 8 then some qf65L1M else none
theorem qf65L1_bd (y : Int × (Val (.slice (.int .i64)))) : @Eq (Option ((Int × (Val (.slice (.int .i64)))) ⊕ ((Val (.slice (.int .i64)))))) (exec qf65E qf65H qf65L1C (qf65L1S.mk' (show qf65L1S.D from y)) (kont (Y := Int × (Val (.slice (.int .i64)))) (Z := (Val (.slice (.int .i64)))) qf65L1S qf65L1O id id)) (qf65L1B y) := by kernel_rfl
theorem qf65L1_ok {w0 : World} {Jo : Io} (hfix : ∀ i b, Jo.fix i = some b → i ∈ []) (hmay : true = true → Jo.may) : SumOk PT w0 Jo qf65L1M (.loop qf65L1C) :=
  @loop_ok w0 Jo PT qf65E qf65H (Int × (Val (.slice (.int .i64)))) ((Val (.slice (.int .i64)))) qf65_env mixed qf65L1C qf65L1S qf65L1O id id id id (fun _ => rfl) (fun _ => rfl) hfix hmay (by kernel_rfl) (noLoops (by kernel_rfl)) qf65L1B qf65L1_bd
theorem qf65_bd (y : (Val TOp)) : @Eq (Option ((Val (.slice (.int .i64))))) (exec qf65E qf65H qf65C (qf65I.mk' (show qf65I.D from y)) (kontF (Z := (Val (.slice (.int .i64)))) qf65E Tryz.f134.results.toList qf65O id)) (qf65F y) := by kernel_rfl
theorem qf65_lo {w0 : World} {Jo : Io} (hfix : ∀ i b, Jo.fix i = some b → i ∈ []) (hmay : true = true → Jo.may) : LoopsOk PT w0 Jo qf65H qf65C := (loopsMk (by kernel_rfl) (loopsCons (c := qf65L1C) (n := 8) (f := qf65L1M) (by kernel_rfl) (by kernel_rfl) (qf65L1_ok hfix hmay) loopsNil))
theorem qf65_ctr : CtrOk PT 134 qf65ct :=
  @ctr_ok PT qf65E qf65H qf65_env mixed 134 Tryz.f134 qf65C (by kernel_rfl) (by kernel_rfl) (enters_of (by kernel_rfl : PT.funcs[134]? = some Tryz.f134) (by kernel_rfl) (by kernel_rfl)) qf65I qf65O ((Val TOp)) ((Val (.slice (.int .i64)))) id id id id (fun _ => rfl) (fun _ => rfl) (by kernel_rfl) (by kernel_rfl) qf65F qf65_bd (fun w0 Jo hfix hmay => qf65_lo hfix hmay)
noncomputable def qf66L1b (x0 : Val (.slice (.int .i64))) (x1 : Int) (x2 : Int) (x3 : Val (.slice (.int .i64))) : Option (((Val (.slice (.int .i64))) × Int × Int × (Val (.slice (.int .i64)))) ⊕ ((Val (.slice (.int .i64))))) :=
bif (decide (x2 < x1)) then (
bif (inR x2 (List.length x0)) then
bif (decide (((List.length x3) + 1) ≤ lim)) then
some (Sum.inl (x0, x1, (IntKind.wrap .i64 (x2 + (1 : Int))), (x3 ++ [(IntKind.wrap .i64 ((98 : Int) + (List.getD x0 (Int.toNat x2) (0 : Int))))])))
else none
else none)
else (
some (Sum.inr x3))
noncomputable def qf66L1B : ((Val (.slice (.int .i64))) × Int × Int × (Val (.slice (.int .i64)))) → Option (((Val (.slice (.int .i64))) × Int × Int × (Val (.slice (.int .i64)))) ⊕ ((Val (.slice (.int .i64))))) := fun y => qf66L1b y.1 y.2.1 y.2.2.1 y.2.2.2
noncomputable def qf66L1 (x0 : Val (.slice (.int .i64))) (x1 : Int) (x2 : Int) (x3 : Val (.slice (.int .i64))) : Option ((Val (.slice (.int .i64)))) := iter qf66L1B (x0, x1, x2, x3)
noncomputable def qf66 (a0 : Val TOp) : Option ((Val (.slice (.int .i64)))) :=
bif (!(decide (a0.1 = (2 : Int)))) then (
bif (!(decide (a0.1 = (6 : Int)))) then (
(qf65 a0).bind fun r1 =>
(qf66L1 r1 (((List.length r1) : Nat) : Int) (0 : Int) [(97 : Int)]).bind fun r2 =>
some r2)
else (
(qf65 a0).bind fun r3 =>
(qf66L1 r3 (((List.length r3) : Nat) : Int) (0 : Int) []).bind fun r4 =>
some r4))
else (
(qf65 a0).bind fun r5 =>
(qf66L1 r5 (((List.length r5) : Nat) : Int) (0 : Int) []).bind fun r6 =>
some r6)
abbrev qf66L1Y : Type := (Val (.slice (.int .i64))) × Int × Int × (Val (.slice (.int .i64)))
noncomputable def qf66I : Shape := ⟨31, 0, [(0, .dat false TOp)], [], [], true⟩
noncomputable def qf66O : Shape := ⟨32, 0, [(31, .dat true (.slice (.int .i64)))], [], [], true⟩
noncomputable def qf66F : ((Val TOp)) → Option ((Val (.slice (.int .i64)))) := fun y => qf66 y
noncomputable def qf66ct : Ctr := ctrOf qf66I qf66O id id qf66F
noncomputable def qf66E : Env := { tf := tfE, mt := mtE, fn := fun f => bif Nat.beq f 134 then some qf65ct else none }
theorem qf66_env : EnvOk PT qf66E := ⟨tyE, (fun f ct h => by
  simp only [qf66E] at h
  refine envCons (c := qf65ct) h qf65_ctr (fun h => ?_)
  cases h), mapE⟩
noncomputable def qf66C : Code := bodyOf Tryz.f131
noncomputable def qf66L1C : Code := (loopsOf qf66C).getD 0 .skip
noncomputable def qf66L1S : Shape := ⟨31, 1, [(3, .own (.int .i64) 0), (18, .dat true (.slice (.int .i64))), (19, .dat true (.int .i64)), (20, .dat true (.int .i64))], [(0, .slc true (.int .i64))], [], true⟩
noncomputable def qf66L1O : List (Ex × Shape) := [(.exit 0, ⟨31, 1, [(3, .own (.int .i64) 0)], [(0, .slc true (.int .i64))], [], true⟩)]
noncomputable def qf66L1M : Sum := loopSum (Y := qf66L1Y) (Z := (Val (.slice (.int .i64)))) qf66L1S qf66L1O id id (iter qf66L1B)
noncomputable def qf66H : Nat → Option Sum := fun n => bif Nat.beq n 5 then some qf66L1M else none
theorem qf66L1_bd (y : qf66L1Y) : @Eq (Option (qf66L1Y ⊕ ((Val (.slice (.int .i64)))))) (exec qf66E qf66H qf66L1C (qf66L1S.mk' (show qf66L1S.D from y)) (kont (Y := qf66L1Y) (Z := (Val (.slice (.int .i64)))) qf66L1S qf66L1O id id)) (qf66L1B y) := by kernel_rfl
theorem qf66L1_ok {w0 : World} {Jo : Io} (hfix : ∀ i b, Jo.fix i = some b → i ∈ []) (hmay : true = true → Jo.may) : SumOk PT w0 Jo qf66L1M (.loop qf66L1C) :=
  @loop_ok w0 Jo PT qf66E qf66H qf66L1Y ((Val (.slice (.int .i64)))) qf66_env mixed qf66L1C qf66L1S qf66L1O id id id id (fun _ => rfl) (fun _ => rfl) hfix hmay (by kernel_rfl) (noLoops (by kernel_rfl)) qf66L1B qf66L1_bd
theorem qf66_bd (y : (Val TOp)) : @Eq (Option ((Val (.slice (.int .i64))))) (exec qf66E qf66H qf66C (qf66I.mk' (show qf66I.D from y)) (kontF (Z := (Val (.slice (.int .i64)))) qf66E Tryz.f131.results.toList qf66O id)) (qf66F y) := by kernel_rfl
theorem qf66_lo {w0 : World} {Jo : Io} (hfix : ∀ i b, Jo.fix i = some b → i ∈ []) (hmay : true = true → Jo.may) : LoopsOk PT w0 Jo qf66H qf66C := (loopsMk (by kernel_rfl) (loopsCons (c := qf66L1C) (n := 5) (f := qf66L1M) (by kernel_rfl) (by kernel_rfl) (qf66L1_ok hfix hmay) loopsNil))
theorem qf66_ctr : CtrOk PT 131 qf66ct :=
  @ctr_ok PT qf66E qf66H qf66_env mixed 131 Tryz.f131 qf66C (by kernel_rfl) (by kernel_rfl) (enters_of (by kernel_rfl : PT.funcs[131]? = some Tryz.f131) (by kernel_rfl) (by kernel_rfl)) qf66I qf66O ((Val TOp)) ((Val (.slice (.int .i64)))) id id id id (fun _ => rfl) (fun _ => rfl) (by kernel_rfl) (by kernel_rfl) qf66F qf66_bd (fun w0 Jo hfix hmay => qf66_lo hfix hmay)
noncomputable def qf67 (a0 : Val TPage) : Option (Int × Int) :=
bif (!(decide (a0.1 = (97 : Int)))) then (
some ((0 : Int), (1 : Int)))
else (
bif (!(eqV (.arr 7 (.int .u64)) a0.2.2.1 [(List.getD a0.2.2.1 0 (0 : Int)), (0 : Int), (0 : Int), (0 : Int), (0 : Int), (0 : Int), (0 : Int)])) then (
some ((0 : Int), (14 : Int)))
else (
bif (decide ((4294967295 : Int) < (List.getD a0.2.2.1 0 (0 : Int)))) then (
some ((0 : Int), (14 : Int)))
else (
some ((IntKind.wrap .u32 (List.getD a0.2.2.1 0 (0 : Int))), (0 : Int)))))
noncomputable def qf67I : Shape := ⟨24, 0, [(0, .dat false TPage)], [], [], true⟩
noncomputable def qf67O : Shape := ⟨25, 0, [(24, .tup (.cons (.dat true (.int .u32)) (.cons (.dat true (.int .i64)) (.nil))))], [], [], true⟩
noncomputable def qf67F : ((Val TPage)) → Option (Int × Int) := fun y => qf67 y
noncomputable def qf67ct : Ctr := ctrOf qf67I qf67O id id qf67F
noncomputable def qf67E : Env := { tf := tfE, mt := mtE, fn := fun f => none }
theorem qf67_env : EnvOk PT qf67E := ⟨tyE, (fun f ct h => by
  simp only [qf67E] at h
  cases h), mapE⟩
noncomputable def qf67C : Code := bodyOf Tryz.f132
theorem qf67_bd (y : (Val TPage)) : @Eq (Option (Int × Int)) (exec qf67E qf0H qf67C (qf67I.mk' (show qf67I.D from y)) (kontF (Z := Int × Int) qf67E Tryz.f132.results.toList qf67O id)) (qf67F y) := by kernel_rfl
theorem qf67_ctr : CtrOk PT 132 qf67ct :=
  @ctr_ok PT qf67E qf0H qf67_env mixed 132 Tryz.f132 qf67C (by kernel_rfl) (by kernel_rfl) (enters_of (by kernel_rfl : PT.funcs[132]? = some Tryz.f132) (by kernel_rfl) (by kernel_rfl)) qf67I qf67O ((Val TPage)) (Int × Int) id id id id (fun _ => rfl) (fun _ => rfl) (by kernel_rfl) (by kernel_rfl) qf67F qf67_bd (fun _ _ _ _ => noLoops (by kernel_rfl))
noncomputable def qf68L1b (x0 : Val (.slice TPage)) (x1 : Val (.slice (.int .i64))) (x2 : Int) (x3 : Int) (x4 : Val TOp) (x5 : Val TPage) (x6 : Int) (x7 : Val (.slice (.int .i64))) (x8 : Val (.slice (.pair (.int .i64) TPage))) (x9 : Val (.slice (.pair (.int .i64) TNode))) : Option (((Val (.slice TPage)) × (Val (.slice (.int .i64))) × Int × Int × (Val TOp) × (Val TPage) × Int × (Val (.slice (.int .i64))) × (Val (.slice (.pair (.int .i64) TPage))) × (Val (.slice (.pair (.int .i64) TNode)))) ⊕ ((Val (.slice TPage)) × (Val TOp) × (Val TPage) × Int × (Val (.slice (.int .i64))) × (Val (.slice (.pair (.int .i64) TPage))) × (Val (.slice (.pair (.int .i64) TNode))))) :=
bif (decide (x3 < x2)) then (
bif (inR x3 (List.length x1)) then
(qf7 x0 (List.getD x1 (Int.toNat x3) (0 : Int))).bind fun r1 =>
bif (!r1.2) then (
bif (decide (((List.length x7) + 1) ≤ lim)) then
some (Sum.inl (x0, x1, x2, (IntKind.wrap .i64 (x3 + (1 : Int))), x4, x5, x6, (x7 ++ [(List.getD x1 (Int.toNat x3) (0 : Int))]), x8, x9))
else none)
else (
some (Sum.inl (x0, x1, x2, (IntKind.wrap .i64 (x3 + (1 : Int))), x4, x5, x6, x7, x8, x9)))
else none)
else (
some (Sum.inr (x0, x4, x5, x6, x7, x8, x9)))
noncomputable def qf68L1B : ((Val (.slice TPage)) × (Val (.slice (.int .i64))) × Int × Int × (Val TOp) × (Val TPage) × Int × (Val (.slice (.int .i64))) × (Val (.slice (.pair (.int .i64) TPage))) × (Val (.slice (.pair (.int .i64) TNode)))) → Option (((Val (.slice TPage)) × (Val (.slice (.int .i64))) × Int × Int × (Val TOp) × (Val TPage) × Int × (Val (.slice (.int .i64))) × (Val (.slice (.pair (.int .i64) TPage))) × (Val (.slice (.pair (.int .i64) TNode)))) ⊕ ((Val (.slice TPage)) × (Val TOp) × (Val TPage) × Int × (Val (.slice (.int .i64))) × (Val (.slice (.pair (.int .i64) TPage))) × (Val (.slice (.pair (.int .i64) TNode))))) := fun y => qf68L1b y.1 y.2.1 y.2.2.1 y.2.2.2.1 y.2.2.2.2.1 y.2.2.2.2.2.1 y.2.2.2.2.2.2.1 y.2.2.2.2.2.2.2.1 y.2.2.2.2.2.2.2.2.1 y.2.2.2.2.2.2.2.2.2
noncomputable def qf68L1 (x0 : Val (.slice TPage)) (x1 : Val (.slice (.int .i64))) (x2 : Int) (x3 : Int) (x4 : Val TOp) (x5 : Val TPage) (x6 : Int) (x7 : Val (.slice (.int .i64))) (x8 : Val (.slice (.pair (.int .i64) TPage))) (x9 : Val (.slice (.pair (.int .i64) TNode))) : Option ((Val (.slice TPage)) × (Val TOp) × (Val TPage) × Int × (Val (.slice (.int .i64))) × (Val (.slice (.pair (.int .i64) TPage))) × (Val (.slice (.pair (.int .i64) TNode)))) := iter qf68L1B (x0, x1, x2, x3, x4, x5, x6, x7, x8, x9)
noncomputable def qf68L2b (x0 : Val (.slice TPage)) (x1 : Val (.slice (.int .i64))) (x2 : Int) (x3 : Int) (x4 : Val TOp) (x5 : Val TPage) (x6 : Int) (x7 : Val (.slice (.pair (.int .i64) TPage))) (x8 : Val (.slice (.pair (.int .i64) TNode))) : Option (((Val (.slice TPage)) × (Val (.slice (.int .i64))) × Int × Int × (Val TOp) × (Val TPage) × Int × (Val (.slice (.pair (.int .i64) TPage))) × (Val (.slice (.pair (.int .i64) TNode)))) ⊕ (((Val TPage) × Int × (Val (.slice (.pair (.int .i64) TPage))) × (Val (.slice (.pair (.int .i64) TNode)))) ⊕ (Int × Int × (Val TPage) × Int × (Val (.slice (.pair (.int .i64) TPage))) × (Val (.slice (.pair (.int .i64) TNode)))))) :=
bif (decide (x3 < x2)) then (
bif (inR x3 (List.length x1)) then
(qf7 x0 (List.getD x1 (Int.toNat x3) (0 : Int))).bind fun r1 =>
(qf17 r1.1).bind fun r2 =>
bif r2 then (
bif (decide ((List.getD x1 (Int.toNat x3) (0 : Int)) = (97 : Int))) then (
some (Sum.inr (Sum.inr ((-1 : Int), (3 : Int), x5, x6, x7, x8))))
else (
bif (!(decide (x4.1 = (3 : Int)))) then (
some (Sum.inr (Sum.inr ((-1 : Int), (3 : Int), x5, x6, x7, x8))))
else (
some (Sum.inr (Sum.inr ((IntKind.wrap .i64 ((List.getD x1 (Int.toNat x3) (0 : Int)) - (98 : Int))), (3 : Int), x5, x6, x7, x8))))))
else (
bif (decide ((List.getD x1 (Int.toNat x3) (0 : Int)) = (97 : Int))) then (
(qf67 r1.1).bind fun r3 =>
bif (!(decide (r3.2 = (0 : Int)))) then (
some (Sum.inr (Sum.inr ((-1 : Int), r3.2, r1.1, r3.1, x7, x8))))
else (
some (Sum.inl (x0, x1, x2, (IntKind.wrap .i64 (x3 + (1 : Int))), x4, r1.1, r3.1, x7, x8))))
else (
(qf23 r1.1).bind fun r4 =>
bif (!(decide (r4.2 = (0 : Int)))) then (
some (Sum.inr (Sum.inr ((-1 : Int), r4.2, x5, x6, (upsV x7 (IntKind.wrap .i64 ((List.getD x1 (Int.toNat x3) (0 : Int)) - (98 : Int))) r1.1), (upsV x8 (IntKind.wrap .i64 ((List.getD x1 (Int.toNat x3) (0 : Int)) - (98 : Int))) r4.1)))))
else (
some (Sum.inl (x0, x1, x2, (IntKind.wrap .i64 (x3 + (1 : Int))), x4, x5, x6, (upsV x7 (IntKind.wrap .i64 ((List.getD x1 (Int.toNat x3) (0 : Int)) - (98 : Int))) r1.1), (upsV x8 (IntKind.wrap .i64 ((List.getD x1 (Int.toNat x3) (0 : Int)) - (98 : Int))) r4.1))))))
else none)
else (
some (Sum.inr (Sum.inl (x5, x6, x7, x8))))
noncomputable def qf68L2B : ((Val (.slice TPage)) × (Val (.slice (.int .i64))) × Int × Int × (Val TOp) × (Val TPage) × Int × (Val (.slice (.pair (.int .i64) TPage))) × (Val (.slice (.pair (.int .i64) TNode)))) → Option (((Val (.slice TPage)) × (Val (.slice (.int .i64))) × Int × Int × (Val TOp) × (Val TPage) × Int × (Val (.slice (.pair (.int .i64) TPage))) × (Val (.slice (.pair (.int .i64) TNode)))) ⊕ (((Val TPage) × Int × (Val (.slice (.pair (.int .i64) TPage))) × (Val (.slice (.pair (.int .i64) TNode)))) ⊕ (Int × Int × (Val TPage) × Int × (Val (.slice (.pair (.int .i64) TPage))) × (Val (.slice (.pair (.int .i64) TNode)))))) := fun y => qf68L2b y.1 y.2.1 y.2.2.1 y.2.2.2.1 y.2.2.2.2.1 y.2.2.2.2.2.1 y.2.2.2.2.2.2.1 y.2.2.2.2.2.2.2.1 y.2.2.2.2.2.2.2.2
noncomputable def qf68L2 (x0 : Val (.slice TPage)) (x1 : Val (.slice (.int .i64))) (x2 : Int) (x3 : Int) (x4 : Val TOp) (x5 : Val TPage) (x6 : Int) (x7 : Val (.slice (.pair (.int .i64) TPage))) (x8 : Val (.slice (.pair (.int .i64) TNode))) : Option (((Val TPage) × Int × (Val (.slice (.pair (.int .i64) TPage))) × (Val (.slice (.pair (.int .i64) TNode)))) ⊕ (Int × Int × (Val TPage) × Int × (Val (.slice (.pair (.int .i64) TPage))) × (Val (.slice (.pair (.int .i64) TNode))))) := iter qf68L2B (x0, x1, x2, x3, x4, x5, x6, x7, x8)
noncomputable def qf68 (a0 : Val TOp) (a1 : Val (.slice TPage)) : Option ((Val TPage) × Int × (Val (.slice (.int .i64))) × Int × Int × (Val (.slice (.pair (.int .i64) TPage))) × (Val (.slice (.pair (.int .i64) TNode)))) :=
(qf66 a0).bind fun r1 =>
(qf68L1 a1 r1 (((List.length r1) : Nat) : Int) (0 : Int) a0 ((0 : Int), (0 : Int), (List.replicate 7 (0 : Int)), ()) (0 : Int) [] [] []).bind fun r2 =>
bif (decide ((0 : Int) < (((List.length r2.2.2.2.2.1) : Nat) : Int))) then (
some (r2.2.2.1, r2.2.2.2.1, r2.2.2.2.2.1, (-1 : Int), (0 : Int), r2.2.2.2.2.2))
else (
(qf66 r2.2.1).bind fun r3 =>
(qf68L2 r2.1 r3 (((List.length r3) : Nat) : Int) (0 : Int) r2.2.1 r2.2.2.1 r2.2.2.2.1 r2.2.2.2.2.2.1 r2.2.2.2.2.2.2).bind fun r4 =>
match r4 with
| .inl r5 => (
some (r5.1, r5.2.1, [], (-1 : Int), (0 : Int), r5.2.2))
| .inr r6 => (
some (r6.2.2.1, r6.2.2.2.1, [], r6.1, r6.2.1, r6.2.2.2.2)))
abbrev qf68Z : Type := (Val TPage) × Int × (Val (.slice (.int .i64))) × Int × Int × (Val (.slice (.pair (.int .i64) TPage))) × (Val (.slice (.pair (.int .i64) TNode)))
abbrev qf68L1Y : Type := (Val (.slice TPage)) × (Val (.slice (.int .i64))) × Int × Int × (Val TOp) × (Val TPage) × Int × (Val (.slice (.int .i64))) × (Val (.slice (.pair (.int .i64) TPage))) × (Val (.slice (.pair (.int .i64) TNode)))
abbrev qf68L1Z : Type := (Val (.slice TPage)) × (Val TOp) × (Val TPage) × Int × (Val (.slice (.int .i64))) × (Val (.slice (.pair (.int .i64) TPage))) × (Val (.slice (.pair (.int .i64) TNode)))
abbrev qf68L2Y : Type := (Val (.slice TPage)) × (Val (.slice (.int .i64))) × Int × Int × (Val TOp) × (Val TPage) × Int × (Val (.slice (.pair (.int .i64) TPage))) × (Val (.slice (.pair (.int .i64) TNode)))
abbrev qf68L2Z : Type := ((Val TPage) × Int × (Val (.slice (.pair (.int .i64) TPage))) × (Val (.slice (.pair (.int .i64) TNode)))) ⊕ (Int × Int × (Val TPage) × Int × (Val (.slice (.pair (.int .i64) TPage))) × (Val (.slice (.pair (.int .i64) TNode))))
noncomputable def qf68I : Shape := ⟨99, 0, [(0, .dat false TOp), (1, .dat false (.slice TPage))], [], [], true⟩
noncomputable def qf68O : Shape := ⟨100, 2, [(99, .tup (.cons (.cons (.dat false TPage) (.cons (.dat true (.int .u32)) (.cons (.mp 0) (.cons (.mp 1) (.nil))))) (.cons (.dat true (.slice (.int .i64))) (.cons (.dat true (.int .i64)) (.cons (.dat true (.int .i64)) (.nil))))))], [(0, .map .i64 true TPage), (1, .map .i64 true TNode)], [], true⟩
noncomputable def qf68F : ((Val TOp) × (Val (.slice TPage))) → Option qf68Z := fun y => qf68 y.1 y.2
noncomputable def qf68ct : Ctr := ctrOf qf68I qf68O id id qf68F
noncomputable def qf68E : Env := { tf := tfE, mt := mtE, fn := fun f => bif Nat.beq f 131 then some qf66ct else bif Nat.beq f 70 then some qf7ct else bif Nat.beq f 72 then some qf17ct else bif Nat.beq f 132 then some qf67ct else bif Nat.beq f 23 then some qf23ct else none }
theorem qf68_env : EnvOk PT qf68E := ⟨tyE, (fun f ct h => by
  simp only [qf68E] at h
  refine envCons (c := qf66ct) h qf66_ctr (fun h => ?_)
  refine envCons (c := qf7ct) h qf7_ctr (fun h => ?_)
  refine envCons (c := qf17ct) h qf17_ctr (fun h => ?_)
  refine envCons (c := qf67ct) h qf67_ctr (fun h => ?_)
  refine envCons (c := qf23ct) h qf23_ctr (fun h => ?_)
  cases h), mapE⟩
noncomputable def qf68C : Code := bodyOf Tryz.f83
noncomputable def qf68L1C : Code := (loopsOf qf68C).getD 0 .skip
noncomputable def qf68L2C : Code := (loopsOf qf68C).getD 1 .skip
noncomputable def qf68L1S : Shape := ⟨99, 5, [(1, .dat false (.slice TPage)), (2, .ref 0 []), (4, .ref 1 []), (5, .own (.int .i64) 2), (21, .dat true (.slice (.int .i64))), (22, .dat true (.int .i64)), (23, .dat true (.int .i64))], [(0, .box TOp (.dat false TOp)), (1, .box (.pair TPage (.pair (.int .u32) (.pair (.cell .map) (.pair (.cell .map) .unit)))) (.cons (.dat true TPage) (.cons (.dat true (.int .u32)) (.cons (.mp 3) (.cons (.mp 4) (.nil)))))), (2, .slc true (.int .i64)), (3, .map .i64 true TPage), (4, .map .i64 true TNode)], [], true⟩
noncomputable def qf68L1O : List (Ex × Shape) := [(.exit 0, ⟨99, 5, [(1, .dat false (.slice TPage)), (2, .ref 0 []), (4, .ref 1 []), (5, .own (.int .i64) 2)], [(0, .box TOp (.dat false TOp)), (1, .box (.pair TPage (.pair (.int .u32) (.pair (.cell .map) (.pair (.cell .map) .unit)))) (.cons (.dat true TPage) (.cons (.dat true (.int .u32)) (.cons (.mp 3) (.cons (.mp 4) (.nil)))))), (2, .slc true (.int .i64)), (3, .map .i64 true TPage), (4, .map .i64 true TNode)], [], true⟩)]
noncomputable def qf68L1M : Sum := loopSum (Y := qf68L1Y) (Z := qf68L1Z) qf68L1S qf68L1O id id (iter qf68L1B)
noncomputable def qf68L2S : Shape := ⟨99, 4, [(1, .dat false (.slice TPage)), (2, .ref 0 []), (4, .ref 1 []), (46, .dat true (.slice (.int .i64))), (47, .dat true (.int .i64)), (48, .dat true (.int .i64))], [(0, .box TOp (.dat false TOp)), (1, .box (.pair TPage (.pair (.int .u32) (.pair (.cell .map) (.pair (.cell .map) .unit)))) (.cons (.dat false TPage) (.cons (.dat true (.int .u32)) (.cons (.mp 2) (.cons (.mp 3) (.nil)))))), (2, .map .i64 true TPage), (3, .map .i64 true TNode)], [], true⟩
noncomputable def qf68L2O : List (Ex × Shape) := [(.exit 2, ⟨99, 3, [(4, .ref 0 [])], [(0, .box (.pair TPage (.pair (.int .u32) (.pair (.cell .map) (.pair (.cell .map) .unit)))) (.cons (.dat false TPage) (.cons (.dat true (.int .u32)) (.cons (.mp 1) (.cons (.mp 2) (.nil)))))), (1, .map .i64 true TPage), (2, .map .i64 true TNode)], [], true⟩), (.ret, ⟨99, 3, [(4, .ref 0 []), (5, .nils), (6, .dat true (.int .i64)), (7, .dat true (.int .i64))], [(0, .box (.pair TPage (.pair (.int .u32) (.pair (.cell .map) (.pair (.cell .map) .unit)))) (.cons (.dat false TPage) (.cons (.dat true (.int .u32)) (.cons (.mp 1) (.cons (.mp 2) (.nil)))))), (1, .map .i64 true TPage), (2, .map .i64 true TNode)], [], true⟩)]
noncomputable def qf68L2M : Sum := loopSum (Y := qf68L2Y) (Z := qf68L2Z) qf68L2S qf68L2O id id (iter qf68L2B)
noncomputable def qf68H : Nat → Option Sum := fun n => bif Nat.beq n 3 then some qf68L1M else bif Nat.beq n 12 then some qf68L2M else none
theorem qf68L1_bd (y : qf68L1Y) : @Eq (Option (qf68L1Y ⊕ qf68L1Z)) (exec qf68E qf68H qf68L1C (qf68L1S.mk' (show qf68L1S.D from y)) (kont (Y := qf68L1Y) (Z := qf68L1Z) qf68L1S qf68L1O id id)) (qf68L1B y) := by kernel_rfl
theorem qf68L1_ok {w0 : World} {Jo : Io} (hfix : ∀ i b, Jo.fix i = some b → i ∈ []) (hmay : true = true → Jo.may) : SumOk PT w0 Jo qf68L1M (.loop qf68L1C) :=
  @loop_ok w0 Jo PT qf68E qf68H qf68L1Y qf68L1Z qf68_env mixed qf68L1C qf68L1S qf68L1O id id id id (fun _ => rfl) (fun _ => rfl) hfix hmay (by kernel_rfl) (noLoops (by kernel_rfl)) qf68L1B qf68L1_bd
theorem qf68L2_bd (y : qf68L2Y) : @Eq (Option (qf68L2Y ⊕ qf68L2Z)) (exec qf68E qf68H qf68L2C (qf68L2S.mk' (show qf68L2S.D from y)) (kont (Y := qf68L2Y) (Z := qf68L2Z) qf68L2S qf68L2O id id)) (qf68L2B y) := by kernel_rfl
theorem qf68L2_ok {w0 : World} {Jo : Io} (hfix : ∀ i b, Jo.fix i = some b → i ∈ []) (hmay : true = true → Jo.may) : SumOk PT w0 Jo qf68L2M (.loop qf68L2C) :=
  @loop_ok w0 Jo PT qf68E qf68H qf68L2Y qf68L2Z qf68_env mixed qf68L2C qf68L2S qf68L2O id id id id (fun _ => rfl) (fun _ => rfl) hfix hmay (by kernel_rfl) (noLoops (by kernel_rfl)) qf68L2B qf68L2_bd
theorem qf68_bd (y : (Val TOp) × (Val (.slice TPage))) : @Eq (Option qf68Z) (exec qf68E qf68H qf68C (qf68I.mk' (show qf68I.D from y)) (kontF (Z := qf68Z) qf68E Tryz.f83.results.toList qf68O id)) (qf68F y) := by kernel_rfl
theorem qf68_lo {w0 : World} {Jo : Io} (hfix : ∀ i b, Jo.fix i = some b → i ∈ []) (hmay : true = true → Jo.may) : LoopsOk PT w0 Jo qf68H qf68C := (loopsMk (by kernel_rfl) (loopsCons (c := qf68L1C) (n := 3) (f := qf68L1M) (by kernel_rfl) (by kernel_rfl) (qf68L1_ok hfix hmay) (loopsCons (c := qf68L2C) (n := 12) (f := qf68L2M) (by kernel_rfl) (by kernel_rfl) (qf68L2_ok hfix hmay) loopsNil)))
theorem qf68_ctr : CtrOk PT 83 qf68ct :=
  @ctr_ok PT qf68E qf68H qf68_env mixed 83 Tryz.f83 qf68C (by kernel_rfl) (by kernel_rfl) (enters_of (by kernel_rfl : PT.funcs[83]? = some Tryz.f83) (by kernel_rfl) (by kernel_rfl)) qf68I qf68O ((Val TOp) × (Val (.slice TPage))) qf68Z id id id id (fun _ => rfl) (fun _ => rfl) (by kernel_rfl) (by kernel_rfl) qf68F qf68_bd (fun w0 Jo hfix hmay => qf68_lo hfix hmay)
noncomputable def qf69 (a0 : Val TPage) (a1 : Int) (a2 : Int) (a3 : Val TNode) (a4 : Val (.slice (.pair (.int .i64) TPage))) (a5 : Val (.slice (.pair (.int .i64) TNode))) : Option ((Val (.slice (.pair (.int .i64) TPage))) × (Val (.slice (.pair (.int .i64) TNode))) × (Val (.slice TPage))) :=
(qf38 (Option.getD (lookV a4 a2) ((0 : Int), (0 : Int), (List.replicate 7 (0 : Int)), ())) a3).bind fun r1 =>
some (a4, a5, [r1.1])
abbrev qf69Y : Type := (Val TPage) × Int × Int × (Val TNode) × (Val (.slice (.pair (.int .i64) TPage))) × (Val (.slice (.pair (.int .i64) TNode)))
abbrev qf69Z : Type := (Val (.slice (.pair (.int .i64) TPage))) × (Val (.slice (.pair (.int .i64) TNode))) × (Val (.slice TPage))
noncomputable def qf69I : Shape := ⟨20, 2, [(0, .cons (.dat false TPage) (.cons (.dat false (.int .u32)) (.cons (.mp 0) (.cons (.mp 1) (.nil))))), (1, .dat false (.int .i64)), (2, .dat false TNode)], [(0, .map .i64 false TPage), (1, .map .i64 false TNode)], [0, 1], false⟩
noncomputable def qf69O : Shape := ⟨21, 3, [(20, .own TPage 2)], [(0, .map .i64 false TPage), (1, .map .i64 false TNode), (2, .slc true TPage)], [0, 1], false⟩
noncomputable def qf69F : qf69Y → Option qf69Z := fun y => qf69 y.1 y.2.1 y.2.2.1 y.2.2.2.1 y.2.2.2.2.1 y.2.2.2.2.2
noncomputable def qf69ct : Ctr := ctrOf qf69I qf69O id id qf69F
noncomputable def qf69E : Env := { tf := tfE, mt := mtE, fn := fun f => bif Nat.beq f 50 then some qf38ct else none }
theorem qf69_env : EnvOk PT qf69E := ⟨tyE, (fun f ct h => by
  simp only [qf69E] at h
  refine envCons (c := qf38ct) h qf38_ctr (fun h => ?_)
  cases h), mapE⟩
noncomputable def qf69C : Code := bodyOf Tryz.f133
theorem qf69_bd (y : qf69Y) : @Eq (Option qf69Z) (exec qf69E qf0H qf69C (qf69I.mk' (show qf69I.D from y)) (kontF (Z := qf69Z) qf69E Tryz.f133.results.toList qf69O id)) (qf69F y) := by kernel_rfl
theorem qf69_ctr : CtrOk PT 133 qf69ct :=
  @ctr_ok PT qf69E qf0H qf69_env mixed 133 Tryz.f133 qf69C (by kernel_rfl) (by kernel_rfl) (enters_of (by kernel_rfl : PT.funcs[133]? = some Tryz.f133) (by kernel_rfl) (by kernel_rfl)) qf69I qf69O qf69Y qf69Z id id id id (fun _ => rfl) (fun _ => rfl) (by kernel_rfl) (by kernel_rfl) qf69F qf69_bd (fun _ _ _ _ => noLoops (by kernel_rfl))
noncomputable def qf70 (a0 : Val TPage) (a1 : Int) (a2 : Val TOp) (a3 : Val (.slice (.pair (.int .i64) TPage))) (a4 : Val (.slice (.pair (.int .i64) TNode))) : Option ((Val TOut) × (Val (.slice (.pair (.int .i64) TPage))) × (Val (.slice (.pair (.int .i64) TNode))) × (Val (.slice TPage))) :=
bif (Option.getD (lookV a4 a2.2.1) (false, (0 : Int), (0 : Int), (0 : Int), (List.replicate 4 (((0 : Int), (0 : Int), ()), (0 : Int), ())), ())).1 then (
bif (decide ((Option.getD (lookV a4 a2.2.1) (false, (0 : Int), (0 : Int), (0 : Int), (List.replicate 4 (((0 : Int), (0 : Int), ()), (0 : Int), ())), ())).2.2.2.1 = a2.2.2.1)) then (
some (((17 : Int), (0 : Int), (0 : Int), [], [], ()), a3, a4, []))
else (
(qf69 a0 a1 a2.2.1 (true, a1, (Option.getD (lookV a4 a2.2.1) (false, (0 : Int), (0 : Int), (0 : Int), (List.replicate 4 (((0 : Int), (0 : Int), ()), (0 : Int), ())), ())).2.2.1, a2.2.2.1, (Option.getD (lookV a4 a2.2.1) (false, (0 : Int), (0 : Int), (0 : Int), (List.replicate 4 (((0 : Int), (0 : Int), ()), (0 : Int), ())), ())).2.2.2.2) a3 a4).bind fun r1 =>
some (((0 : Int), a1, (0 : Int), [], [(97 : Int)], ()), r1)))
else (
(qf69 a0 a1 a2.2.1 (true, a1, (Option.getD (lookV a4 a2.2.1) (false, (0 : Int), (0 : Int), (0 : Int), (List.replicate 4 (((0 : Int), (0 : Int), ()), (0 : Int), ())), ())).2.2.1, a2.2.2.1, (Option.getD (lookV a4 a2.2.1) (false, (0 : Int), (0 : Int), (0 : Int), (List.replicate 4 (((0 : Int), (0 : Int), ()), (0 : Int), ())), ())).2.2.2.2) a3 a4).bind fun r2 =>
some (((0 : Int), a1, (0 : Int), [], [(97 : Int)], ()), r2))
abbrev qf70Y : Type := (Val TPage) × Int × (Val TOp) × (Val (.slice (.pair (.int .i64) TPage))) × (Val (.slice (.pair (.int .i64) TNode)))
abbrev qf70Z : Type := (Val TOut) × (Val (.slice (.pair (.int .i64) TPage))) × (Val (.slice (.pair (.int .i64) TNode))) × (Val (.slice TPage))
noncomputable def qf70I : Shape := ⟨38, 2, [(0, .cons (.dat false TPage) (.cons (.dat false (.int .u32)) (.cons (.mp 0) (.cons (.mp 1) (.nil))))), (1, .dat false TOp)], [(0, .map .i64 false TPage), (1, .map .i64 false TNode)], [0, 1], false⟩
noncomputable def qf70O : Shape := ⟨39, 3, [(38, .tup (.cons (.own TPage 2) (.cons (.dat true TOut) (.nil))))], [(0, .map .i64 false TPage), (1, .map .i64 false TNode), (2, .slc true TPage)], [0, 1], false⟩
noncomputable def qf70F : qf70Y → Option qf70Z := fun y => qf70 y.1 y.2.1 y.2.2.1 y.2.2.2.1 y.2.2.2.2
noncomputable def qf70ct : Ctr := ctrOf qf70I qf70O id id qf70F
noncomputable def qf70E : Env := { tf := tfE, mt := mtE, fn := fun f => bif Nat.beq f 133 then some qf69ct else none }
theorem qf70_env : EnvOk PT qf70E := ⟨tyE, (fun f ct h => by
  simp only [qf70E] at h
  refine envCons (c := qf69ct) h qf69_ctr (fun h => ?_)
  cases h), mapE⟩
noncomputable def qf70C : Code := bodyOf Tryz.f84
theorem qf70_bd (y : qf70Y) : @Eq (Option qf70Z) (exec qf70E qf0H qf70C (qf70I.mk' (show qf70I.D from y)) (kontF (Z := qf70Z) qf70E Tryz.f84.results.toList qf70O id)) (qf70F y) := by kernel_rfl
theorem qf70_ctr : CtrOk PT 84 qf70ct :=
  @ctr_ok PT qf70E qf0H qf70_env mixed 84 Tryz.f84 qf70C (by kernel_rfl) (by kernel_rfl) (enters_of (by kernel_rfl : PT.funcs[84]? = some Tryz.f84) (by kernel_rfl) (by kernel_rfl)) qf70I qf70O qf70Y qf70Z id id id id (fun _ => rfl) (fun _ => rfl) (by kernel_rfl) (by kernel_rfl) qf70F qf70_bd (fun _ _ _ _ => noLoops (by kernel_rfl))
noncomputable def qf71 (a0 : Val TPage) (a1 : Val TPage) : Option Int :=
(qf40 a0.1 a1.1).bind fun r1 =>
some r1
noncomputable def qf71I : Shape := ⟨10, 0, [(0, .dat false TPage), (1, .dat false TPage)], [], [], true⟩
noncomputable def qf71O : Shape := ⟨11, 0, [(10, .dat true (.int .i64))], [], [], true⟩
noncomputable def qf71F : ((Val TPage) × (Val TPage)) → Option Int := fun y => qf71 y.1 y.2
noncomputable def qf71ct : Ctr := ctrOf qf71I qf71O id id qf71F
noncomputable def qf71E : Env := { tf := tfE, mt := mtE, fn := fun f => bif Nat.beq f 91 then some qf40ct else none }
theorem qf71_env : EnvOk PT qf71E := ⟨tyE, (fun f ct h => by
  simp only [qf71E] at h
  refine envCons (c := qf40ct) h qf40_ctr (fun h => ?_)
  cases h), mapE⟩
noncomputable def qf71C : Code := bodyOf Tryz.f90
theorem qf71_bd (y : (Val TPage) × (Val TPage)) : @Eq (Option Int) (exec qf71E qf0H qf71C (qf71I.mk' (show qf71I.D from y)) (kontF (Z := Int) qf71E Tryz.f90.results.toList qf71O id)) (qf71F y) := by kernel_rfl
theorem qf71_ctr : CtrOk PT 90 qf71ct :=
  @ctr_ok PT qf71E qf0H qf71_env mixed 90 Tryz.f90 qf71C (by kernel_rfl) (by kernel_rfl) (enters_of (by kernel_rfl : PT.funcs[90]? = some Tryz.f90) (by kernel_rfl) (by kernel_rfl)) qf71I qf71O ((Val TPage) × (Val TPage)) Int id id id id (fun _ => rfl) (fun _ => rfl) (by kernel_rfl) (by kernel_rfl) qf71F qf71_bd (fun _ _ _ _ => noLoops (by kernel_rfl))
noncomputable def qf72L1b (x0 : Int) (x1 : Int) (x2 : Int) (x3 : Int) (x4 : Val (.slice TPage)) : Option ((Int × Int × Int × Int × (Val (.slice TPage))) ⊕ (Int × Int × Int × (Val (.slice TPage)))) :=
bif (decide (x0 < x3)) then (
bif (inR x3 (List.length x4)) then
bif (inR (IntKind.wrap .i64 (x3 - (1 : Int))) (List.length x4)) then
(qf71 (List.getD x4 (Int.toNat x3) ((0 : Int), (0 : Int), (List.replicate 7 (0 : Int)), ())) (List.getD x4 (Int.toNat (IntKind.wrap .i64 (x3 - (1 : Int)))) ((0 : Int), (0 : Int), (List.replicate 7 (0 : Int)), ()))).bind fun r1 =>
bif (decide (r1 < (0 : Int))) then (
bif (inR (IntKind.wrap .i64 (x3 - (1 : Int))) (List.length x4)) then
bif (inR x3 (List.length x4)) then
bif (inR x3 (List.length x4)) then
bif (inR (IntKind.wrap .i64 (x3 - (1 : Int))) (List.length (List.set x4 (Int.toNat x3) (List.getD x4 (Int.toNat (IntKind.wrap .i64 (x3 - (1 : Int)))) ((0 : Int), (0 : Int), (List.replicate 7 (0 : Int)), ()))))) then
some (Sum.inl (x0, x1, x2, (IntKind.wrap .i64 (x3 - (1 : Int))), (List.set (List.set x4 (Int.toNat x3) (List.getD x4 (Int.toNat (IntKind.wrap .i64 (x3 - (1 : Int)))) ((0 : Int), (0 : Int), (List.replicate 7 (0 : Int)), ()))) (Int.toNat (IntKind.wrap .i64 (x3 - (1 : Int)))) (List.getD x4 (Int.toNat x3) ((0 : Int), (0 : Int), (List.replicate 7 (0 : Int)), ())))))
else none
else none
else none
else none)
else (
some (Sum.inr (x0, x1, x2, x4)))
else none
else none)
else (
some (Sum.inr (x0, x1, x2, x4)))
noncomputable def qf72L1B : (Int × Int × Int × Int × (Val (.slice TPage))) → Option ((Int × Int × Int × Int × (Val (.slice TPage))) ⊕ (Int × Int × Int × (Val (.slice TPage)))) := fun y => qf72L1b y.1 y.2.1 y.2.2.1 y.2.2.2.1 y.2.2.2.2
noncomputable def qf72L1 (x0 : Int) (x1 : Int) (x2 : Int) (x3 : Int) (x4 : Val (.slice TPage)) : Option (Int × Int × Int × (Val (.slice TPage))) := iter qf72L1B (x0, x1, x2, x3, x4)
noncomputable def qf72L2b (x0 : Int) (x1 : Int) (x2 : Int) (x3 : Val (.slice TPage)) : Option ((Int × Int × Int × (Val (.slice TPage))) ⊕ ((Val (.slice TPage)))) :=
bif (decide (x2 < x1)) then (
(qf72L1 x0 x1 x2 x2 x3).bind fun r1 =>
some (Sum.inl (r1.1, r1.2.1, (IntKind.wrap .i64 (r1.2.2.1 + (1 : Int))), r1.2.2.2)))
else (
some (Sum.inr x3))
noncomputable def qf72L2B : (Int × Int × Int × (Val (.slice TPage))) → Option ((Int × Int × Int × (Val (.slice TPage))) ⊕ ((Val (.slice TPage)))) := fun y => qf72L2b y.1 y.2.1 y.2.2.1 y.2.2.2
noncomputable def qf72L2 (x0 : Int) (x1 : Int) (x2 : Int) (x3 : Val (.slice TPage)) : Option ((Val (.slice TPage))) := iter qf72L2B (x0, x1, x2, x3)
noncomputable def qf72 (a0 : Int) (a1 : Int) (a2 : Val (.slice TPage)) : Option ((Val (.slice TPage))) :=
(qf72L2 a0 a1 (IntKind.wrap .i64 (a0 + (1 : Int))) a2).bind fun r1 =>
some r1
abbrev qf72L1Y : Type := Int × Int × Int × Int × (Val (.slice TPage))
noncomputable def qf72I : Shape := ⟨53, 1, [(0, .own TPage 0), (1, .dat false (.int .i64)), (2, .dat false (.int .i64)), (3, .fn 90 (.nil))], [(0, .slc false TPage)], [0], false⟩
noncomputable def qf72O : Shape := ⟨54, 1, [(53, .tup (.nil))], [(0, .slc false TPage)], [0], false⟩
noncomputable def qf72F : (Int × Int × (Val (.slice TPage))) → Option ((Val (.slice TPage))) := fun y => qf72 y.1 y.2.1 y.2.2
noncomputable def qf72ct : Ctr := ctrOf qf72I qf72O id id qf72F
noncomputable def qf72E : Env := { tf := tfE, mt := mtE, fn := fun f => bif Nat.beq f 90 then some qf71ct else none }
theorem qf72_env : EnvOk PT qf72E := ⟨tyE, (fun f ct h => by
  simp only [qf72E] at h
  refine envCons (c := qf71ct) h qf71_ctr (fun h => ?_)
  cases h), mapE⟩
noncomputable def qf72C : Code := bodyOf Tryz.f154
noncomputable def qf72L2C : Code := (loopsOf qf72C).getD 0 .skip
noncomputable def qf72L1C : Code := (loopsOf qf72C).getD 1 .skip
noncomputable def qf72L1S : Shape := ⟨53, 1, [(0, .own TPage 0), (1, .dat false (.int .i64)), (2, .dat false (.int .i64)), (3, .fn 90 (.nil)), (8, .dat true (.int .i64)), (9, .dat true (.int .i64))], [(0, .slc false TPage)], [0], false⟩
noncomputable def qf72L1O : List (Ex × Shape) := [(.exit 2, ⟨53, 1, [(0, .own TPage 0), (1, .dat false (.int .i64)), (2, .dat false (.int .i64)), (3, .fn 90 (.nil)), (8, .dat true (.int .i64))], [(0, .slc false TPage)], [0], false⟩)]
noncomputable def qf72L1M : Sum := loopSum (Y := qf72L1Y) (Z := Int × Int × Int × (Val (.slice TPage))) qf72L1S qf72L1O id id (iter qf72L1B)
noncomputable def qf72L2S : Shape := ⟨53, 1, [(0, .own TPage 0), (1, .dat false (.int .i64)), (2, .dat false (.int .i64)), (3, .fn 90 (.nil)), (8, .dat true (.int .i64))], [(0, .slc false TPage)], [0], false⟩
noncomputable def qf72L2O : List (Ex × Shape) := [(.exit 0, ⟨53, 1, [], [(0, .slc false TPage)], [0], false⟩)]
noncomputable def qf72L2M : Sum := loopSum (Y := Int × Int × Int × (Val (.slice TPage))) (Z := (Val (.slice TPage))) qf72L2S qf72L2O id id (iter qf72L2B)
noncomputable def qf72H : Nat → Option Sum := fun n => bif Nat.beq n 4 then some qf72L1M else bif Nat.beq n 1 then some qf72L2M else none
theorem qf72L1_bd (y : qf72L1Y) : @Eq (Option (qf72L1Y ⊕ (Int × Int × Int × (Val (.slice TPage))))) (exec qf72E qf72H qf72L1C (qf72L1S.mk' (show qf72L1S.D from y)) (kont (Y := qf72L1Y) (Z := Int × Int × Int × (Val (.slice TPage))) qf72L1S qf72L1O id id)) (qf72L1B y) := by kernel_rfl
theorem qf72L1_ok {w0 : World} {Jo : Io} (hfix : ∀ i b, Jo.fix i = some b → i ∈ [0]) (hmay : false = true → Jo.may) : SumOk PT w0 Jo qf72L1M (.loop qf72L1C) :=
  @loop_ok w0 Jo PT qf72E qf72H qf72L1Y (Int × Int × Int × (Val (.slice TPage))) qf72_env mixed qf72L1C qf72L1S qf72L1O id id id id (fun _ => rfl) (fun _ => rfl) hfix hmay (by kernel_rfl) (noLoops (by kernel_rfl)) qf72L1B qf72L1_bd
theorem qf72L2_bd (y : Int × Int × Int × (Val (.slice TPage))) : @Eq (Option ((Int × Int × Int × (Val (.slice TPage))) ⊕ ((Val (.slice TPage))))) (exec qf72E qf72H qf72L2C (qf72L2S.mk' (show qf72L2S.D from y)) (kont (Y := Int × Int × Int × (Val (.slice TPage))) (Z := (Val (.slice TPage))) qf72L2S qf72L2O id id)) (qf72L2B y) := by kernel_rfl
theorem qf72L2_ok {w0 : World} {Jo : Io} (hfix : ∀ i b, Jo.fix i = some b → i ∈ [0]) (hmay : false = true → Jo.may) : SumOk PT w0 Jo qf72L2M (.loop qf72L2C) :=
  @loop_ok w0 Jo PT qf72E qf72H (Int × Int × Int × (Val (.slice TPage))) ((Val (.slice TPage))) qf72_env mixed qf72L2C qf72L2S qf72L2O id id id id (fun _ => rfl) (fun _ => rfl) hfix hmay (by kernel_rfl) (loopsMk (by kernel_rfl) (loopsCons (c := qf72L1C) (n := 4) (f := qf72L1M) (by kernel_rfl) (by kernel_rfl) (qf72L1_ok hfix hmay) loopsNil)) qf72L2B qf72L2_bd
theorem qf72_bd (y : Int × Int × (Val (.slice TPage))) : @Eq (Option ((Val (.slice TPage)))) (exec qf72E qf72H qf72C (qf72I.mk' (show qf72I.D from y)) (kontF (Z := (Val (.slice TPage))) qf72E Tryz.f154.results.toList qf72O id)) (qf72F y) := by kernel_rfl
theorem qf72_lo {w0 : World} {Jo : Io} (hfix : ∀ i b, Jo.fix i = some b → i ∈ [0]) (hmay : false = true → Jo.may) : LoopsOk PT w0 Jo qf72H qf72C := (loopsMk (by kernel_rfl) (loopsCons (c := qf72L2C) (n := 1) (f := qf72L2M) (by kernel_rfl) (by kernel_rfl) (qf72L2_ok hfix hmay) (loopsCons (c := qf72L1C) (n := 4) (f := qf72L1M) (by kernel_rfl) (by kernel_rfl) (qf72L1_ok hfix hmay) loopsNil)))
theorem qf72_ctr : CtrOk PT 154 qf72ct :=
  @ctr_ok PT qf72E qf72H qf72_env mixed 154 Tryz.f154 qf72C (by kernel_rfl) (by kernel_rfl) (enters_of (by kernel_rfl : PT.funcs[154]? = some Tryz.f154) (by kernel_rfl) (by kernel_rfl)) qf72I qf72O (Int × Int × (Val (.slice TPage))) ((Val (.slice TPage))) id id id id (fun _ => rfl) (fun _ => rfl) (by kernel_rfl) (by kernel_rfl) qf72F qf72_bd (fun w0 Jo hfix hmay => qf72_lo hfix hmay)
noncomputable def qf73L1b (x0 : Int) (x1 : Int) (x2 : Int) (x3 : Bool) (x4 : Bool) (x5 : Val (.slice TPage)) : Option ((Int × Int × Int × Bool × Bool × (Val (.slice TPage))) ⊕ ((Val (.slice TPage)))) :=
bif (decide ((IntKind.wrap .i64 (x1 - x0)) ≤ (12 : Int))) then (
(qf72 x0 x1 x5).bind fun r1 =>
some (Sum.inr r1))
else (
bif (decide (x2 = (0 : Int))) then (
none)
else (
bif (!x3) then (
none)
else (
none)))
noncomputable def qf73L1B : (Int × Int × Int × Bool × Bool × (Val (.slice TPage))) → Option ((Int × Int × Int × Bool × Bool × (Val (.slice TPage))) ⊕ ((Val (.slice TPage)))) := fun y => qf73L1b y.1 y.2.1 y.2.2.1 y.2.2.2.1 y.2.2.2.2.1 y.2.2.2.2.2
noncomputable def qf73L1 (x0 : Int) (x1 : Int) (x2 : Int) (x3 : Bool) (x4 : Bool) (x5 : Val (.slice TPage)) : Option ((Val (.slice TPage))) := iter qf73L1B (x0, x1, x2, x3, x4, x5)
noncomputable def qf73 (a0 : Int) (a1 : Int) (a2 : Int) (a3 : Val (.slice TPage)) : Option ((Val (.slice TPage))) :=
(qf73L1 a0 a1 a2 true true a3).bind fun r1 =>
some r1
abbrev qf73L1Y : Type := Int × Int × Int × Bool × Bool × (Val (.slice TPage))
noncomputable def qf73I : Shape := ⟨148, 1, [(0, .own TPage 0), (1, .dat false (.int .i64)), (2, .dat false (.int .i64)), (3, .dat false (.int .i64)), (4, .fn 90 (.nil))], [(0, .slc false TPage)], [0], false⟩
noncomputable def qf73O : Shape := ⟨149, 1, [(148, .tup (.nil))], [(0, .slc false TPage)], [0], false⟩
noncomputable def qf73F : (Int × Int × Int × (Val (.slice TPage))) → Option ((Val (.slice TPage))) := fun y => qf73 y.1 y.2.1 y.2.2.1 y.2.2.2
noncomputable def qf73ct : Ctr := ctrOf qf73I qf73O id id qf73F
noncomputable def qf73E : Env := { tf := tfE, mt := mtE, fn := fun f => bif Nat.beq f 154 then some qf72ct else none }
theorem qf73_env : EnvOk PT qf73E := ⟨tyE, (fun f ct h => by
  simp only [qf73E] at h
  refine envCons (c := qf72ct) h qf72_ctr (fun h => ?_)
  cases h), mapE⟩
noncomputable def qf73C : Code := bodyOf Tryz.f138
noncomputable def qf73L1C : Code := (loopsOf qf73C).getD 0 .skip
noncomputable def qf73L1S : Shape := ⟨148, 1, [(0, .own TPage 0), (1, .dat false (.int .i64)), (2, .dat false (.int .i64)), (3, .dat false (.int .i64)), (4, .fn 90 (.nil)), (10, .dat true .bool), (11, .dat true .bool)], [(0, .slc false TPage)], [0], false⟩
noncomputable def qf73L1O : List (Ex × Shape) := [(.ret, ⟨148, 1, [], [(0, .slc false TPage)], [0], false⟩)]
noncomputable def qf73L1M : Sum := loopSum (Y := qf73L1Y) (Z := (Val (.slice TPage))) qf73L1S qf73L1O id id (iter qf73L1B)
noncomputable def qf73H : Nat → Option Sum := fun n => bif Nat.beq n 2 then some qf73L1M else none
theorem qf73L1_bd (y : qf73L1Y) : @Eq (Option (qf73L1Y ⊕ ((Val (.slice TPage))))) (exec qf73E qf73H qf73L1C (qf73L1S.mk' (show qf73L1S.D from y)) (kont (Y := qf73L1Y) (Z := (Val (.slice TPage))) qf73L1S qf73L1O id id)) (qf73L1B y) := by kernel_rfl
theorem qf73L1_ok {w0 : World} {Jo : Io} (hfix : ∀ i b, Jo.fix i = some b → i ∈ [0]) (hmay : false = true → Jo.may) : SumOk PT w0 Jo qf73L1M (.loop qf73L1C) :=
  @loop_ok w0 Jo PT qf73E qf73H qf73L1Y ((Val (.slice TPage))) qf73_env mixed qf73L1C qf73L1S qf73L1O id id id id (fun _ => rfl) (fun _ => rfl) hfix hmay (by kernel_rfl) (noLoops (by kernel_rfl)) qf73L1B qf73L1_bd
theorem qf73_bd (y : Int × Int × Int × (Val (.slice TPage))) : @Eq (Option ((Val (.slice TPage)))) (exec qf73E qf73H qf73C (qf73I.mk' (show qf73I.D from y)) (kontF (Z := (Val (.slice TPage))) qf73E Tryz.f138.results.toList qf73O id)) (qf73F y) := by kernel_rfl
theorem qf73_lo {w0 : World} {Jo : Io} (hfix : ∀ i b, Jo.fix i = some b → i ∈ [0]) (hmay : false = true → Jo.may) : LoopsOk PT w0 Jo qf73H qf73C := (loopsMk (by kernel_rfl) (loopsCons (c := qf73L1C) (n := 2) (f := qf73L1M) (by kernel_rfl) (by kernel_rfl) (qf73L1_ok hfix hmay) loopsNil))
theorem qf73_ctr : CtrOk PT 138 qf73ct :=
  @ctr_ok PT qf73E qf73H qf73_env mixed 138 Tryz.f138 qf73C (by kernel_rfl) (by kernel_rfl) (enters_of (by kernel_rfl : PT.funcs[138]? = some Tryz.f138) (by kernel_rfl) (by kernel_rfl)) qf73I qf73O (Int × Int × Int × (Val (.slice TPage))) ((Val (.slice TPage))) id id id id (fun _ => rfl) (fun _ => rfl) (by kernel_rfl) (by kernel_rfl) qf73F qf73_bd (fun w0 Jo hfix hmay => qf73_lo hfix hmay)
noncomputable def qf74 (a0 : Val (.slice TPage)) : Option ((Val (.slice TPage))) :=
(qf9 (IntKind.wrap .u64 (((List.length a0) : Nat) : Int))).bind fun r1 =>
(qf73 (0 : Int) (((List.length a0) : Nat) : Int) r1 a0).bind fun r2 =>
some r2
noncomputable def qf74I : Shape := ⟨14, 1, [(0, .own TPage 0), (1, .fn 90 (.nil))], [(0, .slc false TPage)], [0], false⟩
noncomputable def qf74O : Shape := ⟨15, 1, [(14, .tup (.nil))], [(0, .slc false TPage)], [0], false⟩
noncomputable def qf74F : ((Val (.slice TPage))) → Option ((Val (.slice TPage))) := fun y => qf74 y
noncomputable def qf74ct : Ctr := ctrOf qf74I qf74O id id qf74F
noncomputable def qf74E : Env := { tf := tfE, mt := mtE, fn := fun f => bif Nat.beq f 139 then some qf9ct else bif Nat.beq f 138 then some qf73ct else none }
theorem qf74_env : EnvOk PT qf74E := ⟨tyE, (fun f ct h => by
  simp only [qf74E] at h
  refine envCons (c := qf9ct) h qf9_ctr (fun h => ?_)
  refine envCons (c := qf73ct) h qf73_ctr (fun h => ?_)
  cases h), mapE⟩
noncomputable def qf74C : Code := bodyOf Tryz.f89
theorem qf74_bd (y : (Val (.slice TPage))) : @Eq (Option ((Val (.slice TPage)))) (exec qf74E qf0H qf74C (qf74I.mk' (show qf74I.D from y)) (kontF (Z := (Val (.slice TPage))) qf74E Tryz.f89.results.toList qf74O id)) (qf74F y) := by kernel_rfl
theorem qf74_ctr : CtrOk PT 89 qf74ct :=
  @ctr_ok PT qf74E qf0H qf74_env mixed 89 Tryz.f89 qf74C (by kernel_rfl) (by kernel_rfl) (enters_of (by kernel_rfl : PT.funcs[89]? = some Tryz.f89) (by kernel_rfl) (by kernel_rfl)) qf74I qf74O ((Val (.slice TPage))) ((Val (.slice TPage))) id id id id (fun _ => rfl) (fun _ => rfl) (by kernel_rfl) (by kernel_rfl) qf74F qf74_bd (fun _ _ _ _ => noLoops (by kernel_rfl))
noncomputable def qf75 (a0 : Val TPage) (a1 : Int) (a2 : Int) (a3 : Bool) (a4 : Val (.slice (.pair (.int .i64) TPage))) (a5 : Val (.slice (.pair (.int .i64) TNode))) : Option ((Val TOut) × (Val (.slice (.pair (.int .i64) TPage))) × (Val (.slice (.pair (.int .i64) TNode))) × (Val (.slice TPage))) :=
bif (!(Option.getD (lookV a5 a2) (false, (0 : Int), (0 : Int), (0 : Int), (List.replicate 4 (((0 : Int), (0 : Int), ()), (0 : Int), ())), ())).1) then (
some (((16 : Int), (0 : Int), (0 : Int), [], [], ()), a4, a5, []))
else (
bif (!a3) then (
some (((16 : Int), (0 : Int), (0 : Int), [], [], ()), a4, a5, []))
else (
(qf69 a0 a1 a2 (false, (0 : Int), (Option.getD (lookV a5 a2) (false, (0 : Int), (0 : Int), (0 : Int), (List.replicate 4 (((0 : Int), (0 : Int), ()), (0 : Int), ())), ())).2.2) a4 a5).bind fun r1 =>
some (((0 : Int), (Option.getD (lookV a5 a2) (false, (0 : Int), (0 : Int), (0 : Int), (List.replicate 4 (((0 : Int), (0 : Int), ()), (0 : Int), ())), ())).2.1, (0 : Int), [], [], ()), r1)))
abbrev qf75Y : Type := (Val TPage) × Int × Int × Bool × (Val (.slice (.pair (.int .i64) TPage))) × (Val (.slice (.pair (.int .i64) TNode)))
abbrev qf75Z : Type := (Val TOut) × (Val (.slice (.pair (.int .i64) TPage))) × (Val (.slice (.pair (.int .i64) TNode))) × (Val (.slice TPage))
noncomputable def qf75I : Shape := ⟨32, 2, [(0, .cons (.dat false TPage) (.cons (.dat false (.int .u32)) (.cons (.mp 0) (.cons (.mp 1) (.nil))))), (1, .dat false (.int .i64)), (2, .dat false .bool)], [(0, .map .i64 false TPage), (1, .map .i64 false TNode)], [0, 1], false⟩
noncomputable def qf75O : Shape := ⟨33, 3, [(32, .tup (.cons (.own TPage 2) (.cons (.dat true TOut) (.nil))))], [(0, .map .i64 false TPage), (1, .map .i64 false TNode), (2, .slc true TPage)], [0, 1], false⟩
noncomputable def qf75F : qf75Y → Option qf75Z := fun y => qf75 y.1 y.2.1 y.2.2.1 y.2.2.2.1 y.2.2.2.2.1 y.2.2.2.2.2
noncomputable def qf75ct : Ctr := ctrOf qf75I qf75O id id qf75F
noncomputable def qf75E : Env := { tf := tfE, mt := mtE, fn := fun f => bif Nat.beq f 133 then some qf69ct else none }
theorem qf75_env : EnvOk PT qf75E := ⟨tyE, (fun f ct h => by
  simp only [qf75E] at h
  refine envCons (c := qf69ct) h qf69_ctr (fun h => ?_)
  cases h), mapE⟩
noncomputable def qf75C : Code := bodyOf Tryz.f85
theorem qf75_bd (y : qf75Y) : @Eq (Option qf75Z) (exec qf75E qf0H qf75C (qf75I.mk' (show qf75I.D from y)) (kontF (Z := qf75Z) qf75E Tryz.f85.results.toList qf75O id)) (qf75F y) := by kernel_rfl
theorem qf75_ctr : CtrOk PT 85 qf75ct :=
  @ctr_ok PT qf75E qf0H qf75_env mixed 85 Tryz.f85 qf75C (by kernel_rfl) (by kernel_rfl) (enters_of (by kernel_rfl : PT.funcs[85]? = some Tryz.f85) (by kernel_rfl) (by kernel_rfl)) qf75I qf75O qf75Y qf75Z id id id id (fun _ => rfl) (fun _ => rfl) (by kernel_rfl) (by kernel_rfl) qf75F qf75_bd (fun _ _ _ _ => noLoops (by kernel_rfl))
noncomputable def qf76 (a0 : Val TPage) (a1 : Int) : Option ((Val TPage) × Int) :=
bif (!(decide (a0.1 = (97 : Int)))) then (
some (((0 : Int), (0 : Int), (List.replicate 7 (0 : Int)), ()), (1 : Int)))
else (
some ((a0.1, a0.2.1, [(IntKind.wrap .u64 a1), (0 : Int), (0 : Int), (0 : Int), (0 : Int), (0 : Int), (0 : Int)], a0.2.2.2), (0 : Int)))
noncomputable def qf76I : Shape := ⟨15, 0, [(0, .dat false TPage), (1, .dat false (.int .u32))], [], [], true⟩
noncomputable def qf76O : Shape := ⟨16, 0, [(15, .tup (.cons (.dat false TPage) (.cons (.dat true (.int .i64)) (.nil))))], [], [], true⟩
noncomputable def qf76F : ((Val TPage) × Int) → Option ((Val TPage) × Int) := fun y => qf76 y.1 y.2
noncomputable def qf76ct : Ctr := ctrOf qf76I qf76O id id qf76F
noncomputable def qf76E : Env := { tf := tfE, mt := mtE, fn := fun f => none }
theorem qf76_env : EnvOk PT qf76E := ⟨tyE, (fun f ct h => by
  simp only [qf76E] at h
  cases h), mapE⟩
noncomputable def qf76C : Code := bodyOf Tryz.f135
theorem qf76_bd (y : (Val TPage) × Int) : @Eq (Option ((Val TPage) × Int)) (exec qf76E qf0H qf76C (qf76I.mk' (show qf76I.D from y)) (kontF (Z := (Val TPage) × Int) qf76E Tryz.f135.results.toList qf76O id)) (qf76F y) := by kernel_rfl
theorem qf76_ctr : CtrOk PT 135 qf76ct :=
  @ctr_ok PT qf76E qf0H qf76_env mixed 135 Tryz.f135 qf76C (by kernel_rfl) (by kernel_rfl) (enters_of (by kernel_rfl : PT.funcs[135]? = some Tryz.f135) (by kernel_rfl) (by kernel_rfl)) qf76I qf76O ((Val TPage) × Int) ((Val TPage) × Int) id id id id (fun _ => rfl) (fun _ => rfl) (by kernel_rfl) (by kernel_rfl) qf76F qf76_bd (fun _ _ _ _ => noLoops (by kernel_rfl))
noncomputable def qf77L1b (x0 : Val (.slice (.int .i64))) (x1 : Int) (x2 : Int) (x3 : Val (.slice (.pair (.int .i64) TPage))) (x4 : Val (.slice (.pair (.int .i64) TNode))) (x5 : Val TPage) (x6 : Int) (x7 : Val TOp) (x8 : Int) (x9 : Int) (x10 : Int) : Option (((Val (.slice (.int .i64))) × Int × Int × (Val (.slice (.pair (.int .i64) TPage))) × (Val (.slice (.pair (.int .i64) TNode))) × (Val TPage) × Int × (Val TOp) × Int × Int × Int) ⊕ (((Val (.slice (.pair (.int .i64) TPage))) × (Val (.slice (.pair (.int .i64) TNode))) × (Val TPage) × Int × (Val TOp) × Int × Int × Int) ⊕ ((Val (.slice (.pair (.int .i64) TPage))) × (Val (.slice (.pair (.int .i64) TNode))) × Int × Int × Int))) :=
bif (decide (x2 < x1)) then (
bif (inR x2 (List.length x0)) then
bif (Option.getD (lookV x4 (List.getD x0 (Int.toNat x2) (0 : Int))) (false, (0 : Int), (0 : Int), (0 : Int), (List.replicate 4 (((0 : Int), (0 : Int), ()), (0 : Int), ())), ())).1 then (
bif (!(decide ((Option.getD (lookV x4 (List.getD x0 (Int.toNat x2) (0 : Int))) (false, (0 : Int), (0 : Int), (0 : Int), (List.replicate 4 (((0 : Int), (0 : Int), ()), (0 : Int), ())), ())).2.1 = x6))) then (
some (Sum.inr (Sum.inr (x3, x4, (3 : Int), (0 : Int), (List.getD x0 (Int.toNat x2) (0 : Int))))))
else (
some (Sum.inl (x0, x1, (IntKind.wrap .i64 (x2 + (1 : Int))), x3, x4, x5, x6, x7, x8, x9, x10))))
else (
some (Sum.inl (x0, x1, (IntKind.wrap .i64 (x2 + (1 : Int))), x3, x4, x5, x6, x7, x8, x9, x10)))
else none)
else (
some (Sum.inr (Sum.inl (x3, x4, x5, x6, x7, x8, x9, x10))))
noncomputable def qf77L1B : ((Val (.slice (.int .i64))) × Int × Int × (Val (.slice (.pair (.int .i64) TPage))) × (Val (.slice (.pair (.int .i64) TNode))) × (Val TPage) × Int × (Val TOp) × Int × Int × Int) → Option (((Val (.slice (.int .i64))) × Int × Int × (Val (.slice (.pair (.int .i64) TPage))) × (Val (.slice (.pair (.int .i64) TNode))) × (Val TPage) × Int × (Val TOp) × Int × Int × Int) ⊕ (((Val (.slice (.pair (.int .i64) TPage))) × (Val (.slice (.pair (.int .i64) TNode))) × (Val TPage) × Int × (Val TOp) × Int × Int × Int) ⊕ ((Val (.slice (.pair (.int .i64) TPage))) × (Val (.slice (.pair (.int .i64) TNode))) × Int × Int × Int))) := fun y => qf77L1b y.1 y.2.1 y.2.2.1 y.2.2.2.1 y.2.2.2.2.1 y.2.2.2.2.2.1 y.2.2.2.2.2.2.1 y.2.2.2.2.2.2.2.1 y.2.2.2.2.2.2.2.2.1 y.2.2.2.2.2.2.2.2.2.1 y.2.2.2.2.2.2.2.2.2.2
noncomputable def qf77L1 (x0 : Val (.slice (.int .i64))) (x1 : Int) (x2 : Int) (x3 : Val (.slice (.pair (.int .i64) TPage))) (x4 : Val (.slice (.pair (.int .i64) TNode))) (x5 : Val TPage) (x6 : Int) (x7 : Val TOp) (x8 : Int) (x9 : Int) (x10 : Int) : Option (((Val (.slice (.pair (.int .i64) TPage))) × (Val (.slice (.pair (.int .i64) TNode))) × (Val TPage) × Int × (Val TOp) × Int × Int × Int) ⊕ ((Val (.slice (.pair (.int .i64) TPage))) × (Val (.slice (.pair (.int .i64) TNode))) × Int × Int × Int)) := iter qf77L1B (x0, x1, x2, x3, x4, x5, x6, x7, x8, x9, x10)
noncomputable def qf77 (a0 : Val TPage) (a1 : Int) (a2 : Val TOp) (a3 : Val (.slice (.pair (.int .i64) TPage))) (a4 : Val (.slice (.pair (.int .i64) TNode))) : Option ((Val TOut) × (Val (.slice (.pair (.int .i64) TPage))) × (Val (.slice (.pair (.int .i64) TNode))) × (Val (.slice TPage))) :=
(qf65 a2).bind fun r1 =>
(qf77L1 r1 (((List.length r1) : Nat) : Int) (0 : Int) a3 a4 a0 a1 a2 (0 : Int) (0 : Int) (0 : Int)).bind fun r2 =>
match r2 with
| .inl r3 => (
bif (decide (r3.2.2.2.1 = (4294967295 : Int))) then (
some (((12 : Int), (0 : Int), (0 : Int), [], [], ()), r3.1, r3.2.1, []))
else (
(qf76 r3.2.2.1 (IntKind.wrap .u32 (r3.2.2.2.1 + (1 : Int)))).bind fun r5 =>
(qf66 r3.2.2.2.2.1).bind fun r6 =>
bif ((decide ((1 : Int) ≤ (((List.length r6) : Nat) : Int))) && (decide ((((List.length r6) : Nat) : Int) ≤ (((List.length r6) : Nat) : Int)))) then
some (((0 : Int), (IntKind.wrap .u32 (r3.2.2.2.1 + (1 : Int))), (0 : Int), [], (List.drop 1 (List.take (List.length r6) r6)), ()), r3.1, r3.2.1, [r5.1])
else none))
| .inr r4 => (
some ((r4.2.2.1, r4.2.2.2.1, r4.2.2.2.2, [], [], ()), r4.1, r4.2.1, []))
abbrev qf77Y : Type := (Val TPage) × Int × (Val TOp) × (Val (.slice (.pair (.int .i64) TPage))) × (Val (.slice (.pair (.int .i64) TNode)))
abbrev qf77Z : Type := (Val TOut) × (Val (.slice (.pair (.int .i64) TPage))) × (Val (.slice (.pair (.int .i64) TNode))) × (Val (.slice TPage))
abbrev qf77L1Y : Type := (Val (.slice (.int .i64))) × Int × Int × (Val (.slice (.pair (.int .i64) TPage))) × (Val (.slice (.pair (.int .i64) TNode))) × (Val TPage) × Int × (Val TOp) × Int × Int × Int
abbrev qf77L1Z : Type := ((Val (.slice (.pair (.int .i64) TPage))) × (Val (.slice (.pair (.int .i64) TNode))) × (Val TPage) × Int × (Val TOp) × Int × Int × Int) ⊕ ((Val (.slice (.pair (.int .i64) TPage))) × (Val (.slice (.pair (.int .i64) TNode))) × Int × Int × Int)
noncomputable def qf77I : Shape := ⟨56, 2, [(0, .cons (.dat false TPage) (.cons (.dat false (.int .u32)) (.cons (.mp 0) (.cons (.mp 1) (.nil))))), (1, .dat false TOp)], [(0, .map .i64 false TPage), (1, .map .i64 false TNode)], [0, 1], false⟩
noncomputable def qf77O : Shape := ⟨57, 3, [(56, .tup (.cons (.own TPage 2) (.cons (.dat true TOut) (.nil))))], [(0, .map .i64 false TPage), (1, .map .i64 false TNode), (2, .slc true TPage)], [0, 1], false⟩
noncomputable def qf77F : qf77Y → Option qf77Z := fun y => qf77 y.1 y.2.1 y.2.2.1 y.2.2.2.1 y.2.2.2.2
noncomputable def qf77ct : Ctr := ctrOf qf77I qf77O id id qf77F
noncomputable def qf77E : Env := { tf := tfE, mt := mtE, fn := fun f => bif Nat.beq f 134 then some qf65ct else bif Nat.beq f 135 then some qf76ct else bif Nat.beq f 131 then some qf66ct else none }
theorem qf77_env : EnvOk PT qf77E := ⟨tyE, (fun f ct h => by
  simp only [qf77E] at h
  refine envCons (c := qf65ct) h qf65_ctr (fun h => ?_)
  refine envCons (c := qf76ct) h qf76_ctr (fun h => ?_)
  refine envCons (c := qf66ct) h qf66_ctr (fun h => ?_)
  cases h), mapE⟩
noncomputable def qf77C : Code := bodyOf Tryz.f86
noncomputable def qf77L1C : Code := (loopsOf qf77C).getD 0 .skip
noncomputable def qf77L1S : Shape := ⟨56, 5, [(2, .ref 2 []), (3, .ref 3 []), (5, .ref 4 []), (12, .dat true (.slice (.int .i64))), (13, .dat true (.int .i64)), (14, .dat true (.int .i64))], [(0, .map .i64 false TPage), (1, .map .i64 false TNode), (2, .box (.pair TPage (.pair (.int .u32) (.pair (.cell .map) (.pair (.cell .map) .unit)))) (.cons (.dat false TPage) (.cons (.dat false (.int .u32)) (.cons (.mp 0) (.cons (.mp 1) (.nil)))))), (3, .box TOp (.dat false TOp)), (4, .box TOut (.cons (.dat true (.int .i64)) (.cons (.dat true (.int .u32)) (.cons (.dat true (.int .i64)) (.cons (.nils) (.cons (.nils) (.nil)))))))], [0, 1], false⟩
noncomputable def qf77L1O : List (Ex × Shape) := [(.exit 0, ⟨56, 5, [(2, .ref 2 []), (3, .ref 3 []), (5, .ref 4 [])], [(0, .map .i64 false TPage), (1, .map .i64 false TNode), (2, .box (.pair TPage (.pair (.int .u32) (.pair (.cell .map) (.pair (.cell .map) .unit)))) (.cons (.dat false TPage) (.cons (.dat false (.int .u32)) (.cons (.mp 0) (.cons (.mp 1) (.nil)))))), (3, .box TOp (.dat false TOp)), (4, .box TOut (.cons (.dat true (.int .i64)) (.cons (.dat true (.int .u32)) (.cons (.dat true (.int .i64)) (.cons (.nils) (.cons (.nils) (.nil)))))))], [0, 1], false⟩), (.ret, ⟨56, 3, [(4, .nils), (5, .ref 2 [])], [(0, .map .i64 false TPage), (1, .map .i64 false TNode), (2, .box TOut (.cons (.dat true (.int .i64)) (.cons (.dat true (.int .u32)) (.cons (.dat true (.int .i64)) (.cons (.nils) (.cons (.nils) (.nil)))))))], [0, 1], false⟩)]
noncomputable def qf77L1M : Sum := loopSum (Y := qf77L1Y) (Z := qf77L1Z) qf77L1S qf77L1O id id (iter qf77L1B)
noncomputable def qf77H : Nat → Option Sum := fun n => bif Nat.beq n 2 then some qf77L1M else none
theorem qf77L1_bd (y : qf77L1Y) : @Eq (Option (qf77L1Y ⊕ qf77L1Z)) (exec qf77E qf77H qf77L1C (qf77L1S.mk' (show qf77L1S.D from y)) (kont (Y := qf77L1Y) (Z := qf77L1Z) qf77L1S qf77L1O id id)) (qf77L1B y) := by kernel_rfl
theorem qf77L1_ok {w0 : World} {Jo : Io} (hfix : ∀ i b, Jo.fix i = some b → i ∈ [0, 1]) (hmay : false = true → Jo.may) : SumOk PT w0 Jo qf77L1M (.loop qf77L1C) :=
  @loop_ok w0 Jo PT qf77E qf77H qf77L1Y qf77L1Z qf77_env mixed qf77L1C qf77L1S qf77L1O id id id id (fun _ => rfl) (fun _ => rfl) hfix hmay (by kernel_rfl) (noLoops (by kernel_rfl)) qf77L1B qf77L1_bd
theorem qf77_bd (y : qf77Y) : @Eq (Option qf77Z) (exec qf77E qf77H qf77C (qf77I.mk' (show qf77I.D from y)) (kontF (Z := qf77Z) qf77E Tryz.f86.results.toList qf77O id)) (qf77F y) := by kernel_rfl
theorem qf77_lo {w0 : World} {Jo : Io} (hfix : ∀ i b, Jo.fix i = some b → i ∈ [0, 1]) (hmay : false = true → Jo.may) : LoopsOk PT w0 Jo qf77H qf77C := (loopsMk (by kernel_rfl) (loopsCons (c := qf77L1C) (n := 2) (f := qf77L1M) (by kernel_rfl) (by kernel_rfl) (qf77L1_ok hfix hmay) loopsNil))
theorem qf77_ctr : CtrOk PT 86 qf77ct :=
  @ctr_ok PT qf77E qf77H qf77_env mixed 86 Tryz.f86 qf77C (by kernel_rfl) (by kernel_rfl) (enters_of (by kernel_rfl : PT.funcs[86]? = some Tryz.f86) (by kernel_rfl) (by kernel_rfl)) qf77I qf77O qf77Y qf77Z id id id id (fun _ => rfl) (fun _ => rfl) (by kernel_rfl) (by kernel_rfl) qf77F qf77_bd (fun w0 Jo hfix hmay => qf77_lo hfix hmay)
noncomputable def qf78L1b (x0 : Int) (x1 : Val (.arr 4 TRet)) (x2 : Int) (x3 : Val (.slice (.pair (.int .i64) TPage))) (x4 : Val (.slice (.pair (.int .i64) TNode))) (x5 : Val TPage) (x6 : Int) (x7 : Val TOp) (x8 : Int) (x9 : Int) (x10 : Int) (x11 : Val TNode) : Option ((Int × (Val (.arr 4 TRet)) × Int × (Val (.slice (.pair (.int .i64) TPage))) × (Val (.slice (.pair (.int .i64) TNode))) × (Val TPage) × Int × (Val TOp) × Int × Int × Int × (Val TNode)) ⊕ ((Int × (Val (.slice (.pair (.int .i64) TPage))) × (Val (.slice (.pair (.int .i64) TNode))) × (Val TPage) × Int × (Val TOp) × Int × Int × Int × (Val TNode)) ⊕ ((Val (.slice (.pair (.int .i64) TPage))) × (Val (.slice (.pair (.int .i64) TNode))) × Int × Int × Int))) :=
bif (decide (x2 < (4 : Int))) then (
bif (inR x2 4) then
bif (eqV TRet (List.getD x1 (Int.toNat x2) (((0 : Int), (0 : Int), ()), (0 : Int), ())) (((0 : Int), (0 : Int), ()), (0 : Int), ())) then (
some (Sum.inl ((IntKind.wrap .i64 (x0 + (1 : Int))), x1, (IntKind.wrap .i64 (x2 + (1 : Int))), x3, x4, x5, x6, x7, x8, x9, x10, x11)))
else (
(qf62 x7.2.2.2.2.2.1 (List.getD x1 (Int.toNat x2) (((0 : Int), (0 : Int), ()), (0 : Int), ())).1).bind fun r1 =>
bif r1 then (
some (Sum.inr (Sum.inr (x3, x4, (17 : Int), (0 : Int), (0 : Int)))))
else (
some (Sum.inl (x0, x1, (IntKind.wrap .i64 (x2 + (1 : Int))), x3, x4, x5, x6, x7, x8, x9, x10, x11))))
else none)
else (
some (Sum.inr (Sum.inl (x0, x3, x4, x5, x6, x7, x8, x9, x10, x11))))
noncomputable def qf78L1B : (Int × (Val (.arr 4 TRet)) × Int × (Val (.slice (.pair (.int .i64) TPage))) × (Val (.slice (.pair (.int .i64) TNode))) × (Val TPage) × Int × (Val TOp) × Int × Int × Int × (Val TNode)) → Option ((Int × (Val (.arr 4 TRet)) × Int × (Val (.slice (.pair (.int .i64) TPage))) × (Val (.slice (.pair (.int .i64) TNode))) × (Val TPage) × Int × (Val TOp) × Int × Int × Int × (Val TNode)) ⊕ ((Int × (Val (.slice (.pair (.int .i64) TPage))) × (Val (.slice (.pair (.int .i64) TNode))) × (Val TPage) × Int × (Val TOp) × Int × Int × Int × (Val TNode)) ⊕ ((Val (.slice (.pair (.int .i64) TPage))) × (Val (.slice (.pair (.int .i64) TNode))) × Int × Int × Int))) := fun y => qf78L1b y.1 y.2.1 y.2.2.1 y.2.2.2.1 y.2.2.2.2.1 y.2.2.2.2.2.1 y.2.2.2.2.2.2.1 y.2.2.2.2.2.2.2.1 y.2.2.2.2.2.2.2.2.1 y.2.2.2.2.2.2.2.2.2.1 y.2.2.2.2.2.2.2.2.2.2.1 y.2.2.2.2.2.2.2.2.2.2.2
noncomputable def qf78L1 (x0 : Int) (x1 : Val (.arr 4 TRet)) (x2 : Int) (x3 : Val (.slice (.pair (.int .i64) TPage))) (x4 : Val (.slice (.pair (.int .i64) TNode))) (x5 : Val TPage) (x6 : Int) (x7 : Val TOp) (x8 : Int) (x9 : Int) (x10 : Int) (x11 : Val TNode) : Option ((Int × (Val (.slice (.pair (.int .i64) TPage))) × (Val (.slice (.pair (.int .i64) TNode))) × (Val TPage) × Int × (Val TOp) × Int × Int × Int × (Val TNode)) ⊕ ((Val (.slice (.pair (.int .i64) TPage))) × (Val (.slice (.pair (.int .i64) TNode))) × Int × Int × Int)) := iter qf78L1B (x0, x1, x2, x3, x4, x5, x6, x7, x8, x9, x10, x11)
noncomputable def qf78L2b (x0 : Val (.slice TPtr)) (x1 : Val (.arr 4 TRet)) (x2 : Int) (x3 : Val (.slice (.pair (.int .i64) TPage))) (x4 : Val (.slice (.pair (.int .i64) TNode))) (x5 : Val TPage) (x6 : Int) (x7 : Val TOp) (x8 : Int) (x9 : Int) (x10 : Int) (x11 : Val TNode) : Option (((Val (.slice TPtr)) × (Val (.arr 4 TRet)) × Int × (Val (.slice (.pair (.int .i64) TPage))) × (Val (.slice (.pair (.int .i64) TNode))) × (Val TPage) × Int × (Val TOp) × Int × Int × Int × (Val TNode)) ⊕ ((Val (.slice (.pair (.int .i64) TPage))) × (Val (.slice (.pair (.int .i64) TNode))) × (Val TPage) × Int × (Val TOp) × Int × Int × Int × (Val TNode))) :=
bif (decide (x2 < (4 : Int))) then (
bif (inR x2 4) then
bif (eqV TRet (List.getD x1 (Int.toNat x2) (((0 : Int), (0 : Int), ()), (0 : Int), ())) (((0 : Int), (0 : Int), ()), (0 : Int), ())) then (
bif (decide ((0 : Int) < (((List.length x0) : Nat) : Int))) then (
bif (inR (0 : Int) (List.length x0)) then
bif (inR x2 4) then
bif ((decide ((1 : Int) ≤ (((List.length x0) : Nat) : Int))) && (decide ((((List.length x0) : Nat) : Int) ≤ (((List.length x0) : Nat) : Int)))) then
some (Sum.inl ((List.drop 1 (List.take (List.length x0) x0)), x1, (IntKind.wrap .i64 (x2 + (1 : Int))), x3, x4, x5, x6, x7, x8, x9, x10, x11.1, x11.2.1, x11.2.2.1, x11.2.2.2.1, (List.set x11.2.2.2.2.1 (Int.toNat x2) ((List.getD x0 0 ((0 : Int), (0 : Int), ())), x6, ())), x11.2.2.2.2.2))
else none
else none
else none)
else (
some (Sum.inl (x0, x1, (IntKind.wrap .i64 (x2 + (1 : Int))), x3, x4, x5, x6, x7, x8, x9, x10, x11))))
else (
some (Sum.inl (x0, x1, (IntKind.wrap .i64 (x2 + (1 : Int))), x3, x4, x5, x6, x7, x8, x9, x10, x11)))
else none)
else (
some (Sum.inr (x3, x4, x5, x6, x7, x8, x9, x10, x11)))
noncomputable def qf78L2B : ((Val (.slice TPtr)) × (Val (.arr 4 TRet)) × Int × (Val (.slice (.pair (.int .i64) TPage))) × (Val (.slice (.pair (.int .i64) TNode))) × (Val TPage) × Int × (Val TOp) × Int × Int × Int × (Val TNode)) → Option (((Val (.slice TPtr)) × (Val (.arr 4 TRet)) × Int × (Val (.slice (.pair (.int .i64) TPage))) × (Val (.slice (.pair (.int .i64) TNode))) × (Val TPage) × Int × (Val TOp) × Int × Int × Int × (Val TNode)) ⊕ ((Val (.slice (.pair (.int .i64) TPage))) × (Val (.slice (.pair (.int .i64) TNode))) × (Val TPage) × Int × (Val TOp) × Int × Int × Int × (Val TNode))) := fun y => qf78L2b y.1 y.2.1 y.2.2.1 y.2.2.2.1 y.2.2.2.2.1 y.2.2.2.2.2.1 y.2.2.2.2.2.2.1 y.2.2.2.2.2.2.2.1 y.2.2.2.2.2.2.2.2.1 y.2.2.2.2.2.2.2.2.2.1 y.2.2.2.2.2.2.2.2.2.2.1 y.2.2.2.2.2.2.2.2.2.2.2
noncomputable def qf78L2 (x0 : Val (.slice TPtr)) (x1 : Val (.arr 4 TRet)) (x2 : Int) (x3 : Val (.slice (.pair (.int .i64) TPage))) (x4 : Val (.slice (.pair (.int .i64) TNode))) (x5 : Val TPage) (x6 : Int) (x7 : Val TOp) (x8 : Int) (x9 : Int) (x10 : Int) (x11 : Val TNode) : Option ((Val (.slice (.pair (.int .i64) TPage))) × (Val (.slice (.pair (.int .i64) TNode))) × (Val TPage) × Int × (Val TOp) × Int × Int × Int × (Val TNode)) := iter qf78L2B (x0, x1, x2, x3, x4, x5, x6, x7, x8, x9, x10, x11)
noncomputable def qf78 (a0 : Val TPage) (a1 : Int) (a2 : Val TOp) (a3 : Val (.slice (.pair (.int .i64) TPage))) (a4 : Val (.slice (.pair (.int .i64) TNode))) : Option ((Val TOut) × (Val (.slice (.pair (.int .i64) TPage))) × (Val (.slice (.pair (.int .i64) TNode))) × (Val (.slice TPage))) :=
(qf78L1 (0 : Int) (Option.getD (lookV a4 a2.2.1) (false, (0 : Int), (0 : Int), (0 : Int), (List.replicate 4 (((0 : Int), (0 : Int), ()), (0 : Int), ())), ())).2.2.2.2.1 (0 : Int) a3 a4 a0 a1 a2 (0 : Int) (0 : Int) (0 : Int) (Option.getD (lookV a4 a2.2.1) (false, (0 : Int), (0 : Int), (0 : Int), (List.replicate 4 (((0 : Int), (0 : Int), ()), (0 : Int), ())), ()))).bind fun r1 =>
match r1 with
| .inl r2 => (
bif (decide (r2.1 < (((List.length r2.2.2.2.2.2.1.2.2.2.2.2.1) : Nat) : Int))) then (
some (((12 : Int), (0 : Int), (0 : Int), [], [], ()), r2.2.1, r2.2.2.1, []))
else (
(qf78L2 r2.2.2.2.2.2.1.2.2.2.2.2.1 r2.2.2.2.2.2.2.2.2.2.2.2.2.2.1 (0 : Int) r2.2.1 r2.2.2.1 r2.2.2.2.1 r2.2.2.2.2.1 r2.2.2.2.2.2.1 r2.2.2.2.2.2.2.1 r2.2.2.2.2.2.2.2.1 r2.2.2.2.2.2.2.2.2.1 r2.2.2.2.2.2.2.2.2.2).bind fun r4 =>
(qf69 r4.2.2.1 r4.2.2.2.1 r4.2.2.2.2.1.2.1 r4.2.2.2.2.2.2.2.2 r4.1 r4.2.1).bind fun r5 =>
some (((0 : Int), r4.2.2.2.1, (0 : Int), [], [(97 : Int)], ()), r5)))
| .inr r3 => (
some ((r3.2.2.1, r3.2.2.2.1, r3.2.2.2.2, [], [], ()), r3.1, r3.2.1, []))
abbrev qf78Y : Type := (Val TPage) × Int × (Val TOp) × (Val (.slice (.pair (.int .i64) TPage))) × (Val (.slice (.pair (.int .i64) TNode)))
abbrev qf78Z : Type := (Val TOut) × (Val (.slice (.pair (.int .i64) TPage))) × (Val (.slice (.pair (.int .i64) TNode))) × (Val (.slice TPage))
abbrev qf78L1Y : Type := Int × (Val (.arr 4 TRet)) × Int × (Val (.slice (.pair (.int .i64) TPage))) × (Val (.slice (.pair (.int .i64) TNode))) × (Val TPage) × Int × (Val TOp) × Int × Int × Int × (Val TNode)
abbrev qf78L1Z : Type := (Int × (Val (.slice (.pair (.int .i64) TPage))) × (Val (.slice (.pair (.int .i64) TNode))) × (Val TPage) × Int × (Val TOp) × Int × Int × Int × (Val TNode)) ⊕ ((Val (.slice (.pair (.int .i64) TPage))) × (Val (.slice (.pair (.int .i64) TNode))) × Int × Int × Int)
abbrev qf78L2Y : Type := (Val (.slice TPtr)) × (Val (.arr 4 TRet)) × Int × (Val (.slice (.pair (.int .i64) TPage))) × (Val (.slice (.pair (.int .i64) TNode))) × (Val TPage) × Int × (Val TOp) × Int × Int × Int × (Val TNode)
abbrev qf78L2Z : Type := (Val (.slice (.pair (.int .i64) TPage))) × (Val (.slice (.pair (.int .i64) TNode))) × (Val TPage) × Int × (Val TOp) × Int × Int × Int × (Val TNode)
noncomputable def qf78I : Shape := ⟨80, 2, [(0, .cons (.dat false TPage) (.cons (.dat false (.int .u32)) (.cons (.mp 0) (.cons (.mp 1) (.nil))))), (1, .dat false TOp)], [(0, .map .i64 false TPage), (1, .map .i64 false TNode)], [0, 1], false⟩
noncomputable def qf78O : Shape := ⟨81, 3, [(80, .tup (.cons (.own TPage 2) (.cons (.dat true TOut) (.nil))))], [(0, .map .i64 false TPage), (1, .map .i64 false TNode), (2, .slc true TPage)], [0, 1], false⟩
noncomputable def qf78F : qf78Y → Option qf78Z := fun y => qf78 y.1 y.2.1 y.2.2.1 y.2.2.2.1 y.2.2.2.2
noncomputable def qf78ct : Ctr := ctrOf qf78I qf78O id id qf78F
noncomputable def qf78E : Env := { tf := tfE, mt := mtE, fn := fun f => bif Nat.beq f 136 then some qf62ct else bif Nat.beq f 133 then some qf69ct else none }
theorem qf78_env : EnvOk PT qf78E := ⟨tyE, (fun f ct h => by
  simp only [qf78E] at h
  refine envCons (c := qf62ct) h qf62_ctr (fun h => ?_)
  refine envCons (c := qf69ct) h qf69_ctr (fun h => ?_)
  cases h), mapE⟩
noncomputable def qf78C : Code := bodyOf Tryz.f87
noncomputable def qf78L1C : Code := (loopsOf qf78C).getD 0 .skip
noncomputable def qf78L2C : Code := (loopsOf qf78C).getD 1 .skip
noncomputable def qf78L1S : Shape := ⟨80, 6, [(2, .ref 2 []), (3, .ref 3 []), (5, .ref 4 []), (6, .ref 5 []), (7, .dat true (.int .i64)), (19, .dat false (.arr 4 TRet)), (20, .dat true (.int .i64))], [(0, .map .i64 false TPage), (1, .map .i64 false TNode), (2, .box (.pair TPage (.pair (.int .u32) (.pair (.cell .map) (.pair (.cell .map) .unit)))) (.cons (.dat false TPage) (.cons (.dat false (.int .u32)) (.cons (.mp 0) (.cons (.mp 1) (.nil)))))), (3, .box TOp (.dat false TOp)), (4, .box TOut (.cons (.dat true (.int .i64)) (.cons (.dat true (.int .u32)) (.cons (.dat true (.int .i64)) (.cons (.nils) (.cons (.nils) (.nil))))))), (5, .box TNode (.dat false TNode))], [0, 1], false⟩
noncomputable def qf78L1O : List (Ex × Shape) := [(.exit 0, ⟨80, 6, [(2, .ref 2 []), (3, .ref 3 []), (5, .ref 4 []), (6, .ref 5 []), (7, .dat true (.int .i64))], [(0, .map .i64 false TPage), (1, .map .i64 false TNode), (2, .box (.pair TPage (.pair (.int .u32) (.pair (.cell .map) (.pair (.cell .map) .unit)))) (.cons (.dat false TPage) (.cons (.dat false (.int .u32)) (.cons (.mp 0) (.cons (.mp 1) (.nil)))))), (3, .box TOp (.dat false TOp)), (4, .box TOut (.cons (.dat true (.int .i64)) (.cons (.dat true (.int .u32)) (.cons (.dat true (.int .i64)) (.cons (.nils) (.cons (.nils) (.nil))))))), (5, .box TNode (.dat false TNode))], [0, 1], false⟩), (.ret, ⟨80, 3, [(4, .nils), (5, .ref 2 [])], [(0, .map .i64 false TPage), (1, .map .i64 false TNode), (2, .box TOut (.cons (.dat true (.int .i64)) (.cons (.dat true (.int .u32)) (.cons (.dat true (.int .i64)) (.cons (.nils) (.cons (.nils) (.nil)))))))], [0, 1], false⟩)]
noncomputable def qf78L1M : Sum := loopSum (Y := qf78L1Y) (Z := qf78L1Z) qf78L1S qf78L1O id id (iter qf78L1B)
noncomputable def qf78L2S : Shape := ⟨80, 6, [(2, .ref 2 []), (3, .ref 3 []), (5, .ref 4 []), (6, .ref 5 []), (10, .dat false (.slice TPtr)), (46, .dat false (.arr 4 TRet)), (47, .dat true (.int .i64))], [(0, .map .i64 false TPage), (1, .map .i64 false TNode), (2, .box (.pair TPage (.pair (.int .u32) (.pair (.cell .map) (.pair (.cell .map) .unit)))) (.cons (.dat false TPage) (.cons (.dat false (.int .u32)) (.cons (.mp 0) (.cons (.mp 1) (.nil)))))), (3, .box TOp (.dat false TOp)), (4, .box TOut (.cons (.dat true (.int .i64)) (.cons (.dat true (.int .u32)) (.cons (.dat true (.int .i64)) (.cons (.nils) (.cons (.nils) (.nil))))))), (5, .box TNode (.dat false TNode))], [0, 1], false⟩
noncomputable def qf78L2O : List (Ex × Shape) := [(.exit 3, ⟨80, 6, [(2, .ref 2 []), (3, .ref 3 []), (5, .ref 4 []), (6, .ref 5 [])], [(0, .map .i64 false TPage), (1, .map .i64 false TNode), (2, .box (.pair TPage (.pair (.int .u32) (.pair (.cell .map) (.pair (.cell .map) .unit)))) (.cons (.dat false TPage) (.cons (.dat false (.int .u32)) (.cons (.mp 0) (.cons (.mp 1) (.nil)))))), (3, .box TOp (.dat false TOp)), (4, .box TOut (.cons (.dat true (.int .i64)) (.cons (.dat true (.int .u32)) (.cons (.dat true (.int .i64)) (.cons (.nils) (.cons (.nils) (.nil))))))), (5, .box TNode (.dat false TNode))], [0, 1], false⟩)]
noncomputable def qf78L2M : Sum := loopSum (Y := qf78L2Y) (Z := qf78L2Z) qf78L2S qf78L2O id id (iter qf78L2B)
noncomputable def qf78H : Nat → Option Sum := fun n => bif Nat.beq n 4 then some qf78L1M else bif Nat.beq n 15 then some qf78L2M else none
theorem qf78L1_bd (y : qf78L1Y) : @Eq (Option (qf78L1Y ⊕ qf78L1Z)) (exec qf78E qf78H qf78L1C (qf78L1S.mk' (show qf78L1S.D from y)) (kont (Y := qf78L1Y) (Z := qf78L1Z) qf78L1S qf78L1O id id)) (qf78L1B y) := by kernel_rfl
theorem qf78L1_ok {w0 : World} {Jo : Io} (hfix : ∀ i b, Jo.fix i = some b → i ∈ [0, 1]) (hmay : false = true → Jo.may) : SumOk PT w0 Jo qf78L1M (.loop qf78L1C) :=
  @loop_ok w0 Jo PT qf78E qf78H qf78L1Y qf78L1Z qf78_env mixed qf78L1C qf78L1S qf78L1O id id id id (fun _ => rfl) (fun _ => rfl) hfix hmay (by kernel_rfl) (noLoops (by kernel_rfl)) qf78L1B qf78L1_bd
theorem qf78L2_bd (y : qf78L2Y) : @Eq (Option (qf78L2Y ⊕ qf78L2Z)) (exec qf78E qf78H qf78L2C (qf78L2S.mk' (show qf78L2S.D from y)) (kont (Y := qf78L2Y) (Z := qf78L2Z) qf78L2S qf78L2O id id)) (qf78L2B y) := by kernel_rfl
theorem qf78L2_ok {w0 : World} {Jo : Io} (hfix : ∀ i b, Jo.fix i = some b → i ∈ [0, 1]) (hmay : false = true → Jo.may) : SumOk PT w0 Jo qf78L2M (.loop qf78L2C) :=
  @loop_ok w0 Jo PT qf78E qf78H qf78L2Y qf78L2Z qf78_env mixed qf78L2C qf78L2S qf78L2O id id id id (fun _ => rfl) (fun _ => rfl) hfix hmay (by kernel_rfl) (noLoops (by kernel_rfl)) qf78L2B qf78L2_bd
theorem qf78_bd (y : qf78Y) : @Eq (Option qf78Z) (exec qf78E qf78H qf78C (qf78I.mk' (show qf78I.D from y)) (kontF (Z := qf78Z) qf78E Tryz.f87.results.toList qf78O id)) (qf78F y) := by kernel_rfl
theorem qf78_lo {w0 : World} {Jo : Io} (hfix : ∀ i b, Jo.fix i = some b → i ∈ [0, 1]) (hmay : false = true → Jo.may) : LoopsOk PT w0 Jo qf78H qf78C := (loopsMk (by kernel_rfl) (loopsCons (c := qf78L1C) (n := 4) (f := qf78L1M) (by kernel_rfl) (by kernel_rfl) (qf78L1_ok hfix hmay) (loopsCons (c := qf78L2C) (n := 15) (f := qf78L2M) (by kernel_rfl) (by kernel_rfl) (qf78L2_ok hfix hmay) loopsNil)))
theorem qf78_ctr : CtrOk PT 87 qf78ct :=
  @ctr_ok PT qf78E qf78H qf78_env mixed 87 Tryz.f87 qf78C (by kernel_rfl) (by kernel_rfl) (enters_of (by kernel_rfl : PT.funcs[87]? = some Tryz.f87) (by kernel_rfl) (by kernel_rfl)) qf78I qf78O qf78Y qf78Z id id id id (fun _ => rfl) (fun _ => rfl) (by kernel_rfl) (by kernel_rfl) qf78F qf78_bd (fun w0 Jo hfix hmay => qf78_lo hfix hmay)
noncomputable def qf79 (a0 : Int) (a1 : Int) : Option (Int × Int × Bool) :=
bif (decide (a1 < (104 : Int))) then (
some ((0 : Int), (0 : Int), false))
else (
(qf25 a0).bind fun r1 =>
bif (decide ((IntKind.wrap .i64 ((104 : Int) + (IntKind.wrap .i64 (r1 * (16 : Int))))) ≤ a1)) then (
some ((0 : Int), (0 : Int), false))
else (
bif (decide ((Int.tmod (IntKind.wrap .i64 (a1 - (104 : Int))) (16 : Int)) = (0 : Int))) then (
some ((0 : Int), (0 : Int), false))
else (
some ((IntKind.wrap .i64 (Int.tdiv (IntKind.wrap .i64 (a1 - (104 : Int))) (16 : Int))), (Int.tmod (IntKind.wrap .i64 (a1 - (104 : Int))) (16 : Int)), true))))
noncomputable def qf79I : Shape := ⟨27, 0, [(0, .dat false (.int .i64)), (1, .dat false (.int .i64))], [], [], true⟩
noncomputable def qf79O : Shape := ⟨28, 0, [(27, .tup (.cons (.dat true (.int .i64)) (.cons (.dat true (.int .i64)) (.cons (.dat true .bool) (.nil)))))], [], [], true⟩
noncomputable def qf79F : (Int × Int) → Option (Int × Int × Bool) := fun y => qf79 y.1 y.2
noncomputable def qf79ct : Ctr := ctrOf qf79I qf79O id id qf79F
noncomputable def qf79E : Env := { tf := tfE, mt := mtE, fn := fun f => bif Nat.beq f 45 then some qf25ct else none }
theorem qf79_env : EnvOk PT qf79E := ⟨tyE, (fun f ct h => by
  simp only [qf79E] at h
  refine envCons (c := qf25ct) h qf25_ctr (fun h => ?_)
  cases h), mapE⟩
noncomputable def qf79C : Code := bodyOf Tryz.f75
theorem qf79_bd (y : Int × Int) : @Eq (Option (Int × Int × Bool)) (exec qf79E qf0H qf79C (qf79I.mk' (show qf79I.D from y)) (kontF (Z := Int × Int × Bool) qf79E Tryz.f75.results.toList qf79O id)) (qf79F y) := by kernel_rfl
theorem qf79_ctr : CtrOk PT 75 qf79ct :=
  @ctr_ok PT qf79E qf0H qf79_env mixed 75 Tryz.f75 qf79C (by kernel_rfl) (by kernel_rfl) (enters_of (by kernel_rfl : PT.funcs[75]? = some Tryz.f75) (by kernel_rfl) (by kernel_rfl)) qf79I qf79O (Int × Int) (Int × Int × Bool) id id id id (fun _ => rfl) (fun _ => rfl) (by kernel_rfl) (by kernel_rfl) qf79F qf79_bd (fun _ _ _ _ => noLoops (by kernel_rfl))
noncomputable def qf80 (a0 : Val TPtr) (a1 : Val TPtr) : Option (Bool × (Val TPtr)) :=
some ((decide (a0.1 = a1.1)), a1)
noncomputable def qf80I : Shape := ⟨9, 1, [(0, .dat false TPtr), (1, .ref 0 [])], [(0, .box TPtr (.dat false TPtr))], [0], false⟩
noncomputable def qf80O : Shape := ⟨10, 1, [(9, .dat true .bool)], [(0, .box TPtr (.dat false TPtr))], [0], false⟩
noncomputable def qf80F : ((Val TPtr) × (Val TPtr)) → Option (Bool × (Val TPtr)) := fun y => qf80 y.1 y.2
noncomputable def qf80ct : Ctr := ctrOf qf80I qf80O id id qf80F
noncomputable def qf80E : Env := { tf := tfE, mt := mtE, fn := fun f => none }
theorem qf80_env : EnvOk PT qf80E := ⟨tyE, (fun f ct h => by
  simp only [qf80E] at h
  cases h), mapE⟩
noncomputable def qf80C : Code := bodyOf Tryz.f77
theorem qf80_bd (y : (Val TPtr) × (Val TPtr)) : @Eq (Option (Bool × (Val TPtr))) (exec qf80E qf0H qf80C (qf80I.mk' (show qf80I.D from y)) (kontF (Z := Bool × (Val TPtr)) qf80E Tryz.f77.results.toList qf80O id)) (qf80F y) := by kernel_rfl
theorem qf80_ctr : CtrOk PT 77 qf80ct :=
  @ctr_ok PT qf80E qf0H qf80_env mixed 77 Tryz.f77 qf80C (by kernel_rfl) (by kernel_rfl) (enters_of (by kernel_rfl : PT.funcs[77]? = some Tryz.f77) (by kernel_rfl) (by kernel_rfl)) qf80I qf80O ((Val TPtr) × (Val TPtr)) (Bool × (Val TPtr)) id id id id (fun _ => rfl) (fun _ => rfl) (by kernel_rfl) (by kernel_rfl) qf80F qf80_bd (fun _ _ _ _ => noLoops (by kernel_rfl))
noncomputable def qf81L1b (x0 : Val (.slice TPtr)) (x1 : Int) (x2 : Int) (x3 : Val TPtr) : Option (((Val (.slice TPtr)) × Int × Int × (Val TPtr)) ⊕ (((Val TPtr)) ⊕ (Int × (Val TPtr)))) :=
bif (decide (x2 < x1)) then (
bif (inR x2 (List.length x0)) then
(qf80 (List.getD x0 (Int.toNat x2) ((0 : Int), (0 : Int), ())) x3).bind fun r1 =>
bif r1.1 then (
some (Sum.inr (Sum.inr (x2, r1.2))))
else (
some (Sum.inl (x0, x1, (IntKind.wrap .i64 (x2 + (1 : Int))), r1.2)))
else none)
else (
some (Sum.inr (Sum.inl x3)))
noncomputable def qf81L1B : ((Val (.slice TPtr)) × Int × Int × (Val TPtr)) → Option (((Val (.slice TPtr)) × Int × Int × (Val TPtr)) ⊕ (((Val TPtr)) ⊕ (Int × (Val TPtr)))) := fun y => qf81L1b y.1 y.2.1 y.2.2.1 y.2.2.2
noncomputable def qf81L1 (x0 : Val (.slice TPtr)) (x1 : Int) (x2 : Int) (x3 : Val TPtr) : Option (((Val TPtr)) ⊕ (Int × (Val TPtr))) := iter qf81L1B (x0, x1, x2, x3)
noncomputable def qf81 (a0 : Val (.slice TPtr)) (a1 : Val TPtr) : Option (Int × (Val TPtr)) :=
(qf81L1 a0 (((List.length a0) : Nat) : Int) (0 : Int) a1).bind fun r1 =>
match r1 with
| .inl r2 => (
some ((-1 : Int), r2))
| .inr r3 => (
some r3)
abbrev qf81L1Y : Type := (Val (.slice TPtr)) × Int × Int × (Val TPtr)
noncomputable def qf81I : Shape := ⟨19, 1, [(0, .dat false (.slice TPtr)), (1, .fn 77 (.cons (.ref 0 []) (.nil)))], [(0, .box TPtr (.dat false TPtr))], [0], false⟩
noncomputable def qf81O : Shape := ⟨20, 1, [(19, .dat true (.int .i64))], [(0, .box TPtr (.dat false TPtr))], [0], false⟩
noncomputable def qf81F : ((Val (.slice TPtr)) × (Val TPtr)) → Option (Int × (Val TPtr)) := fun y => qf81 y.1 y.2
noncomputable def qf81ct : Ctr := ctrOf qf81I qf81O id id qf81F
noncomputable def qf81E : Env := { tf := tfE, mt := mtE, fn := fun f => bif Nat.beq f 77 then some qf80ct else none }
theorem qf81_env : EnvOk PT qf81E := ⟨tyE, (fun f ct h => by
  simp only [qf81E] at h
  refine envCons (c := qf80ct) h qf80_ctr (fun h => ?_)
  cases h), mapE⟩
noncomputable def qf81C : Code := bodyOf Tryz.f123
noncomputable def qf81L1C : Code := (loopsOf qf81C).getD 0 .skip
noncomputable def qf81L1S : Shape := ⟨19, 1, [(0, .dat false (.slice TPtr)), (1, .fn 77 (.cons (.ref 0 []) (.nil))), (7, .dat true (.int .i64)), (8, .dat true (.int .i64))], [(0, .box TPtr (.dat false TPtr))], [0], false⟩
noncomputable def qf81L1O : List (Ex × Shape) := [(.exit 0, ⟨19, 1, [], [(0, .box TPtr (.dat false TPtr))], [0], false⟩), (.ret, ⟨19, 1, [(4, .dat true (.int .i64))], [(0, .box TPtr (.dat false TPtr))], [0], false⟩)]
noncomputable def qf81L1M : Sum := loopSum (Y := qf81L1Y) (Z := ((Val TPtr)) ⊕ (Int × (Val TPtr))) qf81L1S qf81L1O id id (iter qf81L1B)
noncomputable def qf81H : Nat → Option Sum := fun n => bif Nat.beq n 2 then some qf81L1M else none
theorem qf81L1_bd (y : qf81L1Y) : @Eq (Option (qf81L1Y ⊕ (((Val TPtr)) ⊕ (Int × (Val TPtr))))) (exec qf81E qf81H qf81L1C (qf81L1S.mk' (show qf81L1S.D from y)) (kont (Y := qf81L1Y) (Z := ((Val TPtr)) ⊕ (Int × (Val TPtr))) qf81L1S qf81L1O id id)) (qf81L1B y) := by kernel_rfl
theorem qf81L1_ok {w0 : World} {Jo : Io} (hfix : ∀ i b, Jo.fix i = some b → i ∈ [0]) (hmay : false = true → Jo.may) : SumOk PT w0 Jo qf81L1M (.loop qf81L1C) :=
  @loop_ok w0 Jo PT qf81E qf81H qf81L1Y (((Val TPtr)) ⊕ (Int × (Val TPtr))) qf81_env mixed qf81L1C qf81L1S qf81L1O id id id id (fun _ => rfl) (fun _ => rfl) hfix hmay (by kernel_rfl) (noLoops (by kernel_rfl)) qf81L1B qf81L1_bd
theorem qf81_bd (y : (Val (.slice TPtr)) × (Val TPtr)) : @Eq (Option (Int × (Val TPtr))) (exec qf81E qf81H qf81C (qf81I.mk' (show qf81I.D from y)) (kontF (Z := Int × (Val TPtr)) qf81E Tryz.f123.results.toList qf81O id)) (qf81F y) := by kernel_rfl
theorem qf81_lo {w0 : World} {Jo : Io} (hfix : ∀ i b, Jo.fix i = some b → i ∈ [0]) (hmay : false = true → Jo.may) : LoopsOk PT w0 Jo qf81H qf81C := (loopsMk (by kernel_rfl) (loopsCons (c := qf81L1C) (n := 2) (f := qf81L1M) (by kernel_rfl) (by kernel_rfl) (qf81L1_ok hfix hmay) loopsNil))
theorem qf81_ctr : CtrOk PT 123 qf81ct :=
  @ctr_ok PT qf81E qf81H qf81_env mixed 123 Tryz.f123 qf81C (by kernel_rfl) (by kernel_rfl) (enters_of (by kernel_rfl : PT.funcs[123]? = some Tryz.f123) (by kernel_rfl) (by kernel_rfl)) qf81I qf81O ((Val (.slice TPtr)) × (Val TPtr)) (Int × (Val TPtr)) id id id id (fun _ => rfl) (fun _ => rfl) (by kernel_rfl) (by kernel_rfl) qf81F qf81_bd (fun w0 Jo hfix hmay => qf81_lo hfix hmay)
noncomputable def qf82 (a0 : Val (.slice TPtr)) (a1 : Val TPtr) : Option (Bool × (Val TPtr)) :=
(qf81 a0 a1).bind fun r1 =>
some ((decide ((0 : Int) ≤ r1.1)), r1.2)
noncomputable def qf82I : Shape := ⟨9, 1, [(0, .dat false (.slice TPtr)), (1, .fn 77 (.cons (.ref 0 []) (.nil)))], [(0, .box TPtr (.dat false TPtr))], [0], false⟩
noncomputable def qf82O : Shape := ⟨10, 1, [(9, .dat true .bool)], [(0, .box TPtr (.dat false TPtr))], [0], false⟩
noncomputable def qf82F : ((Val (.slice TPtr)) × (Val TPtr)) → Option (Bool × (Val TPtr)) := fun y => qf82 y.1 y.2
noncomputable def qf82ct : Ctr := ctrOf qf82I qf82O id id qf82F
noncomputable def qf82E : Env := { tf := tfE, mt := mtE, fn := fun f => bif Nat.beq f 123 then some qf81ct else none }
theorem qf82_env : EnvOk PT qf82E := ⟨tyE, (fun f ct h => by
  simp only [qf82E] at h
  refine envCons (c := qf81ct) h qf81_ctr (fun h => ?_)
  cases h), mapE⟩
noncomputable def qf82C : Code := bodyOf Tryz.f76
theorem qf82_bd (y : (Val (.slice TPtr)) × (Val TPtr)) : @Eq (Option (Bool × (Val TPtr))) (exec qf82E qf0H qf82C (qf82I.mk' (show qf82I.D from y)) (kontF (Z := Bool × (Val TPtr)) qf82E Tryz.f76.results.toList qf82O id)) (qf82F y) := by kernel_rfl
theorem qf82_ctr : CtrOk PT 76 qf82ct :=
  @ctr_ok PT qf82E qf0H qf82_env mixed 76 Tryz.f76 qf82C (by kernel_rfl) (by kernel_rfl) (enters_of (by kernel_rfl : PT.funcs[76]? = some Tryz.f76) (by kernel_rfl) (by kernel_rfl)) qf82I qf82O ((Val (.slice TPtr)) × (Val TPtr)) (Bool × (Val TPtr)) id id id id (fun _ => rfl) (fun _ => rfl) (by kernel_rfl) (by kernel_rfl) qf82F qf82_bd (fun _ _ _ _ => noLoops (by kernel_rfl))
noncomputable def qf83 (a0 : Val TPage) : Option ((Val TPage) × Int) :=
(qf54 a0).bind fun r1 =>
(qf20 a0.1).bind fun r2 =>
bif (!r2) then (
some (((0 : Int), (0 : Int), (List.replicate 7 (0 : Int)), ()), (1 : Int)))
else (
(qf17 a0).bind fun r3 =>
bif r3 then (
some (((0 : Int), (0 : Int), (List.replicate 7 (0 : Int)), ()), (3 : Int)))
else (
bif (decide (r1.1 = (0 : Int))) then (
some (((0 : Int), (0 : Int), (List.replicate 7 (0 : Int)), ()), (16 : Int)))
else (
(qf56 a0 ((0 : Int), r1.2.1, (0 : Int), ())).bind fun r4 =>
some (r4, (0 : Int)))))
noncomputable def qf83I : Shape := ⟨27, 0, [(0, .dat false TPage)], [], [], true⟩
noncomputable def qf83O : Shape := ⟨28, 0, [(27, .tup (.cons (.dat true TPage) (.cons (.dat true (.int .i64)) (.nil))))], [], [], true⟩
noncomputable def qf83F : ((Val TPage)) → Option ((Val TPage) × Int) := fun y => qf83 y
noncomputable def qf83ct : Ctr := ctrOf qf83I qf83O id id qf83F
noncomputable def qf83E : Env := { tf := tfE, mt := mtE, fn := fun f => bif Nat.beq f 125 then some qf54ct else bif Nat.beq f 124 then some qf20ct else bif Nat.beq f 72 then some qf17ct else bif Nat.beq f 126 then some qf56ct else none }
theorem qf83_env : EnvOk PT qf83E := ⟨tyE, (fun f ct h => by
  simp only [qf83E] at h
  refine envCons (c := qf54ct) h qf54_ctr (fun h => ?_)
  refine envCons (c := qf20ct) h qf20_ctr (fun h => ?_)
  refine envCons (c := qf17ct) h qf17_ctr (fun h => ?_)
  refine envCons (c := qf56ct) h qf56_ctr (fun h => ?_)
  cases h), mapE⟩
noncomputable def qf83C : Code := bodyOf Tryz.f79
theorem qf83_bd (y : (Val TPage)) : @Eq (Option ((Val TPage) × Int)) (exec qf83E qf0H qf83C (qf83I.mk' (show qf83I.D from y)) (kontF (Z := (Val TPage) × Int) qf83E Tryz.f79.results.toList qf83O id)) (qf83F y) := by kernel_rfl
theorem qf83_ctr : CtrOk PT 79 qf83ct :=
  @ctr_ok PT qf83E qf0H qf83_env mixed 79 Tryz.f79 qf83C (by kernel_rfl) (by kernel_rfl) (enters_of (by kernel_rfl : PT.funcs[79]? = some Tryz.f79) (by kernel_rfl) (by kernel_rfl)) qf83I qf83O ((Val TPage)) ((Val TPage) × Int) id id id id (fun _ => rfl) (fun _ => rfl) (by kernel_rfl) (by kernel_rfl) qf83F qf83_bd (fun _ _ _ _ => noLoops (by kernel_rfl))
noncomputable def qf84L1b (x0 : Int) (x1 : Val (.slice TPtr)) (x2 : Val (.slice TPage)) (x3 : Val (.slice TPtr)) (x4 : Int) (x5 : Int) (x6 : Val (.slice (.int .i64))) : Option ((Int × (Val (.slice TPtr)) × (Val (.slice TPage)) × (Val (.slice TPtr)) × Int × Int × (Val (.slice (.int .i64)))) ⊕ ((Int × (Val (.slice TPtr)) × (Val (.slice TPage)) × (Val (.slice (.int .i64)))) ⊕ (Int × Bool))) :=
bif (decide (x5 < x4)) then (
bif (inR x5 (List.length x3)) then
(qf79 x0 (List.getD x3 (Int.toNat x5) ((0 : Int), (0 : Int), ())).1).bind fun r1 =>
bif ((decide ((0 : Int) ≤ x5)) && (decide (x5 ≤ (((List.length x1) : Nat) : Int)))) then
(qf82 (List.drop 0 (List.take (Int.toNat x5) x1)) (List.getD x3 (Int.toNat x5) ((0 : Int), (0 : Int), ()))).bind fun r2 =>
(qf21 r2.2).bind fun r3 =>
bif (!r3) then (
some (Sum.inr (Sum.inr ((1 : Int), true))))
else (
bif (!r1.2.2) then (
some (Sum.inr (Sum.inr ((1 : Int), true))))
else (
bif r2.1 then (
some (Sum.inr (Sum.inr ((1 : Int), true))))
else (
(qf27 r1.1).bind fun r4 =>
bif (decide (((List.length x6) + 2) ≤ lim)) then
some (Sum.inl (x0, x1, x2, x3, x4, (IntKind.wrap .i64 (x5 + (1 : Int))), (x6 ++ [r2.2.1, r4])))
else none)))
else none
else none)
else (
some (Sum.inr (Sum.inl (x0, x1, x2, x6))))
noncomputable def qf84L1B : (Int × (Val (.slice TPtr)) × (Val (.slice TPage)) × (Val (.slice TPtr)) × Int × Int × (Val (.slice (.int .i64)))) → Option ((Int × (Val (.slice TPtr)) × (Val (.slice TPage)) × (Val (.slice TPtr)) × Int × Int × (Val (.slice (.int .i64)))) ⊕ ((Int × (Val (.slice TPtr)) × (Val (.slice TPage)) × (Val (.slice (.int .i64)))) ⊕ (Int × Bool))) := fun y => qf84L1b y.1 y.2.1 y.2.2.1 y.2.2.2.1 y.2.2.2.2.1 y.2.2.2.2.2.1 y.2.2.2.2.2.2
noncomputable def qf84L1 (x0 : Int) (x1 : Val (.slice TPtr)) (x2 : Val (.slice TPage)) (x3 : Val (.slice TPtr)) (x4 : Int) (x5 : Int) (x6 : Val (.slice (.int .i64))) : Option ((Int × (Val (.slice TPtr)) × (Val (.slice TPage)) × (Val (.slice (.int .i64)))) ⊕ (Int × Bool)) := iter qf84L1B (x0, x1, x2, x3, x4, x5, x6)
noncomputable def qf84L2b (x0 : Int) (x1 : Val (.slice TPage)) (x2 : Val (.slice TPtr)) (x3 : Int) (x4 : Int) (x5 : Val (.slice TPage)) (x6 : Val (.slice (.pair (.int .i64) TPage))) (x7 : Val (.slice (.pair (.int .i64) THead))) : Option ((Int × (Val (.slice TPage)) × (Val (.slice TPtr)) × Int × Int × (Val (.slice TPage)) × (Val (.slice (.pair (.int .i64) TPage))) × (Val (.slice (.pair (.int .i64) THead)))) ⊕ (((Val (.slice TPage)) × (Val (.slice (.pair (.int .i64) TPage))) × (Val (.slice (.pair (.int .i64) THead)))) ⊕ (Int × Bool))) :=
bif (decide (x4 < x3)) then (
bif (inR x4 (List.length x2)) then
(qf79 x0 (List.getD x2 (Int.toNat x4) ((0 : Int), (0 : Int), ())).1).bind fun r1 =>
(qf7 x1 (List.getD x2 (Int.toNat x4) ((0 : Int), (0 : Int), ())).1).bind fun r2 =>
(qf52 (List.getD r2.1.2.2.1 0 (0 : Int))).bind fun r3 =>
(qf17 r2.1).bind fun r4 =>
bif r4 then (
some (Sum.inr (Sum.inr ((3 : Int), true))))
else (
bif (decide (r3.1 = (0 : Int))) then (
some (Sum.inr (Sum.inr ((11 : Int), true))))
else (
bif (!(decide (r3.2.1 = (List.getD x2 (Int.toNat x4) ((0 : Int), (0 : Int), ())).2.1))) then (
some (Sum.inr (Sum.inr ((11 : Int), true))))
else (
(qf35 x1 r1.1).bind fun r5 =>
bif (!(decide (r5.2.2.2 = (0 : Int)))) then (
some (Sum.inr (Sum.inr (r5.2.2.2, true))))
else (
bif (decide ((0 : Int) ≤ (IntKind.wrap .u64 r1.2.1))) then
bif (decide ((IntKind.wrap .u32 ((BitVec.ofInt (IntKind.bits .u32) (shiftR .u32 r5.2.1.2.1 (IntKind.wrap .u64 r1.2.1)) &&& BitVec.ofInt (IntKind.bits .u32) (1 : Int)).toNat : Int)) = (0 : Int))) then (
some (Sum.inr (Sum.inr ((14 : Int), true))))
else (
bif (Option.isSome (lookV x7 r1.1)) then (
bif (decide ((0 : Int) ≤ (IntKind.wrap .u64 r1.2.1))) then
(qf83 r2.1).bind fun r6 =>
bif (decide (((List.length x5) + 1) ≤ lim)) then
some (Sum.inl (x0, x1, x2, x3, (IntKind.wrap .i64 (x4 + (1 : Int))), (x5 ++ [r6.1]), (upsV x6 r1.1 r5.1), (upsV x7 r1.1 ((Option.getD (lookV x7 r1.1) ((0 : Int), (0 : Int), ())).1, (IntKind.wrap .u32 ((BitVec.ofInt (IntKind.bits .u32) (Option.getD (lookV x7 r1.1) ((0 : Int), (0 : Int), ())).2.1 &&& ~~~ BitVec.ofInt (IntKind.bits .u32) (shiftL .u32 (1 : Int) (IntKind.wrap .u64 r1.2.1))).toNat : Int)), (Option.getD (lookV x7 r1.1) ((0 : Int), (0 : Int), ())).2.2))))
else none
else none)
else (
bif (decide ((0 : Int) ≤ (IntKind.wrap .u64 r1.2.1))) then
(qf83 r2.1).bind fun r7 =>
bif (decide (((List.length x5) + 1) ≤ lim)) then
some (Sum.inl (x0, x1, x2, x3, (IntKind.wrap .i64 (x4 + (1 : Int))), (x5 ++ [r7.1]), (upsV x6 r1.1 r5.1), (upsV x7 r1.1 (r5.2.1.1, (IntKind.wrap .u32 ((BitVec.ofInt (IntKind.bits .u32) r5.2.1.2.1 &&& ~~~ BitVec.ofInt (IntKind.bits .u32) (shiftL .u32 (1 : Int) (IntKind.wrap .u64 r1.2.1))).toNat : Int)), r5.2.1.2.2))))
else none
else none))
else none))))
else none)
else (
some (Sum.inr (Sum.inl (x5, x6, x7))))
noncomputable def qf84L2B : (Int × (Val (.slice TPage)) × (Val (.slice TPtr)) × Int × Int × (Val (.slice TPage)) × (Val (.slice (.pair (.int .i64) TPage))) × (Val (.slice (.pair (.int .i64) THead)))) → Option ((Int × (Val (.slice TPage)) × (Val (.slice TPtr)) × Int × Int × (Val (.slice TPage)) × (Val (.slice (.pair (.int .i64) TPage))) × (Val (.slice (.pair (.int .i64) THead)))) ⊕ (((Val (.slice TPage)) × (Val (.slice (.pair (.int .i64) TPage))) × (Val (.slice (.pair (.int .i64) THead)))) ⊕ (Int × Bool))) := fun y => qf84L2b y.1 y.2.1 y.2.2.1 y.2.2.2.1 y.2.2.2.2.1 y.2.2.2.2.2.1 y.2.2.2.2.2.2.1 y.2.2.2.2.2.2.2
noncomputable def qf84L2 (x0 : Int) (x1 : Val (.slice TPage)) (x2 : Val (.slice TPtr)) (x3 : Int) (x4 : Int) (x5 : Val (.slice TPage)) (x6 : Val (.slice (.pair (.int .i64) TPage))) (x7 : Val (.slice (.pair (.int .i64) THead))) : Option (((Val (.slice TPage)) × (Val (.slice (.pair (.int .i64) TPage))) × (Val (.slice (.pair (.int .i64) THead)))) ⊕ (Int × Bool)) := iter qf84L2B (x0, x1, x2, x3, x4, x5, x6, x7)
noncomputable def qf84L3b (x0 : Val (.slice TPage)) (x1 : Val (.slice (.pair (.int .i64) TPage))) (x2 : Val (.pair (.int .i64) (.slice (.int .i64)))) (x3 : Val (.slice (.pair (.int .i64) THead))) (i : Int) : Option ((Val (.slice TPage)) × (Val (.slice (.pair (.int .i64) TPage))) × (Val (.pair (.int .i64) (.slice (.int .i64)))) × (Val (.slice (.pair (.int .i64) THead)))) :=
bif (decide (x2.1 = (((List.length x3) : Nat) : Int))) then
(x3[(Int.toNat i)]?).bind fun r1 =>
(qf39 (Option.getD (lookV x1 r1.1) ((0 : Int), (0 : Int), (List.replicate 7 (0 : Int)), ())) r1.2).bind fun r2 =>
bif (decide (((List.length x0) + 1) ≤ lim)) then
some ((x0 ++ [r2.1]), x1, (x2.1, (i :: x2.2)), x3)
else none
else none
noncomputable def qf84L3_es : ((Val (.slice TPage)) × (Val (.slice (.pair (.int .i64) TPage))) × (Val (.pair (.int .i64) (.slice (.int .i64)))) × (Val (.slice (.pair (.int .i64) THead)))) → List (Int × Val THead) := fun y => y.2.2.2
noncomputable def qf84L3_n : ((Val (.slice TPage)) × (Val (.slice (.pair (.int .i64) TPage))) × (Val (.pair (.int .i64) (.slice (.int .i64)))) × (Val (.slice (.pair (.int .i64) THead)))) → Int := fun y => y.2.2.1.1
noncomputable def qf84L3_seen : ((Val (.slice TPage)) × (Val (.slice (.pair (.int .i64) TPage))) × (Val (.pair (.int .i64) (.slice (.int .i64)))) × (Val (.slice (.pair (.int .i64) THead)))) → List Int := fun y => y.2.2.1.2
noncomputable def qf84L3B : ((Val (.slice TPage)) × (Val (.slice (.pair (.int .i64) TPage))) × (Val (.pair (.int .i64) (.slice (.int .i64)))) × (Val (.slice (.pair (.int .i64) THead)))) → Int → Option ((Val (.slice TPage)) × (Val (.slice (.pair (.int .i64) TPage))) × (Val (.pair (.int .i64) (.slice (.int .i64)))) × (Val (.slice (.pair (.int .i64) THead)))) := fun y i => qf84L3b y.1 y.2.1 y.2.2.1 y.2.2.2 i
noncomputable def qf84 (a0 : Int) (a1 : Val (.slice TPtr)) (a2 : Val (.slice TPage)) : Option ((Val (.slice (.int .i64))) × (Val (.slice TPage)) × Int × Bool) :=
(qf6 a0).bind fun r1 =>
bif (!r1) then (
some ([], [], (1 : Int), true))
else (
bif (decide ((((List.length a1) : Nat) : Int) < (1 : Int))) then (
some ([], [], (1 : Int), true))
else (
bif (decide ((3 : Int) < (((List.length a1) : Nat) : Int))) then (
some ([], [], (1 : Int), true))
else (
(qf84L1 a0 a1 a2 a1 (((List.length a1) : Nat) : Int) (0 : Int) []).bind fun r2 =>
match r2 with
| .inl r3 => (
(qf16 r3.2.2.1 r3.2.2.2).bind fun r5 =>
bif (decide ((0 : Int) < (((List.length r5) : Nat) : Int))) then (
some (r5, [], (0 : Int), false))
else (
(qf84L2 r3.1 r3.2.2.1 r3.2.1 (((List.length r3.2.1) : Nat) : Int) (0 : Int) [] [] []).bind fun r6 =>
match r6 with
| .inl r7 => (
demO (fun p9 : List Int => List.Perm p9 (idx (List.length r7.2.2))) fun p9 =>
bif (decide ((((List.length r7.2.2) : Nat) : Int) = (((List.length r7.2.2) : Nat) : Int)) && (List.isEmpty ([] : List Int))) then
(rfold (fun y => List.length (qf84L3_es y)) qf84L3_n qf84L3_seen qf84L3B (r7.1, r7.2.1, ((((List.length r7.2.2) : Nat) : Int), ([] : List Int)), r7.2.2) p9).bind fun r10 =>
(qf47 r10.1).bind fun r11 =>
some ([], r11, (0 : Int), true)
else none)
| .inr r8 => (
some ([], [], r8))))
| .inr r4 => (
some ([], [], r4)))))
abbrev qf84Y : Type := Int × (Val (.slice TPtr)) × (Val (.slice TPage))
abbrev qf84Z : Type := (Val (.slice (.int .i64))) × (Val (.slice TPage)) × Int × Bool
abbrev qf84L1Y : Type := Int × (Val (.slice TPtr)) × (Val (.slice TPage)) × (Val (.slice TPtr)) × Int × Int × (Val (.slice (.int .i64)))
abbrev qf84L1Z : Type := (Int × (Val (.slice TPtr)) × (Val (.slice TPage)) × (Val (.slice (.int .i64)))) ⊕ (Int × Bool)
abbrev qf84L2Y : Type := Int × (Val (.slice TPage)) × (Val (.slice TPtr)) × Int × Int × (Val (.slice TPage)) × (Val (.slice (.pair (.int .i64) TPage))) × (Val (.slice (.pair (.int .i64) THead)))
abbrev qf84L2Z : Type := ((Val (.slice TPage)) × (Val (.slice (.pair (.int .i64) TPage))) × (Val (.slice (.pair (.int .i64) THead)))) ⊕ (Int × Bool)
abbrev qf84L3Y : Type := (Val (.slice TPage)) × (Val (.slice (.pair (.int .i64) TPage))) × (Val (.pair (.int .i64) (.slice (.int .i64)))) × (Val (.slice (.pair (.int .i64) THead)))
noncomputable def qf84I : Shape := ⟨204, 0, [(0, .dat false (.int .i64)), (1, .dat false (.slice TPtr)), (2, .dat false (.slice TPage))], [], [], true⟩
noncomputable def qf84O : Shape := ⟨205, 0, [(204, .tup (.cons (.dat true (.slice (.int .i64))) (.cons (.dat true (.slice TPage)) (.cons (.dat true (.int .i64)) (.cons (.dat true .bool) (.nil))))))], [], [], true⟩
noncomputable def qf84F : qf84Y → Option qf84Z := fun y => qf84 y.1 y.2.1 y.2.2
noncomputable def qf84ct : Ctr := ctrOf qf84I qf84O id id qf84F
noncomputable def qf84E : Env := { tf := tfE, mt := mtE, fn := fun f => bif Nat.beq f 42 then some qf6ct else bif Nat.beq f 75 then some qf79ct else bif Nat.beq f 76 then some qf82ct else bif Nat.beq f 78 then some qf21ct else bif Nat.beq f 24 then some qf27ct else bif Nat.beq f 43 then some qf16ct else bif Nat.beq f 70 then some qf7ct else bif Nat.beq f 71 then some qf52ct else bif Nat.beq f 72 then some qf17ct else bif Nat.beq f 49 then some qf35ct else bif Nat.beq f 79 then some qf83ct else bif Nat.beq f 51 then some qf39ct else bif Nat.beq f 52 then some qf47ct else none }
theorem qf84_env : EnvOk PT qf84E := ⟨tyE, (fun f ct h => by
  simp only [qf84E] at h
  refine envCons (c := qf6ct) h qf6_ctr (fun h => ?_)
  refine envCons (c := qf79ct) h qf79_ctr (fun h => ?_)
  refine envCons (c := qf82ct) h qf82_ctr (fun h => ?_)
  refine envCons (c := qf21ct) h qf21_ctr (fun h => ?_)
  refine envCons (c := qf27ct) h qf27_ctr (fun h => ?_)
  refine envCons (c := qf16ct) h qf16_ctr (fun h => ?_)
  refine envCons (c := qf7ct) h qf7_ctr (fun h => ?_)
  refine envCons (c := qf52ct) h qf52_ctr (fun h => ?_)
  refine envCons (c := qf17ct) h qf17_ctr (fun h => ?_)
  refine envCons (c := qf35ct) h qf35_ctr (fun h => ?_)
  refine envCons (c := qf83ct) h qf83_ctr (fun h => ?_)
  refine envCons (c := qf39ct) h qf39_ctr (fun h => ?_)
  refine envCons (c := qf47ct) h qf47_ctr (fun h => ?_)
  cases h), mapE⟩
noncomputable def qf84C : Code := bodyOf Tryz.f31
noncomputable def qf84L1C : Code := (loopsOf qf84C).getD 0 .skip
noncomputable def qf84L2C : Code := (loopsOf qf84C).getD 1 .skip
noncomputable def qf84L3C : Code := (loopsOf qf84C).getD 2 .skip
noncomputable def qf84L1S : Shape := ⟨204, 1, [(0, .dat false (.int .i64)), (1, .dat false (.slice TPtr)), (2, .dat false (.slice TPage)), (7, .nils), (10, .own (.int .i64) 0), (50, .dat false (.slice TPtr)), (51, .dat true (.int .i64)), (52, .dat true (.int .i64))], [(0, .slc true (.int .i64))], [], true⟩
noncomputable def qf84L1O : List (Ex × Shape) := [(.exit 0, ⟨204, 1, [(0, .dat false (.int .i64)), (1, .dat false (.slice TPtr)), (2, .dat false (.slice TPage)), (7, .nils), (10, .own (.int .i64) 0)], [(0, .slc true (.int .i64))], [], true⟩), (.ret, ⟨204, 0, [(6, .nils), (7, .nils), (8, .dat true (.int .i64)), (9, .dat true .bool)], [], [], true⟩)]
noncomputable def qf84L1M : Sum := loopSum (Y := qf84L1Y) (Z := qf84L1Z) qf84L1S qf84L1O id id (iter qf84L1B)
noncomputable def qf84L2S : Shape := ⟨204, 3, [(0, .dat false (.int .i64)), (2, .dat false (.slice TPage)), (7, .own TPage 0), (17, .mp 1), (18, .mp 2), (97, .dat false (.slice TPtr)), (98, .dat true (.int .i64)), (99, .dat true (.int .i64))], [(0, .slc true TPage), (1, .map .i64 true TPage), (2, .map .i64 true THead)], [], true⟩
noncomputable def qf84L2O : List (Ex × Shape) := [(.exit 2, ⟨204, 3, [(7, .own TPage 0), (17, .mp 1), (18, .mp 2)], [(0, .slc true TPage), (1, .map .i64 true TPage), (2, .map .i64 true THead)], [], true⟩), (.ret, ⟨204, 0, [(6, .nils), (7, .nils), (8, .dat true (.int .i64)), (9, .dat true .bool)], [], [], true⟩)]
noncomputable def qf84L2M : Sum := loopSum (Y := qf84L2Y) (Z := qf84L2Z) qf84L2S qf84L2O id id (iter qf84L2B)
noncomputable def qf84L3S : Shape := ⟨204, 4, [(7, .own TPage 0), (17, .mp 1), (184, .it 2)], [(0, .slc true TPage), (1, .map .i64 true TPage), (2, .itr 3), (3, .map .i64 true THead)], [], true⟩
noncomputable def qf84L3BC : Code := rBody qf84L3C
noncomputable def qf84L3M : Sum := rangeSum (Y := qf84L3Y) qf84L3S id id 4 185 186 (fun y => List.length (qf84L3_es y)) qf84L3_n qf84L3_seen qf84L3B
noncomputable def qf84H : Nat → Option Sum := fun n => bif Nat.beq n 5 then some qf84L1M else bif Nat.beq n 18 then some qf84L2M else bif Nat.beq n 41 then some qf84L3M else none
theorem qf84L1_bd (y : qf84L1Y) : @Eq (Option (qf84L1Y ⊕ qf84L1Z)) (exec qf84E qf84H qf84L1C (qf84L1S.mk' (show qf84L1S.D from y)) (kont (Y := qf84L1Y) (Z := qf84L1Z) qf84L1S qf84L1O id id)) (qf84L1B y) := by kernel_rfl
theorem qf84L1_ok {w0 : World} {Jo : Io} (hfix : ∀ i b, Jo.fix i = some b → i ∈ []) (hmay : true = true → Jo.may) : SumOk PT w0 Jo qf84L1M (.loop qf84L1C) :=
  @loop_ok w0 Jo PT qf84E qf84H qf84L1Y qf84L1Z qf84_env mixed qf84L1C qf84L1S qf84L1O id id id id (fun _ => rfl) (fun _ => rfl) hfix hmay (by kernel_rfl) (noLoops (by kernel_rfl)) qf84L1B qf84L1_bd
theorem qf84L2_bd (y : qf84L2Y) : @Eq (Option (qf84L2Y ⊕ qf84L2Z)) (exec qf84E qf84H qf84L2C (qf84L2S.mk' (show qf84L2S.D from y)) (kont (Y := qf84L2Y) (Z := qf84L2Z) qf84L2S qf84L2O id id)) (qf84L2B y) := by kernel_rfl
theorem qf84L2_ok {w0 : World} {Jo : Io} (hfix : ∀ i b, Jo.fix i = some b → i ∈ []) (hmay : true = true → Jo.may) : SumOk PT w0 Jo qf84L2M (.loop qf84L2C) :=
  @loop_ok w0 Jo PT qf84E qf84H qf84L2Y qf84L2Z qf84_env mixed qf84L2C qf84L2S qf84L2O id id id id (fun _ => rfl) (fun _ => rfl) hfix hmay (by kernel_rfl) (noLoops (by kernel_rfl)) qf84L2B qf84L2_bd
theorem qf84L3_bd (y : qf84L3Y) (i : Int) : @Eq (Option qf84L3Y) (exec qf84E qf84H qf84L3BC (nextSt (qf84L3S.mk' (show qf84L3S.D from y)) 2 185 186 i) (kontN (Y := qf84L3Y) qf84L3S id)) (qf84L3B y i) := by kernel_rfl
theorem qf84L3_ok {w0 : World} {Jo : Io} (hfix : ∀ i b, Jo.fix i = some b → i ∈ []) (hmay : true = true → Jo.may) : SumOk PT w0 Jo qf84L3M (.loop qf84L3C) := by
  rw [show qf84L3C = .seq (.region 41 #[rOp 0 qf84L3C, rOp 1 qf84L3C] false) (.seq (.cond (.tmp 186) .skip (.exit 4)) qf84L3BC) from by kernel_rfl]
  exact @range_ok w0 Jo PT qf84E qf84H qf84L3Y qf84_env mixed 41 4 2 3 184 185 186 (rOp 0 qf84L3C) (rOp 1 qf84L3C) qf84L3BC qf84L3S id id (fun _ => rfl) qf84L3_n qf84L3_seen .i64 true THead qf84L3_es hfix hmay (by kernel_rfl) (by kernel_rfl) (by kernel_rfl) (by kernel_rfl) (by kernel_rfl) (by kernel_rfl) (by kernel_rfl) (by kernel_rfl) (fun y => by kernel_rfl) (fun y => by kernel_rfl) (fun y => by kernel_rfl) (noLoops (by kernel_rfl)) qf84L3B qf84L3_bd
theorem qf84_bd (y : qf84Y) : @Eq (Option qf84Z) (exec qf84E qf84H qf84C (qf84I.mk' (show qf84I.D from y)) (kontF (Z := qf84Z) qf84E Tryz.f31.results.toList qf84O id)) (qf84F y) := by kernel_rfl
theorem qf84_lo {w0 : World} {Jo : Io} (hfix : ∀ i b, Jo.fix i = some b → i ∈ []) (hmay : true = true → Jo.may) : LoopsOk PT w0 Jo qf84H qf84C := (loopsMk (by kernel_rfl) (loopsCons (c := qf84L1C) (n := 5) (f := qf84L1M) (by kernel_rfl) (by kernel_rfl) (qf84L1_ok hfix hmay) (loopsCons (c := qf84L2C) (n := 18) (f := qf84L2M) (by kernel_rfl) (by kernel_rfl) (qf84L2_ok hfix hmay) (loopsCons (c := qf84L3C) (n := 41) (f := qf84L3M) (by kernel_rfl) (by kernel_rfl) (qf84L3_ok hfix hmay) loopsNil))))
theorem qf84_ctr : CtrOk PT 31 qf84ct :=
  @ctr_ok PT qf84E qf84H qf84_env mixed 31 Tryz.f31 qf84C (by kernel_rfl) (by kernel_rfl) (enters_of (by kernel_rfl : PT.funcs[31]? = some Tryz.f31) (by kernel_rfl) (by kernel_rfl)) qf84I qf84O qf84Y qf84Z id id id id (fun _ => rfl) (fun _ => rfl) (by kernel_rfl) (by kernel_rfl) qf84F qf84_bd (fun w0 Jo hfix hmay => qf84_lo hfix hmay)
noncomputable def qf85 (a0 : Int) : Option (Nat × Nat × (Val (.slice TPage))) :=
bif (decide (a0 < (0 : Int))) then (
none)
else (
bif (decide ((0 : Int) < (IntKind.wrap .i64 (a0 - (0 : Int))))) then (
bif ((decide ((0 : Int) < (IntKind.wrap .i64 (a0 - (0 : Int))))) && (decide ((IntKind.wrap .i64 (a0 - (0 : Int))) ≤ (lim : Int)))) then
bif (decide ((0 : Int) ≤ (((List.length (List.replicate (Int.toNat (IntKind.wrap .i64 (a0 - (0 : Int)))) ((0 : Int), (0 : Int), (List.replicate 7 (0 : Int)), ()))) : Nat) : Int))) then
some (0, 0, (List.replicate (Int.toNat (IntKind.wrap .i64 (a0 - (0 : Int)))) ((0 : Int), (0 : Int), (List.replicate 7 (0 : Int)), ())))
else none
else none)
else (
some (0, 0, [])))
noncomputable def qf85I : Shape := ⟨27, 0, [(0, .nils), (1, .dat false (.int .i64))], [], [], true⟩
noncomputable def qf85O : Shape := ⟨28, 1, [(27, .sub TPage 0)], [(0, .slc true TPage)], [], true⟩
noncomputable def qf85F : Int → Option (Nat × Nat × (Val (.slice TPage))) := fun y => qf85 y
noncomputable def qf85ct : Ctr := ctrOf qf85I qf85O id id qf85F
noncomputable def qf85E : Env := { tf := tfE, mt := mtE, fn := fun f => none }
theorem qf85_env : EnvOk PT qf85E := ⟨tyE, (fun f ct h => by
  simp only [qf85E] at h
  cases h), mapE⟩
noncomputable def qf85C : Code := bodyOf Tryz.f191
theorem qf85_bd (y : Int) : @Eq (Option (Nat × Nat × (Val (.slice TPage)))) (exec qf85E qf0H qf85C (qf85I.mk' (show qf85I.D from y)) (kontF (Z := Nat × Nat × (Val (.slice TPage))) qf85E Tryz.f191.results.toList qf85O id)) (qf85F y) := by kernel_rfl
theorem qf85_ctr : CtrOk PT 191 qf85ct :=
  @ctr_ok PT qf85E qf0H qf85_env mixed 191 Tryz.f191 qf85C (by kernel_rfl) (by kernel_rfl) (enters_of (by kernel_rfl : PT.funcs[191]? = some Tryz.f191) (by kernel_rfl) (by kernel_rfl)) qf85I qf85O Int (Nat × Nat × (Val (.slice TPage))) id id id id (fun _ => rfl) (fun _ => rfl) (by kernel_rfl) (by kernel_rfl) qf85F qf85_bd (fun _ _ _ _ => noLoops (by kernel_rfl))
noncomputable def qf86L1b (x0 : Val (.slice (.slice TPage))) (x1 : Int) (x2 : Val (.slice (.slice TPage))) (x3 : Int) (x4 : Int) : Option (((Val (.slice (.slice TPage))) × Int × (Val (.slice (.slice TPage))) × Int × Int) ⊕ ((Val (.slice (.slice TPage))) × Int)) :=
bif (decide (x4 < x3)) then (
bif (inR x4 (List.length x2)) then
bif (decide ((IntKind.wrap .i64 (x1 + (((List.length (List.getD x2 (Int.toNat x4) [])) : Nat) : Int))) < (0 : Int))) then (
none)
else (
some (Sum.inl (x0, (IntKind.wrap .i64 (x1 + (((List.length (List.getD x2 (Int.toNat x4) [])) : Nat) : Int))), x2, x3, (IntKind.wrap .i64 (x4 + (1 : Int))))))
else none)
else (
some (Sum.inr (x0, x1)))
noncomputable def qf86L1B : ((Val (.slice (.slice TPage))) × Int × (Val (.slice (.slice TPage))) × Int × Int) → Option (((Val (.slice (.slice TPage))) × Int × (Val (.slice (.slice TPage))) × Int × Int) ⊕ ((Val (.slice (.slice TPage))) × Int)) := fun y => qf86L1b y.1 y.2.1 y.2.2.1 y.2.2.2.1 y.2.2.2.2
noncomputable def qf86L1 (x0 : Val (.slice (.slice TPage))) (x1 : Int) (x2 : Val (.slice (.slice TPage))) (x3 : Int) (x4 : Int) : Option ((Val (.slice (.slice TPage))) × Int) := iter qf86L1B (x0, x1, x2, x3, x4)
noncomputable def qf86L2b (x0 : Nat) (x1 : Nat) (x2 : Val (.slice (.slice TPage))) (x3 : Int) (x4 : Int) (x5 : Val (.slice TPage)) : Option ((Nat × Nat × (Val (.slice (.slice TPage))) × Int × Int × (Val (.slice TPage))) ⊕ (Nat × Nat × (Val (.slice TPage)))) :=
bif (decide (x4 < x3)) then (
bif (inR x4 (List.length x2)) then
bif (decide (((List.length (List.drop x0 (List.take x1 x5))) + (List.length (List.getD x2 (Int.toNat x4) []))) ≤ lim)) then
some (Sum.inl (0, (List.length ((List.drop x0 (List.take x1 x5)) ++ (List.getD x2 (Int.toNat x4) []))), x2, x3, (IntKind.wrap .i64 (x4 + (1 : Int))), ((List.drop x0 (List.take x1 x5)) ++ (List.getD x2 (Int.toNat x4) []))))
else none
else none)
else (
some (Sum.inr (x0, x1, x5)))
noncomputable def qf86L2B : (Nat × Nat × (Val (.slice (.slice TPage))) × Int × Int × (Val (.slice TPage))) → Option ((Nat × Nat × (Val (.slice (.slice TPage))) × Int × Int × (Val (.slice TPage))) ⊕ (Nat × Nat × (Val (.slice TPage)))) := fun y => qf86L2b y.1 y.2.1 y.2.2.1 y.2.2.2.1 y.2.2.2.2.1 y.2.2.2.2.2
noncomputable def qf86L2 (x0 : Nat) (x1 : Nat) (x2 : Val (.slice (.slice TPage))) (x3 : Int) (x4 : Int) (x5 : Val (.slice TPage)) : Option (Nat × Nat × (Val (.slice TPage))) := iter qf86L2B (x0, x1, x2, x3, x4, x5)
noncomputable def qf86 (a0 : Val (.slice (.slice TPage))) : Option ((Val (.slice TPage))) :=
(qf86L1 a0 (0 : Int) a0 (((List.length a0) : Nat) : Int) (0 : Int)).bind fun r1 =>
(qf85 r1.2).bind fun r2 =>
(qf86L2 r2.1 r2.2.1 r1.1 (((List.length r1.1) : Nat) : Int) (0 : Int) r2.2.2).bind fun r3 =>
some (List.drop r3.1 (List.take r3.2.1 r3.2.2))
abbrev qf86L1Y : Type := (Val (.slice (.slice TPage))) × Int × (Val (.slice (.slice TPage))) × Int × Int
abbrev qf86L2Y : Type := Nat × Nat × (Val (.slice (.slice TPage))) × Int × Int × (Val (.slice TPage))
noncomputable def qf86I : Shape := ⟨36, 0, [(0, .dat false (.slice (.slice TPage)))], [], [], true⟩
noncomputable def qf86O : Shape := ⟨37, 0, [(36, .dat true (.slice TPage))], [], [], true⟩
noncomputable def qf86F : ((Val (.slice (.slice TPage)))) → Option ((Val (.slice TPage))) := fun y => qf86 y
noncomputable def qf86ct : Ctr := ctrOf qf86I qf86O id id qf86F
noncomputable def qf86E : Env := { tf := tfE, mt := mtE, fn := fun f => bif Nat.beq f 191 then some qf85ct else none }
theorem qf86_env : EnvOk PT qf86E := ⟨tyE, (fun f ct h => by
  simp only [qf86E] at h
  refine envCons (c := qf85ct) h qf85_ctr (fun h => ?_)
  cases h), mapE⟩
noncomputable def qf86C : Code := bodyOf Tryz.f153
noncomputable def qf86L1C : Code := (loopsOf qf86C).getD 0 .skip
noncomputable def qf86L2C : Code := (loopsOf qf86C).getD 1 .skip
noncomputable def qf86L1S : Shape := ⟨36, 0, [(0, .dat false (.slice (.slice TPage))), (3, .dat true (.int .i64)), (9, .dat false (.slice (.slice TPage))), (10, .dat true (.int .i64)), (11, .dat true (.int .i64))], [], [], true⟩
noncomputable def qf86L1O : List (Ex × Shape) := [(.exit 0, ⟨36, 0, [(0, .dat false (.slice (.slice TPage))), (3, .dat true (.int .i64))], [], [], true⟩)]
noncomputable def qf86L1M : Sum := loopSum (Y := qf86L1Y) (Z := (Val (.slice (.slice TPage))) × Int) qf86L1S qf86L1O id id (iter qf86L1B)
noncomputable def qf86L2S : Shape := ⟨36, 1, [(6, .sub TPage 0), (25, .dat false (.slice (.slice TPage))), (26, .dat true (.int .i64)), (27, .dat true (.int .i64))], [(0, .slc true TPage)], [], true⟩
noncomputable def qf86L2O : List (Ex × Shape) := [(.exit 2, ⟨36, 1, [(6, .sub TPage 0)], [(0, .slc true TPage)], [], true⟩)]
noncomputable def qf86L2M : Sum := loopSum (Y := qf86L2Y) (Z := Nat × Nat × (Val (.slice TPage))) qf86L2S qf86L2O id id (iter qf86L2B)
noncomputable def qf86H : Nat → Option Sum := fun n => bif Nat.beq n 3 then some qf86L1M else bif Nat.beq n 11 then some qf86L2M else none
theorem qf86L1_bd (y : qf86L1Y) : @Eq (Option (qf86L1Y ⊕ ((Val (.slice (.slice TPage))) × Int))) (exec qf86E qf86H qf86L1C (qf86L1S.mk' (show qf86L1S.D from y)) (kont (Y := qf86L1Y) (Z := (Val (.slice (.slice TPage))) × Int) qf86L1S qf86L1O id id)) (qf86L1B y) := by kernel_rfl
theorem qf86L1_ok {w0 : World} {Jo : Io} (hfix : ∀ i b, Jo.fix i = some b → i ∈ []) (hmay : true = true → Jo.may) : SumOk PT w0 Jo qf86L1M (.loop qf86L1C) :=
  @loop_ok w0 Jo PT qf86E qf86H qf86L1Y ((Val (.slice (.slice TPage))) × Int) qf86_env mixed qf86L1C qf86L1S qf86L1O id id id id (fun _ => rfl) (fun _ => rfl) hfix hmay (by kernel_rfl) (noLoops (by kernel_rfl)) qf86L1B qf86L1_bd
theorem qf86L2_bd (y : qf86L2Y) : @Eq (Option (qf86L2Y ⊕ (Nat × Nat × (Val (.slice TPage))))) (exec qf86E qf86H qf86L2C (qf86L2S.mk' (show qf86L2S.D from y)) (kont (Y := qf86L2Y) (Z := Nat × Nat × (Val (.slice TPage))) qf86L2S qf86L2O id id)) (qf86L2B y) := by kernel_rfl
theorem qf86L2_ok {w0 : World} {Jo : Io} (hfix : ∀ i b, Jo.fix i = some b → i ∈ []) (hmay : true = true → Jo.may) : SumOk PT w0 Jo qf86L2M (.loop qf86L2C) :=
  @loop_ok w0 Jo PT qf86E qf86H qf86L2Y (Nat × Nat × (Val (.slice TPage))) qf86_env mixed qf86L2C qf86L2S qf86L2O id id id id (fun _ => rfl) (fun _ => rfl) hfix hmay (by kernel_rfl) (noLoops (by kernel_rfl)) qf86L2B qf86L2_bd
theorem qf86_bd (y : (Val (.slice (.slice TPage)))) : @Eq (Option ((Val (.slice TPage)))) (exec qf86E qf86H qf86C (qf86I.mk' (show qf86I.D from y)) (kontF (Z := (Val (.slice TPage))) qf86E Tryz.f153.results.toList qf86O id)) (qf86F y) := by kernel_rfl
theorem qf86_lo {w0 : World} {Jo : Io} (hfix : ∀ i b, Jo.fix i = some b → i ∈ []) (hmay : true = true → Jo.may) : LoopsOk PT w0 Jo qf86H qf86C := (loopsMk (by kernel_rfl) (loopsCons (c := qf86L1C) (n := 3) (f := qf86L1M) (by kernel_rfl) (by kernel_rfl) (qf86L1_ok hfix hmay) (loopsCons (c := qf86L2C) (n := 11) (f := qf86L2M) (by kernel_rfl) (by kernel_rfl) (qf86L2_ok hfix hmay) loopsNil)))
theorem qf86_ctr : CtrOk PT 153 qf86ct :=
  @ctr_ok PT qf86E qf86H qf86_env mixed 153 Tryz.f153 qf86C (by kernel_rfl) (by kernel_rfl) (enters_of (by kernel_rfl : PT.funcs[153]? = some Tryz.f153) (by kernel_rfl) (by kernel_rfl)) qf86I qf86O ((Val (.slice (.slice TPage)))) ((Val (.slice TPage))) id id id id (fun _ => rfl) (fun _ => rfl) (by kernel_rfl) (by kernel_rfl) qf86F qf86_bd (fun w0 Jo hfix hmay => qf86_lo hfix hmay)
noncomputable def qf87L1b (x0 : Val (.slice TPage)) (x1 : Int) (x2 : Int) (x3 : Val (.slice (.pair (.int .i64) TPage))) : Option (((Val (.slice TPage)) × Int × Int × (Val (.slice (.pair (.int .i64) TPage)))) ⊕ ((Val (.slice (.pair (.int .i64) TPage))))) :=
bif (decide (x2 < x1)) then (
bif (inR x2 (List.length x0)) then
some (Sum.inl (x0, x1, (IntKind.wrap .i64 (x2 + (1 : Int))), (upsV x3 (List.getD x0 (Int.toNat x2) ((0 : Int), (0 : Int), (List.replicate 7 (0 : Int)), ())).1 (List.getD x0 (Int.toNat x2) ((0 : Int), (0 : Int), (List.replicate 7 (0 : Int)), ())))))
else none)
else (
some (Sum.inr x3))
noncomputable def qf87L1B : ((Val (.slice TPage)) × Int × Int × (Val (.slice (.pair (.int .i64) TPage)))) → Option (((Val (.slice TPage)) × Int × Int × (Val (.slice (.pair (.int .i64) TPage)))) ⊕ ((Val (.slice (.pair (.int .i64) TPage))))) := fun y => qf87L1b y.1 y.2.1 y.2.2.1 y.2.2.2
noncomputable def qf87L1 (x0 : Val (.slice TPage)) (x1 : Int) (x2 : Int) (x3 : Val (.slice (.pair (.int .i64) TPage))) : Option ((Val (.slice (.pair (.int .i64) TPage)))) := iter qf87L1B (x0, x1, x2, x3)
noncomputable def qf87L2b (x0 : Val (.slice TPage)) (x1 : Val (.pair (.int .i64) (.slice (.int .i64)))) (x2 : Val (.slice (.pair (.int .i64) TPage))) (i : Int) : Option ((Val (.slice TPage)) × (Val (.pair (.int .i64) (.slice (.int .i64)))) × (Val (.slice (.pair (.int .i64) TPage)))) :=
bif (decide (x1.1 = (((List.length x2) : Nat) : Int))) then
(x2[(Int.toNat i)]?).bind fun r1 =>
bif (decide (((List.length x0) + 1) ≤ lim)) then
some ((x0 ++ [r1.2]), (x1.1, (i :: x1.2)), x2)
else none
else none
noncomputable def qf87L2_es : ((Val (.slice TPage)) × (Val (.pair (.int .i64) (.slice (.int .i64)))) × (Val (.slice (.pair (.int .i64) TPage)))) → List (Int × Val TPage) := fun y => y.2.2
noncomputable def qf87L2_n : ((Val (.slice TPage)) × (Val (.pair (.int .i64) (.slice (.int .i64)))) × (Val (.slice (.pair (.int .i64) TPage)))) → Int := fun y => y.2.1.1
noncomputable def qf87L2_seen : ((Val (.slice TPage)) × (Val (.pair (.int .i64) (.slice (.int .i64)))) × (Val (.slice (.pair (.int .i64) TPage)))) → List Int := fun y => y.2.1.2
noncomputable def qf87L2B : ((Val (.slice TPage)) × (Val (.pair (.int .i64) (.slice (.int .i64)))) × (Val (.slice (.pair (.int .i64) TPage)))) → Int → Option ((Val (.slice TPage)) × (Val (.pair (.int .i64) (.slice (.int .i64)))) × (Val (.slice (.pair (.int .i64) TPage)))) := fun y i => qf87L2b y.1 y.2.1 y.2.2 i
noncomputable def qf87 (a0 : Val (.slice TPage)) (a1 : Val (.slice TPage)) : Option ((Val (.slice TPage))) :=
(qf86 [a0, a1]).bind fun r1 =>
(qf87L1 r1 (((List.length r1) : Nat) : Int) (0 : Int) []).bind fun r2 =>
demO (fun p3 : List Int => List.Perm p3 (idx (List.length r2))) fun p3 =>
bif (decide ((((List.length r2) : Nat) : Int) = (((List.length r2) : Nat) : Int)) && (List.isEmpty ([] : List Int))) then
(rfold (fun y => List.length (qf87L2_es y)) qf87L2_n qf87L2_seen qf87L2B ([], ((((List.length r2) : Nat) : Int), ([] : List Int)), r2) p3).bind fun r4 =>
(qf47 r4.1).bind fun r5 =>
some r5
else none
abbrev qf87Y : Type := (Val (.slice TPage)) × (Val (.slice TPage))
abbrev qf87L1Y : Type := (Val (.slice TPage)) × Int × Int × (Val (.slice (.pair (.int .i64) TPage)))
abbrev qf87L1Z : Type := (Val (.slice (.pair (.int .i64) TPage)))
abbrev qf87L2Y : Type := (Val (.slice TPage)) × (Val (.pair (.int .i64) (.slice (.int .i64)))) × (Val (.slice (.pair (.int .i64) TPage)))
noncomputable def qf87I : Shape := ⟨38, 0, [(0, .dat false (.slice TPage)), (1, .dat false (.slice TPage))], [], [], true⟩
noncomputable def qf87O : Shape := ⟨39, 1, [(38, .own TPage 0)], [(0, .slc true TPage)], [], true⟩
noncomputable def qf87F : qf87Y → Option ((Val (.slice TPage))) := fun y => qf87 y.1 y.2
noncomputable def qf87ct : Ctr := ctrOf qf87I qf87O id id qf87F
noncomputable def qf87E : Env := { tf := tfE, mt := mtE, fn := fun f => bif Nat.beq f 153 then some qf86ct else bif Nat.beq f 52 then some qf47ct else none }
theorem qf87_env : EnvOk PT qf87E := ⟨tyE, (fun f ct h => by
  simp only [qf87E] at h
  refine envCons (c := qf86ct) h qf86_ctr (fun h => ?_)
  refine envCons (c := qf47ct) h qf47_ctr (fun h => ?_)
  cases h), mapE⟩
noncomputable def qf87C : Code := bodyOf Tryz.f137
noncomputable def qf87L1C : Code := (loopsOf qf87C).getD 0 .skip
noncomputable def qf87L2C : Code := (loopsOf qf87C).getD 1 .skip
noncomputable def qf87L1S : Shape := ⟨38, 1, [(5, .mp 0), (15, .dat true (.slice TPage)), (16, .dat true (.int .i64)), (17, .dat true (.int .i64))], [(0, .map .i64 true TPage)], [], true⟩
noncomputable def qf87L1O : List (Ex × Shape) := [(.exit 0, ⟨38, 1, [(5, .mp 0)], [(0, .map .i64 true TPage)], [], true⟩)]
noncomputable def qf87L1M : Sum := loopSum (Y := qf87L1Y) (Z := qf87L1Z) qf87L1S qf87L1O id id (iter qf87L1B)
noncomputable def qf87L2S : Shape := ⟨38, 3, [(8, .own TPage 0), (27, .it 1)], [(0, .slc true TPage), (1, .itr 2), (2, .map .i64 true TPage)], [], true⟩
noncomputable def qf87L2BC : Code := rBody qf87L2C
noncomputable def qf87L2M : Sum := rangeSum (Y := qf87L2Y) qf87L2S id id 2 28 29 (fun y => List.length (qf87L2_es y)) qf87L2_n qf87L2_seen qf87L2B
noncomputable def qf87H : Nat → Option Sum := fun n => bif Nat.beq n 3 then some qf87L1M else bif Nat.beq n 9 then some qf87L2M else none
theorem qf87L1_bd (y : qf87L1Y) : @Eq (Option (qf87L1Y ⊕ qf87L1Z)) (exec qf87E qf87H qf87L1C (qf87L1S.mk' (show qf87L1S.D from y)) (kont (Y := qf87L1Y) (Z := qf87L1Z) qf87L1S qf87L1O id id)) (qf87L1B y) := by kernel_rfl
theorem qf87L1_ok {w0 : World} {Jo : Io} (hfix : ∀ i b, Jo.fix i = some b → i ∈ []) (hmay : true = true → Jo.may) : SumOk PT w0 Jo qf87L1M (.loop qf87L1C) :=
  @loop_ok w0 Jo PT qf87E qf87H qf87L1Y qf87L1Z qf87_env mixed qf87L1C qf87L1S qf87L1O id id id id (fun _ => rfl) (fun _ => rfl) hfix hmay (by kernel_rfl) (noLoops (by kernel_rfl)) qf87L1B qf87L1_bd
theorem qf87L2_bd (y : qf87L2Y) (i : Int) : @Eq (Option qf87L2Y) (exec qf87E qf87H qf87L2BC (nextSt (qf87L2S.mk' (show qf87L2S.D from y)) 1 28 29 i) (kontN (Y := qf87L2Y) qf87L2S id)) (qf87L2B y i) := by kernel_rfl
theorem qf87L2_ok {w0 : World} {Jo : Io} (hfix : ∀ i b, Jo.fix i = some b → i ∈ []) (hmay : true = true → Jo.may) : SumOk PT w0 Jo qf87L2M (.loop qf87L2C) := by
  rw [show qf87L2C = .seq (.region 9 #[rOp 0 qf87L2C, rOp 1 qf87L2C] false) (.seq (.cond (.tmp 29) .skip (.exit 2)) qf87L2BC) from by kernel_rfl]
  exact @range_ok w0 Jo PT qf87E qf87H qf87L2Y qf87_env mixed 9 2 1 2 27 28 29 (rOp 0 qf87L2C) (rOp 1 qf87L2C) qf87L2BC qf87L2S id id (fun _ => rfl) qf87L2_n qf87L2_seen .i64 true TPage qf87L2_es hfix hmay (by kernel_rfl) (by kernel_rfl) (by kernel_rfl) (by kernel_rfl) (by kernel_rfl) (by kernel_rfl) (by kernel_rfl) (by kernel_rfl) (fun y => by kernel_rfl) (fun y => by kernel_rfl) (fun y => by kernel_rfl) (noLoops (by kernel_rfl)) qf87L2B qf87L2_bd
theorem qf87_bd (y : qf87Y) : @Eq (Option ((Val (.slice TPage)))) (exec qf87E qf87H qf87C (qf87I.mk' (show qf87I.D from y)) (kontF (Z := (Val (.slice TPage))) qf87E Tryz.f137.results.toList qf87O id)) (qf87F y) := by kernel_rfl
theorem qf87_lo {w0 : World} {Jo : Io} (hfix : ∀ i b, Jo.fix i = some b → i ∈ []) (hmay : true = true → Jo.may) : LoopsOk PT w0 Jo qf87H qf87C := (loopsMk (by kernel_rfl) (loopsCons (c := qf87L1C) (n := 3) (f := qf87L1M) (by kernel_rfl) (by kernel_rfl) (qf87L1_ok hfix hmay) (loopsCons (c := qf87L2C) (n := 9) (f := qf87L2M) (by kernel_rfl) (by kernel_rfl) (qf87L2_ok hfix hmay) loopsNil)))
theorem qf87_ctr : CtrOk PT 137 qf87ct :=
  @ctr_ok PT qf87E qf87H qf87_env mixed 137 Tryz.f137 qf87C (by kernel_rfl) (by kernel_rfl) (enters_of (by kernel_rfl : PT.funcs[137]? = some Tryz.f137) (by kernel_rfl) (by kernel_rfl)) qf87I qf87O qf87Y ((Val (.slice TPage))) id id id id (fun _ => rfl) (fun _ => rfl) (by kernel_rfl) (by kernel_rfl) qf87F qf87_bd (fun w0 Jo hfix hmay => qf87_lo hfix hmay)
noncomputable def qf88L1b (x0 : Val (.slice TPage)) (x1 : Val (.arr 4 TRet)) (x2 : Int) (x3 : Val (.slice (.pair (.int .i64) TPage))) (x4 : Val (.slice (.pair (.int .i64) TNode))) (x5 : Val TPage) (x6 : Int) (x7 : Val TOp) (x8 : Int) (x9 : Int) (x10 : Int) (x11 : Val TNode) (x12 : Val (.slice TPtr)) : Option (((Val (.slice TPage)) × (Val (.arr 4 TRet)) × Int × (Val (.slice (.pair (.int .i64) TPage))) × (Val (.slice (.pair (.int .i64) TNode))) × (Val TPage) × Int × (Val TOp) × Int × Int × Int × (Val TNode) × (Val (.slice TPtr))) ⊕ ((Val (.slice TPage)) × (Val (.slice (.pair (.int .i64) TPage))) × (Val (.slice (.pair (.int .i64) TNode))) × (Val TPage) × Int × (Val TOp) × Int × Int × Int × (Val TNode) × (Val (.slice TPtr)))) :=
bif (decide (x2 < (4 : Int))) then (
bif (inR x2 4) then
bif (!(eqV TRet (List.getD x1 (Int.toNat x2) (((0 : Int), (0 : Int), ()), (0 : Int), ())) (((0 : Int), (0 : Int), ()), (0 : Int), ()))) then (
(qf0 x6 (List.getD x1 (Int.toNat x2) (((0 : Int), (0 : Int), ()), (0 : Int), ())).2.1).bind fun r1 =>
bif r1 then (
bif (decide ((((List.length x12) : Nat) : Int) < (2 : Int))) then (
bif (decide (((List.length x12) + 1) ≤ lim)) then
bif (inR x2 4) then
some (Sum.inl (x0, x1, (IntKind.wrap .i64 (x2 + (1 : Int))), x3, x4, x5, x6, x7, x8, x9, x10, (x11.1, x11.2.1, x11.2.2.1, x11.2.2.2.1, (List.set x11.2.2.2.2.1 (Int.toNat x2) (((0 : Int), (0 : Int), ()), (0 : Int), ())), x11.2.2.2.2.2), (x12 ++ [(List.getD x1 (Int.toNat x2) (((0 : Int), (0 : Int), ()), (0 : Int), ())).1])))
else none
else none)
else (
some (Sum.inl (x0, x1, (IntKind.wrap .i64 (x2 + (1 : Int))), x3, x4, x5, x6, x7, x8, x9, x10, x11, x12))))
else (
some (Sum.inl (x0, x1, (IntKind.wrap .i64 (x2 + (1 : Int))), x3, x4, x5, x6, x7, x8, x9, x10, x11, x12))))
else (
some (Sum.inl (x0, x1, (IntKind.wrap .i64 (x2 + (1 : Int))), x3, x4, x5, x6, x7, x8, x9, x10, x11, x12)))
else none)
else (
some (Sum.inr (x0, x3, x4, x5, x6, x7, x8, x9, x10, x11, x12)))
noncomputable def qf88L1B : ((Val (.slice TPage)) × (Val (.arr 4 TRet)) × Int × (Val (.slice (.pair (.int .i64) TPage))) × (Val (.slice (.pair (.int .i64) TNode))) × (Val TPage) × Int × (Val TOp) × Int × Int × Int × (Val TNode) × (Val (.slice TPtr))) → Option (((Val (.slice TPage)) × (Val (.arr 4 TRet)) × Int × (Val (.slice (.pair (.int .i64) TPage))) × (Val (.slice (.pair (.int .i64) TNode))) × (Val TPage) × Int × (Val TOp) × Int × Int × Int × (Val TNode) × (Val (.slice TPtr))) ⊕ ((Val (.slice TPage)) × (Val (.slice (.pair (.int .i64) TPage))) × (Val (.slice (.pair (.int .i64) TNode))) × (Val TPage) × Int × (Val TOp) × Int × Int × Int × (Val TNode) × (Val (.slice TPtr)))) := fun y => qf88L1b y.1 y.2.1 y.2.2.1 y.2.2.2.1 y.2.2.2.2.1 y.2.2.2.2.2.1 y.2.2.2.2.2.2.1 y.2.2.2.2.2.2.2.1 y.2.2.2.2.2.2.2.2.1 y.2.2.2.2.2.2.2.2.2.1 y.2.2.2.2.2.2.2.2.2.2.1 y.2.2.2.2.2.2.2.2.2.2.2.1 y.2.2.2.2.2.2.2.2.2.2.2.2
noncomputable def qf88L1 (x0 : Val (.slice TPage)) (x1 : Val (.arr 4 TRet)) (x2 : Int) (x3 : Val (.slice (.pair (.int .i64) TPage))) (x4 : Val (.slice (.pair (.int .i64) TNode))) (x5 : Val TPage) (x6 : Int) (x7 : Val TOp) (x8 : Int) (x9 : Int) (x10 : Int) (x11 : Val TNode) (x12 : Val (.slice TPtr)) : Option ((Val (.slice TPage)) × (Val (.slice (.pair (.int .i64) TPage))) × (Val (.slice (.pair (.int .i64) TNode))) × (Val TPage) × Int × (Val TOp) × Int × Int × Int × (Val TNode) × (Val (.slice TPtr))) := iter qf88L1B (x0, x1, x2, x3, x4, x5, x6, x7, x8, x9, x10, x11, x12)
noncomputable def qf88 (a0 : Val TPage) (a1 : Int) (a2 : Val TOp) (a3 : Val (.slice TPage)) (a4 : Val (.slice (.pair (.int .i64) TPage))) (a5 : Val (.slice (.pair (.int .i64) TNode))) : Option ((Val (.slice (.int .i64))) × (Val TOut) × Bool × (Val (.slice (.pair (.int .i64) TPage))) × (Val (.slice (.pair (.int .i64) TNode))) × (Val (.slice TPage))) :=
(qf88L1 a3 (Option.getD (lookV a5 a2.2.2.2.2.1) (false, (0 : Int), (0 : Int), (0 : Int), (List.replicate 4 (((0 : Int), (0 : Int), ()), (0 : Int), ())), ())).2.2.2.2.1 (0 : Int) a4 a5 a0 a1 a2 (0 : Int) (0 : Int) (0 : Int) (Option.getD (lookV a5 a2.2.2.2.2.1) (false, (0 : Int), (0 : Int), (0 : Int), (List.replicate 4 (((0 : Int), (0 : Int), ()), (0 : Int), ())), ())) []).bind fun r1 =>
bif (decide ((((List.length r1.2.2.2.2.2.2.2.2.2.2) : Nat) : Int) = (0 : Int))) then (
some ([], ((16 : Int), (0 : Int), (0 : Int), [], [], ()), true, r1.2.1, r1.2.2.1, []))
else (
(qf84 r1.2.2.2.2.2.1.2.2.2.1 r1.2.2.2.2.2.2.2.2.2.2 r1.1).bind fun r2 =>
bif (!r2.2.2.2) then (
some (r2.1, ((0 : Int), (0 : Int), (0 : Int), [], [], ()), false, r1.2.1, r1.2.2.1, []))
else (
bif (decide (r2.2.2.1 = (1 : Int))) then (
some ([], ((14 : Int), (0 : Int), (0 : Int), [], [], ()), true, r1.2.1, r1.2.2.1, []))
else (
bif (!(decide (r2.2.2.1 = (0 : Int)))) then (
some ([], (r2.2.2.1, (0 : Int), (0 : Int), [], [], ()), true, r1.2.1, r1.2.2.1, []))
else (
(qf69 r1.2.2.2.1 r1.2.2.2.2.1 r1.2.2.2.2.2.1.2.2.2.2.1 r1.2.2.2.2.2.2.2.2.2.1 r1.2.1 r1.2.2.1).bind fun r3 =>
(qf87 r2.2.1 r3.2.2).bind fun r4 =>
some ([], ((0 : Int), r1.2.2.2.2.1, (0 : Int), r1.2.2.2.2.2.2.2.2.2.2, [(97 : Int)], ()), true, r3.1, r3.2.1, r4)))))
abbrev qf88Y : Type := (Val TPage) × Int × (Val TOp) × (Val (.slice TPage)) × (Val (.slice (.pair (.int .i64) TPage))) × (Val (.slice (.pair (.int .i64) TNode)))
abbrev qf88Z : Type := (Val (.slice (.int .i64))) × (Val TOut) × Bool × (Val (.slice (.pair (.int .i64) TPage))) × (Val (.slice (.pair (.int .i64) TNode))) × (Val (.slice TPage))
abbrev qf88L1Y : Type := (Val (.slice TPage)) × (Val (.arr 4 TRet)) × Int × (Val (.slice (.pair (.int .i64) TPage))) × (Val (.slice (.pair (.int .i64) TNode))) × (Val TPage) × Int × (Val TOp) × Int × Int × Int × (Val TNode) × (Val (.slice TPtr))
abbrev qf88L1Z : Type := (Val (.slice TPage)) × (Val (.slice (.pair (.int .i64) TPage))) × (Val (.slice (.pair (.int .i64) TNode))) × (Val TPage) × Int × (Val TOp) × Int × Int × Int × (Val TNode) × (Val (.slice TPtr))
noncomputable def qf88I : Shape := ⟨90, 2, [(0, .cons (.dat false TPage) (.cons (.dat false (.int .u32)) (.cons (.mp 0) (.cons (.mp 1) (.nil))))), (1, .dat false TOp), (2, .dat false (.slice TPage))], [(0, .map .i64 false TPage), (1, .map .i64 false TNode)], [0, 1], false⟩
noncomputable def qf88O : Shape := ⟨91, 3, [(90, .tup (.cons (.dat true (.slice (.int .i64))) (.cons (.own TPage 2) (.cons (.dat true TOut) (.cons (.dat true .bool) (.nil))))))], [(0, .map .i64 false TPage), (1, .map .i64 false TNode), (2, .slc true TPage)], [0, 1], false⟩
noncomputable def qf88F : qf88Y → Option qf88Z := fun y => qf88 y.1 y.2.1 y.2.2.1 y.2.2.2.1 y.2.2.2.2.1 y.2.2.2.2.2
noncomputable def qf88ct : Ctr := ctrOf qf88I qf88O id id qf88F
noncomputable def qf88E : Env := { tf := tfE, mt := mtE, fn := fun f => bif Nat.beq f 99 then some qf0ct else bif Nat.beq f 31 then some qf84ct else bif Nat.beq f 133 then some qf69ct else bif Nat.beq f 137 then some qf87ct else none }
theorem qf88_env : EnvOk PT qf88E := ⟨tyE, (fun f ct h => by
  simp only [qf88E] at h
  refine envCons (c := qf0ct) h qf0_ctr (fun h => ?_)
  refine envCons (c := qf84ct) h qf84_ctr (fun h => ?_)
  refine envCons (c := qf69ct) h qf69_ctr (fun h => ?_)
  refine envCons (c := qf87ct) h qf87_ctr (fun h => ?_)
  cases h), mapE⟩
noncomputable def qf88C : Code := bodyOf Tryz.f88
noncomputable def qf88L1C : Code := (loopsOf qf88C).getD 0 .skip
noncomputable def qf88L1S : Shape := ⟨90, 7, [(2, .dat false (.slice TPage)), (3, .ref 2 []), (4, .ref 3 []), (8, .ref 4 []), (10, .ref 5 []), (11, .own TPtr 6), (21, .dat false (.arr 4 TRet)), (22, .dat true (.int .i64))], [(0, .map .i64 false TPage), (1, .map .i64 false TNode), (2, .box (.pair TPage (.pair (.int .u32) (.pair (.cell .map) (.pair (.cell .map) .unit)))) (.cons (.dat false TPage) (.cons (.dat false (.int .u32)) (.cons (.mp 0) (.cons (.mp 1) (.nil)))))), (3, .box TOp (.dat false TOp)), (4, .box TOut (.cons (.dat true (.int .i64)) (.cons (.dat true (.int .u32)) (.cons (.dat true (.int .i64)) (.cons (.nils) (.cons (.nils) (.nil))))))), (5, .box TNode (.dat false TNode)), (6, .slc true TPtr)], [0, 1], false⟩
noncomputable def qf88L1O : List (Ex × Shape) := [(.exit 0, ⟨90, 7, [(2, .dat false (.slice TPage)), (3, .ref 2 []), (4, .ref 3 []), (8, .ref 4 []), (10, .ref 5 []), (11, .own TPtr 6)], [(0, .map .i64 false TPage), (1, .map .i64 false TNode), (2, .box (.pair TPage (.pair (.int .u32) (.pair (.cell .map) (.pair (.cell .map) .unit)))) (.cons (.dat false TPage) (.cons (.dat false (.int .u32)) (.cons (.mp 0) (.cons (.mp 1) (.nil)))))), (3, .box TOp (.dat false TOp)), (4, .box TOut (.cons (.dat true (.int .i64)) (.cons (.dat true (.int .u32)) (.cons (.dat true (.int .i64)) (.cons (.nils) (.cons (.nils) (.nil))))))), (5, .box TNode (.dat false TNode)), (6, .slc true TPtr)], [0, 1], false⟩)]
noncomputable def qf88L1M : Sum := loopSum (Y := qf88L1Y) (Z := qf88L1Z) qf88L1S qf88L1O id id (iter qf88L1B)
noncomputable def qf88H : Nat → Option Sum := fun n => bif Nat.beq n 4 then some qf88L1M else none
theorem qf88L1_bd (y : qf88L1Y) : @Eq (Option (qf88L1Y ⊕ qf88L1Z)) (exec qf88E qf88H qf88L1C (qf88L1S.mk' (show qf88L1S.D from y)) (kont (Y := qf88L1Y) (Z := qf88L1Z) qf88L1S qf88L1O id id)) (qf88L1B y) := by kernel_rfl
theorem qf88L1_ok {w0 : World} {Jo : Io} (hfix : ∀ i b, Jo.fix i = some b → i ∈ [0, 1]) (hmay : false = true → Jo.may) : SumOk PT w0 Jo qf88L1M (.loop qf88L1C) :=
  @loop_ok w0 Jo PT qf88E qf88H qf88L1Y qf88L1Z qf88_env mixed qf88L1C qf88L1S qf88L1O id id id id (fun _ => rfl) (fun _ => rfl) hfix hmay (by kernel_rfl) (noLoops (by kernel_rfl)) qf88L1B qf88L1_bd
theorem qf88_bd (y : qf88Y) : @Eq (Option qf88Z) (exec qf88E qf88H qf88C (qf88I.mk' (show qf88I.D from y)) (kontF (Z := qf88Z) qf88E Tryz.f88.results.toList qf88O id)) (qf88F y) := by kernel_rfl
theorem qf88_lo {w0 : World} {Jo : Io} (hfix : ∀ i b, Jo.fix i = some b → i ∈ [0, 1]) (hmay : false = true → Jo.may) : LoopsOk PT w0 Jo qf88H qf88C := (loopsMk (by kernel_rfl) (loopsCons (c := qf88L1C) (n := 4) (f := qf88L1M) (by kernel_rfl) (by kernel_rfl) (qf88L1_ok hfix hmay) loopsNil))
theorem qf88_ctr : CtrOk PT 88 qf88ct :=
  @ctr_ok PT qf88E qf88H qf88_env mixed 88 Tryz.f88 qf88C (by kernel_rfl) (by kernel_rfl) (enters_of (by kernel_rfl : PT.funcs[88]? = some Tryz.f88) (by kernel_rfl) (by kernel_rfl)) qf88I qf88O qf88Y qf88Z id id id id (fun _ => rfl) (fun _ => rfl) (by kernel_rfl) (by kernel_rfl) qf88F qf88_bd (fun w0 Jo hfix hmay => qf88_lo hfix hmay)
noncomputable def qf89 (a0 : Val TOp) (a1 : Val (.slice TPage)) : Option ((Val (.slice (.int .i64))) × (Val (.slice TPage)) × (Val TOut) × Bool) :=
(qf64 a0).bind fun r1 =>
bif (!r1) then (
some ([], [], ((1 : Int), (0 : Int), (-1 : Int), [], [], ()), true))
else (
(qf68 a0 a1).bind fun r2 =>
bif (decide ((0 : Int) < (((List.length r2.2.2.1) : Nat) : Int))) then (
some (r2.2.2.1, [], ((0 : Int), (0 : Int), (0 : Int), [], [], ()), false))
else (
bif (!(decide (r2.2.2.2.2.1 = (0 : Int)))) then (
some ([], [], (r2.2.2.2.2.1, (0 : Int), r2.2.2.2.1, [], [], ()), true))
else (
bif (decide (a0.1 = (1 : Int))) then (
(qf70 r2.1 r2.2.1 a0 r2.2.2.2.2.2.1 r2.2.2.2.2.2.2).bind fun r3 =>
bif (decide (a0.1 = (3 : Int))) then (
bif (!(decide (r3.1.1 = (3 : Int)))) then (
(qf74 r3.2.2.2).bind fun r4 =>
some (r2.2.2.1, r4, (r3.1.1, r3.1.2.1, (-1 : Int), r3.1.2.2.2), true))
else (
(qf74 r3.2.2.2).bind fun r5 =>
some (r2.2.2.1, r5, r3.1, true)))
else (
(qf74 r3.2.2.2).bind fun r6 =>
some (r2.2.2.1, r6, (r3.1.1, r3.1.2.1, (-1 : Int), r3.1.2.2.2), true)))
else (
bif (decide (a0.1 = (2 : Int))) then (
(qf75 r2.1 r2.2.1 a0.2.1 (decide ((Option.getD (lookV r2.2.2.2.2.2.2 a0.2.1) (false, (0 : Int), (0 : Int), (0 : Int), (List.replicate 4 (((0 : Int), (0 : Int), ()), (0 : Int), ())), ())).2.2.2.1 = a0.2.2.1)) r2.2.2.2.2.2.1 r2.2.2.2.2.2.2).bind fun r7 =>
bif (decide (a0.1 = (3 : Int))) then (
bif (!(decide (r7.1.1 = (3 : Int)))) then (
(qf74 r7.2.2.2).bind fun r8 =>
some (r2.2.2.1, r8, (r7.1.1, r7.1.2.1, (-1 : Int), r7.1.2.2.2), true))
else (
(qf74 r7.2.2.2).bind fun r9 =>
some (r2.2.2.1, r9, r7.1, true)))
else (
(qf74 r7.2.2.2).bind fun r10 =>
some (r2.2.2.1, r10, (r7.1.1, r7.1.2.1, (-1 : Int), r7.1.2.2.2), true)))
else (
bif (decide (a0.1 = (6 : Int))) then (
(qf75 r2.1 r2.2.1 a0.2.2.2.2.1 (decide ((Option.getD (lookV r2.2.2.2.2.2.2 a0.2.2.2.2.1) (false, (0 : Int), (0 : Int), (0 : Int), (List.replicate 4 (((0 : Int), (0 : Int), ()), (0 : Int), ())), ())).2.2.2.1 ≤ a0.2.2.1)) r2.2.2.2.2.2.1 r2.2.2.2.2.2.2).bind fun r11 =>
bif (decide (a0.1 = (3 : Int))) then (
bif (!(decide (r11.1.1 = (3 : Int)))) then (
(qf74 r11.2.2.2).bind fun r12 =>
some (r2.2.2.1, r12, (r11.1.1, r11.1.2.1, (-1 : Int), r11.1.2.2.2), true))
else (
(qf74 r11.2.2.2).bind fun r13 =>
some (r2.2.2.1, r13, r11.1, true)))
else (
(qf74 r11.2.2.2).bind fun r14 =>
some (r2.2.2.1, r14, (r11.1.1, r11.1.2.1, (-1 : Int), r11.1.2.2.2), true)))
else (
bif (decide (a0.1 = (3 : Int))) then (
(qf77 r2.1 r2.2.1 a0 r2.2.2.2.2.2.1 r2.2.2.2.2.2.2).bind fun r15 =>
bif (decide (a0.1 = (3 : Int))) then (
bif (!(decide (r15.1.1 = (3 : Int)))) then (
(qf74 r15.2.2.2).bind fun r16 =>
some (r2.2.2.1, r16, (r15.1.1, r15.1.2.1, (-1 : Int), r15.1.2.2.2), true))
else (
(qf74 r15.2.2.2).bind fun r17 =>
some (r2.2.2.1, r17, r15.1, true)))
else (
(qf74 r15.2.2.2).bind fun r18 =>
some (r2.2.2.1, r18, (r15.1.1, r15.1.2.1, (-1 : Int), r15.1.2.2.2), true)))
else (
bif (decide (a0.1 = (4 : Int))) then (
(qf78 r2.1 r2.2.1 a0 r2.2.2.2.2.2.1 r2.2.2.2.2.2.2).bind fun r19 =>
bif (decide (a0.1 = (3 : Int))) then (
bif (!(decide (r19.1.1 = (3 : Int)))) then (
(qf74 r19.2.2.2).bind fun r20 =>
some (r2.2.2.1, r20, (r19.1.1, r19.1.2.1, (-1 : Int), r19.1.2.2.2), true))
else (
(qf74 r19.2.2.2).bind fun r21 =>
some (r2.2.2.1, r21, r19.1, true)))
else (
(qf74 r19.2.2.2).bind fun r22 =>
some (r2.2.2.1, r22, (r19.1.1, r19.1.2.1, (-1 : Int), r19.1.2.2.2), true)))
else (
bif (decide (a0.1 = (5 : Int))) then (
(qf88 r2.1 r2.2.1 a0 a1 r2.2.2.2.2.2.1 r2.2.2.2.2.2.2).bind fun r23 =>
bif r23.2.2.1 then (
bif (decide (a0.1 = (3 : Int))) then (
bif (!(decide (r23.2.1.1 = (3 : Int)))) then (
(qf74 r23.2.2.2.2.2).bind fun r24 =>
some (r23.1, r24, (r23.2.1.1, r23.2.1.2.1, (-1 : Int), r23.2.1.2.2.2), r23.2.2.1))
else (
(qf74 r23.2.2.2.2.2).bind fun r25 =>
some (r23.1, r25, r23.2.1, r23.2.2.1)))
else (
(qf74 r23.2.2.2.2.2).bind fun r26 =>
some (r23.1, r26, (r23.2.1.1, r23.2.1.2.1, (-1 : Int), r23.2.1.2.2.2), r23.2.2.1)))
else (
(qf74 r23.2.2.2.2.2).bind fun r27 =>
some (r23.1, r27, r23.2.1, r23.2.2.1)))
else (
bif (decide (a0.1 = (3 : Int))) then (
none)
else (
none))))))))))
abbrev qf89Z : Type := (Val (.slice (.int .i64))) × (Val (.slice TPage)) × (Val TOut) × Bool
noncomputable def qf89I : Shape := ⟨125, 0, [(0, .dat false TOp), (1, .dat false (.slice TPage))], [], [], true⟩
noncomputable def qf89O : Shape := ⟨126, 0, [(125, .tup (.cons (.dat true (.slice (.int .i64))) (.cons (.dat true (.slice TPage)) (.cons (.dat true TOut) (.cons (.dat true .bool) (.nil))))))], [], [], true⟩
noncomputable def qf89F : ((Val TOp) × (Val (.slice TPage))) → Option qf89Z := fun y => qf89 y.1 y.2
noncomputable def qf89ct : Ctr := ctrOf qf89I qf89O id id qf89F
noncomputable def qf89E : Env := { tf := tfE, mt := mtE, fn := fun f => bif Nat.beq f 82 then some qf64ct else bif Nat.beq f 83 then some qf68ct else bif Nat.beq f 84 then some qf70ct else bif Nat.beq f 89 then some qf74ct else bif Nat.beq f 85 then some qf75ct else bif Nat.beq f 86 then some qf77ct else bif Nat.beq f 87 then some qf78ct else bif Nat.beq f 88 then some qf88ct else none }
theorem qf89_env : EnvOk PT qf89E := ⟨tyE, (fun f ct h => by
  simp only [qf89E] at h
  refine envCons (c := qf64ct) h qf64_ctr (fun h => ?_)
  refine envCons (c := qf68ct) h qf68_ctr (fun h => ?_)
  refine envCons (c := qf70ct) h qf70_ctr (fun h => ?_)
  refine envCons (c := qf74ct) h qf74_ctr (fun h => ?_)
  refine envCons (c := qf75ct) h qf75_ctr (fun h => ?_)
  refine envCons (c := qf77ct) h qf77_ctr (fun h => ?_)
  refine envCons (c := qf78ct) h qf78_ctr (fun h => ?_)
  refine envCons (c := qf88ct) h qf88_ctr (fun h => ?_)
  cases h), mapE⟩
noncomputable def qf89C : Code := bodyOf Tryz.f35
theorem qf89_bd (y : (Val TOp) × (Val (.slice TPage))) : @Eq (Option qf89Z) (exec qf89E qf0H qf89C (qf89I.mk' (show qf89I.D from y)) (kontF (Z := qf89Z) qf89E Tryz.f35.results.toList qf89O id)) (qf89F y) := by kernel_rfl
theorem qf89_ctr : CtrOk PT 35 qf89ct :=
  @ctr_ok PT qf89E qf0H qf89_env mixed 35 Tryz.f35 qf89C (by kernel_rfl) (by kernel_rfl) (enters_of (by kernel_rfl : PT.funcs[35]? = some Tryz.f35) (by kernel_rfl) (by kernel_rfl)) qf89I qf89O ((Val TOp) × (Val (.slice TPage))) qf89Z id id id id (fun _ => rfl) (fun _ => rfl) (by kernel_rfl) (by kernel_rfl) qf89F qf89_bd (fun _ _ _ _ => noLoops (by kernel_rfl))
noncomputable def qf90 (a0 : Val TOp) (a1 : Val (.arr 6 (.int .i64))) (a2 : Int) (a3 : Int) (a4 : Int) (a5 : Val (.pair (.int .i64) THead)) (a6 : Val (.slice TPage)) (a7 : Val (.slice (.int .i64))) (a8 : Val (.slice TPtr)) (a9 : Val (.slice .bool)) : Option ((Val TOut) × Bool × (Val (.arr 6 (.int .i64))) × Int × Int × Int × (Val (.pair (.int .i64) THead)) × (Val (.slice TPage)) × (Val (.slice (.int .i64))) × (Val (.slice TPtr)) × (Val (.slice .bool))) :=
(qf89 a0 a6).bind fun r1 =>
bif (!r1.2.2.2) then (
some (r1.2.2.1, false, a1, a2, a3, a4, a5, a6, a7, a8, a9))
else (
bif (decide ((0 : Int) < (((List.length r1.1) : Nat) : Int))) then (
some (r1.2.2.1, false, a1, a2, a3, a4, a5, a6, a7, a8, a9))
else (
bif (!(decide (r1.2.2.1.1 = (0 : Int)))) then (
bif (decide ((0 : Int) < (((List.length r1.2.1) : Nat) : Int))) then (
some (r1.2.2.1, false, a1, a2, a3, a4, a5, a6, a7, a8, a9))
else (
(qf49 r1.2.1 a3 a4 a5 a6).bind fun r2 =>
some (r1.2.2.1, true, a1, a2, r2.1, r2.2.1, r2.2.2.1, r2.2.2.2, a7, a8, a9)))
else (
(qf49 r1.2.1 a3 a4 a5 a6).bind fun r3 =>
some (r1.2.2.1, true, a1, a2, r3.1, r3.2.1, r3.2.2.1, r3.2.2.2, a7, a8, a9))))
abbrev qf90Y : Type := (Val TOp) × (Val (.arr 6 (.int .i64))) × Int × Int × Int × (Val (.pair (.int .i64) THead)) × (Val (.slice TPage)) × (Val (.slice (.int .i64))) × (Val (.slice TPtr)) × (Val (.slice .bool))
abbrev qf90Z : Type := (Val TOut) × Bool × (Val (.arr 6 (.int .i64))) × Int × Int × Int × (Val (.pair (.int .i64) THead)) × (Val (.slice TPage)) × (Val (.slice (.int .i64))) × (Val (.slice TPtr)) × (Val (.slice .bool))
noncomputable def qf90I : Shape := ⟨49, 6, [(0, .ref 0 []), (1, .dat false TOp)], [(0, .box (.pair (.cell .ptr) (.pair (.arr 6 (.int .i64)) (.pair (.slice (.int .i64)) (.pair (.slice TPtr) (.pair (.slice .bool) (.pair (.int .i64) .unit)))))) (.cons (.ref 1 []) (.cons (.dat false (.arr 6 (.int .i64))) (.cons (.own (.int .i64) 3) (.cons (.own TPtr 4) (.cons (.own .bool 5) (.cons (.dat false (.int .i64)) (.nil)))))))), (1, .box TStore (.cons (.own TPage 2) (.cons (.dat false (.int .i64)) (.cons (.dat false (.int .i64)) (.cons (.nils) (.cons (.dat false (.pair (.int .i64) THead)) (.nil))))))), (2, .slc false TPage), (3, .slc false (.int .i64)), (4, .slc false TPtr), (5, .slc false .bool)], [0, 1, 2, 3, 4, 5], false⟩
noncomputable def qf90O : Shape := ⟨50, 6, [(49, .tup (.cons (.dat true TOut) (.cons (.dat true .bool) (.nil))))], [(0, .box (.pair (.cell .ptr) (.pair (.arr 6 (.int .i64)) (.pair (.slice (.int .i64)) (.pair (.slice TPtr) (.pair (.slice .bool) (.pair (.int .i64) .unit)))))) (.cons (.ref 1 []) (.cons (.dat false (.arr 6 (.int .i64))) (.cons (.own (.int .i64) 3) (.cons (.own TPtr 4) (.cons (.own .bool 5) (.cons (.dat false (.int .i64)) (.nil)))))))), (1, .box TStore (.cons (.own TPage 2) (.cons (.dat false (.int .i64)) (.cons (.dat false (.int .i64)) (.cons (.nils) (.cons (.dat false (.pair (.int .i64) THead)) (.nil))))))), (2, .slc false TPage), (3, .slc false (.int .i64)), (4, .slc false TPtr), (5, .slc false .bool)], [0, 1, 2, 3, 4, 5], false⟩
noncomputable def qf90F : qf90Y → Option qf90Z := fun y => qf90 y.1 y.2.1 y.2.2.1 y.2.2.2.1 y.2.2.2.2.1 y.2.2.2.2.2.1 y.2.2.2.2.2.2.1 y.2.2.2.2.2.2.2.1 y.2.2.2.2.2.2.2.2.1 y.2.2.2.2.2.2.2.2.2
noncomputable def qf90ct : Ctr := ctrOf qf90I qf90O id id qf90F
noncomputable def qf90E : Env := { tf := tfE, mt := mtE, fn := fun f => bif Nat.beq f 35 then some qf89ct else bif Nat.beq f 26 then some qf49ct else none }
theorem qf90_env : EnvOk PT qf90E := ⟨tyE, (fun f ct h => by
  simp only [qf90E] at h
  refine envCons (c := qf89ct) h qf89_ctr (fun h => ?_)
  refine envCons (c := qf49ct) h qf49_ctr (fun h => ?_)
  cases h), mapE⟩
noncomputable def qf90C : Code := bodyOf Tryz.f102
theorem qf90_bd (y : qf90Y) : @Eq (Option qf90Z) (exec qf90E qf0H qf90C (qf90I.mk' (show qf90I.D from y)) (kontF (Z := qf90Z) qf90E Tryz.f102.results.toList qf90O id)) (qf90F y) := by kernel_rfl
theorem qf90_ctr : CtrOk PT 102 qf90ct :=
  @ctr_ok PT qf90E qf0H qf90_env mixed 102 Tryz.f102 qf90C (by kernel_rfl) (by kernel_rfl) (enters_of (by kernel_rfl : PT.funcs[102]? = some Tryz.f102) (by kernel_rfl) (by kernel_rfl)) qf90I qf90O qf90Y qf90Z id id id id (fun _ => rfl) (fun _ => rfl) (by kernel_rfl) (by kernel_rfl) qf90F qf90_bd (fun _ _ _ _ => noLoops (by kernel_rfl))
noncomputable def qf91L1b (x0 : Bool) (x1 : Int) (x2 : Val (.arr 6 (.int .i64))) (x3 : Int) (x4 : Int) (x5 : Int) (x6 : Val (.pair (.int .i64) THead)) (x7 : Val (.slice TPage)) (x8 : Val (.slice (.int .i64))) (x9 : Val (.slice TPtr)) (x10 : Val (.slice .bool)) (x11 : Val TOut) : Option ((Bool × Int × (Val (.arr 6 (.int .i64))) × Int × Int × Int × (Val (.pair (.int .i64) THead)) × (Val (.slice TPage)) × (Val (.slice (.int .i64))) × (Val (.slice TPtr)) × (Val (.slice .bool)) × (Val TOut)) ⊕ ((Bool × (Val (.arr 6 (.int .i64))) × Int × Int × Int × (Val (.pair (.int .i64) THead)) × (Val (.slice TPage)) × (Val (.slice (.int .i64))) × (Val (.slice TPtr)) × (Val (.slice .bool)) × (Val TOut)) ⊕ (Bool × (Val (.arr 6 (.int .i64))) × Int × Int × Int × (Val (.pair (.int .i64) THead)) × (Val (.slice TPage)) × (Val (.slice (.int .i64))) × (Val (.slice TPtr)) × (Val (.slice .bool))))) :=
bif (decide (x1 < (6 : Int))) then (
bif (inR x1 6) then
bif (decide ((0 : Int) < (List.getD x2 (Int.toNat x1) (0 : Int)))) then (
bif (inR x1 6) then
bif (!(decide ((IntKind.wrap .i64 ((List.getD x2 (Int.toNat x1) (0 : Int)) - (1 : Int))) = x3))) then (
bif x0 then (
bif (decide (x11.1 = (3 : Int))) then (
some (Sum.inr (Sum.inr ((decide (x11.2.2.1 = x1)), x2, x3, x4, x5, x6, x7, x8, x9, x10))))
else (
some (Sum.inr (Sum.inr (false, x2, x3, x4, x5, x6, x7, x8, x9, x10)))))
else (
some (Sum.inr (Sum.inr (false, x2, x3, x4, x5, x6, x7, x8, x9, x10)))))
else (
some (Sum.inl (x0, (IntKind.wrap .i64 (x1 + (1 : Int))), x2, x3, x4, x5, x6, x7, x8, x9, x10, x11)))
else none)
else (
some (Sum.inl (x0, (IntKind.wrap .i64 (x1 + (1 : Int))), x2, x3, x4, x5, x6, x7, x8, x9, x10, x11)))
else none)
else (
some (Sum.inr (Sum.inl (x0, x2, x3, x4, x5, x6, x7, x8, x9, x10, x11))))
noncomputable def qf91L1B : (Bool × Int × (Val (.arr 6 (.int .i64))) × Int × Int × Int × (Val (.pair (.int .i64) THead)) × (Val (.slice TPage)) × (Val (.slice (.int .i64))) × (Val (.slice TPtr)) × (Val (.slice .bool)) × (Val TOut)) → Option ((Bool × Int × (Val (.arr 6 (.int .i64))) × Int × Int × Int × (Val (.pair (.int .i64) THead)) × (Val (.slice TPage)) × (Val (.slice (.int .i64))) × (Val (.slice TPtr)) × (Val (.slice .bool)) × (Val TOut)) ⊕ ((Bool × (Val (.arr 6 (.int .i64))) × Int × Int × Int × (Val (.pair (.int .i64) THead)) × (Val (.slice TPage)) × (Val (.slice (.int .i64))) × (Val (.slice TPtr)) × (Val (.slice .bool)) × (Val TOut)) ⊕ (Bool × (Val (.arr 6 (.int .i64))) × Int × Int × Int × (Val (.pair (.int .i64) THead)) × (Val (.slice TPage)) × (Val (.slice (.int .i64))) × (Val (.slice TPtr)) × (Val (.slice .bool))))) := fun y => qf91L1b y.1 y.2.1 y.2.2.1 y.2.2.2.1 y.2.2.2.2.1 y.2.2.2.2.2.1 y.2.2.2.2.2.2.1 y.2.2.2.2.2.2.2.1 y.2.2.2.2.2.2.2.2.1 y.2.2.2.2.2.2.2.2.2.1 y.2.2.2.2.2.2.2.2.2.2.1 y.2.2.2.2.2.2.2.2.2.2.2
noncomputable def qf91L1 (x0 : Bool) (x1 : Int) (x2 : Val (.arr 6 (.int .i64))) (x3 : Int) (x4 : Int) (x5 : Int) (x6 : Val (.pair (.int .i64) THead)) (x7 : Val (.slice TPage)) (x8 : Val (.slice (.int .i64))) (x9 : Val (.slice TPtr)) (x10 : Val (.slice .bool)) (x11 : Val TOut) : Option ((Bool × (Val (.arr 6 (.int .i64))) × Int × Int × Int × (Val (.pair (.int .i64) THead)) × (Val (.slice TPage)) × (Val (.slice (.int .i64))) × (Val (.slice TPtr)) × (Val (.slice .bool)) × (Val TOut)) ⊕ (Bool × (Val (.arr 6 (.int .i64))) × Int × Int × Int × (Val (.pair (.int .i64) THead)) × (Val (.slice TPage)) × (Val (.slice (.int .i64))) × (Val (.slice TPtr)) × (Val (.slice .bool)))) := iter qf91L1B (x0, x1, x2, x3, x4, x5, x6, x7, x8, x9, x10, x11)
noncomputable def qf91L2b (x0 : Int) (x1 : Bool) (x2 : Int) (x3 : Val (.arr 6 (.int .i64))) (x4 : Int) (x5 : Int) (x6 : Int) (x7 : Val (.pair (.int .i64) THead)) (x8 : Val (.slice TPage)) (x9 : Val (.slice (.int .i64))) (x10 : Val (.slice TPtr)) (x11 : Val (.slice .bool)) (x12 : Val TOut) : Option ((Int × Bool × Int × (Val (.arr 6 (.int .i64))) × Int × Int × Int × (Val (.pair (.int .i64) THead)) × (Val (.slice TPage)) × (Val (.slice (.int .i64))) × (Val (.slice TPtr)) × (Val (.slice .bool)) × (Val TOut)) ⊕ (Int × Bool × (Val (.arr 6 (.int .i64))) × Int × Int × Int × (Val (.pair (.int .i64) THead)) × (Val (.slice TPage)) × (Val (.slice (.int .i64))) × (Val (.slice TPtr)) × (Val (.slice .bool)) × (Val TOut))) :=
bif (decide (x2 < (((List.length x10) : Nat) : Int))) then (
bif (inR x2 (List.length x10)) then
bif (inR x0 (List.length x12.2.2.2.1)) then
bif (eqV TPtr (List.getD x10 (Int.toNat x2) ((0 : Int), (0 : Int), ())) (List.getD x12.2.2.2.1 (Int.toNat x0) ((0 : Int), (0 : Int), ()))) then (
bif (inR x2 (List.length x11)) then
bif (!(List.getD x11 (Int.toNat x2) false)) then (
bif (inR x2 (List.length x9)) then
bif (decide ((0 : Int) ≤ (List.getD x9 (Int.toNat x2) (0 : Int)))) then (
bif (inR x2 (List.length x9)) then
bif (inR x2 (List.length x11)) then
some (Sum.inl (x0, (decide ((IntKind.wrap .i64 ((List.getD x9 (Int.toNat x2) (0 : Int)) + (2 : Int))) ≤ x4)), (IntKind.wrap .i64 (x2 + (1 : Int))), x3, x4, x5, x6, x7, x8, x9, x10, (List.set x11 (Int.toNat x2) true), x12))
else none
else none)
else (
bif (inR x2 (List.length x11)) then
some (Sum.inl (x0, false, (IntKind.wrap .i64 (x2 + (1 : Int))), x3, x4, x5, x6, x7, x8, x9, x10, (List.set x11 (Int.toNat x2) true), x12))
else none)
else none)
else (
bif (inR x2 (List.length x11)) then
some (Sum.inl (x0, false, (IntKind.wrap .i64 (x2 + (1 : Int))), x3, x4, x5, x6, x7, x8, x9, x10, (List.set x11 (Int.toNat x2) true), x12))
else none)
else none)
else (
some (Sum.inl (x0, x1, (IntKind.wrap .i64 (x2 + (1 : Int))), x3, x4, x5, x6, x7, x8, x9, x10, x11, x12)))
else none
else none)
else (
some (Sum.inr (x0, x1, x3, x4, x5, x6, x7, x8, x9, x10, x11, x12)))
noncomputable def qf91L2B : (Int × Bool × Int × (Val (.arr 6 (.int .i64))) × Int × Int × Int × (Val (.pair (.int .i64) THead)) × (Val (.slice TPage)) × (Val (.slice (.int .i64))) × (Val (.slice TPtr)) × (Val (.slice .bool)) × (Val TOut)) → Option ((Int × Bool × Int × (Val (.arr 6 (.int .i64))) × Int × Int × Int × (Val (.pair (.int .i64) THead)) × (Val (.slice TPage)) × (Val (.slice (.int .i64))) × (Val (.slice TPtr)) × (Val (.slice .bool)) × (Val TOut)) ⊕ (Int × Bool × (Val (.arr 6 (.int .i64))) × Int × Int × Int × (Val (.pair (.int .i64) THead)) × (Val (.slice TPage)) × (Val (.slice (.int .i64))) × (Val (.slice TPtr)) × (Val (.slice .bool)) × (Val TOut))) := fun y => qf91L2b y.1 y.2.1 y.2.2.1 y.2.2.2.1 y.2.2.2.2.1 y.2.2.2.2.2.1 y.2.2.2.2.2.2.1 y.2.2.2.2.2.2.2.1 y.2.2.2.2.2.2.2.2.1 y.2.2.2.2.2.2.2.2.2.1 y.2.2.2.2.2.2.2.2.2.2.1 y.2.2.2.2.2.2.2.2.2.2.2.1 y.2.2.2.2.2.2.2.2.2.2.2.2
noncomputable def qf91L2 (x0 : Int) (x1 : Bool) (x2 : Int) (x3 : Val (.arr 6 (.int .i64))) (x4 : Int) (x5 : Int) (x6 : Int) (x7 : Val (.pair (.int .i64) THead)) (x8 : Val (.slice TPage)) (x9 : Val (.slice (.int .i64))) (x10 : Val (.slice TPtr)) (x11 : Val (.slice .bool)) (x12 : Val TOut) : Option (Int × Bool × (Val (.arr 6 (.int .i64))) × Int × Int × Int × (Val (.pair (.int .i64) THead)) × (Val (.slice TPage)) × (Val (.slice (.int .i64))) × (Val (.slice TPtr)) × (Val (.slice .bool)) × (Val TOut)) := iter qf91L2B (x0, x1, x2, x3, x4, x5, x6, x7, x8, x9, x10, x11, x12)
noncomputable def qf91L3b (x0 : Int) (x1 : Val (.arr 6 (.int .i64))) (x2 : Int) (x3 : Int) (x4 : Int) (x5 : Val (.pair (.int .i64) THead)) (x6 : Val (.slice TPage)) (x7 : Val (.slice (.int .i64))) (x8 : Val (.slice TPtr)) (x9 : Val (.slice .bool)) (x10 : Val TOut) : Option ((Int × (Val (.arr 6 (.int .i64))) × Int × Int × Int × (Val (.pair (.int .i64) THead)) × (Val (.slice TPage)) × (Val (.slice (.int .i64))) × (Val (.slice TPtr)) × (Val (.slice .bool)) × (Val TOut)) ⊕ (((Val (.arr 6 (.int .i64))) × Int × Int × Int × (Val (.pair (.int .i64) THead)) × (Val (.slice TPage)) × (Val (.slice (.int .i64))) × (Val (.slice TPtr)) × (Val (.slice .bool))) ⊕ (Bool × (Val (.arr 6 (.int .i64))) × Int × Int × Int × (Val (.pair (.int .i64) THead)) × (Val (.slice TPage)) × (Val (.slice (.int .i64))) × (Val (.slice TPtr)) × (Val (.slice .bool))))) :=
bif (decide (x0 < (((List.length x10.2.2.2.1) : Nat) : Int))) then (
(qf91L2 x0 false (0 : Int) x1 x2 x3 x4 x5 x6 x7 x8 x9 x10).bind fun r1 =>
bif (!r1.2.1) then (
some (Sum.inr (Sum.inr (false, r1.2.2.1, r1.2.2.2.1, r1.2.2.2.2.1, r1.2.2.2.2.2.1, r1.2.2.2.2.2.2.1, r1.2.2.2.2.2.2.2.1, r1.2.2.2.2.2.2.2.2.1, r1.2.2.2.2.2.2.2.2.2.1, r1.2.2.2.2.2.2.2.2.2.2.1))))
else (
some (Sum.inl ((IntKind.wrap .i64 (r1.1 + (1 : Int))), r1.2.2))))
else (
some (Sum.inr (Sum.inl (x1, x2, x3, x4, x5, x6, x7, x8, x9))))
noncomputable def qf91L3B : (Int × (Val (.arr 6 (.int .i64))) × Int × Int × Int × (Val (.pair (.int .i64) THead)) × (Val (.slice TPage)) × (Val (.slice (.int .i64))) × (Val (.slice TPtr)) × (Val (.slice .bool)) × (Val TOut)) → Option ((Int × (Val (.arr 6 (.int .i64))) × Int × Int × Int × (Val (.pair (.int .i64) THead)) × (Val (.slice TPage)) × (Val (.slice (.int .i64))) × (Val (.slice TPtr)) × (Val (.slice .bool)) × (Val TOut)) ⊕ (((Val (.arr 6 (.int .i64))) × Int × Int × Int × (Val (.pair (.int .i64) THead)) × (Val (.slice TPage)) × (Val (.slice (.int .i64))) × (Val (.slice TPtr)) × (Val (.slice .bool))) ⊕ (Bool × (Val (.arr 6 (.int .i64))) × Int × Int × Int × (Val (.pair (.int .i64) THead)) × (Val (.slice TPage)) × (Val (.slice (.int .i64))) × (Val (.slice TPtr)) × (Val (.slice .bool))))) := fun y => qf91L3b y.1 y.2.1 y.2.2.1 y.2.2.2.1 y.2.2.2.2.1 y.2.2.2.2.2.1 y.2.2.2.2.2.2.1 y.2.2.2.2.2.2.2.1 y.2.2.2.2.2.2.2.2.1 y.2.2.2.2.2.2.2.2.2.1 y.2.2.2.2.2.2.2.2.2.2
noncomputable def qf91L3 (x0 : Int) (x1 : Val (.arr 6 (.int .i64))) (x2 : Int) (x3 : Int) (x4 : Int) (x5 : Val (.pair (.int .i64) THead)) (x6 : Val (.slice TPage)) (x7 : Val (.slice (.int .i64))) (x8 : Val (.slice TPtr)) (x9 : Val (.slice .bool)) (x10 : Val TOut) : Option (((Val (.arr 6 (.int .i64))) × Int × Int × Int × (Val (.pair (.int .i64) THead)) × (Val (.slice TPage)) × (Val (.slice (.int .i64))) × (Val (.slice TPtr)) × (Val (.slice .bool))) ⊕ (Bool × (Val (.arr 6 (.int .i64))) × Int × Int × Int × (Val (.pair (.int .i64) THead)) × (Val (.slice TPage)) × (Val (.slice (.int .i64))) × (Val (.slice TPtr)) × (Val (.slice .bool)))) := iter qf91L3B (x0, x1, x2, x3, x4, x5, x6, x7, x8, x9, x10)
noncomputable def qf91 (a0 : Val TReq) (a1 : Int) (a2 : Val (.arr 6 (.int .i64))) (a3 : Int) (a4 : Int) (a5 : Int) (a6 : Val (.pair (.int .i64) THead)) (a7 : Val (.slice TPage)) (a8 : Val (.slice (.int .i64))) (a9 : Val (.slice TPtr)) (a10 : Val (.slice .bool)) : Option (Bool × (Val (.arr 6 (.int .i64))) × Int × Int × Int × (Val (.pair (.int .i64) THead)) × (Val (.slice TPage)) × (Val (.slice (.int .i64))) × (Val (.slice TPtr)) × (Val (.slice .bool))) :=
(qf2 a0.2.1 (6 : Int)).bind fun r1 =>
(qf2 a0.2.2.1 (6 : Int)).bind fun r2 =>
(qf2 a0.1 (8 : Int)).bind fun r3 =>
bif (decide (r3 = (0 : Int))) then (
(qf90 ((1 : Int), r1, (1 : Int), (0 : Int), (0 : Int), [], ()) a2 a3 a4 a5 a6 a7 a8 a9 a10).bind fun r4 =>
bif (inR r1 6) then
bif (decide ((0 : Int) < (List.getD r4.2.2.1 (Int.toNat r1) (0 : Int)))) then (
bif r4.2.1 then (
some ((decide (r4.1.1 = (17 : Int))), r4.2.2))
else (
some (false, r4.2.2)))
else (
bif (inR r1 6) then
bif r4.2.1 then (
bif (decide (r4.1.1 = (0 : Int))) then (
some ((decide ((IntKind.wrap .i64 r4.1.2.1) = r4.2.2.2.1)), (List.set r4.2.2.1 (Int.toNat r1) (IntKind.wrap .i64 (r4.2.2.2.1 + (1 : Int)))), r4.2.2.2))
else (
some (false, (List.set r4.2.2.1 (Int.toNat r1) (IntKind.wrap .i64 (r4.2.2.2.1 + (1 : Int)))), r4.2.2.2)))
else (
some (false, (List.set r4.2.2.1 (Int.toNat r1) (IntKind.wrap .i64 (r4.2.2.2.1 + (1 : Int)))), r4.2.2.2))
else none)
else none)
else (
bif (decide (r3 = (1 : Int))) then (
bif (decide (r3 = (1 : Int))) then (
(qf2 a0.1 (8 : Int)).bind fun r5 =>
bif (decide (r5 = (7 : Int))) then (
(qf90 ((6 : Int), r2, (2 : Int), (0 : Int), r1, [], ()) a2 a3 a4 a5 a6 a7 a8 a9 a10).bind fun r6 =>
bif (inR r1 6) then
bif (decide ((List.getD r6.2.2.1 (Int.toNat r1) (0 : Int)) = (0 : Int))) then (
bif r6.2.1 then (
some ((decide (r6.1.1 = (16 : Int))), r6.2.2))
else (
some (false, r6.2.2)))
else (
bif (inR r1 6) then
bif (inR r1 6) then
bif r6.2.1 then (
bif (decide (r6.1.1 = (0 : Int))) then (
some ((decide ((IntKind.wrap .i64 r6.1.2.1) = (IntKind.wrap .i64 ((List.getD r6.2.2.1 (Int.toNat r1) (0 : Int)) - (1 : Int))))), (List.set r6.2.2.1 (Int.toNat r1) (0 : Int)), r6.2.2.2))
else (
some (false, (List.set r6.2.2.1 (Int.toNat r1) (0 : Int)), r6.2.2.2)))
else (
some (false, (List.set r6.2.2.1 (Int.toNat r1) (0 : Int)), r6.2.2.2))
else none
else none)
else none)
else (
(qf90 ((2 : Int), r1, (1 : Int), (0 : Int), (0 : Int), [], ()) a2 a3 a4 a5 a6 a7 a8 a9 a10).bind fun r7 =>
bif (inR r1 6) then
bif (decide ((List.getD r7.2.2.1 (Int.toNat r1) (0 : Int)) = (0 : Int))) then (
bif r7.2.1 then (
some ((decide (r7.1.1 = (16 : Int))), r7.2.2))
else (
some (false, r7.2.2)))
else (
bif (inR r1 6) then
bif (inR r1 6) then
bif r7.2.1 then (
bif (decide (r7.1.1 = (0 : Int))) then (
some ((decide ((IntKind.wrap .i64 r7.1.2.1) = (IntKind.wrap .i64 ((List.getD r7.2.2.1 (Int.toNat r1) (0 : Int)) - (1 : Int))))), (List.set r7.2.2.1 (Int.toNat r1) (0 : Int)), r7.2.2.2))
else (
some (false, (List.set r7.2.2.1 (Int.toNat r1) (0 : Int)), r7.2.2.2)))
else (
some (false, (List.set r7.2.2.1 (Int.toNat r1) (0 : Int)), r7.2.2.2))
else none
else none)
else none))
else (
bif (decide (r3 = (2 : Int))) then (
bif (decide (r3 = (2 : Int))) then (
(qf90 ((3 : Int), r1, (0 : Int), (0 : Int), (0 : Int), [], ()) a2 a3 a4 a5 a6 a7 a8 a9 a10).bind fun r8 =>
(qf91L1 r8.2.1 (0 : Int) r8.2.2.1 r8.2.2.2.1 r8.2.2.2.2.1 r8.2.2.2.2.2.1 r8.2.2.2.2.2.2.1 r8.2.2.2.2.2.2.2.1 r8.2.2.2.2.2.2.2.2.1 r8.2.2.2.2.2.2.2.2.2.1 r8.2.2.2.2.2.2.2.2.2.2 r8.1).bind fun r9 =>
match r9 with
| .inl r10 => (
bif r10.1 then (
bif (decide (r10.2.2.2.2.2.2.2.2.2.2.1 = (0 : Int))) then (
some ((decide ((IntKind.wrap .i64 r10.2.2.2.2.2.2.2.2.2.2.2.1) = (IntKind.wrap .i64 (r10.2.2.1 + (1 : Int))))), r10.2.1, (IntKind.wrap .i64 (r10.2.2.1 + (1 : Int))), r10.2.2.2.1, r10.2.2.2.2.1, r10.2.2.2.2.2.1, r10.2.2.2.2.2.2.1, r10.2.2.2.2.2.2.2.1, r10.2.2.2.2.2.2.2.2.1, r10.2.2.2.2.2.2.2.2.2.1))
else (
some (false, r10.2.1, (IntKind.wrap .i64 (r10.2.2.1 + (1 : Int))), r10.2.2.2.1, r10.2.2.2.2.1, r10.2.2.2.2.2.1, r10.2.2.2.2.2.2.1, r10.2.2.2.2.2.2.2.1, r10.2.2.2.2.2.2.2.2.1, r10.2.2.2.2.2.2.2.2.2.1)))
else (
some (false, r10.2.1, (IntKind.wrap .i64 (r10.2.2.1 + (1 : Int))), r10.2.2.2.1, r10.2.2.2.2.1, r10.2.2.2.2.2.1, r10.2.2.2.2.2.2.1, r10.2.2.2.2.2.2.2.1, r10.2.2.2.2.2.2.2.2.1, r10.2.2.2.2.2.2.2.2.2.1)))
| .inr r11 => (
some r11))
else (
bif (decide (r3 = (4 : Int))) then (
bif (decide (r3 = (4 : Int))) then (
bif (!(decide ((((List.length a9) : Nat) : Int) = (0 : Int)))) then
bif (inR (Int.tmod a1 (((List.length a9) : Nat) : Int)) (List.length a8)) then
bif (decide ((0 : Int) ≤ (List.getD a8 (Int.toNat (Int.tmod a1 (((List.length a9) : Nat) : Int))) (0 : Int)))) then (
some (true, a2, a3, a4, a5, a6, a7, a8, a9, a10))
else (
bif (inR (Int.tmod a1 (((List.length a9) : Nat) : Int)) (List.length a10)) then
bif (List.getD a10 (Int.toNat (Int.tmod a1 (((List.length a9) : Nat) : Int))) false) then (
some (true, a2, a3, a4, a5, a6, a7, a8, a9, a10))
else (
bif (inR (Int.tmod a1 (((List.length a9) : Nat) : Int)) (List.length a9)) then
(qf90 ((4 : Int), r1, (0 : Int), (0 : Int), (0 : Int), [(List.getD a9 (Int.toNat (Int.tmod a1 (((List.length a9) : Nat) : Int))) ((0 : Int), (0 : Int), ()))], ()) a2 a3 a4 a5 a6 a7 a8 a9 a10).bind fun r12 =>
bif r12.2.1 then (
bif (decide (r12.1.1 = (0 : Int))) then (
bif (inR (Int.tmod a1 (((List.length a9) : Nat) : Int)) (List.length r12.2.2.2.2.2.2.2.2.1)) then
some (true, r12.2.2.1, r12.2.2.2.1, r12.2.2.2.2.1, r12.2.2.2.2.2.1, r12.2.2.2.2.2.2.1, r12.2.2.2.2.2.2.2.1, (List.set r12.2.2.2.2.2.2.2.2.1 (Int.toNat (Int.tmod a1 (((List.length a9) : Nat) : Int))) r12.2.2.2.1), r12.2.2.2.2.2.2.2.2.2)
else none)
else (
bif r12.2.1 then (
some ((decide (r12.1.1 = (12 : Int))), r12.2.2))
else (
some (false, r12.2.2))))
else (
bif r12.2.1 then (
some ((decide (r12.1.1 = (12 : Int))), r12.2.2))
else (
some (false, r12.2.2)))
else none)
else none)
else none
else none)
else (
(qf90 ((5 : Int), r1, (0 : Int), a4, r2, [], ()) a2 a3 a4 a5 a6 a7 a8 a9 a10).bind fun r13 =>
bif (!r13.2.1) then (
bif r13.2.1 then (
bif (decide (r13.1.1 = (16 : Int))) then (
some ((decide ((((List.length r13.1.2.2.2.1) : Nat) : Int) = (0 : Int))), r13.2.2))
else (
some (false, r13.2.2)))
else (
some (false, r13.2.2)))
else (
bif (!(decide (r13.1.1 = (0 : Int)))) then (
bif r13.2.1 then (
bif (decide (r13.1.1 = (16 : Int))) then (
some ((decide ((((List.length r13.1.2.2.2.1) : Nat) : Int) = (0 : Int))), r13.2.2))
else (
some (false, r13.2.2)))
else (
some (false, r13.2.2)))
else (
bif (decide ((((List.length r13.1.2.2.2.1) : Nat) : Int) = (0 : Int))) then (
some (false, r13.2.2))
else (
bif (decide ((2 : Int) < (((List.length r13.1.2.2.2.1) : Nat) : Int))) then (
some (false, r13.2.2))
else (
(qf91L3 (0 : Int) r13.2.2.1 r13.2.2.2.1 r13.2.2.2.2.1 r13.2.2.2.2.2.1 r13.2.2.2.2.2.2.1 r13.2.2.2.2.2.2.2.1 r13.2.2.2.2.2.2.2.2.1 r13.2.2.2.2.2.2.2.2.2.1 r13.2.2.2.2.2.2.2.2.2.2 r13.1).bind fun r14 =>
match r14 with
| .inl r15 => (
some (true, r15))
| .inr r16 => (
some r16)))))))
else (
bif (decide (r3 = (5 : Int))) then (
bif (!(decide ((((List.length a9) : Nat) : Int) = (0 : Int)))) then
bif (inR (Int.tmod a1 (((List.length a9) : Nat) : Int)) (List.length a8)) then
bif (decide ((0 : Int) ≤ (List.getD a8 (Int.toNat (Int.tmod a1 (((List.length a9) : Nat) : Int))) (0 : Int)))) then (
some (true, a2, a3, a4, a5, a6, a7, a8, a9, a10))
else (
bif (inR (Int.tmod a1 (((List.length a9) : Nat) : Int)) (List.length a10)) then
bif (List.getD a10 (Int.toNat (Int.tmod a1 (((List.length a9) : Nat) : Int))) false) then (
some (true, a2, a3, a4, a5, a6, a7, a8, a9, a10))
else (
bif (inR (Int.tmod a1 (((List.length a9) : Nat) : Int)) (List.length a9)) then
(qf90 ((4 : Int), r1, (0 : Int), (0 : Int), (0 : Int), [(List.getD a9 (Int.toNat (Int.tmod a1 (((List.length a9) : Nat) : Int))) ((0 : Int), (0 : Int), ()))], ()) a2 a3 a4 a5 a6 a7 a8 a9 a10).bind fun r17 =>
bif r17.2.1 then (
bif (decide (r17.1.1 = (0 : Int))) then (
bif (inR (Int.tmod a1 (((List.length a9) : Nat) : Int)) (List.length r17.2.2.2.2.2.2.2.2.1)) then
some (true, r17.2.2.1, r17.2.2.2.1, r17.2.2.2.2.1, r17.2.2.2.2.2.1, r17.2.2.2.2.2.2.1, r17.2.2.2.2.2.2.2.1, (List.set r17.2.2.2.2.2.2.2.2.1 (Int.toNat (Int.tmod a1 (((List.length a9) : Nat) : Int))) r17.2.2.2.1), r17.2.2.2.2.2.2.2.2.2)
else none)
else (
bif r17.2.1 then (
some ((decide (r17.1.1 = (12 : Int))), r17.2.2))
else (
some (false, r17.2.2))))
else (
bif r17.2.1 then (
some ((decide (r17.1.1 = (12 : Int))), r17.2.2))
else (
some (false, r17.2.2)))
else none)
else none)
else none
else none)
else (
(qf90 ((5 : Int), r1, (0 : Int), a4, r2, [], ()) a2 a3 a4 a5 a6 a7 a8 a9 a10).bind fun r18 =>
bif (!r18.2.1) then (
bif r18.2.1 then (
bif (decide (r18.1.1 = (16 : Int))) then (
some ((decide ((((List.length r18.1.2.2.2.1) : Nat) : Int) = (0 : Int))), r18.2.2))
else (
some (false, r18.2.2)))
else (
some (false, r18.2.2)))
else (
bif (!(decide (r18.1.1 = (0 : Int)))) then (
bif r18.2.1 then (
bif (decide (r18.1.1 = (16 : Int))) then (
some ((decide ((((List.length r18.1.2.2.2.1) : Nat) : Int) = (0 : Int))), r18.2.2))
else (
some (false, r18.2.2)))
else (
some (false, r18.2.2)))
else (
bif (decide ((((List.length r18.1.2.2.2.1) : Nat) : Int) = (0 : Int))) then (
some (false, r18.2.2))
else (
bif (decide ((2 : Int) < (((List.length r18.1.2.2.2.1) : Nat) : Int))) then (
some (false, r18.2.2))
else (
(qf91L3 (0 : Int) r18.2.2.1 r18.2.2.2.1 r18.2.2.2.2.1 r18.2.2.2.2.2.1 r18.2.2.2.2.2.2.1 r18.2.2.2.2.2.2.2.1 r18.2.2.2.2.2.2.2.2.1 r18.2.2.2.2.2.2.2.2.2.1 r18.2.2.2.2.2.2.2.2.2.2 r18.1).bind fun r19 =>
match r19 with
| .inl r20 => (
some (true, r20))
| .inr r21 => (
some r21)))))))))
else (
bif (decide (r3 = (3 : Int))) then (
(qf90 ((3 : Int), r1, (0 : Int), (0 : Int), (0 : Int), [], ()) a2 a3 a4 a5 a6 a7 a8 a9 a10).bind fun r22 =>
(qf91L1 r22.2.1 (0 : Int) r22.2.2.1 r22.2.2.2.1 r22.2.2.2.2.1 r22.2.2.2.2.2.1 r22.2.2.2.2.2.2.1 r22.2.2.2.2.2.2.2.1 r22.2.2.2.2.2.2.2.2.1 r22.2.2.2.2.2.2.2.2.2.1 r22.2.2.2.2.2.2.2.2.2.2 r22.1).bind fun r23 =>
match r23 with
| .inl r24 => (
bif r24.1 then (
bif (decide (r24.2.2.2.2.2.2.2.2.2.2.1 = (0 : Int))) then (
some ((decide ((IntKind.wrap .i64 r24.2.2.2.2.2.2.2.2.2.2.2.1) = (IntKind.wrap .i64 (r24.2.2.1 + (1 : Int))))), r24.2.1, (IntKind.wrap .i64 (r24.2.2.1 + (1 : Int))), r24.2.2.2.1, r24.2.2.2.2.1, r24.2.2.2.2.2.1, r24.2.2.2.2.2.2.1, r24.2.2.2.2.2.2.2.1, r24.2.2.2.2.2.2.2.2.1, r24.2.2.2.2.2.2.2.2.2.1))
else (
some (false, r24.2.1, (IntKind.wrap .i64 (r24.2.2.1 + (1 : Int))), r24.2.2.2.1, r24.2.2.2.2.1, r24.2.2.2.2.2.1, r24.2.2.2.2.2.2.1, r24.2.2.2.2.2.2.2.1, r24.2.2.2.2.2.2.2.2.1, r24.2.2.2.2.2.2.2.2.2.1)))
else (
some (false, r24.2.1, (IntKind.wrap .i64 (r24.2.2.1 + (1 : Int))), r24.2.2.2.1, r24.2.2.2.2.1, r24.2.2.2.2.2.1, r24.2.2.2.2.2.2.1, r24.2.2.2.2.2.2.2.1, r24.2.2.2.2.2.2.2.2.1, r24.2.2.2.2.2.2.2.2.2.1)))
| .inr r25 => (
some r25))
else (
bif (decide (r3 = (4 : Int))) then (
bif (decide (r3 = (4 : Int))) then (
bif (!(decide ((((List.length a9) : Nat) : Int) = (0 : Int)))) then
bif (inR (Int.tmod a1 (((List.length a9) : Nat) : Int)) (List.length a8)) then
bif (decide ((0 : Int) ≤ (List.getD a8 (Int.toNat (Int.tmod a1 (((List.length a9) : Nat) : Int))) (0 : Int)))) then (
some (true, a2, a3, a4, a5, a6, a7, a8, a9, a10))
else (
bif (inR (Int.tmod a1 (((List.length a9) : Nat) : Int)) (List.length a10)) then
bif (List.getD a10 (Int.toNat (Int.tmod a1 (((List.length a9) : Nat) : Int))) false) then (
some (true, a2, a3, a4, a5, a6, a7, a8, a9, a10))
else (
bif (inR (Int.tmod a1 (((List.length a9) : Nat) : Int)) (List.length a9)) then
(qf90 ((4 : Int), r1, (0 : Int), (0 : Int), (0 : Int), [(List.getD a9 (Int.toNat (Int.tmod a1 (((List.length a9) : Nat) : Int))) ((0 : Int), (0 : Int), ()))], ()) a2 a3 a4 a5 a6 a7 a8 a9 a10).bind fun r26 =>
bif r26.2.1 then (
bif (decide (r26.1.1 = (0 : Int))) then (
bif (inR (Int.tmod a1 (((List.length a9) : Nat) : Int)) (List.length r26.2.2.2.2.2.2.2.2.1)) then
some (true, r26.2.2.1, r26.2.2.2.1, r26.2.2.2.2.1, r26.2.2.2.2.2.1, r26.2.2.2.2.2.2.1, r26.2.2.2.2.2.2.2.1, (List.set r26.2.2.2.2.2.2.2.2.1 (Int.toNat (Int.tmod a1 (((List.length a9) : Nat) : Int))) r26.2.2.2.1), r26.2.2.2.2.2.2.2.2.2)
else none)
else (
bif r26.2.1 then (
some ((decide (r26.1.1 = (12 : Int))), r26.2.2))
else (
some (false, r26.2.2))))
else (
bif r26.2.1 then (
some ((decide (r26.1.1 = (12 : Int))), r26.2.2))
else (
some (false, r26.2.2)))
else none)
else none)
else none
else none)
else (
(qf90 ((5 : Int), r1, (0 : Int), a4, r2, [], ()) a2 a3 a4 a5 a6 a7 a8 a9 a10).bind fun r27 =>
bif (!r27.2.1) then (
bif r27.2.1 then (
bif (decide (r27.1.1 = (16 : Int))) then (
some ((decide ((((List.length r27.1.2.2.2.1) : Nat) : Int) = (0 : Int))), r27.2.2))
else (
some (false, r27.2.2)))
else (
some (false, r27.2.2)))
else (
bif (!(decide (r27.1.1 = (0 : Int)))) then (
bif r27.2.1 then (
bif (decide (r27.1.1 = (16 : Int))) then (
some ((decide ((((List.length r27.1.2.2.2.1) : Nat) : Int) = (0 : Int))), r27.2.2))
else (
some (false, r27.2.2)))
else (
some (false, r27.2.2)))
else (
bif (decide ((((List.length r27.1.2.2.2.1) : Nat) : Int) = (0 : Int))) then (
some (false, r27.2.2))
else (
bif (decide ((2 : Int) < (((List.length r27.1.2.2.2.1) : Nat) : Int))) then (
some (false, r27.2.2))
else (
(qf91L3 (0 : Int) r27.2.2.1 r27.2.2.2.1 r27.2.2.2.2.1 r27.2.2.2.2.2.1 r27.2.2.2.2.2.2.1 r27.2.2.2.2.2.2.2.1 r27.2.2.2.2.2.2.2.2.1 r27.2.2.2.2.2.2.2.2.2.1 r27.2.2.2.2.2.2.2.2.2.2 r27.1).bind fun r28 =>
match r28 with
| .inl r29 => (
some (true, r29))
| .inr r30 => (
some r30)))))))
else (
bif (decide (r3 = (5 : Int))) then (
bif (!(decide ((((List.length a9) : Nat) : Int) = (0 : Int)))) then
bif (inR (Int.tmod a1 (((List.length a9) : Nat) : Int)) (List.length a8)) then
bif (decide ((0 : Int) ≤ (List.getD a8 (Int.toNat (Int.tmod a1 (((List.length a9) : Nat) : Int))) (0 : Int)))) then (
some (true, a2, a3, a4, a5, a6, a7, a8, a9, a10))
else (
bif (inR (Int.tmod a1 (((List.length a9) : Nat) : Int)) (List.length a10)) then
bif (List.getD a10 (Int.toNat (Int.tmod a1 (((List.length a9) : Nat) : Int))) false) then (
some (true, a2, a3, a4, a5, a6, a7, a8, a9, a10))
else (
bif (inR (Int.tmod a1 (((List.length a9) : Nat) : Int)) (List.length a9)) then
(qf90 ((4 : Int), r1, (0 : Int), (0 : Int), (0 : Int), [(List.getD a9 (Int.toNat (Int.tmod a1 (((List.length a9) : Nat) : Int))) ((0 : Int), (0 : Int), ()))], ()) a2 a3 a4 a5 a6 a7 a8 a9 a10).bind fun r31 =>
bif r31.2.1 then (
bif (decide (r31.1.1 = (0 : Int))) then (
bif (inR (Int.tmod a1 (((List.length a9) : Nat) : Int)) (List.length r31.2.2.2.2.2.2.2.2.1)) then
some (true, r31.2.2.1, r31.2.2.2.1, r31.2.2.2.2.1, r31.2.2.2.2.2.1, r31.2.2.2.2.2.2.1, r31.2.2.2.2.2.2.2.1, (List.set r31.2.2.2.2.2.2.2.2.1 (Int.toNat (Int.tmod a1 (((List.length a9) : Nat) : Int))) r31.2.2.2.1), r31.2.2.2.2.2.2.2.2.2)
else none)
else (
bif r31.2.1 then (
some ((decide (r31.1.1 = (12 : Int))), r31.2.2))
else (
some (false, r31.2.2))))
else (
bif r31.2.1 then (
some ((decide (r31.1.1 = (12 : Int))), r31.2.2))
else (
some (false, r31.2.2)))
else none)
else none)
else none
else none)
else (
(qf90 ((5 : Int), r1, (0 : Int), a4, r2, [], ()) a2 a3 a4 a5 a6 a7 a8 a9 a10).bind fun r32 =>
bif (!r32.2.1) then (
bif r32.2.1 then (
bif (decide (r32.1.1 = (16 : Int))) then (
some ((decide ((((List.length r32.1.2.2.2.1) : Nat) : Int) = (0 : Int))), r32.2.2))
else (
some (false, r32.2.2)))
else (
some (false, r32.2.2)))
else (
bif (!(decide (r32.1.1 = (0 : Int)))) then (
bif r32.2.1 then (
bif (decide (r32.1.1 = (16 : Int))) then (
some ((decide ((((List.length r32.1.2.2.2.1) : Nat) : Int) = (0 : Int))), r32.2.2))
else (
some (false, r32.2.2)))
else (
some (false, r32.2.2)))
else (
bif (decide ((((List.length r32.1.2.2.2.1) : Nat) : Int) = (0 : Int))) then (
some (false, r32.2.2))
else (
bif (decide ((2 : Int) < (((List.length r32.1.2.2.2.1) : Nat) : Int))) then (
some (false, r32.2.2))
else (
(qf91L3 (0 : Int) r32.2.2.1 r32.2.2.2.1 r32.2.2.2.2.1 r32.2.2.2.2.2.1 r32.2.2.2.2.2.2.1 r32.2.2.2.2.2.2.2.1 r32.2.2.2.2.2.2.2.2.1 r32.2.2.2.2.2.2.2.2.2.1 r32.2.2.2.2.2.2.2.2.2.2 r32.1).bind fun r33 =>
match r33 with
| .inl r34 => (
some (true, r34))
| .inr r35 => (
some r35)))))))))))
else (
bif (decide (r3 = (7 : Int))) then (
(qf2 a0.1 (8 : Int)).bind fun r36 =>
bif (decide (r36 = (7 : Int))) then (
(qf90 ((6 : Int), r2, (2 : Int), (0 : Int), r1, [], ()) a2 a3 a4 a5 a6 a7 a8 a9 a10).bind fun r37 =>
bif (inR r1 6) then
bif (decide ((List.getD r37.2.2.1 (Int.toNat r1) (0 : Int)) = (0 : Int))) then (
bif r37.2.1 then (
some ((decide (r37.1.1 = (16 : Int))), r37.2.2))
else (
some (false, r37.2.2)))
else (
bif (inR r1 6) then
bif (inR r1 6) then
bif r37.2.1 then (
bif (decide (r37.1.1 = (0 : Int))) then (
some ((decide ((IntKind.wrap .i64 r37.1.2.1) = (IntKind.wrap .i64 ((List.getD r37.2.2.1 (Int.toNat r1) (0 : Int)) - (1 : Int))))), (List.set r37.2.2.1 (Int.toNat r1) (0 : Int)), r37.2.2.2))
else (
some (false, (List.set r37.2.2.1 (Int.toNat r1) (0 : Int)), r37.2.2.2)))
else (
some (false, (List.set r37.2.2.1 (Int.toNat r1) (0 : Int)), r37.2.2.2))
else none
else none)
else none)
else (
(qf90 ((2 : Int), r1, (1 : Int), (0 : Int), (0 : Int), [], ()) a2 a3 a4 a5 a6 a7 a8 a9 a10).bind fun r38 =>
bif (inR r1 6) then
bif (decide ((List.getD r38.2.2.1 (Int.toNat r1) (0 : Int)) = (0 : Int))) then (
bif r38.2.1 then (
some ((decide (r38.1.1 = (16 : Int))), r38.2.2))
else (
some (false, r38.2.2)))
else (
bif (inR r1 6) then
bif (inR r1 6) then
bif r38.2.1 then (
bif (decide (r38.1.1 = (0 : Int))) then (
some ((decide ((IntKind.wrap .i64 r38.1.2.1) = (IntKind.wrap .i64 ((List.getD r38.2.2.1 (Int.toNat r1) (0 : Int)) - (1 : Int))))), (List.set r38.2.2.1 (Int.toNat r1) (0 : Int)), r38.2.2.2))
else (
some (false, (List.set r38.2.2.1 (Int.toNat r1) (0 : Int)), r38.2.2.2)))
else (
some (false, (List.set r38.2.2.1 (Int.toNat r1) (0 : Int)), r38.2.2.2))
else none
else none)
else none))
else (
bif (decide (r3 = (2 : Int))) then (
bif (decide (r3 = (2 : Int))) then (
(qf90 ((3 : Int), r1, (0 : Int), (0 : Int), (0 : Int), [], ()) a2 a3 a4 a5 a6 a7 a8 a9 a10).bind fun r39 =>
(qf91L1 r39.2.1 (0 : Int) r39.2.2.1 r39.2.2.2.1 r39.2.2.2.2.1 r39.2.2.2.2.2.1 r39.2.2.2.2.2.2.1 r39.2.2.2.2.2.2.2.1 r39.2.2.2.2.2.2.2.2.1 r39.2.2.2.2.2.2.2.2.2.1 r39.2.2.2.2.2.2.2.2.2.2 r39.1).bind fun r40 =>
match r40 with
| .inl r41 => (
bif r41.1 then (
bif (decide (r41.2.2.2.2.2.2.2.2.2.2.1 = (0 : Int))) then (
some ((decide ((IntKind.wrap .i64 r41.2.2.2.2.2.2.2.2.2.2.2.1) = (IntKind.wrap .i64 (r41.2.2.1 + (1 : Int))))), r41.2.1, (IntKind.wrap .i64 (r41.2.2.1 + (1 : Int))), r41.2.2.2.1, r41.2.2.2.2.1, r41.2.2.2.2.2.1, r41.2.2.2.2.2.2.1, r41.2.2.2.2.2.2.2.1, r41.2.2.2.2.2.2.2.2.1, r41.2.2.2.2.2.2.2.2.2.1))
else (
some (false, r41.2.1, (IntKind.wrap .i64 (r41.2.2.1 + (1 : Int))), r41.2.2.2.1, r41.2.2.2.2.1, r41.2.2.2.2.2.1, r41.2.2.2.2.2.2.1, r41.2.2.2.2.2.2.2.1, r41.2.2.2.2.2.2.2.2.1, r41.2.2.2.2.2.2.2.2.2.1)))
else (
some (false, r41.2.1, (IntKind.wrap .i64 (r41.2.2.1 + (1 : Int))), r41.2.2.2.1, r41.2.2.2.2.1, r41.2.2.2.2.2.1, r41.2.2.2.2.2.2.1, r41.2.2.2.2.2.2.2.1, r41.2.2.2.2.2.2.2.2.1, r41.2.2.2.2.2.2.2.2.2.1)))
| .inr r42 => (
some r42))
else (
bif (decide (r3 = (4 : Int))) then (
bif (decide (r3 = (4 : Int))) then (
bif (!(decide ((((List.length a9) : Nat) : Int) = (0 : Int)))) then
bif (inR (Int.tmod a1 (((List.length a9) : Nat) : Int)) (List.length a8)) then
bif (decide ((0 : Int) ≤ (List.getD a8 (Int.toNat (Int.tmod a1 (((List.length a9) : Nat) : Int))) (0 : Int)))) then (
some (true, a2, a3, a4, a5, a6, a7, a8, a9, a10))
else (
bif (inR (Int.tmod a1 (((List.length a9) : Nat) : Int)) (List.length a10)) then
bif (List.getD a10 (Int.toNat (Int.tmod a1 (((List.length a9) : Nat) : Int))) false) then (
some (true, a2, a3, a4, a5, a6, a7, a8, a9, a10))
else (
bif (inR (Int.tmod a1 (((List.length a9) : Nat) : Int)) (List.length a9)) then
(qf90 ((4 : Int), r1, (0 : Int), (0 : Int), (0 : Int), [(List.getD a9 (Int.toNat (Int.tmod a1 (((List.length a9) : Nat) : Int))) ((0 : Int), (0 : Int), ()))], ()) a2 a3 a4 a5 a6 a7 a8 a9 a10).bind fun r43 =>
bif r43.2.1 then (
bif (decide (r43.1.1 = (0 : Int))) then (
bif (inR (Int.tmod a1 (((List.length a9) : Nat) : Int)) (List.length r43.2.2.2.2.2.2.2.2.1)) then
some (true, r43.2.2.1, r43.2.2.2.1, r43.2.2.2.2.1, r43.2.2.2.2.2.1, r43.2.2.2.2.2.2.1, r43.2.2.2.2.2.2.2.1, (List.set r43.2.2.2.2.2.2.2.2.1 (Int.toNat (Int.tmod a1 (((List.length a9) : Nat) : Int))) r43.2.2.2.1), r43.2.2.2.2.2.2.2.2.2)
else none)
else (
bif r43.2.1 then (
some ((decide (r43.1.1 = (12 : Int))), r43.2.2))
else (
some (false, r43.2.2))))
else (
bif r43.2.1 then (
some ((decide (r43.1.1 = (12 : Int))), r43.2.2))
else (
some (false, r43.2.2)))
else none)
else none)
else none
else none)
else (
(qf90 ((5 : Int), r1, (0 : Int), a4, r2, [], ()) a2 a3 a4 a5 a6 a7 a8 a9 a10).bind fun r44 =>
bif (!r44.2.1) then (
bif r44.2.1 then (
bif (decide (r44.1.1 = (16 : Int))) then (
some ((decide ((((List.length r44.1.2.2.2.1) : Nat) : Int) = (0 : Int))), r44.2.2))
else (
some (false, r44.2.2)))
else (
some (false, r44.2.2)))
else (
bif (!(decide (r44.1.1 = (0 : Int)))) then (
bif r44.2.1 then (
bif (decide (r44.1.1 = (16 : Int))) then (
some ((decide ((((List.length r44.1.2.2.2.1) : Nat) : Int) = (0 : Int))), r44.2.2))
else (
some (false, r44.2.2)))
else (
some (false, r44.2.2)))
else (
bif (decide ((((List.length r44.1.2.2.2.1) : Nat) : Int) = (0 : Int))) then (
some (false, r44.2.2))
else (
bif (decide ((2 : Int) < (((List.length r44.1.2.2.2.1) : Nat) : Int))) then (
some (false, r44.2.2))
else (
(qf91L3 (0 : Int) r44.2.2.1 r44.2.2.2.1 r44.2.2.2.2.1 r44.2.2.2.2.2.1 r44.2.2.2.2.2.2.1 r44.2.2.2.2.2.2.2.1 r44.2.2.2.2.2.2.2.2.1 r44.2.2.2.2.2.2.2.2.2.1 r44.2.2.2.2.2.2.2.2.2.2 r44.1).bind fun r45 =>
match r45 with
| .inl r46 => (
some (true, r46))
| .inr r47 => (
some r47)))))))
else (
bif (decide (r3 = (5 : Int))) then (
bif (!(decide ((((List.length a9) : Nat) : Int) = (0 : Int)))) then
bif (inR (Int.tmod a1 (((List.length a9) : Nat) : Int)) (List.length a8)) then
bif (decide ((0 : Int) ≤ (List.getD a8 (Int.toNat (Int.tmod a1 (((List.length a9) : Nat) : Int))) (0 : Int)))) then (
some (true, a2, a3, a4, a5, a6, a7, a8, a9, a10))
else (
bif (inR (Int.tmod a1 (((List.length a9) : Nat) : Int)) (List.length a10)) then
bif (List.getD a10 (Int.toNat (Int.tmod a1 (((List.length a9) : Nat) : Int))) false) then (
some (true, a2, a3, a4, a5, a6, a7, a8, a9, a10))
else (
bif (inR (Int.tmod a1 (((List.length a9) : Nat) : Int)) (List.length a9)) then
(qf90 ((4 : Int), r1, (0 : Int), (0 : Int), (0 : Int), [(List.getD a9 (Int.toNat (Int.tmod a1 (((List.length a9) : Nat) : Int))) ((0 : Int), (0 : Int), ()))], ()) a2 a3 a4 a5 a6 a7 a8 a9 a10).bind fun r48 =>
bif r48.2.1 then (
bif (decide (r48.1.1 = (0 : Int))) then (
bif (inR (Int.tmod a1 (((List.length a9) : Nat) : Int)) (List.length r48.2.2.2.2.2.2.2.2.1)) then
some (true, r48.2.2.1, r48.2.2.2.1, r48.2.2.2.2.1, r48.2.2.2.2.2.1, r48.2.2.2.2.2.2.1, r48.2.2.2.2.2.2.2.1, (List.set r48.2.2.2.2.2.2.2.2.1 (Int.toNat (Int.tmod a1 (((List.length a9) : Nat) : Int))) r48.2.2.2.1), r48.2.2.2.2.2.2.2.2.2)
else none)
else (
bif r48.2.1 then (
some ((decide (r48.1.1 = (12 : Int))), r48.2.2))
else (
some (false, r48.2.2))))
else (
bif r48.2.1 then (
some ((decide (r48.1.1 = (12 : Int))), r48.2.2))
else (
some (false, r48.2.2)))
else none)
else none)
else none
else none)
else (
(qf90 ((5 : Int), r1, (0 : Int), a4, r2, [], ()) a2 a3 a4 a5 a6 a7 a8 a9 a10).bind fun r49 =>
bif (!r49.2.1) then (
bif r49.2.1 then (
bif (decide (r49.1.1 = (16 : Int))) then (
some ((decide ((((List.length r49.1.2.2.2.1) : Nat) : Int) = (0 : Int))), r49.2.2))
else (
some (false, r49.2.2)))
else (
some (false, r49.2.2)))
else (
bif (!(decide (r49.1.1 = (0 : Int)))) then (
bif r49.2.1 then (
bif (decide (r49.1.1 = (16 : Int))) then (
some ((decide ((((List.length r49.1.2.2.2.1) : Nat) : Int) = (0 : Int))), r49.2.2))
else (
some (false, r49.2.2)))
else (
some (false, r49.2.2)))
else (
bif (decide ((((List.length r49.1.2.2.2.1) : Nat) : Int) = (0 : Int))) then (
some (false, r49.2.2))
else (
bif (decide ((2 : Int) < (((List.length r49.1.2.2.2.1) : Nat) : Int))) then (
some (false, r49.2.2))
else (
(qf91L3 (0 : Int) r49.2.2.1 r49.2.2.2.1 r49.2.2.2.2.1 r49.2.2.2.2.2.1 r49.2.2.2.2.2.2.1 r49.2.2.2.2.2.2.2.1 r49.2.2.2.2.2.2.2.2.1 r49.2.2.2.2.2.2.2.2.2.1 r49.2.2.2.2.2.2.2.2.2.2 r49.1).bind fun r50 =>
match r50 with
| .inl r51 => (
some (true, r51))
| .inr r52 => (
some r52)))))))))
else (
bif (decide (r3 = (3 : Int))) then (
(qf90 ((3 : Int), r1, (0 : Int), (0 : Int), (0 : Int), [], ()) a2 a3 a4 a5 a6 a7 a8 a9 a10).bind fun r53 =>
(qf91L1 r53.2.1 (0 : Int) r53.2.2.1 r53.2.2.2.1 r53.2.2.2.2.1 r53.2.2.2.2.2.1 r53.2.2.2.2.2.2.1 r53.2.2.2.2.2.2.2.1 r53.2.2.2.2.2.2.2.2.1 r53.2.2.2.2.2.2.2.2.2.1 r53.2.2.2.2.2.2.2.2.2.2 r53.1).bind fun r54 =>
match r54 with
| .inl r55 => (
bif r55.1 then (
bif (decide (r55.2.2.2.2.2.2.2.2.2.2.1 = (0 : Int))) then (
some ((decide ((IntKind.wrap .i64 r55.2.2.2.2.2.2.2.2.2.2.2.1) = (IntKind.wrap .i64 (r55.2.2.1 + (1 : Int))))), r55.2.1, (IntKind.wrap .i64 (r55.2.2.1 + (1 : Int))), r55.2.2.2.1, r55.2.2.2.2.1, r55.2.2.2.2.2.1, r55.2.2.2.2.2.2.1, r55.2.2.2.2.2.2.2.1, r55.2.2.2.2.2.2.2.2.1, r55.2.2.2.2.2.2.2.2.2.1))
else (
some (false, r55.2.1, (IntKind.wrap .i64 (r55.2.2.1 + (1 : Int))), r55.2.2.2.1, r55.2.2.2.2.1, r55.2.2.2.2.2.1, r55.2.2.2.2.2.2.1, r55.2.2.2.2.2.2.2.1, r55.2.2.2.2.2.2.2.2.1, r55.2.2.2.2.2.2.2.2.2.1)))
else (
some (false, r55.2.1, (IntKind.wrap .i64 (r55.2.2.1 + (1 : Int))), r55.2.2.2.1, r55.2.2.2.2.1, r55.2.2.2.2.2.1, r55.2.2.2.2.2.2.1, r55.2.2.2.2.2.2.2.1, r55.2.2.2.2.2.2.2.2.1, r55.2.2.2.2.2.2.2.2.2.1)))
| .inr r56 => (
some r56))
else (
bif (decide (r3 = (4 : Int))) then (
bif (decide (r3 = (4 : Int))) then (
bif (!(decide ((((List.length a9) : Nat) : Int) = (0 : Int)))) then
bif (inR (Int.tmod a1 (((List.length a9) : Nat) : Int)) (List.length a8)) then
bif (decide ((0 : Int) ≤ (List.getD a8 (Int.toNat (Int.tmod a1 (((List.length a9) : Nat) : Int))) (0 : Int)))) then (
some (true, a2, a3, a4, a5, a6, a7, a8, a9, a10))
else (
bif (inR (Int.tmod a1 (((List.length a9) : Nat) : Int)) (List.length a10)) then
bif (List.getD a10 (Int.toNat (Int.tmod a1 (((List.length a9) : Nat) : Int))) false) then (
some (true, a2, a3, a4, a5, a6, a7, a8, a9, a10))
else (
bif (inR (Int.tmod a1 (((List.length a9) : Nat) : Int)) (List.length a9)) then
(qf90 ((4 : Int), r1, (0 : Int), (0 : Int), (0 : Int), [(List.getD a9 (Int.toNat (Int.tmod a1 (((List.length a9) : Nat) : Int))) ((0 : Int), (0 : Int), ()))], ()) a2 a3 a4 a5 a6 a7 a8 a9 a10).bind fun r57 =>
bif r57.2.1 then (
bif (decide (r57.1.1 = (0 : Int))) then (
bif (inR (Int.tmod a1 (((List.length a9) : Nat) : Int)) (List.length r57.2.2.2.2.2.2.2.2.1)) then
some (true, r57.2.2.1, r57.2.2.2.1, r57.2.2.2.2.1, r57.2.2.2.2.2.1, r57.2.2.2.2.2.2.1, r57.2.2.2.2.2.2.2.1, (List.set r57.2.2.2.2.2.2.2.2.1 (Int.toNat (Int.tmod a1 (((List.length a9) : Nat) : Int))) r57.2.2.2.1), r57.2.2.2.2.2.2.2.2.2)
else none)
else (
bif r57.2.1 then (
some ((decide (r57.1.1 = (12 : Int))), r57.2.2))
else (
some (false, r57.2.2))))
else (
bif r57.2.1 then (
some ((decide (r57.1.1 = (12 : Int))), r57.2.2))
else (
some (false, r57.2.2)))
else none)
else none)
else none
else none)
else (
(qf90 ((5 : Int), r1, (0 : Int), a4, r2, [], ()) a2 a3 a4 a5 a6 a7 a8 a9 a10).bind fun r58 =>
bif (!r58.2.1) then (
bif r58.2.1 then (
bif (decide (r58.1.1 = (16 : Int))) then (
some ((decide ((((List.length r58.1.2.2.2.1) : Nat) : Int) = (0 : Int))), r58.2.2))
else (
some (false, r58.2.2)))
else (
some (false, r58.2.2)))
else (
bif (!(decide (r58.1.1 = (0 : Int)))) then (
bif r58.2.1 then (
bif (decide (r58.1.1 = (16 : Int))) then (
some ((decide ((((List.length r58.1.2.2.2.1) : Nat) : Int) = (0 : Int))), r58.2.2))
else (
some (false, r58.2.2)))
else (
some (false, r58.2.2)))
else (
bif (decide ((((List.length r58.1.2.2.2.1) : Nat) : Int) = (0 : Int))) then (
some (false, r58.2.2))
else (
bif (decide ((2 : Int) < (((List.length r58.1.2.2.2.1) : Nat) : Int))) then (
some (false, r58.2.2))
else (
(qf91L3 (0 : Int) r58.2.2.1 r58.2.2.2.1 r58.2.2.2.2.1 r58.2.2.2.2.2.1 r58.2.2.2.2.2.2.1 r58.2.2.2.2.2.2.2.1 r58.2.2.2.2.2.2.2.2.1 r58.2.2.2.2.2.2.2.2.2.1 r58.2.2.2.2.2.2.2.2.2.2 r58.1).bind fun r59 =>
match r59 with
| .inl r60 => (
some (true, r60))
| .inr r61 => (
some r61)))))))
else (
bif (decide (r3 = (5 : Int))) then (
bif (!(decide ((((List.length a9) : Nat) : Int) = (0 : Int)))) then
bif (inR (Int.tmod a1 (((List.length a9) : Nat) : Int)) (List.length a8)) then
bif (decide ((0 : Int) ≤ (List.getD a8 (Int.toNat (Int.tmod a1 (((List.length a9) : Nat) : Int))) (0 : Int)))) then (
some (true, a2, a3, a4, a5, a6, a7, a8, a9, a10))
else (
bif (inR (Int.tmod a1 (((List.length a9) : Nat) : Int)) (List.length a10)) then
bif (List.getD a10 (Int.toNat (Int.tmod a1 (((List.length a9) : Nat) : Int))) false) then (
some (true, a2, a3, a4, a5, a6, a7, a8, a9, a10))
else (
bif (inR (Int.tmod a1 (((List.length a9) : Nat) : Int)) (List.length a9)) then
(qf90 ((4 : Int), r1, (0 : Int), (0 : Int), (0 : Int), [(List.getD a9 (Int.toNat (Int.tmod a1 (((List.length a9) : Nat) : Int))) ((0 : Int), (0 : Int), ()))], ()) a2 a3 a4 a5 a6 a7 a8 a9 a10).bind fun r62 =>
bif r62.2.1 then (
bif (decide (r62.1.1 = (0 : Int))) then (
bif (inR (Int.tmod a1 (((List.length a9) : Nat) : Int)) (List.length r62.2.2.2.2.2.2.2.2.1)) then
some (true, r62.2.2.1, r62.2.2.2.1, r62.2.2.2.2.1, r62.2.2.2.2.2.1, r62.2.2.2.2.2.2.1, r62.2.2.2.2.2.2.2.1, (List.set r62.2.2.2.2.2.2.2.2.1 (Int.toNat (Int.tmod a1 (((List.length a9) : Nat) : Int))) r62.2.2.2.1), r62.2.2.2.2.2.2.2.2.2)
else none)
else (
bif r62.2.1 then (
some ((decide (r62.1.1 = (12 : Int))), r62.2.2))
else (
some (false, r62.2.2))))
else (
bif r62.2.1 then (
some ((decide (r62.1.1 = (12 : Int))), r62.2.2))
else (
some (false, r62.2.2)))
else none)
else none)
else none
else none)
else (
(qf90 ((5 : Int), r1, (0 : Int), a4, r2, [], ()) a2 a3 a4 a5 a6 a7 a8 a9 a10).bind fun r63 =>
bif (!r63.2.1) then (
bif r63.2.1 then (
bif (decide (r63.1.1 = (16 : Int))) then (
some ((decide ((((List.length r63.1.2.2.2.1) : Nat) : Int) = (0 : Int))), r63.2.2))
else (
some (false, r63.2.2)))
else (
some (false, r63.2.2)))
else (
bif (!(decide (r63.1.1 = (0 : Int)))) then (
bif r63.2.1 then (
bif (decide (r63.1.1 = (16 : Int))) then (
some ((decide ((((List.length r63.1.2.2.2.1) : Nat) : Int) = (0 : Int))), r63.2.2))
else (
some (false, r63.2.2)))
else (
some (false, r63.2.2)))
else (
bif (decide ((((List.length r63.1.2.2.2.1) : Nat) : Int) = (0 : Int))) then (
some (false, r63.2.2))
else (
bif (decide ((2 : Int) < (((List.length r63.1.2.2.2.1) : Nat) : Int))) then (
some (false, r63.2.2))
else (
(qf91L3 (0 : Int) r63.2.2.1 r63.2.2.2.1 r63.2.2.2.2.1 r63.2.2.2.2.2.1 r63.2.2.2.2.2.2.1 r63.2.2.2.2.2.2.2.1 r63.2.2.2.2.2.2.2.2.1 r63.2.2.2.2.2.2.2.2.2.1 r63.2.2.2.2.2.2.2.2.2.2 r63.1).bind fun r64 =>
match r64 with
| .inl r65 => (
some (true, r65))
| .inr r66 => (
some r66))))))))))))
abbrev qf91Y : Type := (Val TReq) × Int × (Val (.arr 6 (.int .i64))) × Int × Int × Int × (Val (.pair (.int .i64) THead)) × (Val (.slice TPage)) × (Val (.slice (.int .i64))) × (Val (.slice TPtr)) × (Val (.slice .bool))
abbrev qf91Z : Type := Bool × (Val (.arr 6 (.int .i64))) × Int × Int × Int × (Val (.pair (.int .i64) THead)) × (Val (.slice TPage)) × (Val (.slice (.int .i64))) × (Val (.slice TPtr)) × (Val (.slice .bool))
abbrev qf91L1Y : Type := Bool × Int × (Val (.arr 6 (.int .i64))) × Int × Int × Int × (Val (.pair (.int .i64) THead)) × (Val (.slice TPage)) × (Val (.slice (.int .i64))) × (Val (.slice TPtr)) × (Val (.slice .bool)) × (Val TOut)
abbrev qf91L1Z : Type := (Bool × (Val (.arr 6 (.int .i64))) × Int × Int × Int × (Val (.pair (.int .i64) THead)) × (Val (.slice TPage)) × (Val (.slice (.int .i64))) × (Val (.slice TPtr)) × (Val (.slice .bool)) × (Val TOut)) ⊕ (Bool × (Val (.arr 6 (.int .i64))) × Int × Int × Int × (Val (.pair (.int .i64) THead)) × (Val (.slice TPage)) × (Val (.slice (.int .i64))) × (Val (.slice TPtr)) × (Val (.slice .bool)))
abbrev qf91L2Y : Type := Int × Bool × Int × (Val (.arr 6 (.int .i64))) × Int × Int × Int × (Val (.pair (.int .i64) THead)) × (Val (.slice TPage)) × (Val (.slice (.int .i64))) × (Val (.slice TPtr)) × (Val (.slice .bool)) × (Val TOut)
abbrev qf91L2Z : Type := Int × Bool × (Val (.arr 6 (.int .i64))) × Int × Int × Int × (Val (.pair (.int .i64) THead)) × (Val (.slice TPage)) × (Val (.slice (.int .i64))) × (Val (.slice TPtr)) × (Val (.slice .bool)) × (Val TOut)
abbrev qf91L3Y : Type := Int × (Val (.arr 6 (.int .i64))) × Int × Int × Int × (Val (.pair (.int .i64) THead)) × (Val (.slice TPage)) × (Val (.slice (.int .i64))) × (Val (.slice TPtr)) × (Val (.slice .bool)) × (Val TOut)
abbrev qf91L3Z : Type := ((Val (.arr 6 (.int .i64))) × Int × Int × Int × (Val (.pair (.int .i64) THead)) × (Val (.slice TPage)) × (Val (.slice (.int .i64))) × (Val (.slice TPtr)) × (Val (.slice .bool))) ⊕ (Bool × (Val (.arr 6 (.int .i64))) × Int × Int × Int × (Val (.pair (.int .i64) THead)) × (Val (.slice TPage)) × (Val (.slice (.int .i64))) × (Val (.slice TPtr)) × (Val (.slice .bool)))
noncomputable def qf91I : Shape := ⟨387, 6, [(0, .ref 0 []), (1, .dat false TReq), (2, .dat false (.int .i64))], [(0, .box (.pair (.cell .ptr) (.pair (.arr 6 (.int .i64)) (.pair (.slice (.int .i64)) (.pair (.slice TPtr) (.pair (.slice .bool) (.pair (.int .i64) .unit)))))) (.cons (.ref 1 []) (.cons (.dat false (.arr 6 (.int .i64))) (.cons (.own (.int .i64) 3) (.cons (.own TPtr 4) (.cons (.own .bool 5) (.cons (.dat false (.int .i64)) (.nil)))))))), (1, .box TStore (.cons (.own TPage 2) (.cons (.dat false (.int .i64)) (.cons (.dat false (.int .i64)) (.cons (.nils) (.cons (.dat false (.pair (.int .i64) THead)) (.nil))))))), (2, .slc false TPage), (3, .slc false (.int .i64)), (4, .slc false TPtr), (5, .slc false .bool)], [0, 1, 2, 3, 4, 5], false⟩
noncomputable def qf91O : Shape := ⟨388, 6, [(387, .dat true .bool)], [(0, .box (.pair (.cell .ptr) (.pair (.arr 6 (.int .i64)) (.pair (.slice (.int .i64)) (.pair (.slice TPtr) (.pair (.slice .bool) (.pair (.int .i64) .unit)))))) (.cons (.ref 1 []) (.cons (.dat false (.arr 6 (.int .i64))) (.cons (.own (.int .i64) 3) (.cons (.own TPtr 4) (.cons (.own .bool 5) (.cons (.dat false (.int .i64)) (.nil)))))))), (1, .box TStore (.cons (.own TPage 2) (.cons (.dat false (.int .i64)) (.cons (.dat false (.int .i64)) (.cons (.nils) (.cons (.dat false (.pair (.int .i64) THead)) (.nil))))))), (2, .slc false TPage), (3, .slc false (.int .i64)), (4, .slc false TPtr), (5, .slc false .bool)], [0, 1, 2, 3, 4, 5], false⟩
noncomputable def qf91F : qf91Y → Option qf91Z := fun y => qf91 y.1 y.2.1 y.2.2.1 y.2.2.2.1 y.2.2.2.2.1 y.2.2.2.2.2.1 y.2.2.2.2.2.2.1 y.2.2.2.2.2.2.2.1 y.2.2.2.2.2.2.2.2.1 y.2.2.2.2.2.2.2.2.2.1 y.2.2.2.2.2.2.2.2.2.2
noncomputable def qf91ct : Ctr := ctrOf qf91I qf91O id id qf91F
noncomputable def qf91E : Env := { tf := tfE, mt := mtE, fn := fun f => bif Nat.beq f 12 then some qf2ct else bif Nat.beq f 102 then some qf90ct else none }
theorem qf91_env : EnvOk PT qf91E := ⟨tyE, (fun f ct h => by
  simp only [qf91E] at h
  refine envCons (c := qf2ct) h qf2_ctr (fun h => ?_)
  refine envCons (c := qf90ct) h qf90_ctr (fun h => ?_)
  cases h), mapE⟩
noncomputable def qf91C : Code := bodyOf Tryz.f39
noncomputable def qf91L1C : Code := (loopsOf qf91C).getD 0 .skip
noncomputable def qf91L3C : Code := (loopsOf qf91C).getD 1 .skip
noncomputable def qf91L2C : Code := (loopsOf qf91C).getD 2 .skip
noncomputable def qf91L1S : Shape := ⟨387, 7, [(0, .ref 0 []), (15, .ref 6 []), (16, .dat true .bool), (17, .dat true (.int .i64))], [(0, .box (.pair (.cell .ptr) (.pair (.arr 6 (.int .i64)) (.pair (.slice (.int .i64)) (.pair (.slice TPtr) (.pair (.slice .bool) (.pair (.int .i64) .unit)))))) (.cons (.ref 1 []) (.cons (.dat false (.arr 6 (.int .i64))) (.cons (.own (.int .i64) 3) (.cons (.own TPtr 4) (.cons (.own .bool 5) (.cons (.dat false (.int .i64)) (.nil)))))))), (1, .box TStore (.cons (.own TPage 2) (.cons (.dat false (.int .i64)) (.cons (.dat false (.int .i64)) (.cons (.nils) (.cons (.dat false (.pair (.int .i64) THead)) (.nil))))))), (2, .slc false TPage), (3, .slc false (.int .i64)), (4, .slc false TPtr), (5, .slc false .bool), (6, .box TOut (.dat true TOut))], [0, 1, 2, 3, 4, 5], false⟩
noncomputable def qf91L1O : List (Ex × Shape) := [(.exit 1, ⟨387, 7, [(0, .ref 0 []), (15, .ref 6 []), (16, .dat true .bool)], [(0, .box (.pair (.cell .ptr) (.pair (.arr 6 (.int .i64)) (.pair (.slice (.int .i64)) (.pair (.slice TPtr) (.pair (.slice .bool) (.pair (.int .i64) .unit)))))) (.cons (.ref 1 []) (.cons (.dat false (.arr 6 (.int .i64))) (.cons (.own (.int .i64) 3) (.cons (.own TPtr 4) (.cons (.own .bool 5) (.cons (.dat false (.int .i64)) (.nil)))))))), (1, .box TStore (.cons (.own TPage 2) (.cons (.dat false (.int .i64)) (.cons (.dat false (.int .i64)) (.cons (.nils) (.cons (.dat false (.pair (.int .i64) THead)) (.nil))))))), (2, .slc false TPage), (3, .slc false (.int .i64)), (4, .slc false TPtr), (5, .slc false .bool), (6, .box TOut (.dat true TOut))], [0, 1, 2, 3, 4, 5], false⟩), (.ret, ⟨387, 6, [(6, .dat true .bool)], [(0, .box (.pair (.cell .ptr) (.pair (.arr 6 (.int .i64)) (.pair (.slice (.int .i64)) (.pair (.slice TPtr) (.pair (.slice .bool) (.pair (.int .i64) .unit)))))) (.cons (.ref 1 []) (.cons (.dat false (.arr 6 (.int .i64))) (.cons (.own (.int .i64) 3) (.cons (.own TPtr 4) (.cons (.own .bool 5) (.cons (.dat false (.int .i64)) (.nil)))))))), (1, .box TStore (.cons (.own TPage 2) (.cons (.dat false (.int .i64)) (.cons (.dat false (.int .i64)) (.cons (.nils) (.cons (.dat false (.pair (.int .i64) THead)) (.nil))))))), (2, .slc false TPage), (3, .slc false (.int .i64)), (4, .slc false TPtr), (5, .slc false .bool)], [0, 1, 2, 3, 4, 5], false⟩)]
noncomputable def qf91L1M : Sum := loopSum (Y := qf91L1Y) (Z := qf91L1Z) qf91L1S qf91L1O id id (iter qf91L1B)
noncomputable def qf91L2S : Shape := ⟨387, 7, [(0, .ref 0 []), (21, .ref 6 []), (23, .dat true (.int .i64)), (24, .dat true .bool), (25, .dat true (.int .i64))], [(0, .box (.pair (.cell .ptr) (.pair (.arr 6 (.int .i64)) (.pair (.slice (.int .i64)) (.pair (.slice TPtr) (.pair (.slice .bool) (.pair (.int .i64) .unit)))))) (.cons (.ref 1 []) (.cons (.dat false (.arr 6 (.int .i64))) (.cons (.own (.int .i64) 3) (.cons (.own TPtr 4) (.cons (.own .bool 5) (.cons (.dat false (.int .i64)) (.nil)))))))), (1, .box TStore (.cons (.own TPage 2) (.cons (.dat false (.int .i64)) (.cons (.dat false (.int .i64)) (.cons (.nils) (.cons (.dat false (.pair (.int .i64) THead)) (.nil))))))), (2, .slc false TPage), (3, .slc false (.int .i64)), (4, .slc false TPtr), (5, .slc false .bool), (6, .box TOut (.dat true TOut))], [0, 1, 2, 3, 4, 5], false⟩
noncomputable def qf91L2O : List (Ex × Shape) := [(.exit 5, ⟨387, 7, [(0, .ref 0 []), (21, .ref 6 []), (23, .dat true (.int .i64)), (24, .dat true .bool)], [(0, .box (.pair (.cell .ptr) (.pair (.arr 6 (.int .i64)) (.pair (.slice (.int .i64)) (.pair (.slice TPtr) (.pair (.slice .bool) (.pair (.int .i64) .unit)))))) (.cons (.ref 1 []) (.cons (.dat false (.arr 6 (.int .i64))) (.cons (.own (.int .i64) 3) (.cons (.own TPtr 4) (.cons (.own .bool 5) (.cons (.dat false (.int .i64)) (.nil)))))))), (1, .box TStore (.cons (.own TPage 2) (.cons (.dat false (.int .i64)) (.cons (.dat false (.int .i64)) (.cons (.nils) (.cons (.dat false (.pair (.int .i64) THead)) (.nil))))))), (2, .slc false TPage), (3, .slc false (.int .i64)), (4, .slc false TPtr), (5, .slc false .bool), (6, .box TOut (.dat true TOut))], [0, 1, 2, 3, 4, 5], false⟩)]
noncomputable def qf91L2M : Sum := loopSum (Y := qf91L2Y) (Z := qf91L2Z) qf91L2S qf91L2O id id (iter qf91L2B)
noncomputable def qf91L3S : Shape := ⟨387, 7, [(0, .ref 0 []), (21, .ref 6 []), (23, .dat true (.int .i64))], [(0, .box (.pair (.cell .ptr) (.pair (.arr 6 (.int .i64)) (.pair (.slice (.int .i64)) (.pair (.slice TPtr) (.pair (.slice .bool) (.pair (.int .i64) .unit)))))) (.cons (.ref 1 []) (.cons (.dat false (.arr 6 (.int .i64))) (.cons (.own (.int .i64) 3) (.cons (.own TPtr 4) (.cons (.own .bool 5) (.cons (.dat false (.int .i64)) (.nil)))))))), (1, .box TStore (.cons (.own TPage 2) (.cons (.dat false (.int .i64)) (.cons (.dat false (.int .i64)) (.cons (.nils) (.cons (.dat false (.pair (.int .i64) THead)) (.nil))))))), (2, .slc false TPage), (3, .slc false (.int .i64)), (4, .slc false TPtr), (5, .slc false .bool), (6, .box TOut (.dat true TOut))], [0, 1, 2, 3, 4, 5], false⟩
noncomputable def qf91L3O : List (Ex × Shape) := [(.exit 3, ⟨387, 6, [], [(0, .box (.pair (.cell .ptr) (.pair (.arr 6 (.int .i64)) (.pair (.slice (.int .i64)) (.pair (.slice TPtr) (.pair (.slice .bool) (.pair (.int .i64) .unit)))))) (.cons (.ref 1 []) (.cons (.dat false (.arr 6 (.int .i64))) (.cons (.own (.int .i64) 3) (.cons (.own TPtr 4) (.cons (.own .bool 5) (.cons (.dat false (.int .i64)) (.nil)))))))), (1, .box TStore (.cons (.own TPage 2) (.cons (.dat false (.int .i64)) (.cons (.dat false (.int .i64)) (.cons (.nils) (.cons (.dat false (.pair (.int .i64) THead)) (.nil))))))), (2, .slc false TPage), (3, .slc false (.int .i64)), (4, .slc false TPtr), (5, .slc false .bool)], [0, 1, 2, 3, 4, 5], false⟩), (.ret, ⟨387, 6, [(6, .dat true .bool)], [(0, .box (.pair (.cell .ptr) (.pair (.arr 6 (.int .i64)) (.pair (.slice (.int .i64)) (.pair (.slice TPtr) (.pair (.slice .bool) (.pair (.int .i64) .unit)))))) (.cons (.ref 1 []) (.cons (.dat false (.arr 6 (.int .i64))) (.cons (.own (.int .i64) 3) (.cons (.own TPtr 4) (.cons (.own .bool 5) (.cons (.dat false (.int .i64)) (.nil)))))))), (1, .box TStore (.cons (.own TPage 2) (.cons (.dat false (.int .i64)) (.cons (.dat false (.int .i64)) (.cons (.nils) (.cons (.dat false (.pair (.int .i64) THead)) (.nil))))))), (2, .slc false TPage), (3, .slc false (.int .i64)), (4, .slc false TPtr), (5, .slc false .bool)], [0, 1, 2, 3, 4, 5], false⟩)]
noncomputable def qf91L3M : Sum := loopSum (Y := qf91L3Y) (Z := qf91L3Z) qf91L3S qf91L3O id id (iter qf91L3B)
noncomputable def qf91H : Nat → Option Sum := fun n => bif Nat.beq n 24 then some qf91L1M else bif Nat.beq n 50 then some qf91L2M else bif Nat.beq n 46 then some qf91L3M else none
theorem qf91L1_bd (y : qf91L1Y) : @Eq (Option (qf91L1Y ⊕ qf91L1Z)) (exec qf91E qf91H qf91L1C (qf91L1S.mk' (show qf91L1S.D from y)) (kont (Y := qf91L1Y) (Z := qf91L1Z) qf91L1S qf91L1O id id)) (qf91L1B y) := by kernel_rfl
theorem qf91L1_ok {w0 : World} {Jo : Io} (hfix : ∀ i b, Jo.fix i = some b → i ∈ [0, 1, 2, 3, 4, 5]) (hmay : false = true → Jo.may) : SumOk PT w0 Jo qf91L1M (.loop qf91L1C) :=
  @loop_ok w0 Jo PT qf91E qf91H qf91L1Y qf91L1Z qf91_env mixed qf91L1C qf91L1S qf91L1O id id id id (fun _ => rfl) (fun _ => rfl) hfix hmay (by kernel_rfl) (noLoops (by kernel_rfl)) qf91L1B qf91L1_bd
theorem qf91L2_bd (y : qf91L2Y) : @Eq (Option (qf91L2Y ⊕ qf91L2Z)) (exec qf91E qf91H qf91L2C (qf91L2S.mk' (show qf91L2S.D from y)) (kont (Y := qf91L2Y) (Z := qf91L2Z) qf91L2S qf91L2O id id)) (qf91L2B y) := by kernel_rfl
theorem qf91L2_ok {w0 : World} {Jo : Io} (hfix : ∀ i b, Jo.fix i = some b → i ∈ [0, 1, 2, 3, 4, 5]) (hmay : false = true → Jo.may) : SumOk PT w0 Jo qf91L2M (.loop qf91L2C) :=
  @loop_ok w0 Jo PT qf91E qf91H qf91L2Y qf91L2Z qf91_env mixed qf91L2C qf91L2S qf91L2O id id id id (fun _ => rfl) (fun _ => rfl) hfix hmay (by kernel_rfl) (noLoops (by kernel_rfl)) qf91L2B qf91L2_bd
theorem qf91L3_bd (y : qf91L3Y) : @Eq (Option (qf91L3Y ⊕ qf91L3Z)) (exec qf91E qf91H qf91L3C (qf91L3S.mk' (show qf91L3S.D from y)) (kont (Y := qf91L3Y) (Z := qf91L3Z) qf91L3S qf91L3O id id)) (qf91L3B y) := by kernel_rfl
theorem qf91L3_ok {w0 : World} {Jo : Io} (hfix : ∀ i b, Jo.fix i = some b → i ∈ [0, 1, 2, 3, 4, 5]) (hmay : false = true → Jo.may) : SumOk PT w0 Jo qf91L3M (.loop qf91L3C) :=
  @loop_ok w0 Jo PT qf91E qf91H qf91L3Y qf91L3Z qf91_env mixed qf91L3C qf91L3S qf91L3O id id id id (fun _ => rfl) (fun _ => rfl) hfix hmay (by kernel_rfl) (loopsMk (by kernel_rfl) (loopsCons (c := qf91L2C) (n := 50) (f := qf91L2M) (by kernel_rfl) (by kernel_rfl) (qf91L2_ok hfix hmay) loopsNil)) qf91L3B qf91L3_bd
theorem qf91_bd (y : qf91Y) : @Eq (Option qf91Z) (exec qf91E qf91H qf91C (qf91I.mk' (show qf91I.D from y)) (kontF (Z := qf91Z) qf91E Tryz.f39.results.toList qf91O id)) (qf91F y) := by kernel_rfl
theorem qf91_lo {w0 : World} {Jo : Io} (hfix : ∀ i b, Jo.fix i = some b → i ∈ [0, 1, 2, 3, 4, 5]) (hmay : false = true → Jo.may) : LoopsOk PT w0 Jo qf91H qf91C := (loopsMk (by kernel_rfl) (loopsCons (c := qf91L1C) (n := 24) (f := qf91L1M) (by kernel_rfl) (by kernel_rfl) (qf91L1_ok hfix hmay) (loopsCons (c := qf91L3C) (n := 46) (f := qf91L3M) (by kernel_rfl) (by kernel_rfl) (qf91L3_ok hfix hmay) (loopsCons (c := qf91L2C) (n := 50) (f := qf91L2M) (by kernel_rfl) (by kernel_rfl) (qf91L2_ok hfix hmay) loopsNil))))
theorem qf91_ctr : CtrOk PT 39 qf91ct :=
  @ctr_ok PT qf91E qf91H qf91_env mixed 39 Tryz.f39 qf91C (by kernel_rfl) (by kernel_rfl) (enters_of (by kernel_rfl : PT.funcs[39]? = some Tryz.f39) (by kernel_rfl) (by kernel_rfl)) qf91I qf91O qf91Y qf91Z id id id id (fun _ => rfl) (fun _ => rfl) (by kernel_rfl) (by kernel_rfl) qf91F qf91_bd (fun w0 Jo hfix hmay => qf91_lo hfix hmay)
end Go.Sx
