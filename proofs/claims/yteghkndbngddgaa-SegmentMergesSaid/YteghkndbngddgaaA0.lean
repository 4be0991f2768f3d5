/- A0: printed by a program of this session: the functions of the seat as plain functions, and that the code comes to them. -/
import Derived.Test.YteghkndbngddgaaSyL
import Derived.Test.YteghkndbngddgaaProg
import Derived.Test.YteghkndbngddgaaChecked
set_option linter.unusedVariables false
set_option maxRecDepth 100000
namespace Go.Sx
open Go.RowKit
abbrev TPage : Ty := (.pair (.int .i64) (.pair (.int .u64) (.pair (.arr 7 (.int .u64)) .unit)))
abbrev TPtr : Ty := (.pair (.int .i64) (.pair (.int .i64) .unit))
abbrev TRet : Ty := (.pair TPtr (.pair (.int .u32) .unit))
abbrev TNode : Ty := (.pair .bool (.pair (.int .u32) (.pair (.int .u32) (.pair (.int .i64) (.pair (.arr 4 TRet) .unit)))))
abbrev THead : Ty := (.pair (.int .i64) (.pair (.int .u32) .unit))
abbrev TClaim : Ty := (.pair (.int .i64) (.pair (.int .i64) TPtr))
noncomputable def tfl : List (Nat × Ty) := [
  (1, (.cell .func)),
  (2, (.int .i64)),
  (3, (.int .i64)),
  (4, .bool),
  (5, (.int .u8)),
  (6, (.int .u8)),
  (7, (.pair (.int .i64) (.pair (.int .i64) (.pair .bool (.pair (.int .u8) .unit))))),
  (8, (.pair (.int .i64) (.pair (.int .i64) (.pair .bool (.pair (.int .u8) .unit))))),
  (9, .str),
  (10, .str),
  (11, .str),
  (12, (.int .u64)),
  (15, (.cell .ptr)),
  (16, (.cell .ptr)),
  (17, (.cell .ptr)),
  (21, (.int .i32)),
  (22, (.int .u64)),
  (23, (.arr 7 (.int .u64))),
  (24, TPage),
  (25, TPage),
  (26, (.int .u32)),
  (27, (.cell .func)),
  (28, (.int .i64)),
  (30, (.cell .func)),
  (32, (.cell .func)),
  (33, (.cell .func)),
  (34, (.cell .func)),
  (35, (.slice TPage)),
  (36, (.cell .func)),
  (37, (.cell .func)),
  (38, THead),
  (39, THead),
  (40, TPtr),
  (41, TPtr),
  (42, TRet),
  (43, TRet),
  (44, (.arr 4 TRet)),
  (45, TNode),
  (46, TNode),
  (47, (.cell .func)),
  (48, (.int .u64)),
  (50, (.cell .func)),
  (51, THead),
  (53, (.cell .func)),
  (55, (.cell .func)),
  (56, TPtr),
  (57, TRet),
  (58, TRet),
  (59, (.arr 4 TRet)),
  (60, TNode),
  (61, TNode),
  (63, (.cell .func)),
  (64, (.cell .func)),
  (65, (.cell .func)),
  (66, (.cell .func)),
  (67, (.cell .func)),
  (68, (.cell .func)),
  (69, (.cell .func)),
  (70, (.cell .func)),
  (71, (.cell .func)),
  (73, (.cell .func)),
  (74, (.cell .func)),
  (75, (.cell .func)),
  (76, (.cell .func)),
  (77, (.cell .func)),
  (78, (.cell .ptr)),
  (79, (.cell .func)),
  (80, (.slice (.pair (.int .u32) (.pair (.arr 3 (.int .i64)) .unit)))),
  (81, (.slice (.pair (.int .u32) (.pair (.arr 3 (.int .i64)) .unit)))),
  (82, (.pair (.int .i64) THead)),
  (83, (.pair (.int .i64) THead)),
  (84, (.pair (.slice TPage) (.pair (.int .i64) (.pair (.int .i64) (.pair (.slice (.pair (.int .u32) (.pair (.arr 3 (.int .i64)) .unit))) (.pair (.pair (.int .i64) THead) .unit)))))),
  (85, (.pair (.slice TPage) (.pair (.int .i64) (.pair (.int .i64) (.pair (.slice (.pair (.int .u32) (.pair (.arr 3 (.int .i64)) .unit))) (.pair (.pair (.int .i64) THead) .unit)))))),
  (86, (.slice (.int .i64))),
  (88, (.cell .func)),
  (89, TClaim),
  (90, TClaim),
  (91, (.cell .func)),
  (93, (.cell .func)),
  (94, (.pair (.int .i64) TPtr)),
  (95, (.pair (.int .i64) TPtr)),
  (96, (.cell .func)),
  (97, (.cell .func)),
  (98, (.slice (.pair (.int .i64) (.pair (.int .i64) (.pair .bool (.pair (.int .i64) .unit)))))),
  (99, (.slice (.pair TPtr .unit))),
  (100, (.pair (.int .i64) (.pair (.int .i64) (.pair .bool (.pair (.int .i64) .unit))))),
  (101, (.pair (.int .i64) (.pair (.int .i64) (.pair .bool (.pair (.int .i64) .unit))))),
  (103, (.cell .func)),
  (104, (.pair TPtr .unit)),
  (105, (.pair TPtr .unit)),
  (106, (.slice TPtr)),
  (107, (.cell .func)),
  (108, (.cell .func)),
  (109, (.cell .func)),
  (110, (.cell .func)),
  (111, (.slice (.int .u64))),
  (113, (.cell .func)),
  (114, (.cell .func)),
  (115, (.cell .func)),
  (116, (.cell .func)),
  (117, (.cell .func)),
  (118, (.cell .func)),
  (119, (.cell .func)),
  (120, (.cell .map)),
  (121, (.cell .func)),
  (122, (.cell .func)),
  (123, (.cell .func)),
  (125, (.cell .func)),
  (126, (.cell .func)),
  (127, (.cell .func)),
  (129, (.cell .func)),
  (131, (.cell .func)),
  (132, (.cell .map)),
  (133, (.cell .func)),
  (135, (.cell .func)),
  (136, (.pair (.int .i64) THead)),
  (137, (.pair (.int .i64) THead)),
  (138, (.cell .func)),
  (139, (.cell .func)),
  (141, (.cell .func)),
  (142, (.cell .func)),
  (143, (.cell .func)),
  (144, (.cell .func)),
  (145, (.cell .func)),
  (146, (.cell .func)),
  (147, (.cell .func)),
  (148, (.slice (.slice TPage))),
  (149, (.cell .func)),
  (150, (.cell .func)),
  (151, (.cell .func)),
  (152, (.cell .func)),
  (153, (.cell .func)),
  (154, (.cell .func)),
  (155, (.cell .func)),
  (156, (.cell .func)),
  (157, (.cell .func)),
  (158, (.cell .func)),
  (159, (.cell .func)),
  (160, (.cell .func)),
  (161, (.cell .func)),
  (162, (.cell .func)),
  (163, (.int .i64)),
  (165, (.cell .func)),
  (166, (.cell .func)),
  (167, (.cell .func)),
  (168, (.cell .func)),
  (169, (.cell .func)),
  (170, (.cell .func)),
  (171, (.int .u64)),
  (172, (.cell .func)),
  (173, (.cell .func)),
  (174, (.cell .func)),
  (175, (.cell .ptr)),
  (176, (.cell .func)),
  (177, (.cell .ptr)),
  (179, (.cell .func)),
  (180, (.cell .func)),
  (183, (.arr 0 (.cell .ptr))),
  (186, (.cell .func)),
  (187, (.int .u8)),
  (188, (.int .u8)),
  (189, (.cell .func)),
  (190, (.cell .ptr)),
  (191, (.int .i32)),
  (192, (.int .i32)),
  (195, (.cell .func)),
  (196, (.arr 3 (.int .i64))),
  (197, (.pair (.int .u32) (.pair (.arr 3 (.int .i64)) .unit))),
  (198, (.pair (.int .u32) (.pair (.arr 3 (.int .i64)) .unit)))]
noncomputable abbrev PT := Go.Proofs.Try.prog
noncomputable def tfE : Nat → Option Ty := lookT tfl
theorem tfAll : (tfl.all fun p => tyB PT tfE p.1 p.2) = true := by kernel_rfl
theorem tyE : ∀ t ty, tfE t = some ty → TyOk PT tfE t ty := fun t ty h => TyOk.of (List.all_eq_true.1 tfAll (t, ty) (lookT_mem h))
noncomputable def mtl : List (Nat × (IntKind × Nat × Ty)) := [(120, .i64, 25, TPage), (132, .i64, 39, THead)]
noncomputable def mtE : Nat → Option (IntKind × Nat × Ty) := lookT mtl
theorem mtAll : (mtl.all fun p => mtB PT tfE p.1 p.2.1 p.2.2.1 p.2.2.2) = true := by kernel_rfl
theorem mapE : ∀ t k e ty, mtE t = some (k, e, ty) → MtOk PT tfE t k e ty := fun t k e ty h => MtOk.of (List.all_eq_true.1 mtAll (t, (k, e, ty)) (lookT_mem h))
theorem mixed : PT.follows .mixedOrders = true := by kernel_rfl
end Go.Sx

set_option linter.unusedVariables false
set_option maxRecDepth 100000
namespace Go.Sx
open Go.RowKit
/-- bodega/bodegahand.Pick -/
noncomputable def hand_Pick (a0 : Int) (a1 : Int) : Option Int :=
  bif (decide (a1 < (1 : Int))) then (
    some (0 : Int))
  else (
    bif (!(decide (a1 = (0 : Int)))) then
    bif (!(decide (a1 = (0 : Int)))) then
    some (Int.tmod (IntKind.wrap .i64 ((Int.tmod a0 a1) + a1)) a1)
    else none
    else none)
noncomputable def hand_PickI : Shape := { n := 14, nx := 0, sl := [(0, .dat false (.int .i64)), (1, .dat false (.int .i64))], ob := [], fix := [], may := true }
noncomputable def hand_PickO : Shape := { n := 15, nx := 0, sl := [(14, .dat true (.int .i64))], ob := [], fix := [], may := true }
noncomputable def hand_PickF : (Int × Int) → Option Int := fun y => hand_Pick y.1 y.2
noncomputable def hand_Pickct : Ctr := ctrOf hand_PickI hand_PickO (fun d => d) (fun d => d) hand_PickF
noncomputable def hand_PickE : Env := { tf := tfE, mt := mtE, fn := fun f => none }
theorem hand_Pick_env : EnvOk PT hand_PickE := ⟨tyE, (fun f ct h => by
  simp only [hand_PickE] at h
  cases h), mapE⟩
noncomputable def hand_PickC : Code := bodyOf Go.Proofs.Try.f10
noncomputable def hand_PickH : Nat → Option Sum := fun n => none
theorem hand_Pick_bd (y : Int × Int) : @Eq (Option Int) (exec hand_PickE hand_PickH hand_PickC (hand_PickI.mk' (show hand_PickI.D from y)) (kontF (Z := Int) hand_PickE Go.Proofs.Try.f10.results.toList hand_PickO (fun d => d))) (hand_PickF y) := by kernel_rfl
theorem hand_Pick_lo {w0 : World} {Jo : Io} (hfix : ∀ i b, Jo.fix i = some b → i ∈ []) (hmay : true = true → Jo.may) : LoopsOk PT w0 Jo hand_PickH hand_PickC := (noLoops (by kernel_rfl))
theorem hand_Pick_ctr : CtrOk PT 10 hand_Pickct :=
  @ctr_ok PT hand_PickE hand_PickH hand_Pick_env mixed 10 Go.Proofs.Try.f10 hand_PickC (by kernel_rfl) (by kernel_rfl) (enters_of (by kernel_rfl : PT.funcs[10]? = some Go.Proofs.Try.f10) (by kernel_rfl) (by kernel_rfl)) hand_PickI hand_PickO (Int × Int) Int (fun d => d) (fun d => d) (fun d => d) (fun d => d) (fun _ => rfl) (fun _ => rfl) (by kernel_rfl) (by kernel_rfl) hand_PickF hand_Pick_bd (fun w0 Jo hfix hmay => hand_Pick_lo hfix hmay)

noncomputable def heap_SamePagesL1b (x0 : Val (.slice TPage)) (x1 : Val (.slice TPage)) (x2 : Int) : Option (((Val (.slice TPage)) × (Val (.slice TPage)) × Int) ⊕ ((Unit) ⊕ (Bool))) :=
  bif (decide (x2 < (((List.length x0) : Nat) : Int))) then (
    bif (inR x2 (List.length x0)) then
    bif (inR x2 (List.length x1)) then
    bif (!(decide ((List.getD x0 (Int.toNat x2) ((0 : Int), ((0 : Int), ((List.replicate 7 (0 : Int)), ())))).1 = (List.getD x1 (Int.toNat x2) ((0 : Int), ((0 : Int), ((List.replicate 7 (0 : Int)), ())))).1))) then (
      some (Sum.inr (Sum.inr false)))
    else (
      bif (inR x2 (List.length x0)) then
      bif (inR x2 (List.length x1)) then
      bif (!(decide ((List.getD x0 (Int.toNat x2) ((0 : Int), ((0 : Int), ((List.replicate 7 (0 : Int)), ())))).2.1 = (List.getD x1 (Int.toNat x2) ((0 : Int), ((0 : Int), ((List.replicate 7 (0 : Int)), ())))).2.1))) then (
        some (Sum.inr (Sum.inr false)))
      else (
        bif (inR x2 (List.length x0)) then
        bif (inR x2 (List.length x1)) then
        bif (!(eqV (.arr 7 (.int .u64)) (List.getD x0 (Int.toNat x2) ((0 : Int), ((0 : Int), ((List.replicate 7 (0 : Int)), ())))).2.2.1 (List.getD x1 (Int.toNat x2) ((0 : Int), ((0 : Int), ((List.replicate 7 (0 : Int)), ())))).2.2.1)) then (
          some (Sum.inr (Sum.inr false)))
        else (
          some (Sum.inl (x0, (x1, (IntKind.wrap .i64 (x2 + (1 : Int)))))))
        else none
        else none)
      else none
      else none)
    else none
    else none)
  else (
    some (Sum.inr (Sum.inl ())))
noncomputable def heap_SamePagesL1B : ((Val (.slice TPage)) × (Val (.slice TPage)) × Int) → Option (((Val (.slice TPage)) × (Val (.slice TPage)) × Int) ⊕ ((Unit) ⊕ (Bool))) := fun y => heap_SamePagesL1b y.1 y.2.1 y.2.2
noncomputable def heap_SamePagesL1 (x0 : Val (.slice TPage)) (x1 : Val (.slice TPage)) (x2 : Int) : Option ((Unit) ⊕ (Bool)) := iter heap_SamePagesL1B (x0, (x1, x2))
/-- bodega/bodegaheap.SamePages -/
noncomputable def heap_SamePages (a0 : Val (.slice TPage)) (a1 : Val (.slice TPage)) : Option Bool :=
  bif (!(decide ((((List.length a0) : Nat) : Int) = (((List.length a1) : Nat) : Int)))) then (
    some false)
  else (
    (heap_SamePagesL1 a0 a1 (0 : Int)).bind fun r1 =>
    match r1 with
    | .inl r2 => (
      some true)
    | .inr r3 => (
      some r3))
noncomputable def heap_SamePagesI : Shape := { n := 54, nx := 0, sl := [(0, .dat false (.slice TPage)), (1, .dat false (.slice TPage))], ob := [], fix := [], may := true }
noncomputable def heap_SamePagesO : Shape := { n := 55, nx := 0, sl := [(54, .dat true .bool)], ob := [], fix := [], may := true }
noncomputable def heap_SamePagesF : ((Val (.slice TPage)) × (Val (.slice TPage))) → Option Bool := fun y => heap_SamePages y.1 y.2
noncomputable def heap_SamePagesct : Ctr := ctrOf heap_SamePagesI heap_SamePagesO (fun d => d) (fun d => d) heap_SamePagesF
noncomputable def heap_SamePagesE : Env := { tf := tfE, mt := mtE, fn := fun f => none }
theorem heap_SamePages_env : EnvOk PT heap_SamePagesE := ⟨tyE, (fun f ct h => by
  simp only [heap_SamePagesE] at h
  cases h), mapE⟩
noncomputable def heap_SamePagesC : Code := bodyOf Go.Proofs.Try.f16
noncomputable def heap_SamePagesL1C : Code := (loopsOf heap_SamePagesC).getD 0 .skip
noncomputable def heap_SamePagesL1S : Shape := { n := 54, nx := 0, sl := [(0, .dat false (.slice TPage)), (1, .dat false (.slice TPage)), (5, .dat true (.int .i64))], ob := [], fix := [], may := true }
noncomputable def heap_SamePagesL1O : List (Ex × Shape) := [(.exit 0, { n := 54, nx := 0, sl := [], ob := [], fix := [], may := true }), (.ret, { n := 54, nx := 0, sl := [(4, .dat true .bool)], ob := [], fix := [], may := true })]
noncomputable def heap_SamePagesL1M : Sum := loopSum (Y := (Val (.slice TPage)) × (Val (.slice TPage)) × Int) (Z := (Unit) ⊕ (Bool)) heap_SamePagesL1S heap_SamePagesL1O (fun d => d) (fun d => d) (iter heap_SamePagesL1B)
noncomputable def heap_SamePagesH : Nat → Option Sum := fun n => bif Nat.beq n 4 then some heap_SamePagesL1M else none
theorem heap_SamePagesL1_bd (y : (Val (.slice TPage)) × (Val (.slice TPage)) × Int) : @Eq (Option (((Val (.slice TPage)) × (Val (.slice TPage)) × Int) ⊕ ((Unit) ⊕ (Bool)))) (exec heap_SamePagesE heap_SamePagesH heap_SamePagesL1C (heap_SamePagesL1S.mk' (show heap_SamePagesL1S.D from y)) (kont (Y := (Val (.slice TPage)) × (Val (.slice TPage)) × Int) (Z := (Unit) ⊕ (Bool)) heap_SamePagesL1S heap_SamePagesL1O (fun d => d) (fun d => d))) (heap_SamePagesL1B y) := by kernel_rfl
theorem heap_SamePagesL1_ok {w0 : World} {Jo : Io} (hfix : ∀ i b, Jo.fix i = some b → i ∈ []) (hmay : true = true → Jo.may) : SumOk PT w0 Jo heap_SamePagesL1M (.loop heap_SamePagesL1C) :=
  @loop_ok w0 Jo PT heap_SamePagesE heap_SamePagesH ((Val (.slice TPage)) × (Val (.slice TPage)) × Int) ((Unit) ⊕ (Bool)) heap_SamePages_env mixed heap_SamePagesL1C heap_SamePagesL1S heap_SamePagesL1O (fun d => d) (fun d => d) (fun d => d) (fun d => d) (fun _ => rfl) (fun _ => rfl) hfix hmay (by kernel_rfl) (noLoops (by kernel_rfl)) heap_SamePagesL1B heap_SamePagesL1_bd
theorem heap_SamePages_bd (y : (Val (.slice TPage)) × (Val (.slice TPage))) : @Eq (Option Bool) (exec heap_SamePagesE heap_SamePagesH heap_SamePagesC (heap_SamePagesI.mk' (show heap_SamePagesI.D from y)) (kontF (Z := Bool) heap_SamePagesE Go.Proofs.Try.f16.results.toList heap_SamePagesO (fun d => d))) (heap_SamePagesF y) := by kernel_rfl
theorem heap_SamePages_lo {w0 : World} {Jo : Io} (hfix : ∀ i b, Jo.fix i = some b → i ∈ []) (hmay : true = true → Jo.may) : LoopsOk PT w0 Jo heap_SamePagesH heap_SamePagesC := (loopsMk (by kernel_rfl) (loopsCons (c := heap_SamePagesL1C) (n := 4) (f := heap_SamePagesL1M) (by kernel_rfl) (by kernel_rfl) (heap_SamePagesL1_ok hfix hmay) loopsNil))
theorem heap_SamePages_ctr : CtrOk PT 16 heap_SamePagesct :=
  @ctr_ok PT heap_SamePagesE heap_SamePagesH heap_SamePages_env mixed 16 Go.Proofs.Try.f16 heap_SamePagesC (by kernel_rfl) (by kernel_rfl) (enters_of (by kernel_rfl : PT.funcs[16]? = some Go.Proofs.Try.f16) (by kernel_rfl) (by kernel_rfl)) heap_SamePagesI heap_SamePagesO ((Val (.slice TPage)) × (Val (.slice TPage))) Bool (fun d => d) (fun d => d) (fun d => d) (fun d => d) (fun _ => rfl) (fun _ => rfl) (by kernel_rfl) (by kernel_rfl) heap_SamePagesF heap_SamePages_bd (fun w0 Jo hfix hmay => heap_SamePages_lo hfix hmay)

end Go.Sx

set_option linter.unusedVariables false
set_option maxRecDepth 100000
namespace Go.Sx
open Go.RowKit
noncomputable def str1 : ByteArray := (ByteArray.mk (List.toArray (List.append (List.append [0, 1, 2, 2, 3, 3, 3, 3, 4, 4, 4, 4, 4, 4, 4, 4, 5, 5, 5, 5, 5, 5, 5, 5, 5, 5, 5, 5, 5, 5, 5, 5, 6, 6, 6, 6, 6, 6, 6, 6, 6, 6, 6, 6, 6, 6, 6, 6, 6, 6, 6, 6, 6, 6, 6, 6, 6, 6, 6, 6, 6, 6, 6, 6] [7, 7, 7, 7, 7, 7, 7, 7, 7, 7, 7, 7, 7, 7, 7, 7, 7, 7, 7, 7, 7, 7, 7, 7, 7, 7, 7, 7, 7, 7, 7, 7, 7, 7, 7, 7, 7, 7, 7, 7, 7, 7, 7, 7, 7, 7, 7, 7, 7, 7, 7, 7, 7, 7, 7, 7, 7, 7, 7, 7, 7, 7, 7, 7]) (List.append [8, 8, 8, 8, 8, 8, 8, 8, 8, 8, 8, 8, 8, 8, 8, 8, 8, 8, 8, 8, 8, 8, 8, 8, 8, 8, 8, 8, 8, 8, 8, 8, 8, 8, 8, 8, 8, 8, 8, 8, 8, 8, 8, 8, 8, 8, 8, 8, 8, 8, 8, 8, 8, 8, 8, 8, 8, 8, 8, 8, 8, 8, 8, 8] [8, 8, 8, 8, 8, 8, 8, 8, 8, 8, 8, 8, 8, 8, 8, 8, 8, 8, 8, 8, 8, 8, 8, 8, 8, 8, 8, 8, 8, 8, 8, 8, 8, 8, 8, 8, 8, 8, 8, 8, 8, 8, 8, 8, 8, 8, 8, 8, 8, 8, 8, 8, 8, 8, 8, 8, 8, 8, 8, 8, 8, 8, 8, 8]))))
/-- bodega/segment.isSize -/
noncomputable def segment_isSize (a0 : Int) : Option Bool :=
  bif (decide ((104 : Int) ≤ a0)) then (
    some (decide (a0 ≤ (256 : Int))))
  else (
    some false)
noncomputable def segment_isSizeI : Shape := { n := 9, nx := 0, sl := [(0, .dat false (.int .i64))], ob := [], fix := [], may := true }
noncomputable def segment_isSizeO : Shape := { n := 10, nx := 0, sl := [(9, .dat true .bool)], ob := [], fix := [], may := true }
noncomputable def segment_isSizeF : Int → Option Bool := fun y => segment_isSize y
noncomputable def segment_isSizect : Ctr := ctrOf segment_isSizeI segment_isSizeO (fun d => d) (fun d => d) segment_isSizeF
noncomputable def segment_isSizeE : Env := { tf := tfE, mt := mtE, fn := fun f => none }
theorem segment_isSize_env : EnvOk PT segment_isSizeE := ⟨tyE, (fun f ct h => by
  simp only [segment_isSizeE] at h
  cases h), mapE⟩
noncomputable def segment_isSizeC : Code := bodyOf Go.Proofs.Try.f60
noncomputable def segment_isSizeH : Nat → Option Sum := fun n => none
theorem segment_isSize_bd (y : Int) : @Eq (Option Bool) (exec segment_isSizeE segment_isSizeH segment_isSizeC (segment_isSizeI.mk' (show segment_isSizeI.D from y)) (kontF (Z := Bool) segment_isSizeE Go.Proofs.Try.f60.results.toList segment_isSizeO (fun d => d))) (segment_isSizeF y) := by kernel_rfl
theorem segment_isSize_lo {w0 : World} {Jo : Io} (hfix : ∀ i b, Jo.fix i = some b → i ∈ []) (hmay : true = true → Jo.may) : LoopsOk PT w0 Jo segment_isSizeH segment_isSizeC := (noLoops (by kernel_rfl))
theorem segment_isSize_ctr : CtrOk PT 60 segment_isSizect :=
  @ctr_ok PT segment_isSizeE segment_isSizeH segment_isSize_env mixed 60 Go.Proofs.Try.f60 segment_isSizeC (by kernel_rfl) (by kernel_rfl) (enters_of (by kernel_rfl : PT.funcs[60]? = some Go.Proofs.Try.f60) (by kernel_rfl) (by kernel_rfl)) segment_isSizeI segment_isSizeO Int Bool (fun d => d) (fun d => d) (fun d => d) (fun d => d) (fun _ => rfl) (fun _ => rfl) (by kernel_rfl) (by kernel_rfl) segment_isSizeF segment_isSize_bd (fun w0 Jo hfix hmay => segment_isSize_lo hfix hmay)

/-- bodega/segment.Count -/
noncomputable def segment_Count (a0 : Int) : Option Int :=
  (segment_isSize a0).bind fun r1 =>
  bif (!r1) then (
    some (0 : Int))
  else (
    some (IntKind.wrap .i64 (Int.tdiv (IntKind.wrap .i64 (a0 - (104 : Int))) (16 : Int))))
noncomputable def segment_CountI : Shape := { n := 9, nx := 0, sl := [(0, .dat false (.int .i64))], ob := [], fix := [], may := true }
noncomputable def segment_CountO : Shape := { n := 10, nx := 0, sl := [(9, .dat true (.int .i64))], ob := [], fix := [], may := true }
noncomputable def segment_CountF : Int → Option Int := fun y => segment_Count y
noncomputable def segment_Countct : Ctr := ctrOf segment_CountI segment_CountO (fun d => d) (fun d => d) segment_CountF
noncomputable def segment_CountE : Env := { tf := tfE, mt := mtE, fn := fun f => bif Nat.beq f 60 then some segment_isSizect else none }
theorem segment_Count_env : EnvOk PT segment_CountE := ⟨tyE, (fun f ct h => by
  simp only [segment_CountE] at h
  refine envCons (c := segment_isSizect) h segment_isSize_ctr (fun h => ?_)
  cases h), mapE⟩
noncomputable def segment_CountC : Code := bodyOf Go.Proofs.Try.f34
noncomputable def segment_CountH : Nat → Option Sum := fun n => none
theorem segment_Count_bd (y : Int) : @Eq (Option Int) (exec segment_CountE segment_CountH segment_CountC (segment_CountI.mk' (show segment_CountI.D from y)) (kontF (Z := Int) segment_CountE Go.Proofs.Try.f34.results.toList segment_CountO (fun d => d))) (segment_CountF y) := by kernel_rfl
theorem segment_Count_lo {w0 : World} {Jo : Io} (hfix : ∀ i b, Jo.fix i = some b → i ∈ []) (hmay : true = true → Jo.may) : LoopsOk PT w0 Jo segment_CountH segment_CountC := (noLoops (by kernel_rfl))
theorem segment_Count_ctr : CtrOk PT 34 segment_Countct :=
  @ctr_ok PT segment_CountE segment_CountH segment_Count_env mixed 34 Go.Proofs.Try.f34 segment_CountC (by kernel_rfl) (by kernel_rfl) (enters_of (by kernel_rfl : PT.funcs[34]? = some Go.Proofs.Try.f34) (by kernel_rfl) (by kernel_rfl)) segment_CountI segment_CountO Int Int (fun d => d) (fun d => d) (fun d => d) (fun d => d) (fun _ => rfl) (fun _ => rfl) (by kernel_rfl) (by kernel_rfl) segment_CountF segment_Count_bd (fun w0 Jo hfix hmay => segment_Count_lo hfix hmay)

noncomputable def heap_NewL1b (x0 : Int) (x1 : Int) (x2 : Int) (x3 : Int) (x4 : Val (.pair (.int .i64) THead)) (x5 : Val (.slice TPage)) : Option ((Int × Int × Int × Int × (Val (.pair (.int .i64) THead)) × (Val (.slice TPage))) ⊕ (Int × Int × (Val (.pair (.int .i64) THead)) × (Val (.slice TPage)))) :=
  bif (decide (x1 < x0)) then (
    bif (decide (((List.length x5) + 1) ≤ lim)) then
    some (Sum.inl (x0, ((IntKind.wrap .i64 (x1 + (1 : Int))), (x2, (x3, (x4, (x5 ++ [(x1, ((256 : Int), ((List.replicate 7 (0 : Int)), ())))])))))))
    else none)
  else (
    some (Sum.inr (x2, (x3, (x4, x5)))))
noncomputable def heap_NewL1B : (Int × Int × Int × Int × (Val (.pair (.int .i64) THead)) × (Val (.slice TPage))) → Option ((Int × Int × Int × Int × (Val (.pair (.int .i64) THead)) × (Val (.slice TPage))) ⊕ (Int × Int × (Val (.pair (.int .i64) THead)) × (Val (.slice TPage)))) := fun y => heap_NewL1b y.1 y.2.1 y.2.2.1 y.2.2.2.1 y.2.2.2.2.1 y.2.2.2.2.2
noncomputable def heap_NewL1 (x0 : Int) (x1 : Int) (x2 : Int) (x3 : Int) (x4 : Val (.pair (.int .i64) THead)) (x5 : Val (.slice TPage)) : Option (Int × Int × (Val (.pair (.int .i64) THead)) × (Val (.slice TPage))) := iter heap_NewL1B (x0, (x1, (x2, (x3, (x4, x5)))))
/-- bodega/bodegaheap.New -/
noncomputable def heap_New (a0 : Int) : Option (Int × Int × (Val (.pair (.int .i64) THead)) × (Val (.slice TPage))) :=
  (heap_NewL1 a0 (96 : Int) a0 (0 : Int) ((1 : Int), ((0 : Int), ((1 : Int), ()))) []).bind fun r1 =>
  some (r1.1, (r1.2.1, (r1.2.2.1, r1.2.2.2)))
noncomputable def heap_NewI : Shape := { n := 26, nx := 0, sl := [(0, .dat false (.int .i64))], ob := [], fix := [], may := true }
noncomputable def heap_NewO : Shape := { n := 27, nx := 2, sl := [(26, .ref 0 [])], ob := [(0, .box (.pair (.slice TPage) (.pair (.int .i64) (.pair (.int .i64) (.pair (.slice (.pair (.int .u32) (.pair (.arr 3 (.int .i64)) .unit))) (.pair (.pair (.int .i64) THead) .unit))))) (.cons (.own TPage 1) (.cons (.dat false (.int .i64)) (.cons (.dat true (.int .i64)) (.cons (.nils) (.cons (.dat true (.pair (.int .i64) THead)) (.nil))))))), (1, .slc true TPage)], fix := [], may := true }
noncomputable def heap_NewF : Int → Option (Int × Int × (Val (.pair (.int .i64) THead)) × (Val (.slice TPage))) := fun y => heap_New y
noncomputable def heap_Newct : Ctr := ctrOf heap_NewI heap_NewO (fun d => d) (fun d => d) heap_NewF
noncomputable def heap_NewE : Env := { tf := tfE, mt := mtE, fn := fun f => none }
theorem heap_New_env : EnvOk PT heap_NewE := ⟨tyE, (fun f ct h => by
  simp only [heap_NewE] at h
  cases h), mapE⟩
noncomputable def heap_NewC : Code := bodyOf Go.Proofs.Try.f40
noncomputable def heap_NewL1C : Code := (loopsOf heap_NewC).getD 0 .skip
noncomputable def heap_NewL1S : Shape := { n := 26, nx := 2, sl := [(0, .dat false (.int .i64)), (3, .ref 0 []), (4, .dat true (.int .i64))], ob := [(0, .box (.pair (.slice TPage) (.pair (.int .i64) (.pair (.int .i64) (.pair (.slice (.pair (.int .u32) (.pair (.arr 3 (.int .i64)) .unit))) (.pair (.pair (.int .i64) THead) .unit))))) (.cons (.own TPage 1) (.cons (.dat false (.int .i64)) (.cons (.dat true (.int .i64)) (.cons (.nils) (.cons (.dat true (.pair (.int .i64) THead)) (.nil))))))), (1, .slc true TPage)], fix := [], may := true }
noncomputable def heap_NewL1O : List (Ex × Shape) := [(.exit 0, { n := 26, nx := 2, sl := [(3, .ref 0 [])], ob := [(0, .box (.pair (.slice TPage) (.pair (.int .i64) (.pair (.int .i64) (.pair (.slice (.pair (.int .u32) (.pair (.arr 3 (.int .i64)) .unit))) (.pair (.pair (.int .i64) THead) .unit))))) (.cons (.own TPage 1) (.cons (.dat false (.int .i64)) (.cons (.dat true (.int .i64)) (.cons (.nils) (.cons (.dat true (.pair (.int .i64) THead)) (.nil))))))), (1, .slc true TPage)], fix := [], may := true })]
noncomputable def heap_NewL1M : Sum := loopSum (Y := Int × Int × Int × Int × (Val (.pair (.int .i64) THead)) × (Val (.slice TPage))) (Z := Int × Int × (Val (.pair (.int .i64) THead)) × (Val (.slice TPage))) heap_NewL1S heap_NewL1O (fun d => d) (fun d => d) (iter heap_NewL1B)
noncomputable def heap_NewH : Nat → Option Sum := fun n => bif Nat.beq n 3 then some heap_NewL1M else none
theorem heap_NewL1_bd (y : Int × Int × Int × Int × (Val (.pair (.int .i64) THead)) × (Val (.slice TPage))) : @Eq (Option ((Int × Int × Int × Int × (Val (.pair (.int .i64) THead)) × (Val (.slice TPage))) ⊕ (Int × Int × (Val (.pair (.int .i64) THead)) × (Val (.slice TPage))))) (exec heap_NewE heap_NewH heap_NewL1C (heap_NewL1S.mk' (show heap_NewL1S.D from y)) (kont (Y := Int × Int × Int × Int × (Val (.pair (.int .i64) THead)) × (Val (.slice TPage))) (Z := Int × Int × (Val (.pair (.int .i64) THead)) × (Val (.slice TPage))) heap_NewL1S heap_NewL1O (fun d => d) (fun d => d))) (heap_NewL1B y) := by kernel_rfl
theorem heap_NewL1_ok {w0 : World} {Jo : Io} (hfix : ∀ i b, Jo.fix i = some b → i ∈ []) (hmay : true = true → Jo.may) : SumOk PT w0 Jo heap_NewL1M (.loop heap_NewL1C) :=
  @loop_ok w0 Jo PT heap_NewE heap_NewH (Int × Int × Int × Int × (Val (.pair (.int .i64) THead)) × (Val (.slice TPage))) (Int × Int × (Val (.pair (.int .i64) THead)) × (Val (.slice TPage))) heap_New_env mixed heap_NewL1C heap_NewL1S heap_NewL1O (fun d => d) (fun d => d) (fun d => d) (fun d => d) (fun _ => rfl) (fun _ => rfl) hfix hmay (by kernel_rfl) (noLoops (by kernel_rfl)) heap_NewL1B heap_NewL1_bd
theorem heap_New_bd (y : Int) : @Eq (Option (Int × Int × (Val (.pair (.int .i64) THead)) × (Val (.slice TPage)))) (exec heap_NewE heap_NewH heap_NewC (heap_NewI.mk' (show heap_NewI.D from y)) (kontF (Z := Int × Int × (Val (.pair (.int .i64) THead)) × (Val (.slice TPage))) heap_NewE Go.Proofs.Try.f40.results.toList heap_NewO (fun d => d))) (heap_NewF y) := by kernel_rfl
theorem heap_New_lo {w0 : World} {Jo : Io} (hfix : ∀ i b, Jo.fix i = some b → i ∈ []) (hmay : true = true → Jo.may) : LoopsOk PT w0 Jo heap_NewH heap_NewC := (loopsMk (by kernel_rfl) (loopsCons (c := heap_NewL1C) (n := 3) (f := heap_NewL1M) (by kernel_rfl) (by kernel_rfl) (heap_NewL1_ok hfix hmay) loopsNil))
theorem heap_New_ctr : CtrOk PT 40 heap_Newct :=
  @ctr_ok PT heap_NewE heap_NewH heap_New_env mixed 40 Go.Proofs.Try.f40 heap_NewC (by kernel_rfl) (by kernel_rfl) (enters_of (by kernel_rfl : PT.funcs[40]? = some Go.Proofs.Try.f40) (by kernel_rfl) (by kernel_rfl)) heap_NewI heap_NewO Int (Int × Int × (Val (.pair (.int .i64) THead)) × (Val (.slice TPage))) (fun d => d) (fun d => d) (fun d => d) (fun d => d) (fun _ => rfl) (fun _ => rfl) (by kernel_rfl) (by kernel_rfl) heap_NewF heap_New_bd (fun w0 Jo hfix hmay => heap_New_lo hfix hmay)

/-- bodega/segment.isClient -/
noncomputable def segment_isClient (a0 : Int) : Option Bool :=
  bif (decide ((0 : Int) ≤ a0)) then (
    some (decide (a0 < (6 : Int))))
  else (
    some false)
noncomputable def segment_isClientI : Shape := { n := 9, nx := 0, sl := [(0, .dat false (.int .i64))], ob := [], fix := [], may := true }
noncomputable def segment_isClientO : Shape := { n := 10, nx := 0, sl := [(9, .dat true .bool)], ob := [], fix := [], may := true }
noncomputable def segment_isClientF : Int → Option Bool := fun y => segment_isClient y
noncomputable def segment_isClientct : Ctr := ctrOf segment_isClientI segment_isClientO (fun d => d) (fun d => d) segment_isClientF
noncomputable def segment_isClientE : Env := { tf := tfE, mt := mtE, fn := fun f => none }
theorem segment_isClient_env : EnvOk PT segment_isClientE := ⟨tyE, (fun f ct h => by
  simp only [segment_isClientE] at h
  cases h), mapE⟩
noncomputable def segment_isClientC : Code := bodyOf Go.Proofs.Try.f63
noncomputable def segment_isClientH : Nat → Option Sum := fun n => none
theorem segment_isClient_bd (y : Int) : @Eq (Option Bool) (exec segment_isClientE segment_isClientH segment_isClientC (segment_isClientI.mk' (show segment_isClientI.D from y)) (kontF (Z := Bool) segment_isClientE Go.Proofs.Try.f63.results.toList segment_isClientO (fun d => d))) (segment_isClientF y) := by kernel_rfl
theorem segment_isClient_lo {w0 : World} {Jo : Io} (hfix : ∀ i b, Jo.fix i = some b → i ∈ []) (hmay : true = true → Jo.may) : LoopsOk PT w0 Jo segment_isClientH segment_isClientC := (noLoops (by kernel_rfl))
theorem segment_isClient_ctr : CtrOk PT 63 segment_isClientct :=
  @ctr_ok PT segment_isClientE segment_isClientH segment_isClient_env mixed 63 Go.Proofs.Try.f63 segment_isClientC (by kernel_rfl) (by kernel_rfl) (enters_of (by kernel_rfl : PT.funcs[63]? = some Go.Proofs.Try.f63) (by kernel_rfl) (by kernel_rfl)) segment_isClientI segment_isClientO Int Bool (fun d => d) (fun d => d) (fun d => d) (fun d => d) (fun _ => rfl) (fun _ => rfl) (by kernel_rfl) (by kernel_rfl) segment_isClientF segment_isClient_bd (fun w0 Jo hfix hmay => segment_isClient_lo hfix hmay)

noncomputable def pointer_LatestL1b (x0 : Val (.slice TPage)) (x1 : Int) (x2 : Int) (x3 : Val TPage) : Option (((Val (.slice TPage)) × Int × Int × (Val TPage)) ⊕ (((Val TPage)) ⊕ (Bool × (Val TPage)))) :=
  bif (decide ((0 : Int) ≤ x2)) then (
    bif (inR x2 (List.length x0)) then
    bif (decide ((List.getD x0 (Int.toNat x2) ((0 : Int), ((0 : Int), ((List.replicate 7 (0 : Int)), ())))).1 = x1)) then (
      bif (inR x2 (List.length x0)) then
      some (Sum.inr (Sum.inr (true, (List.getD x0 (Int.toNat x2) ((0 : Int), ((0 : Int), ((List.replicate 7 (0 : Int)), ())))))))
      else none)
    else (
      some (Sum.inl (x0, (x1, ((IntKind.wrap .i64 (x2 - (1 : Int))), x3)))))
    else none)
  else (
    some (Sum.inr (Sum.inl x3)))
noncomputable def pointer_LatestL1B : ((Val (.slice TPage)) × Int × Int × (Val TPage)) → Option (((Val (.slice TPage)) × Int × Int × (Val TPage)) ⊕ (((Val TPage)) ⊕ (Bool × (Val TPage)))) := fun y => pointer_LatestL1b y.1 y.2.1 y.2.2.1 y.2.2.2
noncomputable def pointer_LatestL1 (x0 : Val (.slice TPage)) (x1 : Int) (x2 : Int) (x3 : Val TPage) : Option (((Val TPage)) ⊕ (Bool × (Val TPage))) := iter pointer_LatestL1B (x0, (x1, (x2, x3)))
/-- bodega/pointer.Latest -/
noncomputable def pointer_Latest (a0 : Val (.slice TPage)) (a1 : Int) : Option ((Val TPage) × Bool) :=
  (pointer_LatestL1 a0 a1 (IntKind.wrap .i64 ((((List.length a0) : Nat) : Int) - (1 : Int))) ((0 : Int), ((0 : Int), ((List.replicate 7 (0 : Int)), ())))).bind fun r1 =>
  match r1 with
  | .inl r2 => (
    some (((0 : Int), ((0 : Int), ((List.replicate 7 (0 : Int)), ()))), false))
  | .inr r3 => (
    some (r3.2, r3.1))
noncomputable def pointer_LatestI : Shape := { n := 26, nx := 0, sl := [(0, .dat false (.slice TPage)), (1, .dat false (.int .i64))], ob := [], fix := [], may := true }
noncomputable def pointer_LatestO : Shape := { n := 27, nx := 0, sl := [(26, .tup (.cons (.dat false TPage) (.cons (.dat true .bool) (.nil))))], ob := [], fix := [], may := true }
noncomputable def pointer_LatestF : ((Val (.slice TPage)) × Int) → Option ((Val TPage) × Bool) := fun y => pointer_Latest y.1 y.2
noncomputable def pointer_Latestct : Ctr := ctrOf pointer_LatestI pointer_LatestO (fun d => d) (fun d => d) pointer_LatestF
noncomputable def pointer_LatestE : Env := { tf := tfE, mt := mtE, fn := fun f => none }
theorem pointer_Latest_env : EnvOk PT pointer_LatestE := ⟨tyE, (fun f ct h => by
  simp only [pointer_LatestE] at h
  cases h), mapE⟩
noncomputable def pointer_LatestC : Code := bodyOf Go.Proofs.Try.f71
noncomputable def pointer_LatestL1C : Code := (loopsOf pointer_LatestC).getD 0 .skip
noncomputable def pointer_LatestL1S : Shape := { n := 26, nx := 1, sl := [(0, .dat false (.slice TPage)), (1, .dat false (.int .i64)), (4, .ref 0 []), (6, .dat true (.int .i64))], ob := [(0, .box TPage (.dat true TPage))], fix := [], may := true }
noncomputable def pointer_LatestL1O : List (Ex × Shape) := [(.exit 0, { n := 26, nx := 1, sl := [(4, .ref 0 [])], ob := [(0, .box TPage (.dat true TPage))], fix := [], may := true }), (.ret, { n := 26, nx := 1, sl := [(4, .ref 0 []), (5, .dat true .bool)], ob := [(0, .box TPage (.dat false TPage))], fix := [], may := true })]
noncomputable def pointer_LatestL1M : Sum := loopSum (Y := (Val (.slice TPage)) × Int × Int × (Val TPage)) (Z := ((Val TPage)) ⊕ (Bool × (Val TPage))) pointer_LatestL1S pointer_LatestL1O (fun d => d) (fun d => d) (iter pointer_LatestL1B)
noncomputable def pointer_LatestH : Nat → Option Sum := fun n => bif Nat.beq n 2 then some pointer_LatestL1M else none
theorem pointer_LatestL1_bd (y : (Val (.slice TPage)) × Int × Int × (Val TPage)) : @Eq (Option (((Val (.slice TPage)) × Int × Int × (Val TPage)) ⊕ (((Val TPage)) ⊕ (Bool × (Val TPage))))) (exec pointer_LatestE pointer_LatestH pointer_LatestL1C (pointer_LatestL1S.mk' (show pointer_LatestL1S.D from y)) (kont (Y := (Val (.slice TPage)) × Int × Int × (Val TPage)) (Z := ((Val TPage)) ⊕ (Bool × (Val TPage))) pointer_LatestL1S pointer_LatestL1O (fun d => d) (fun d => d))) (pointer_LatestL1B y) := by kernel_rfl
theorem pointer_LatestL1_ok {w0 : World} {Jo : Io} (hfix : ∀ i b, Jo.fix i = some b → i ∈ []) (hmay : true = true → Jo.may) : SumOk PT w0 Jo pointer_LatestL1M (.loop pointer_LatestL1C) :=
  @loop_ok w0 Jo PT pointer_LatestE pointer_LatestH ((Val (.slice TPage)) × Int × Int × (Val TPage)) (((Val TPage)) ⊕ (Bool × (Val TPage))) pointer_Latest_env mixed pointer_LatestL1C pointer_LatestL1S pointer_LatestL1O (fun d => d) (fun d => d) (fun d => d) (fun d => d) (fun _ => rfl) (fun _ => rfl) hfix hmay (by kernel_rfl) (noLoops (by kernel_rfl)) pointer_LatestL1B pointer_LatestL1_bd
theorem pointer_Latest_bd (y : (Val (.slice TPage)) × Int) : @Eq (Option ((Val TPage) × Bool)) (exec pointer_LatestE pointer_LatestH pointer_LatestC (pointer_LatestI.mk' (show pointer_LatestI.D from y)) (kontF (Z := (Val TPage) × Bool) pointer_LatestE Go.Proofs.Try.f71.results.toList pointer_LatestO (fun d => d))) (pointer_LatestF y) := by kernel_rfl
theorem pointer_Latest_lo {w0 : World} {Jo : Io} (hfix : ∀ i b, Jo.fix i = some b → i ∈ []) (hmay : true = true → Jo.may) : LoopsOk PT w0 Jo pointer_LatestH pointer_LatestC := (loopsMk (by kernel_rfl) (loopsCons (c := pointer_LatestL1C) (n := 2) (f := pointer_LatestL1M) (by kernel_rfl) (by kernel_rfl) (pointer_LatestL1_ok hfix hmay) loopsNil))
theorem pointer_Latest_ctr : CtrOk PT 71 pointer_Latestct :=
  @ctr_ok PT pointer_LatestE pointer_LatestH pointer_Latest_env mixed 71 Go.Proofs.Try.f71 pointer_LatestC (by kernel_rfl) (by kernel_rfl) (enters_of (by kernel_rfl : PT.funcs[71]? = some Go.Proofs.Try.f71) (by kernel_rfl) (by kernel_rfl)) pointer_LatestI pointer_LatestO ((Val (.slice TPage)) × Int) ((Val TPage) × Bool) (fun d => d) (fun d => d) (fun d => d) (fun d => d) (fun _ => rfl) (fun _ => rfl) (by kernel_rfl) (by kernel_rfl) pointer_LatestF pointer_Latest_bd (fun w0 Jo hfix hmay => pointer_Latest_lo hfix hmay)

/-- math/bits.Len64 -/
noncomputable def bits_Len64 (a0 : Int) : Option Int :=
  bif (decide ((4294967296 : Int) ≤ a0)) then (
    bif (decide ((65536 : Int) ≤ (shiftR .u64 a0 (32 : Int)))) then (
      bif (decide ((256 : Int) ≤ (shiftR .u64 (shiftR .u64 a0 (32 : Int)) (16 : Int)))) then (
        bif (inR (IntKind.wrap .u8 (shiftR .u64 (shiftR .u64 (shiftR .u64 a0 (32 : Int)) (16 : Int)) (8 : Int))) (ByteArray.size str1)) then
        some (IntKind.wrap .i64 ((56 : Int) + (IntKind.wrap .i64 ((UInt8.toNat (Array.getD (ByteArray.data str1) (Int.toNat (IntKind.wrap .u8 (shiftR .u64 (shiftR .u64 (shiftR .u64 a0 (32 : Int)) (16 : Int)) (8 : Int)))) 0) : Nat) : Int))))
        else none)
      else (
        bif (inR (IntKind.wrap .u8 (shiftR .u64 (shiftR .u64 a0 (32 : Int)) (16 : Int))) (ByteArray.size str1)) then
        some (IntKind.wrap .i64 ((48 : Int) + (IntKind.wrap .i64 ((UInt8.toNat (Array.getD (ByteArray.data str1) (Int.toNat (IntKind.wrap .u8 (shiftR .u64 (shiftR .u64 a0 (32 : Int)) (16 : Int)))) 0) : Nat) : Int))))
        else none))
    else (
      bif (decide ((256 : Int) ≤ (shiftR .u64 a0 (32 : Int)))) then (
        bif (inR (IntKind.wrap .u8 (shiftR .u64 (shiftR .u64 a0 (32 : Int)) (8 : Int))) (ByteArray.size str1)) then
        some (IntKind.wrap .i64 ((40 : Int) + (IntKind.wrap .i64 ((UInt8.toNat (Array.getD (ByteArray.data str1) (Int.toNat (IntKind.wrap .u8 (shiftR .u64 (shiftR .u64 a0 (32 : Int)) (8 : Int)))) 0) : Nat) : Int))))
        else none)
      else (
        bif (inR (IntKind.wrap .u8 (shiftR .u64 a0 (32 : Int))) (ByteArray.size str1)) then
        some (IntKind.wrap .i64 ((32 : Int) + (IntKind.wrap .i64 ((UInt8.toNat (Array.getD (ByteArray.data str1) (Int.toNat (IntKind.wrap .u8 (shiftR .u64 a0 (32 : Int)))) 0) : Nat) : Int))))
        else none)))
  else (
    bif (decide ((65536 : Int) ≤ a0)) then (
      bif (decide ((256 : Int) ≤ (shiftR .u64 a0 (16 : Int)))) then (
        bif (inR (IntKind.wrap .u8 (shiftR .u64 (shiftR .u64 a0 (16 : Int)) (8 : Int))) (ByteArray.size str1)) then
        some (IntKind.wrap .i64 ((24 : Int) + (IntKind.wrap .i64 ((UInt8.toNat (Array.getD (ByteArray.data str1) (Int.toNat (IntKind.wrap .u8 (shiftR .u64 (shiftR .u64 a0 (16 : Int)) (8 : Int)))) 0) : Nat) : Int))))
        else none)
      else (
        bif (inR (IntKind.wrap .u8 (shiftR .u64 a0 (16 : Int))) (ByteArray.size str1)) then
        some (IntKind.wrap .i64 ((16 : Int) + (IntKind.wrap .i64 ((UInt8.toNat (Array.getD (ByteArray.data str1) (Int.toNat (IntKind.wrap .u8 (shiftR .u64 a0 (16 : Int)))) 0) : Nat) : Int))))
        else none))
    else (
      bif (decide ((256 : Int) ≤ a0)) then (
        bif (inR (IntKind.wrap .u8 (shiftR .u64 a0 (8 : Int))) (ByteArray.size str1)) then
        some (IntKind.wrap .i64 ((8 : Int) + (IntKind.wrap .i64 ((UInt8.toNat (Array.getD (ByteArray.data str1) (Int.toNat (IntKind.wrap .u8 (shiftR .u64 a0 (8 : Int)))) 0) : Nat) : Int))))
        else none)
      else (
        bif (inR (IntKind.wrap .u8 a0) (ByteArray.size str1)) then
        some (IntKind.wrap .i64 ((0 : Int) + (IntKind.wrap .i64 ((UInt8.toNat (Array.getD (ByteArray.data str1) (Int.toNat (IntKind.wrap .u8 a0)) 0) : Nat) : Int))))
        else none)))
noncomputable def bits_Len64I : Shape := { n := 25, nx := 0, sl := [(0, .dat false (.int .u64))], ob := [], fix := [], may := true }
noncomputable def bits_Len64O : Shape := { n := 26, nx := 0, sl := [(25, .dat true (.int .i64))], ob := [], fix := [], may := true }
noncomputable def bits_Len64F : Int → Option Int := fun y => bits_Len64 y
noncomputable def bits_Len64ct : Ctr := ctrOf bits_Len64I bits_Len64O (fun d => d) (fun d => d) bits_Len64F
noncomputable def bits_Len64E : Env := { tf := tfE, mt := mtE, fn := fun f => none }
theorem bits_Len64_env : EnvOk PT bits_Len64E := ⟨tyE, (fun f ct h => by
  simp only [bits_Len64E] at h
  cases h), mapE⟩
noncomputable def bits_Len64C : Code := bodyOf Go.Proofs.Try.f110
noncomputable def bits_Len64H : Nat → Option Sum := fun n => none
theorem bits_Len64_bd (y : Int) : @Eq (Option Int) (exec bits_Len64E bits_Len64H bits_Len64C (bits_Len64I.mk' (show bits_Len64I.D from y)) (kontF (Z := Int) bits_Len64E Go.Proofs.Try.f110.results.toList bits_Len64O (fun d => d))) (bits_Len64F y) := by kernel_rfl
theorem bits_Len64_lo {w0 : World} {Jo : Io} (hfix : ∀ i b, Jo.fix i = some b → i ∈ []) (hmay : true = true → Jo.may) : LoopsOk PT w0 Jo bits_Len64H bits_Len64C := (noLoops (by kernel_rfl))
theorem bits_Len64_ctr : CtrOk PT 110 bits_Len64ct :=
  @ctr_ok PT bits_Len64E bits_Len64H bits_Len64_env mixed 110 Go.Proofs.Try.f110 bits_Len64C (by kernel_rfl) (by kernel_rfl) (enters_of (by kernel_rfl : PT.funcs[110]? = some Go.Proofs.Try.f110) (by kernel_rfl) (by kernel_rfl)) bits_Len64I bits_Len64O Int Int (fun d => d) (fun d => d) (fun d => d) (fun d => d) (fun _ => rfl) (fun _ => rfl) (by kernel_rfl) (by kernel_rfl) bits_Len64F bits_Len64_bd (fun w0 Jo hfix hmay => bits_Len64_lo hfix hmay)

/-- math/bits.Len -/
noncomputable def bits_Len (a0 : Int) : Option Int :=
  (bits_Len64 a0).bind fun r1 =>
  some r1
noncomputable def bits_LenI : Shape := { n := 8, nx := 0, sl := [(0, .dat false (.int .u64))], ob := [], fix := [], may := true }
noncomputable def bits_LenO : Shape := { n := 9, nx := 0, sl := [(8, .dat true (.int .i64))], ob := [], fix := [], may := true }
noncomputable def bits_LenF : Int → Option Int := fun y => bits_Len y
noncomputable def bits_Lenct : Ctr := ctrOf bits_LenI bits_LenO (fun d => d) (fun d => d) bits_LenF
noncomputable def bits_LenE : Env := { tf := tfE, mt := mtE, fn := fun f => bif Nat.beq f 110 then some bits_Len64ct else none }
theorem bits_Len_env : EnvOk PT bits_LenE := ⟨tyE, (fun f ct h => by
  simp only [bits_LenE] at h
  refine envCons (c := bits_Len64ct) h bits_Len64_ctr (fun h => ?_)
  cases h), mapE⟩
noncomputable def bits_LenC : Code := bodyOf Go.Proofs.Try.f97
noncomputable def bits_LenH : Nat → Option Sum := fun n => none
theorem bits_Len_bd (y : Int) : @Eq (Option Int) (exec bits_LenE bits_LenH bits_LenC (bits_LenI.mk' (show bits_LenI.D from y)) (kontF (Z := Int) bits_LenE Go.Proofs.Try.f97.results.toList bits_LenO (fun d => d))) (bits_LenF y) := by kernel_rfl
theorem bits_Len_lo {w0 : World} {Jo : Io} (hfix : ∀ i b, Jo.fix i = some b → i ∈ []) (hmay : true = true → Jo.may) : LoopsOk PT w0 Jo bits_LenH bits_LenC := (noLoops (by kernel_rfl))
theorem bits_Len_ctr : CtrOk PT 97 bits_Lenct :=
  @ctr_ok PT bits_LenE bits_LenH bits_Len_env mixed 97 Go.Proofs.Try.f97 bits_LenC (by kernel_rfl) (by kernel_rfl) (enters_of (by kernel_rfl : PT.funcs[97]? = some Go.Proofs.Try.f97) (by kernel_rfl) (by kernel_rfl)) bits_LenI bits_LenO Int Int (fun d => d) (fun d => d) (fun d => d) (fun d => d) (fun _ => rfl) (fun _ => rfl) (by kernel_rfl) (by kernel_rfl) bits_LenF bits_Len_bd (fun w0 Jo hfix hmay => bits_Len_lo hfix hmay)

/-- cmp.isNaN[int] -/
noncomputable def cmp_isNaN_int (a0 : Int) : Option Bool :=
  some (!(decide (a0 = a0)))
noncomputable def cmp_isNaN_intI : Shape := { n := 6, nx := 0, sl := [(0, .dat false (.int .i64))], ob := [], fix := [], may := true }
noncomputable def cmp_isNaN_intO : Shape := { n := 7, nx := 0, sl := [(6, .dat true .bool)], ob := [], fix := [], may := true }
noncomputable def cmp_isNaN_intF : Int → Option Bool := fun y => cmp_isNaN_int y
noncomputable def cmp_isNaN_intct : Ctr := ctrOf cmp_isNaN_intI cmp_isNaN_intO (fun d => d) (fun d => d) cmp_isNaN_intF
noncomputable def cmp_isNaN_intE : Env := { tf := tfE, mt := mtE, fn := fun f => none }
theorem cmp_isNaN_int_env : EnvOk PT cmp_isNaN_intE := ⟨tyE, (fun f ct h => by
  simp only [cmp_isNaN_intE] at h
  cases h), mapE⟩
noncomputable def cmp_isNaN_intC : Code := bodyOf Go.Proofs.Try.f95
noncomputable def cmp_isNaN_intH : Nat → Option Sum := fun n => none
theorem cmp_isNaN_int_bd (y : Int) : @Eq (Option Bool) (exec cmp_isNaN_intE cmp_isNaN_intH cmp_isNaN_intC (cmp_isNaN_intI.mk' (show cmp_isNaN_intI.D from y)) (kontF (Z := Bool) cmp_isNaN_intE Go.Proofs.Try.f95.results.toList cmp_isNaN_intO (fun d => d))) (cmp_isNaN_intF y) := by kernel_rfl
theorem cmp_isNaN_int_lo {w0 : World} {Jo : Io} (hfix : ∀ i b, Jo.fix i = some b → i ∈ []) (hmay : true = true → Jo.may) : LoopsOk PT w0 Jo cmp_isNaN_intH cmp_isNaN_intC := (noLoops (by kernel_rfl))
theorem cmp_isNaN_int_ctr : CtrOk PT 95 cmp_isNaN_intct :=
  @ctr_ok PT cmp_isNaN_intE cmp_isNaN_intH cmp_isNaN_int_env mixed 95 Go.Proofs.Try.f95 cmp_isNaN_intC (by kernel_rfl) (by kernel_rfl) (enters_of (by kernel_rfl : PT.funcs[95]? = some Go.Proofs.Try.f95) (by kernel_rfl) (by kernel_rfl)) cmp_isNaN_intI cmp_isNaN_intO Int Bool (fun d => d) (fun d => d) (fun d => d) (fun d => d) (fun _ => rfl) (fun _ => rfl) (by kernel_rfl) (by kernel_rfl) cmp_isNaN_intF cmp_isNaN_int_bd (fun w0 Jo hfix hmay => cmp_isNaN_int_lo hfix hmay)

/-- cmp.Less[int] -/
noncomputable def cmp_Less_int (a0 : Int) (a1 : Int) : Option Bool :=
  (cmp_isNaN_int a0).bind fun r1 =>
  bif r1 then (
    (cmp_isNaN_int a1).bind fun r2 =>
    bif (!r2) then (
      some true)
    else (
      some (decide (a0 < a1))))
  else (
    some (decide (a0 < a1)))
noncomputable def cmp_Less_intI : Shape := { n := 17, nx := 0, sl := [(0, .dat false (.int .i64)), (1, .dat false (.int .i64))], ob := [], fix := [], may := true }
noncomputable def cmp_Less_intO : Shape := { n := 18, nx := 0, sl := [(17, .dat true .bool)], ob := [], fix := [], may := true }
noncomputable def cmp_Less_intF : (Int × Int) → Option Bool := fun y => cmp_Less_int y.1 y.2
noncomputable def cmp_Less_intct : Ctr := ctrOf cmp_Less_intI cmp_Less_intO (fun d => d) (fun d => d) cmp_Less_intF
noncomputable def cmp_Less_intE : Env := { tf := tfE, mt := mtE, fn := fun f => bif Nat.beq f 95 then some cmp_isNaN_intct else none }
theorem cmp_Less_int_env : EnvOk PT cmp_Less_intE := ⟨tyE, (fun f ct h => by
  simp only [cmp_Less_intE] at h
  refine envCons (c := cmp_isNaN_intct) h cmp_isNaN_int_ctr (fun h => ?_)
  cases h), mapE⟩
noncomputable def cmp_Less_intC : Code := bodyOf Go.Proofs.Try.f106
noncomputable def cmp_Less_intH : Nat → Option Sum := fun n => none
theorem cmp_Less_int_bd (y : Int × Int) : @Eq (Option Bool) (exec cmp_Less_intE cmp_Less_intH cmp_Less_intC (cmp_Less_intI.mk' (show cmp_Less_intI.D from y)) (kontF (Z := Bool) cmp_Less_intE Go.Proofs.Try.f106.results.toList cmp_Less_intO (fun d => d))) (cmp_Less_intF y) := by kernel_rfl
theorem cmp_Less_int_lo {w0 : World} {Jo : Io} (hfix : ∀ i b, Jo.fix i = some b → i ∈ []) (hmay : true = true → Jo.may) : LoopsOk PT w0 Jo cmp_Less_intH cmp_Less_intC := (noLoops (by kernel_rfl))
theorem cmp_Less_int_ctr : CtrOk PT 106 cmp_Less_intct :=
  @ctr_ok PT cmp_Less_intE cmp_Less_intH cmp_Less_int_env mixed 106 Go.Proofs.Try.f106 cmp_Less_intC (by kernel_rfl) (by kernel_rfl) (enters_of (by kernel_rfl : PT.funcs[106]? = some Go.Proofs.Try.f106) (by kernel_rfl) (by kernel_rfl)) cmp_Less_intI cmp_Less_intO (Int × Int) Bool (fun d => d) (fun d => d) (fun d => d) (fun d => d) (fun _ => rfl) (fun _ => rfl) (by kernel_rfl) (by kernel_rfl) cmp_Less_intF cmp_Less_int_bd (fun w0 Jo hfix hmay => cmp_Less_int_lo hfix hmay)

noncomputable def slices_insertionSortOrdered_intL1b (x0 : Int) (x1 : Int) (x2 : Int) (x3 : Int) (x4 : Val (.slice (.int .i64))) : Option ((Int × Int × Int × Int × (Val (.slice (.int .i64)))) ⊕ (Int × Int × Int × (Val (.slice (.int .i64))))) :=
  bif (decide (x0 < x3)) then (
    bif (inR x3 (List.length x4)) then
    bif (inR (IntKind.wrap .i64 (x3 - (1 : Int))) (List.length x4)) then
    (cmp_Less_int (List.getD x4 (Int.toNat x3) (0 : Int)) (List.getD x4 (Int.toNat (IntKind.wrap .i64 (x3 - (1 : Int)))) (0 : Int))).bind fun r1 =>
    bif r1 then (
      bif (inR (IntKind.wrap .i64 (x3 - (1 : Int))) (List.length x4)) then
      bif (inR x3 (List.length x4)) then
      bif (inR x3 (List.length x4)) then
      bif (inR (IntKind.wrap .i64 (x3 - (1 : Int))) (List.length (List.set x4 (Int.toNat x3) (List.getD x4 (Int.toNat (IntKind.wrap .i64 (x3 - (1 : Int)))) (0 : Int))))) then
      some (Sum.inl (x0, (x1, (x2, ((IntKind.wrap .i64 (x3 - (1 : Int))), (List.set (List.set x4 (Int.toNat x3) (List.getD x4 (Int.toNat (IntKind.wrap .i64 (x3 - (1 : Int)))) (0 : Int))) (Int.toNat (IntKind.wrap .i64 (x3 - (1 : Int)))) (List.getD x4 (Int.toNat x3) (0 : Int))))))))
      else none
      else none
      else none
      else none)
    else (
      some (Sum.inr (x0, (x1, (x2, x4)))))
    else none
    else none)
  else (
    some (Sum.inr (x0, (x1, (x2, x4)))))
noncomputable def slices_insertionSortOrdered_intL1B : (Int × Int × Int × Int × (Val (.slice (.int .i64)))) → Option ((Int × Int × Int × Int × (Val (.slice (.int .i64)))) ⊕ (Int × Int × Int × (Val (.slice (.int .i64))))) := fun y => slices_insertionSortOrdered_intL1b y.1 y.2.1 y.2.2.1 y.2.2.2.1 y.2.2.2.2
noncomputable def slices_insertionSortOrdered_intL1 (x0 : Int) (x1 : Int) (x2 : Int) (x3 : Int) (x4 : Val (.slice (.int .i64))) : Option (Int × Int × Int × (Val (.slice (.int .i64)))) := iter slices_insertionSortOrdered_intL1B (x0, (x1, (x2, (x3, x4))))
noncomputable def slices_insertionSortOrdered_intL2b (x0 : Int) (x1 : Int) (x2 : Int) (x3 : Val (.slice (.int .i64))) : Option ((Int × Int × Int × (Val (.slice (.int .i64)))) ⊕ ((Val (.slice (.int .i64))))) :=
  bif (decide (x2 < x1)) then (
    (slices_insertionSortOrdered_intL1 x0 x1 x2 x2 x3).bind fun r1 =>
    some (Sum.inl (r1.1, (r1.2.1, ((IntKind.wrap .i64 (r1.2.2.1 + (1 : Int))), r1.2.2.2)))))
  else (
    some (Sum.inr x3))
noncomputable def slices_insertionSortOrdered_intL2B : (Int × Int × Int × (Val (.slice (.int .i64)))) → Option ((Int × Int × Int × (Val (.slice (.int .i64)))) ⊕ ((Val (.slice (.int .i64))))) := fun y => slices_insertionSortOrdered_intL2b y.1 y.2.1 y.2.2.1 y.2.2.2
noncomputable def slices_insertionSortOrdered_intL2 (x0 : Int) (x1 : Int) (x2 : Int) (x3 : Val (.slice (.int .i64))) : Option ((Val (.slice (.int .i64)))) := iter slices_insertionSortOrdered_intL2B (x0, (x1, (x2, x3)))
/-- slices.insertionSortOrdered[int] -/
noncomputable def slices_insertionSortOrdered_int (a0 : Int) (a1 : Int) (a2 : Val (.slice (.int .i64))) : Option ((Val (.slice (.int .i64)))) :=
  (slices_insertionSortOrdered_intL2 a0 a1 (IntKind.wrap .i64 (a0 + (1 : Int))) a2).bind fun r1 =>
  some r1
noncomputable def slices_insertionSortOrdered_intI : Shape := { n := 49, nx := 1, sl := [(0, .own (.int .i64) 0), (1, .dat false (.int .i64)), (2, .dat false (.int .i64))], ob := [(0, .slc false (.int .i64))], fix := [0], may := false }
noncomputable def slices_insertionSortOrdered_intO : Shape := { n := 50, nx := 1, sl := [(49, .tup (.nil))], ob := [(0, .slc false (.int .i64))], fix := [0], may := false }
noncomputable def slices_insertionSortOrdered_intF : (Int × Int × (Val (.slice (.int .i64)))) → Option ((Val (.slice (.int .i64)))) := fun y => slices_insertionSortOrdered_int y.1 y.2.1 y.2.2
noncomputable def slices_insertionSortOrdered_intct : Ctr := ctrOf slices_insertionSortOrdered_intI slices_insertionSortOrdered_intO (fun d => d) (fun d => d) slices_insertionSortOrdered_intF
noncomputable def slices_insertionSortOrdered_intE : Env := { tf := tfE, mt := mtE, fn := fun f => bif Nat.beq f 106 then some cmp_Less_intct else none }
theorem slices_insertionSortOrdered_int_env : EnvOk PT slices_insertionSortOrdered_intE := ⟨tyE, (fun f ct h => by
  simp only [slices_insertionSortOrdered_intE] at h
  refine envCons (c := cmp_Less_intct) h cmp_Less_int_ctr (fun h => ?_)
  cases h), mapE⟩
noncomputable def slices_insertionSortOrdered_intC : Code := bodyOf Go.Proofs.Try.f100
noncomputable def slices_insertionSortOrdered_intL2C : Code := (loopsOf slices_insertionSortOrdered_intC).getD 0 .skip
noncomputable def slices_insertionSortOrdered_intL1C : Code := (loopsOf slices_insertionSortOrdered_intC).getD 1 .skip
noncomputable def slices_insertionSortOrdered_intL1S : Shape := { n := 49, nx := 1, sl := [(0, .own (.int .i64) 0), (1, .dat false (.int .i64)), (2, .dat false (.int .i64)), (6, .dat true (.int .i64)), (7, .dat true (.int .i64))], ob := [(0, .slc false (.int .i64))], fix := [0], may := false }
noncomputable def slices_insertionSortOrdered_intL1O : List (Ex × Shape) := [(.exit 2, { n := 49, nx := 1, sl := [(0, .own (.int .i64) 0), (1, .dat false (.int .i64)), (2, .dat false (.int .i64)), (6, .dat true (.int .i64))], ob := [(0, .slc false (.int .i64))], fix := [0], may := false })]
noncomputable def slices_insertionSortOrdered_intL1M : Sum := loopSum (Y := Int × Int × Int × Int × (Val (.slice (.int .i64)))) (Z := Int × Int × Int × (Val (.slice (.int .i64)))) slices_insertionSortOrdered_intL1S slices_insertionSortOrdered_intL1O (fun d => d) (fun d => d) (iter slices_insertionSortOrdered_intL1B)
noncomputable def slices_insertionSortOrdered_intL2S : Shape := { n := 49, nx := 1, sl := [(0, .own (.int .i64) 0), (1, .dat false (.int .i64)), (2, .dat false (.int .i64)), (6, .dat true (.int .i64))], ob := [(0, .slc false (.int .i64))], fix := [0], may := false }
noncomputable def slices_insertionSortOrdered_intL2O : List (Ex × Shape) := [(.exit 0, { n := 49, nx := 1, sl := [], ob := [(0, .slc false (.int .i64))], fix := [0], may := false })]
noncomputable def slices_insertionSortOrdered_intL2M : Sum := loopSum (Y := Int × Int × Int × (Val (.slice (.int .i64)))) (Z := (Val (.slice (.int .i64)))) slices_insertionSortOrdered_intL2S slices_insertionSortOrdered_intL2O (fun d => d) (fun d => d) (iter slices_insertionSortOrdered_intL2B)
noncomputable def slices_insertionSortOrdered_intH : Nat → Option Sum := fun n => bif Nat.beq n 4 then some slices_insertionSortOrdered_intL1M else bif Nat.beq n 1 then some slices_insertionSortOrdered_intL2M else none
theorem slices_insertionSortOrdered_intL1_bd (y : Int × Int × Int × Int × (Val (.slice (.int .i64)))) : @Eq (Option ((Int × Int × Int × Int × (Val (.slice (.int .i64)))) ⊕ (Int × Int × Int × (Val (.slice (.int .i64)))))) (exec slices_insertionSortOrdered_intE slices_insertionSortOrdered_intH slices_insertionSortOrdered_intL1C (slices_insertionSortOrdered_intL1S.mk' (show slices_insertionSortOrdered_intL1S.D from y)) (kont (Y := Int × Int × Int × Int × (Val (.slice (.int .i64)))) (Z := Int × Int × Int × (Val (.slice (.int .i64)))) slices_insertionSortOrdered_intL1S slices_insertionSortOrdered_intL1O (fun d => d) (fun d => d))) (slices_insertionSortOrdered_intL1B y) := by kernel_rfl
theorem slices_insertionSortOrdered_intL1_ok {w0 : World} {Jo : Io} (hfix : ∀ i b, Jo.fix i = some b → i ∈ [0]) (hmay : false = true → Jo.may) : SumOk PT w0 Jo slices_insertionSortOrdered_intL1M (.loop slices_insertionSortOrdered_intL1C) :=
  @loop_ok w0 Jo PT slices_insertionSortOrdered_intE slices_insertionSortOrdered_intH (Int × Int × Int × Int × (Val (.slice (.int .i64)))) (Int × Int × Int × (Val (.slice (.int .i64)))) slices_insertionSortOrdered_int_env mixed slices_insertionSortOrdered_intL1C slices_insertionSortOrdered_intL1S slices_insertionSortOrdered_intL1O (fun d => d) (fun d => d) (fun d => d) (fun d => d) (fun _ => rfl) (fun _ => rfl) hfix hmay (by kernel_rfl) (noLoops (by kernel_rfl)) slices_insertionSortOrdered_intL1B slices_insertionSortOrdered_intL1_bd
theorem slices_insertionSortOrdered_intL2_bd (y : Int × Int × Int × (Val (.slice (.int .i64)))) : @Eq (Option ((Int × Int × Int × (Val (.slice (.int .i64)))) ⊕ ((Val (.slice (.int .i64)))))) (exec slices_insertionSortOrdered_intE slices_insertionSortOrdered_intH slices_insertionSortOrdered_intL2C (slices_insertionSortOrdered_intL2S.mk' (show slices_insertionSortOrdered_intL2S.D from y)) (kont (Y := Int × Int × Int × (Val (.slice (.int .i64)))) (Z := (Val (.slice (.int .i64)))) slices_insertionSortOrdered_intL2S slices_insertionSortOrdered_intL2O (fun d => d) (fun d => d))) (slices_insertionSortOrdered_intL2B y) := by kernel_rfl
theorem slices_insertionSortOrdered_intL2_ok {w0 : World} {Jo : Io} (hfix : ∀ i b, Jo.fix i = some b → i ∈ [0]) (hmay : false = true → Jo.may) : SumOk PT w0 Jo slices_insertionSortOrdered_intL2M (.loop slices_insertionSortOrdered_intL2C) :=
  @loop_ok w0 Jo PT slices_insertionSortOrdered_intE slices_insertionSortOrdered_intH (Int × Int × Int × (Val (.slice (.int .i64)))) ((Val (.slice (.int .i64)))) slices_insertionSortOrdered_int_env mixed slices_insertionSortOrdered_intL2C slices_insertionSortOrdered_intL2S slices_insertionSortOrdered_intL2O (fun d => d) (fun d => d) (fun d => d) (fun d => d) (fun _ => rfl) (fun _ => rfl) hfix hmay (by kernel_rfl) (loopsMk (by kernel_rfl) (loopsCons (c := slices_insertionSortOrdered_intL1C) (n := 4) (f := slices_insertionSortOrdered_intL1M) (by kernel_rfl) (by kernel_rfl) (slices_insertionSortOrdered_intL1_ok hfix hmay) loopsNil)) slices_insertionSortOrdered_intL2B slices_insertionSortOrdered_intL2_bd
theorem slices_insertionSortOrdered_int_bd (y : Int × Int × (Val (.slice (.int .i64)))) : @Eq (Option ((Val (.slice (.int .i64))))) (exec slices_insertionSortOrdered_intE slices_insertionSortOrdered_intH slices_insertionSortOrdered_intC (slices_insertionSortOrdered_intI.mk' (show slices_insertionSortOrdered_intI.D from y)) (kontF (Z := (Val (.slice (.int .i64)))) slices_insertionSortOrdered_intE Go.Proofs.Try.f100.results.toList slices_insertionSortOrdered_intO (fun d => d))) (slices_insertionSortOrdered_intF y) := by kernel_rfl
theorem slices_insertionSortOrdered_int_lo {w0 : World} {Jo : Io} (hfix : ∀ i b, Jo.fix i = some b → i ∈ [0]) (hmay : false = true → Jo.may) : LoopsOk PT w0 Jo slices_insertionSortOrdered_intH slices_insertionSortOrdered_intC := (loopsMk (by kernel_rfl) (loopsCons (c := slices_insertionSortOrdered_intL2C) (n := 1) (f := slices_insertionSortOrdered_intL2M) (by kernel_rfl) (by kernel_rfl) (slices_insertionSortOrdered_intL2_ok hfix hmay) (loopsCons (c := slices_insertionSortOrdered_intL1C) (n := 4) (f := slices_insertionSortOrdered_intL1M) (by kernel_rfl) (by kernel_rfl) (slices_insertionSortOrdered_intL1_ok hfix hmay) loopsNil)))
theorem slices_insertionSortOrdered_int_ctr : CtrOk PT 100 slices_insertionSortOrdered_intct :=
  @ctr_ok PT slices_insertionSortOrdered_intE slices_insertionSortOrdered_intH slices_insertionSortOrdered_int_env mixed 100 Go.Proofs.Try.f100 slices_insertionSortOrdered_intC (by kernel_rfl) (by kernel_rfl) (enters_of (by kernel_rfl : PT.funcs[100]? = some Go.Proofs.Try.f100) (by kernel_rfl) (by kernel_rfl)) slices_insertionSortOrdered_intI slices_insertionSortOrdered_intO (Int × Int × (Val (.slice (.int .i64)))) ((Val (.slice (.int .i64)))) (fun d => d) (fun d => d) (fun d => d) (fun d => d) (fun _ => rfl) (fun _ => rfl) (by kernel_rfl) (by kernel_rfl) slices_insertionSortOrdered_intF slices_insertionSortOrdered_int_bd (fun w0 Jo hfix hmay => slices_insertionSortOrdered_int_lo hfix hmay)

noncomputable def slices_pdqsortOrdered_intL1b (x0 : Int) (x1 : Int) (x2 : Int) (x3 : Bool) (x4 : Bool) (x5 : Val (.slice (.int .i64))) : Option ((Int × Int × Int × Bool × Bool × (Val (.slice (.int .i64)))) ⊕ ((Val (.slice (.int .i64))))) :=
  bif (decide ((IntKind.wrap .i64 (x1 - x0)) ≤ (12 : Int))) then (
    (slices_insertionSortOrdered_int x0 x1 x5).bind fun r1 =>
    some (Sum.inr r1))
  else (
    bif (decide (x2 = (0 : Int))) then (
      none)
    else (
      bif (!x3) then (
        none)
      else (
        none)))
noncomputable def slices_pdqsortOrdered_intL1B : (Int × Int × Int × Bool × Bool × (Val (.slice (.int .i64)))) → Option ((Int × Int × Int × Bool × Bool × (Val (.slice (.int .i64)))) ⊕ ((Val (.slice (.int .i64))))) := fun y => slices_pdqsortOrdered_intL1b y.1 y.2.1 y.2.2.1 y.2.2.2.1 y.2.2.2.2.1 y.2.2.2.2.2
noncomputable def slices_pdqsortOrdered_intL1 (x0 : Int) (x1 : Int) (x2 : Int) (x3 : Bool) (x4 : Bool) (x5 : Val (.slice (.int .i64))) : Option ((Val (.slice (.int .i64)))) := iter slices_pdqsortOrdered_intL1B (x0, (x1, (x2, (x3, (x4, x5)))))
/-- slices.pdqsortOrdered[int] -/
noncomputable def slices_pdqsortOrdered_int (a0 : Int) (a1 : Int) (a2 : Int) (a3 : Val (.slice (.int .i64))) : Option ((Val (.slice (.int .i64)))) :=
  (slices_pdqsortOrdered_intL1 a0 a1 a2 true true a3).bind fun r1 =>
  some r1
noncomputable def slices_pdqsortOrdered_intI : Shape := { n := 134, nx := 1, sl := [(0, .own (.int .i64) 0), (1, .dat false (.int .i64)), (2, .dat false (.int .i64)), (3, .dat false (.int .i64))], ob := [(0, .slc false (.int .i64))], fix := [0], may := false }
noncomputable def slices_pdqsortOrdered_intO : Shape := { n := 135, nx := 1, sl := [(134, .tup (.nil))], ob := [(0, .slc false (.int .i64))], fix := [0], may := false }
noncomputable def slices_pdqsortOrdered_intF : (Int × Int × Int × (Val (.slice (.int .i64)))) → Option ((Val (.slice (.int .i64)))) := fun y => slices_pdqsortOrdered_int y.1 y.2.1 y.2.2.1 y.2.2.2
noncomputable def slices_pdqsortOrdered_intct : Ctr := ctrOf slices_pdqsortOrdered_intI slices_pdqsortOrdered_intO (fun d => d) (fun d => d) slices_pdqsortOrdered_intF
noncomputable def slices_pdqsortOrdered_intE : Env := { tf := tfE, mt := mtE, fn := fun f => bif Nat.beq f 100 then some slices_insertionSortOrdered_intct else none }
theorem slices_pdqsortOrdered_int_env : EnvOk PT slices_pdqsortOrdered_intE := ⟨tyE, (fun f ct h => by
  simp only [slices_pdqsortOrdered_intE] at h
  refine envCons (c := slices_insertionSortOrdered_intct) h slices_insertionSortOrdered_int_ctr (fun h => ?_)
  cases h), mapE⟩
noncomputable def slices_pdqsortOrdered_intC : Code := bodyOf Go.Proofs.Try.f96
noncomputable def slices_pdqsortOrdered_intL1C : Code := (loopsOf slices_pdqsortOrdered_intC).getD 0 .skip
noncomputable def slices_pdqsortOrdered_intL1S : Shape := { n := 134, nx := 1, sl := [(0, .own (.int .i64) 0), (1, .dat false (.int .i64)), (2, .dat false (.int .i64)), (3, .dat false (.int .i64)), (8, .dat true .bool), (9, .dat true .bool)], ob := [(0, .slc false (.int .i64))], fix := [0], may := false }
noncomputable def slices_pdqsortOrdered_intL1O : List (Ex × Shape) := [(.ret, { n := 134, nx := 1, sl := [], ob := [(0, .slc false (.int .i64))], fix := [0], may := false })]
noncomputable def slices_pdqsortOrdered_intL1M : Sum := loopSum (Y := Int × Int × Int × Bool × Bool × (Val (.slice (.int .i64)))) (Z := (Val (.slice (.int .i64)))) slices_pdqsortOrdered_intL1S slices_pdqsortOrdered_intL1O (fun d => d) (fun d => d) (iter slices_pdqsortOrdered_intL1B)
noncomputable def slices_pdqsortOrdered_intH : Nat → Option Sum := fun n => bif Nat.beq n 2 then some slices_pdqsortOrdered_intL1M else none
theorem slices_pdqsortOrdered_intL1_bd (y : Int × Int × Int × Bool × Bool × (Val (.slice (.int .i64)))) : @Eq (Option ((Int × Int × Int × Bool × Bool × (Val (.slice (.int .i64)))) ⊕ ((Val (.slice (.int .i64)))))) (exec slices_pdqsortOrdered_intE slices_pdqsortOrdered_intH slices_pdqsortOrdered_intL1C (slices_pdqsortOrdered_intL1S.mk' (show slices_pdqsortOrdered_intL1S.D from y)) (kont (Y := Int × Int × Int × Bool × Bool × (Val (.slice (.int .i64)))) (Z := (Val (.slice (.int .i64)))) slices_pdqsortOrdered_intL1S slices_pdqsortOrdered_intL1O (fun d => d) (fun d => d))) (slices_pdqsortOrdered_intL1B y) := by kernel_rfl
theorem slices_pdqsortOrdered_intL1_ok {w0 : World} {Jo : Io} (hfix : ∀ i b, Jo.fix i = some b → i ∈ [0]) (hmay : false = true → Jo.may) : SumOk PT w0 Jo slices_pdqsortOrdered_intL1M (.loop slices_pdqsortOrdered_intL1C) :=
  @loop_ok w0 Jo PT slices_pdqsortOrdered_intE slices_pdqsortOrdered_intH (Int × Int × Int × Bool × Bool × (Val (.slice (.int .i64)))) ((Val (.slice (.int .i64)))) slices_pdqsortOrdered_int_env mixed slices_pdqsortOrdered_intL1C slices_pdqsortOrdered_intL1S slices_pdqsortOrdered_intL1O (fun d => d) (fun d => d) (fun d => d) (fun d => d) (fun _ => rfl) (fun _ => rfl) hfix hmay (by kernel_rfl) (noLoops (by kernel_rfl)) slices_pdqsortOrdered_intL1B slices_pdqsortOrdered_intL1_bd
theorem slices_pdqsortOrdered_int_bd (y : Int × Int × Int × (Val (.slice (.int .i64)))) : @Eq (Option ((Val (.slice (.int .i64))))) (exec slices_pdqsortOrdered_intE slices_pdqsortOrdered_intH slices_pdqsortOrdered_intC (slices_pdqsortOrdered_intI.mk' (show slices_pdqsortOrdered_intI.D from y)) (kontF (Z := (Val (.slice (.int .i64)))) slices_pdqsortOrdered_intE Go.Proofs.Try.f96.results.toList slices_pdqsortOrdered_intO (fun d => d))) (slices_pdqsortOrdered_intF y) := by kernel_rfl
theorem slices_pdqsortOrdered_int_lo {w0 : World} {Jo : Io} (hfix : ∀ i b, Jo.fix i = some b → i ∈ [0]) (hmay : false = true → Jo.may) : LoopsOk PT w0 Jo slices_pdqsortOrdered_intH slices_pdqsortOrdered_intC := (loopsMk (by kernel_rfl) (loopsCons (c := slices_pdqsortOrdered_intL1C) (n := 2) (f := slices_pdqsortOrdered_intL1M) (by kernel_rfl) (by kernel_rfl) (slices_pdqsortOrdered_intL1_ok hfix hmay) loopsNil))
theorem slices_pdqsortOrdered_int_ctr : CtrOk PT 96 slices_pdqsortOrdered_intct :=
  @ctr_ok PT slices_pdqsortOrdered_intE slices_pdqsortOrdered_intH slices_pdqsortOrdered_int_env mixed 96 Go.Proofs.Try.f96 slices_pdqsortOrdered_intC (by kernel_rfl) (by kernel_rfl) (enters_of (by kernel_rfl : PT.funcs[96]? = some Go.Proofs.Try.f96) (by kernel_rfl) (by kernel_rfl)) slices_pdqsortOrdered_intI slices_pdqsortOrdered_intO (Int × Int × Int × (Val (.slice (.int .i64)))) ((Val (.slice (.int .i64)))) (fun d => d) (fun d => d) (fun d => d) (fun d => d) (fun _ => rfl) (fun _ => rfl) (by kernel_rfl) (by kernel_rfl) slices_pdqsortOrdered_intF slices_pdqsortOrdered_int_bd (fun w0 Jo hfix hmay => slices_pdqsortOrdered_int_lo hfix hmay)

/-- slices.Sort[[]int,int] -/
noncomputable def slices_Sort_int (a0 : Val (.slice (.int .i64))) : Option ((Val (.slice (.int .i64)))) :=
  (bits_Len (IntKind.wrap .u64 (((List.length a0) : Nat) : Int))).bind fun r1 =>
  (slices_pdqsortOrdered_int (0 : Int) (((List.length a0) : Nat) : Int) r1 a0).bind fun r2 =>
  some r2
noncomputable def slices_Sort_intI : Shape := { n := 11, nx := 1, sl := [(0, .own (.int .i64) 0)], ob := [(0, .slc false (.int .i64))], fix := [0], may := false }
noncomputable def slices_Sort_intO : Shape := { n := 12, nx := 1, sl := [(11, .tup (.nil))], ob := [(0, .slc false (.int .i64))], fix := [0], may := false }
noncomputable def slices_Sort_intF : ((Val (.slice (.int .i64)))) → Option ((Val (.slice (.int .i64)))) := fun y => slices_Sort_int y
noncomputable def slices_Sort_intct : Ctr := ctrOf slices_Sort_intI slices_Sort_intO (fun d => d) (fun d => d) slices_Sort_intF
noncomputable def slices_Sort_intE : Env := { tf := tfE, mt := mtE, fn := fun f => bif Nat.beq f 97 then some bits_Lenct else bif Nat.beq f 96 then some slices_pdqsortOrdered_intct else none }
theorem slices_Sort_int_env : EnvOk PT slices_Sort_intE := ⟨tyE, (fun f ct h => by
  simp only [slices_Sort_intE] at h
  refine envCons (c := bits_Lenct) h bits_Len_ctr (fun h => ?_)
  refine envCons (c := slices_pdqsortOrdered_intct) h slices_pdqsortOrdered_int_ctr (fun h => ?_)
  cases h), mapE⟩
noncomputable def slices_Sort_intC : Code := bodyOf Go.Proofs.Try.f88
noncomputable def slices_Sort_intH : Nat → Option Sum := fun n => none
theorem slices_Sort_int_bd (y : (Val (.slice (.int .i64)))) : @Eq (Option ((Val (.slice (.int .i64))))) (exec slices_Sort_intE slices_Sort_intH slices_Sort_intC (slices_Sort_intI.mk' (show slices_Sort_intI.D from y)) (kontF (Z := (Val (.slice (.int .i64)))) slices_Sort_intE Go.Proofs.Try.f88.results.toList slices_Sort_intO (fun d => d))) (slices_Sort_intF y) := by kernel_rfl
theorem slices_Sort_int_lo {w0 : World} {Jo : Io} (hfix : ∀ i b, Jo.fix i = some b → i ∈ [0]) (hmay : false = true → Jo.may) : LoopsOk PT w0 Jo slices_Sort_intH slices_Sort_intC := (noLoops (by kernel_rfl))
theorem slices_Sort_int_ctr : CtrOk PT 88 slices_Sort_intct :=
  @ctr_ok PT slices_Sort_intE slices_Sort_intH slices_Sort_int_env mixed 88 Go.Proofs.Try.f88 slices_Sort_intC (by kernel_rfl) (by kernel_rfl) (enters_of (by kernel_rfl : PT.funcs[88]? = some Go.Proofs.Try.f88) (by kernel_rfl) (by kernel_rfl)) slices_Sort_intI slices_Sort_intO ((Val (.slice (.int .i64)))) ((Val (.slice (.int .i64)))) (fun d => d) (fun d => d) (fun d => d) (fun d => d) (fun _ => rfl) (fun _ => rfl) (by kernel_rfl) (by kernel_rfl) slices_Sort_intF slices_Sort_int_bd (fun w0 Jo hfix hmay => slices_Sort_int_lo hfix hmay)

noncomputable def slices_Compact_intL1b (x0 : Int) (x1 : Nat) (x2 : Nat) (x3 : Int) (x4 : Val (.slice (.int .i64))) : Option ((Int × Nat × Nat × Int × (Val (.slice (.int .i64)))) ⊕ (Int × (Val (.slice (.int .i64))))) :=
  bif (decide (x3 < (((x2 : Nat) : Int) - ((x1 : Nat) : Int)))) then (
    bif (inR x3 (x2 - x1)) then
    bif (inR (IntKind.wrap .i64 (x3 - (1 : Int))) (x2 - x1)) then
    bif (!(decide ((List.getD x4 (x1 + (Int.toNat x3)) (0 : Int)) = (List.getD x4 (x1 + (Int.toNat (IntKind.wrap .i64 (x3 - (1 : Int))))) (0 : Int))))) then (
      bif (inR x3 (x2 - x1)) then
      bif (inR x0 (List.length x4)) then
      some (Sum.inl ((IntKind.wrap .i64 (x0 + (1 : Int))), (x1, (x2, ((IntKind.wrap .i64 (x3 + (1 : Int))), (List.set x4 (Int.toNat x0) (List.getD x4 (x1 + (Int.toNat x3)) (0 : Int))))))))
      else none
      else none)
    else (
      some (Sum.inl (x0, (x1, (x2, ((IntKind.wrap .i64 (x3 + (1 : Int))), x4))))))
    else none
    else none)
  else (
    some (Sum.inr (x0, x4)))
noncomputable def slices_Compact_intL1B : (Int × Nat × Nat × Int × (Val (.slice (.int .i64)))) → Option ((Int × Nat × Nat × Int × (Val (.slice (.int .i64)))) ⊕ (Int × (Val (.slice (.int .i64))))) := fun y => slices_Compact_intL1b y.1 y.2.1 y.2.2.1 y.2.2.2.1 y.2.2.2.2
noncomputable def slices_Compact_intL1 (x0 : Int) (x1 : Nat) (x2 : Nat) (x3 : Int) (x4 : Val (.slice (.int .i64))) : Option (Int × (Val (.slice (.int .i64)))) := iter slices_Compact_intL1B (x0, (x1, (x2, (x3, x4))))
noncomputable def slices_Compact_intL2b (x0 : Int) (x1 : Val (.slice (.int .i64))) : Option ((Int × (Val (.slice (.int .i64)))) ⊕ ((Val (.slice (.int .i64))))) :=
  bif (decide (x0 < (((List.length x1) : Nat) : Int))) then (
    bif (inR x0 (List.length x1)) then
    bif (inR (IntKind.wrap .i64 (x0 - (1 : Int))) (List.length x1)) then
    bif (decide ((List.getD x1 (Int.toNat x0) (0 : Int)) = (List.getD x1 (Int.toNat (IntKind.wrap .i64 (x0 - (1 : Int)))) (0 : Int)))) then (
      bif (((decide ((0 : Int) ≤ x0)) && (decide (x0 ≤ (((List.length x1) : Nat) : Int)))) && (decide ((((List.length x1) : Nat) : Int) ≤ (((List.length x1) : Nat) : Int)))) then
      (slices_Compact_intL1 x0 (Int.toNat x0) (List.length x1) (1 : Int) x1).bind fun r1 =>
      bif (((decide ((0 : Int) ≤ r1.1)) && (decide (r1.1 ≤ (((List.length r1.2) : Nat) : Int)))) && (decide ((((List.length r1.2) : Nat) : Int) ≤ (((List.length r1.2) : Nat) : Int)))) then
      none
      else none
      else none)
    else (
      some (Sum.inl ((IntKind.wrap .i64 (x0 + (1 : Int))), x1)))
    else none
    else none)
  else (
    some (Sum.inr x1))
noncomputable def slices_Compact_intL2B : (Int × (Val (.slice (.int .i64)))) → Option ((Int × (Val (.slice (.int .i64)))) ⊕ ((Val (.slice (.int .i64))))) := fun y => slices_Compact_intL2b y.1 y.2
noncomputable def slices_Compact_intL2 (x0 : Int) (x1 : Val (.slice (.int .i64))) : Option ((Val (.slice (.int .i64)))) := iter slices_Compact_intL2B (x0, x1)
/-- slices.Compact[[]int,int] -/
noncomputable def slices_Compact_int (a0 : Val (.slice (.int .i64))) : Option ((Val (.slice (.int .i64)))) :=
  bif (decide ((((List.length a0) : Nat) : Int) < (2 : Int))) then (
    some a0)
  else (
    (slices_Compact_intL2 (1 : Int) a0).bind fun r1 =>
    some r1)
noncomputable def slices_Compact_intI : Shape := { n := 61, nx := 1, sl := [(0, .own (.int .i64) 0)], ob := [(0, .slc false (.int .i64))], fix := [0], may := false }
noncomputable def slices_Compact_intO : Shape := { n := 62, nx := 1, sl := [(61, .own (.int .i64) 0)], ob := [(0, .slc false (.int .i64))], fix := [0], may := false }
noncomputable def slices_Compact_intF : ((Val (.slice (.int .i64)))) → Option ((Val (.slice (.int .i64)))) := fun y => slices_Compact_int y
noncomputable def slices_Compact_intct : Ctr := ctrOf slices_Compact_intI slices_Compact_intO (fun d => d) (fun d => d) slices_Compact_intF
noncomputable def slices_Compact_intE : Env := { tf := tfE, mt := mtE, fn := fun f => none }
theorem slices_Compact_int_env : EnvOk PT slices_Compact_intE := ⟨tyE, (fun f ct h => by
  simp only [slices_Compact_intE] at h
  cases h), mapE⟩
noncomputable def slices_Compact_intC : Code := bodyOf Go.Proofs.Try.f89
noncomputable def slices_Compact_intL2C : Code := (loopsOf slices_Compact_intC).getD 0 .skip
noncomputable def slices_Compact_intL1C : Code := (loopsOf slices_Compact_intC).getD 1 .skip
noncomputable def slices_Compact_intL1S : Shape := { n := 61, nx := 1, sl := [(0, .own (.int .i64) 0), (3, .dat true (.int .i64)), (4, .sub (.int .i64) 0), (5, .dat true (.int .i64))], ob := [(0, .slc false (.int .i64))], fix := [0], may := false }
noncomputable def slices_Compact_intL1O : List (Ex × Shape) := [(.exit 2, { n := 61, nx := 1, sl := [(0, .own (.int .i64) 0), (3, .dat true (.int .i64))], ob := [(0, .slc false (.int .i64))], fix := [0], may := false })]
noncomputable def slices_Compact_intL1M : Sum := loopSum (Y := Int × Nat × Nat × Int × (Val (.slice (.int .i64)))) (Z := Int × (Val (.slice (.int .i64)))) slices_Compact_intL1S slices_Compact_intL1O (fun d => d) (fun d => d) (iter slices_Compact_intL1B)
noncomputable def slices_Compact_intL2S : Shape := { n := 61, nx := 1, sl := [(0, .own (.int .i64) 0), (3, .dat true (.int .i64))], ob := [(0, .slc false (.int .i64))], fix := [0], may := false }
noncomputable def slices_Compact_intL2O : List (Ex × Shape) := [(.exit 0, { n := 61, nx := 1, sl := [(0, .own (.int .i64) 0)], ob := [(0, .slc false (.int .i64))], fix := [0], may := false })]
noncomputable def slices_Compact_intL2M : Sum := loopSum (Y := Int × (Val (.slice (.int .i64)))) (Z := (Val (.slice (.int .i64)))) slices_Compact_intL2S slices_Compact_intL2O (fun d => d) (fun d => d) (iter slices_Compact_intL2B)
noncomputable def slices_Compact_intH : Nat → Option Sum := fun n => bif Nat.beq n 9 then some slices_Compact_intL1M else bif Nat.beq n 4 then some slices_Compact_intL2M else none
theorem slices_Compact_intL1_bd (y : Int × Nat × Nat × Int × (Val (.slice (.int .i64)))) : @Eq (Option ((Int × Nat × Nat × Int × (Val (.slice (.int .i64)))) ⊕ (Int × (Val (.slice (.int .i64)))))) (exec slices_Compact_intE slices_Compact_intH slices_Compact_intL1C (slices_Compact_intL1S.mk' (show slices_Compact_intL1S.D from y)) (kont (Y := Int × Nat × Nat × Int × (Val (.slice (.int .i64)))) (Z := Int × (Val (.slice (.int .i64)))) slices_Compact_intL1S slices_Compact_intL1O (fun d => d) (fun d => d))) (slices_Compact_intL1B y) := by kernel_rfl
theorem slices_Compact_intL1_ok {w0 : World} {Jo : Io} (hfix : ∀ i b, Jo.fix i = some b → i ∈ [0]) (hmay : false = true → Jo.may) : SumOk PT w0 Jo slices_Compact_intL1M (.loop slices_Compact_intL1C) :=
  @loop_ok w0 Jo PT slices_Compact_intE slices_Compact_intH (Int × Nat × Nat × Int × (Val (.slice (.int .i64)))) (Int × (Val (.slice (.int .i64)))) slices_Compact_int_env mixed slices_Compact_intL1C slices_Compact_intL1S slices_Compact_intL1O (fun d => d) (fun d => d) (fun d => d) (fun d => d) (fun _ => rfl) (fun _ => rfl) hfix hmay (by kernel_rfl) (noLoops (by kernel_rfl)) slices_Compact_intL1B slices_Compact_intL1_bd
theorem slices_Compact_intL2_bd (y : Int × (Val (.slice (.int .i64)))) : @Eq (Option ((Int × (Val (.slice (.int .i64)))) ⊕ ((Val (.slice (.int .i64)))))) (exec slices_Compact_intE slices_Compact_intH slices_Compact_intL2C (slices_Compact_intL2S.mk' (show slices_Compact_intL2S.D from y)) (kont (Y := Int × (Val (.slice (.int .i64)))) (Z := (Val (.slice (.int .i64)))) slices_Compact_intL2S slices_Compact_intL2O (fun d => d) (fun d => d))) (slices_Compact_intL2B y) := by kernel_rfl
theorem slices_Compact_intL2_ok {w0 : World} {Jo : Io} (hfix : ∀ i b, Jo.fix i = some b → i ∈ [0]) (hmay : false = true → Jo.may) : SumOk PT w0 Jo slices_Compact_intL2M (.loop slices_Compact_intL2C) :=
  @loop_ok w0 Jo PT slices_Compact_intE slices_Compact_intH (Int × (Val (.slice (.int .i64)))) ((Val (.slice (.int .i64)))) slices_Compact_int_env mixed slices_Compact_intL2C slices_Compact_intL2S slices_Compact_intL2O (fun d => d) (fun d => d) (fun d => d) (fun d => d) (fun _ => rfl) (fun _ => rfl) hfix hmay (by kernel_rfl) (loopsMk (by kernel_rfl) (loopsCons (c := slices_Compact_intL1C) (n := 9) (f := slices_Compact_intL1M) (by kernel_rfl) (by kernel_rfl) (slices_Compact_intL1_ok hfix hmay) loopsNil)) slices_Compact_intL2B slices_Compact_intL2_bd
theorem slices_Compact_int_bd (y : (Val (.slice (.int .i64)))) : @Eq (Option ((Val (.slice (.int .i64))))) (exec slices_Compact_intE slices_Compact_intH slices_Compact_intC (slices_Compact_intI.mk' (show slices_Compact_intI.D from y)) (kontF (Z := (Val (.slice (.int .i64)))) slices_Compact_intE Go.Proofs.Try.f89.results.toList slices_Compact_intO (fun d => d))) (slices_Compact_intF y) := by kernel_rfl
theorem slices_Compact_int_lo {w0 : World} {Jo : Io} (hfix : ∀ i b, Jo.fix i = some b → i ∈ [0]) (hmay : false = true → Jo.may) : LoopsOk PT w0 Jo slices_Compact_intH slices_Compact_intC := (loopsMk (by kernel_rfl) (loopsCons (c := slices_Compact_intL2C) (n := 4) (f := slices_Compact_intL2M) (by kernel_rfl) (by kernel_rfl) (slices_Compact_intL2_ok hfix hmay) (loopsCons (c := slices_Compact_intL1C) (n := 9) (f := slices_Compact_intL1M) (by kernel_rfl) (by kernel_rfl) (slices_Compact_intL1_ok hfix hmay) loopsNil)))
theorem slices_Compact_int_ctr : CtrOk PT 89 slices_Compact_intct :=
  @ctr_ok PT slices_Compact_intE slices_Compact_intH slices_Compact_int_env mixed 89 Go.Proofs.Try.f89 slices_Compact_intC (by kernel_rfl) (by kernel_rfl) (enters_of (by kernel_rfl : PT.funcs[89]? = some Go.Proofs.Try.f89) (by kernel_rfl) (by kernel_rfl)) slices_Compact_intI slices_Compact_intO ((Val (.slice (.int .i64)))) ((Val (.slice (.int .i64)))) (fun d => d) (fun d => d) (fun d => d) (fun d => d) (fun _ => rfl) (fun _ => rfl) (by kernel_rfl) (by kernel_rfl) slices_Compact_intF slices_Compact_int_bd (fun w0 Jo hfix hmay => slices_Compact_int_lo hfix hmay)

noncomputable def segment_missingL1b (x0 : Val (.slice TPage)) (x1 : Val (.slice (.int .i64))) (x2 : Int) (x3 : Int) (x4 : Val (.slice (.int .i64))) : Option (((Val (.slice TPage)) × (Val (.slice (.int .i64))) × Int × Int × (Val (.slice (.int .i64)))) ⊕ ((Val (.slice (.int .i64))))) :=
  bif (decide (x3 < x2)) then (
    bif (inR x3 (List.length x1)) then
    (pointer_Latest x0 (List.getD x1 (Int.toNat x3) (0 : Int))).bind fun r1 =>
    bif (!r1.2) then (
      bif (decide (((List.length x4) + 1) ≤ lim)) then
      some (Sum.inl (x0, (x1, (x2, ((IntKind.wrap .i64 (x3 + (1 : Int))), (x4 ++ [(List.getD x1 (Int.toNat x3) (0 : Int))]))))))
      else none)
    else (
      some (Sum.inl (x0, (x1, (x2, ((IntKind.wrap .i64 (x3 + (1 : Int))), x4))))))
    else none)
  else (
    some (Sum.inr x4))
noncomputable def segment_missingL1B : ((Val (.slice TPage)) × (Val (.slice (.int .i64))) × Int × Int × (Val (.slice (.int .i64)))) → Option (((Val (.slice TPage)) × (Val (.slice (.int .i64))) × Int × Int × (Val (.slice (.int .i64)))) ⊕ ((Val (.slice (.int .i64))))) := fun y => segment_missingL1b y.1 y.2.1 y.2.2.1 y.2.2.2.1 y.2.2.2.2
noncomputable def segment_missingL1 (x0 : Val (.slice TPage)) (x1 : Val (.slice (.int .i64))) (x2 : Int) (x3 : Int) (x4 : Val (.slice (.int .i64))) : Option ((Val (.slice (.int .i64)))) := iter segment_missingL1B (x0, (x1, (x2, (x3, x4))))
/-- bodega/segment.missing -/
noncomputable def segment_missing (a0 : Val (.slice TPage)) (a1 : Val (.slice (.int .i64))) : Option ((Val (.slice (.int .i64)))) :=
  (segment_missingL1 a0 a1 (((List.length a1) : Nat) : Int) (0 : Int) []).bind fun r1 =>
  (slices_Sort_int r1).bind fun r2 =>
  (slices_Compact_int r2).bind fun r3 =>
  some r3
noncomputable def segment_missingI : Shape := { n := 33, nx := 0, sl := [(0, .dat false (.slice TPage)), (1, .dat false (.slice (.int .i64)))], ob := [], fix := [], may := true }
noncomputable def segment_missingO : Shape := { n := 34, nx := 1, sl := [(33, .own (.int .i64) 0)], ob := [(0, .slc true (.int .i64))], fix := [], may := true }
noncomputable def segment_missingF : ((Val (.slice TPage)) × (Val (.slice (.int .i64)))) → Option ((Val (.slice (.int .i64)))) := fun y => segment_missing y.1 y.2
noncomputable def segment_missingct : Ctr := ctrOf segment_missingI segment_missingO (fun d => d) (fun d => d) segment_missingF
noncomputable def segment_missingE : Env := { tf := tfE, mt := mtE, fn := fun f => bif Nat.beq f 71 then some pointer_Latestct else bif Nat.beq f 88 then some slices_Sort_intct else bif Nat.beq f 89 then some slices_Compact_intct else none }
theorem segment_missing_env : EnvOk PT segment_missingE := ⟨tyE, (fun f ct h => by
  simp only [segment_missingE] at h
  refine envCons (c := pointer_Latestct) h pointer_Latest_ctr (fun h => ?_)
  refine envCons (c := slices_Sort_intct) h slices_Sort_int_ctr (fun h => ?_)
  refine envCons (c := slices_Compact_intct) h slices_Compact_int_ctr (fun h => ?_)
  cases h), mapE⟩
noncomputable def segment_missingC : Code := bodyOf Go.Proofs.Try.f64
noncomputable def segment_missingL1C : Code := (loopsOf segment_missingC).getD 0 .skip
noncomputable def segment_missingL1S : Shape := { n := 33, nx := 1, sl := [(0, .dat false (.slice TPage)), (5, .own (.int .i64) 0), (10, .dat false (.slice (.int .i64))), (11, .dat true (.int .i64)), (12, .dat true (.int .i64))], ob := [(0, .slc true (.int .i64))], fix := [], may := true }
noncomputable def segment_missingL1O : List (Ex × Shape) := [(.exit 0, { n := 33, nx := 1, sl := [(5, .own (.int .i64) 0)], ob := [(0, .slc true (.int .i64))], fix := [], may := true })]
noncomputable def segment_missingL1M : Sum := loopSum (Y := (Val (.slice TPage)) × (Val (.slice (.int .i64))) × Int × Int × (Val (.slice (.int .i64)))) (Z := (Val (.slice (.int .i64)))) segment_missingL1S segment_missingL1O (fun d => d) (fun d => d) (iter segment_missingL1B)
noncomputable def segment_missingH : Nat → Option Sum := fun n => bif Nat.beq n 3 then some segment_missingL1M else none
theorem segment_missingL1_bd (y : (Val (.slice TPage)) × (Val (.slice (.int .i64))) × Int × Int × (Val (.slice (.int .i64)))) : @Eq (Option (((Val (.slice TPage)) × (Val (.slice (.int .i64))) × Int × Int × (Val (.slice (.int .i64)))) ⊕ ((Val (.slice (.int .i64)))))) (exec segment_missingE segment_missingH segment_missingL1C (segment_missingL1S.mk' (show segment_missingL1S.D from y)) (kont (Y := (Val (.slice TPage)) × (Val (.slice (.int .i64))) × Int × Int × (Val (.slice (.int .i64)))) (Z := (Val (.slice (.int .i64)))) segment_missingL1S segment_missingL1O (fun d => d) (fun d => d))) (segment_missingL1B y) := by kernel_rfl
theorem segment_missingL1_ok {w0 : World} {Jo : Io} (hfix : ∀ i b, Jo.fix i = some b → i ∈ []) (hmay : true = true → Jo.may) : SumOk PT w0 Jo segment_missingL1M (.loop segment_missingL1C) :=
  @loop_ok w0 Jo PT segment_missingE segment_missingH ((Val (.slice TPage)) × (Val (.slice (.int .i64))) × Int × Int × (Val (.slice (.int .i64)))) ((Val (.slice (.int .i64)))) segment_missing_env mixed segment_missingL1C segment_missingL1S segment_missingL1O (fun d => d) (fun d => d) (fun d => d) (fun d => d) (fun _ => rfl) (fun _ => rfl) hfix hmay (by kernel_rfl) (noLoops (by kernel_rfl)) segment_missingL1B segment_missingL1_bd
theorem segment_missing_bd (y : (Val (.slice TPage)) × (Val (.slice (.int .i64)))) : @Eq (Option ((Val (.slice (.int .i64))))) (exec segment_missingE segment_missingH segment_missingC (segment_missingI.mk' (show segment_missingI.D from y)) (kontF (Z := (Val (.slice (.int .i64)))) segment_missingE Go.Proofs.Try.f64.results.toList segment_missingO (fun d => d))) (segment_missingF y) := by kernel_rfl
theorem segment_missing_lo {w0 : World} {Jo : Io} (hfix : ∀ i b, Jo.fix i = some b → i ∈ []) (hmay : true = true → Jo.may) : LoopsOk PT w0 Jo segment_missingH segment_missingC := (loopsMk (by kernel_rfl) (loopsCons (c := segment_missingL1C) (n := 3) (f := segment_missingL1M) (by kernel_rfl) (by kernel_rfl) (segment_missingL1_ok hfix hmay) loopsNil))
theorem segment_missing_ctr : CtrOk PT 64 segment_missingct :=
  @ctr_ok PT segment_missingE segment_missingH segment_missing_env mixed 64 Go.Proofs.Try.f64 segment_missingC (by kernel_rfl) (by kernel_rfl) (enters_of (by kernel_rfl : PT.funcs[64]? = some Go.Proofs.Try.f64) (by kernel_rfl) (by kernel_rfl)) segment_missingI segment_missingO ((Val (.slice TPage)) × (Val (.slice (.int .i64)))) ((Val (.slice (.int .i64)))) (fun d => d) (fun d => d) (fun d => d) (fun d => d) (fun _ => rfl) (fun _ => rfl) (by kernel_rfl) (by kernel_rfl) segment_missingF segment_missing_bd (fun w0 Jo hfix hmay => segment_missing_lo hfix hmay)

/-- bodega/pointer.Locked -/
noncomputable def pointer_Locked (a0 : Val TPage) : Option Bool :=
  some (!(decide ((IntKind.wrap .u64 ((BitVec.ofInt (IntKind.bits .u64) a0.2.1 &&& BitVec.ofInt (IntKind.bits .u64) (255 : Int)).toNat : Int)) = (0 : Int))))
noncomputable def pointer_LockedI : Shape := { n := 7, nx := 0, sl := [(0, .dat false TPage)], ob := [], fix := [], may := true }
noncomputable def pointer_LockedO : Shape := { n := 8, nx := 0, sl := [(7, .dat true .bool)], ob := [], fix := [], may := true }
noncomputable def pointer_LockedF : ((Val TPage)) → Option Bool := fun y => pointer_Locked y
noncomputable def pointer_Lockedct : Ctr := ctrOf pointer_LockedI pointer_LockedO (fun d => d) (fun d => d) pointer_LockedF
noncomputable def pointer_LockedE : Env := { tf := tfE, mt := mtE, fn := fun f => none }
theorem pointer_Locked_env : EnvOk PT pointer_LockedE := ⟨tyE, (fun f ct h => by
  simp only [pointer_LockedE] at h
  cases h), mapE⟩
noncomputable def pointer_LockedC : Code := bodyOf Go.Proofs.Try.f73
noncomputable def pointer_LockedH : Nat → Option Sum := fun n => none
theorem pointer_Locked_bd (y : (Val TPage)) : @Eq (Option Bool) (exec pointer_LockedE pointer_LockedH pointer_LockedC (pointer_LockedI.mk' (show pointer_LockedI.D from y)) (kontF (Z := Bool) pointer_LockedE Go.Proofs.Try.f73.results.toList pointer_LockedO (fun d => d))) (pointer_LockedF y) := by kernel_rfl
theorem pointer_Locked_lo {w0 : World} {Jo : Io} (hfix : ∀ i b, Jo.fix i = some b → i ∈ []) (hmay : true = true → Jo.may) : LoopsOk PT w0 Jo pointer_LockedH pointer_LockedC := (noLoops (by kernel_rfl))
theorem pointer_Locked_ctr : CtrOk PT 73 pointer_Lockedct :=
  @ctr_ok PT pointer_LockedE pointer_LockedH pointer_Locked_env mixed 73 Go.Proofs.Try.f73 pointer_LockedC (by kernel_rfl) (by kernel_rfl) (enters_of (by kernel_rfl : PT.funcs[73]? = some Go.Proofs.Try.f73) (by kernel_rfl) (by kernel_rfl)) pointer_LockedI pointer_LockedO ((Val TPage)) Bool (fun d => d) (fun d => d) (fun d => d) (fun d => d) (fun _ => rfl) (fun _ => rfl) (by kernel_rfl) (by kernel_rfl) pointer_LockedF pointer_Locked_bd (fun w0 Jo hfix hmay => pointer_Locked_lo hfix hmay)

/-- bodega/segment.isNodeLine -/
noncomputable def segment_isNodeLine (a0 : Int) : Option Bool :=
  bif (decide ((98 : Int) ≤ a0)) then (
    some (decide (a0 < (104 : Int))))
  else (
    some false)
noncomputable def segment_isNodeLineI : Shape := { n := 9, nx := 0, sl := [(0, .dat false (.int .i64))], ob := [], fix := [], may := true }
noncomputable def segment_isNodeLineO : Shape := { n := 10, nx := 0, sl := [(9, .dat true .bool)], ob := [], fix := [], may := true }
noncomputable def segment_isNodeLineF : Int → Option Bool := fun y => segment_isNodeLine y
noncomputable def segment_isNodeLinect : Ctr := ctrOf segment_isNodeLineI segment_isNodeLineO (fun d => d) (fun d => d) segment_isNodeLineF
noncomputable def segment_isNodeLineE : Env := { tf := tfE, mt := mtE, fn := fun f => none }
theorem segment_isNodeLine_env : EnvOk PT segment_isNodeLineE := ⟨tyE, (fun f ct h => by
  simp only [segment_isNodeLineE] at h
  cases h), mapE⟩
noncomputable def segment_isNodeLineC : Code := bodyOf Go.Proofs.Try.f51
noncomputable def segment_isNodeLineH : Nat → Option Sum := fun n => none
theorem segment_isNodeLine_bd (y : Int) : @Eq (Option Bool) (exec segment_isNodeLineE segment_isNodeLineH segment_isNodeLineC (segment_isNodeLineI.mk' (show segment_isNodeLineI.D from y)) (kontF (Z := Bool) segment_isNodeLineE Go.Proofs.Try.f51.results.toList segment_isNodeLineO (fun d => d))) (segment_isNodeLineF y) := by kernel_rfl
theorem segment_isNodeLine_lo {w0 : World} {Jo : Io} (hfix : ∀ i b, Jo.fix i = some b → i ∈ []) (hmay : true = true → Jo.may) : LoopsOk PT w0 Jo segment_isNodeLineH segment_isNodeLineC := (noLoops (by kernel_rfl))
theorem segment_isNodeLine_ctr : CtrOk PT 51 segment_isNodeLinect :=
  @ctr_ok PT segment_isNodeLineE segment_isNodeLineH segment_isNodeLine_env mixed 51 Go.Proofs.Try.f51 segment_isNodeLineC (by kernel_rfl) (by kernel_rfl) (enters_of (by kernel_rfl : PT.funcs[51]? = some Go.Proofs.Try.f51) (by kernel_rfl) (by kernel_rfl)) segment_isNodeLineI segment_isNodeLineO Int Bool (fun d => d) (fun d => d) (fun d => d) (fun d => d) (fun _ => rfl) (fun _ => rfl) (by kernel_rfl) (by kernel_rfl) segment_isNodeLineF segment_isNodeLine_bd (fun w0 Jo hfix hmay => segment_isNodeLine_lo hfix hmay)

/-- bodega/pointer.Unpack -/
noncomputable def pointer_Unpack (a0 : Int) : Option ((Val TPtr)) :=
  some ((IntKind.wrap .i64 (IntKind.wrap .u32 ((BitVec.ofInt (IntKind.bits .u32) a0 &&& BitVec.ofInt (IntKind.bits .u32) (255 : Int)).toNat : Int))), ((IntKind.wrap .i64 (shiftR .u32 a0 (8 : Int))), ()))
noncomputable def pointer_UnpackI : Shape := { n := 10, nx := 0, sl := [(0, .dat false (.int .u32))], ob := [], fix := [], may := true }
noncomputable def pointer_UnpackO : Shape := { n := 11, nx := 0, sl := [(10, .dat true TPtr)], ob := [], fix := [], may := true }
noncomputable def pointer_UnpackF : Int → Option ((Val TPtr)) := fun y => pointer_Unpack y
noncomputable def pointer_Unpackct : Ctr := ctrOf pointer_UnpackI pointer_UnpackO (fun d => d) (fun d => d) pointer_UnpackF
noncomputable def pointer_UnpackE : Env := { tf := tfE, mt := mtE, fn := fun f => none }
theorem pointer_Unpack_env : EnvOk PT pointer_UnpackE := ⟨tyE, (fun f ct h => by
  simp only [pointer_UnpackE] at h
  cases h), mapE⟩
noncomputable def pointer_UnpackC : Code := bodyOf Go.Proofs.Try.f82
noncomputable def pointer_UnpackH : Nat → Option Sum := fun n => none
theorem pointer_Unpack_bd (y : Int) : @Eq (Option ((Val TPtr))) (exec pointer_UnpackE pointer_UnpackH pointer_UnpackC (pointer_UnpackI.mk' (show pointer_UnpackI.D from y)) (kontF (Z := (Val TPtr)) pointer_UnpackE Go.Proofs.Try.f82.results.toList pointer_UnpackO (fun d => d))) (pointer_UnpackF y) := by kernel_rfl
theorem pointer_Unpack_lo {w0 : World} {Jo : Io} (hfix : ∀ i b, Jo.fix i = some b → i ∈ []) (hmay : true = true → Jo.may) : LoopsOk PT w0 Jo pointer_UnpackH pointer_UnpackC := (noLoops (by kernel_rfl))
theorem pointer_Unpack_ctr : CtrOk PT 82 pointer_Unpackct :=
  @ctr_ok PT pointer_UnpackE pointer_UnpackH pointer_Unpack_env mixed 82 Go.Proofs.Try.f82 pointer_UnpackC (by kernel_rfl) (by kernel_rfl) (enters_of (by kernel_rfl : PT.funcs[82]? = some Go.Proofs.Try.f82) (by kernel_rfl) (by kernel_rfl)) pointer_UnpackI pointer_UnpackO Int ((Val TPtr)) (fun d => d) (fun d => d) (fun d => d) (fun d => d) (fun _ => rfl) (fun _ => rfl) (by kernel_rfl) (by kernel_rfl) pointer_UnpackF pointer_Unpack_bd (fun w0 Jo hfix hmay => pointer_Unpack_lo hfix hmay)

/-- bodega/pointer.inHeap -/
noncomputable def pointer_inHeap (a0 : Int) : Option Bool :=
  bif (decide ((104 : Int) ≤ a0)) then (
    some (decide (a0 < (256 : Int))))
  else (
    some false)
noncomputable def pointer_inHeapI : Shape := { n := 9, nx := 0, sl := [(0, .dat false (.int .i64))], ob := [], fix := [], may := true }
noncomputable def pointer_inHeapO : Shape := { n := 10, nx := 0, sl := [(9, .dat true .bool)], ob := [], fix := [], may := true }
noncomputable def pointer_inHeapF : Int → Option Bool := fun y => pointer_inHeap y
noncomputable def pointer_inHeapct : Ctr := ctrOf pointer_inHeapI pointer_inHeapO (fun d => d) (fun d => d) pointer_inHeapF
noncomputable def pointer_inHeapE : Env := { tf := tfE, mt := mtE, fn := fun f => none }
theorem pointer_inHeap_env : EnvOk PT pointer_inHeapE := ⟨tyE, (fun f ct h => by
  simp only [pointer_inHeapE] at h
  cases h), mapE⟩
noncomputable def pointer_inHeapC : Code := bodyOf Go.Proofs.Try.f75
noncomputable def pointer_inHeapH : Nat → Option Sum := fun n => none
theorem pointer_inHeap_bd (y : Int) : @Eq (Option Bool) (exec pointer_inHeapE pointer_inHeapH pointer_inHeapC (pointer_inHeapI.mk' (show pointer_inHeapI.D from y)) (kontF (Z := Bool) pointer_inHeapE Go.Proofs.Try.f75.results.toList pointer_inHeapO (fun d => d))) (pointer_inHeapF y) := by kernel_rfl
theorem pointer_inHeap_lo {w0 : World} {Jo : Io} (hfix : ∀ i b, Jo.fix i = some b → i ∈ []) (hmay : true = true → Jo.may) : LoopsOk PT w0 Jo pointer_inHeapH pointer_inHeapC := (noLoops (by kernel_rfl))
theorem pointer_inHeap_ctr : CtrOk PT 75 pointer_inHeapct :=
  @ctr_ok PT pointer_inHeapE pointer_inHeapH pointer_inHeap_env mixed 75 Go.Proofs.Try.f75 pointer_inHeapC (by kernel_rfl) (by kernel_rfl) (enters_of (by kernel_rfl : PT.funcs[75]? = some Go.Proofs.Try.f75) (by kernel_rfl) (by kernel_rfl)) pointer_inHeapI pointer_inHeapO Int Bool (fun d => d) (fun d => d) (fun d => d) (fun d => d) (fun _ => rfl) (fun _ => rfl) (by kernel_rfl) (by kernel_rfl) pointer_inHeapF pointer_inHeap_bd (fun w0 Jo hfix hmay => pointer_inHeap_lo hfix hmay)

/-- bodega/pointer.Valid -/
noncomputable def pointer_Valid (a0 : Val TPtr) : Option Bool :=
  (pointer_inHeap a0.1).bind fun r1 =>
  bif r1 then (
    bif (decide ((1 : Int) ≤ a0.2.1)) then (
      some (decide (a0.2.1 ≤ (16777215 : Int))))
    else (
      some false))
  else (
    some false)
noncomputable def pointer_ValidI : Shape := { n := 16, nx := 0, sl := [(0, .dat false TPtr)], ob := [], fix := [], may := true }
noncomputable def pointer_ValidO : Shape := { n := 17, nx := 0, sl := [(16, .dat true .bool)], ob := [], fix := [], may := true }
noncomputable def pointer_ValidF : ((Val TPtr)) → Option Bool := fun y => pointer_Valid y
noncomputable def pointer_Validct : Ctr := ctrOf pointer_ValidI pointer_ValidO (fun d => d) (fun d => d) pointer_ValidF
noncomputable def pointer_ValidE : Env := { tf := tfE, mt := mtE, fn := fun f => bif Nat.beq f 75 then some pointer_inHeapct else none }
theorem pointer_Valid_env : EnvOk PT pointer_ValidE := ⟨tyE, (fun f ct h => by
  simp only [pointer_ValidE] at h
  refine envCons (c := pointer_inHeapct) h pointer_inHeap_ctr (fun h => ?_)
  cases h), mapE⟩
noncomputable def pointer_ValidC : Code := bodyOf Go.Proofs.Try.f57
noncomputable def pointer_ValidH : Nat → Option Sum := fun n => none
theorem pointer_Valid_bd (y : (Val TPtr)) : @Eq (Option Bool) (exec pointer_ValidE pointer_ValidH pointer_ValidC (pointer_ValidI.mk' (show pointer_ValidI.D from y)) (kontF (Z := Bool) pointer_ValidE Go.Proofs.Try.f57.results.toList pointer_ValidO (fun d => d))) (pointer_ValidF y) := by kernel_rfl
theorem pointer_Valid_lo {w0 : World} {Jo : Io} (hfix : ∀ i b, Jo.fix i = some b → i ∈ []) (hmay : true = true → Jo.may) : LoopsOk PT w0 Jo pointer_ValidH pointer_ValidC := (noLoops (by kernel_rfl))
theorem pointer_Valid_ctr : CtrOk PT 57 pointer_Validct :=
  @ctr_ok PT pointer_ValidE pointer_ValidH pointer_Valid_env mixed 57 Go.Proofs.Try.f57 pointer_ValidC (by kernel_rfl) (by kernel_rfl) (enters_of (by kernel_rfl : PT.funcs[57]? = some Go.Proofs.Try.f57) (by kernel_rfl) (by kernel_rfl)) pointer_ValidI pointer_ValidO ((Val TPtr)) Bool (fun d => d) (fun d => d) (fun d => d) (fun d => d) (fun _ => rfl) (fun _ => rfl) (by kernel_rfl) (by kernel_rfl) pointer_ValidF pointer_Valid_bd (fun w0 Jo hfix hmay => pointer_Valid_lo hfix hmay)

/-- bodega/segment.unpackRetired -/
noncomputable def segment_unpackRetired (a0 : Int) : Option ((Val TRet) × Bool) :=
  bif (decide (a0 = (0 : Int))) then (
    some ((((0 : Int), ((0 : Int), ())), ((0 : Int), ())), true))
  else (
    (pointer_Unpack (IntKind.wrap .u32 a0)).bind fun r1 =>
    (pointer_Valid r1).bind fun r2 =>
    some ((r1, ((IntKind.wrap .u32 (shiftR .u64 a0 (32 : Int))), ())), r2))
noncomputable def segment_unpackRetiredI : Shape := { n := 19, nx := 0, sl := [(0, .dat false (.int .u64))], ob := [], fix := [], may := true }
noncomputable def segment_unpackRetiredO : Shape := { n := 20, nx := 0, sl := [(19, .tup (.cons (.dat true TRet) (.cons (.dat true .bool) (.nil))))], ob := [], fix := [], may := true }
noncomputable def segment_unpackRetiredF : Int → Option ((Val TRet) × Bool) := fun y => segment_unpackRetired y
noncomputable def segment_unpackRetiredct : Ctr := ctrOf segment_unpackRetiredI segment_unpackRetiredO (fun d => d) (fun d => d) segment_unpackRetiredF
noncomputable def segment_unpackRetiredE : Env := { tf := tfE, mt := mtE, fn := fun f => bif Nat.beq f 82 then some pointer_Unpackct else bif Nat.beq f 57 then some pointer_Validct else none }
theorem segment_unpackRetired_env : EnvOk PT segment_unpackRetiredE := ⟨tyE, (fun f ct h => by
  simp only [segment_unpackRetiredE] at h
  refine envCons (c := pointer_Unpackct) h pointer_Unpack_ctr (fun h => ?_)
  refine envCons (c := pointer_Validct) h pointer_Valid_ctr (fun h => ?_)
  cases h), mapE⟩
noncomputable def segment_unpackRetiredC : Code := bodyOf Go.Proofs.Try.f52
noncomputable def segment_unpackRetiredH : Nat → Option Sum := fun n => none
theorem segment_unpackRetired_bd (y : Int) : @Eq (Option ((Val TRet) × Bool)) (exec segment_unpackRetiredE segment_unpackRetiredH segment_unpackRetiredC (segment_unpackRetiredI.mk' (show segment_unpackRetiredI.D from y)) (kontF (Z := (Val TRet) × Bool) segment_unpackRetiredE Go.Proofs.Try.f52.results.toList segment_unpackRetiredO (fun d => d))) (segment_unpackRetiredF y) := by kernel_rfl
theorem segment_unpackRetired_lo {w0 : World} {Jo : Io} (hfix : ∀ i b, Jo.fix i = some b → i ∈ []) (hmay : true = true → Jo.may) : LoopsOk PT w0 Jo segment_unpackRetiredH segment_unpackRetiredC := (noLoops (by kernel_rfl))
theorem segment_unpackRetired_ctr : CtrOk PT 52 segment_unpackRetiredct :=
  @ctr_ok PT segment_unpackRetiredE segment_unpackRetiredH segment_unpackRetired_env mixed 52 Go.Proofs.Try.f52 segment_unpackRetiredC (by kernel_rfl) (by kernel_rfl) (enters_of (by kernel_rfl : PT.funcs[52]? = some Go.Proofs.Try.f52) (by kernel_rfl) (by kernel_rfl)) segment_unpackRetiredI segment_unpackRetiredO Int ((Val TRet) × Bool) (fun d => d) (fun d => d) (fun d => d) (fun d => d) (fun _ => rfl) (fun _ => rfl) (by kernel_rfl) (by kernel_rfl) segment_unpackRetiredF segment_unpackRetired_bd (fun w0 Jo hfix hmay => segment_unpackRetired_lo hfix hmay)

noncomputable def segment_ReadNodeL1b (x0 : Int) (x1 : Val TPage) (x2 : Val TNode) (x3 : Val TNode) : Option ((Int × (Val TPage) × (Val TNode) × (Val TNode)) ⊕ (((Val TNode) × (Val TNode)) ⊕ (Int × (Val TNode)))) :=
  bif (decide (x0 < (4 : Int))) then (
    bif (inR (IntKind.wrap .i64 ((3 : Int) + x0)) 7) then
    (segment_unpackRetired (List.getD x1.2.2.1 (Int.toNat (IntKind.wrap .i64 ((3 : Int) + x0))) (0 : Int))).bind fun r1 =>
    bif (!r1.2) then (
      some (Sum.inr (Sum.inr ((14 : Int), (false, ((0 : Int), ((0 : Int), ((0 : Int), ((List.replicate 4 (((0 : Int), ((0 : Int), ())), ((0 : Int), ()))), ())))))))))
    else (
      bif (inR x0 4) then
      some (Sum.inl ((IntKind.wrap .i64 (x0 + (1 : Int))), (x1, (x2, (x3.1, (x3.2.1, (x3.2.2.1, (x3.2.2.2.1, ((List.set x3.2.2.2.2.1 (Int.toNat x0) r1.1), x3.2.2.2.2.2)))))))))
      else none)
    else none)
  else (
    some (Sum.inr (Sum.inl (x2, x3))))
noncomputable def segment_ReadNodeL1B : (Int × (Val TPage) × (Val TNode) × (Val TNode)) → Option ((Int × (Val TPage) × (Val TNode) × (Val TNode)) ⊕ (((Val TNode) × (Val TNode)) ⊕ (Int × (Val TNode)))) := fun y => segment_ReadNodeL1b y.1 y.2.1 y.2.2.1 y.2.2.2
noncomputable def segment_ReadNodeL1 (x0 : Int) (x1 : Val TPage) (x2 : Val TNode) (x3 : Val TNode) : Option (((Val TNode) × (Val TNode)) ⊕ (Int × (Val TNode))) := iter segment_ReadNodeL1B (x0, (x1, (x2, x3)))
/-- bodega/segment.ReadNode -/
noncomputable def segment_ReadNode (a0 : Val TPage) : Option ((Val TNode) × Int) :=
  (segment_isNodeLine a0.1).bind fun r1 =>
  bif (!r1) then (
    some ((false, ((0 : Int), ((0 : Int), ((0 : Int), ((List.replicate 4 (((0 : Int), ((0 : Int), ())), ((0 : Int), ()))), ()))))), (1 : Int)))
  else (
    bif (decide ((4294967296 : Int) < (List.getD a0.2.2.1 0 (0 : Int)))) then (
      some ((false, ((0 : Int), ((0 : Int), ((0 : Int), ((List.replicate 4 (((0 : Int), ((0 : Int), ())), ((0 : Int), ()))), ()))))), (14 : Int)))
    else (
      bif (decide ((512 : Int) ≤ (List.getD a0.2.2.1 1 (0 : Int)))) then (
        some ((false, ((0 : Int), ((0 : Int), ((0 : Int), ((List.replicate 4 (((0 : Int), ((0 : Int), ())), ((0 : Int), ()))), ()))))), (14 : Int)))
      else (
        bif (decide ((59 : Int) < (List.getD a0.2.2.1 2 (0 : Int)))) then (
          some ((false, ((0 : Int), ((0 : Int), ((0 : Int), ((List.replicate 4 (((0 : Int), ((0 : Int), ())), ((0 : Int), ()))), ()))))), (14 : Int)))
        else (
          bif (decide ((0 : Int) < (List.getD a0.2.2.1 0 (0 : Int)))) then (
            (segment_ReadNodeL1 (0 : Int) a0 (false, ((0 : Int), ((0 : Int), ((0 : Int), ((List.replicate 4 (((0 : Int), ((0 : Int), ())), ((0 : Int), ()))), ()))))) (true, ((IntKind.wrap .u32 (IntKind.wrap .u64 ((List.getD a0.2.2.1 0 (0 : Int)) - (1 : Int)))), ((IntKind.wrap .u32 (List.getD a0.2.2.1 1 (0 : Int))), ((IntKind.wrap .i64 (List.getD a0.2.2.1 2 (0 : Int))), ((List.replicate 4 (((0 : Int), ((0 : Int), ())), ((0 : Int), ()))), ())))))).bind fun r2 =>
            match r2 with
            | .inl r3 => (
              some (r3.2, (0 : Int)))
            | .inr r4 => (
              some (r4.2, r4.1)))
          else (
            (segment_ReadNodeL1 (0 : Int) a0 (false, ((0 : Int), ((0 : Int), ((0 : Int), ((List.replicate 4 (((0 : Int), ((0 : Int), ())), ((0 : Int), ()))), ()))))) (false, ((0 : Int), ((IntKind.wrap .u32 (List.getD a0.2.2.1 1 (0 : Int))), ((IntKind.wrap .i64 (List.getD a0.2.2.1 2 (0 : Int))), ((List.replicate 4 (((0 : Int), ((0 : Int), ())), ((0 : Int), ()))), ())))))).bind fun r5 =>
            match r5 with
            | .inl r6 => (
              some (r6.2, (0 : Int)))
            | .inr r7 => (
              some (r7.2, r7.1)))))))
noncomputable def segment_ReadNodeI : Shape := { n := 71, nx := 0, sl := [(0, .dat false TPage)], ob := [], fix := [], may := true }
noncomputable def segment_ReadNodeO : Shape := { n := 72, nx := 0, sl := [(71, .tup (.cons (.dat true TNode) (.cons (.dat true (.int .i64)) (.nil))))], ob := [], fix := [], may := true }
noncomputable def segment_ReadNodeF : ((Val TPage)) → Option ((Val TNode) × Int) := fun y => segment_ReadNode y
noncomputable def segment_ReadNodect : Ctr := ctrOf segment_ReadNodeI segment_ReadNodeO (fun d => d) (fun d => d) segment_ReadNodeF
noncomputable def segment_ReadNodeE : Env := { tf := tfE, mt := mtE, fn := fun f => bif Nat.beq f 51 then some segment_isNodeLinect else bif Nat.beq f 52 then some segment_unpackRetiredct else none }
theorem segment_ReadNode_env : EnvOk PT segment_ReadNodeE := ⟨tyE, (fun f ct h => by
  simp only [segment_ReadNodeE] at h
  refine envCons (c := segment_isNodeLinect) h segment_isNodeLine_ctr (fun h => ?_)
  refine envCons (c := segment_unpackRetiredct) h segment_unpackRetired_ctr (fun h => ?_)
  cases h), mapE⟩
noncomputable def segment_ReadNodeC : Code := bodyOf Go.Proofs.Try.f22
noncomputable def segment_ReadNodeL1C : Code := (loopsOf segment_ReadNodeC).getD 0 .skip
noncomputable def segment_ReadNodeL1S : Shape := { n := 71, nx := 3, sl := [(1, .ref 0 []), (2, .ref 1 []), (4, .ref 2 []), (50, .dat true (.int .i64))], ob := [(0, .box TPage (.dat false TPage)), (1, .box TNode (.dat true TNode)), (2, .box TNode (.dat true TNode))], fix := [], may := true }
noncomputable def segment_ReadNodeL1O : List (Ex × Shape) := [(.exit 0, { n := 71, nx := 2, sl := [(2, .ref 0 []), (4, .ref 1 [])], ob := [(0, .box TNode (.dat true TNode)), (1, .box TNode (.dat true TNode))], fix := [], may := true }), (.ret, { n := 71, nx := 1, sl := [(2, .ref 0 []), (3, .dat true (.int .i64))], ob := [(0, .box TNode (.dat true TNode))], fix := [], may := true })]
noncomputable def segment_ReadNodeL1M : Sum := loopSum (Y := Int × (Val TPage) × (Val TNode) × (Val TNode)) (Z := ((Val TNode) × (Val TNode)) ⊕ (Int × (Val TNode))) segment_ReadNodeL1S segment_ReadNodeL1O (fun d => d) (fun d => d) (iter segment_ReadNodeL1B)
noncomputable def segment_ReadNodeH : Nat → Option Sum := fun n => bif Nat.beq n 9 then some segment_ReadNodeL1M else none
theorem segment_ReadNodeL1_bd (y : Int × (Val TPage) × (Val TNode) × (Val TNode)) : @Eq (Option ((Int × (Val TPage) × (Val TNode) × (Val TNode)) ⊕ (((Val TNode) × (Val TNode)) ⊕ (Int × (Val TNode))))) (exec segment_ReadNodeE segment_ReadNodeH segment_ReadNodeL1C (segment_ReadNodeL1S.mk' (show segment_ReadNodeL1S.D from y)) (kont (Y := Int × (Val TPage) × (Val TNode) × (Val TNode)) (Z := ((Val TNode) × (Val TNode)) ⊕ (Int × (Val TNode))) segment_ReadNodeL1S segment_ReadNodeL1O (fun d => d) (fun d => d))) (segment_ReadNodeL1B y) := by kernel_rfl
theorem segment_ReadNodeL1_ok {w0 : World} {Jo : Io} (hfix : ∀ i b, Jo.fix i = some b → i ∈ []) (hmay : true = true → Jo.may) : SumOk PT w0 Jo segment_ReadNodeL1M (.loop segment_ReadNodeL1C) :=
  @loop_ok w0 Jo PT segment_ReadNodeE segment_ReadNodeH (Int × (Val TPage) × (Val TNode) × (Val TNode)) (((Val TNode) × (Val TNode)) ⊕ (Int × (Val TNode))) segment_ReadNode_env mixed segment_ReadNodeL1C segment_ReadNodeL1S segment_ReadNodeL1O (fun d => d) (fun d => d) (fun d => d) (fun d => d) (fun _ => rfl) (fun _ => rfl) hfix hmay (by kernel_rfl) (noLoops (by kernel_rfl)) segment_ReadNodeL1B segment_ReadNodeL1_bd
theorem segment_ReadNode_bd (y : (Val TPage)) : @Eq (Option ((Val TNode) × Int)) (exec segment_ReadNodeE segment_ReadNodeH segment_ReadNodeC (segment_ReadNodeI.mk' (show segment_ReadNodeI.D from y)) (kontF (Z := (Val TNode) × Int) segment_ReadNodeE Go.Proofs.Try.f22.results.toList segment_ReadNodeO (fun d => d))) (segment_ReadNodeF y) := by kernel_rfl
theorem segment_ReadNode_lo {w0 : World} {Jo : Io} (hfix : ∀ i b, Jo.fix i = some b → i ∈ []) (hmay : true = true → Jo.may) : LoopsOk PT w0 Jo segment_ReadNodeH segment_ReadNodeC := (loopsMk (by kernel_rfl) (loopsCons (c := segment_ReadNodeL1C) (n := 9) (f := segment_ReadNodeL1M) (by kernel_rfl) (by kernel_rfl) (segment_ReadNodeL1_ok hfix hmay) loopsNil))
theorem segment_ReadNode_ctr : CtrOk PT 22 segment_ReadNodect :=
  @ctr_ok PT segment_ReadNodeE segment_ReadNodeH segment_ReadNode_env mixed 22 Go.Proofs.Try.f22 segment_ReadNodeC (by kernel_rfl) (by kernel_rfl) (enters_of (by kernel_rfl : PT.funcs[22]? = some Go.Proofs.Try.f22) (by kernel_rfl) (by kernel_rfl)) segment_ReadNodeI segment_ReadNodeO ((Val TPage)) ((Val TNode) × Int) (fun d => d) (fun d => d) (fun d => d) (fun d => d) (fun _ => rfl) (fun _ => rfl) (by kernel_rfl) (by kernel_rfl) segment_ReadNodeF segment_ReadNode_bd (fun w0 Jo hfix hmay => segment_ReadNode_lo hfix hmay)

/-- bodega/segment.node -/
noncomputable def segment_node (a0 : Val (.slice TPage)) (a1 : Int) : Option ((Val TPage) × (Val TNode) × Bool × Int) :=
  (pointer_Latest a0 (IntKind.wrap .i64 ((98 : Int) + a1))).bind fun r1 =>
  bif (!r1.2) then (
    some (((0 : Int), ((0 : Int), ((List.replicate 7 (0 : Int)), ()))), ((false, ((0 : Int), ((0 : Int), ((0 : Int), ((List.replicate 4 (((0 : Int), ((0 : Int), ())), ((0 : Int), ()))), ()))))), (false, (0 : Int)))))
  else (
    (pointer_Locked r1.1).bind fun r2 =>
    bif r2 then (
      some (((0 : Int), ((0 : Int), ((List.replicate 7 (0 : Int)), ()))), ((false, ((0 : Int), ((0 : Int), ((0 : Int), ((List.replicate 4 (((0 : Int), ((0 : Int), ())), ((0 : Int), ()))), ()))))), (true, (3 : Int)))))
    else (
      (segment_ReadNode r1.1).bind fun r3 =>
      some (r1.1, (r3.1, (true, r3.2)))))
noncomputable def segment_nodeI : Shape := { n := 31, nx := 0, sl := [(0, .dat false (.slice TPage)), (1, .dat false (.int .i64))], ob := [], fix := [], may := true }
noncomputable def segment_nodeO : Shape := { n := 32, nx := 0, sl := [(31, .tup (.cons (.dat false TPage) (.cons (.dat true TNode) (.cons (.dat true .bool) (.cons (.dat true (.int .i64)) (.nil))))))], ob := [], fix := [], may := true }
noncomputable def segment_nodeF : ((Val (.slice TPage)) × Int) → Option ((Val TPage) × (Val TNode) × Bool × Int) := fun y => segment_node y.1 y.2
noncomputable def segment_nodect : Ctr := ctrOf segment_nodeI segment_nodeO (fun d => d) (fun d => d) segment_nodeF
noncomputable def segment_nodeE : Env := { tf := tfE, mt := mtE, fn := fun f => bif Nat.beq f 71 then some pointer_Latestct else bif Nat.beq f 73 then some pointer_Lockedct else bif Nat.beq f 22 then some segment_ReadNodect else none }
theorem segment_node_env : EnvOk PT segment_nodeE := ⟨tyE, (fun f ct h => by
  simp only [segment_nodeE] at h
  refine envCons (c := pointer_Latestct) h pointer_Latest_ctr (fun h => ?_)
  refine envCons (c := pointer_Lockedct) h pointer_Locked_ctr (fun h => ?_)
  refine envCons (c := segment_ReadNodect) h segment_ReadNode_ctr (fun h => ?_)
  cases h), mapE⟩
noncomputable def segment_nodeC : Code := bodyOf Go.Proofs.Try.f65
noncomputable def segment_nodeH : Nat → Option Sum := fun n => none
theorem segment_node_bd (y : (Val (.slice TPage)) × Int) : @Eq (Option ((Val TPage) × (Val TNode) × Bool × Int)) (exec segment_nodeE segment_nodeH segment_nodeC (segment_nodeI.mk' (show segment_nodeI.D from y)) (kontF (Z := (Val TPage) × (Val TNode) × Bool × Int) segment_nodeE Go.Proofs.Try.f65.results.toList segment_nodeO (fun d => d))) (segment_nodeF y) := by kernel_rfl
theorem segment_node_lo {w0 : World} {Jo : Io} (hfix : ∀ i b, Jo.fix i = some b → i ∈ []) (hmay : true = true → Jo.may) : LoopsOk PT w0 Jo segment_nodeH segment_nodeC := (noLoops (by kernel_rfl))
theorem segment_node_ctr : CtrOk PT 65 segment_nodect :=
  @ctr_ok PT segment_nodeE segment_nodeH segment_node_env mixed 65 Go.Proofs.Try.f65 segment_nodeC (by kernel_rfl) (by kernel_rfl) (enters_of (by kernel_rfl : PT.funcs[65]? = some Go.Proofs.Try.f65) (by kernel_rfl) (by kernel_rfl)) segment_nodeI segment_nodeO ((Val (.slice TPage)) × Int) ((Val TPage) × (Val TNode) × Bool × Int) (fun d => d) (fun d => d) (fun d => d) (fun d => d) (fun _ => rfl) (fun _ => rfl) (by kernel_rfl) (by kernel_rfl) segment_nodeF segment_node_bd (fun w0 Jo hfix hmay => segment_node_lo hfix hmay)

noncomputable def segment_ownedL1b (x0 : Int) (x1 : Int) (x2 : Int) (x3 : Val (.slice (.int .i64))) : Option ((Int × Int × Int × (Val (.slice (.int .i64)))) ⊕ ((Val (.slice (.int .i64))))) :=
  bif (decide (x2 < x1)) then (
    bif (decide ((0 : Int) ≤ (IntKind.wrap .u64 x2))) then
    bif (decide ((IntKind.wrap .u32 ((BitVec.ofInt (IntKind.bits .u32) (shiftR .u32 x0 (IntKind.wrap .u64 x2)) &&& BitVec.ofInt (IntKind.bits .u32) (1 : Int)).toNat : Int)) = (1 : Int))) then (
      bif (decide (((List.length x3) + 1) ≤ lim)) then
      some (Sum.inl (x0, (x1, ((IntKind.wrap .i64 (x2 + (1 : Int))), (x3 ++ [x2])))))
      else none)
    else (
      some (Sum.inl (x0, (x1, ((IntKind.wrap .i64 (x2 + (1 : Int))), x3)))))
    else none)
  else (
    some (Sum.inr x3))
noncomputable def segment_ownedL1B : (Int × Int × Int × (Val (.slice (.int .i64)))) → Option ((Int × Int × Int × (Val (.slice (.int .i64)))) ⊕ ((Val (.slice (.int .i64))))) := fun y => segment_ownedL1b y.1 y.2.1 y.2.2.1 y.2.2.2
noncomputable def segment_ownedL1 (x0 : Int) (x1 : Int) (x2 : Int) (x3 : Val (.slice (.int .i64))) : Option ((Val (.slice (.int .i64)))) := iter segment_ownedL1B (x0, (x1, (x2, x3)))
/-- bodega/segment.owned -/
noncomputable def segment_owned (a0 : Int) (a1 : Int) : Option ((Val (.slice (.int .i64)))) :=
  (segment_ownedL1 a0 a1 (0 : Int) []).bind fun r1 =>
  some r1
noncomputable def segment_ownedI : Shape := { n := 23, nx := 0, sl := [(0, .dat false (.int .u32)), (1, .dat false (.int .i64))], ob := [], fix := [], may := true }
noncomputable def segment_ownedO : Shape := { n := 24, nx := 0, sl := [(23, .dat true (.slice (.int .i64)))], ob := [], fix := [], may := true }
noncomputable def segment_ownedF : (Int × Int) → Option ((Val (.slice (.int .i64)))) := fun y => segment_owned y.1 y.2
noncomputable def segment_ownedct : Ctr := ctrOf segment_ownedI segment_ownedO (fun d => d) (fun d => d) segment_ownedF
noncomputable def segment_ownedE : Env := { tf := tfE, mt := mtE, fn := fun f => none }
theorem segment_owned_env : EnvOk PT segment_ownedE := ⟨tyE, (fun f ct h => by
  simp only [segment_ownedE] at h
  cases h), mapE⟩
noncomputable def segment_ownedC : Code := bodyOf Go.Proofs.Try.f67
noncomputable def segment_ownedL1C : Code := (loopsOf segment_ownedC).getD 0 .skip
noncomputable def segment_ownedL1S : Shape := { n := 23, nx := 1, sl := [(0, .dat false (.int .u32)), (1, .dat false (.int .i64)), (5, .own (.int .i64) 0), (6, .dat true (.int .i64))], ob := [(0, .slc true (.int .i64))], fix := [], may := true }
noncomputable def segment_ownedL1O : List (Ex × Shape) := [(.exit 0, { n := 23, nx := 1, sl := [(5, .own (.int .i64) 0)], ob := [(0, .slc true (.int .i64))], fix := [], may := true })]
noncomputable def segment_ownedL1M : Sum := loopSum (Y := Int × Int × Int × (Val (.slice (.int .i64)))) (Z := (Val (.slice (.int .i64)))) segment_ownedL1S segment_ownedL1O (fun d => d) (fun d => d) (iter segment_ownedL1B)
noncomputable def segment_ownedH : Nat → Option Sum := fun n => bif Nat.beq n 3 then some segment_ownedL1M else none
theorem segment_ownedL1_bd (y : Int × Int × Int × (Val (.slice (.int .i64)))) : @Eq (Option ((Int × Int × Int × (Val (.slice (.int .i64)))) ⊕ ((Val (.slice (.int .i64)))))) (exec segment_ownedE segment_ownedH segment_ownedL1C (segment_ownedL1S.mk' (show segment_ownedL1S.D from y)) (kont (Y := Int × Int × Int × (Val (.slice (.int .i64)))) (Z := (Val (.slice (.int .i64)))) segment_ownedL1S segment_ownedL1O (fun d => d) (fun d => d))) (segment_ownedL1B y) := by kernel_rfl
theorem segment_ownedL1_ok {w0 : World} {Jo : Io} (hfix : ∀ i b, Jo.fix i = some b → i ∈ []) (hmay : true = true → Jo.may) : SumOk PT w0 Jo segment_ownedL1M (.loop segment_ownedL1C) :=
  @loop_ok w0 Jo PT segment_ownedE segment_ownedH (Int × Int × Int × (Val (.slice (.int .i64)))) ((Val (.slice (.int .i64)))) segment_owned_env mixed segment_ownedL1C segment_ownedL1S segment_ownedL1O (fun d => d) (fun d => d) (fun d => d) (fun d => d) (fun _ => rfl) (fun _ => rfl) hfix hmay (by kernel_rfl) (noLoops (by kernel_rfl)) segment_ownedL1B segment_ownedL1_bd
theorem segment_owned_bd (y : Int × Int) : @Eq (Option ((Val (.slice (.int .i64))))) (exec segment_ownedE segment_ownedH segment_ownedC (segment_ownedI.mk' (show segment_ownedI.D from y)) (kontF (Z := (Val (.slice (.int .i64)))) segment_ownedE Go.Proofs.Try.f67.results.toList segment_ownedO (fun d => d))) (segment_ownedF y) := by kernel_rfl
theorem segment_owned_lo {w0 : World} {Jo : Io} (hfix : ∀ i b, Jo.fix i = some b → i ∈ []) (hmay : true = true → Jo.may) : LoopsOk PT w0 Jo segment_ownedH segment_ownedC := (loopsMk (by kernel_rfl) (loopsCons (c := segment_ownedL1C) (n := 3) (f := segment_ownedL1M) (by kernel_rfl) (by kernel_rfl) (segment_ownedL1_ok hfix hmay) loopsNil))
theorem segment_owned_ctr : CtrOk PT 67 segment_ownedct :=
  @ctr_ok PT segment_ownedE segment_ownedH segment_owned_env mixed 67 Go.Proofs.Try.f67 segment_ownedC (by kernel_rfl) (by kernel_rfl) (enters_of (by kernel_rfl : PT.funcs[67]? = some Go.Proofs.Try.f67) (by kernel_rfl) (by kernel_rfl)) segment_ownedI segment_ownedO (Int × Int) ((Val (.slice (.int .i64)))) (fun d => d) (fun d => d) (fun d => d) (fun d => d) (fun _ => rfl) (fun _ => rfl) (by kernel_rfl) (by kernel_rfl) segment_ownedF segment_owned_bd (fun w0 Jo hfix hmay => segment_owned_lo hfix hmay)

/-- bodega/segment.HeaderLine -/
noncomputable def segment_HeaderLine (a0 : Int) : Option Int :=
  bif (decide (a0 < (0 : Int))) then (
    some (-1 : Int))
  else (
    bif (decide ((9 : Int) ≤ a0)) then (
      some (-1 : Int))
    else (
      some (IntKind.wrap .i64 ((104 : Int) + (IntKind.wrap .i64 (a0 * (16 : Int)))))))
noncomputable def segment_HeaderLineI : Shape := { n := 12, nx := 0, sl := [(0, .dat false (.int .i64))], ob := [], fix := [], may := true }
noncomputable def segment_HeaderLineO : Shape := { n := 13, nx := 0, sl := [(12, .dat true (.int .i64))], ob := [], fix := [], may := true }
noncomputable def segment_HeaderLineF : Int → Option Int := fun y => segment_HeaderLine y
noncomputable def segment_HeaderLinect : Ctr := ctrOf segment_HeaderLineI segment_HeaderLineO (fun d => d) (fun d => d) segment_HeaderLineF
noncomputable def segment_HeaderLineE : Env := { tf := tfE, mt := mtE, fn := fun f => none }
theorem segment_HeaderLine_env : EnvOk PT segment_HeaderLineE := ⟨tyE, (fun f ct h => by
  simp only [segment_HeaderLineE] at h
  cases h), mapE⟩
noncomputable def segment_HeaderLineC : Code := bodyOf Go.Proofs.Try.f36
noncomputable def segment_HeaderLineH : Nat → Option Sum := fun n => none
theorem segment_HeaderLine_bd (y : Int) : @Eq (Option Int) (exec segment_HeaderLineE segment_HeaderLineH segment_HeaderLineC (segment_HeaderLineI.mk' (show segment_HeaderLineI.D from y)) (kontF (Z := Int) segment_HeaderLineE Go.Proofs.Try.f36.results.toList segment_HeaderLineO (fun d => d))) (segment_HeaderLineF y) := by kernel_rfl
theorem segment_HeaderLine_lo {w0 : World} {Jo : Io} (hfix : ∀ i b, Jo.fix i = some b → i ∈ []) (hmay : true = true → Jo.may) : LoopsOk PT w0 Jo segment_HeaderLineH segment_HeaderLineC := (noLoops (by kernel_rfl))
theorem segment_HeaderLine_ctr : CtrOk PT 36 segment_HeaderLinect :=
  @ctr_ok PT segment_HeaderLineE segment_HeaderLineH segment_HeaderLine_env mixed 36 Go.Proofs.Try.f36 segment_HeaderLineC (by kernel_rfl) (by kernel_rfl) (enters_of (by kernel_rfl : PT.funcs[36]? = some Go.Proofs.Try.f36) (by kernel_rfl) (by kernel_rfl)) segment_HeaderLineI segment_HeaderLineO Int Int (fun d => d) (fun d => d) (fun d => d) (fun d => d) (fun _ => rfl) (fun _ => rfl) (by kernel_rfl) (by kernel_rfl) segment_HeaderLineF segment_HeaderLine_bd (fun w0 Jo hfix hmay => segment_HeaderLine_lo hfix hmay)

noncomputable def segment_headerLinesL1b (x0 : Val (.slice (.int .i64))) (x1 : Int) (x2 : Int) (x3 : Val (.slice (.int .i64))) : Option (((Val (.slice (.int .i64))) × Int × Int × (Val (.slice (.int .i64)))) ⊕ ((Val (.slice (.int .i64))))) :=
  bif (decide (x2 < x1)) then (
    bif (inR x2 (List.length x0)) then
    (segment_HeaderLine (List.getD x0 (Int.toNat x2) (0 : Int))).bind fun r1 =>
    bif (decide (((List.length x3) + 1) ≤ lim)) then
    some (Sum.inl (x0, (x1, ((IntKind.wrap .i64 (x2 + (1 : Int))), (x3 ++ [r1])))))
    else none
    else none)
  else (
    some (Sum.inr x3))
noncomputable def segment_headerLinesL1B : ((Val (.slice (.int .i64))) × Int × Int × (Val (.slice (.int .i64)))) → Option (((Val (.slice (.int .i64))) × Int × Int × (Val (.slice (.int .i64)))) ⊕ ((Val (.slice (.int .i64))))) := fun y => segment_headerLinesL1b y.1 y.2.1 y.2.2.1 y.2.2.2
noncomputable def segment_headerLinesL1 (x0 : Val (.slice (.int .i64))) (x1 : Int) (x2 : Int) (x3 : Val (.slice (.int .i64))) : Option ((Val (.slice (.int .i64)))) := iter segment_headerLinesL1B (x0, (x1, (x2, x3)))
/-- bodega/segment.headerLines -/
noncomputable def segment_headerLines (a0 : Val (.slice (.int .i64))) : Option ((Val (.slice (.int .i64)))) :=
  (segment_headerLinesL1 a0 (((List.length a0) : Nat) : Int) (0 : Int) []).bind fun r1 =>
  some r1
noncomputable def segment_headerLinesI : Shape := { n := 19, nx := 0, sl := [(0, .dat false (.slice (.int .i64)))], ob := [], fix := [], may := true }
noncomputable def segment_headerLinesO : Shape := { n := 20, nx := 0, sl := [(19, .dat true (.slice (.int .i64)))], ob := [], fix := [], may := true }
noncomputable def segment_headerLinesF : ((Val (.slice (.int .i64)))) → Option ((Val (.slice (.int .i64)))) := fun y => segment_headerLines y
noncomputable def segment_headerLinesct : Ctr := ctrOf segment_headerLinesI segment_headerLinesO (fun d => d) (fun d => d) segment_headerLinesF
noncomputable def segment_headerLinesE : Env := { tf := tfE, mt := mtE, fn := fun f => bif Nat.beq f 36 then some segment_HeaderLinect else none }
theorem segment_headerLines_env : EnvOk PT segment_headerLinesE := ⟨tyE, (fun f ct h => by
  simp only [segment_headerLinesE] at h
  refine envCons (c := segment_HeaderLinect) h segment_HeaderLine_ctr (fun h => ?_)
  cases h), mapE⟩
noncomputable def segment_headerLinesC : Code := bodyOf Go.Proofs.Try.f66
noncomputable def segment_headerLinesL1C : Code := (loopsOf segment_headerLinesC).getD 0 .skip
noncomputable def segment_headerLinesL1S : Shape := { n := 19, nx := 1, sl := [(3, .own (.int .i64) 0), (6, .dat false (.slice (.int .i64))), (7, .dat true (.int .i64)), (8, .dat true (.int .i64))], ob := [(0, .slc true (.int .i64))], fix := [], may := true }
noncomputable def segment_headerLinesL1O : List (Ex × Shape) := [(.exit 0, { n := 19, nx := 1, sl := [(3, .own (.int .i64) 0)], ob := [(0, .slc true (.int .i64))], fix := [], may := true })]
noncomputable def segment_headerLinesL1M : Sum := loopSum (Y := (Val (.slice (.int .i64))) × Int × Int × (Val (.slice (.int .i64)))) (Z := (Val (.slice (.int .i64)))) segment_headerLinesL1S segment_headerLinesL1O (fun d => d) (fun d => d) (iter segment_headerLinesL1B)
noncomputable def segment_headerLinesH : Nat → Option Sum := fun n => bif Nat.beq n 3 then some segment_headerLinesL1M else none
theorem segment_headerLinesL1_bd (y : (Val (.slice (.int .i64))) × Int × Int × (Val (.slice (.int .i64)))) : @Eq (Option (((Val (.slice (.int .i64))) × Int × Int × (Val (.slice (.int .i64)))) ⊕ ((Val (.slice (.int .i64)))))) (exec segment_headerLinesE segment_headerLinesH segment_headerLinesL1C (segment_headerLinesL1S.mk' (show segment_headerLinesL1S.D from y)) (kont (Y := (Val (.slice (.int .i64))) × Int × Int × (Val (.slice (.int .i64)))) (Z := (Val (.slice (.int .i64)))) segment_headerLinesL1S segment_headerLinesL1O (fun d => d) (fun d => d))) (segment_headerLinesL1B y) := by kernel_rfl
theorem segment_headerLinesL1_ok {w0 : World} {Jo : Io} (hfix : ∀ i b, Jo.fix i = some b → i ∈ []) (hmay : true = true → Jo.may) : SumOk PT w0 Jo segment_headerLinesL1M (.loop segment_headerLinesL1C) :=
  @loop_ok w0 Jo PT segment_headerLinesE segment_headerLinesH ((Val (.slice (.int .i64))) × Int × Int × (Val (.slice (.int .i64)))) ((Val (.slice (.int .i64)))) segment_headerLines_env mixed segment_headerLinesL1C segment_headerLinesL1S segment_headerLinesL1O (fun d => d) (fun d => d) (fun d => d) (fun d => d) (fun _ => rfl) (fun _ => rfl) hfix hmay (by kernel_rfl) (noLoops (by kernel_rfl)) segment_headerLinesL1B segment_headerLinesL1_bd
theorem segment_headerLines_bd (y : (Val (.slice (.int .i64)))) : @Eq (Option ((Val (.slice (.int .i64))))) (exec segment_headerLinesE segment_headerLinesH segment_headerLinesC (segment_headerLinesI.mk' (show segment_headerLinesI.D from y)) (kontF (Z := (Val (.slice (.int .i64)))) segment_headerLinesE Go.Proofs.Try.f66.results.toList segment_headerLinesO (fun d => d))) (segment_headerLinesF y) := by kernel_rfl
theorem segment_headerLines_lo {w0 : World} {Jo : Io} (hfix : ∀ i b, Jo.fix i = some b → i ∈ []) (hmay : true = true → Jo.may) : LoopsOk PT w0 Jo segment_headerLinesH segment_headerLinesC := (loopsMk (by kernel_rfl) (loopsCons (c := segment_headerLinesL1C) (n := 3) (f := segment_headerLinesL1M) (by kernel_rfl) (by kernel_rfl) (segment_headerLinesL1_ok hfix hmay) loopsNil))
theorem segment_headerLines_ctr : CtrOk PT 66 segment_headerLinesct :=
  @ctr_ok PT segment_headerLinesE segment_headerLinesH segment_headerLines_env mixed 66 Go.Proofs.Try.f66 segment_headerLinesC (by kernel_rfl) (by kernel_rfl) (enters_of (by kernel_rfl : PT.funcs[66]? = some Go.Proofs.Try.f66) (by kernel_rfl) (by kernel_rfl)) segment_headerLinesI segment_headerLinesO ((Val (.slice (.int .i64)))) ((Val (.slice (.int .i64)))) (fun d => d) (fun d => d) (fun d => d) (fun d => d) (fun _ => rfl) (fun _ => rfl) (by kernel_rfl) (by kernel_rfl) segment_headerLinesF segment_headerLines_bd (fun w0 Jo hfix hmay => segment_headerLines_lo hfix hmay)

/-- bodega/segment.isHeaderLine -/
noncomputable def segment_isHeaderLine (a0 : Int) : Option Bool :=
  bif (decide ((104 : Int) ≤ a0)) then (
    bif (decide (a0 < (248 : Int))) then (
      some (decide ((Int.tmod (IntKind.wrap .i64 (a0 - (104 : Int))) (16 : Int)) = (0 : Int))))
    else (
      some false))
  else (
    some false)
noncomputable def segment_isHeaderLineI : Shape := { n := 15, nx := 0, sl := [(0, .dat false (.int .i64))], ob := [], fix := [], may := true }
noncomputable def segment_isHeaderLineO : Shape := { n := 16, nx := 0, sl := [(15, .dat true .bool)], ob := [], fix := [], may := true }
noncomputable def segment_isHeaderLineF : Int → Option Bool := fun y => segment_isHeaderLine y
noncomputable def segment_isHeaderLinect : Ctr := ctrOf segment_isHeaderLineI segment_isHeaderLineO (fun d => d) (fun d => d) segment_isHeaderLineF
noncomputable def segment_isHeaderLineE : Env := { tf := tfE, mt := mtE, fn := fun f => none }
theorem segment_isHeaderLine_env : EnvOk PT segment_isHeaderLineE := ⟨tyE, (fun f ct h => by
  simp only [segment_isHeaderLineE] at h
  cases h), mapE⟩
noncomputable def segment_isHeaderLineC : Code := bodyOf Go.Proofs.Try.f48
noncomputable def segment_isHeaderLineH : Nat → Option Sum := fun n => none
theorem segment_isHeaderLine_bd (y : Int) : @Eq (Option Bool) (exec segment_isHeaderLineE segment_isHeaderLineH segment_isHeaderLineC (segment_isHeaderLineI.mk' (show segment_isHeaderLineI.D from y)) (kontF (Z := Bool) segment_isHeaderLineE Go.Proofs.Try.f48.results.toList segment_isHeaderLineO (fun d => d))) (segment_isHeaderLineF y) := by kernel_rfl
theorem segment_isHeaderLine_lo {w0 : World} {Jo : Io} (hfix : ∀ i b, Jo.fix i = some b → i ∈ []) (hmay : true = true → Jo.may) : LoopsOk PT w0 Jo segment_isHeaderLineH segment_isHeaderLineC := (noLoops (by kernel_rfl))
theorem segment_isHeaderLine_ctr : CtrOk PT 48 segment_isHeaderLinect :=
  @ctr_ok PT segment_isHeaderLineE segment_isHeaderLineH segment_isHeaderLine_env mixed 48 Go.Proofs.Try.f48 segment_isHeaderLineC (by kernel_rfl) (by kernel_rfl) (enters_of (by kernel_rfl : PT.funcs[48]? = some Go.Proofs.Try.f48) (by kernel_rfl) (by kernel_rfl)) segment_isHeaderLineI segment_isHeaderLineO Int Bool (fun d => d) (fun d => d) (fun d => d) (fun d => d) (fun _ => rfl) (fun _ => rfl) (by kernel_rfl) (by kernel_rfl) segment_isHeaderLineF segment_isHeaderLine_bd (fun w0 Jo hfix hmay => segment_isHeaderLine_lo hfix hmay)

/-- bodega/segment.zeros$1 -/
noncomputable def segment_zeros_1 (a0 : Int) : Option Bool :=
  some (!(decide (a0 = (0 : Int))))
noncomputable def segment_zeros_1I : Shape := { n := 5, nx := 0, sl := [(0, .dat false (.int .u64))], ob := [], fix := [], may := true }
noncomputable def segment_zeros_1O : Shape := { n := 6, nx := 0, sl := [(5, .dat true .bool)], ob := [], fix := [], may := true }
noncomputable def segment_zeros_1F : Int → Option Bool := fun y => segment_zeros_1 y
noncomputable def segment_zeros_1ct : Ctr := ctrOf segment_zeros_1I segment_zeros_1O (fun d => d) (fun d => d) segment_zeros_1F
noncomputable def segment_zeros_1E : Env := { tf := tfE, mt := mtE, fn := fun f => none }
theorem segment_zeros_1_env : EnvOk PT segment_zeros_1E := ⟨tyE, (fun f ct h => by
  simp only [segment_zeros_1E] at h
  cases h), mapE⟩
noncomputable def segment_zeros_1C : Code := bodyOf Go.Proofs.Try.f81
noncomputable def segment_zeros_1H : Nat → Option Sum := fun n => none
theorem segment_zeros_1_bd (y : Int) : @Eq (Option Bool) (exec segment_zeros_1E segment_zeros_1H segment_zeros_1C (segment_zeros_1I.mk' (show segment_zeros_1I.D from y)) (kontF (Z := Bool) segment_zeros_1E Go.Proofs.Try.f81.results.toList segment_zeros_1O (fun d => d))) (segment_zeros_1F y) := by kernel_rfl
theorem segment_zeros_1_lo {w0 : World} {Jo : Io} (hfix : ∀ i b, Jo.fix i = some b → i ∈ []) (hmay : true = true → Jo.may) : LoopsOk PT w0 Jo segment_zeros_1H segment_zeros_1C := (noLoops (by kernel_rfl))
theorem segment_zeros_1_ctr : CtrOk PT 81 segment_zeros_1ct :=
  @ctr_ok PT segment_zeros_1E segment_zeros_1H segment_zeros_1_env mixed 81 Go.Proofs.Try.f81 segment_zeros_1C (by kernel_rfl) (by kernel_rfl) (enters_of (by kernel_rfl : PT.funcs[81]? = some Go.Proofs.Try.f81) (by kernel_rfl) (by kernel_rfl)) segment_zeros_1I segment_zeros_1O Int Bool (fun d => d) (fun d => d) (fun d => d) (fun d => d) (fun _ => rfl) (fun _ => rfl) (by kernel_rfl) (by kernel_rfl) segment_zeros_1F segment_zeros_1_bd (fun w0 Jo hfix hmay => segment_zeros_1_lo hfix hmay)

noncomputable def slices_IndexFunc_uint64L1b (x0 : Val (.slice (.int .u64))) (x1 : Int) (x2 : Int) : Option (((Val (.slice (.int .u64))) × Int × Int) ⊕ ((Unit) ⊕ (Int))) :=
  bif (decide (x2 < x1)) then (
    bif (inR x2 (List.length x0)) then
    (segment_zeros_1 (List.getD x0 (Int.toNat x2) (0 : Int))).bind fun r1 =>
    bif r1 then (
      some (Sum.inr (Sum.inr x2)))
    else (
      some (Sum.inl (x0, (x1, (IntKind.wrap .i64 (x2 + (1 : Int)))))))
    else none)
  else (
    some (Sum.inr (Sum.inl ())))
noncomputable def slices_IndexFunc_uint64L1B : ((Val (.slice (.int .u64))) × Int × Int) → Option (((Val (.slice (.int .u64))) × Int × Int) ⊕ ((Unit) ⊕ (Int))) := fun y => slices_IndexFunc_uint64L1b y.1 y.2.1 y.2.2
noncomputable def slices_IndexFunc_uint64L1 (x0 : Val (.slice (.int .u64))) (x1 : Int) (x2 : Int) : Option ((Unit) ⊕ (Int)) := iter slices_IndexFunc_uint64L1B (x0, (x1, x2))
/-- slices.IndexFunc[[]uint64,uint64] -/
noncomputable def slices_IndexFunc_uint64 (a0 : Val (.slice (.int .u64))) : Option Int :=
  (slices_IndexFunc_uint64L1 a0 (((List.length a0) : Nat) : Int) (0 : Int)).bind fun r1 =>
  match r1 with
  | .inl r2 => (
    some (-1 : Int))
  | .inr r3 => (
    some r3)
noncomputable def slices_IndexFunc_uint64I : Shape := { n := 19, nx := 0, sl := [(0, .dat false (.slice (.int .u64))), (1, .fn 81 (.nil))], ob := [], fix := [], may := true }
noncomputable def slices_IndexFunc_uint64O : Shape := { n := 20, nx := 0, sl := [(19, .dat true (.int .i64))], ob := [], fix := [], may := true }
noncomputable def slices_IndexFunc_uint64F : ((Val (.slice (.int .u64)))) → Option Int := fun y => slices_IndexFunc_uint64 y
noncomputable def slices_IndexFunc_uint64ct : Ctr := ctrOf slices_IndexFunc_uint64I slices_IndexFunc_uint64O (fun d => d) (fun d => d) slices_IndexFunc_uint64F
noncomputable def slices_IndexFunc_uint64E : Env := { tf := tfE, mt := mtE, fn := fun f => bif Nat.beq f 81 then some segment_zeros_1ct else none }
theorem slices_IndexFunc_uint64_env : EnvOk PT slices_IndexFunc_uint64E := ⟨tyE, (fun f ct h => by
  simp only [slices_IndexFunc_uint64E] at h
  refine envCons (c := segment_zeros_1ct) h segment_zeros_1_ctr (fun h => ?_)
  cases h), mapE⟩
noncomputable def slices_IndexFunc_uint64C : Code := bodyOf Go.Proofs.Try.f93
noncomputable def slices_IndexFunc_uint64L1C : Code := (loopsOf slices_IndexFunc_uint64C).getD 0 .skip
noncomputable def slices_IndexFunc_uint64L1S : Shape := { n := 19, nx := 0, sl := [(0, .dat false (.slice (.int .u64))), (1, .fn 81 (.nil)), (7, .dat true (.int .i64)), (8, .dat true (.int .i64))], ob := [], fix := [], may := true }
noncomputable def slices_IndexFunc_uint64L1O : List (Ex × Shape) := [(.exit 0, { n := 19, nx := 0, sl := [], ob := [], fix := [], may := true }), (.ret, { n := 19, nx := 0, sl := [(4, .dat true (.int .i64))], ob := [], fix := [], may := true })]
noncomputable def slices_IndexFunc_uint64L1M : Sum := loopSum (Y := (Val (.slice (.int .u64))) × Int × Int) (Z := (Unit) ⊕ (Int)) slices_IndexFunc_uint64L1S slices_IndexFunc_uint64L1O (fun d => d) (fun d => d) (iter slices_IndexFunc_uint64L1B)
noncomputable def slices_IndexFunc_uint64H : Nat → Option Sum := fun n => bif Nat.beq n 2 then some slices_IndexFunc_uint64L1M else none
theorem slices_IndexFunc_uint64L1_bd (y : (Val (.slice (.int .u64))) × Int × Int) : @Eq (Option (((Val (.slice (.int .u64))) × Int × Int) ⊕ ((Unit) ⊕ (Int)))) (exec slices_IndexFunc_uint64E slices_IndexFunc_uint64H slices_IndexFunc_uint64L1C (slices_IndexFunc_uint64L1S.mk' (show slices_IndexFunc_uint64L1S.D from y)) (kont (Y := (Val (.slice (.int .u64))) × Int × Int) (Z := (Unit) ⊕ (Int)) slices_IndexFunc_uint64L1S slices_IndexFunc_uint64L1O (fun d => d) (fun d => d))) (slices_IndexFunc_uint64L1B y) := by kernel_rfl
theorem slices_IndexFunc_uint64L1_ok {w0 : World} {Jo : Io} (hfix : ∀ i b, Jo.fix i = some b → i ∈ []) (hmay : true = true → Jo.may) : SumOk PT w0 Jo slices_IndexFunc_uint64L1M (.loop slices_IndexFunc_uint64L1C) :=
  @loop_ok w0 Jo PT slices_IndexFunc_uint64E slices_IndexFunc_uint64H ((Val (.slice (.int .u64))) × Int × Int) ((Unit) ⊕ (Int)) slices_IndexFunc_uint64_env mixed slices_IndexFunc_uint64L1C slices_IndexFunc_uint64L1S slices_IndexFunc_uint64L1O (fun d => d) (fun d => d) (fun d => d) (fun d => d) (fun _ => rfl) (fun _ => rfl) hfix hmay (by kernel_rfl) (noLoops (by kernel_rfl)) slices_IndexFunc_uint64L1B slices_IndexFunc_uint64L1_bd
theorem slices_IndexFunc_uint64_bd (y : (Val (.slice (.int .u64)))) : @Eq (Option Int) (exec slices_IndexFunc_uint64E slices_IndexFunc_uint64H slices_IndexFunc_uint64C (slices_IndexFunc_uint64I.mk' (show slices_IndexFunc_uint64I.D from y)) (kontF (Z := Int) slices_IndexFunc_uint64E Go.Proofs.Try.f93.results.toList slices_IndexFunc_uint64O (fun d => d))) (slices_IndexFunc_uint64F y) := by kernel_rfl
theorem slices_IndexFunc_uint64_lo {w0 : World} {Jo : Io} (hfix : ∀ i b, Jo.fix i = some b → i ∈ []) (hmay : true = true → Jo.may) : LoopsOk PT w0 Jo slices_IndexFunc_uint64H slices_IndexFunc_uint64C := (loopsMk (by kernel_rfl) (loopsCons (c := slices_IndexFunc_uint64L1C) (n := 2) (f := slices_IndexFunc_uint64L1M) (by kernel_rfl) (by kernel_rfl) (slices_IndexFunc_uint64L1_ok hfix hmay) loopsNil))
theorem slices_IndexFunc_uint64_ctr : CtrOk PT 93 slices_IndexFunc_uint64ct :=
  @ctr_ok PT slices_IndexFunc_uint64E slices_IndexFunc_uint64H slices_IndexFunc_uint64_env mixed 93 Go.Proofs.Try.f93 slices_IndexFunc_uint64C (by kernel_rfl) (by kernel_rfl) (enters_of (by kernel_rfl : PT.funcs[93]? = some Go.Proofs.Try.f93) (by kernel_rfl) (by kernel_rfl)) slices_IndexFunc_uint64I slices_IndexFunc_uint64O ((Val (.slice (.int .u64)))) Int (fun d => d) (fun d => d) (fun d => d) (fun d => d) (fun _ => rfl) (fun _ => rfl) (by kernel_rfl) (by kernel_rfl) slices_IndexFunc_uint64F slices_IndexFunc_uint64_bd (fun w0 Jo hfix hmay => slices_IndexFunc_uint64_lo hfix hmay)

/-- slices.ContainsFunc[[]uint64,uint64] -/
noncomputable def slices_ContainsFunc_uint64 (a0 : Val (.slice (.int .u64))) : Option Bool :=
  (slices_IndexFunc_uint64 a0).bind fun r1 =>
  some (decide ((0 : Int) ≤ r1))
noncomputable def slices_ContainsFunc_uint64I : Shape := { n := 9, nx := 0, sl := [(0, .dat false (.slice (.int .u64))), (1, .fn 81 (.nil))], ob := [], fix := [], may := true }
noncomputable def slices_ContainsFunc_uint64O : Shape := { n := 10, nx := 0, sl := [(9, .dat true .bool)], ob := [], fix := [], may := true }
noncomputable def slices_ContainsFunc_uint64F : ((Val (.slice (.int .u64)))) → Option Bool := fun y => slices_ContainsFunc_uint64 y
noncomputable def slices_ContainsFunc_uint64ct : Ctr := ctrOf slices_ContainsFunc_uint64I slices_ContainsFunc_uint64O (fun d => d) (fun d => d) slices_ContainsFunc_uint64F
noncomputable def slices_ContainsFunc_uint64E : Env := { tf := tfE, mt := mtE, fn := fun f => bif Nat.beq f 93 then some slices_IndexFunc_uint64ct else none }
theorem slices_ContainsFunc_uint64_env : EnvOk PT slices_ContainsFunc_uint64E := ⟨tyE, (fun f ct h => by
  simp only [slices_ContainsFunc_uint64E] at h
  refine envCons (c := slices_IndexFunc_uint64ct) h slices_IndexFunc_uint64_ctr (fun h => ?_)
  cases h), mapE⟩
noncomputable def slices_ContainsFunc_uint64C : Code := bodyOf Go.Proofs.Try.f80
noncomputable def slices_ContainsFunc_uint64H : Nat → Option Sum := fun n => none
theorem slices_ContainsFunc_uint64_bd (y : (Val (.slice (.int .u64)))) : @Eq (Option Bool) (exec slices_ContainsFunc_uint64E slices_ContainsFunc_uint64H slices_ContainsFunc_uint64C (slices_ContainsFunc_uint64I.mk' (show slices_ContainsFunc_uint64I.D from y)) (kontF (Z := Bool) slices_ContainsFunc_uint64E Go.Proofs.Try.f80.results.toList slices_ContainsFunc_uint64O (fun d => d))) (slices_ContainsFunc_uint64F y) := by kernel_rfl
theorem slices_ContainsFunc_uint64_lo {w0 : World} {Jo : Io} (hfix : ∀ i b, Jo.fix i = some b → i ∈ []) (hmay : true = true → Jo.may) : LoopsOk PT w0 Jo slices_ContainsFunc_uint64H slices_ContainsFunc_uint64C := (noLoops (by kernel_rfl))
theorem slices_ContainsFunc_uint64_ctr : CtrOk PT 80 slices_ContainsFunc_uint64ct :=
  @ctr_ok PT slices_ContainsFunc_uint64E slices_ContainsFunc_uint64H slices_ContainsFunc_uint64_env mixed 80 Go.Proofs.Try.f80 slices_ContainsFunc_uint64C (by kernel_rfl) (by kernel_rfl) (enters_of (by kernel_rfl : PT.funcs[80]? = some Go.Proofs.Try.f80) (by kernel_rfl) (by kernel_rfl)) slices_ContainsFunc_uint64I slices_ContainsFunc_uint64O ((Val (.slice (.int .u64)))) Bool (fun d => d) (fun d => d) (fun d => d) (fun d => d) (fun _ => rfl) (fun _ => rfl) (by kernel_rfl) (by kernel_rfl) slices_ContainsFunc_uint64F slices_ContainsFunc_uint64_bd (fun w0 Jo hfix hmay => slices_ContainsFunc_uint64_lo hfix hmay)

/-- bodega/segment.zeros -/
noncomputable def segment_zeros (a0 : Val (.slice (.int .u64))) : Option Bool :=
  (slices_ContainsFunc_uint64 a0).bind fun r1 =>
  some (!r1)
noncomputable def segment_zerosI : Shape := { n := 6, nx := 0, sl := [(0, .dat false (.slice (.int .u64)))], ob := [], fix := [], may := true }
noncomputable def segment_zerosO : Shape := { n := 7, nx := 0, sl := [(6, .dat true .bool)], ob := [], fix := [], may := true }
noncomputable def segment_zerosF : ((Val (.slice (.int .u64)))) → Option Bool := fun y => segment_zeros y
noncomputable def segment_zerosct : Ctr := ctrOf segment_zerosI segment_zerosO (fun d => d) (fun d => d) segment_zerosF
noncomputable def segment_zerosE : Env := { tf := tfE, mt := mtE, fn := fun f => bif Nat.beq f 80 then some slices_ContainsFunc_uint64ct else none }
theorem segment_zeros_env : EnvOk PT segment_zerosE := ⟨tyE, (fun f ct h => by
  simp only [segment_zerosE] at h
  refine envCons (c := slices_ContainsFunc_uint64ct) h slices_ContainsFunc_uint64_ctr (fun h => ?_)
  cases h), mapE⟩
noncomputable def segment_zerosC : Code := bodyOf Go.Proofs.Try.f49
noncomputable def segment_zerosH : Nat → Option Sum := fun n => none
theorem segment_zeros_bd (y : (Val (.slice (.int .u64)))) : @Eq (Option Bool) (exec segment_zerosE segment_zerosH segment_zerosC (segment_zerosI.mk' (show segment_zerosI.D from y)) (kontF (Z := Bool) segment_zerosE Go.Proofs.Try.f49.results.toList segment_zerosO (fun d => d))) (segment_zerosF y) := by kernel_rfl
theorem segment_zeros_lo {w0 : World} {Jo : Io} (hfix : ∀ i b, Jo.fix i = some b → i ∈ []) (hmay : true = true → Jo.may) : LoopsOk PT w0 Jo segment_zerosH segment_zerosC := (noLoops (by kernel_rfl))
theorem segment_zeros_ctr : CtrOk PT 49 segment_zerosct :=
  @ctr_ok PT segment_zerosE segment_zerosH segment_zeros_env mixed 49 Go.Proofs.Try.f49 segment_zerosC (by kernel_rfl) (by kernel_rfl) (enters_of (by kernel_rfl : PT.funcs[49]? = some Go.Proofs.Try.f49) (by kernel_rfl) (by kernel_rfl)) segment_zerosI segment_zerosO ((Val (.slice (.int .u64)))) Bool (fun d => d) (fun d => d) (fun d => d) (fun d => d) (fun _ => rfl) (fun _ => rfl) (by kernel_rfl) (by kernel_rfl) segment_zerosF segment_zeros_bd (fun w0 Jo hfix hmay => segment_zeros_lo hfix hmay)

/-- bodega/segment.ReadHeader -/
noncomputable def segment_ReadHeader (a0 : Val TPage) : Option ((Val THead) × Int) :=
  (segment_isHeaderLine a0.1).bind fun r1 =>
  bif (!r1) then (
    some (((0 : Int), ((0 : Int), ())), (1 : Int)))
  else (
    bif (decide ((6 : Int) < (List.getD a0.2.2.1 0 (0 : Int)))) then (
      some (((0 : Int), ((0 : Int), ())), (14 : Int)))
    else (
      bif (!(decide ((IntKind.wrap .u64 ((BitVec.ofInt (IntKind.bits .u64) (List.getD a0.2.2.1 1 (0 : Int)) &&& ~~~ BitVec.ofInt (IntKind.bits .u64) (65534 : Int)).toNat : Int)) = (0 : Int)))) then (
        some (((0 : Int), ((0 : Int), ())), (14 : Int)))
      else (
        (segment_zeros (List.drop 2 (List.take 7 a0.2.2.1))).bind fun r2 =>
        bif (!r2) then (
          some (((0 : Int), ((0 : Int), ())), (14 : Int)))
        else (
          some (((IntKind.wrap .i64 ((IntKind.wrap .i64 (List.getD a0.2.2.1 0 (0 : Int))) - (1 : Int))), ((IntKind.wrap .u32 (List.getD a0.2.2.1 1 (0 : Int))), ())), (0 : Int))))))
noncomputable def segment_ReadHeaderI : Shape := { n := 37, nx := 0, sl := [(0, .dat false TPage)], ob := [], fix := [], may := true }
noncomputable def segment_ReadHeaderO : Shape := { n := 38, nx := 0, sl := [(37, .tup (.cons (.dat true THead) (.cons (.dat true (.int .i64)) (.nil))))], ob := [], fix := [], may := true }
noncomputable def segment_ReadHeaderF : ((Val TPage)) → Option ((Val THead) × Int) := fun y => segment_ReadHeader y
noncomputable def segment_ReadHeaderct : Ctr := ctrOf segment_ReadHeaderI segment_ReadHeaderO (fun d => d) (fun d => d) segment_ReadHeaderF
noncomputable def segment_ReadHeaderE : Env := { tf := tfE, mt := mtE, fn := fun f => bif Nat.beq f 48 then some segment_isHeaderLinect else bif Nat.beq f 49 then some segment_zerosct else none }
theorem segment_ReadHeader_env : EnvOk PT segment_ReadHeaderE := ⟨tyE, (fun f ct h => by
  simp only [segment_ReadHeaderE] at h
  refine envCons (c := segment_isHeaderLinect) h segment_isHeaderLine_ctr (fun h => ?_)
  refine envCons (c := segment_zerosct) h segment_zeros_ctr (fun h => ?_)
  cases h), mapE⟩
noncomputable def segment_ReadHeaderC : Code := bodyOf Go.Proofs.Try.f20
noncomputable def segment_ReadHeaderH : Nat → Option Sum := fun n => none
theorem segment_ReadHeader_bd (y : (Val TPage)) : @Eq (Option ((Val THead) × Int)) (exec segment_ReadHeaderE segment_ReadHeaderH segment_ReadHeaderC (segment_ReadHeaderI.mk' (show segment_ReadHeaderI.D from y)) (kontF (Z := (Val THead) × Int) segment_ReadHeaderE Go.Proofs.Try.f20.results.toList segment_ReadHeaderO (fun d => d))) (segment_ReadHeaderF y) := by kernel_rfl
theorem segment_ReadHeader_lo {w0 : World} {Jo : Io} (hfix : ∀ i b, Jo.fix i = some b → i ∈ []) (hmay : true = true → Jo.may) : LoopsOk PT w0 Jo segment_ReadHeaderH segment_ReadHeaderC := (noLoops (by kernel_rfl))
theorem segment_ReadHeader_ctr : CtrOk PT 20 segment_ReadHeaderct :=
  @ctr_ok PT segment_ReadHeaderE segment_ReadHeaderH segment_ReadHeader_env mixed 20 Go.Proofs.Try.f20 segment_ReadHeaderC (by kernel_rfl) (by kernel_rfl) (enters_of (by kernel_rfl : PT.funcs[20]? = some Go.Proofs.Try.f20) (by kernel_rfl) (by kernel_rfl)) segment_ReadHeaderI segment_ReadHeaderO ((Val TPage)) ((Val THead) × Int) (fun d => d) (fun d => d) (fun d => d) (fun d => d) (fun _ => rfl) (fun _ => rfl) (by kernel_rfl) (by kernel_rfl) segment_ReadHeaderF segment_ReadHeader_bd (fun w0 Jo hfix hmay => segment_ReadHeader_lo hfix hmay)

/-- bodega/segment.header -/
noncomputable def segment_header (a0 : Val (.slice TPage)) (a1 : Int) : Option ((Val TPage) × (Val THead) × Bool × Int) :=
  (segment_HeaderLine a1).bind fun r1 =>
  (pointer_Latest a0 r1).bind fun r2 =>
  bif (!r2.2) then (
    some (((0 : Int), ((0 : Int), ((List.replicate 7 (0 : Int)), ()))), (((0 : Int), ((0 : Int), ())), (false, (0 : Int)))))
  else (
    (pointer_Locked r2.1).bind fun r3 =>
    bif r3 then (
      some (((0 : Int), ((0 : Int), ((List.replicate 7 (0 : Int)), ()))), (((0 : Int), ((0 : Int), ())), (true, (3 : Int)))))
    else (
      (segment_ReadHeader r2.1).bind fun r4 =>
      some (r2.1, (r4.1, (true, r4.2)))))
noncomputable def segment_headerI : Shape := { n := 31, nx := 0, sl := [(0, .dat false (.slice TPage)), (1, .dat false (.int .i64))], ob := [], fix := [], may := true }
noncomputable def segment_headerO : Shape := { n := 32, nx := 0, sl := [(31, .tup (.cons (.dat false TPage) (.cons (.dat true THead) (.cons (.dat true .bool) (.cons (.dat true (.int .i64)) (.nil))))))], ob := [], fix := [], may := true }
noncomputable def segment_headerF : ((Val (.slice TPage)) × Int) → Option ((Val TPage) × (Val THead) × Bool × Int) := fun y => segment_header y.1 y.2
noncomputable def segment_headerct : Ctr := ctrOf segment_headerI segment_headerO (fun d => d) (fun d => d) segment_headerF
noncomputable def segment_headerE : Env := { tf := tfE, mt := mtE, fn := fun f => bif Nat.beq f 36 then some segment_HeaderLinect else bif Nat.beq f 71 then some pointer_Latestct else bif Nat.beq f 73 then some pointer_Lockedct else bif Nat.beq f 20 then some segment_ReadHeaderct else none }
theorem segment_header_env : EnvOk PT segment_headerE := ⟨tyE, (fun f ct h => by
  simp only [segment_headerE] at h
  refine envCons (c := segment_HeaderLinect) h segment_HeaderLine_ctr (fun h => ?_)
  refine envCons (c := pointer_Latestct) h pointer_Latest_ctr (fun h => ?_)
  refine envCons (c := pointer_Lockedct) h pointer_Locked_ctr (fun h => ?_)
  refine envCons (c := segment_ReadHeaderct) h segment_ReadHeader_ctr (fun h => ?_)
  cases h), mapE⟩
noncomputable def segment_headerC : Code := bodyOf Go.Proofs.Try.f69
noncomputable def segment_headerH : Nat → Option Sum := fun n => none
theorem segment_header_bd (y : (Val (.slice TPage)) × Int) : @Eq (Option ((Val TPage) × (Val THead) × Bool × Int)) (exec segment_headerE segment_headerH segment_headerC (segment_headerI.mk' (show segment_headerI.D from y)) (kontF (Z := (Val TPage) × (Val THead) × Bool × Int) segment_headerE Go.Proofs.Try.f69.results.toList segment_headerO (fun d => d))) (segment_headerF y) := by kernel_rfl
theorem segment_header_lo {w0 : World} {Jo : Io} (hfix : ∀ i b, Jo.fix i = some b → i ∈ []) (hmay : true = true → Jo.may) : LoopsOk PT w0 Jo segment_headerH segment_headerC := (noLoops (by kernel_rfl))
theorem segment_header_ctr : CtrOk PT 69 segment_headerct :=
  @ctr_ok PT segment_headerE segment_headerH segment_header_env mixed 69 Go.Proofs.Try.f69 segment_headerC (by kernel_rfl) (by kernel_rfl) (enters_of (by kernel_rfl : PT.funcs[69]? = some Go.Proofs.Try.f69) (by kernel_rfl) (by kernel_rfl)) segment_headerI segment_headerO ((Val (.slice TPage)) × Int) ((Val TPage) × (Val THead) × Bool × Int) (fun d => d) (fun d => d) (fun d => d) (fun d => d) (fun _ => rfl) (fun _ => rfl) (by kernel_rfl) (by kernel_rfl) segment_headerF segment_header_bd (fun w0 Jo hfix hmay => segment_header_lo hfix hmay)

noncomputable def segment_unownedL1b (x0 : Val (.slice TPage)) (x1 : Int) (x2 : Int) (x3 : Int) : Option (((Val (.slice TPage)) × Int × Int × Int) ⊕ ((Unit) ⊕ (Int × Bool))) :=
  bif (decide (x3 < x2)) then (
    bif (!(decide (x2 = (0 : Int)))) then
    (segment_header x0 (Int.tmod (IntKind.wrap .i64 (x1 + x3)) x2)).bind fun r1 =>
    bif (decide (r1.2.2.2 = (0 : Int))) then (
      bif (decide (r1.2.1.1 = (-1 : Int))) then (
        some (Sum.inr (Sum.inr ((Int.tmod (IntKind.wrap .i64 (x1 + x3)) x2), true))))
      else (
        some (Sum.inl (x0, (x1, (x2, (IntKind.wrap .i64 (x3 + (1 : Int)))))))))
    else (
      some (Sum.inl (x0, (x1, (x2, (IntKind.wrap .i64 (x3 + (1 : Int))))))))
    else none)
  else (
    some (Sum.inr (Sum.inl ())))
noncomputable def segment_unownedL1B : ((Val (.slice TPage)) × Int × Int × Int) → Option (((Val (.slice TPage)) × Int × Int × Int) ⊕ ((Unit) ⊕ (Int × Bool))) := fun y => segment_unownedL1b y.1 y.2.1 y.2.2.1 y.2.2.2
noncomputable def segment_unownedL1 (x0 : Val (.slice TPage)) (x1 : Int) (x2 : Int) (x3 : Int) : Option ((Unit) ⊕ (Int × Bool)) := iter segment_unownedL1B (x0, (x1, (x2, x3)))
/-- bodega/segment.unowned -/
noncomputable def segment_unowned (a0 : Val (.slice TPage)) (a1 : Int) (a2 : Int) : Option (Int × Bool) :=
  (segment_unownedL1 a0 a1 a2 (0 : Int)).bind fun r1 =>
  match r1 with
  | .inl r2 => (
    some ((0 : Int), false))
  | .inr r3 => (
    some (r3.1, r3.2))
noncomputable def segment_unownedI : Shape := { n := 40, nx := 0, sl := [(0, .dat false (.slice TPage)), (1, .dat false (.int .i64)), (2, .dat false (.int .i64))], ob := [], fix := [], may := true }
noncomputable def segment_unownedO : Shape := { n := 41, nx := 0, sl := [(40, .tup (.cons (.dat true (.int .i64)) (.cons (.dat true .bool) (.nil))))], ob := [], fix := [], may := true }
noncomputable def segment_unownedF : ((Val (.slice TPage)) × Int × Int) → Option (Int × Bool) := fun y => segment_unowned y.1 y.2.1 y.2.2
noncomputable def segment_unownedct : Ctr := ctrOf segment_unownedI segment_unownedO (fun d => d) (fun d => d) segment_unownedF
noncomputable def segment_unownedE : Env := { tf := tfE, mt := mtE, fn := fun f => bif Nat.beq f 69 then some segment_headerct else none }
theorem segment_unowned_env : EnvOk PT segment_unownedE := ⟨tyE, (fun f ct h => by
  simp only [segment_unownedE] at h
  refine envCons (c := segment_headerct) h segment_header_ctr (fun h => ?_)
  cases h), mapE⟩
noncomputable def segment_unownedC : Code := bodyOf Go.Proofs.Try.f68
noncomputable def segment_unownedL1C : Code := (loopsOf segment_unownedC).getD 0 .skip
noncomputable def segment_unownedL1S : Shape := { n := 40, nx := 0, sl := [(0, .dat false (.slice TPage)), (1, .dat false (.int .i64)), (2, .dat false (.int .i64)), (8, .dat true (.int .i64))], ob := [], fix := [], may := true }
noncomputable def segment_unownedL1O : List (Ex × Shape) := [(.exit 0, { n := 40, nx := 0, sl := [], ob := [], fix := [], may := true }), (.ret, { n := 40, nx := 0, sl := [(6, .dat true (.int .i64)), (7, .dat true .bool)], ob := [], fix := [], may := true })]
noncomputable def segment_unownedL1M : Sum := loopSum (Y := (Val (.slice TPage)) × Int × Int × Int) (Z := (Unit) ⊕ (Int × Bool)) segment_unownedL1S segment_unownedL1O (fun d => d) (fun d => d) (iter segment_unownedL1B)
noncomputable def segment_unownedH : Nat → Option Sum := fun n => bif Nat.beq n 2 then some segment_unownedL1M else none
theorem segment_unownedL1_bd (y : (Val (.slice TPage)) × Int × Int × Int) : @Eq (Option (((Val (.slice TPage)) × Int × Int × Int) ⊕ ((Unit) ⊕ (Int × Bool)))) (exec segment_unownedE segment_unownedH segment_unownedL1C (segment_unownedL1S.mk' (show segment_unownedL1S.D from y)) (kont (Y := (Val (.slice TPage)) × Int × Int × Int) (Z := (Unit) ⊕ (Int × Bool)) segment_unownedL1S segment_unownedL1O (fun d => d) (fun d => d))) (segment_unownedL1B y) := by kernel_rfl
theorem segment_unownedL1_ok {w0 : World} {Jo : Io} (hfix : ∀ i b, Jo.fix i = some b → i ∈ []) (hmay : true = true → Jo.may) : SumOk PT w0 Jo segment_unownedL1M (.loop segment_unownedL1C) :=
  @loop_ok w0 Jo PT segment_unownedE segment_unownedH ((Val (.slice TPage)) × Int × Int × Int) ((Unit) ⊕ (Int × Bool)) segment_unowned_env mixed segment_unownedL1C segment_unownedL1S segment_unownedL1O (fun d => d) (fun d => d) (fun d => d) (fun d => d) (fun _ => rfl) (fun _ => rfl) hfix hmay (by kernel_rfl) (noLoops (by kernel_rfl)) segment_unownedL1B segment_unownedL1_bd
theorem segment_unowned_bd (y : (Val (.slice TPage)) × Int × Int) : @Eq (Option (Int × Bool)) (exec segment_unownedE segment_unownedH segment_unownedC (segment_unownedI.mk' (show segment_unownedI.D from y)) (kontF (Z := Int × Bool) segment_unownedE Go.Proofs.Try.f68.results.toList segment_unownedO (fun d => d))) (segment_unownedF y) := by kernel_rfl
theorem segment_unowned_lo {w0 : World} {Jo : Io} (hfix : ∀ i b, Jo.fix i = some b → i ∈ []) (hmay : true = true → Jo.may) : LoopsOk PT w0 Jo segment_unownedH segment_unownedC := (loopsMk (by kernel_rfl) (loopsCons (c := segment_unownedL1C) (n := 2) (f := segment_unownedL1M) (by kernel_rfl) (by kernel_rfl) (segment_unownedL1_ok hfix hmay) loopsNil))
theorem segment_unowned_ctr : CtrOk PT 68 segment_unownedct :=
  @ctr_ok PT segment_unownedE segment_unownedH segment_unowned_env mixed 68 Go.Proofs.Try.f68 segment_unownedC (by kernel_rfl) (by kernel_rfl) (enters_of (by kernel_rfl : PT.funcs[68]? = some Go.Proofs.Try.f68) (by kernel_rfl) (by kernel_rfl)) segment_unownedI segment_unownedO ((Val (.slice TPage)) × Int × Int) (Int × Bool) (fun d => d) (fun d => d) (fun d => d) (fun d => d) (fun _ => rfl) (fun _ => rfl) (by kernel_rfl) (by kernel_rfl) segment_unownedF segment_unowned_bd (fun w0 Jo hfix hmay => segment_unowned_lo hfix hmay)

/-- bodega/pointer.Pack -/
noncomputable def pointer_Pack (a0 : Val TPtr) : Option Int :=
  (pointer_Valid a0).bind fun r1 =>
  bif (!r1) then (
    some (0 : Int))
  else (
    some (IntKind.wrap .u32 ((BitVec.ofInt (IntKind.bits .u32) (shiftL .u32 (IntKind.wrap .u32 a0.2.1) (8 : Int)) ||| BitVec.ofInt (IntKind.bits .u32) (IntKind.wrap .u32 a0.1)).toNat : Int)))
noncomputable def pointer_PackI : Shape := { n := 14, nx := 0, sl := [(0, .dat false TPtr)], ob := [], fix := [], may := true }
noncomputable def pointer_PackO : Shape := { n := 15, nx := 0, sl := [(14, .dat true (.int .u32))], ob := [], fix := [], may := true }
noncomputable def pointer_PackF : ((Val TPtr)) → Option Int := fun y => pointer_Pack y
noncomputable def pointer_Packct : Ctr := ctrOf pointer_PackI pointer_PackO (fun d => d) (fun d => d) pointer_PackF
noncomputable def pointer_PackE : Env := { tf := tfE, mt := mtE, fn := fun f => bif Nat.beq f 57 then some pointer_Validct else none }
theorem pointer_Pack_env : EnvOk PT pointer_PackE := ⟨tyE, (fun f ct h => by
  simp only [pointer_PackE] at h
  refine envCons (c := pointer_Validct) h pointer_Valid_ctr (fun h => ?_)
  cases h), mapE⟩
noncomputable def pointer_PackC : Code := bodyOf Go.Proofs.Try.f58
noncomputable def pointer_PackH : Nat → Option Sum := fun n => none
theorem pointer_Pack_bd (y : (Val TPtr)) : @Eq (Option Int) (exec pointer_PackE pointer_PackH pointer_PackC (pointer_PackI.mk' (show pointer_PackI.D from y)) (kontF (Z := Int) pointer_PackE Go.Proofs.Try.f58.results.toList pointer_PackO (fun d => d))) (pointer_PackF y) := by kernel_rfl
theorem pointer_Pack_lo {w0 : World} {Jo : Io} (hfix : ∀ i b, Jo.fix i = some b → i ∈ []) (hmay : true = true → Jo.may) : LoopsOk PT w0 Jo pointer_PackH pointer_PackC := (noLoops (by kernel_rfl))
theorem pointer_Pack_ctr : CtrOk PT 58 pointer_Packct :=
  @ctr_ok PT pointer_PackE pointer_PackH pointer_Pack_env mixed 58 Go.Proofs.Try.f58 pointer_PackC (by kernel_rfl) (by kernel_rfl) (enters_of (by kernel_rfl : PT.funcs[58]? = some Go.Proofs.Try.f58) (by kernel_rfl) (by kernel_rfl)) pointer_PackI pointer_PackO ((Val TPtr)) Int (fun d => d) (fun d => d) (fun d => d) (fun d => d) (fun _ => rfl) (fun _ => rfl) (by kernel_rfl) (by kernel_rfl) pointer_PackF pointer_Pack_bd (fun w0 Jo hfix hmay => pointer_Pack_lo hfix hmay)

noncomputable def segment_WriteNodeL1b (x0 : Val (.arr 4 TRet)) (x1 : Int) (x2 : Val TPage) (x3 : Val TPage) : Option (((Val (.arr 4 TRet)) × Int × (Val TPage) × (Val TPage)) ⊕ (((Val TPage) × (Val TPage)) ⊕ (Int × (Val TPage)))) :=
  bif (decide (x1 < (4 : Int))) then (
    bif (inR x1 4) then
    bif (eqV TRet (List.getD x0 (Int.toNat x1) (((0 : Int), ((0 : Int), ())), ((0 : Int), ()))) (((0 : Int), ((0 : Int), ())), ((0 : Int), ()))) then (
      some (Sum.inl (x0, ((IntKind.wrap .i64 (x1 + (1 : Int))), (x2, x3)))))
    else (
      (pointer_Valid (List.getD x0 (Int.toNat x1) (((0 : Int), ((0 : Int), ())), ((0 : Int), ()))).1).bind fun r1 =>
      bif r1 then (
        (pointer_Pack (List.getD x0 (Int.toNat x1) (((0 : Int), ((0 : Int), ())), ((0 : Int), ()))).1).bind fun r2 =>
        bif (inR (IntKind.wrap .i64 ((3 : Int) + x1)) 7) then
        some (Sum.inl (x0, ((IntKind.wrap .i64 (x1 + (1 : Int))), ((x2.1, (x2.2.1, ((List.set x2.2.2.1 (Int.toNat (IntKind.wrap .i64 ((3 : Int) + x1))) (IntKind.wrap .u64 ((BitVec.ofInt (IntKind.bits .u64) (IntKind.wrap .u64 r2) ||| BitVec.ofInt (IntKind.bits .u64) (shiftL .u64 (IntKind.wrap .u64 (List.getD x0 (Int.toNat x1) (((0 : Int), ((0 : Int), ())), ((0 : Int), ()))).2.1) (32 : Int))).toNat : Int))), x2.2.2.2))), x3))))
        else none)
      else (
        some (Sum.inr (Sum.inr ((1 : Int), ((0 : Int), ((0 : Int), ((List.replicate 7 (0 : Int)), ()))))))))
    else none)
  else (
    some (Sum.inr (Sum.inl (x2, x3))))
noncomputable def segment_WriteNodeL1B : ((Val (.arr 4 TRet)) × Int × (Val TPage) × (Val TPage)) → Option (((Val (.arr 4 TRet)) × Int × (Val TPage) × (Val TPage)) ⊕ (((Val TPage) × (Val TPage)) ⊕ (Int × (Val TPage)))) := fun y => segment_WriteNodeL1b y.1 y.2.1 y.2.2.1 y.2.2.2
noncomputable def segment_WriteNodeL1 (x0 : Val (.arr 4 TRet)) (x1 : Int) (x2 : Val TPage) (x3 : Val TPage) : Option (((Val TPage) × (Val TPage)) ⊕ (Int × (Val TPage))) := iter segment_WriteNodeL1B (x0, (x1, (x2, x3)))
/-- bodega/segment.WriteNode -/
noncomputable def segment_WriteNode (a0 : Val TPage) (a1 : Val TNode) : Option ((Val TPage) × Int) :=
  (segment_isNodeLine a0.1).bind fun r1 =>
  bif (!r1) then (
    some (((0 : Int), ((0 : Int), ((List.replicate 7 (0 : Int)), ()))), (1 : Int)))
  else (
    bif (!a1.1) then (
      bif (!(decide (a1.2.1 = (0 : Int)))) then (
        some (((0 : Int), ((0 : Int), ((List.replicate 7 (0 : Int)), ()))), (1 : Int)))
      else (
        bif (decide ((512 : Int) ≤ a1.2.2.1)) then (
          some (((0 : Int), ((0 : Int), ((List.replicate 7 (0 : Int)), ()))), (1 : Int)))
        else (
          bif (decide (a1.2.2.2.1 < (0 : Int))) then (
            some (((0 : Int), ((0 : Int), ((List.replicate 7 (0 : Int)), ()))), (1 : Int)))
          else (
            bif (decide ((59 : Int) < a1.2.2.2.1)) then (
              some (((0 : Int), ((0 : Int), ((List.replicate 7 (0 : Int)), ()))), (1 : Int)))
            else (
              bif a1.1 then (
                (segment_WriteNodeL1 a1.2.2.2.2.1 (0 : Int) (a0.1, (a0.2.1, ((List.set [(0 : Int), (IntKind.wrap .u64 a1.2.2.1), (IntKind.wrap .u64 a1.2.2.2.1), (0 : Int), (0 : Int), (0 : Int), (0 : Int)] 0 (IntKind.wrap .u64 ((IntKind.wrap .u64 a1.2.1) + (1 : Int)))), a0.2.2.2))) ((0 : Int), ((0 : Int), ((List.replicate 7 (0 : Int)), ())))).bind fun r2 =>
                match r2 with
                | .inl r3 => (
                  some (r3.1, (0 : Int)))
                | .inr r4 => (
                  some (r4.2, r4.1)))
              else (
                (segment_WriteNodeL1 a1.2.2.2.2.1 (0 : Int) (a0.1, (a0.2.1, ([(0 : Int), (IntKind.wrap .u64 a1.2.2.1), (IntKind.wrap .u64 a1.2.2.2.1), (0 : Int), (0 : Int), (0 : Int), (0 : Int)], a0.2.2.2))) ((0 : Int), ((0 : Int), ((List.replicate 7 (0 : Int)), ())))).bind fun r5 =>
                match r5 with
                | .inl r6 => (
                  some (r6.1, (0 : Int)))
                | .inr r7 => (
                  some (r7.2, r7.1))))))))
    else (
      bif (decide ((512 : Int) ≤ a1.2.2.1)) then (
        some (((0 : Int), ((0 : Int), ((List.replicate 7 (0 : Int)), ()))), (1 : Int)))
      else (
        bif (decide (a1.2.2.2.1 < (0 : Int))) then (
          some (((0 : Int), ((0 : Int), ((List.replicate 7 (0 : Int)), ()))), (1 : Int)))
        else (
          bif (decide ((59 : Int) < a1.2.2.2.1)) then (
            some (((0 : Int), ((0 : Int), ((List.replicate 7 (0 : Int)), ()))), (1 : Int)))
          else (
            bif a1.1 then (
              (segment_WriteNodeL1 a1.2.2.2.2.1 (0 : Int) (a0.1, (a0.2.1, ((List.set [(0 : Int), (IntKind.wrap .u64 a1.2.2.1), (IntKind.wrap .u64 a1.2.2.2.1), (0 : Int), (0 : Int), (0 : Int), (0 : Int)] 0 (IntKind.wrap .u64 ((IntKind.wrap .u64 a1.2.1) + (1 : Int)))), a0.2.2.2))) ((0 : Int), ((0 : Int), ((List.replicate 7 (0 : Int)), ())))).bind fun r8 =>
              match r8 with
              | .inl r9 => (
                some (r9.1, (0 : Int)))
              | .inr r10 => (
                some (r10.2, r10.1)))
            else (
              (segment_WriteNodeL1 a1.2.2.2.2.1 (0 : Int) (a0.1, (a0.2.1, ([(0 : Int), (IntKind.wrap .u64 a1.2.2.1), (IntKind.wrap .u64 a1.2.2.2.1), (0 : Int), (0 : Int), (0 : Int), (0 : Int)], a0.2.2.2))) ((0 : Int), ((0 : Int), ((List.replicate 7 (0 : Int)), ())))).bind fun r11 =>
              match r11 with
              | .inl r12 => (
                some (r12.1, (0 : Int)))
              | .inr r13 => (
                some (r13.2, r13.1))))))))
noncomputable def segment_WriteNodeI : Shape := { n := 84, nx := 0, sl := [(0, .dat false TPage), (1, .dat false TNode)], ob := [], fix := [], may := true }
noncomputable def segment_WriteNodeO : Shape := { n := 85, nx := 0, sl := [(84, .tup (.cons (.dat false TPage) (.cons (.dat true (.int .i64)) (.nil))))], ob := [], fix := [], may := true }
noncomputable def segment_WriteNodeF : ((Val TPage) × (Val TNode)) → Option ((Val TPage) × Int) := fun y => segment_WriteNode y.1 y.2
noncomputable def segment_WriteNodect : Ctr := ctrOf segment_WriteNodeI segment_WriteNodeO (fun d => d) (fun d => d) segment_WriteNodeF
noncomputable def segment_WriteNodeE : Env := { tf := tfE, mt := mtE, fn := fun f => bif Nat.beq f 51 then some segment_isNodeLinect else bif Nat.beq f 57 then some pointer_Validct else bif Nat.beq f 58 then some pointer_Packct else none }
theorem segment_WriteNode_env : EnvOk PT segment_WriteNodeE := ⟨tyE, (fun f ct h => by
  simp only [segment_WriteNodeE] at h
  refine envCons (c := segment_isNodeLinect) h segment_isNodeLine_ctr (fun h => ?_)
  refine envCons (c := pointer_Validct) h pointer_Valid_ctr (fun h => ?_)
  refine envCons (c := pointer_Packct) h pointer_Pack_ctr (fun h => ?_)
  cases h), mapE⟩
noncomputable def segment_WriteNodeC : Code := bodyOf Go.Proofs.Try.f29
noncomputable def segment_WriteNodeL1C : Code := (loopsOf segment_WriteNodeC).getD 0 .skip
noncomputable def segment_WriteNodeL1S : Shape := { n := 84, nx := 2, sl := [(2, .ref 0 []), (4, .ref 1 []), (55, .dat false (.arr 4 TRet)), (56, .dat true (.int .i64))], ob := [(0, .box TPage (.dat false TPage)), (1, .box TPage (.dat true TPage))], fix := [], may := true }
noncomputable def segment_WriteNodeL1O : List (Ex × Shape) := [(.exit 0, { n := 84, nx := 2, sl := [(2, .ref 0 []), (4, .ref 1 [])], ob := [(0, .box TPage (.dat false TPage)), (1, .box TPage (.dat true TPage))], fix := [], may := true }), (.ret, { n := 84, nx := 1, sl := [(4, .ref 0 []), (5, .dat true (.int .i64))], ob := [(0, .box TPage (.dat true TPage))], fix := [], may := true })]
noncomputable def segment_WriteNodeL1M : Sum := loopSum (Y := (Val (.arr 4 TRet)) × Int × (Val TPage) × (Val TPage)) (Z := ((Val TPage) × (Val TPage)) ⊕ (Int × (Val TPage))) segment_WriteNodeL1S segment_WriteNodeL1O (fun d => d) (fun d => d) (iter segment_WriteNodeL1B)
noncomputable def segment_WriteNodeH : Nat → Option Sum := fun n => bif Nat.beq n 7 then some segment_WriteNodeL1M else none
theorem segment_WriteNodeL1_bd (y : (Val (.arr 4 TRet)) × Int × (Val TPage) × (Val TPage)) : @Eq (Option (((Val (.arr 4 TRet)) × Int × (Val TPage) × (Val TPage)) ⊕ (((Val TPage) × (Val TPage)) ⊕ (Int × (Val TPage))))) (exec segment_WriteNodeE segment_WriteNodeH segment_WriteNodeL1C (segment_WriteNodeL1S.mk' (show segment_WriteNodeL1S.D from y)) (kont (Y := (Val (.arr 4 TRet)) × Int × (Val TPage) × (Val TPage)) (Z := ((Val TPage) × (Val TPage)) ⊕ (Int × (Val TPage))) segment_WriteNodeL1S segment_WriteNodeL1O (fun d => d) (fun d => d))) (segment_WriteNodeL1B y) := by kernel_rfl
theorem segment_WriteNodeL1_ok {w0 : World} {Jo : Io} (hfix : ∀ i b, Jo.fix i = some b → i ∈ []) (hmay : true = true → Jo.may) : SumOk PT w0 Jo segment_WriteNodeL1M (.loop segment_WriteNodeL1C) :=
  @loop_ok w0 Jo PT segment_WriteNodeE segment_WriteNodeH ((Val (.arr 4 TRet)) × Int × (Val TPage) × (Val TPage)) (((Val TPage) × (Val TPage)) ⊕ (Int × (Val TPage))) segment_WriteNode_env mixed segment_WriteNodeL1C segment_WriteNodeL1S segment_WriteNodeL1O (fun d => d) (fun d => d) (fun d => d) (fun d => d) (fun _ => rfl) (fun _ => rfl) hfix hmay (by kernel_rfl) (noLoops (by kernel_rfl)) segment_WriteNodeL1B segment_WriteNodeL1_bd
theorem segment_WriteNode_bd (y : (Val TPage) × (Val TNode)) : @Eq (Option ((Val TPage) × Int)) (exec segment_WriteNodeE segment_WriteNodeH segment_WriteNodeC (segment_WriteNodeI.mk' (show segment_WriteNodeI.D from y)) (kontF (Z := (Val TPage) × Int) segment_WriteNodeE Go.Proofs.Try.f29.results.toList segment_WriteNodeO (fun d => d))) (segment_WriteNodeF y) := by kernel_rfl
theorem segment_WriteNode_lo {w0 : World} {Jo : Io} (hfix : ∀ i b, Jo.fix i = some b → i ∈ []) (hmay : true = true → Jo.may) : LoopsOk PT w0 Jo segment_WriteNodeH segment_WriteNodeC := (loopsMk (by kernel_rfl) (loopsCons (c := segment_WriteNodeL1C) (n := 7) (f := segment_WriteNodeL1M) (by kernel_rfl) (by kernel_rfl) (segment_WriteNodeL1_ok hfix hmay) loopsNil))
theorem segment_WriteNode_ctr : CtrOk PT 29 segment_WriteNodect :=
  @ctr_ok PT segment_WriteNodeE segment_WriteNodeH segment_WriteNode_env mixed 29 Go.Proofs.Try.f29 segment_WriteNodeC (by kernel_rfl) (by kernel_rfl) (enters_of (by kernel_rfl : PT.funcs[29]? = some Go.Proofs.Try.f29) (by kernel_rfl) (by kernel_rfl)) segment_WriteNodeI segment_WriteNodeO ((Val TPage) × (Val TNode)) ((Val TPage) × Int) (fun d => d) (fun d => d) (fun d => d) (fun d => d) (fun _ => rfl) (fun _ => rfl) (by kernel_rfl) (by kernel_rfl) segment_WriteNodeF segment_WriteNode_bd (fun w0 Jo hfix hmay => segment_WriteNode_lo hfix hmay)

/-- bodega/segment.WriteHeader -/
noncomputable def segment_WriteHeader (a0 : Val TPage) (a1 : Val THead) : Option ((Val TPage) × Int) :=
  (segment_isHeaderLine a0.1).bind fun r1 =>
  bif (!r1) then (
    some (((0 : Int), ((0 : Int), ((List.replicate 7 (0 : Int)), ()))), (1 : Int)))
  else (
    bif (decide (a1.1 < (-1 : Int))) then (
      some (((0 : Int), ((0 : Int), ((List.replicate 7 (0 : Int)), ()))), (1 : Int)))
    else (
      bif (decide ((6 : Int) ≤ a1.1)) then (
        some (((0 : Int), ((0 : Int), ((List.replicate 7 (0 : Int)), ()))), (1 : Int)))
      else (
        bif (!(decide ((IntKind.wrap .u32 ((BitVec.ofInt (IntKind.bits .u32) a1.2.1 &&& ~~~ BitVec.ofInt (IntKind.bits .u32) (65534 : Int)).toNat : Int)) = (0 : Int)))) then (
          some (((0 : Int), ((0 : Int), ((List.replicate 7 (0 : Int)), ()))), (1 : Int)))
        else (
          some ((a0.1, (a0.2.1, ([(IntKind.wrap .u64 (IntKind.wrap .i64 (a1.1 + (1 : Int)))), (IntKind.wrap .u64 a1.2.1), (0 : Int), (0 : Int), (0 : Int), (0 : Int), (0 : Int)], a0.2.2.2))), (0 : Int))))))
noncomputable def segment_WriteHeaderI : Shape := { n := 37, nx := 0, sl := [(0, .dat false TPage), (1, .dat false THead)], ob := [], fix := [], may := true }
noncomputable def segment_WriteHeaderO : Shape := { n := 38, nx := 0, sl := [(37, .tup (.cons (.dat false TPage) (.cons (.dat true (.int .i64)) (.nil))))], ob := [], fix := [], may := true }
noncomputable def segment_WriteHeaderF : ((Val TPage) × (Val THead)) → Option ((Val TPage) × Int) := fun y => segment_WriteHeader y.1 y.2
noncomputable def segment_WriteHeaderct : Ctr := ctrOf segment_WriteHeaderI segment_WriteHeaderO (fun d => d) (fun d => d) segment_WriteHeaderF
noncomputable def segment_WriteHeaderE : Env := { tf := tfE, mt := mtE, fn := fun f => bif Nat.beq f 48 then some segment_isHeaderLinect else none }
theorem segment_WriteHeader_env : EnvOk PT segment_WriteHeaderE := ⟨tyE, (fun f ct h => by
  simp only [segment_WriteHeaderE] at h
  refine envCons (c := segment_isHeaderLinect) h segment_isHeaderLine_ctr (fun h => ?_)
  cases h), mapE⟩
noncomputable def segment_WriteHeaderC : Code := bodyOf Go.Proofs.Try.f27
noncomputable def segment_WriteHeaderH : Nat → Option Sum := fun n => none
theorem segment_WriteHeader_bd (y : (Val TPage) × (Val THead)) : @Eq (Option ((Val TPage) × Int)) (exec segment_WriteHeaderE segment_WriteHeaderH segment_WriteHeaderC (segment_WriteHeaderI.mk' (show segment_WriteHeaderI.D from y)) (kontF (Z := (Val TPage) × Int) segment_WriteHeaderE Go.Proofs.Try.f27.results.toList segment_WriteHeaderO (fun d => d))) (segment_WriteHeaderF y) := by kernel_rfl
theorem segment_WriteHeader_lo {w0 : World} {Jo : Io} (hfix : ∀ i b, Jo.fix i = some b → i ∈ []) (hmay : true = true → Jo.may) : LoopsOk PT w0 Jo segment_WriteHeaderH segment_WriteHeaderC := (noLoops (by kernel_rfl))
theorem segment_WriteHeader_ctr : CtrOk PT 27 segment_WriteHeaderct :=
  @ctr_ok PT segment_WriteHeaderE segment_WriteHeaderH segment_WriteHeader_env mixed 27 Go.Proofs.Try.f27 segment_WriteHeaderC (by kernel_rfl) (by kernel_rfl) (enters_of (by kernel_rfl : PT.funcs[27]? = some Go.Proofs.Try.f27) (by kernel_rfl) (by kernel_rfl)) segment_WriteHeaderI segment_WriteHeaderO ((Val TPage) × (Val THead)) ((Val TPage) × Int) (fun d => d) (fun d => d) (fun d => d) (fun d => d) (fun _ => rfl) (fun _ => rfl) (by kernel_rfl) (by kernel_rfl) segment_WriteHeaderF segment_WriteHeader_bd (fun w0 Jo hfix hmay => segment_WriteHeader_lo hfix hmay)

/-- cmp.Compare[int] -/
noncomputable def cmp_Compare_int (a0 : Int) (a1 : Int) : Option Int :=
  (cmp_isNaN_int a0).bind fun r1 =>
  (cmp_isNaN_int a1).bind fun r2 =>
  bif r1 then (
    bif r2 then (
      some (0 : Int))
    else (
      some (-1 : Int)))
  else (
    bif r2 then (
      some (1 : Int))
    else (
      bif (decide (a0 < a1)) then (
        some (-1 : Int))
      else (
        bif (decide (a1 < a0)) then (
          some (1 : Int))
        else (
          some (0 : Int)))))
noncomputable def cmp_Compare_intI : Shape := { n := 20, nx := 0, sl := [(0, .dat false (.int .i64)), (1, .dat false (.int .i64))], ob := [], fix := [], may := true }
noncomputable def cmp_Compare_intO : Shape := { n := 21, nx := 0, sl := [(20, .dat true (.int .i64))], ob := [], fix := [], may := true }
noncomputable def cmp_Compare_intF : (Int × Int) → Option Int := fun y => cmp_Compare_int y.1 y.2
noncomputable def cmp_Compare_intct : Ctr := ctrOf cmp_Compare_intI cmp_Compare_intO (fun d => d) (fun d => d) cmp_Compare_intF
noncomputable def cmp_Compare_intE : Env := { tf := tfE, mt := mtE, fn := fun f => bif Nat.beq f 95 then some cmp_isNaN_intct else none }
theorem cmp_Compare_int_env : EnvOk PT cmp_Compare_intE := ⟨tyE, (fun f ct h => by
  simp only [cmp_Compare_intE] at h
  refine envCons (c := cmp_isNaN_intct) h cmp_isNaN_int_ctr (fun h => ?_)
  cases h), mapE⟩
noncomputable def cmp_Compare_intC : Code := bodyOf Go.Proofs.Try.f87
noncomputable def cmp_Compare_intH : Nat → Option Sum := fun n => none
theorem cmp_Compare_int_bd (y : Int × Int) : @Eq (Option Int) (exec cmp_Compare_intE cmp_Compare_intH cmp_Compare_intC (cmp_Compare_intI.mk' (show cmp_Compare_intI.D from y)) (kontF (Z := Int) cmp_Compare_intE Go.Proofs.Try.f87.results.toList cmp_Compare_intO (fun d => d))) (cmp_Compare_intF y) := by kernel_rfl
theorem cmp_Compare_int_lo {w0 : World} {Jo : Io} (hfix : ∀ i b, Jo.fix i = some b → i ∈ []) (hmay : true = true → Jo.may) : LoopsOk PT w0 Jo cmp_Compare_intH cmp_Compare_intC := (noLoops (by kernel_rfl))
theorem cmp_Compare_int_ctr : CtrOk PT 87 cmp_Compare_intct :=
  @ctr_ok PT cmp_Compare_intE cmp_Compare_intH cmp_Compare_int_env mixed 87 Go.Proofs.Try.f87 cmp_Compare_intC (by kernel_rfl) (by kernel_rfl) (enters_of (by kernel_rfl : PT.funcs[87]? = some Go.Proofs.Try.f87) (by kernel_rfl) (by kernel_rfl)) cmp_Compare_intI cmp_Compare_intO (Int × Int) Int (fun d => d) (fun d => d) (fun d => d) (fun d => d) (fun _ => rfl) (fun _ => rfl) (by kernel_rfl) (by kernel_rfl) cmp_Compare_intF cmp_Compare_int_bd (fun w0 Jo hfix hmay => cmp_Compare_int_lo hfix hmay)

/-- bodega/segment.ascending$1 -/
noncomputable def segment_ascending_1 (a0 : Val TPage) (a1 : Val TPage) : Option Int :=
  (cmp_Compare_int a0.1 a1.1).bind fun r1 =>
  some r1
noncomputable def segment_ascending_1I : Shape := { n := 10, nx := 0, sl := [(0, .dat false TPage), (1, .dat false TPage)], ob := [], fix := [], may := true }
noncomputable def segment_ascending_1O : Shape := { n := 11, nx := 0, sl := [(10, .dat true (.int .i64))], ob := [], fix := [], may := true }
noncomputable def segment_ascending_1F : ((Val TPage) × (Val TPage)) → Option Int := fun y => segment_ascending_1 y.1 y.2
noncomputable def segment_ascending_1ct : Ctr := ctrOf segment_ascending_1I segment_ascending_1O (fun d => d) (fun d => d) segment_ascending_1F
noncomputable def segment_ascending_1E : Env := { tf := tfE, mt := mtE, fn := fun f => bif Nat.beq f 87 then some cmp_Compare_intct else none }
theorem segment_ascending_1_env : EnvOk PT segment_ascending_1E := ⟨tyE, (fun f ct h => by
  simp only [segment_ascending_1E] at h
  refine envCons (c := cmp_Compare_intct) h cmp_Compare_int_ctr (fun h => ?_)
  cases h), mapE⟩
noncomputable def segment_ascending_1C : Code := bodyOf Go.Proofs.Try.f86
noncomputable def segment_ascending_1H : Nat → Option Sum := fun n => none
theorem segment_ascending_1_bd (y : (Val TPage) × (Val TPage)) : @Eq (Option Int) (exec segment_ascending_1E segment_ascending_1H segment_ascending_1C (segment_ascending_1I.mk' (show segment_ascending_1I.D from y)) (kontF (Z := Int) segment_ascending_1E Go.Proofs.Try.f86.results.toList segment_ascending_1O (fun d => d))) (segment_ascending_1F y) := by kernel_rfl
theorem segment_ascending_1_lo {w0 : World} {Jo : Io} (hfix : ∀ i b, Jo.fix i = some b → i ∈ []) (hmay : true = true → Jo.may) : LoopsOk PT w0 Jo segment_ascending_1H segment_ascending_1C := (noLoops (by kernel_rfl))
theorem segment_ascending_1_ctr : CtrOk PT 86 segment_ascending_1ct :=
  @ctr_ok PT segment_ascending_1E segment_ascending_1H segment_ascending_1_env mixed 86 Go.Proofs.Try.f86 segment_ascending_1C (by kernel_rfl) (by kernel_rfl) (enters_of (by kernel_rfl : PT.funcs[86]? = some Go.Proofs.Try.f86) (by kernel_rfl) (by kernel_rfl)) segment_ascending_1I segment_ascending_1O ((Val TPage) × (Val TPage)) Int (fun d => d) (fun d => d) (fun d => d) (fun d => d) (fun _ => rfl) (fun _ => rfl) (by kernel_rfl) (by kernel_rfl) segment_ascending_1F segment_ascending_1_bd (fun w0 Jo hfix hmay => segment_ascending_1_lo hfix hmay)

noncomputable def slices_insertionSortCmpFunc_PageL1b (x0 : Int) (x1 : Int) (x2 : Int) (x3 : Int) (x4 : Val (.slice TPage)) : Option ((Int × Int × Int × Int × (Val (.slice TPage))) ⊕ (Int × Int × Int × (Val (.slice TPage)))) :=
  bif (decide (x0 < x3)) then (
    bif (inR x3 (List.length x4)) then
    bif (inR (IntKind.wrap .i64 (x3 - (1 : Int))) (List.length x4)) then
    (segment_ascending_1 (List.getD x4 (Int.toNat x3) ((0 : Int), ((0 : Int), ((List.replicate 7 (0 : Int)), ())))) (List.getD x4 (Int.toNat (IntKind.wrap .i64 (x3 - (1 : Int)))) ((0 : Int), ((0 : Int), ((List.replicate 7 (0 : Int)), ()))))).bind fun r1 =>
    bif (decide (r1 < (0 : Int))) then (
      bif (inR (IntKind.wrap .i64 (x3 - (1 : Int))) (List.length x4)) then
      bif (inR x3 (List.length x4)) then
      bif (inR x3 (List.length x4)) then
      bif (inR (IntKind.wrap .i64 (x3 - (1 : Int))) (List.length (List.set x4 (Int.toNat x3) (List.getD x4 (Int.toNat (IntKind.wrap .i64 (x3 - (1 : Int)))) ((0 : Int), ((0 : Int), ((List.replicate 7 (0 : Int)), ()))))))) then
      some (Sum.inl (x0, (x1, (x2, ((IntKind.wrap .i64 (x3 - (1 : Int))), (List.set (List.set x4 (Int.toNat x3) (List.getD x4 (Int.toNat (IntKind.wrap .i64 (x3 - (1 : Int)))) ((0 : Int), ((0 : Int), ((List.replicate 7 (0 : Int)), ()))))) (Int.toNat (IntKind.wrap .i64 (x3 - (1 : Int)))) (List.getD x4 (Int.toNat x3) ((0 : Int), ((0 : Int), ((List.replicate 7 (0 : Int)), ()))))))))))
      else none
      else none
      else none
      else none)
    else (
      some (Sum.inr (x0, (x1, (x2, x4)))))
    else none
    else none)
  else (
    some (Sum.inr (x0, (x1, (x2, x4)))))
noncomputable def slices_insertionSortCmpFunc_PageL1B : (Int × Int × Int × Int × (Val (.slice TPage))) → Option ((Int × Int × Int × Int × (Val (.slice TPage))) ⊕ (Int × Int × Int × (Val (.slice TPage)))) := fun y => slices_insertionSortCmpFunc_PageL1b y.1 y.2.1 y.2.2.1 y.2.2.2.1 y.2.2.2.2
noncomputable def slices_insertionSortCmpFunc_PageL1 (x0 : Int) (x1 : Int) (x2 : Int) (x3 : Int) (x4 : Val (.slice TPage)) : Option (Int × Int × Int × (Val (.slice TPage))) := iter slices_insertionSortCmpFunc_PageL1B (x0, (x1, (x2, (x3, x4))))
noncomputable def slices_insertionSortCmpFunc_PageL2b (x0 : Int) (x1 : Int) (x2 : Int) (x3 : Val (.slice TPage)) : Option ((Int × Int × Int × (Val (.slice TPage))) ⊕ ((Val (.slice TPage)))) :=
  bif (decide (x2 < x1)) then (
    (slices_insertionSortCmpFunc_PageL1 x0 x1 x2 x2 x3).bind fun r1 =>
    some (Sum.inl (r1.1, (r1.2.1, ((IntKind.wrap .i64 (r1.2.2.1 + (1 : Int))), r1.2.2.2)))))
  else (
    some (Sum.inr x3))
noncomputable def slices_insertionSortCmpFunc_PageL2B : (Int × Int × Int × (Val (.slice TPage))) → Option ((Int × Int × Int × (Val (.slice TPage))) ⊕ ((Val (.slice TPage)))) := fun y => slices_insertionSortCmpFunc_PageL2b y.1 y.2.1 y.2.2.1 y.2.2.2
noncomputable def slices_insertionSortCmpFunc_PageL2 (x0 : Int) (x1 : Int) (x2 : Int) (x3 : Val (.slice TPage)) : Option ((Val (.slice TPage))) := iter slices_insertionSortCmpFunc_PageL2B (x0, (x1, (x2, x3)))
/-- slices.insertionSortCmpFunc[bodega/api.Page] -/
noncomputable def slices_insertionSortCmpFunc_Page (a0 : Int) (a1 : Int) (a2 : Val (.slice TPage)) : Option ((Val (.slice TPage))) :=
  (slices_insertionSortCmpFunc_PageL2 a0 a1 (IntKind.wrap .i64 (a0 + (1 : Int))) a2).bind fun r1 =>
  some r1
noncomputable def slices_insertionSortCmpFunc_PageI : Shape := { n := 53, nx := 1, sl := [(0, .own TPage 0), (1, .dat false (.int .i64)), (2, .dat false (.int .i64)), (3, .fn 86 (.nil))], ob := [(0, .slc false TPage)], fix := [0], may := false }
noncomputable def slices_insertionSortCmpFunc_PageO : Shape := { n := 54, nx := 1, sl := [(53, .tup (.nil))], ob := [(0, .slc false TPage)], fix := [0], may := false }
noncomputable def slices_insertionSortCmpFunc_PageF : (Int × Int × (Val (.slice TPage))) → Option ((Val (.slice TPage))) := fun y => slices_insertionSortCmpFunc_Page y.1 y.2.1 y.2.2
noncomputable def slices_insertionSortCmpFunc_Pagect : Ctr := ctrOf slices_insertionSortCmpFunc_PageI slices_insertionSortCmpFunc_PageO (fun d => d) (fun d => d) slices_insertionSortCmpFunc_PageF
noncomputable def slices_insertionSortCmpFunc_PageE : Env := { tf := tfE, mt := mtE, fn := fun f => bif Nat.beq f 86 then some segment_ascending_1ct else none }
theorem slices_insertionSortCmpFunc_Page_env : EnvOk PT slices_insertionSortCmpFunc_PageE := ⟨tyE, (fun f ct h => by
  simp only [slices_insertionSortCmpFunc_PageE] at h
  refine envCons (c := segment_ascending_1ct) h segment_ascending_1_ctr (fun h => ?_)
  cases h), mapE⟩
noncomputable def slices_insertionSortCmpFunc_PageC : Code := bodyOf Go.Proofs.Try.f98
noncomputable def slices_insertionSortCmpFunc_PageL2C : Code := (loopsOf slices_insertionSortCmpFunc_PageC).getD 0 .skip
noncomputable def slices_insertionSortCmpFunc_PageL1C : Code := (loopsOf slices_insertionSortCmpFunc_PageC).getD 1 .skip
noncomputable def slices_insertionSortCmpFunc_PageL1S : Shape := { n := 53, nx := 1, sl := [(0, .own TPage 0), (1, .dat false (.int .i64)), (2, .dat false (.int .i64)), (3, .fn 86 (.nil)), (8, .dat true (.int .i64)), (9, .dat true (.int .i64))], ob := [(0, .slc false TPage)], fix := [0], may := false }
noncomputable def slices_insertionSortCmpFunc_PageL1O : List (Ex × Shape) := [(.exit 2, { n := 53, nx := 1, sl := [(0, .own TPage 0), (1, .dat false (.int .i64)), (2, .dat false (.int .i64)), (3, .fn 86 (.nil)), (8, .dat true (.int .i64))], ob := [(0, .slc false TPage)], fix := [0], may := false })]
noncomputable def slices_insertionSortCmpFunc_PageL1M : Sum := loopSum (Y := Int × Int × Int × Int × (Val (.slice TPage))) (Z := Int × Int × Int × (Val (.slice TPage))) slices_insertionSortCmpFunc_PageL1S slices_insertionSortCmpFunc_PageL1O (fun d => d) (fun d => d) (iter slices_insertionSortCmpFunc_PageL1B)
noncomputable def slices_insertionSortCmpFunc_PageL2S : Shape := { n := 53, nx := 1, sl := [(0, .own TPage 0), (1, .dat false (.int .i64)), (2, .dat false (.int .i64)), (3, .fn 86 (.nil)), (8, .dat true (.int .i64))], ob := [(0, .slc false TPage)], fix := [0], may := false }
noncomputable def slices_insertionSortCmpFunc_PageL2O : List (Ex × Shape) := [(.exit 0, { n := 53, nx := 1, sl := [], ob := [(0, .slc false TPage)], fix := [0], may := false })]
noncomputable def slices_insertionSortCmpFunc_PageL2M : Sum := loopSum (Y := Int × Int × Int × (Val (.slice TPage))) (Z := (Val (.slice TPage))) slices_insertionSortCmpFunc_PageL2S slices_insertionSortCmpFunc_PageL2O (fun d => d) (fun d => d) (iter slices_insertionSortCmpFunc_PageL2B)
noncomputable def slices_insertionSortCmpFunc_PageH : Nat → Option Sum := fun n => bif Nat.beq n 4 then some slices_insertionSortCmpFunc_PageL1M else bif Nat.beq n 1 then some slices_insertionSortCmpFunc_PageL2M else none
theorem slices_insertionSortCmpFunc_PageL1_bd (y : Int × Int × Int × Int × (Val (.slice TPage))) : @Eq (Option ((Int × Int × Int × Int × (Val (.slice TPage))) ⊕ (Int × Int × Int × (Val (.slice TPage))))) (exec slices_insertionSortCmpFunc_PageE slices_insertionSortCmpFunc_PageH slices_insertionSortCmpFunc_PageL1C (slices_insertionSortCmpFunc_PageL1S.mk' (show slices_insertionSortCmpFunc_PageL1S.D from y)) (kont (Y := Int × Int × Int × Int × (Val (.slice TPage))) (Z := Int × Int × Int × (Val (.slice TPage))) slices_insertionSortCmpFunc_PageL1S slices_insertionSortCmpFunc_PageL1O (fun d => d) (fun d => d))) (slices_insertionSortCmpFunc_PageL1B y) := by kernel_rfl
theorem slices_insertionSortCmpFunc_PageL1_ok {w0 : World} {Jo : Io} (hfix : ∀ i b, Jo.fix i = some b → i ∈ [0]) (hmay : false = true → Jo.may) : SumOk PT w0 Jo slices_insertionSortCmpFunc_PageL1M (.loop slices_insertionSortCmpFunc_PageL1C) :=
  @loop_ok w0 Jo PT slices_insertionSortCmpFunc_PageE slices_insertionSortCmpFunc_PageH (Int × Int × Int × Int × (Val (.slice TPage))) (Int × Int × Int × (Val (.slice TPage))) slices_insertionSortCmpFunc_Page_env mixed slices_insertionSortCmpFunc_PageL1C slices_insertionSortCmpFunc_PageL1S slices_insertionSortCmpFunc_PageL1O (fun d => d) (fun d => d) (fun d => d) (fun d => d) (fun _ => rfl) (fun _ => rfl) hfix hmay (by kernel_rfl) (noLoops (by kernel_rfl)) slices_insertionSortCmpFunc_PageL1B slices_insertionSortCmpFunc_PageL1_bd
theorem slices_insertionSortCmpFunc_PageL2_bd (y : Int × Int × Int × (Val (.slice TPage))) : @Eq (Option ((Int × Int × Int × (Val (.slice TPage))) ⊕ ((Val (.slice TPage))))) (exec slices_insertionSortCmpFunc_PageE slices_insertionSortCmpFunc_PageH slices_insertionSortCmpFunc_PageL2C (slices_insertionSortCmpFunc_PageL2S.mk' (show slices_insertionSortCmpFunc_PageL2S.D from y)) (kont (Y := Int × Int × Int × (Val (.slice TPage))) (Z := (Val (.slice TPage))) slices_insertionSortCmpFunc_PageL2S slices_insertionSortCmpFunc_PageL2O (fun d => d) (fun d => d))) (slices_insertionSortCmpFunc_PageL2B y) := by kernel_rfl
theorem slices_insertionSortCmpFunc_PageL2_ok {w0 : World} {Jo : Io} (hfix : ∀ i b, Jo.fix i = some b → i ∈ [0]) (hmay : false = true → Jo.may) : SumOk PT w0 Jo slices_insertionSortCmpFunc_PageL2M (.loop slices_insertionSortCmpFunc_PageL2C) :=
  @loop_ok w0 Jo PT slices_insertionSortCmpFunc_PageE slices_insertionSortCmpFunc_PageH (Int × Int × Int × (Val (.slice TPage))) ((Val (.slice TPage))) slices_insertionSortCmpFunc_Page_env mixed slices_insertionSortCmpFunc_PageL2C slices_insertionSortCmpFunc_PageL2S slices_insertionSortCmpFunc_PageL2O (fun d => d) (fun d => d) (fun d => d) (fun d => d) (fun _ => rfl) (fun _ => rfl) hfix hmay (by kernel_rfl) (loopsMk (by kernel_rfl) (loopsCons (c := slices_insertionSortCmpFunc_PageL1C) (n := 4) (f := slices_insertionSortCmpFunc_PageL1M) (by kernel_rfl) (by kernel_rfl) (slices_insertionSortCmpFunc_PageL1_ok hfix hmay) loopsNil)) slices_insertionSortCmpFunc_PageL2B slices_insertionSortCmpFunc_PageL2_bd
theorem slices_insertionSortCmpFunc_Page_bd (y : Int × Int × (Val (.slice TPage))) : @Eq (Option ((Val (.slice TPage)))) (exec slices_insertionSortCmpFunc_PageE slices_insertionSortCmpFunc_PageH slices_insertionSortCmpFunc_PageC (slices_insertionSortCmpFunc_PageI.mk' (show slices_insertionSortCmpFunc_PageI.D from y)) (kontF (Z := (Val (.slice TPage))) slices_insertionSortCmpFunc_PageE Go.Proofs.Try.f98.results.toList slices_insertionSortCmpFunc_PageO (fun d => d))) (slices_insertionSortCmpFunc_PageF y) := by kernel_rfl
theorem slices_insertionSortCmpFunc_Page_lo {w0 : World} {Jo : Io} (hfix : ∀ i b, Jo.fix i = some b → i ∈ [0]) (hmay : false = true → Jo.may) : LoopsOk PT w0 Jo slices_insertionSortCmpFunc_PageH slices_insertionSortCmpFunc_PageC := (loopsMk (by kernel_rfl) (loopsCons (c := slices_insertionSortCmpFunc_PageL2C) (n := 1) (f := slices_insertionSortCmpFunc_PageL2M) (by kernel_rfl) (by kernel_rfl) (slices_insertionSortCmpFunc_PageL2_ok hfix hmay) (loopsCons (c := slices_insertionSortCmpFunc_PageL1C) (n := 4) (f := slices_insertionSortCmpFunc_PageL1M) (by kernel_rfl) (by kernel_rfl) (slices_insertionSortCmpFunc_PageL1_ok hfix hmay) loopsNil)))
theorem slices_insertionSortCmpFunc_Page_ctr : CtrOk PT 98 slices_insertionSortCmpFunc_Pagect :=
  @ctr_ok PT slices_insertionSortCmpFunc_PageE slices_insertionSortCmpFunc_PageH slices_insertionSortCmpFunc_Page_env mixed 98 Go.Proofs.Try.f98 slices_insertionSortCmpFunc_PageC (by kernel_rfl) (by kernel_rfl) (enters_of (by kernel_rfl : PT.funcs[98]? = some Go.Proofs.Try.f98) (by kernel_rfl) (by kernel_rfl)) slices_insertionSortCmpFunc_PageI slices_insertionSortCmpFunc_PageO (Int × Int × (Val (.slice TPage))) ((Val (.slice TPage))) (fun d => d) (fun d => d) (fun d => d) (fun d => d) (fun _ => rfl) (fun _ => rfl) (by kernel_rfl) (by kernel_rfl) slices_insertionSortCmpFunc_PageF slices_insertionSortCmpFunc_Page_bd (fun w0 Jo hfix hmay => slices_insertionSortCmpFunc_Page_lo hfix hmay)

noncomputable def slices_swapRangeCmpFunc_PageL1b (x0 : Int) (x1 : Int) (x2 : Int) (x3 : Int) (x4 : Val (.slice TPage)) : Option ((Int × Int × Int × Int × (Val (.slice TPage))) ⊕ ((Val (.slice TPage)))) :=
  bif (decide (x3 < x2)) then (
    bif (inR (IntKind.wrap .i64 (x1 + x3)) (List.length x4)) then
    bif (inR (IntKind.wrap .i64 (x0 + x3)) (List.length x4)) then
    bif (inR (IntKind.wrap .i64 (x0 + x3)) (List.length x4)) then
    bif (inR (IntKind.wrap .i64 (x1 + x3)) (List.length (List.set x4 (Int.toNat (IntKind.wrap .i64 (x0 + x3))) (List.getD x4 (Int.toNat (IntKind.wrap .i64 (x1 + x3))) ((0 : Int), ((0 : Int), ((List.replicate 7 (0 : Int)), ()))))))) then
    some (Sum.inl (x0, (x1, (x2, ((IntKind.wrap .i64 (x3 + (1 : Int))), (List.set (List.set x4 (Int.toNat (IntKind.wrap .i64 (x0 + x3))) (List.getD x4 (Int.toNat (IntKind.wrap .i64 (x1 + x3))) ((0 : Int), ((0 : Int), ((List.replicate 7 (0 : Int)), ()))))) (Int.toNat (IntKind.wrap .i64 (x1 + x3))) (List.getD x4 (Int.toNat (IntKind.wrap .i64 (x0 + x3))) ((0 : Int), ((0 : Int), ((List.replicate 7 (0 : Int)), ()))))))))))
    else none
    else none
    else none
    else none)
  else (
    some (Sum.inr x4))
noncomputable def slices_swapRangeCmpFunc_PageL1B : (Int × Int × Int × Int × (Val (.slice TPage))) → Option ((Int × Int × Int × Int × (Val (.slice TPage))) ⊕ ((Val (.slice TPage)))) := fun y => slices_swapRangeCmpFunc_PageL1b y.1 y.2.1 y.2.2.1 y.2.2.2.1 y.2.2.2.2
noncomputable def slices_swapRangeCmpFunc_PageL1 (x0 : Int) (x1 : Int) (x2 : Int) (x3 : Int) (x4 : Val (.slice TPage)) : Option ((Val (.slice TPage))) := iter slices_swapRangeCmpFunc_PageL1B (x0, (x1, (x2, (x3, x4))))
/-- slices.swapRangeCmpFunc[bodega/api.Page] -/
noncomputable def slices_swapRangeCmpFunc_Page (a0 : Int) (a1 : Int) (a2 : Int) (a3 : Val (.slice TPage)) : Option ((Val (.slice TPage))) :=
  (slices_swapRangeCmpFunc_PageL1 a0 a1 a2 (0 : Int) a3).bind fun r1 =>
  some r1
noncomputable def slices_swapRangeCmpFunc_PageI : Shape := { n := 38, nx := 1, sl := [(0, .own TPage 0), (1, .dat false (.int .i64)), (2, .dat false (.int .i64)), (3, .dat false (.int .i64)), (4, .fn 86 (.nil))], ob := [(0, .slc false TPage)], fix := [0], may := false }
noncomputable def slices_swapRangeCmpFunc_PageO : Shape := { n := 39, nx := 1, sl := [(38, .tup (.nil))], ob := [(0, .slc false TPage)], fix := [0], may := false }
noncomputable def slices_swapRangeCmpFunc_PageF : (Int × Int × Int × (Val (.slice TPage))) → Option ((Val (.slice TPage))) := fun y => slices_swapRangeCmpFunc_Page y.1 y.2.1 y.2.2.1 y.2.2.2
noncomputable def slices_swapRangeCmpFunc_Pagect : Ctr := ctrOf slices_swapRangeCmpFunc_PageI slices_swapRangeCmpFunc_PageO (fun d => d) (fun d => d) slices_swapRangeCmpFunc_PageF
noncomputable def slices_swapRangeCmpFunc_PageE : Env := { tf := tfE, mt := mtE, fn := fun f => none }
theorem slices_swapRangeCmpFunc_Page_env : EnvOk PT slices_swapRangeCmpFunc_PageE := ⟨tyE, (fun f ct h => by
  simp only [slices_swapRangeCmpFunc_PageE] at h
  cases h), mapE⟩
noncomputable def slices_swapRangeCmpFunc_PageC : Code := bodyOf Go.Proofs.Try.f117
noncomputable def slices_swapRangeCmpFunc_PageL1C : Code := (loopsOf slices_swapRangeCmpFunc_PageC).getD 0 .skip
noncomputable def slices_swapRangeCmpFunc_PageL1S : Shape := { n := 38, nx := 1, sl := [(0, .own TPage 0), (1, .dat false (.int .i64)), (2, .dat false (.int .i64)), (3, .dat false (.int .i64)), (10, .dat true (.int .i64))], ob := [(0, .slc false TPage)], fix := [0], may := false }
noncomputable def slices_swapRangeCmpFunc_PageL1O : List (Ex × Shape) := [(.exit 0, { n := 38, nx := 1, sl := [], ob := [(0, .slc false TPage)], fix := [0], may := false })]
noncomputable def slices_swapRangeCmpFunc_PageL1M : Sum := loopSum (Y := Int × Int × Int × Int × (Val (.slice TPage))) (Z := (Val (.slice TPage))) slices_swapRangeCmpFunc_PageL1S slices_swapRangeCmpFunc_PageL1O (fun d => d) (fun d => d) (iter slices_swapRangeCmpFunc_PageL1B)
noncomputable def slices_swapRangeCmpFunc_PageH : Nat → Option Sum := fun n => bif Nat.beq n 1 then some slices_swapRangeCmpFunc_PageL1M else none
theorem slices_swapRangeCmpFunc_PageL1_bd (y : Int × Int × Int × Int × (Val (.slice TPage))) : @Eq (Option ((Int × Int × Int × Int × (Val (.slice TPage))) ⊕ ((Val (.slice TPage))))) (exec slices_swapRangeCmpFunc_PageE slices_swapRangeCmpFunc_PageH slices_swapRangeCmpFunc_PageL1C (slices_swapRangeCmpFunc_PageL1S.mk' (show slices_swapRangeCmpFunc_PageL1S.D from y)) (kont (Y := Int × Int × Int × Int × (Val (.slice TPage))) (Z := (Val (.slice TPage))) slices_swapRangeCmpFunc_PageL1S slices_swapRangeCmpFunc_PageL1O (fun d => d) (fun d => d))) (slices_swapRangeCmpFunc_PageL1B y) := by kernel_rfl
theorem slices_swapRangeCmpFunc_PageL1_ok {w0 : World} {Jo : Io} (hfix : ∀ i b, Jo.fix i = some b → i ∈ [0]) (hmay : false = true → Jo.may) : SumOk PT w0 Jo slices_swapRangeCmpFunc_PageL1M (.loop slices_swapRangeCmpFunc_PageL1C) :=
  @loop_ok w0 Jo PT slices_swapRangeCmpFunc_PageE slices_swapRangeCmpFunc_PageH (Int × Int × Int × Int × (Val (.slice TPage))) ((Val (.slice TPage))) slices_swapRangeCmpFunc_Page_env mixed slices_swapRangeCmpFunc_PageL1C slices_swapRangeCmpFunc_PageL1S slices_swapRangeCmpFunc_PageL1O (fun d => d) (fun d => d) (fun d => d) (fun d => d) (fun _ => rfl) (fun _ => rfl) hfix hmay (by kernel_rfl) (noLoops (by kernel_rfl)) slices_swapRangeCmpFunc_PageL1B slices_swapRangeCmpFunc_PageL1_bd
theorem slices_swapRangeCmpFunc_Page_bd (y : Int × Int × Int × (Val (.slice TPage))) : @Eq (Option ((Val (.slice TPage)))) (exec slices_swapRangeCmpFunc_PageE slices_swapRangeCmpFunc_PageH slices_swapRangeCmpFunc_PageC (slices_swapRangeCmpFunc_PageI.mk' (show slices_swapRangeCmpFunc_PageI.D from y)) (kontF (Z := (Val (.slice TPage))) slices_swapRangeCmpFunc_PageE Go.Proofs.Try.f117.results.toList slices_swapRangeCmpFunc_PageO (fun d => d))) (slices_swapRangeCmpFunc_PageF y) := by kernel_rfl
theorem slices_swapRangeCmpFunc_Page_lo {w0 : World} {Jo : Io} (hfix : ∀ i b, Jo.fix i = some b → i ∈ [0]) (hmay : false = true → Jo.may) : LoopsOk PT w0 Jo slices_swapRangeCmpFunc_PageH slices_swapRangeCmpFunc_PageC := (loopsMk (by kernel_rfl) (loopsCons (c := slices_swapRangeCmpFunc_PageL1C) (n := 1) (f := slices_swapRangeCmpFunc_PageL1M) (by kernel_rfl) (by kernel_rfl) (slices_swapRangeCmpFunc_PageL1_ok hfix hmay) loopsNil))
theorem slices_swapRangeCmpFunc_Page_ctr : CtrOk PT 117 slices_swapRangeCmpFunc_Pagect :=
  @ctr_ok PT slices_swapRangeCmpFunc_PageE slices_swapRangeCmpFunc_PageH slices_swapRangeCmpFunc_Page_env mixed 117 Go.Proofs.Try.f117 slices_swapRangeCmpFunc_PageC (by kernel_rfl) (by kernel_rfl) (enters_of (by kernel_rfl : PT.funcs[117]? = some Go.Proofs.Try.f117) (by kernel_rfl) (by kernel_rfl)) slices_swapRangeCmpFunc_PageI slices_swapRangeCmpFunc_PageO (Int × Int × Int × (Val (.slice TPage))) ((Val (.slice TPage))) (fun d => d) (fun d => d) (fun d => d) (fun d => d) (fun _ => rfl) (fun _ => rfl) (by kernel_rfl) (by kernel_rfl) slices_swapRangeCmpFunc_PageF slices_swapRangeCmpFunc_Page_bd (fun w0 Jo hfix hmay => slices_swapRangeCmpFunc_Page_lo hfix hmay)

noncomputable def slices_rotateCmpFunc_PageL1b (x0 : Int) (x1 : Int) (x2 : Int) (x3 : Val (.slice TPage)) : Option ((Int × Int × Int × (Val (.slice TPage))) ⊕ (Int × Int × (Val (.slice TPage)))) :=
  bif (!(decide (x1 = x2))) then (
    bif (decide (x2 < x1)) then (
      (slices_swapRangeCmpFunc_Page (IntKind.wrap .i64 (x0 - x1)) x0 x2 x3).bind fun r1 =>
      some (Sum.inl (x0, ((IntKind.wrap .i64 (x1 - x2)), (x2, r1)))))
    else (
      (slices_swapRangeCmpFunc_Page (IntKind.wrap .i64 (x0 - x1)) (IntKind.wrap .i64 ((IntKind.wrap .i64 (x0 + x2)) - x1)) x1 x3).bind fun r2 =>
      some (Sum.inl (x0, (x1, ((IntKind.wrap .i64 (x2 - x1)), r2))))))
  else (
    some (Sum.inr (x0, (x1, x3))))
noncomputable def slices_rotateCmpFunc_PageL1B : (Int × Int × Int × (Val (.slice TPage))) → Option ((Int × Int × Int × (Val (.slice TPage))) ⊕ (Int × Int × (Val (.slice TPage)))) := fun y => slices_rotateCmpFunc_PageL1b y.1 y.2.1 y.2.2.1 y.2.2.2
noncomputable def slices_rotateCmpFunc_PageL1 (x0 : Int) (x1 : Int) (x2 : Int) (x3 : Val (.slice TPage)) : Option (Int × Int × (Val (.slice TPage))) := iter slices_rotateCmpFunc_PageL1B (x0, (x1, (x2, x3)))
/-- slices.rotateCmpFunc[bodega/api.Page] -/
noncomputable def slices_rotateCmpFunc_Page (a0 : Int) (a1 : Int) (a2 : Int) (a3 : Val (.slice TPage)) : Option ((Val (.slice TPage))) :=
  (slices_rotateCmpFunc_PageL1 a1 (IntKind.wrap .i64 (a1 - a0)) (IntKind.wrap .i64 (a2 - a1)) a3).bind fun r1 =>
  (slices_swapRangeCmpFunc_Page (IntKind.wrap .i64 (r1.1 - r1.2.1)) r1.1 r1.2.1 r1.2.2).bind fun r2 =>
  some r2
noncomputable def slices_rotateCmpFunc_PageI : Shape := { n := 58, nx := 1, sl := [(0, .own TPage 0), (1, .dat false (.int .i64)), (2, .dat false (.int .i64)), (3, .dat false (.int .i64)), (4, .fn 86 (.nil))], ob := [(0, .slc false TPage)], fix := [0], may := false }
noncomputable def slices_rotateCmpFunc_PageO : Shape := { n := 59, nx := 1, sl := [(58, .tup (.nil))], ob := [(0, .slc false TPage)], fix := [0], may := false }
noncomputable def slices_rotateCmpFunc_PageF : (Int × Int × Int × (Val (.slice TPage))) → Option ((Val (.slice TPage))) := fun y => slices_rotateCmpFunc_Page y.1 y.2.1 y.2.2.1 y.2.2.2
noncomputable def slices_rotateCmpFunc_Pagect : Ctr := ctrOf slices_rotateCmpFunc_PageI slices_rotateCmpFunc_PageO (fun d => d) (fun d => d) slices_rotateCmpFunc_PageF
noncomputable def slices_rotateCmpFunc_PageE : Env := { tf := tfE, mt := mtE, fn := fun f => bif Nat.beq f 117 then some slices_swapRangeCmpFunc_Pagect else none }
theorem slices_rotateCmpFunc_Page_env : EnvOk PT slices_rotateCmpFunc_PageE := ⟨tyE, (fun f ct h => by
  simp only [slices_rotateCmpFunc_PageE] at h
  refine envCons (c := slices_swapRangeCmpFunc_Pagect) h slices_swapRangeCmpFunc_Page_ctr (fun h => ?_)
  cases h), mapE⟩
noncomputable def slices_rotateCmpFunc_PageC : Code := bodyOf Go.Proofs.Try.f111
noncomputable def slices_rotateCmpFunc_PageL1C : Code := (loopsOf slices_rotateCmpFunc_PageC).getD 0 .skip
noncomputable def slices_rotateCmpFunc_PageL1S : Shape := { n := 58, nx := 1, sl := [(0, .own TPage 0), (2, .dat false (.int .i64)), (4, .fn 86 (.nil)), (10, .dat true (.int .i64)), (11, .dat true (.int .i64))], ob := [(0, .slc false TPage)], fix := [0], may := false }
noncomputable def slices_rotateCmpFunc_PageL1O : List (Ex × Shape) := [(.exit 0, { n := 58, nx := 1, sl := [(0, .own TPage 0), (2, .dat false (.int .i64)), (4, .fn 86 (.nil)), (10, .dat true (.int .i64))], ob := [(0, .slc false TPage)], fix := [0], may := false })]
noncomputable def slices_rotateCmpFunc_PageL1M : Sum := loopSum (Y := Int × Int × Int × (Val (.slice TPage))) (Z := Int × Int × (Val (.slice TPage))) slices_rotateCmpFunc_PageL1S slices_rotateCmpFunc_PageL1O (fun d => d) (fun d => d) (iter slices_rotateCmpFunc_PageL1B)
noncomputable def slices_rotateCmpFunc_PageH : Nat → Option Sum := fun n => bif Nat.beq n 2 then some slices_rotateCmpFunc_PageL1M else none
theorem slices_rotateCmpFunc_PageL1_bd (y : Int × Int × Int × (Val (.slice TPage))) : @Eq (Option ((Int × Int × Int × (Val (.slice TPage))) ⊕ (Int × Int × (Val (.slice TPage))))) (exec slices_rotateCmpFunc_PageE slices_rotateCmpFunc_PageH slices_rotateCmpFunc_PageL1C (slices_rotateCmpFunc_PageL1S.mk' (show slices_rotateCmpFunc_PageL1S.D from y)) (kont (Y := Int × Int × Int × (Val (.slice TPage))) (Z := Int × Int × (Val (.slice TPage))) slices_rotateCmpFunc_PageL1S slices_rotateCmpFunc_PageL1O (fun d => d) (fun d => d))) (slices_rotateCmpFunc_PageL1B y) := by kernel_rfl
theorem slices_rotateCmpFunc_PageL1_ok {w0 : World} {Jo : Io} (hfix : ∀ i b, Jo.fix i = some b → i ∈ [0]) (hmay : false = true → Jo.may) : SumOk PT w0 Jo slices_rotateCmpFunc_PageL1M (.loop slices_rotateCmpFunc_PageL1C) :=
  @loop_ok w0 Jo PT slices_rotateCmpFunc_PageE slices_rotateCmpFunc_PageH (Int × Int × Int × (Val (.slice TPage))) (Int × Int × (Val (.slice TPage))) slices_rotateCmpFunc_Page_env mixed slices_rotateCmpFunc_PageL1C slices_rotateCmpFunc_PageL1S slices_rotateCmpFunc_PageL1O (fun d => d) (fun d => d) (fun d => d) (fun d => d) (fun _ => rfl) (fun _ => rfl) hfix hmay (by kernel_rfl) (noLoops (by kernel_rfl)) slices_rotateCmpFunc_PageL1B slices_rotateCmpFunc_PageL1_bd
theorem slices_rotateCmpFunc_Page_bd (y : Int × Int × Int × (Val (.slice TPage))) : @Eq (Option ((Val (.slice TPage)))) (exec slices_rotateCmpFunc_PageE slices_rotateCmpFunc_PageH slices_rotateCmpFunc_PageC (slices_rotateCmpFunc_PageI.mk' (show slices_rotateCmpFunc_PageI.D from y)) (kontF (Z := (Val (.slice TPage))) slices_rotateCmpFunc_PageE Go.Proofs.Try.f111.results.toList slices_rotateCmpFunc_PageO (fun d => d))) (slices_rotateCmpFunc_PageF y) := by kernel_rfl
theorem slices_rotateCmpFunc_Page_lo {w0 : World} {Jo : Io} (hfix : ∀ i b, Jo.fix i = some b → i ∈ [0]) (hmay : false = true → Jo.may) : LoopsOk PT w0 Jo slices_rotateCmpFunc_PageH slices_rotateCmpFunc_PageC := (loopsMk (by kernel_rfl) (loopsCons (c := slices_rotateCmpFunc_PageL1C) (n := 2) (f := slices_rotateCmpFunc_PageL1M) (by kernel_rfl) (by kernel_rfl) (slices_rotateCmpFunc_PageL1_ok hfix hmay) loopsNil))
theorem slices_rotateCmpFunc_Page_ctr : CtrOk PT 111 slices_rotateCmpFunc_Pagect :=
  @ctr_ok PT slices_rotateCmpFunc_PageE slices_rotateCmpFunc_PageH slices_rotateCmpFunc_Page_env mixed 111 Go.Proofs.Try.f111 slices_rotateCmpFunc_PageC (by kernel_rfl) (by kernel_rfl) (enters_of (by kernel_rfl : PT.funcs[111]? = some Go.Proofs.Try.f111) (by kernel_rfl) (by kernel_rfl)) slices_rotateCmpFunc_PageI slices_rotateCmpFunc_PageO (Int × Int × Int × (Val (.slice TPage))) ((Val (.slice TPage))) (fun d => d) (fun d => d) (fun d => d) (fun d => d) (fun _ => rfl) (fun _ => rfl) (by kernel_rfl) (by kernel_rfl) slices_rotateCmpFunc_PageF slices_rotateCmpFunc_Page_bd (fun w0 Jo hfix hmay => slices_rotateCmpFunc_Page_lo hfix hmay)

noncomputable def slices_symMergeCmpFunc_PageL1b (x0 : Int) (x1 : Int) (x2 : Int) (x3 : Val (.slice TPage)) : Option ((Int × Int × Int × (Val (.slice TPage))) ⊕ (Int × Int × (Val (.slice TPage)))) :=
  bif (decide (x1 < x2)) then (
    bif (inR (IntKind.wrap .i64 (shiftR .u64 (IntKind.wrap .u64 (IntKind.wrap .i64 (x1 + x2))) (1 : Int))) (List.length x3)) then
    bif (inR x0 (List.length x3)) then
    (segment_ascending_1 (List.getD x3 (Int.toNat (IntKind.wrap .i64 (shiftR .u64 (IntKind.wrap .u64 (IntKind.wrap .i64 (x1 + x2))) (1 : Int)))) ((0 : Int), ((0 : Int), ((List.replicate 7 (0 : Int)), ())))) (List.getD x3 (Int.toNat x0) ((0 : Int), ((0 : Int), ((List.replicate 7 (0 : Int)), ()))))).bind fun r1 =>
    bif (decide (r1 < (0 : Int))) then (
      some (Sum.inl (x0, ((IntKind.wrap .i64 ((IntKind.wrap .i64 (shiftR .u64 (IntKind.wrap .u64 (IntKind.wrap .i64 (x1 + x2))) (1 : Int))) + (1 : Int))), (x2, x3)))))
    else (
      some (Sum.inl (x0, (x1, ((IntKind.wrap .i64 (shiftR .u64 (IntKind.wrap .u64 (IntKind.wrap .i64 (x1 + x2))) (1 : Int))), x3)))))
    else none
    else none)
  else (
    some (Sum.inr (x0, (x1, x3))))
noncomputable def slices_symMergeCmpFunc_PageL1B : (Int × Int × Int × (Val (.slice TPage))) → Option ((Int × Int × Int × (Val (.slice TPage))) ⊕ (Int × Int × (Val (.slice TPage)))) := fun y => slices_symMergeCmpFunc_PageL1b y.1 y.2.1 y.2.2.1 y.2.2.2
noncomputable def slices_symMergeCmpFunc_PageL1 (x0 : Int) (x1 : Int) (x2 : Int) (x3 : Val (.slice TPage)) : Option (Int × Int × (Val (.slice TPage))) := iter slices_symMergeCmpFunc_PageL1B (x0, (x1, (x2, x3)))
noncomputable def slices_symMergeCmpFunc_PageL2b (x0 : Int) (x1 : Int) (x2 : Val (.slice TPage)) : Option ((Int × Int × (Val (.slice TPage))) ⊕ ((Val (.slice TPage)))) :=
  bif (decide (x1 < (IntKind.wrap .i64 (x0 - (1 : Int))))) then (
    bif (inR (IntKind.wrap .i64 (x1 + (1 : Int))) (List.length x2)) then
    bif (inR x1 (List.length x2)) then
    bif (inR x1 (List.length x2)) then
    bif (inR (IntKind.wrap .i64 (x1 + (1 : Int))) (List.length (List.set x2 (Int.toNat x1) (List.getD x2 (Int.toNat (IntKind.wrap .i64 (x1 + (1 : Int)))) ((0 : Int), ((0 : Int), ((List.replicate 7 (0 : Int)), ()))))))) then
    some (Sum.inl (x0, ((IntKind.wrap .i64 (x1 + (1 : Int))), (List.set (List.set x2 (Int.toNat x1) (List.getD x2 (Int.toNat (IntKind.wrap .i64 (x1 + (1 : Int)))) ((0 : Int), ((0 : Int), ((List.replicate 7 (0 : Int)), ()))))) (Int.toNat (IntKind.wrap .i64 (x1 + (1 : Int)))) (List.getD x2 (Int.toNat x1) ((0 : Int), ((0 : Int), ((List.replicate 7 (0 : Int)), ()))))))))
    else none
    else none
    else none
    else none)
  else (
    some (Sum.inr x2))
noncomputable def slices_symMergeCmpFunc_PageL2B : (Int × Int × (Val (.slice TPage))) → Option ((Int × Int × (Val (.slice TPage))) ⊕ ((Val (.slice TPage)))) := fun y => slices_symMergeCmpFunc_PageL2b y.1 y.2.1 y.2.2
noncomputable def slices_symMergeCmpFunc_PageL2 (x0 : Int) (x1 : Int) (x2 : Val (.slice TPage)) : Option ((Val (.slice TPage))) := iter slices_symMergeCmpFunc_PageL2B (x0, (x1, x2))
noncomputable def slices_symMergeCmpFunc_PageL3b (x0 : Int) (x1 : Int) (x2 : Int) (x3 : Val (.slice TPage)) : Option ((Int × Int × Int × (Val (.slice TPage))) ⊕ (Int × Int × (Val (.slice TPage)))) :=
  bif (decide (x1 < x2)) then (
    bif (inR x0 (List.length x3)) then
    bif (inR (IntKind.wrap .i64 (shiftR .u64 (IntKind.wrap .u64 (IntKind.wrap .i64 (x1 + x2))) (1 : Int))) (List.length x3)) then
    (segment_ascending_1 (List.getD x3 (Int.toNat x0) ((0 : Int), ((0 : Int), ((List.replicate 7 (0 : Int)), ())))) (List.getD x3 (Int.toNat (IntKind.wrap .i64 (shiftR .u64 (IntKind.wrap .u64 (IntKind.wrap .i64 (x1 + x2))) (1 : Int)))) ((0 : Int), ((0 : Int), ((List.replicate 7 (0 : Int)), ()))))).bind fun r1 =>
    bif (!(decide (r1 < (0 : Int)))) then (
      some (Sum.inl (x0, ((IntKind.wrap .i64 ((IntKind.wrap .i64 (shiftR .u64 (IntKind.wrap .u64 (IntKind.wrap .i64 (x1 + x2))) (1 : Int))) + (1 : Int))), (x2, x3)))))
    else (
      some (Sum.inl (x0, (x1, ((IntKind.wrap .i64 (shiftR .u64 (IntKind.wrap .u64 (IntKind.wrap .i64 (x1 + x2))) (1 : Int))), x3)))))
    else none
    else none)
  else (
    some (Sum.inr (x0, (x1, x3))))
noncomputable def slices_symMergeCmpFunc_PageL3B : (Int × Int × Int × (Val (.slice TPage))) → Option ((Int × Int × Int × (Val (.slice TPage))) ⊕ (Int × Int × (Val (.slice TPage)))) := fun y => slices_symMergeCmpFunc_PageL3b y.1 y.2.1 y.2.2.1 y.2.2.2
noncomputable def slices_symMergeCmpFunc_PageL3 (x0 : Int) (x1 : Int) (x2 : Int) (x3 : Val (.slice TPage)) : Option (Int × Int × (Val (.slice TPage))) := iter slices_symMergeCmpFunc_PageL3B (x0, (x1, (x2, x3)))
noncomputable def slices_symMergeCmpFunc_PageL4b (x0 : Int) (x1 : Int) (x2 : Val (.slice TPage)) : Option ((Int × Int × (Val (.slice TPage))) ⊕ ((Val (.slice TPage)))) :=
  bif (decide (x0 < x1)) then (
    bif (inR (IntKind.wrap .i64 (x1 - (1 : Int))) (List.length x2)) then
    bif (inR x1 (List.length x2)) then
    bif (inR x1 (List.length x2)) then
    bif (inR (IntKind.wrap .i64 (x1 - (1 : Int))) (List.length (List.set x2 (Int.toNat x1) (List.getD x2 (Int.toNat (IntKind.wrap .i64 (x1 - (1 : Int)))) ((0 : Int), ((0 : Int), ((List.replicate 7 (0 : Int)), ()))))))) then
    some (Sum.inl (x0, ((IntKind.wrap .i64 (x1 - (1 : Int))), (List.set (List.set x2 (Int.toNat x1) (List.getD x2 (Int.toNat (IntKind.wrap .i64 (x1 - (1 : Int)))) ((0 : Int), ((0 : Int), ((List.replicate 7 (0 : Int)), ()))))) (Int.toNat (IntKind.wrap .i64 (x1 - (1 : Int)))) (List.getD x2 (Int.toNat x1) ((0 : Int), ((0 : Int), ((List.replicate 7 (0 : Int)), ()))))))))
    else none
    else none
    else none
    else none)
  else (
    some (Sum.inr x2))
noncomputable def slices_symMergeCmpFunc_PageL4B : (Int × Int × (Val (.slice TPage))) → Option ((Int × Int × (Val (.slice TPage))) ⊕ ((Val (.slice TPage)))) := fun y => slices_symMergeCmpFunc_PageL4b y.1 y.2.1 y.2.2
noncomputable def slices_symMergeCmpFunc_PageL4 (x0 : Int) (x1 : Int) (x2 : Val (.slice TPage)) : Option ((Val (.slice TPage))) := iter slices_symMergeCmpFunc_PageL4B (x0, (x1, x2))
noncomputable def slices_symMergeCmpFunc_PageL5b (x0 : Int) (x1 : Int) (x2 : Int) (x3 : Int) (x4 : Int) (x5 : Int) (x6 : Int) (x7 : Int) (x8 : Val (.slice TPage)) : Option ((Int × Int × Int × Int × Int × Int × Int × Int × (Val (.slice TPage))) ⊕ (Int × Int × Int × Int × Int × Int × (Val (.slice TPage)))) :=
  bif (decide (x5 < x6)) then (
    bif (inR (IntKind.wrap .i64 (x7 - (IntKind.wrap .i64 (shiftR .u64 (IntKind.wrap .u64 (IntKind.wrap .i64 (x5 + x6))) (1 : Int))))) (List.length x8)) then
    bif (inR (IntKind.wrap .i64 (shiftR .u64 (IntKind.wrap .u64 (IntKind.wrap .i64 (x5 + x6))) (1 : Int))) (List.length x8)) then
    (segment_ascending_1 (List.getD x8 (Int.toNat (IntKind.wrap .i64 (x7 - (IntKind.wrap .i64 (shiftR .u64 (IntKind.wrap .u64 (IntKind.wrap .i64 (x5 + x6))) (1 : Int)))))) ((0 : Int), ((0 : Int), ((List.replicate 7 (0 : Int)), ())))) (List.getD x8 (Int.toNat (IntKind.wrap .i64 (shiftR .u64 (IntKind.wrap .u64 (IntKind.wrap .i64 (x5 + x6))) (1 : Int)))) ((0 : Int), ((0 : Int), ((List.replicate 7 (0 : Int)), ()))))).bind fun r1 =>
    bif (!(decide (r1 < (0 : Int)))) then (
      some (Sum.inl (x0, (x1, (x2, (x3, (x4, ((IntKind.wrap .i64 ((IntKind.wrap .i64 (shiftR .u64 (IntKind.wrap .u64 (IntKind.wrap .i64 (x5 + x6))) (1 : Int))) + (1 : Int))), (x6, (x7, x8))))))))))
    else (
      some (Sum.inl (x0, (x1, (x2, (x3, (x4, (x5, ((IntKind.wrap .i64 (shiftR .u64 (IntKind.wrap .u64 (IntKind.wrap .i64 (x5 + x6))) (1 : Int))), (x7, x8))))))))))
    else none
    else none)
  else (
    some (Sum.inr (x0, (x1, (x2, (x3, (x4, (x5, x8))))))))
noncomputable def slices_symMergeCmpFunc_PageL5B : (Int × Int × Int × Int × Int × Int × Int × Int × (Val (.slice TPage))) → Option ((Int × Int × Int × Int × Int × Int × Int × Int × (Val (.slice TPage))) ⊕ (Int × Int × Int × Int × Int × Int × (Val (.slice TPage)))) := fun y => slices_symMergeCmpFunc_PageL5b y.1 y.2.1 y.2.2.1 y.2.2.2.1 y.2.2.2.2.1 y.2.2.2.2.2.1 y.2.2.2.2.2.2.1 y.2.2.2.2.2.2.2.1 y.2.2.2.2.2.2.2.2
noncomputable def slices_symMergeCmpFunc_PageL5 (x0 : Int) (x1 : Int) (x2 : Int) (x3 : Int) (x4 : Int) (x5 : Int) (x6 : Int) (x7 : Int) (x8 : Val (.slice TPage)) : Option (Int × Int × Int × Int × Int × Int × (Val (.slice TPage))) := iter slices_symMergeCmpFunc_PageL5B (x0, (x1, (x2, (x3, (x4, (x5, (x6, (x7, x8))))))))
/-- slices.symMergeCmpFunc[bodega/api.Page] -/
noncomputable def slices_symMergeCmpFunc_Pageb (rec : Int → Int → Int → (Val (.slice TPage)) → Option ((Val (.slice TPage)))) (a0 : Int) (a1 : Int) (a2 : Int) (a3 : Val (.slice TPage)) : Option ((Val (.slice TPage))) :=
  bif (decide ((IntKind.wrap .i64 (a1 - a0)) = (1 : Int))) then (
    (slices_symMergeCmpFunc_PageL1 a0 a1 a2 a3).bind fun r1 =>
    (slices_symMergeCmpFunc_PageL2 r1.2.1 r1.1 r1.2.2).bind fun r2 =>
    some r2)
  else (
    bif (decide ((IntKind.wrap .i64 (a2 - a1)) = (1 : Int))) then (
      (slices_symMergeCmpFunc_PageL3 a1 a0 a1 a3).bind fun r3 =>
      (slices_symMergeCmpFunc_PageL4 r3.2.1 r3.1 r3.2.2).bind fun r4 =>
      some r4)
    else (
      bif (decide ((IntKind.wrap .i64 (shiftR .u64 (IntKind.wrap .u64 (IntKind.wrap .i64 (a0 + a2))) (1 : Int))) < a1)) then (
        (slices_symMergeCmpFunc_PageL5 a0 a1 a2 (IntKind.wrap .i64 (shiftR .u64 (IntKind.wrap .u64 (IntKind.wrap .i64 (a0 + a2))) (1 : Int))) (IntKind.wrap .i64 ((IntKind.wrap .i64 (shiftR .u64 (IntKind.wrap .u64 (IntKind.wrap .i64 (a0 + a2))) (1 : Int))) + a1)) (IntKind.wrap .i64 ((IntKind.wrap .i64 ((IntKind.wrap .i64 (shiftR .u64 (IntKind.wrap .u64 (IntKind.wrap .i64 (a0 + a2))) (1 : Int))) + a1)) - a2)) (IntKind.wrap .i64 (shiftR .u64 (IntKind.wrap .u64 (IntKind.wrap .i64 (a0 + a2))) (1 : Int))) (IntKind.wrap .i64 ((IntKind.wrap .i64 ((IntKind.wrap .i64 (shiftR .u64 (IntKind.wrap .u64 (IntKind.wrap .i64 (a0 + a2))) (1 : Int))) + a1)) - (1 : Int))) a3).bind fun r5 =>
        bif (decide (r5.2.2.2.2.2.1 < r5.2.1)) then (
          bif (decide (r5.2.1 < (IntKind.wrap .i64 (r5.2.2.2.2.1 - r5.2.2.2.2.2.1)))) then (
            (slices_rotateCmpFunc_Page r5.2.2.2.2.2.1 r5.2.1 (IntKind.wrap .i64 (r5.2.2.2.2.1 - r5.2.2.2.2.2.1)) r5.2.2.2.2.2.2).bind fun r6 =>
            bif (decide (r5.1 < r5.2.2.2.2.2.1)) then (
              bif (decide (r5.2.2.2.2.2.1 < r5.2.2.2.1)) then (
                (rec r5.1 r5.2.2.2.2.2.1 r5.2.2.2.1 r6).bind fun r7 =>
                bif (decide (r5.2.2.2.1 < (IntKind.wrap .i64 (r5.2.2.2.2.1 - r5.2.2.2.2.2.1)))) then (
                  bif (decide ((IntKind.wrap .i64 (r5.2.2.2.2.1 - r5.2.2.2.2.2.1)) < r5.2.2.1)) then (
                    (rec r5.2.2.2.1 (IntKind.wrap .i64 (r5.2.2.2.2.1 - r5.2.2.2.2.2.1)) r5.2.2.1 r7).bind fun r8 =>
                    some r8)
                  else (
                    some r7))
                else (
                  some r7))
              else (
                bif (decide (r5.2.2.2.1 < (IntKind.wrap .i64 (r5.2.2.2.2.1 - r5.2.2.2.2.2.1)))) then (
                  bif (decide ((IntKind.wrap .i64 (r5.2.2.2.2.1 - r5.2.2.2.2.2.1)) < r5.2.2.1)) then (
                    (rec r5.2.2.2.1 (IntKind.wrap .i64 (r5.2.2.2.2.1 - r5.2.2.2.2.2.1)) r5.2.2.1 r6).bind fun r9 =>
                    some r9)
                  else (
                    some r6))
                else (
                  some r6)))
            else (
              bif (decide (r5.2.2.2.1 < (IntKind.wrap .i64 (r5.2.2.2.2.1 - r5.2.2.2.2.2.1)))) then (
                bif (decide ((IntKind.wrap .i64 (r5.2.2.2.2.1 - r5.2.2.2.2.2.1)) < r5.2.2.1)) then (
                  (rec r5.2.2.2.1 (IntKind.wrap .i64 (r5.2.2.2.2.1 - r5.2.2.2.2.2.1)) r5.2.2.1 r6).bind fun r10 =>
                  some r10)
                else (
                  some r6))
              else (
                some r6)))
          else (
            bif (decide (r5.1 < r5.2.2.2.2.2.1)) then (
              bif (decide (r5.2.2.2.2.2.1 < r5.2.2.2.1)) then (
                (rec r5.1 r5.2.2.2.2.2.1 r5.2.2.2.1 r5.2.2.2.2.2.2).bind fun r11 =>
                bif (decide (r5.2.2.2.1 < (IntKind.wrap .i64 (r5.2.2.2.2.1 - r5.2.2.2.2.2.1)))) then (
                  bif (decide ((IntKind.wrap .i64 (r5.2.2.2.2.1 - r5.2.2.2.2.2.1)) < r5.2.2.1)) then (
                    (rec r5.2.2.2.1 (IntKind.wrap .i64 (r5.2.2.2.2.1 - r5.2.2.2.2.2.1)) r5.2.2.1 r11).bind fun r12 =>
                    some r12)
                  else (
                    some r11))
                else (
                  some r11))
              else (
                bif (decide (r5.2.2.2.1 < (IntKind.wrap .i64 (r5.2.2.2.2.1 - r5.2.2.2.2.2.1)))) then (
                  bif (decide ((IntKind.wrap .i64 (r5.2.2.2.2.1 - r5.2.2.2.2.2.1)) < r5.2.2.1)) then (
                    (rec r5.2.2.2.1 (IntKind.wrap .i64 (r5.2.2.2.2.1 - r5.2.2.2.2.2.1)) r5.2.2.1 r5.2.2.2.2.2.2).bind fun r13 =>
                    some r13)
                  else (
                    some r5.2.2.2.2.2.2))
                else (
                  some r5.2.2.2.2.2.2)))
            else (
              bif (decide (r5.2.2.2.1 < (IntKind.wrap .i64 (r5.2.2.2.2.1 - r5.2.2.2.2.2.1)))) then (
                bif (decide ((IntKind.wrap .i64 (r5.2.2.2.2.1 - r5.2.2.2.2.2.1)) < r5.2.2.1)) then (
                  (rec r5.2.2.2.1 (IntKind.wrap .i64 (r5.2.2.2.2.1 - r5.2.2.2.2.2.1)) r5.2.2.1 r5.2.2.2.2.2.2).bind fun r14 =>
                  some r14)
                else (
                  some r5.2.2.2.2.2.2))
              else (
                some r5.2.2.2.2.2.2))))
        else (
          bif (decide (r5.1 < r5.2.2.2.2.2.1)) then (
            bif (decide (r5.2.2.2.2.2.1 < r5.2.2.2.1)) then (
              (rec r5.1 r5.2.2.2.2.2.1 r5.2.2.2.1 r5.2.2.2.2.2.2).bind fun r15 =>
              bif (decide (r5.2.2.2.1 < (IntKind.wrap .i64 (r5.2.2.2.2.1 - r5.2.2.2.2.2.1)))) then (
                bif (decide ((IntKind.wrap .i64 (r5.2.2.2.2.1 - r5.2.2.2.2.2.1)) < r5.2.2.1)) then (
                  (rec r5.2.2.2.1 (IntKind.wrap .i64 (r5.2.2.2.2.1 - r5.2.2.2.2.2.1)) r5.2.2.1 r15).bind fun r16 =>
                  some r16)
                else (
                  some r15))
              else (
                some r15))
            else (
              bif (decide (r5.2.2.2.1 < (IntKind.wrap .i64 (r5.2.2.2.2.1 - r5.2.2.2.2.2.1)))) then (
                bif (decide ((IntKind.wrap .i64 (r5.2.2.2.2.1 - r5.2.2.2.2.2.1)) < r5.2.2.1)) then (
                  (rec r5.2.2.2.1 (IntKind.wrap .i64 (r5.2.2.2.2.1 - r5.2.2.2.2.2.1)) r5.2.2.1 r5.2.2.2.2.2.2).bind fun r17 =>
                  some r17)
                else (
                  some r5.2.2.2.2.2.2))
              else (
                some r5.2.2.2.2.2.2)))
          else (
            bif (decide (r5.2.2.2.1 < (IntKind.wrap .i64 (r5.2.2.2.2.1 - r5.2.2.2.2.2.1)))) then (
              bif (decide ((IntKind.wrap .i64 (r5.2.2.2.2.1 - r5.2.2.2.2.2.1)) < r5.2.2.1)) then (
                (rec r5.2.2.2.1 (IntKind.wrap .i64 (r5.2.2.2.2.1 - r5.2.2.2.2.2.1)) r5.2.2.1 r5.2.2.2.2.2.2).bind fun r18 =>
                some r18)
              else (
                some r5.2.2.2.2.2.2))
            else (
              some r5.2.2.2.2.2.2))))
      else (
        (slices_symMergeCmpFunc_PageL5 a0 a1 a2 (IntKind.wrap .i64 (shiftR .u64 (IntKind.wrap .u64 (IntKind.wrap .i64 (a0 + a2))) (1 : Int))) (IntKind.wrap .i64 ((IntKind.wrap .i64 (shiftR .u64 (IntKind.wrap .u64 (IntKind.wrap .i64 (a0 + a2))) (1 : Int))) + a1)) a0 a1 (IntKind.wrap .i64 ((IntKind.wrap .i64 ((IntKind.wrap .i64 (shiftR .u64 (IntKind.wrap .u64 (IntKind.wrap .i64 (a0 + a2))) (1 : Int))) + a1)) - (1 : Int))) a3).bind fun r19 =>
        bif (decide (r19.2.2.2.2.2.1 < r19.2.1)) then (
          bif (decide (r19.2.1 < (IntKind.wrap .i64 (r19.2.2.2.2.1 - r19.2.2.2.2.2.1)))) then (
            (slices_rotateCmpFunc_Page r19.2.2.2.2.2.1 r19.2.1 (IntKind.wrap .i64 (r19.2.2.2.2.1 - r19.2.2.2.2.2.1)) r19.2.2.2.2.2.2).bind fun r20 =>
            bif (decide (r19.1 < r19.2.2.2.2.2.1)) then (
              bif (decide (r19.2.2.2.2.2.1 < r19.2.2.2.1)) then (
                (rec r19.1 r19.2.2.2.2.2.1 r19.2.2.2.1 r20).bind fun r21 =>
                bif (decide (r19.2.2.2.1 < (IntKind.wrap .i64 (r19.2.2.2.2.1 - r19.2.2.2.2.2.1)))) then (
                  bif (decide ((IntKind.wrap .i64 (r19.2.2.2.2.1 - r19.2.2.2.2.2.1)) < r19.2.2.1)) then (
                    (rec r19.2.2.2.1 (IntKind.wrap .i64 (r19.2.2.2.2.1 - r19.2.2.2.2.2.1)) r19.2.2.1 r21).bind fun r22 =>
                    some r22)
                  else (
                    some r21))
                else (
                  some r21))
              else (
                bif (decide (r19.2.2.2.1 < (IntKind.wrap .i64 (r19.2.2.2.2.1 - r19.2.2.2.2.2.1)))) then (
                  bif (decide ((IntKind.wrap .i64 (r19.2.2.2.2.1 - r19.2.2.2.2.2.1)) < r19.2.2.1)) then (
                    (rec r19.2.2.2.1 (IntKind.wrap .i64 (r19.2.2.2.2.1 - r19.2.2.2.2.2.1)) r19.2.2.1 r20).bind fun r23 =>
                    some r23)
                  else (
                    some r20))
                else (
                  some r20)))
            else (
              bif (decide (r19.2.2.2.1 < (IntKind.wrap .i64 (r19.2.2.2.2.1 - r19.2.2.2.2.2.1)))) then (
                bif (decide ((IntKind.wrap .i64 (r19.2.2.2.2.1 - r19.2.2.2.2.2.1)) < r19.2.2.1)) then (
                  (rec r19.2.2.2.1 (IntKind.wrap .i64 (r19.2.2.2.2.1 - r19.2.2.2.2.2.1)) r19.2.2.1 r20).bind fun r24 =>
                  some r24)
                else (
                  some r20))
              else (
                some r20)))
          else (
            bif (decide (r19.1 < r19.2.2.2.2.2.1)) then (
              bif (decide (r19.2.2.2.2.2.1 < r19.2.2.2.1)) then (
                (rec r19.1 r19.2.2.2.2.2.1 r19.2.2.2.1 r19.2.2.2.2.2.2).bind fun r25 =>
                bif (decide (r19.2.2.2.1 < (IntKind.wrap .i64 (r19.2.2.2.2.1 - r19.2.2.2.2.2.1)))) then (
                  bif (decide ((IntKind.wrap .i64 (r19.2.2.2.2.1 - r19.2.2.2.2.2.1)) < r19.2.2.1)) then (
                    (rec r19.2.2.2.1 (IntKind.wrap .i64 (r19.2.2.2.2.1 - r19.2.2.2.2.2.1)) r19.2.2.1 r25).bind fun r26 =>
                    some r26)
                  else (
                    some r25))
                else (
                  some r25))
              else (
                bif (decide (r19.2.2.2.1 < (IntKind.wrap .i64 (r19.2.2.2.2.1 - r19.2.2.2.2.2.1)))) then (
                  bif (decide ((IntKind.wrap .i64 (r19.2.2.2.2.1 - r19.2.2.2.2.2.1)) < r19.2.2.1)) then (
                    (rec r19.2.2.2.1 (IntKind.wrap .i64 (r19.2.2.2.2.1 - r19.2.2.2.2.2.1)) r19.2.2.1 r19.2.2.2.2.2.2).bind fun r27 =>
                    some r27)
                  else (
                    some r19.2.2.2.2.2.2))
                else (
                  some r19.2.2.2.2.2.2)))
            else (
              bif (decide (r19.2.2.2.1 < (IntKind.wrap .i64 (r19.2.2.2.2.1 - r19.2.2.2.2.2.1)))) then (
                bif (decide ((IntKind.wrap .i64 (r19.2.2.2.2.1 - r19.2.2.2.2.2.1)) < r19.2.2.1)) then (
                  (rec r19.2.2.2.1 (IntKind.wrap .i64 (r19.2.2.2.2.1 - r19.2.2.2.2.2.1)) r19.2.2.1 r19.2.2.2.2.2.2).bind fun r28 =>
                  some r28)
                else (
                  some r19.2.2.2.2.2.2))
              else (
                some r19.2.2.2.2.2.2))))
        else (
          bif (decide (r19.1 < r19.2.2.2.2.2.1)) then (
            bif (decide (r19.2.2.2.2.2.1 < r19.2.2.2.1)) then (
              (rec r19.1 r19.2.2.2.2.2.1 r19.2.2.2.1 r19.2.2.2.2.2.2).bind fun r29 =>
              bif (decide (r19.2.2.2.1 < (IntKind.wrap .i64 (r19.2.2.2.2.1 - r19.2.2.2.2.2.1)))) then (
                bif (decide ((IntKind.wrap .i64 (r19.2.2.2.2.1 - r19.2.2.2.2.2.1)) < r19.2.2.1)) then (
                  (rec r19.2.2.2.1 (IntKind.wrap .i64 (r19.2.2.2.2.1 - r19.2.2.2.2.2.1)) r19.2.2.1 r29).bind fun r30 =>
                  some r30)
                else (
                  some r29))
              else (
                some r29))
            else (
              bif (decide (r19.2.2.2.1 < (IntKind.wrap .i64 (r19.2.2.2.2.1 - r19.2.2.2.2.2.1)))) then (
                bif (decide ((IntKind.wrap .i64 (r19.2.2.2.2.1 - r19.2.2.2.2.2.1)) < r19.2.2.1)) then (
                  (rec r19.2.2.2.1 (IntKind.wrap .i64 (r19.2.2.2.2.1 - r19.2.2.2.2.2.1)) r19.2.2.1 r19.2.2.2.2.2.2).bind fun r31 =>
                  some r31)
                else (
                  some r19.2.2.2.2.2.2))
              else (
                some r19.2.2.2.2.2.2)))
          else (
            bif (decide (r19.2.2.2.1 < (IntKind.wrap .i64 (r19.2.2.2.2.1 - r19.2.2.2.2.2.1)))) then (
              bif (decide ((IntKind.wrap .i64 (r19.2.2.2.2.1 - r19.2.2.2.2.2.1)) < r19.2.2.1)) then (
                (rec r19.2.2.2.1 (IntKind.wrap .i64 (r19.2.2.2.2.1 - r19.2.2.2.2.2.1)) r19.2.2.1 r19.2.2.2.2.2.2).bind fun r32 =>
                some r32)
              else (
                some r19.2.2.2.2.2.2))
            else (
              some r19.2.2.2.2.2.2))))))
noncomputable def slices_symMergeCmpFunc_Page : Nat → Int → Int → Int → (Val (.slice TPage)) → Option ((Val (.slice TPage))) := fun n => Nat.rec (motive := fun _ => Int → Int → Int → (Val (.slice TPage)) → Option ((Val (.slice TPage)))) (fun _ _ _ _ => none) (fun _ ih => slices_symMergeCmpFunc_Pageb ih) n
noncomputable def slices_symMergeCmpFunc_PageI : Shape := { n := 220, nx := 1, sl := [(0, .own TPage 0), (1, .dat false (.int .i64)), (2, .dat false (.int .i64)), (3, .dat false (.int .i64)), (4, .fn 86 (.nil))], ob := [(0, .slc false TPage)], fix := [0], may := false }
noncomputable def slices_symMergeCmpFunc_PageO : Shape := { n := 221, nx := 1, sl := [(220, .tup (.nil))], ob := [(0, .slc false TPage)], fix := [0], may := false }
noncomputable def slices_symMergeCmpFunc_PageF (n : Nat) : (Int × Int × Int × (Val (.slice TPage))) → Option ((Val (.slice TPage))) := fun y => slices_symMergeCmpFunc_Page n y.1 y.2.1 y.2.2.1 y.2.2.2
noncomputable def slices_symMergeCmpFunc_Pagect (n : Nat) : Ctr := ctrOf slices_symMergeCmpFunc_PageI slices_symMergeCmpFunc_PageO (fun d => d) (fun d => d) (slices_symMergeCmpFunc_PageF n)
noncomputable def slices_symMergeCmpFunc_PageE (n : Nat) : Env := { tf := tfE, mt := mtE, fn := fun f => bif Nat.beq f 99 then some (slices_symMergeCmpFunc_Pagect n) else bif Nat.beq f 86 then some segment_ascending_1ct else bif Nat.beq f 111 then some slices_rotateCmpFunc_Pagect else none }
theorem slices_symMergeCmpFunc_Page_env {n : Nat} (ih : CtrOk PT 99 (slices_symMergeCmpFunc_Pagect n)) : EnvOk PT (slices_symMergeCmpFunc_PageE n) := ⟨tyE, (fun f ct h => by
  simp only [slices_symMergeCmpFunc_PageE] at h
  refine envCons (c := slices_symMergeCmpFunc_Pagect n) h ih (fun h => ?_)
  refine envCons (c := segment_ascending_1ct) h segment_ascending_1_ctr (fun h => ?_)
  refine envCons (c := slices_rotateCmpFunc_Pagect) h slices_rotateCmpFunc_Page_ctr (fun h => ?_)
  cases h), mapE⟩
noncomputable def slices_symMergeCmpFunc_PageC : Code := bodyOf Go.Proofs.Try.f99
noncomputable def slices_symMergeCmpFunc_PageL1C : Code := (loopsOf slices_symMergeCmpFunc_PageC).getD 0 .skip
noncomputable def slices_symMergeCmpFunc_PageL2C : Code := (loopsOf slices_symMergeCmpFunc_PageC).getD 1 .skip
noncomputable def slices_symMergeCmpFunc_PageL3C : Code := (loopsOf slices_symMergeCmpFunc_PageC).getD 2 .skip
noncomputable def slices_symMergeCmpFunc_PageL4C : Code := (loopsOf slices_symMergeCmpFunc_PageC).getD 3 .skip
noncomputable def slices_symMergeCmpFunc_PageL5C : Code := (loopsOf slices_symMergeCmpFunc_PageC).getD 4 .skip
noncomputable def slices_symMergeCmpFunc_PageL1S : Shape := { n := 220, nx := 1, sl := [(0, .own TPage 0), (1, .dat false (.int .i64)), (4, .fn 86 (.nil)), (10, .dat false (.int .i64)), (11, .dat false (.int .i64))], ob := [(0, .slc false TPage)], fix := [0], may := false }
noncomputable def slices_symMergeCmpFunc_PageL1O : List (Ex × Shape) := [(.exit 0, { n := 220, nx := 1, sl := [(0, .own TPage 0), (1, .dat false (.int .i64)), (10, .dat false (.int .i64))], ob := [(0, .slc false TPage)], fix := [0], may := false })]
noncomputable def slices_symMergeCmpFunc_PageL1M : Sum := loopSum (Y := Int × Int × Int × (Val (.slice TPage))) (Z := Int × Int × (Val (.slice TPage))) slices_symMergeCmpFunc_PageL1S slices_symMergeCmpFunc_PageL1O (fun d => d) (fun d => d) (iter slices_symMergeCmpFunc_PageL1B)
noncomputable def slices_symMergeCmpFunc_PageL2S : Shape := { n := 220, nx := 1, sl := [(0, .own TPage 0), (10, .dat false (.int .i64)), (13, .dat false (.int .i64))], ob := [(0, .slc false TPage)], fix := [0], may := false }
noncomputable def slices_symMergeCmpFunc_PageL2O : List (Ex × Shape) := [(.exit 2, { n := 220, nx := 1, sl := [], ob := [(0, .slc false TPage)], fix := [0], may := false })]
noncomputable def slices_symMergeCmpFunc_PageL2M : Sum := loopSum (Y := Int × Int × (Val (.slice TPage))) (Z := (Val (.slice TPage))) slices_symMergeCmpFunc_PageL2S slices_symMergeCmpFunc_PageL2O (fun d => d) (fun d => d) (iter slices_symMergeCmpFunc_PageL2B)
noncomputable def slices_symMergeCmpFunc_PageL3S : Shape := { n := 220, nx := 1, sl := [(0, .own TPage 0), (2, .dat false (.int .i64)), (4, .fn 86 (.nil)), (14, .dat false (.int .i64)), (15, .dat false (.int .i64))], ob := [(0, .slc false TPage)], fix := [0], may := false }
noncomputable def slices_symMergeCmpFunc_PageL3O : List (Ex × Shape) := [(.exit 4, { n := 220, nx := 1, sl := [(0, .own TPage 0), (2, .dat false (.int .i64)), (14, .dat false (.int .i64))], ob := [(0, .slc false TPage)], fix := [0], may := false })]
noncomputable def slices_symMergeCmpFunc_PageL3M : Sum := loopSum (Y := Int × Int × Int × (Val (.slice TPage))) (Z := Int × Int × (Val (.slice TPage))) slices_symMergeCmpFunc_PageL3S slices_symMergeCmpFunc_PageL3O (fun d => d) (fun d => d) (iter slices_symMergeCmpFunc_PageL3B)
noncomputable def slices_symMergeCmpFunc_PageL4S : Shape := { n := 220, nx := 1, sl := [(0, .own TPage 0), (14, .dat false (.int .i64)), (17, .dat false (.int .i64))], ob := [(0, .slc false TPage)], fix := [0], may := false }
noncomputable def slices_symMergeCmpFunc_PageL4O : List (Ex × Shape) := [(.exit 6, { n := 220, nx := 1, sl := [], ob := [(0, .slc false TPage)], fix := [0], may := false })]
noncomputable def slices_symMergeCmpFunc_PageL4M : Sum := loopSum (Y := Int × Int × (Val (.slice TPage))) (Z := (Val (.slice TPage))) slices_symMergeCmpFunc_PageL4S slices_symMergeCmpFunc_PageL4O (fun d => d) (fun d => d) (iter slices_symMergeCmpFunc_PageL4B)
noncomputable def slices_symMergeCmpFunc_PageL5S : Shape := { n := 220, nx := 1, sl := [(0, .own TPage 0), (1, .dat false (.int .i64)), (2, .dat false (.int .i64)), (3, .dat false (.int .i64)), (4, .fn 86 (.nil)), (18, .dat true (.int .i64)), (19, .dat true (.int .i64)), (20, .dat true (.int .i64)), (21, .dat true (.int .i64)), (22, .dat true (.int .i64))], ob := [(0, .slc false TPage)], fix := [0], may := false }
noncomputable def slices_symMergeCmpFunc_PageL5O : List (Ex × Shape) := [(.exit 8, { n := 220, nx := 1, sl := [(0, .own TPage 0), (1, .dat false (.int .i64)), (2, .dat false (.int .i64)), (3, .dat false (.int .i64)), (4, .fn 86 (.nil)), (18, .dat true (.int .i64)), (19, .dat true (.int .i64)), (20, .dat true (.int .i64))], ob := [(0, .slc false TPage)], fix := [0], may := false })]
noncomputable def slices_symMergeCmpFunc_PageL5M : Sum := loopSum (Y := Int × Int × Int × Int × Int × Int × Int × Int × (Val (.slice TPage))) (Z := Int × Int × Int × Int × Int × Int × (Val (.slice TPage))) slices_symMergeCmpFunc_PageL5S slices_symMergeCmpFunc_PageL5O (fun d => d) (fun d => d) (iter slices_symMergeCmpFunc_PageL5B)
noncomputable def slices_symMergeCmpFunc_PageH : Nat → Option Sum := fun n => bif Nat.beq n 3 then some slices_symMergeCmpFunc_PageL1M else bif Nat.beq n 9 then some slices_symMergeCmpFunc_PageL2M else bif Nat.beq n 15 then some slices_symMergeCmpFunc_PageL3M else bif Nat.beq n 21 then some slices_symMergeCmpFunc_PageL4M else bif Nat.beq n 33 then some slices_symMergeCmpFunc_PageL5M else none
theorem slices_symMergeCmpFunc_PageL1_bd (n : Nat) (y : Int × Int × Int × (Val (.slice TPage))) : @Eq (Option ((Int × Int × Int × (Val (.slice TPage))) ⊕ (Int × Int × (Val (.slice TPage))))) (exec (slices_symMergeCmpFunc_PageE n) slices_symMergeCmpFunc_PageH slices_symMergeCmpFunc_PageL1C (slices_symMergeCmpFunc_PageL1S.mk' (show slices_symMergeCmpFunc_PageL1S.D from y)) (kont (Y := Int × Int × Int × (Val (.slice TPage))) (Z := Int × Int × (Val (.slice TPage))) slices_symMergeCmpFunc_PageL1S slices_symMergeCmpFunc_PageL1O (fun d => d) (fun d => d))) (slices_symMergeCmpFunc_PageL1B y) := by kernel_rfl
theorem slices_symMergeCmpFunc_PageL1_ok {n : Nat} (ih : CtrOk PT 99 (slices_symMergeCmpFunc_Pagect n)) {w0 : World} {Jo : Io} (hfix : ∀ i b, Jo.fix i = some b → i ∈ [0]) (hmay : false = true → Jo.may) : SumOk PT w0 Jo slices_symMergeCmpFunc_PageL1M (.loop slices_symMergeCmpFunc_PageL1C) :=
  @loop_ok w0 Jo PT (slices_symMergeCmpFunc_PageE n) slices_symMergeCmpFunc_PageH (Int × Int × Int × (Val (.slice TPage))) (Int × Int × (Val (.slice TPage))) (slices_symMergeCmpFunc_Page_env ih) mixed slices_symMergeCmpFunc_PageL1C slices_symMergeCmpFunc_PageL1S slices_symMergeCmpFunc_PageL1O (fun d => d) (fun d => d) (fun d => d) (fun d => d) (fun _ => rfl) (fun _ => rfl) hfix hmay (by kernel_rfl) (noLoops (by kernel_rfl)) slices_symMergeCmpFunc_PageL1B (slices_symMergeCmpFunc_PageL1_bd n)
theorem slices_symMergeCmpFunc_PageL2_bd (n : Nat) (y : Int × Int × (Val (.slice TPage))) : @Eq (Option ((Int × Int × (Val (.slice TPage))) ⊕ ((Val (.slice TPage))))) (exec (slices_symMergeCmpFunc_PageE n) slices_symMergeCmpFunc_PageH slices_symMergeCmpFunc_PageL2C (slices_symMergeCmpFunc_PageL2S.mk' (show slices_symMergeCmpFunc_PageL2S.D from y)) (kont (Y := Int × Int × (Val (.slice TPage))) (Z := (Val (.slice TPage))) slices_symMergeCmpFunc_PageL2S slices_symMergeCmpFunc_PageL2O (fun d => d) (fun d => d))) (slices_symMergeCmpFunc_PageL2B y) := by kernel_rfl
theorem slices_symMergeCmpFunc_PageL2_ok {n : Nat} (ih : CtrOk PT 99 (slices_symMergeCmpFunc_Pagect n)) {w0 : World} {Jo : Io} (hfix : ∀ i b, Jo.fix i = some b → i ∈ [0]) (hmay : false = true → Jo.may) : SumOk PT w0 Jo slices_symMergeCmpFunc_PageL2M (.loop slices_symMergeCmpFunc_PageL2C) :=
  @loop_ok w0 Jo PT (slices_symMergeCmpFunc_PageE n) slices_symMergeCmpFunc_PageH (Int × Int × (Val (.slice TPage))) ((Val (.slice TPage))) (slices_symMergeCmpFunc_Page_env ih) mixed slices_symMergeCmpFunc_PageL2C slices_symMergeCmpFunc_PageL2S slices_symMergeCmpFunc_PageL2O (fun d => d) (fun d => d) (fun d => d) (fun d => d) (fun _ => rfl) (fun _ => rfl) hfix hmay (by kernel_rfl) (noLoops (by kernel_rfl)) slices_symMergeCmpFunc_PageL2B (slices_symMergeCmpFunc_PageL2_bd n)
theorem slices_symMergeCmpFunc_PageL3_bd (n : Nat) (y : Int × Int × Int × (Val (.slice TPage))) : @Eq (Option ((Int × Int × Int × (Val (.slice TPage))) ⊕ (Int × Int × (Val (.slice TPage))))) (exec (slices_symMergeCmpFunc_PageE n) slices_symMergeCmpFunc_PageH slices_symMergeCmpFunc_PageL3C (slices_symMergeCmpFunc_PageL3S.mk' (show slices_symMergeCmpFunc_PageL3S.D from y)) (kont (Y := Int × Int × Int × (Val (.slice TPage))) (Z := Int × Int × (Val (.slice TPage))) slices_symMergeCmpFunc_PageL3S slices_symMergeCmpFunc_PageL3O (fun d => d) (fun d => d))) (slices_symMergeCmpFunc_PageL3B y) := by kernel_rfl
theorem slices_symMergeCmpFunc_PageL3_ok {n : Nat} (ih : CtrOk PT 99 (slices_symMergeCmpFunc_Pagect n)) {w0 : World} {Jo : Io} (hfix : ∀ i b, Jo.fix i = some b → i ∈ [0]) (hmay : false = true → Jo.may) : SumOk PT w0 Jo slices_symMergeCmpFunc_PageL3M (.loop slices_symMergeCmpFunc_PageL3C) :=
  @loop_ok w0 Jo PT (slices_symMergeCmpFunc_PageE n) slices_symMergeCmpFunc_PageH (Int × Int × Int × (Val (.slice TPage))) (Int × Int × (Val (.slice TPage))) (slices_symMergeCmpFunc_Page_env ih) mixed slices_symMergeCmpFunc_PageL3C slices_symMergeCmpFunc_PageL3S slices_symMergeCmpFunc_PageL3O (fun d => d) (fun d => d) (fun d => d) (fun d => d) (fun _ => rfl) (fun _ => rfl) hfix hmay (by kernel_rfl) (noLoops (by kernel_rfl)) slices_symMergeCmpFunc_PageL3B (slices_symMergeCmpFunc_PageL3_bd n)
theorem slices_symMergeCmpFunc_PageL4_bd (n : Nat) (y : Int × Int × (Val (.slice TPage))) : @Eq (Option ((Int × Int × (Val (.slice TPage))) ⊕ ((Val (.slice TPage))))) (exec (slices_symMergeCmpFunc_PageE n) slices_symMergeCmpFunc_PageH slices_symMergeCmpFunc_PageL4C (slices_symMergeCmpFunc_PageL4S.mk' (show slices_symMergeCmpFunc_PageL4S.D from y)) (kont (Y := Int × Int × (Val (.slice TPage))) (Z := (Val (.slice TPage))) slices_symMergeCmpFunc_PageL4S slices_symMergeCmpFunc_PageL4O (fun d => d) (fun d => d))) (slices_symMergeCmpFunc_PageL4B y) := by kernel_rfl
theorem slices_symMergeCmpFunc_PageL4_ok {n : Nat} (ih : CtrOk PT 99 (slices_symMergeCmpFunc_Pagect n)) {w0 : World} {Jo : Io} (hfix : ∀ i b, Jo.fix i = some b → i ∈ [0]) (hmay : false = true → Jo.may) : SumOk PT w0 Jo slices_symMergeCmpFunc_PageL4M (.loop slices_symMergeCmpFunc_PageL4C) :=
  @loop_ok w0 Jo PT (slices_symMergeCmpFunc_PageE n) slices_symMergeCmpFunc_PageH (Int × Int × (Val (.slice TPage))) ((Val (.slice TPage))) (slices_symMergeCmpFunc_Page_env ih) mixed slices_symMergeCmpFunc_PageL4C slices_symMergeCmpFunc_PageL4S slices_symMergeCmpFunc_PageL4O (fun d => d) (fun d => d) (fun d => d) (fun d => d) (fun _ => rfl) (fun _ => rfl) hfix hmay (by kernel_rfl) (noLoops (by kernel_rfl)) slices_symMergeCmpFunc_PageL4B (slices_symMergeCmpFunc_PageL4_bd n)
theorem slices_symMergeCmpFunc_PageL5_bd (n : Nat) (y : Int × Int × Int × Int × Int × Int × Int × Int × (Val (.slice TPage))) : @Eq (Option ((Int × Int × Int × Int × Int × Int × Int × Int × (Val (.slice TPage))) ⊕ (Int × Int × Int × Int × Int × Int × (Val (.slice TPage))))) (exec (slices_symMergeCmpFunc_PageE n) slices_symMergeCmpFunc_PageH slices_symMergeCmpFunc_PageL5C (slices_symMergeCmpFunc_PageL5S.mk' (show slices_symMergeCmpFunc_PageL5S.D from y)) (kont (Y := Int × Int × Int × Int × Int × Int × Int × Int × (Val (.slice TPage))) (Z := Int × Int × Int × Int × Int × Int × (Val (.slice TPage))) slices_symMergeCmpFunc_PageL5S slices_symMergeCmpFunc_PageL5O (fun d => d) (fun d => d))) (slices_symMergeCmpFunc_PageL5B y) := by kernel_rfl
theorem slices_symMergeCmpFunc_PageL5_ok {n : Nat} (ih : CtrOk PT 99 (slices_symMergeCmpFunc_Pagect n)) {w0 : World} {Jo : Io} (hfix : ∀ i b, Jo.fix i = some b → i ∈ [0]) (hmay : false = true → Jo.may) : SumOk PT w0 Jo slices_symMergeCmpFunc_PageL5M (.loop slices_symMergeCmpFunc_PageL5C) :=
  @loop_ok w0 Jo PT (slices_symMergeCmpFunc_PageE n) slices_symMergeCmpFunc_PageH (Int × Int × Int × Int × Int × Int × Int × Int × (Val (.slice TPage))) (Int × Int × Int × Int × Int × Int × (Val (.slice TPage))) (slices_symMergeCmpFunc_Page_env ih) mixed slices_symMergeCmpFunc_PageL5C slices_symMergeCmpFunc_PageL5S slices_symMergeCmpFunc_PageL5O (fun d => d) (fun d => d) (fun d => d) (fun d => d) (fun _ => rfl) (fun _ => rfl) hfix hmay (by kernel_rfl) (noLoops (by kernel_rfl)) slices_symMergeCmpFunc_PageL5B (slices_symMergeCmpFunc_PageL5_bd n)
theorem slices_symMergeCmpFunc_Page_bd (n : Nat) (y : Int × Int × Int × (Val (.slice TPage))) : @Eq (Option ((Val (.slice TPage)))) (exec (slices_symMergeCmpFunc_PageE n) slices_symMergeCmpFunc_PageH slices_symMergeCmpFunc_PageC (slices_symMergeCmpFunc_PageI.mk' (show slices_symMergeCmpFunc_PageI.D from y)) (kontF (Z := (Val (.slice TPage))) (slices_symMergeCmpFunc_PageE n) Go.Proofs.Try.f99.results.toList slices_symMergeCmpFunc_PageO (fun d => d))) ((slices_symMergeCmpFunc_PageF (n + 1)) y) := by kernel_rfl
theorem slices_symMergeCmpFunc_Page_lo {n : Nat} (ih : CtrOk PT 99 (slices_symMergeCmpFunc_Pagect n)) {w0 : World} {Jo : Io} (hfix : ∀ i b, Jo.fix i = some b → i ∈ [0]) (hmay : false = true → Jo.may) : LoopsOk PT w0 Jo slices_symMergeCmpFunc_PageH slices_symMergeCmpFunc_PageC := (loopsMk (by kernel_rfl) (loopsCons (c := slices_symMergeCmpFunc_PageL1C) (n := 3) (f := slices_symMergeCmpFunc_PageL1M) (by kernel_rfl) (by kernel_rfl) (slices_symMergeCmpFunc_PageL1_ok ih hfix hmay) (loopsCons (c := slices_symMergeCmpFunc_PageL2C) (n := 9) (f := slices_symMergeCmpFunc_PageL2M) (by kernel_rfl) (by kernel_rfl) (slices_symMergeCmpFunc_PageL2_ok ih hfix hmay) (loopsCons (c := slices_symMergeCmpFunc_PageL3C) (n := 15) (f := slices_symMergeCmpFunc_PageL3M) (by kernel_rfl) (by kernel_rfl) (slices_symMergeCmpFunc_PageL3_ok ih hfix hmay) (loopsCons (c := slices_symMergeCmpFunc_PageL4C) (n := 21) (f := slices_symMergeCmpFunc_PageL4M) (by kernel_rfl) (by kernel_rfl) (slices_symMergeCmpFunc_PageL4_ok ih hfix hmay) (loopsCons (c := slices_symMergeCmpFunc_PageL5C) (n := 33) (f := slices_symMergeCmpFunc_PageL5M) (by kernel_rfl) (by kernel_rfl) (slices_symMergeCmpFunc_PageL5_ok ih hfix hmay) loopsNil))))))
theorem slices_symMergeCmpFunc_Page_ctr : ∀ n, CtrOk PT 99 (slices_symMergeCmpFunc_Pagect n)
  | 0 => ctr_none (enters_of (by kernel_rfl : PT.funcs[99]? = some Go.Proofs.Try.f99) (by kernel_rfl) (by kernel_rfl))
  | n + 1 => have ih := slices_symMergeCmpFunc_Page_ctr n
    @ctr_ok PT (slices_symMergeCmpFunc_PageE n) slices_symMergeCmpFunc_PageH (slices_symMergeCmpFunc_Page_env ih) mixed 99 Go.Proofs.Try.f99 slices_symMergeCmpFunc_PageC (by kernel_rfl) (by kernel_rfl) (enters_of (by kernel_rfl : PT.funcs[99]? = some Go.Proofs.Try.f99) (by kernel_rfl) (by kernel_rfl)) slices_symMergeCmpFunc_PageI slices_symMergeCmpFunc_PageO (Int × Int × Int × (Val (.slice TPage))) ((Val (.slice TPage))) (fun d => d) (fun d => d) (fun d => d) (fun d => d) (fun _ => rfl) (fun _ => rfl) (by kernel_rfl) (by kernel_rfl) (slices_symMergeCmpFunc_PageF (n + 1)) (slices_symMergeCmpFunc_Page_bd n) (fun w0 Jo hfix hmay => slices_symMergeCmpFunc_Page_lo ih hfix hmay)

noncomputable def slices_stableCmpFunc_PageL1b (x0 : Int) (x1 : Int) (x2 : Int) (x3 : Int) (x4 : Val (.slice TPage)) : Option ((Int × Int × Int × Int × (Val (.slice TPage))) ⊕ (Int × Int × Int × (Val (.slice TPage)))) :=
  bif (decide (x3 ≤ x0)) then (
    (slices_insertionSortCmpFunc_Page x2 x3 x4).bind fun r1 =>
    some (Sum.inl (x0, (x1, (x3, ((IntKind.wrap .i64 (x3 + x1)), r1))))))
  else (
    some (Sum.inr (x0, (x1, (x2, x4)))))
noncomputable def slices_stableCmpFunc_PageL1B : (Int × Int × Int × Int × (Val (.slice TPage))) → Option ((Int × Int × Int × Int × (Val (.slice TPage))) ⊕ (Int × Int × Int × (Val (.slice TPage)))) := fun y => slices_stableCmpFunc_PageL1b y.1 y.2.1 y.2.2.1 y.2.2.2.1 y.2.2.2.2
noncomputable def slices_stableCmpFunc_PageL1 (x0 : Int) (x1 : Int) (x2 : Int) (x3 : Int) (x4 : Val (.slice TPage)) : Option (Int × Int × Int × (Val (.slice TPage))) := iter slices_stableCmpFunc_PageL1B (x0, (x1, (x2, (x3, x4))))
noncomputable def slices_stableCmpFunc_PageL2b (x0 : Int) (x1 : Int) (x2 : Int) (x3 : Int) (x4 : Val (.slice TPage)) : Option ((Int × Int × Int × Int × (Val (.slice TPage))) ⊕ (Int × Int × Int × (Val (.slice TPage)))) :=
  bif (decide (x3 ≤ x0)) then (
    (slices_symMergeCmpFunc_Page 40 x2 (IntKind.wrap .i64 (x2 + x1)) x3 x4).bind fun r1 =>
    some (Sum.inl (x0, (x1, (x3, ((IntKind.wrap .i64 (x3 + (IntKind.wrap .i64 ((2 : Int) * x1)))), r1))))))
  else (
    some (Sum.inr (x0, (x1, (x2, x4)))))
noncomputable def slices_stableCmpFunc_PageL2B : (Int × Int × Int × Int × (Val (.slice TPage))) → Option ((Int × Int × Int × Int × (Val (.slice TPage))) ⊕ (Int × Int × Int × (Val (.slice TPage)))) := fun y => slices_stableCmpFunc_PageL2b y.1 y.2.1 y.2.2.1 y.2.2.2.1 y.2.2.2.2
noncomputable def slices_stableCmpFunc_PageL2 (x0 : Int) (x1 : Int) (x2 : Int) (x3 : Int) (x4 : Val (.slice TPage)) : Option (Int × Int × Int × (Val (.slice TPage))) := iter slices_stableCmpFunc_PageL2B (x0, (x1, (x2, (x3, x4))))
noncomputable def slices_stableCmpFunc_PageL3b (x0 : Int) (x1 : Int) (x2 : Val (.slice TPage)) : Option ((Int × Int × (Val (.slice TPage))) ⊕ ((Val (.slice TPage)))) :=
  bif (decide (x1 < x0)) then (
    (slices_stableCmpFunc_PageL2 x0 x1 (0 : Int) (IntKind.wrap .i64 ((2 : Int) * x1)) x2).bind fun r1 =>
    bif (decide ((IntKind.wrap .i64 (r1.2.2.1 + r1.2.1)) < r1.1)) then (
      (slices_symMergeCmpFunc_Page 40 r1.2.2.1 (IntKind.wrap .i64 (r1.2.2.1 + r1.2.1)) r1.1 r1.2.2.2).bind fun r2 =>
      some (Sum.inl (r1.1, ((IntKind.wrap .i64 (r1.2.1 * (2 : Int))), r2))))
    else (
      some (Sum.inl (r1.1, ((IntKind.wrap .i64 (r1.2.1 * (2 : Int))), r1.2.2.2)))))
  else (
    some (Sum.inr x2))
noncomputable def slices_stableCmpFunc_PageL3B : (Int × Int × (Val (.slice TPage))) → Option ((Int × Int × (Val (.slice TPage))) ⊕ ((Val (.slice TPage)))) := fun y => slices_stableCmpFunc_PageL3b y.1 y.2.1 y.2.2
noncomputable def slices_stableCmpFunc_PageL3 (x0 : Int) (x1 : Int) (x2 : Val (.slice TPage)) : Option ((Val (.slice TPage))) := iter slices_stableCmpFunc_PageL3B (x0, (x1, x2))
/-- slices.stableCmpFunc[bodega/api.Page] -/
noncomputable def slices_stableCmpFunc_Page (a0 : Int) (a1 : Val (.slice TPage)) : Option ((Val (.slice TPage))) :=
  (slices_stableCmpFunc_PageL1 a0 (20 : Int) (0 : Int) (20 : Int) a1).bind fun r1 =>
  (slices_insertionSortCmpFunc_Page r1.2.2.1 r1.1 r1.2.2.2).bind fun r2 =>
  (slices_stableCmpFunc_PageL3 r1.1 r1.2.1 r2).bind fun r3 =>
  some r3
noncomputable def slices_stableCmpFunc_PageI : Shape := { n := 63, nx := 1, sl := [(0, .own TPage 0), (1, .dat false (.int .i64)), (2, .fn 86 (.nil))], ob := [(0, .slc false TPage)], fix := [0], may := false }
noncomputable def slices_stableCmpFunc_PageO : Shape := { n := 64, nx := 1, sl := [(63, .tup (.nil))], ob := [(0, .slc false TPage)], fix := [0], may := false }
noncomputable def slices_stableCmpFunc_PageF : (Int × (Val (.slice TPage))) → Option ((Val (.slice TPage))) := fun y => slices_stableCmpFunc_Page y.1 y.2
noncomputable def slices_stableCmpFunc_Pagect : Ctr := ctrOf slices_stableCmpFunc_PageI slices_stableCmpFunc_PageO (fun d => d) (fun d => d) slices_stableCmpFunc_PageF
noncomputable def slices_stableCmpFunc_PageE : Env := { tf := tfE, mt := mtE, fn := fun f => bif Nat.beq f 98 then some slices_insertionSortCmpFunc_Pagect else bif Nat.beq f 99 then some (slices_symMergeCmpFunc_Pagect 40) else none }
theorem slices_stableCmpFunc_Page_env : EnvOk PT slices_stableCmpFunc_PageE := ⟨tyE, (fun f ct h => by
  simp only [slices_stableCmpFunc_PageE] at h
  refine envCons (c := slices_insertionSortCmpFunc_Pagect) h slices_insertionSortCmpFunc_Page_ctr (fun h => ?_)
  refine envCons (c := (slices_symMergeCmpFunc_Pagect 40)) h (slices_symMergeCmpFunc_Page_ctr 40) (fun h => ?_)
  cases h), mapE⟩
noncomputable def slices_stableCmpFunc_PageC : Code := bodyOf Go.Proofs.Try.f94
noncomputable def slices_stableCmpFunc_PageL1C : Code := (loopsOf slices_stableCmpFunc_PageC).getD 0 .skip
noncomputable def slices_stableCmpFunc_PageL3C : Code := (loopsOf slices_stableCmpFunc_PageC).getD 1 .skip
noncomputable def slices_stableCmpFunc_PageL2C : Code := (loopsOf slices_stableCmpFunc_PageC).getD 2 .skip
noncomputable def slices_stableCmpFunc_PageL1S : Shape := { n := 63, nx := 1, sl := [(0, .own TPage 0), (1, .dat false (.int .i64)), (2, .fn 86 (.nil)), (6, .dat true (.int .i64)), (7, .dat true (.int .i64)), (8, .dat true (.int .i64))], ob := [(0, .slc false TPage)], fix := [0], may := false }
noncomputable def slices_stableCmpFunc_PageL1O : List (Ex × Shape) := [(.exit 0, { n := 63, nx := 1, sl := [(0, .own TPage 0), (1, .dat false (.int .i64)), (2, .fn 86 (.nil)), (6, .dat true (.int .i64)), (7, .dat true (.int .i64))], ob := [(0, .slc false TPage)], fix := [0], may := false })]
noncomputable def slices_stableCmpFunc_PageL1M : Sum := loopSum (Y := Int × Int × Int × Int × (Val (.slice TPage))) (Z := Int × Int × Int × (Val (.slice TPage))) slices_stableCmpFunc_PageL1S slices_stableCmpFunc_PageL1O (fun d => d) (fun d => d) (iter slices_stableCmpFunc_PageL1B)
noncomputable def slices_stableCmpFunc_PageL2S : Shape := { n := 63, nx := 1, sl := [(0, .own TPage 0), (1, .dat false (.int .i64)), (2, .fn 86 (.nil)), (6, .dat true (.int .i64)), (7, .dat true (.int .i64)), (8, .dat true (.int .i64))], ob := [(0, .slc false TPage)], fix := [0], may := false }
noncomputable def slices_stableCmpFunc_PageL2O : List (Ex × Shape) := [(.exit 4, { n := 63, nx := 1, sl := [(0, .own TPage 0), (1, .dat false (.int .i64)), (2, .fn 86 (.nil)), (6, .dat true (.int .i64)), (7, .dat true (.int .i64))], ob := [(0, .slc false TPage)], fix := [0], may := false })]
noncomputable def slices_stableCmpFunc_PageL2M : Sum := loopSum (Y := Int × Int × Int × Int × (Val (.slice TPage))) (Z := Int × Int × Int × (Val (.slice TPage))) slices_stableCmpFunc_PageL2S slices_stableCmpFunc_PageL2O (fun d => d) (fun d => d) (iter slices_stableCmpFunc_PageL2B)
noncomputable def slices_stableCmpFunc_PageL3S : Shape := { n := 63, nx := 1, sl := [(0, .own TPage 0), (1, .dat false (.int .i64)), (2, .fn 86 (.nil)), (6, .dat true (.int .i64))], ob := [(0, .slc false TPage)], fix := [0], may := false }
noncomputable def slices_stableCmpFunc_PageL3O : List (Ex × Shape) := [(.exit 2, { n := 63, nx := 1, sl := [], ob := [(0, .slc false TPage)], fix := [0], may := false })]
noncomputable def slices_stableCmpFunc_PageL3M : Sum := loopSum (Y := Int × Int × (Val (.slice TPage))) (Z := (Val (.slice TPage))) slices_stableCmpFunc_PageL3S slices_stableCmpFunc_PageL3O (fun d => d) (fun d => d) (iter slices_stableCmpFunc_PageL3B)
noncomputable def slices_stableCmpFunc_PageH : Nat → Option Sum := fun n => bif Nat.beq n 2 then some slices_stableCmpFunc_PageL1M else bif Nat.beq n 9 then some slices_stableCmpFunc_PageL2M else bif Nat.beq n 7 then some slices_stableCmpFunc_PageL3M else none
theorem slices_stableCmpFunc_PageL1_bd (y : Int × Int × Int × Int × (Val (.slice TPage))) : @Eq (Option ((Int × Int × Int × Int × (Val (.slice TPage))) ⊕ (Int × Int × Int × (Val (.slice TPage))))) (exec slices_stableCmpFunc_PageE slices_stableCmpFunc_PageH slices_stableCmpFunc_PageL1C (slices_stableCmpFunc_PageL1S.mk' (show slices_stableCmpFunc_PageL1S.D from y)) (kont (Y := Int × Int × Int × Int × (Val (.slice TPage))) (Z := Int × Int × Int × (Val (.slice TPage))) slices_stableCmpFunc_PageL1S slices_stableCmpFunc_PageL1O (fun d => d) (fun d => d))) (slices_stableCmpFunc_PageL1B y) := by kernel_rfl
theorem slices_stableCmpFunc_PageL1_ok {w0 : World} {Jo : Io} (hfix : ∀ i b, Jo.fix i = some b → i ∈ [0]) (hmay : false = true → Jo.may) : SumOk PT w0 Jo slices_stableCmpFunc_PageL1M (.loop slices_stableCmpFunc_PageL1C) :=
  @loop_ok w0 Jo PT slices_stableCmpFunc_PageE slices_stableCmpFunc_PageH (Int × Int × Int × Int × (Val (.slice TPage))) (Int × Int × Int × (Val (.slice TPage))) slices_stableCmpFunc_Page_env mixed slices_stableCmpFunc_PageL1C slices_stableCmpFunc_PageL1S slices_stableCmpFunc_PageL1O (fun d => d) (fun d => d) (fun d => d) (fun d => d) (fun _ => rfl) (fun _ => rfl) hfix hmay (by kernel_rfl) (noLoops (by kernel_rfl)) slices_stableCmpFunc_PageL1B slices_stableCmpFunc_PageL1_bd
theorem slices_stableCmpFunc_PageL2_bd (y : Int × Int × Int × Int × (Val (.slice TPage))) : @Eq (Option ((Int × Int × Int × Int × (Val (.slice TPage))) ⊕ (Int × Int × Int × (Val (.slice TPage))))) (exec slices_stableCmpFunc_PageE slices_stableCmpFunc_PageH slices_stableCmpFunc_PageL2C (slices_stableCmpFunc_PageL2S.mk' (show slices_stableCmpFunc_PageL2S.D from y)) (kont (Y := Int × Int × Int × Int × (Val (.slice TPage))) (Z := Int × Int × Int × (Val (.slice TPage))) slices_stableCmpFunc_PageL2S slices_stableCmpFunc_PageL2O (fun d => d) (fun d => d))) (slices_stableCmpFunc_PageL2B y) := by kernel_rfl
theorem slices_stableCmpFunc_PageL2_ok {w0 : World} {Jo : Io} (hfix : ∀ i b, Jo.fix i = some b → i ∈ [0]) (hmay : false = true → Jo.may) : SumOk PT w0 Jo slices_stableCmpFunc_PageL2M (.loop slices_stableCmpFunc_PageL2C) :=
  @loop_ok w0 Jo PT slices_stableCmpFunc_PageE slices_stableCmpFunc_PageH (Int × Int × Int × Int × (Val (.slice TPage))) (Int × Int × Int × (Val (.slice TPage))) slices_stableCmpFunc_Page_env mixed slices_stableCmpFunc_PageL2C slices_stableCmpFunc_PageL2S slices_stableCmpFunc_PageL2O (fun d => d) (fun d => d) (fun d => d) (fun d => d) (fun _ => rfl) (fun _ => rfl) hfix hmay (by kernel_rfl) (noLoops (by kernel_rfl)) slices_stableCmpFunc_PageL2B slices_stableCmpFunc_PageL2_bd
theorem slices_stableCmpFunc_PageL3_bd (y : Int × Int × (Val (.slice TPage))) : @Eq (Option ((Int × Int × (Val (.slice TPage))) ⊕ ((Val (.slice TPage))))) (exec slices_stableCmpFunc_PageE slices_stableCmpFunc_PageH slices_stableCmpFunc_PageL3C (slices_stableCmpFunc_PageL3S.mk' (show slices_stableCmpFunc_PageL3S.D from y)) (kont (Y := Int × Int × (Val (.slice TPage))) (Z := (Val (.slice TPage))) slices_stableCmpFunc_PageL3S slices_stableCmpFunc_PageL3O (fun d => d) (fun d => d))) (slices_stableCmpFunc_PageL3B y) := by kernel_rfl
theorem slices_stableCmpFunc_PageL3_ok {w0 : World} {Jo : Io} (hfix : ∀ i b, Jo.fix i = some b → i ∈ [0]) (hmay : false = true → Jo.may) : SumOk PT w0 Jo slices_stableCmpFunc_PageL3M (.loop slices_stableCmpFunc_PageL3C) :=
  @loop_ok w0 Jo PT slices_stableCmpFunc_PageE slices_stableCmpFunc_PageH (Int × Int × (Val (.slice TPage))) ((Val (.slice TPage))) slices_stableCmpFunc_Page_env mixed slices_stableCmpFunc_PageL3C slices_stableCmpFunc_PageL3S slices_stableCmpFunc_PageL3O (fun d => d) (fun d => d) (fun d => d) (fun d => d) (fun _ => rfl) (fun _ => rfl) hfix hmay (by kernel_rfl) (loopsMk (by kernel_rfl) (loopsCons (c := slices_stableCmpFunc_PageL2C) (n := 9) (f := slices_stableCmpFunc_PageL2M) (by kernel_rfl) (by kernel_rfl) (slices_stableCmpFunc_PageL2_ok hfix hmay) loopsNil)) slices_stableCmpFunc_PageL3B slices_stableCmpFunc_PageL3_bd
theorem slices_stableCmpFunc_Page_bd (y : Int × (Val (.slice TPage))) : @Eq (Option ((Val (.slice TPage)))) (exec slices_stableCmpFunc_PageE slices_stableCmpFunc_PageH slices_stableCmpFunc_PageC (slices_stableCmpFunc_PageI.mk' (show slices_stableCmpFunc_PageI.D from y)) (kontF (Z := (Val (.slice TPage))) slices_stableCmpFunc_PageE Go.Proofs.Try.f94.results.toList slices_stableCmpFunc_PageO (fun d => d))) (slices_stableCmpFunc_PageF y) := by kernel_rfl
theorem slices_stableCmpFunc_Page_lo {w0 : World} {Jo : Io} (hfix : ∀ i b, Jo.fix i = some b → i ∈ [0]) (hmay : false = true → Jo.may) : LoopsOk PT w0 Jo slices_stableCmpFunc_PageH slices_stableCmpFunc_PageC := (loopsMk (by kernel_rfl) (loopsCons (c := slices_stableCmpFunc_PageL1C) (n := 2) (f := slices_stableCmpFunc_PageL1M) (by kernel_rfl) (by kernel_rfl) (slices_stableCmpFunc_PageL1_ok hfix hmay) (loopsCons (c := slices_stableCmpFunc_PageL3C) (n := 7) (f := slices_stableCmpFunc_PageL3M) (by kernel_rfl) (by kernel_rfl) (slices_stableCmpFunc_PageL3_ok hfix hmay) (loopsCons (c := slices_stableCmpFunc_PageL2C) (n := 9) (f := slices_stableCmpFunc_PageL2M) (by kernel_rfl) (by kernel_rfl) (slices_stableCmpFunc_PageL2_ok hfix hmay) loopsNil))))
theorem slices_stableCmpFunc_Page_ctr : CtrOk PT 94 slices_stableCmpFunc_Pagect :=
  @ctr_ok PT slices_stableCmpFunc_PageE slices_stableCmpFunc_PageH slices_stableCmpFunc_Page_env mixed 94 Go.Proofs.Try.f94 slices_stableCmpFunc_PageC (by kernel_rfl) (by kernel_rfl) (enters_of (by kernel_rfl : PT.funcs[94]? = some Go.Proofs.Try.f94) (by kernel_rfl) (by kernel_rfl)) slices_stableCmpFunc_PageI slices_stableCmpFunc_PageO (Int × (Val (.slice TPage))) ((Val (.slice TPage))) (fun d => d) (fun d => d) (fun d => d) (fun d => d) (fun _ => rfl) (fun _ => rfl) (by kernel_rfl) (by kernel_rfl) slices_stableCmpFunc_PageF slices_stableCmpFunc_Page_bd (fun w0 Jo hfix hmay => slices_stableCmpFunc_Page_lo hfix hmay)

/-- slices.SortStableFunc[[]bodega/api.Page,bodega/api.Page] -/
noncomputable def slices_SortStableFunc_Page (a0 : Val (.slice TPage)) : Option ((Val (.slice TPage))) :=
  (slices_stableCmpFunc_Page (((List.length a0) : Nat) : Int) a0).bind fun r1 =>
  some r1
noncomputable def slices_SortStableFunc_PageI : Shape := { n := 9, nx := 1, sl := [(0, .own TPage 0), (1, .fn 86 (.nil))], ob := [(0, .slc false TPage)], fix := [0], may := false }
noncomputable def slices_SortStableFunc_PageO : Shape := { n := 10, nx := 1, sl := [(9, .tup (.nil))], ob := [(0, .slc false TPage)], fix := [0], may := false }
noncomputable def slices_SortStableFunc_PageF : ((Val (.slice TPage))) → Option ((Val (.slice TPage))) := fun y => slices_SortStableFunc_Page y
noncomputable def slices_SortStableFunc_Pagect : Ctr := ctrOf slices_SortStableFunc_PageI slices_SortStableFunc_PageO (fun d => d) (fun d => d) slices_SortStableFunc_PageF
noncomputable def slices_SortStableFunc_PageE : Env := { tf := tfE, mt := mtE, fn := fun f => bif Nat.beq f 94 then some slices_stableCmpFunc_Pagect else none }
theorem slices_SortStableFunc_Page_env : EnvOk PT slices_SortStableFunc_PageE := ⟨tyE, (fun f ct h => by
  simp only [slices_SortStableFunc_PageE] at h
  refine envCons (c := slices_stableCmpFunc_Pagect) h slices_stableCmpFunc_Page_ctr (fun h => ?_)
  cases h), mapE⟩
noncomputable def slices_SortStableFunc_PageC : Code := bodyOf Go.Proofs.Try.f85
noncomputable def slices_SortStableFunc_PageH : Nat → Option Sum := fun n => none
theorem slices_SortStableFunc_Page_bd (y : (Val (.slice TPage))) : @Eq (Option ((Val (.slice TPage)))) (exec slices_SortStableFunc_PageE slices_SortStableFunc_PageH slices_SortStableFunc_PageC (slices_SortStableFunc_PageI.mk' (show slices_SortStableFunc_PageI.D from y)) (kontF (Z := (Val (.slice TPage))) slices_SortStableFunc_PageE Go.Proofs.Try.f85.results.toList slices_SortStableFunc_PageO (fun d => d))) (slices_SortStableFunc_PageF y) := by kernel_rfl
theorem slices_SortStableFunc_Page_lo {w0 : World} {Jo : Io} (hfix : ∀ i b, Jo.fix i = some b → i ∈ [0]) (hmay : false = true → Jo.may) : LoopsOk PT w0 Jo slices_SortStableFunc_PageH slices_SortStableFunc_PageC := (noLoops (by kernel_rfl))
theorem slices_SortStableFunc_Page_ctr : CtrOk PT 85 slices_SortStableFunc_Pagect :=
  @ctr_ok PT slices_SortStableFunc_PageE slices_SortStableFunc_PageH slices_SortStableFunc_Page_env mixed 85 Go.Proofs.Try.f85 slices_SortStableFunc_PageC (by kernel_rfl) (by kernel_rfl) (enters_of (by kernel_rfl : PT.funcs[85]? = some Go.Proofs.Try.f85) (by kernel_rfl) (by kernel_rfl)) slices_SortStableFunc_PageI slices_SortStableFunc_PageO ((Val (.slice TPage))) ((Val (.slice TPage))) (fun d => d) (fun d => d) (fun d => d) (fun d => d) (fun _ => rfl) (fun _ => rfl) (by kernel_rfl) (by kernel_rfl) slices_SortStableFunc_PageF slices_SortStableFunc_Page_bd (fun w0 Jo hfix hmay => slices_SortStableFunc_Page_lo hfix hmay)

/-- bodega/segment.ascending -/
noncomputable def segment_ascending (a0 : Val (.slice TPage)) : Option ((Val (.slice TPage))) :=
  (slices_SortStableFunc_Page a0).bind fun r1 =>
  some r1
noncomputable def segment_ascendingI : Shape := { n := 6, nx := 1, sl := [(0, .own TPage 0)], ob := [(0, .slc false TPage)], fix := [0], may := false }
noncomputable def segment_ascendingO : Shape := { n := 7, nx := 1, sl := [(6, .own TPage 0)], ob := [(0, .slc false TPage)], fix := [0], may := false }
noncomputable def segment_ascendingF : ((Val (.slice TPage))) → Option ((Val (.slice TPage))) := fun y => segment_ascending y
noncomputable def segment_ascendingct : Ctr := ctrOf segment_ascendingI segment_ascendingO (fun d => d) (fun d => d) segment_ascendingF
noncomputable def segment_ascendingE : Env := { tf := tfE, mt := mtE, fn := fun f => bif Nat.beq f 85 then some slices_SortStableFunc_Pagect else none }
theorem segment_ascending_env : EnvOk PT segment_ascendingE := ⟨tyE, (fun f ct h => by
  simp only [segment_ascendingE] at h
  refine envCons (c := slices_SortStableFunc_Pagect) h slices_SortStableFunc_Page_ctr (fun h => ?_)
  cases h), mapE⟩
noncomputable def segment_ascendingC : Code := bodyOf Go.Proofs.Try.f62
noncomputable def segment_ascendingH : Nat → Option Sum := fun n => none
theorem segment_ascending_bd (y : (Val (.slice TPage))) : @Eq (Option ((Val (.slice TPage)))) (exec segment_ascendingE segment_ascendingH segment_ascendingC (segment_ascendingI.mk' (show segment_ascendingI.D from y)) (kontF (Z := (Val (.slice TPage))) segment_ascendingE Go.Proofs.Try.f62.results.toList segment_ascendingO (fun d => d))) (segment_ascendingF y) := by kernel_rfl
theorem segment_ascending_lo {w0 : World} {Jo : Io} (hfix : ∀ i b, Jo.fix i = some b → i ∈ [0]) (hmay : false = true → Jo.may) : LoopsOk PT w0 Jo segment_ascendingH segment_ascendingC := (noLoops (by kernel_rfl))
theorem segment_ascending_ctr : CtrOk PT 62 segment_ascendingct :=
  @ctr_ok PT segment_ascendingE segment_ascendingH segment_ascending_env mixed 62 Go.Proofs.Try.f62 segment_ascendingC (by kernel_rfl) (by kernel_rfl) (enters_of (by kernel_rfl : PT.funcs[62]? = some Go.Proofs.Try.f62) (by kernel_rfl) (by kernel_rfl)) segment_ascendingI segment_ascendingO ((Val (.slice TPage))) ((Val (.slice TPage))) (fun d => d) (fun d => d) (fun d => d) (fun d => d) (fun _ => rfl) (fun _ => rfl) (by kernel_rfl) (by kernel_rfl) segment_ascendingF segment_ascending_bd (fun w0 Jo hfix hmay => segment_ascending_lo hfix hmay)

/-- bodega/segment.Acquire -/
noncomputable def segment_Acquire (a0 : Val TClaim) (a1 : Val (.slice TPage)) : Option ((Val (.slice (.int .i64))) × (Val (.slice TPage)) × Int × Int × Bool) :=
  (segment_isClient a0.1).bind fun r1 =>
  bif (!r1) then (
    some ([], ([], ((0 : Int), ((1 : Int), true)))))
  else (
    bif (decide (a0.2.1 < (1 : Int))) then (
      some ([], ([], ((0 : Int), ((1 : Int), true)))))
    else (
      bif (decide ((59 : Int) < a0.2.1)) then (
        some ([], ([], ((0 : Int), ((1 : Int), true)))))
      else (
        (segment_isSize a0.2.2.1).bind fun r2 =>
        bif (!r2) then (
          some ([], ([], ((0 : Int), ((1 : Int), true)))))
        else (
          bif (decide (a0.2.2.2.1 < (-1 : Int))) then (
            some ([], ([], ((0 : Int), ((1 : Int), true)))))
          else (
            bif (decide ((6 : Int) ≤ a0.2.2.2.1)) then (
              some ([], ([], ((0 : Int), ((1 : Int), true)))))
            else (
              bif (decide (a0.2.2.2.1 = a0.1)) then (
                some ([], ([], ((0 : Int), ((1 : Int), true)))))
              else (
                bif (!(decide (a0.2.2.2.1 = (-1 : Int)))) then (
                  (segment_missing a1 ([(IntKind.wrap .i64 ((98 : Int) + a0.1))] ++ [(IntKind.wrap .i64 ((98 : Int) + a0.2.2.2.1))])).bind fun r3 =>
                  bif (decide ((0 : Int) < (((List.length r3) : Nat) : Int))) then (
                    some (r3, ([], ((0 : Int), ((0 : Int), false)))))
                  else (
                    (segment_node a1 a0.1).bind fun r4 =>
                    bif (!(decide (r4.2.2.2 = (0 : Int)))) then (
                      some ([], ([], ((0 : Int), (r4.2.2.2, true)))))
                    else (
                      bif (!(decide (a0.2.2.2.1 = (-1 : Int)))) then (
                        (segment_node a1 a0.2.2.2.1).bind fun r5 =>
                        bif (!(decide (r5.2.2.2 = (0 : Int)))) then (
                          some ([], ([], ((0 : Int), (r5.2.2.2, true)))))
                        else (
                          (segment_Count a0.2.2.1).bind fun r6 =>
                          bif (decide (a0.2.2.2.1 = (-1 : Int))) then (
                            (segment_owned (511 : Int) r6).bind fun r7 =>
                            (segment_headerLines r7).bind fun r8 =>
                            (segment_missing a1 r8).bind fun r9 =>
                            bif (decide ((0 : Int) < (((List.length r9) : Nat) : Int))) then (
                              some (r9, ([], ((0 : Int), ((0 : Int), false)))))
                            else (
                              (segment_unowned a1 a0.1 r6).bind fun r10 =>
                              bif (!r10.2) then (
                                some ([], ([], ((0 : Int), ((12 : Int), true)))))
                              else (
                                (segment_header a1 r10.1).bind fun r11 =>
                                bif (!r11.2.2.1) then (
                                  (segment_HeaderLine r10.1).bind fun r12 =>
                                  some ([r12], ([], ((0 : Int), ((0 : Int), false)))))
                                else (
                                  bif (!(decide (r11.2.2.2 = (0 : Int)))) then (
                                    some ([], ([], ((0 : Int), (r11.2.2.2, true)))))
                                  else (
                                    bif (!(decide (r11.2.1.1 = a0.2.2.2.1))) then (
                                      some ([], ([], ((0 : Int), ((11 : Int), true)))))
                                    else (
                                      bif (decide ((0 : Int) ≤ (IntKind.wrap .u64 r10.1))) then
                                      (segment_WriteNode r4.1 (r4.2.1.1, (r4.2.1.2.1, ((IntKind.wrap .u32 ((BitVec.ofInt (IntKind.bits .u32) r4.2.1.2.2.1 ||| BitVec.ofInt (IntKind.bits .u32) (shiftL .u32 (1 : Int) (IntKind.wrap .u64 r10.1))).toNat : Int)), (a0.2.1, r4.2.1.2.2.2.2))))).bind fun r13 =>
                                      (segment_WriteHeader r11.1 (a0.1, r11.2.1.2)).bind fun r14 =>
                                      bif (!(decide (a0.2.2.2.1 = (-1 : Int)))) then (
                                        bif (decide ((0 : Int) ≤ (IntKind.wrap .u64 r10.1))) then
                                        (segment_WriteNode r5.1 (r5.2.1.1, (r5.2.1.2.1, ((IntKind.wrap .u32 ((BitVec.ofInt (IntKind.bits .u32) r5.2.1.2.2.1 &&& ~~~ BitVec.ofInt (IntKind.bits .u32) (shiftL .u32 (1 : Int) (IntKind.wrap .u64 r10.1))).toNat : Int)), r5.2.1.2.2.2)))).bind fun r15 =>
                                        (segment_ascending ([r13.1, r14.1] ++ [r15.1])).bind fun r16 =>
                                        some ([], (r16, (r10.1, ((0 : Int), true))))
                                        else none)
                                      else (
                                        (segment_ascending [r13.1, r14.1]).bind fun r17 =>
                                        some ([], (r17, (r10.1, ((0 : Int), true)))))
                                      else none))))))
                          else (
                            (segment_owned r5.2.1.2.2.1 r6).bind fun r18 =>
                            bif (decide ((((List.length r18) : Nat) : Int) = (0 : Int))) then (
                              some ([], ([], ((0 : Int), ((16 : Int), true)))))
                            else (
                              bif (inR (0 : Int) (List.length r18)) then
                              (segment_header a1 (List.getD r18 0 (0 : Int))).bind fun r19 =>
                              bif (!r19.2.2.1) then (
                                (segment_HeaderLine (List.getD r18 0 (0 : Int))).bind fun r20 =>
                                some ([r20], ([], ((0 : Int), ((0 : Int), false)))))
                              else (
                                bif (!(decide (r19.2.2.2 = (0 : Int)))) then (
                                  some ([], ([], ((0 : Int), (r19.2.2.2, true)))))
                                else (
                                  bif (!(decide (r19.2.1.1 = a0.2.2.2.1))) then (
                                    some ([], ([], ((0 : Int), ((11 : Int), true)))))
                                  else (
                                    bif (decide ((0 : Int) ≤ (IntKind.wrap .u64 (List.getD r18 0 (0 : Int))))) then
                                    (segment_WriteNode r4.1 (r4.2.1.1, (r4.2.1.2.1, ((IntKind.wrap .u32 ((BitVec.ofInt (IntKind.bits .u32) r4.2.1.2.2.1 ||| BitVec.ofInt (IntKind.bits .u32) (shiftL .u32 (1 : Int) (IntKind.wrap .u64 (List.getD r18 0 (0 : Int))))).toNat : Int)), (a0.2.1, r4.2.1.2.2.2.2))))).bind fun r21 =>
                                    (segment_WriteHeader r19.1 (a0.1, r19.2.1.2)).bind fun r22 =>
                                    bif (!(decide (a0.2.2.2.1 = (-1 : Int)))) then (
                                      bif (decide ((0 : Int) ≤ (IntKind.wrap .u64 (List.getD r18 0 (0 : Int))))) then
                                      (segment_WriteNode r5.1 (r5.2.1.1, (r5.2.1.2.1, ((IntKind.wrap .u32 ((BitVec.ofInt (IntKind.bits .u32) r5.2.1.2.2.1 &&& ~~~ BitVec.ofInt (IntKind.bits .u32) (shiftL .u32 (1 : Int) (IntKind.wrap .u64 (List.getD r18 0 (0 : Int))))).toNat : Int)), r5.2.1.2.2.2)))).bind fun r23 =>
                                      (segment_ascending ([r21.1, r22.1] ++ [r23.1])).bind fun r24 =>
                                      some ([], (r24, ((List.getD r18 0 (0 : Int)), ((0 : Int), true))))
                                      else none)
                                    else (
                                      (segment_ascending [r21.1, r22.1]).bind fun r25 =>
                                      some ([], (r25, ((List.getD r18 0 (0 : Int)), ((0 : Int), true)))))
                                    else none)))
                              else none))))
                      else (
                        (segment_Count a0.2.2.1).bind fun r26 =>
                        bif (decide (a0.2.2.2.1 = (-1 : Int))) then (
                          (segment_owned (511 : Int) r26).bind fun r27 =>
                          (segment_headerLines r27).bind fun r28 =>
                          (segment_missing a1 r28).bind fun r29 =>
                          bif (decide ((0 : Int) < (((List.length r29) : Nat) : Int))) then (
                            some (r29, ([], ((0 : Int), ((0 : Int), false)))))
                          else (
                            (segment_unowned a1 a0.1 r26).bind fun r30 =>
                            bif (!r30.2) then (
                              some ([], ([], ((0 : Int), ((12 : Int), true)))))
                            else (
                              (segment_header a1 r30.1).bind fun r31 =>
                              bif (!r31.2.2.1) then (
                                (segment_HeaderLine r30.1).bind fun r32 =>
                                some ([r32], ([], ((0 : Int), ((0 : Int), false)))))
                              else (
                                bif (!(decide (r31.2.2.2 = (0 : Int)))) then (
                                  some ([], ([], ((0 : Int), (r31.2.2.2, true)))))
                                else (
                                  bif (!(decide (r31.2.1.1 = a0.2.2.2.1))) then (
                                    some ([], ([], ((0 : Int), ((11 : Int), true)))))
                                  else (
                                    bif (decide ((0 : Int) ≤ (IntKind.wrap .u64 r30.1))) then
                                    (segment_WriteNode r4.1 (r4.2.1.1, (r4.2.1.2.1, ((IntKind.wrap .u32 ((BitVec.ofInt (IntKind.bits .u32) r4.2.1.2.2.1 ||| BitVec.ofInt (IntKind.bits .u32) (shiftL .u32 (1 : Int) (IntKind.wrap .u64 r30.1))).toNat : Int)), (a0.2.1, r4.2.1.2.2.2.2))))).bind fun r33 =>
                                    (segment_WriteHeader r31.1 (a0.1, r31.2.1.2)).bind fun r34 =>
                                    bif (!(decide (a0.2.2.2.1 = (-1 : Int)))) then (
                                      bif (decide ((0 : Int) ≤ (IntKind.wrap .u64 r30.1))) then
                                      (segment_WriteNode ((0 : Int), ((0 : Int), ((List.replicate 7 (0 : Int)), ()))) (false, ((0 : Int), ((IntKind.wrap .u32 ((BitVec.ofInt (IntKind.bits .u32) (0 : Int) &&& ~~~ BitVec.ofInt (IntKind.bits .u32) (shiftL .u32 (1 : Int) (IntKind.wrap .u64 r30.1))).toNat : Int)), ((0 : Int), ((List.replicate 4 (((0 : Int), ((0 : Int), ())), ((0 : Int), ()))), ())))))).bind fun r35 =>
                                      (segment_ascending ([r33.1, r34.1] ++ [r35.1])).bind fun r36 =>
                                      some ([], (r36, (r30.1, ((0 : Int), true))))
                                      else none)
                                    else (
                                      (segment_ascending [r33.1, r34.1]).bind fun r37 =>
                                      some ([], (r37, (r30.1, ((0 : Int), true)))))
                                    else none))))))
                        else (
                          (segment_owned (0 : Int) r26).bind fun r38 =>
                          bif (decide ((((List.length r38) : Nat) : Int) = (0 : Int))) then (
                            some ([], ([], ((0 : Int), ((16 : Int), true)))))
                          else (
                            bif (inR (0 : Int) (List.length r38)) then
                            (segment_header a1 (List.getD r38 0 (0 : Int))).bind fun r39 =>
                            bif (!r39.2.2.1) then (
                              (segment_HeaderLine (List.getD r38 0 (0 : Int))).bind fun r40 =>
                              some ([r40], ([], ((0 : Int), ((0 : Int), false)))))
                            else (
                              bif (!(decide (r39.2.2.2 = (0 : Int)))) then (
                                some ([], ([], ((0 : Int), (r39.2.2.2, true)))))
                              else (
                                bif (!(decide (r39.2.1.1 = a0.2.2.2.1))) then (
                                  some ([], ([], ((0 : Int), ((11 : Int), true)))))
                                else (
                                  bif (decide ((0 : Int) ≤ (IntKind.wrap .u64 (List.getD r38 0 (0 : Int))))) then
                                  (segment_WriteNode r4.1 (r4.2.1.1, (r4.2.1.2.1, ((IntKind.wrap .u32 ((BitVec.ofInt (IntKind.bits .u32) r4.2.1.2.2.1 ||| BitVec.ofInt (IntKind.bits .u32) (shiftL .u32 (1 : Int) (IntKind.wrap .u64 (List.getD r38 0 (0 : Int))))).toNat : Int)), (a0.2.1, r4.2.1.2.2.2.2))))).bind fun r41 =>
                                  (segment_WriteHeader r39.1 (a0.1, r39.2.1.2)).bind fun r42 =>
                                  bif (!(decide (a0.2.2.2.1 = (-1 : Int)))) then (
                                    bif (decide ((0 : Int) ≤ (IntKind.wrap .u64 (List.getD r38 0 (0 : Int))))) then
                                    (segment_WriteNode ((0 : Int), ((0 : Int), ((List.replicate 7 (0 : Int)), ()))) (false, ((0 : Int), ((IntKind.wrap .u32 ((BitVec.ofInt (IntKind.bits .u32) (0 : Int) &&& ~~~ BitVec.ofInt (IntKind.bits .u32) (shiftL .u32 (1 : Int) (IntKind.wrap .u64 (List.getD r38 0 (0 : Int))))).toNat : Int)), ((0 : Int), ((List.replicate 4 (((0 : Int), ((0 : Int), ())), ((0 : Int), ()))), ())))))).bind fun r43 =>
                                    (segment_ascending ([r41.1, r42.1] ++ [r43.1])).bind fun r44 =>
                                    some ([], (r44, ((List.getD r38 0 (0 : Int)), ((0 : Int), true))))
                                    else none)
                                  else (
                                    (segment_ascending [r41.1, r42.1]).bind fun r45 =>
                                    some ([], (r45, ((List.getD r38 0 (0 : Int)), ((0 : Int), true)))))
                                  else none)))
                            else none))))))
                else (
                  (segment_missing a1 [(IntKind.wrap .i64 ((98 : Int) + a0.1))]).bind fun r46 =>
                  bif (decide ((0 : Int) < (((List.length r46) : Nat) : Int))) then (
                    some (r46, ([], ((0 : Int), ((0 : Int), false)))))
                  else (
                    (segment_node a1 a0.1).bind fun r47 =>
                    bif (!(decide (r47.2.2.2 = (0 : Int)))) then (
                      some ([], ([], ((0 : Int), (r47.2.2.2, true)))))
                    else (
                      bif (!(decide (a0.2.2.2.1 = (-1 : Int)))) then (
                        (segment_node a1 a0.2.2.2.1).bind fun r48 =>
                        bif (!(decide (r48.2.2.2 = (0 : Int)))) then (
                          some ([], ([], ((0 : Int), (r48.2.2.2, true)))))
                        else (
                          (segment_Count a0.2.2.1).bind fun r49 =>
                          bif (decide (a0.2.2.2.1 = (-1 : Int))) then (
                            (segment_owned (511 : Int) r49).bind fun r50 =>
                            (segment_headerLines r50).bind fun r51 =>
                            (segment_missing a1 r51).bind fun r52 =>
                            bif (decide ((0 : Int) < (((List.length r52) : Nat) : Int))) then (
                              some (r52, ([], ((0 : Int), ((0 : Int), false)))))
                            else (
                              (segment_unowned a1 a0.1 r49).bind fun r53 =>
                              bif (!r53.2) then (
                                some ([], ([], ((0 : Int), ((12 : Int), true)))))
                              else (
                                (segment_header a1 r53.1).bind fun r54 =>
                                bif (!r54.2.2.1) then (
                                  (segment_HeaderLine r53.1).bind fun r55 =>
                                  some ([r55], ([], ((0 : Int), ((0 : Int), false)))))
                                else (
                                  bif (!(decide (r54.2.2.2 = (0 : Int)))) then (
                                    some ([], ([], ((0 : Int), (r54.2.2.2, true)))))
                                  else (
                                    bif (!(decide (r54.2.1.1 = a0.2.2.2.1))) then (
                                      some ([], ([], ((0 : Int), ((11 : Int), true)))))
                                    else (
                                      bif (decide ((0 : Int) ≤ (IntKind.wrap .u64 r53.1))) then
                                      (segment_WriteNode r47.1 (r47.2.1.1, (r47.2.1.2.1, ((IntKind.wrap .u32 ((BitVec.ofInt (IntKind.bits .u32) r47.2.1.2.2.1 ||| BitVec.ofInt (IntKind.bits .u32) (shiftL .u32 (1 : Int) (IntKind.wrap .u64 r53.1))).toNat : Int)), (a0.2.1, r47.2.1.2.2.2.2))))).bind fun r56 =>
                                      (segment_WriteHeader r54.1 (a0.1, r54.2.1.2)).bind fun r57 =>
                                      bif (!(decide (a0.2.2.2.1 = (-1 : Int)))) then (
                                        bif (decide ((0 : Int) ≤ (IntKind.wrap .u64 r53.1))) then
                                        (segment_WriteNode r48.1 (r48.2.1.1, (r48.2.1.2.1, ((IntKind.wrap .u32 ((BitVec.ofInt (IntKind.bits .u32) r48.2.1.2.2.1 &&& ~~~ BitVec.ofInt (IntKind.bits .u32) (shiftL .u32 (1 : Int) (IntKind.wrap .u64 r53.1))).toNat : Int)), r48.2.1.2.2.2)))).bind fun r58 =>
                                        (segment_ascending ([r56.1, r57.1] ++ [r58.1])).bind fun r59 =>
                                        some ([], (r59, (r53.1, ((0 : Int), true))))
                                        else none)
                                      else (
                                        (segment_ascending [r56.1, r57.1]).bind fun r60 =>
                                        some ([], (r60, (r53.1, ((0 : Int), true)))))
                                      else none))))))
                          else (
                            (segment_owned r48.2.1.2.2.1 r49).bind fun r61 =>
                            bif (decide ((((List.length r61) : Nat) : Int) = (0 : Int))) then (
                              some ([], ([], ((0 : Int), ((16 : Int), true)))))
                            else (
                              bif (inR (0 : Int) (List.length r61)) then
                              (segment_header a1 (List.getD r61 0 (0 : Int))).bind fun r62 =>
                              bif (!r62.2.2.1) then (
                                (segment_HeaderLine (List.getD r61 0 (0 : Int))).bind fun r63 =>
                                some ([r63], ([], ((0 : Int), ((0 : Int), false)))))
                              else (
                                bif (!(decide (r62.2.2.2 = (0 : Int)))) then (
                                  some ([], ([], ((0 : Int), (r62.2.2.2, true)))))
                                else (
                                  bif (!(decide (r62.2.1.1 = a0.2.2.2.1))) then (
                                    some ([], ([], ((0 : Int), ((11 : Int), true)))))
                                  else (
                                    bif (decide ((0 : Int) ≤ (IntKind.wrap .u64 (List.getD r61 0 (0 : Int))))) then
                                    (segment_WriteNode r47.1 (r47.2.1.1, (r47.2.1.2.1, ((IntKind.wrap .u32 ((BitVec.ofInt (IntKind.bits .u32) r47.2.1.2.2.1 ||| BitVec.ofInt (IntKind.bits .u32) (shiftL .u32 (1 : Int) (IntKind.wrap .u64 (List.getD r61 0 (0 : Int))))).toNat : Int)), (a0.2.1, r47.2.1.2.2.2.2))))).bind fun r64 =>
                                    (segment_WriteHeader r62.1 (a0.1, r62.2.1.2)).bind fun r65 =>
                                    bif (!(decide (a0.2.2.2.1 = (-1 : Int)))) then (
                                      bif (decide ((0 : Int) ≤ (IntKind.wrap .u64 (List.getD r61 0 (0 : Int))))) then
                                      (segment_WriteNode r48.1 (r48.2.1.1, (r48.2.1.2.1, ((IntKind.wrap .u32 ((BitVec.ofInt (IntKind.bits .u32) r48.2.1.2.2.1 &&& ~~~ BitVec.ofInt (IntKind.bits .u32) (shiftL .u32 (1 : Int) (IntKind.wrap .u64 (List.getD r61 0 (0 : Int))))).toNat : Int)), r48.2.1.2.2.2)))).bind fun r66 =>
                                      (segment_ascending ([r64.1, r65.1] ++ [r66.1])).bind fun r67 =>
                                      some ([], (r67, ((List.getD r61 0 (0 : Int)), ((0 : Int), true))))
                                      else none)
                                    else (
                                      (segment_ascending [r64.1, r65.1]).bind fun r68 =>
                                      some ([], (r68, ((List.getD r61 0 (0 : Int)), ((0 : Int), true)))))
                                    else none)))
                              else none))))
                      else (
                        (segment_Count a0.2.2.1).bind fun r69 =>
                        bif (decide (a0.2.2.2.1 = (-1 : Int))) then (
                          (segment_owned (511 : Int) r69).bind fun r70 =>
                          (segment_headerLines r70).bind fun r71 =>
                          (segment_missing a1 r71).bind fun r72 =>
                          bif (decide ((0 : Int) < (((List.length r72) : Nat) : Int))) then (
                            some (r72, ([], ((0 : Int), ((0 : Int), false)))))
                          else (
                            (segment_unowned a1 a0.1 r69).bind fun r73 =>
                            bif (!r73.2) then (
                              some ([], ([], ((0 : Int), ((12 : Int), true)))))
                            else (
                              (segment_header a1 r73.1).bind fun r74 =>
                              bif (!r74.2.2.1) then (
                                (segment_HeaderLine r73.1).bind fun r75 =>
                                some ([r75], ([], ((0 : Int), ((0 : Int), false)))))
                              else (
                                bif (!(decide (r74.2.2.2 = (0 : Int)))) then (
                                  some ([], ([], ((0 : Int), (r74.2.2.2, true)))))
                                else (
                                  bif (!(decide (r74.2.1.1 = a0.2.2.2.1))) then (
                                    some ([], ([], ((0 : Int), ((11 : Int), true)))))
                                  else (
                                    bif (decide ((0 : Int) ≤ (IntKind.wrap .u64 r73.1))) then
                                    (segment_WriteNode r47.1 (r47.2.1.1, (r47.2.1.2.1, ((IntKind.wrap .u32 ((BitVec.ofInt (IntKind.bits .u32) r47.2.1.2.2.1 ||| BitVec.ofInt (IntKind.bits .u32) (shiftL .u32 (1 : Int) (IntKind.wrap .u64 r73.1))).toNat : Int)), (a0.2.1, r47.2.1.2.2.2.2))))).bind fun r76 =>
                                    (segment_WriteHeader r74.1 (a0.1, r74.2.1.2)).bind fun r77 =>
                                    bif (!(decide (a0.2.2.2.1 = (-1 : Int)))) then (
                                      bif (decide ((0 : Int) ≤ (IntKind.wrap .u64 r73.1))) then
                                      (segment_WriteNode ((0 : Int), ((0 : Int), ((List.replicate 7 (0 : Int)), ()))) (false, ((0 : Int), ((IntKind.wrap .u32 ((BitVec.ofInt (IntKind.bits .u32) (0 : Int) &&& ~~~ BitVec.ofInt (IntKind.bits .u32) (shiftL .u32 (1 : Int) (IntKind.wrap .u64 r73.1))).toNat : Int)), ((0 : Int), ((List.replicate 4 (((0 : Int), ((0 : Int), ())), ((0 : Int), ()))), ())))))).bind fun r78 =>
                                      (segment_ascending ([r76.1, r77.1] ++ [r78.1])).bind fun r79 =>
                                      some ([], (r79, (r73.1, ((0 : Int), true))))
                                      else none)
                                    else (
                                      (segment_ascending [r76.1, r77.1]).bind fun r80 =>
                                      some ([], (r80, (r73.1, ((0 : Int), true)))))
                                    else none))))))
                        else (
                          (segment_owned (0 : Int) r69).bind fun r81 =>
                          bif (decide ((((List.length r81) : Nat) : Int) = (0 : Int))) then (
                            some ([], ([], ((0 : Int), ((16 : Int), true)))))
                          else (
                            bif (inR (0 : Int) (List.length r81)) then
                            (segment_header a1 (List.getD r81 0 (0 : Int))).bind fun r82 =>
                            bif (!r82.2.2.1) then (
                              (segment_HeaderLine (List.getD r81 0 (0 : Int))).bind fun r83 =>
                              some ([r83], ([], ((0 : Int), ((0 : Int), false)))))
                            else (
                              bif (!(decide (r82.2.2.2 = (0 : Int)))) then (
                                some ([], ([], ((0 : Int), (r82.2.2.2, true)))))
                              else (
                                bif (!(decide (r82.2.1.1 = a0.2.2.2.1))) then (
                                  some ([], ([], ((0 : Int), ((11 : Int), true)))))
                                else (
                                  bif (decide ((0 : Int) ≤ (IntKind.wrap .u64 (List.getD r81 0 (0 : Int))))) then
                                  (segment_WriteNode r47.1 (r47.2.1.1, (r47.2.1.2.1, ((IntKind.wrap .u32 ((BitVec.ofInt (IntKind.bits .u32) r47.2.1.2.2.1 ||| BitVec.ofInt (IntKind.bits .u32) (shiftL .u32 (1 : Int) (IntKind.wrap .u64 (List.getD r81 0 (0 : Int))))).toNat : Int)), (a0.2.1, r47.2.1.2.2.2.2))))).bind fun r84 =>
                                  (segment_WriteHeader r82.1 (a0.1, r82.2.1.2)).bind fun r85 =>
                                  bif (!(decide (a0.2.2.2.1 = (-1 : Int)))) then (
                                    bif (decide ((0 : Int) ≤ (IntKind.wrap .u64 (List.getD r81 0 (0 : Int))))) then
                                    (segment_WriteNode ((0 : Int), ((0 : Int), ((List.replicate 7 (0 : Int)), ()))) (false, ((0 : Int), ((IntKind.wrap .u32 ((BitVec.ofInt (IntKind.bits .u32) (0 : Int) &&& ~~~ BitVec.ofInt (IntKind.bits .u32) (shiftL .u32 (1 : Int) (IntKind.wrap .u64 (List.getD r81 0 (0 : Int))))).toNat : Int)), ((0 : Int), ((List.replicate 4 (((0 : Int), ((0 : Int), ())), ((0 : Int), ()))), ())))))).bind fun r86 =>
                                    (segment_ascending ([r84.1, r85.1] ++ [r86.1])).bind fun r87 =>
                                    some ([], (r87, ((List.getD r81 0 (0 : Int)), ((0 : Int), true))))
                                    else none)
                                  else (
                                    (segment_ascending [r84.1, r85.1]).bind fun r88 =>
                                    some ([], (r88, ((List.getD r81 0 (0 : Int)), ((0 : Int), true)))))
                                  else none)))
                            else none)))))))))))))
noncomputable def segment_AcquireI : Shape := { n := 215, nx := 0, sl := [(0, .dat false TClaim), (1, .dat false (.slice TPage))], ob := [], fix := [], may := true }
noncomputable def segment_AcquireO : Shape := { n := 216, nx := 0, sl := [(215, .tup (.cons (.dat true (.slice (.int .i64))) (.cons (.dat true (.slice TPage)) (.cons (.dat true (.int .i64)) (.cons (.dat true (.int .i64)) (.cons (.dat true .bool) (.nil)))))))], ob := [], fix := [], may := true }
noncomputable def segment_AcquireF : ((Val TClaim) × (Val (.slice TPage))) → Option ((Val (.slice (.int .i64))) × (Val (.slice TPage)) × Int × Int × Bool) := fun y => segment_Acquire y.1 y.2
noncomputable def segment_Acquirect : Ctr := ctrOf segment_AcquireI segment_AcquireO (fun d => d) (fun d => d) segment_AcquireF
noncomputable def segment_AcquireE : Env := { tf := tfE, mt := mtE, fn := fun f => bif Nat.beq f 63 then some segment_isClientct else bif Nat.beq f 60 then some segment_isSizect else bif Nat.beq f 64 then some segment_missingct else bif Nat.beq f 65 then some segment_nodect else bif Nat.beq f 34 then some segment_Countct else bif Nat.beq f 67 then some segment_ownedct else bif Nat.beq f 66 then some segment_headerLinesct else bif Nat.beq f 68 then some segment_unownedct else bif Nat.beq f 69 then some segment_headerct else bif Nat.beq f 36 then some segment_HeaderLinect else bif Nat.beq f 29 then some segment_WriteNodect else bif Nat.beq f 27 then some segment_WriteHeaderct else bif Nat.beq f 62 then some segment_ascendingct else none }
theorem segment_Acquire_env : EnvOk PT segment_AcquireE := ⟨tyE, (fun f ct h => by
  simp only [segment_AcquireE] at h
  refine envCons (c := segment_isClientct) h segment_isClient_ctr (fun h => ?_)
  refine envCons (c := segment_isSizect) h segment_isSize_ctr (fun h => ?_)
  refine envCons (c := segment_missingct) h segment_missing_ctr (fun h => ?_)
  refine envCons (c := segment_nodect) h segment_node_ctr (fun h => ?_)
  refine envCons (c := segment_Countct) h segment_Count_ctr (fun h => ?_)
  refine envCons (c := segment_ownedct) h segment_owned_ctr (fun h => ?_)
  refine envCons (c := segment_headerLinesct) h segment_headerLines_ctr (fun h => ?_)
  refine envCons (c := segment_unownedct) h segment_unowned_ctr (fun h => ?_)
  refine envCons (c := segment_headerct) h segment_header_ctr (fun h => ?_)
  refine envCons (c := segment_HeaderLinect) h segment_HeaderLine_ctr (fun h => ?_)
  refine envCons (c := segment_WriteNodect) h segment_WriteNode_ctr (fun h => ?_)
  refine envCons (c := segment_WriteHeaderct) h segment_WriteHeader_ctr (fun h => ?_)
  refine envCons (c := segment_ascendingct) h segment_ascending_ctr (fun h => ?_)
  cases h), mapE⟩
noncomputable def segment_AcquireC : Code := bodyOf Go.Proofs.Try.f42
noncomputable def segment_AcquireH : Nat → Option Sum := fun n => none
theorem segment_Acquire_bd (y : (Val TClaim) × (Val (.slice TPage))) : @Eq (Option ((Val (.slice (.int .i64))) × (Val (.slice TPage)) × Int × Int × Bool)) (exec segment_AcquireE segment_AcquireH segment_AcquireC (segment_AcquireI.mk' (show segment_AcquireI.D from y)) (kontF (Z := (Val (.slice (.int .i64))) × (Val (.slice TPage)) × Int × Int × Bool) segment_AcquireE Go.Proofs.Try.f42.results.toList segment_AcquireO (fun d => d))) (segment_AcquireF y) := by kernel_rfl
theorem segment_Acquire_lo {w0 : World} {Jo : Io} (hfix : ∀ i b, Jo.fix i = some b → i ∈ []) (hmay : true = true → Jo.may) : LoopsOk PT w0 Jo segment_AcquireH segment_AcquireC := (noLoops (by kernel_rfl))
theorem segment_Acquire_ctr : CtrOk PT 42 segment_Acquirect :=
  @ctr_ok PT segment_AcquireE segment_AcquireH segment_Acquire_env mixed 42 Go.Proofs.Try.f42 segment_AcquireC (by kernel_rfl) (by kernel_rfl) (enters_of (by kernel_rfl : PT.funcs[42]? = some Go.Proofs.Try.f42) (by kernel_rfl) (by kernel_rfl)) segment_AcquireI segment_AcquireO ((Val TClaim) × (Val (.slice TPage))) ((Val (.slice (.int .i64))) × (Val (.slice TPage)) × Int × Int × Bool) (fun d => d) (fun d => d) (fun d => d) (fun d => d) (fun _ => rfl) (fun _ => rfl) (by kernel_rfl) (by kernel_rfl) segment_AcquireF segment_Acquire_bd (fun w0 Jo hfix hmay => segment_Acquire_lo hfix hmay)

/-- bodega/bodegalaw20.awake -/
noncomputable def law20_awake  : Option Bool :=
  (heap_New (256 : Int)).bind fun r1 =>
  (segment_Acquire ((1 : Int), ((1 : Int), ((256 : Int), ((-1 : Int), ())))) []).bind fun r2 =>
  (segment_Acquire ((1 : Int), ((1 : Int), ((256 : Int), ((-1 : Int), ())))) r1.2.2.2).bind fun r3 =>
  bif (!r2.2.2.2.2) then (
    bif (decide ((((List.length r2.1) : Nat) : Int) = (1 : Int))) then (
      bif r3.2.2.2.2 then (
        bif (decide (r3.2.2.2.1 = (0 : Int))) then (
          bif (decide (r3.2.2.1 = (1 : Int))) then (
            some (decide ((((List.length r3.2.1) : Nat) : Int) = (2 : Int))))
          else (
            some false))
        else (
          some false))
      else (
        some false))
    else (
      some false))
  else (
    some false)
noncomputable def law20_awakeI : Shape := { n := 56, nx := 0, sl := [], ob := [], fix := [], may := true }
noncomputable def law20_awakeO : Shape := { n := 57, nx := 0, sl := [(56, .dat true .bool)], ob := [], fix := [], may := true }
noncomputable def law20_awakeF : Unit → Option Bool := fun y => law20_awake 
noncomputable def law20_awakect : Ctr := ctrOf law20_awakeI law20_awakeO (fun d => d) (fun d => d) law20_awakeF
noncomputable def law20_awakeE : Env := { tf := tfE, mt := mtE, fn := fun f => bif Nat.beq f 40 then some heap_Newct else bif Nat.beq f 42 then some segment_Acquirect else none }
theorem law20_awake_env : EnvOk PT law20_awakeE := ⟨tyE, (fun f ct h => by
  simp only [law20_awakeE] at h
  refine envCons (c := heap_Newct) h heap_New_ctr (fun h => ?_)
  refine envCons (c := segment_Acquirect) h segment_Acquire_ctr (fun h => ?_)
  cases h), mapE⟩
noncomputable def law20_awakeC : Code := bodyOf Go.Proofs.Try.f24
noncomputable def law20_awakeH : Nat → Option Sum := fun n => none
theorem law20_awake_bd (y : Unit) : @Eq (Option Bool) (exec law20_awakeE law20_awakeH law20_awakeC (law20_awakeI.mk' (show law20_awakeI.D from y)) (kontF (Z := Bool) law20_awakeE Go.Proofs.Try.f24.results.toList law20_awakeO (fun d => d))) (law20_awakeF y) := by kernel_rfl
theorem law20_awake_lo {w0 : World} {Jo : Io} (hfix : ∀ i b, Jo.fix i = some b → i ∈ []) (hmay : true = true → Jo.may) : LoopsOk PT w0 Jo law20_awakeH law20_awakeC := (noLoops (by kernel_rfl))
theorem law20_awake_ctr : CtrOk PT 24 law20_awakect :=
  @ctr_ok PT law20_awakeE law20_awakeH law20_awake_env mixed 24 Go.Proofs.Try.f24 law20_awakeC (by kernel_rfl) (by kernel_rfl) (enters_of (by kernel_rfl : PT.funcs[24]? = some Go.Proofs.Try.f24) (by kernel_rfl) (by kernel_rfl)) law20_awakeI law20_awakeO Unit Bool (fun d => d) (fun d => d) (fun d => d) (fun d => d) (fun _ => rfl) (fun _ => rfl) (by kernel_rfl) (by kernel_rfl) law20_awakeF law20_awake_bd (fun w0 Jo hfix hmay => law20_awake_lo hfix hmay)

end Go.Sx

set_option linter.unusedVariables false
set_option maxRecDepth 100000
namespace Go.Sx
open Go.RowKit
end Go.Sx

