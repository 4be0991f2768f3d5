/- A3: printed by a program of this session: the functions of the seat as plain functions, and that the code comes to them. -/
import Derived.Test.YteghkndbngddgaaA2
set_option linter.unusedVariables false
set_option maxRecDepth 100000
namespace Go.Sx
open Go.RowKit
noncomputable def law20_nearbyL1b (x0 : Int) (x1 : Val TPage) (x2 : Val TPage) : Option ((Int × (Val TPage) × (Val TPage)) ⊕ ((Val TPage) × (Val TPage))) :=
  bif (decide (x0 < (7 : Int))) then (
    bif (inR x0 7) then
    bif (inR x0 7) then
    bif (decide ((0 : Int) < (Int.tmod (List.getD x1.2.2.1 (Int.toNat x0) (0 : Int)) (3 : Int)))) then (
      bif (inR x0 7) then
      some (Sum.inl ((IntKind.wrap .i64 (x0 + (1 : Int))), ((x1.1, (x1.2.1, ((List.set (List.set x1.2.2.1 (Int.toNat x0) (0 : Int)) (Int.toNat x0) (IntKind.wrap .u64 ((IntKind.wrap .u64 ((IntKind.wrap .u64 ((shiftL .u64 (IntKind.wrap .u64 (Int.tdiv (List.getD x1.2.2.1 (Int.toNat x0) (0 : Int)) (3 : Int))) (32 : Int)) + (90 : Int))) + (Int.tmod (List.getD x1.2.2.1 (Int.toNat x0) (0 : Int)) (166 : Int)))) + (shiftL .u64 (IntKind.wrap .u64 ((1 : Int) + (Int.tmod (List.getD x1.2.2.1 (Int.toNat x0) (0 : Int)) (5 : Int)))) (8 : Int))))), x1.2.2.2))), x2)))
      else none)
    else (
      some (Sum.inl ((IntKind.wrap .i64 (x0 + (1 : Int))), ((x1.1, (x1.2.1, ((List.set x1.2.2.1 (Int.toNat x0) (0 : Int)), x1.2.2.2))), x2))))
    else none
    else none)
  else (
    some (Sum.inr (x1, x2)))
noncomputable def law20_nearbyL1B : (Int × (Val TPage) × (Val TPage)) → Option ((Int × (Val TPage) × (Val TPage)) ⊕ ((Val TPage) × (Val TPage))) := fun y => law20_nearbyL1b y.1 y.2.1 y.2.2
noncomputable def law20_nearbyL1 (x0 : Int) (x1 : Val TPage) (x2 : Val TPage) : Option ((Val TPage) × (Val TPage)) := iter law20_nearbyL1B (x0, (x1, x2))
/-- bodega/bodegalaw20.nearby -/
noncomputable def law20_nearby (a0 : Val TPage) (a1 : Int) : Option ((Val TPage)) :=
  (hand_Pick a1 (4 : Int)).bind fun r1 =>
  bif (decide (r1 = (1 : Int))) then (
    (hand_Pick a0.1 (20 : Int)).bind fun r2 =>
    some ((IntKind.wrap .i64 ((104 : Int) + (IntKind.wrap .i64 ((8 : Int) * r2)))), (a0.2.1, ((List.set (List.set (List.set (List.set (List.set (List.set (List.set a0.2.2.1 0 (Int.tmod (List.getD a0.2.2.1 0 (0 : Int)) (8 : Int))) 1 (IntKind.wrap .u64 ((BitVec.ofInt (IntKind.bits .u64) (Int.tmod (List.getD a0.2.2.1 1 (0 : Int)) (65536 : Int)) &&& ~~~ BitVec.ofInt (IntKind.bits .u64) (1 : Int)).toNat : Int))) 2 (0 : Int)) 3 (0 : Int)) 4 (0 : Int)) 5 (0 : Int)) 6 (IntKind.wrap .u64 (Int.tdiv (Int.tmod (List.getD (List.set (List.set a0.2.2.1 0 (Int.tmod (List.getD a0.2.2.1 0 (0 : Int)) (8 : Int))) 1 (IntKind.wrap .u64 ((BitVec.ofInt (IntKind.bits .u64) (Int.tmod (List.getD a0.2.2.1 1 (0 : Int)) (65536 : Int)) &&& ~~~ BitVec.ofInt (IntKind.bits .u64) (1 : Int)).toNat : Int))) 6 (0 : Int)) (20 : Int)) (19 : Int)))), a0.2.2.2))))
  else (
    bif (decide (r1 = (2 : Int))) then (
      (hand_Pick a0.1 (8 : Int)).bind fun r3 =>
      (law20_nearbyL1 (3 : Int) ((IntKind.wrap .i64 ((97 : Int) + r3)), (a0.2.1, ((List.set (List.set (List.set a0.2.2.1 0 (Int.tmod (List.getD a0.2.2.1 0 (0 : Int)) (8589934592 : Int))) 1 (Int.tmod (List.getD a0.2.2.1 1 (0 : Int)) (520 : Int))) 2 (Int.tmod (List.getD a0.2.2.1 2 (0 : Int)) (210 : Int))), a0.2.2.2))) ((0 : Int), ((0 : Int), ((List.replicate 7 (0 : Int)), ())))).bind fun r4 =>
      some r4.1)
    else (
      some a0))
noncomputable def law20_nearbyI : Shape := { n := 100, nx := 0, sl := [(0, .dat false TPage), (1, .dat false (.int .i64))], ob := [], fix := [], may := true }
noncomputable def law20_nearbyO : Shape := { n := 101, nx := 0, sl := [(100, .dat false TPage)], ob := [], fix := [], may := true }
noncomputable def law20_nearbyF : ((Val TPage) × Int) → Option ((Val TPage)) := fun y => law20_nearby y.1 y.2
noncomputable def law20_nearbyct : Ctr := ctrOf law20_nearbyI law20_nearbyO (fun d => d) (fun d => d) law20_nearbyF
noncomputable def law20_nearbyE : Env := { tf := tfE, fn := fun f => bif Nat.beq f 10 then some hand_Pickct else none }
theorem law20_nearby_env : EnvOk PT law20_nearbyE := ⟨tyE, fun f ct h => by
  simp only [law20_nearbyE] at h
  refine envCons (c := hand_Pickct) h hand_Pick_ctr (fun h => ?_)
  cases h⟩
noncomputable def law20_nearbyC : Code := bodyOf Go.Proofs.Try.f19
noncomputable def law20_nearbyL1C : Code := (loopsOf law20_nearbyC).getD 0 .skip
noncomputable def law20_nearbyL1S : Shape := { n := 100, nx := 2, sl := [(2, .ref 0 []), (4, .ref 1 []), (5, .dat true (.int .i64))], ob := [(0, .box TPage (.dat false TPage)), (1, .box TPage (.dat true TPage))], fix := [], may := true }
noncomputable def law20_nearbyL1O : List (Ex × Shape) := [(.exit 1, { n := 100, nx := 2, sl := [(2, .ref 0 []), (4, .ref 1 [])], ob := [(0, .box TPage (.dat false TPage)), (1, .box TPage (.dat true TPage))], fix := [], may := true })]
noncomputable def law20_nearbyL1M : Sum := loopSum (Y := Int × (Val TPage) × (Val TPage)) (Z := (Val TPage) × (Val TPage)) law20_nearbyL1S law20_nearbyL1O (fun d => d) (fun d => d) (iter law20_nearbyL1B)
noncomputable def law20_nearbyH : Nat → Option Sum := fun n => bif Nat.beq n 10 then some law20_nearbyL1M else none
theorem law20_nearbyL1_bd (y : Int × (Val TPage) × (Val TPage)) : @Eq (Option ((Int × (Val TPage) × (Val TPage)) ⊕ ((Val TPage) × (Val TPage)))) (exec law20_nearbyE law20_nearbyH law20_nearbyL1C (law20_nearbyL1S.mk' (show law20_nearbyL1S.D from y)) (kont (Y := Int × (Val TPage) × (Val TPage)) (Z := (Val TPage) × (Val TPage)) law20_nearbyL1S law20_nearbyL1O (fun d => d) (fun d => d))) (law20_nearbyL1B y) := by kernel_rfl
theorem law20_nearbyL1_ok {w0 : World} {Jo : Io} (hfix : ∀ i b, Jo.fix i = some b → i ∈ []) (hmay : true = true → Jo.may) : SumOk PT w0 Jo law20_nearbyL1M (.loop law20_nearbyL1C) :=
  @loop_ok w0 Jo PT law20_nearbyE law20_nearbyH (Int × (Val TPage) × (Val TPage)) ((Val TPage) × (Val TPage)) law20_nearby_env mixed law20_nearbyL1C law20_nearbyL1S law20_nearbyL1O (fun d => d) (fun d => d) (fun d => d) (fun d => d) (fun _ => rfl) (fun _ => rfl) hfix hmay (by kernel_rfl) (noLoops (by kernel_rfl)) law20_nearbyL1B law20_nearbyL1_bd
theorem law20_nearby_bd (y : (Val TPage) × Int) : @Eq (Option ((Val TPage))) (exec law20_nearbyE law20_nearbyH law20_nearbyC (law20_nearbyI.mk' (show law20_nearbyI.D from y)) (kontF (Z := (Val TPage)) law20_nearbyE Go.Proofs.Try.f19.results.toList law20_nearbyO (fun d => d))) (law20_nearbyF y) := by kernel_rfl
theorem law20_nearby_lo {w0 : World} {Jo : Io} (hfix : ∀ i b, Jo.fix i = some b → i ∈ []) (hmay : true = true → Jo.may) : LoopsOk PT w0 Jo law20_nearbyH law20_nearbyC := (loopsMk (by kernel_rfl) (loopsCons (c := law20_nearbyL1C) (n := 10) (f := law20_nearbyL1M) (by kernel_rfl) (by kernel_rfl) (law20_nearbyL1_ok hfix hmay) loopsNil))
theorem law20_nearby_ctr : CtrOk PT 19 law20_nearbyct :=
  @ctr_ok PT law20_nearbyE law20_nearbyH law20_nearby_env mixed 19 Go.Proofs.Try.f19 law20_nearbyC (by kernel_rfl) (by kernel_rfl) (enters_of (by kernel_rfl : PT.funcs[19]? = some Go.Proofs.Try.f19) (by kernel_rfl) (by kernel_rfl)) law20_nearbyI law20_nearbyO ((Val TPage) × Int) ((Val TPage)) (fun d => d) (fun d => d) (fun d => d) (fun d => d) (fun _ => rfl) (fun _ => rfl) (by kernel_rfl) (by kernel_rfl) law20_nearbyF law20_nearby_bd (fun w0 Jo hfix hmay => law20_nearby_lo hfix hmay)

/-- bodega/bodegalaw20.SegmentRound -/
noncomputable def law20_SegmentRound (a0 : Val TPage) (a1 : Int) (a2 : Val THead) (a3 : Val TNode) : Option Bool :=
  (law20_nearby a0 a1).bind fun r1 =>
  (segment_WriteHeader r1 a2).bind fun r2 =>
  bif (decide (r2.2 = (0 : Int))) then (
    (segment_ReadHeader r2.1).bind fun r3 =>
    bif (!(decide (r3.2 = (0 : Int)))) then (
      some false)
    else (
      bif (!(eqV THead r3.1 a2)) then (
        some false)
      else (
        bif (!(decide (r2.1.1 = r1.1))) then (
          some false)
        else (
          bif (!(decide (r2.1.2.1 = r1.2.1))) then (
            some false)
          else (
            (segment_WriteNode r1 a3).bind fun r4 =>
            bif (decide (r4.2 = (0 : Int))) then (
              (segment_ReadNode r4.1).bind fun r5 =>
              bif (!(decide (r5.2 = (0 : Int)))) then (
                some false)
              else (
                bif (!(eqV TNode r5.1 a3)) then (
                  some false)
                else (
                  bif (!(decide (r4.1.1 = r1.1))) then (
                    some false)
                  else (
                    bif (!(decide (r4.1.2.1 = r1.2.1))) then (
                      some false)
                    else (
                      (law20_awake).bind fun r6 =>
                      some r6)))))
            else (
              (law20_awake).bind fun r7 =>
              some r7))))))
  else (
    (segment_WriteNode r1 a3).bind fun r8 =>
    bif (decide (r8.2 = (0 : Int))) then (
      (segment_ReadNode r8.1).bind fun r9 =>
      bif (!(decide (r9.2 = (0 : Int)))) then (
        some false)
      else (
        bif (!(eqV TNode r9.1 a3)) then (
          some false)
        else (
          bif (!(decide (r8.1.1 = r1.1))) then (
            some false)
          else (
            bif (!(decide (r8.1.2.1 = r1.2.1))) then (
              some false)
            else (
              (law20_awake).bind fun r10 =>
              some r10)))))
    else (
      (law20_awake).bind fun r11 =>
      some r11))
noncomputable def law20_SegmentRoundI : Shape := { n := 88, nx := 0, sl := [(0, .dat false TPage), (1, .dat false (.int .i64)), (2, .dat false THead), (3, .dat false TNode)], ob := [], fix := [], may := true }
noncomputable def law20_SegmentRoundO : Shape := { n := 89, nx := 0, sl := [(88, .dat true .bool)], ob := [], fix := [], may := true }
noncomputable def law20_SegmentRoundF : ((Val TPage) × Int × (Val THead) × (Val TNode)) → Option Bool := fun y => law20_SegmentRound y.1 y.2.1 y.2.2.1 y.2.2.2
noncomputable def law20_SegmentRoundct : Ctr := ctrOf law20_SegmentRoundI law20_SegmentRoundO (fun d => d) (fun d => d) law20_SegmentRoundF
noncomputable def law20_SegmentRoundE : Env := { tf := tfE, fn := fun f => bif Nat.beq f 19 then some law20_nearbyct else bif Nat.beq f 27 then some segment_WriteHeaderct else bif Nat.beq f 20 then some segment_ReadHeaderct else bif Nat.beq f 29 then some segment_WriteNodect else bif Nat.beq f 22 then some segment_ReadNodect else bif Nat.beq f 24 then some law20_awakect else none }
theorem law20_SegmentRound_env : EnvOk PT law20_SegmentRoundE := ⟨tyE, fun f ct h => by
  simp only [law20_SegmentRoundE] at h
  refine envCons (c := law20_nearbyct) h law20_nearby_ctr (fun h => ?_)
  refine envCons (c := segment_WriteHeaderct) h segment_WriteHeader_ctr (fun h => ?_)
  refine envCons (c := segment_ReadHeaderct) h segment_ReadHeader_ctr (fun h => ?_)
  refine envCons (c := segment_WriteNodect) h segment_WriteNode_ctr (fun h => ?_)
  refine envCons (c := segment_ReadNodect) h segment_ReadNode_ctr (fun h => ?_)
  refine envCons (c := law20_awakect) h law20_awake_ctr (fun h => ?_)
  cases h⟩
noncomputable def law20_SegmentRoundC : Code := bodyOf Go.Proofs.Try.f5
noncomputable def law20_SegmentRoundH : Nat → Option Sum := fun n => none
theorem law20_SegmentRound_bd (y : (Val TPage) × Int × (Val THead) × (Val TNode)) : @Eq (Option Bool) (exec law20_SegmentRoundE law20_SegmentRoundH law20_SegmentRoundC (law20_SegmentRoundI.mk' (show law20_SegmentRoundI.D from y)) (kontF (Z := Bool) law20_SegmentRoundE Go.Proofs.Try.f5.results.toList law20_SegmentRoundO (fun d => d))) (law20_SegmentRoundF y) := by kernel_rfl
theorem law20_SegmentRound_lo {w0 : World} {Jo : Io} (hfix : ∀ i b, Jo.fix i = some b → i ∈ []) (hmay : true = true → Jo.may) : LoopsOk PT w0 Jo law20_SegmentRoundH law20_SegmentRoundC := (noLoops (by kernel_rfl))
theorem law20_SegmentRound_ctr : CtrOk PT 5 law20_SegmentRoundct :=
  @ctr_ok PT law20_SegmentRoundE law20_SegmentRoundH law20_SegmentRound_env mixed 5 Go.Proofs.Try.f5 law20_SegmentRoundC (by kernel_rfl) (by kernel_rfl) (enters_of (by kernel_rfl : PT.funcs[5]? = some Go.Proofs.Try.f5) (by kernel_rfl) (by kernel_rfl)) law20_SegmentRoundI law20_SegmentRoundO ((Val TPage) × Int × (Val THead) × (Val TNode)) Bool (fun d => d) (fun d => d) (fun d => d) (fun d => d) (fun _ => rfl) (fun _ => rfl) (by kernel_rfl) (by kernel_rfl) law20_SegmentRoundF law20_SegmentRound_bd (fun w0 Jo hfix hmay => law20_SegmentRound_lo hfix hmay)

noncomputable def ref19_isHeaderL1b (x0 : Int) (x1 : Int) : Option ((Int × Int) ⊕ ((Unit) ⊕ (Bool))) :=
  bif (decide (x1 ≤ (8 : Int))) then (
    (ref19_HeaderLine x1).bind fun r1 =>
    bif (decide (x0 = r1)) then (
      some (Sum.inr (Sum.inr true)))
    else (
      some (Sum.inl (x0, (IntKind.wrap .i64 (x1 + (1 : Int)))))))
  else (
    some (Sum.inr (Sum.inl ())))
noncomputable def ref19_isHeaderL1B : (Int × Int) → Option ((Int × Int) ⊕ ((Unit) ⊕ (Bool))) := fun y => ref19_isHeaderL1b y.1 y.2
noncomputable def ref19_isHeaderL1 (x0 : Int) (x1 : Int) : Option ((Unit) ⊕ (Bool)) := iter ref19_isHeaderL1B (x0, x1)
/-- bodega/bodegaref19.isHeader -/
noncomputable def ref19_isHeader (a0 : Int) : Option Bool :=
  (ref19_isHeaderL1 a0 (0 : Int)).bind fun r1 =>
  match r1 with
  | .inl r2 => (
    some false)
  | .inr r3 => (
    some r3)
noncomputable def ref19_isHeaderI : Shape := { n := 12, nx := 0, sl := [(0, .dat false (.int .i64))], ob := [], fix := [], may := true }
noncomputable def ref19_isHeaderO : Shape := { n := 13, nx := 0, sl := [(12, .dat true .bool)], ob := [], fix := [], may := true }
noncomputable def ref19_isHeaderF : Int → Option Bool := fun y => ref19_isHeader y
noncomputable def ref19_isHeaderct : Ctr := ctrOf ref19_isHeaderI ref19_isHeaderO (fun d => d) (fun d => d) ref19_isHeaderF
noncomputable def ref19_isHeaderE : Env := { tf := tfE, fn := fun f => bif Nat.beq f 37 then some ref19_HeaderLinect else none }
theorem ref19_isHeader_env : EnvOk PT ref19_isHeaderE := ⟨tyE, fun f ct h => by
  simp only [ref19_isHeaderE] at h
  refine envCons (c := ref19_HeaderLinect) h ref19_HeaderLine_ctr (fun h => ?_)
  cases h⟩
noncomputable def ref19_isHeaderC : Code := bodyOf Go.Proofs.Try.f50
noncomputable def ref19_isHeaderL1C : Code := (loopsOf ref19_isHeaderC).getD 0 .skip
noncomputable def ref19_isHeaderL1S : Shape := { n := 12, nx := 0, sl := [(0, .dat false (.int .i64)), (3, .dat true (.int .i64))], ob := [], fix := [], may := true }
noncomputable def ref19_isHeaderL1O : List (Ex × Shape) := [(.exit 0, { n := 12, nx := 0, sl := [], ob := [], fix := [], may := true }), (.ret, { n := 12, nx := 0, sl := [(2, .dat true .bool)], ob := [], fix := [], may := true })]
noncomputable def ref19_isHeaderL1M : Sum := loopSum (Y := Int × Int) (Z := (Unit) ⊕ (Bool)) ref19_isHeaderL1S ref19_isHeaderL1O (fun d => d) (fun d => d) (iter ref19_isHeaderL1B)
noncomputable def ref19_isHeaderH : Nat → Option Sum := fun n => bif Nat.beq n 2 then some ref19_isHeaderL1M else none
theorem ref19_isHeaderL1_bd (y : Int × Int) : @Eq (Option ((Int × Int) ⊕ ((Unit) ⊕ (Bool)))) (exec ref19_isHeaderE ref19_isHeaderH ref19_isHeaderL1C (ref19_isHeaderL1S.mk' (show ref19_isHeaderL1S.D from y)) (kont (Y := Int × Int) (Z := (Unit) ⊕ (Bool)) ref19_isHeaderL1S ref19_isHeaderL1O (fun d => d) (fun d => d))) (ref19_isHeaderL1B y) := by kernel_rfl
theorem ref19_isHeaderL1_ok {w0 : World} {Jo : Io} (hfix : ∀ i b, Jo.fix i = some b → i ∈ []) (hmay : true = true → Jo.may) : SumOk PT w0 Jo ref19_isHeaderL1M (.loop ref19_isHeaderL1C) :=
  @loop_ok w0 Jo PT ref19_isHeaderE ref19_isHeaderH (Int × Int) ((Unit) ⊕ (Bool)) ref19_isHeader_env mixed ref19_isHeaderL1C ref19_isHeaderL1S ref19_isHeaderL1O (fun d => d) (fun d => d) (fun d => d) (fun d => d) (fun _ => rfl) (fun _ => rfl) hfix hmay (by kernel_rfl) (noLoops (by kernel_rfl)) ref19_isHeaderL1B ref19_isHeaderL1_bd
theorem ref19_isHeader_bd (y : Int) : @Eq (Option Bool) (exec ref19_isHeaderE ref19_isHeaderH ref19_isHeaderC (ref19_isHeaderI.mk' (show ref19_isHeaderI.D from y)) (kontF (Z := Bool) ref19_isHeaderE Go.Proofs.Try.f50.results.toList ref19_isHeaderO (fun d => d))) (ref19_isHeaderF y) := by kernel_rfl
theorem ref19_isHeader_lo {w0 : World} {Jo : Io} (hfix : ∀ i b, Jo.fix i = some b → i ∈ []) (hmay : true = true → Jo.may) : LoopsOk PT w0 Jo ref19_isHeaderH ref19_isHeaderC := (loopsMk (by kernel_rfl) (loopsCons (c := ref19_isHeaderL1C) (n := 2) (f := ref19_isHeaderL1M) (by kernel_rfl) (by kernel_rfl) (ref19_isHeaderL1_ok hfix hmay) loopsNil))
theorem ref19_isHeader_ctr : CtrOk PT 50 ref19_isHeaderct :=
  @ctr_ok PT ref19_isHeaderE ref19_isHeaderH ref19_isHeader_env mixed 50 Go.Proofs.Try.f50 ref19_isHeaderC (by kernel_rfl) (by kernel_rfl) (enters_of (by kernel_rfl : PT.funcs[50]? = some Go.Proofs.Try.f50) (by kernel_rfl) (by kernel_rfl)) ref19_isHeaderI ref19_isHeaderO Int Bool (fun d => d) (fun d => d) (fun d => d) (fun d => d) (fun _ => rfl) (fun _ => rfl) (by kernel_rfl) (by kernel_rfl) ref19_isHeaderF ref19_isHeader_bd (fun w0 Jo hfix hmay => ref19_isHeader_lo hfix hmay)

noncomputable def ref19_ReadHeaderL1b (x0 : Int) (x1 : Val TPage) (x2 : Val THead) : Option ((Int × (Val TPage) × (Val THead)) ⊕ (((Val TPage) × (Val THead)) ⊕ (Int × (Val THead)))) :=
  bif (decide (x0 < (7 : Int))) then (
    bif (inR x0 7) then
    bif (!(decide ((List.getD x1.2.2.1 (Int.toNat x0) (0 : Int)) = (0 : Int)))) then (
      some (Sum.inr (Sum.inr ((14 : Int), ((0 : Int), ((0 : Int), ()))))))
    else (
      some (Sum.inl ((IntKind.wrap .i64 (x0 + (1 : Int))), (x1, x2))))
    else none)
  else (
    some (Sum.inr (Sum.inl (x1, x2))))
noncomputable def ref19_ReadHeaderL1B : (Int × (Val TPage) × (Val THead)) → Option ((Int × (Val TPage) × (Val THead)) ⊕ (((Val TPage) × (Val THead)) ⊕ (Int × (Val THead)))) := fun y => ref19_ReadHeaderL1b y.1 y.2.1 y.2.2
noncomputable def ref19_ReadHeaderL1 (x0 : Int) (x1 : Val TPage) (x2 : Val THead) : Option (((Val TPage) × (Val THead)) ⊕ (Int × (Val THead))) := iter ref19_ReadHeaderL1B (x0, (x1, x2))
/-- bodega/bodegaref19.ReadHeader -/
noncomputable def ref19_ReadHeader (a0 : Val TPage) : Option ((Val THead) × Int) :=
  (ref19_isHeader a0.1).bind fun r1 =>
  bif (!r1) then (
    some (((0 : Int), ((0 : Int), ())), (1 : Int)))
  else (
    (ref19_ReadHeaderL1 (2 : Int) a0 ((0 : Int), ((0 : Int), ()))).bind fun r2 =>
    match r2 with
    | .inl r3 => (
      bif (decide ((6 : Int) < (List.getD r3.1.2.2.1 0 (0 : Int)))) then (
        some (((0 : Int), ((0 : Int), ())), (14 : Int)))
      else (
        bif (!(decide ((IntKind.wrap .u64 ((BitVec.ofInt (IntKind.bits .u64) (List.getD r3.1.2.2.1 1 (0 : Int)) &&& ~~~ BitVec.ofInt (IntKind.bits .u64) (65534 : Int)).toNat : Int)) = (0 : Int)))) then (
          some (((0 : Int), ((0 : Int), ())), (14 : Int)))
        else (
          some (((IntKind.wrap .i64 ((IntKind.wrap .i64 (List.getD r3.1.2.2.1 0 (0 : Int))) - (1 : Int))), ((IntKind.wrap .u32 (List.getD r3.1.2.2.1 1 (0 : Int))), ())), (0 : Int)))))
    | .inr r4 => (
      some (r4.2, r4.1)))
noncomputable def ref19_ReadHeaderI : Shape := { n := 42, nx := 0, sl := [(0, .dat false TPage)], ob := [], fix := [], may := true }
noncomputable def ref19_ReadHeaderO : Shape := { n := 43, nx := 0, sl := [(42, .tup (.cons (.dat true THead) (.cons (.dat true (.int .i64)) (.nil))))], ob := [], fix := [], may := true }
noncomputable def ref19_ReadHeaderF : ((Val TPage)) → Option ((Val THead) × Int) := fun y => ref19_ReadHeader y
noncomputable def ref19_ReadHeaderct : Ctr := ctrOf ref19_ReadHeaderI ref19_ReadHeaderO (fun d => d) (fun d => d) ref19_ReadHeaderF
noncomputable def ref19_ReadHeaderE : Env := { tf := tfE, fn := fun f => bif Nat.beq f 50 then some ref19_isHeaderct else none }
theorem ref19_ReadHeader_env : EnvOk PT ref19_ReadHeaderE := ⟨tyE, fun f ct h => by
  simp only [ref19_ReadHeaderE] at h
  refine envCons (c := ref19_isHeaderct) h ref19_isHeader_ctr (fun h => ?_)
  cases h⟩
noncomputable def ref19_ReadHeaderC : Code := bodyOf Go.Proofs.Try.f21
noncomputable def ref19_ReadHeaderL1C : Code := (loopsOf ref19_ReadHeaderC).getD 0 .skip
noncomputable def ref19_ReadHeaderL1S : Shape := { n := 42, nx := 2, sl := [(1, .ref 0 []), (2, .ref 1 []), (4, .dat true (.int .i64))], ob := [(0, .box TPage (.dat false TPage)), (1, .box THead (.dat true THead))], fix := [], may := true }
noncomputable def ref19_ReadHeaderL1O : List (Ex × Shape) := [(.exit 0, { n := 42, nx := 2, sl := [(1, .ref 0 []), (2, .ref 1 [])], ob := [(0, .box TPage (.dat false TPage)), (1, .box THead (.dat true THead))], fix := [], may := true }), (.ret, { n := 42, nx := 1, sl := [(2, .ref 0 []), (3, .dat true (.int .i64))], ob := [(0, .box THead (.dat true THead))], fix := [], may := true })]
noncomputable def ref19_ReadHeaderL1M : Sum := loopSum (Y := Int × (Val TPage) × (Val THead)) (Z := ((Val TPage) × (Val THead)) ⊕ (Int × (Val THead))) ref19_ReadHeaderL1S ref19_ReadHeaderL1O (fun d => d) (fun d => d) (iter ref19_ReadHeaderL1B)
noncomputable def ref19_ReadHeaderH : Nat → Option Sum := fun n => bif Nat.beq n 4 then some ref19_ReadHeaderL1M else none
theorem ref19_ReadHeaderL1_bd (y : Int × (Val TPage) × (Val THead)) : @Eq (Option ((Int × (Val TPage) × (Val THead)) ⊕ (((Val TPage) × (Val THead)) ⊕ (Int × (Val THead))))) (exec ref19_ReadHeaderE ref19_ReadHeaderH ref19_ReadHeaderL1C (ref19_ReadHeaderL1S.mk' (show ref19_ReadHeaderL1S.D from y)) (kont (Y := Int × (Val TPage) × (Val THead)) (Z := ((Val TPage) × (Val THead)) ⊕ (Int × (Val THead))) ref19_ReadHeaderL1S ref19_ReadHeaderL1O (fun d => d) (fun d => d))) (ref19_ReadHeaderL1B y) := by kernel_rfl
theorem ref19_ReadHeaderL1_ok {w0 : World} {Jo : Io} (hfix : ∀ i b, Jo.fix i = some b → i ∈ []) (hmay : true = true → Jo.may) : SumOk PT w0 Jo ref19_ReadHeaderL1M (.loop ref19_ReadHeaderL1C) :=
  @loop_ok w0 Jo PT ref19_ReadHeaderE ref19_ReadHeaderH (Int × (Val TPage) × (Val THead)) (((Val TPage) × (Val THead)) ⊕ (Int × (Val THead))) ref19_ReadHeader_env mixed ref19_ReadHeaderL1C ref19_ReadHeaderL1S ref19_ReadHeaderL1O (fun d => d) (fun d => d) (fun d => d) (fun d => d) (fun _ => rfl) (fun _ => rfl) hfix hmay (by kernel_rfl) (noLoops (by kernel_rfl)) ref19_ReadHeaderL1B ref19_ReadHeaderL1_bd
theorem ref19_ReadHeader_bd (y : (Val TPage)) : @Eq (Option ((Val THead) × Int)) (exec ref19_ReadHeaderE ref19_ReadHeaderH ref19_ReadHeaderC (ref19_ReadHeaderI.mk' (show ref19_ReadHeaderI.D from y)) (kontF (Z := (Val THead) × Int) ref19_ReadHeaderE Go.Proofs.Try.f21.results.toList ref19_ReadHeaderO (fun d => d))) (ref19_ReadHeaderF y) := by kernel_rfl
theorem ref19_ReadHeader_lo {w0 : World} {Jo : Io} (hfix : ∀ i b, Jo.fix i = some b → i ∈ []) (hmay : true = true → Jo.may) : LoopsOk PT w0 Jo ref19_ReadHeaderH ref19_ReadHeaderC := (loopsMk (by kernel_rfl) (loopsCons (c := ref19_ReadHeaderL1C) (n := 4) (f := ref19_ReadHeaderL1M) (by kernel_rfl) (by kernel_rfl) (ref19_ReadHeaderL1_ok hfix hmay) loopsNil))
theorem ref19_ReadHeader_ctr : CtrOk PT 21 ref19_ReadHeaderct :=
  @ctr_ok PT ref19_ReadHeaderE ref19_ReadHeaderH ref19_ReadHeader_env mixed 21 Go.Proofs.Try.f21 ref19_ReadHeaderC (by kernel_rfl) (by kernel_rfl) (enters_of (by kernel_rfl : PT.funcs[21]? = some Go.Proofs.Try.f21) (by kernel_rfl) (by kernel_rfl)) ref19_ReadHeaderI ref19_ReadHeaderO ((Val TPage)) ((Val THead) × Int) (fun d => d) (fun d => d) (fun d => d) (fun d => d) (fun _ => rfl) (fun _ => rfl) (by kernel_rfl) (by kernel_rfl) ref19_ReadHeaderF ref19_ReadHeader_bd (fun w0 Jo hfix hmay => ref19_ReadHeader_lo hfix hmay)

/-- bodega/bodegaref19.isOwn -/
noncomputable def ref19_isOwn (a0 : Int) : Option Bool :=
  bif (decide ((98 : Int) ≤ a0)) then (
    some (decide (a0 < (104 : Int))))
  else (
    some false)
noncomputable def ref19_isOwnI : Shape := { n := 9, nx := 0, sl := [(0, .dat false (.int .i64))], ob := [], fix := [], may := true }
noncomputable def ref19_isOwnO : Shape := { n := 10, nx := 0, sl := [(9, .dat true .bool)], ob := [], fix := [], may := true }
noncomputable def ref19_isOwnF : Int → Option Bool := fun y => ref19_isOwn y
noncomputable def ref19_isOwnct : Ctr := ctrOf ref19_isOwnI ref19_isOwnO (fun d => d) (fun d => d) ref19_isOwnF
noncomputable def ref19_isOwnE : Env := { tf := tfE, fn := fun f => none }
theorem ref19_isOwn_env : EnvOk PT ref19_isOwnE := ⟨tyE, fun f ct h => by
  simp only [ref19_isOwnE] at h
  cases h⟩
noncomputable def ref19_isOwnC : Code := bodyOf Go.Proofs.Try.f53
noncomputable def ref19_isOwnH : Nat → Option Sum := fun n => none
theorem ref19_isOwn_bd (y : Int) : @Eq (Option Bool) (exec ref19_isOwnE ref19_isOwnH ref19_isOwnC (ref19_isOwnI.mk' (show ref19_isOwnI.D from y)) (kontF (Z := Bool) ref19_isOwnE Go.Proofs.Try.f53.results.toList ref19_isOwnO (fun d => d))) (ref19_isOwnF y) := by kernel_rfl
theorem ref19_isOwn_lo {w0 : World} {Jo : Io} (hfix : ∀ i b, Jo.fix i = some b → i ∈ []) (hmay : true = true → Jo.may) : LoopsOk PT w0 Jo ref19_isOwnH ref19_isOwnC := (noLoops (by kernel_rfl))
theorem ref19_isOwn_ctr : CtrOk PT 53 ref19_isOwnct :=
  @ctr_ok PT ref19_isOwnE ref19_isOwnH ref19_isOwn_env mixed 53 Go.Proofs.Try.f53 ref19_isOwnC (by kernel_rfl) (by kernel_rfl) (enters_of (by kernel_rfl : PT.funcs[53]? = some Go.Proofs.Try.f53) (by kernel_rfl) (by kernel_rfl)) ref19_isOwnI ref19_isOwnO Int Bool (fun d => d) (fun d => d) (fun d => d) (fun d => d) (fun _ => rfl) (fun _ => rfl) (by kernel_rfl) (by kernel_rfl) ref19_isOwnF ref19_isOwn_bd (fun w0 Jo hfix hmay => ref19_isOwn_lo hfix hmay)

/-- bodega/bodegaref19.Unpack -/
noncomputable def ref19_Unpack (a0 : Int) : Option ((Val TPtr)) :=
  some ((IntKind.wrap .i64 (Int.tmod a0 (256 : Int))), ((IntKind.wrap .i64 (IntKind.wrap .u32 (Int.tdiv a0 (256 : Int)))), ()))
noncomputable def ref19_UnpackI : Shape := { n := 10, nx := 0, sl := [(0, .dat false (.int .u32))], ob := [], fix := [], may := true }
noncomputable def ref19_UnpackO : Shape := { n := 11, nx := 0, sl := [(10, .dat true TPtr)], ob := [], fix := [], may := true }
noncomputable def ref19_UnpackF : Int → Option ((Val TPtr)) := fun y => ref19_Unpack y
noncomputable def ref19_Unpackct : Ctr := ctrOf ref19_UnpackI ref19_UnpackO (fun d => d) (fun d => d) ref19_UnpackF
noncomputable def ref19_UnpackE : Env := { tf := tfE, fn := fun f => none }
theorem ref19_Unpack_env : EnvOk PT ref19_UnpackE := ⟨tyE, fun f ct h => by
  simp only [ref19_UnpackE] at h
  cases h⟩
noncomputable def ref19_UnpackC : Code := bodyOf Go.Proofs.Try.f54
noncomputable def ref19_UnpackH : Nat → Option Sum := fun n => none
theorem ref19_Unpack_bd (y : Int) : @Eq (Option ((Val TPtr))) (exec ref19_UnpackE ref19_UnpackH ref19_UnpackC (ref19_UnpackI.mk' (show ref19_UnpackI.D from y)) (kontF (Z := (Val TPtr)) ref19_UnpackE Go.Proofs.Try.f54.results.toList ref19_UnpackO (fun d => d))) (ref19_UnpackF y) := by kernel_rfl
theorem ref19_Unpack_lo {w0 : World} {Jo : Io} (hfix : ∀ i b, Jo.fix i = some b → i ∈ []) (hmay : true = true → Jo.may) : LoopsOk PT w0 Jo ref19_UnpackH ref19_UnpackC := (noLoops (by kernel_rfl))
theorem ref19_Unpack_ctr : CtrOk PT 54 ref19_Unpackct :=
  @ctr_ok PT ref19_UnpackE ref19_UnpackH ref19_Unpack_env mixed 54 Go.Proofs.Try.f54 ref19_UnpackC (by kernel_rfl) (by kernel_rfl) (enters_of (by kernel_rfl : PT.funcs[54]? = some Go.Proofs.Try.f54) (by kernel_rfl) (by kernel_rfl)) ref19_UnpackI ref19_UnpackO Int ((Val TPtr)) (fun d => d) (fun d => d) (fun d => d) (fun d => d) (fun _ => rfl) (fun _ => rfl) (by kernel_rfl) (by kernel_rfl) ref19_UnpackF ref19_Unpack_bd (fun w0 Jo hfix hmay => ref19_Unpack_lo hfix hmay)

/-- bodega/bodegaref19.heapLine -/
noncomputable def ref19_heapLine (a0 : Int) : Option Bool :=
  bif (decide ((104 : Int) ≤ a0)) then (
    some (decide (a0 < (256 : Int))))
  else (
    some false)
noncomputable def ref19_heapLineI : Shape := { n := 9, nx := 0, sl := [(0, .dat false (.int .i64))], ob := [], fix := [], may := true }
noncomputable def ref19_heapLineO : Shape := { n := 10, nx := 0, sl := [(9, .dat true .bool)], ob := [], fix := [], may := true }
noncomputable def ref19_heapLineF : Int → Option Bool := fun y => ref19_heapLine y
noncomputable def ref19_heapLinect : Ctr := ctrOf ref19_heapLineI ref19_heapLineO (fun d => d) (fun d => d) ref19_heapLineF
noncomputable def ref19_heapLineE : Env := { tf := tfE, fn := fun f => none }
theorem ref19_heapLine_env : EnvOk PT ref19_heapLineE := ⟨tyE, fun f ct h => by
  simp only [ref19_heapLineE] at h
  cases h⟩
noncomputable def ref19_heapLineC : Code := bodyOf Go.Proofs.Try.f83
noncomputable def ref19_heapLineH : Nat → Option Sum := fun n => none
theorem ref19_heapLine_bd (y : Int) : @Eq (Option Bool) (exec ref19_heapLineE ref19_heapLineH ref19_heapLineC (ref19_heapLineI.mk' (show ref19_heapLineI.D from y)) (kontF (Z := Bool) ref19_heapLineE Go.Proofs.Try.f83.results.toList ref19_heapLineO (fun d => d))) (ref19_heapLineF y) := by kernel_rfl
theorem ref19_heapLine_lo {w0 : World} {Jo : Io} (hfix : ∀ i b, Jo.fix i = some b → i ∈ []) (hmay : true = true → Jo.may) : LoopsOk PT w0 Jo ref19_heapLineH ref19_heapLineC := (noLoops (by kernel_rfl))
theorem ref19_heapLine_ctr : CtrOk PT 83 ref19_heapLinect :=
  @ctr_ok PT ref19_heapLineE ref19_heapLineH ref19_heapLine_env mixed 83 Go.Proofs.Try.f83 ref19_heapLineC (by kernel_rfl) (by kernel_rfl) (enters_of (by kernel_rfl : PT.funcs[83]? = some Go.Proofs.Try.f83) (by kernel_rfl) (by kernel_rfl)) ref19_heapLineI ref19_heapLineO Int Bool (fun d => d) (fun d => d) (fun d => d) (fun d => d) (fun _ => rfl) (fun _ => rfl) (by kernel_rfl) (by kernel_rfl) ref19_heapLineF ref19_heapLine_bd (fun w0 Jo hfix hmay => ref19_heapLine_lo hfix hmay)

/-- bodega/bodegaref19.ValidPointer -/
noncomputable def ref19_ValidPointer (a0 : Val TPtr) : Option Bool :=
  (ref19_heapLine a0.1).bind fun r1 =>
  bif r1 then (
    bif (decide ((1 : Int) ≤ a0.2.1)) then (
      some (decide (a0.2.1 ≤ (16777215 : Int))))
    else (
      some false))
  else (
    some false)
noncomputable def ref19_ValidPointerI : Shape := { n := 16, nx := 0, sl := [(0, .dat false TPtr)], ob := [], fix := [], may := true }
noncomputable def ref19_ValidPointerO : Shape := { n := 17, nx := 0, sl := [(16, .dat true .bool)], ob := [], fix := [], may := true }
noncomputable def ref19_ValidPointerF : ((Val TPtr)) → Option Bool := fun y => ref19_ValidPointer y
noncomputable def ref19_ValidPointerct : Ctr := ctrOf ref19_ValidPointerI ref19_ValidPointerO (fun d => d) (fun d => d) ref19_ValidPointerF
noncomputable def ref19_ValidPointerE : Env := { tf := tfE, fn := fun f => bif Nat.beq f 83 then some ref19_heapLinect else none }
theorem ref19_ValidPointer_env : EnvOk PT ref19_ValidPointerE := ⟨tyE, fun f ct h => by
  simp only [ref19_ValidPointerE] at h
  refine envCons (c := ref19_heapLinect) h ref19_heapLine_ctr (fun h => ?_)
  cases h⟩
noncomputable def ref19_ValidPointerC : Code := bodyOf Go.Proofs.Try.f55
noncomputable def ref19_ValidPointerH : Nat → Option Sum := fun n => none
theorem ref19_ValidPointer_bd (y : (Val TPtr)) : @Eq (Option Bool) (exec ref19_ValidPointerE ref19_ValidPointerH ref19_ValidPointerC (ref19_ValidPointerI.mk' (show ref19_ValidPointerI.D from y)) (kontF (Z := Bool) ref19_ValidPointerE Go.Proofs.Try.f55.results.toList ref19_ValidPointerO (fun d => d))) (ref19_ValidPointerF y) := by kernel_rfl
theorem ref19_ValidPointer_lo {w0 : World} {Jo : Io} (hfix : ∀ i b, Jo.fix i = some b → i ∈ []) (hmay : true = true → Jo.may) : LoopsOk PT w0 Jo ref19_ValidPointerH ref19_ValidPointerC := (noLoops (by kernel_rfl))
theorem ref19_ValidPointer_ctr : CtrOk PT 55 ref19_ValidPointerct :=
  @ctr_ok PT ref19_ValidPointerE ref19_ValidPointerH ref19_ValidPointer_env mixed 55 Go.Proofs.Try.f55 ref19_ValidPointerC (by kernel_rfl) (by kernel_rfl) (enters_of (by kernel_rfl : PT.funcs[55]? = some Go.Proofs.Try.f55) (by kernel_rfl) (by kernel_rfl)) ref19_ValidPointerI ref19_ValidPointerO ((Val TPtr)) Bool (fun d => d) (fun d => d) (fun d => d) (fun d => d) (fun _ => rfl) (fun _ => rfl) (by kernel_rfl) (by kernel_rfl) ref19_ValidPointerF ref19_ValidPointer_bd (fun w0 Jo hfix hmay => ref19_ValidPointer_lo hfix hmay)

noncomputable def ref19_ReadNodeL1b (x0 : Int) (x1 : Val TPage) (x2 : Val TNode) (x3 : Val TNode) : Option ((Int × (Val TPage) × (Val TNode) × (Val TNode)) ⊕ (((Val TNode) × (Val TNode)) ⊕ (Int × (Val TNode)))) :=
  bif (decide (x0 < (4 : Int))) then (
    bif (inR (IntKind.wrap .i64 ((3 : Int) + x0)) 7) then
    bif (decide ((List.getD x1.2.2.1 (Int.toNat (IntKind.wrap .i64 ((3 : Int) + x0))) (0 : Int)) = (0 : Int))) then (
      some (Sum.inl ((IntKind.wrap .i64 (x0 + (1 : Int))), (x1, (x2, x3)))))
    else (
      (ref19_Unpack (IntKind.wrap .u32 (List.getD x1.2.2.1 (Int.toNat (IntKind.wrap .i64 ((3 : Int) + x0))) (0 : Int)))).bind fun r1 =>
      (ref19_ValidPointer r1).bind fun r2 =>
      bif (!r2) then (
        some (Sum.inr (Sum.inr ((14 : Int), (false, ((0 : Int), ((0 : Int), ((0 : Int), ((List.replicate 4 (((0 : Int), ((0 : Int), ())), ((0 : Int), ()))), ())))))))))
      else (
        bif (inR x0 4) then
        some (Sum.inl ((IntKind.wrap .i64 (x0 + (1 : Int))), (x1, (x2, (x3.1, (x3.2.1, (x3.2.2.1, (x3.2.2.2.1, ((List.set x3.2.2.2.2.1 (Int.toNat x0) (r1, ((IntKind.wrap .u32 (shiftR .u64 (List.getD x1.2.2.1 (Int.toNat (IntKind.wrap .i64 ((3 : Int) + x0))) (0 : Int)) (32 : Int))), ()))), x3.2.2.2.2.2)))))))))
        else none))
    else none)
  else (
    some (Sum.inr (Sum.inl (x2, x3))))
noncomputable def ref19_ReadNodeL1B : (Int × (Val TPage) × (Val TNode) × (Val TNode)) → Option ((Int × (Val TPage) × (Val TNode) × (Val TNode)) ⊕ (((Val TNode) × (Val TNode)) ⊕ (Int × (Val TNode)))) := fun y => ref19_ReadNodeL1b y.1 y.2.1 y.2.2.1 y.2.2.2
noncomputable def ref19_ReadNodeL1 (x0 : Int) (x1 : Val TPage) (x2 : Val TNode) (x3 : Val TNode) : Option (((Val TNode) × (Val TNode)) ⊕ (Int × (Val TNode))) := iter ref19_ReadNodeL1B (x0, (x1, (x2, x3)))
/-- bodega/bodegaref19.ReadNode -/
noncomputable def ref19_ReadNode (a0 : Val TPage) : Option ((Val TNode) × Int) :=
  (ref19_isOwn a0.1).bind fun r1 =>
  bif (!r1) then (
    some ((false, ((0 : Int), ((0 : Int), ((0 : Int), ((List.replicate 4 (((0 : Int), ((0 : Int), ())), ((0 : Int), ()))), ()))))), (1 : Int)))
  else (
    bif (decide ((4294967296 : Int) < (List.getD a0.2.2.1 0 (0 : Int)))) then (
      some ((false, ((0 : Int), ((0 : Int), ((0 : Int), ((List.replicate 4 (((0 : Int), ((0 : Int), ())), ((0 : Int), ()))), ()))))), (14 : Int)))
    else (
      bif (decide ((511 : Int) < (List.getD a0.2.2.1 1 (0 : Int)))) then (
        some ((false, ((0 : Int), ((0 : Int), ((0 : Int), ((List.replicate 4 (((0 : Int), ((0 : Int), ())), ((0 : Int), ()))), ()))))), (14 : Int)))
      else (
        bif (decide ((59 : Int) < (List.getD a0.2.2.1 2 (0 : Int)))) then (
          some ((false, ((0 : Int), ((0 : Int), ((0 : Int), ((List.replicate 4 (((0 : Int), ((0 : Int), ())), ((0 : Int), ()))), ()))))), (14 : Int)))
        else (
          bif (decide ((0 : Int) < (List.getD a0.2.2.1 0 (0 : Int)))) then (
            (ref19_ReadNodeL1 (0 : Int) a0 (false, ((0 : Int), ((0 : Int), ((0 : Int), ((List.replicate 4 (((0 : Int), ((0 : Int), ())), ((0 : Int), ()))), ()))))) (true, ((IntKind.wrap .u32 (IntKind.wrap .u64 ((List.getD a0.2.2.1 0 (0 : Int)) - (1 : Int)))), ((IntKind.wrap .u32 (Int.tmod (List.getD a0.2.2.1 1 (0 : Int)) (512 : Int))), ((IntKind.wrap .i64 (Int.tmod (List.getD a0.2.2.1 2 (0 : Int)) (1024 : Int))), ((List.replicate 4 (((0 : Int), ((0 : Int), ())), ((0 : Int), ()))), ())))))).bind fun r2 =>
            match r2 with
            | .inl r3 => (
              some (r3.2, (0 : Int)))
            | .inr r4 => (
              some (r4.2, r4.1)))
          else (
            (ref19_ReadNodeL1 (0 : Int) a0 (false, ((0 : Int), ((0 : Int), ((0 : Int), ((List.replicate 4 (((0 : Int), ((0 : Int), ())), ((0 : Int), ()))), ()))))) (false, ((0 : Int), ((IntKind.wrap .u32 (Int.tmod (List.getD a0.2.2.1 1 (0 : Int)) (512 : Int))), ((IntKind.wrap .i64 (Int.tmod (List.getD a0.2.2.1 2 (0 : Int)) (1024 : Int))), ((List.replicate 4 (((0 : Int), ((0 : Int), ())), ((0 : Int), ()))), ())))))).bind fun r5 =>
            match r5 with
            | .inl r6 => (
              some (r6.2, (0 : Int)))
            | .inr r7 => (
              some (r7.2, r7.1)))))))
noncomputable def ref19_ReadNodeI : Shape := { n := 79, nx := 0, sl := [(0, .dat false TPage)], ob := [], fix := [], may := true }
noncomputable def ref19_ReadNodeO : Shape := { n := 80, nx := 0, sl := [(79, .tup (.cons (.dat true TNode) (.cons (.dat true (.int .i64)) (.nil))))], ob := [], fix := [], may := true }
noncomputable def ref19_ReadNodeF : ((Val TPage)) → Option ((Val TNode) × Int) := fun y => ref19_ReadNode y
noncomputable def ref19_ReadNodect : Ctr := ctrOf ref19_ReadNodeI ref19_ReadNodeO (fun d => d) (fun d => d) ref19_ReadNodeF
noncomputable def ref19_ReadNodeE : Env := { tf := tfE, fn := fun f => bif Nat.beq f 53 then some ref19_isOwnct else bif Nat.beq f 54 then some ref19_Unpackct else bif Nat.beq f 55 then some ref19_ValidPointerct else none }
theorem ref19_ReadNode_env : EnvOk PT ref19_ReadNodeE := ⟨tyE, fun f ct h => by
  simp only [ref19_ReadNodeE] at h
  refine envCons (c := ref19_isOwnct) h ref19_isOwn_ctr (fun h => ?_)
  refine envCons (c := ref19_Unpackct) h ref19_Unpack_ctr (fun h => ?_)
  refine envCons (c := ref19_ValidPointerct) h ref19_ValidPointer_ctr (fun h => ?_)
  cases h⟩
noncomputable def ref19_ReadNodeC : Code := bodyOf Go.Proofs.Try.f23
noncomputable def ref19_ReadNodeL1C : Code := (loopsOf ref19_ReadNodeC).getD 0 .skip
noncomputable def ref19_ReadNodeL1S : Shape := { n := 79, nx := 3, sl := [(1, .ref 0 []), (2, .ref 1 []), (4, .ref 2 []), (5, .dat true (.int .i64))], ob := [(0, .box TPage (.dat false TPage)), (1, .box TNode (.dat true TNode)), (2, .box TNode (.dat true TNode))], fix := [], may := true }
noncomputable def ref19_ReadNodeL1O : List (Ex × Shape) := [(.exit 0, { n := 79, nx := 2, sl := [(2, .ref 0 []), (4, .ref 1 [])], ob := [(0, .box TNode (.dat true TNode)), (1, .box TNode (.dat true TNode))], fix := [], may := true }), (.ret, { n := 79, nx := 1, sl := [(2, .ref 0 []), (3, .dat true (.int .i64))], ob := [(0, .box TNode (.dat true TNode))], fix := [], may := true })]
noncomputable def ref19_ReadNodeL1M : Sum := loopSum (Y := Int × (Val TPage) × (Val TNode) × (Val TNode)) (Z := ((Val TNode) × (Val TNode)) ⊕ (Int × (Val TNode))) ref19_ReadNodeL1S ref19_ReadNodeL1O (fun d => d) (fun d => d) (iter ref19_ReadNodeL1B)
noncomputable def ref19_ReadNodeH : Nat → Option Sum := fun n => bif Nat.beq n 10 then some ref19_ReadNodeL1M else none
theorem ref19_ReadNodeL1_bd (y : Int × (Val TPage) × (Val TNode) × (Val TNode)) : @Eq (Option ((Int × (Val TPage) × (Val TNode) × (Val TNode)) ⊕ (((Val TNode) × (Val TNode)) ⊕ (Int × (Val TNode))))) (exec ref19_ReadNodeE ref19_ReadNodeH ref19_ReadNodeL1C (ref19_ReadNodeL1S.mk' (show ref19_ReadNodeL1S.D from y)) (kont (Y := Int × (Val TPage) × (Val TNode) × (Val TNode)) (Z := ((Val TNode) × (Val TNode)) ⊕ (Int × (Val TNode))) ref19_ReadNodeL1S ref19_ReadNodeL1O (fun d => d) (fun d => d))) (ref19_ReadNodeL1B y) := by kernel_rfl
theorem ref19_ReadNodeL1_ok {w0 : World} {Jo : Io} (hfix : ∀ i b, Jo.fix i = some b → i ∈ []) (hmay : true = true → Jo.may) : SumOk PT w0 Jo ref19_ReadNodeL1M (.loop ref19_ReadNodeL1C) :=
  @loop_ok w0 Jo PT ref19_ReadNodeE ref19_ReadNodeH (Int × (Val TPage) × (Val TNode) × (Val TNode)) (((Val TNode) × (Val TNode)) ⊕ (Int × (Val TNode))) ref19_ReadNode_env mixed ref19_ReadNodeL1C ref19_ReadNodeL1S ref19_ReadNodeL1O (fun d => d) (fun d => d) (fun d => d) (fun d => d) (fun _ => rfl) (fun _ => rfl) hfix hmay (by kernel_rfl) (noLoops (by kernel_rfl)) ref19_ReadNodeL1B ref19_ReadNodeL1_bd
theorem ref19_ReadNode_bd (y : (Val TPage)) : @Eq (Option ((Val TNode) × Int)) (exec ref19_ReadNodeE ref19_ReadNodeH ref19_ReadNodeC (ref19_ReadNodeI.mk' (show ref19_ReadNodeI.D from y)) (kontF (Z := (Val TNode) × Int) ref19_ReadNodeE Go.Proofs.Try.f23.results.toList ref19_ReadNodeO (fun d => d))) (ref19_ReadNodeF y) := by kernel_rfl
theorem ref19_ReadNode_lo {w0 : World} {Jo : Io} (hfix : ∀ i b, Jo.fix i = some b → i ∈ []) (hmay : true = true → Jo.may) : LoopsOk PT w0 Jo ref19_ReadNodeH ref19_ReadNodeC := (loopsMk (by kernel_rfl) (loopsCons (c := ref19_ReadNodeL1C) (n := 10) (f := ref19_ReadNodeL1M) (by kernel_rfl) (by kernel_rfl) (ref19_ReadNodeL1_ok hfix hmay) loopsNil))
theorem ref19_ReadNode_ctr : CtrOk PT 23 ref19_ReadNodect :=
  @ctr_ok PT ref19_ReadNodeE ref19_ReadNodeH ref19_ReadNode_env mixed 23 Go.Proofs.Try.f23 ref19_ReadNodeC (by kernel_rfl) (by kernel_rfl) (enters_of (by kernel_rfl : PT.funcs[23]? = some Go.Proofs.Try.f23) (by kernel_rfl) (by kernel_rfl)) ref19_ReadNodeI ref19_ReadNodeO ((Val TPage)) ((Val TNode) × Int) (fun d => d) (fun d => d) (fun d => d) (fun d => d) (fun _ => rfl) (fun _ => rfl) (by kernel_rfl) (by kernel_rfl) ref19_ReadNodeF ref19_ReadNode_bd (fun w0 Jo hfix hmay => ref19_ReadNode_lo hfix hmay)

/-- bodega/bodegalaw20.header -/
noncomputable def law20_header (a0 : Val THead) : Option ((Val THead)) :=
  some (a0.1, (a0.2.1, ()))
noncomputable def law20_headerI : Shape := { n := 8, nx := 0, sl := [(0, .dat false THead)], ob := [], fix := [], may := true }
noncomputable def law20_headerO : Shape := { n := 9, nx := 0, sl := [(8, .dat true THead)], ob := [], fix := [], may := true }
noncomputable def law20_headerF : ((Val THead)) → Option ((Val THead)) := fun y => law20_header y
noncomputable def law20_headerct : Ctr := ctrOf law20_headerI law20_headerO (fun d => d) (fun d => d) law20_headerF
noncomputable def law20_headerE : Env := { tf := tfE, fn := fun f => none }
theorem law20_header_env : EnvOk PT law20_headerE := ⟨tyE, fun f ct h => by
  simp only [law20_headerE] at h
  cases h⟩
noncomputable def law20_headerC : Code := bodyOf Go.Proofs.Try.f25
noncomputable def law20_headerH : Nat → Option Sum := fun n => none
theorem law20_header_bd (y : (Val THead)) : @Eq (Option ((Val THead))) (exec law20_headerE law20_headerH law20_headerC (law20_headerI.mk' (show law20_headerI.D from y)) (kontF (Z := (Val THead)) law20_headerE Go.Proofs.Try.f25.results.toList law20_headerO (fun d => d))) (law20_headerF y) := by kernel_rfl
theorem law20_header_lo {w0 : World} {Jo : Io} (hfix : ∀ i b, Jo.fix i = some b → i ∈ []) (hmay : true = true → Jo.may) : LoopsOk PT w0 Jo law20_headerH law20_headerC := (noLoops (by kernel_rfl))
theorem law20_header_ctr : CtrOk PT 25 law20_headerct :=
  @ctr_ok PT law20_headerE law20_headerH law20_header_env mixed 25 Go.Proofs.Try.f25 law20_headerC (by kernel_rfl) (by kernel_rfl) (enters_of (by kernel_rfl : PT.funcs[25]? = some Go.Proofs.Try.f25) (by kernel_rfl) (by kernel_rfl)) law20_headerI law20_headerO ((Val THead)) ((Val THead)) (fun d => d) (fun d => d) (fun d => d) (fun d => d) (fun _ => rfl) (fun _ => rfl) (by kernel_rfl) (by kernel_rfl) law20_headerF law20_header_bd (fun w0 Jo hfix hmay => law20_header_lo hfix hmay)

/-- bodega/bodegalaw20.ref -/
noncomputable def law20_ref (a0 : Val TPtr) : Option ((Val TPtr)) :=
  some (a0.1, (a0.2.1, ()))
noncomputable def law20_refI : Shape := { n := 8, nx := 0, sl := [(0, .dat false TPtr)], ob := [], fix := [], may := true }
noncomputable def law20_refO : Shape := { n := 9, nx := 0, sl := [(8, .dat true TPtr)], ob := [], fix := [], may := true }
noncomputable def law20_refF : ((Val TPtr)) → Option ((Val TPtr)) := fun y => law20_ref y
noncomputable def law20_refct : Ctr := ctrOf law20_refI law20_refO (fun d => d) (fun d => d) law20_refF
noncomputable def law20_refE : Env := { tf := tfE, fn := fun f => none }
theorem law20_ref_env : EnvOk PT law20_refE := ⟨tyE, fun f ct h => by
  simp only [law20_refE] at h
  cases h⟩
noncomputable def law20_refC : Code := bodyOf Go.Proofs.Try.f56
noncomputable def law20_refH : Nat → Option Sum := fun n => none
theorem law20_ref_bd (y : (Val TPtr)) : @Eq (Option ((Val TPtr))) (exec law20_refE law20_refH law20_refC (law20_refI.mk' (show law20_refI.D from y)) (kontF (Z := (Val TPtr)) law20_refE Go.Proofs.Try.f56.results.toList law20_refO (fun d => d))) (law20_refF y) := by kernel_rfl
theorem law20_ref_lo {w0 : World} {Jo : Io} (hfix : ∀ i b, Jo.fix i = some b → i ∈ []) (hmay : true = true → Jo.may) : LoopsOk PT w0 Jo law20_refH law20_refC := (noLoops (by kernel_rfl))
theorem law20_ref_ctr : CtrOk PT 56 law20_refct :=
  @ctr_ok PT law20_refE law20_refH law20_ref_env mixed 56 Go.Proofs.Try.f56 law20_refC (by kernel_rfl) (by kernel_rfl) (enters_of (by kernel_rfl : PT.funcs[56]? = some Go.Proofs.Try.f56) (by kernel_rfl) (by kernel_rfl)) law20_refI law20_refO ((Val TPtr)) ((Val TPtr)) (fun d => d) (fun d => d) (fun d => d) (fun d => d) (fun _ => rfl) (fun _ => rfl) (by kernel_rfl) (by kernel_rfl) law20_refF law20_ref_bd (fun w0 Jo hfix hmay => law20_ref_lo hfix hmay)

noncomputable def law20_nodeL1b (x0 : Int) (x1 : Val TNode) (x2 : Val TNode) (x3 : Val TNode) : Option ((Int × (Val TNode) × (Val TNode) × (Val TNode)) ⊕ ((Val TNode) × (Val TNode))) :=
  bif (decide (x0 < (4 : Int))) then (
    bif (inR x0 4) then
    (law20_ref (List.getD x1.2.2.2.2.1 (Int.toNat x0) (((0 : Int), ((0 : Int), ())), ((0 : Int), ()))).1).bind fun r1 =>
    bif (inR x0 4) then
    bif (inR x0 4) then
    some (Sum.inl ((IntKind.wrap .i64 (x0 + (1 : Int))), (x1, (x2, (x3.1, (x3.2.1, (x3.2.2.1, (x3.2.2.2.1, ((List.set x3.2.2.2.2.1 (Int.toNat x0) (r1, ((List.getD x1.2.2.2.2.1 (Int.toNat x0) (((0 : Int), ((0 : Int), ())), ((0 : Int), ()))).2.1, ()))), x3.2.2.2.2.2)))))))))
    else none
    else none
    else none)
  else (
    some (Sum.inr (x2, x3)))
noncomputable def law20_nodeL1B : (Int × (Val TNode) × (Val TNode) × (Val TNode)) → Option ((Int × (Val TNode) × (Val TNode) × (Val TNode)) ⊕ ((Val TNode) × (Val TNode))) := fun y => law20_nodeL1b y.1 y.2.1 y.2.2.1 y.2.2.2
noncomputable def law20_nodeL1 (x0 : Int) (x1 : Val TNode) (x2 : Val TNode) (x3 : Val TNode) : Option ((Val TNode) × (Val TNode)) := iter law20_nodeL1B (x0, (x1, (x2, x3)))
/-- bodega/bodegalaw20.node -/
noncomputable def law20_node (a0 : Val TNode) : Option ((Val TNode)) :=
  (law20_nodeL1 (0 : Int) a0 (false, ((0 : Int), ((0 : Int), ((0 : Int), ((List.replicate 4 (((0 : Int), ((0 : Int), ())), ((0 : Int), ()))), ()))))) (a0.1, (a0.2.1, (a0.2.2.1, (a0.2.2.2.1, ((List.replicate 4 (((0 : Int), ((0 : Int), ())), ((0 : Int), ()))), ())))))).bind fun r1 =>
  some r1.2
noncomputable def law20_nodeI : Shape := { n := 34, nx := 0, sl := [(0, .dat false TNode)], ob := [], fix := [], may := true }
noncomputable def law20_nodeO : Shape := { n := 35, nx := 0, sl := [(34, .dat true TNode)], ob := [], fix := [], may := true }
noncomputable def law20_nodeF : ((Val TNode)) → Option ((Val TNode)) := fun y => law20_node y
noncomputable def law20_nodect : Ctr := ctrOf law20_nodeI law20_nodeO (fun d => d) (fun d => d) law20_nodeF
noncomputable def law20_nodeE : Env := { tf := tfE, fn := fun f => bif Nat.beq f 56 then some law20_refct else none }
theorem law20_node_env : EnvOk PT law20_nodeE := ⟨tyE, fun f ct h => by
  simp only [law20_nodeE] at h
  refine envCons (c := law20_refct) h law20_ref_ctr (fun h => ?_)
  cases h⟩
noncomputable def law20_nodeC : Code := bodyOf Go.Proofs.Try.f26
noncomputable def law20_nodeL1C : Code := (loopsOf law20_nodeC).getD 0 .skip
noncomputable def law20_nodeL1S : Shape := { n := 34, nx := 3, sl := [(1, .ref 0 []), (2, .ref 1 []), (3, .ref 2 []), (4, .dat true (.int .i64))], ob := [(0, .box TNode (.dat false TNode)), (1, .box TNode (.dat true TNode)), (2, .box TNode (.dat true TNode))], fix := [], may := true }
noncomputable def law20_nodeL1O : List (Ex × Shape) := [(.exit 0, { n := 34, nx := 2, sl := [(2, .ref 0 []), (3, .ref 1 [])], ob := [(0, .box TNode (.dat true TNode)), (1, .box TNode (.dat true TNode))], fix := [], may := true })]
noncomputable def law20_nodeL1M : Sum := loopSum (Y := Int × (Val TNode) × (Val TNode) × (Val TNode)) (Z := (Val TNode) × (Val TNode)) law20_nodeL1S law20_nodeL1O (fun d => d) (fun d => d) (iter law20_nodeL1B)
noncomputable def law20_nodeH : Nat → Option Sum := fun n => bif Nat.beq n 3 then some law20_nodeL1M else none
theorem law20_nodeL1_bd (y : Int × (Val TNode) × (Val TNode) × (Val TNode)) : @Eq (Option ((Int × (Val TNode) × (Val TNode) × (Val TNode)) ⊕ ((Val TNode) × (Val TNode)))) (exec law20_nodeE law20_nodeH law20_nodeL1C (law20_nodeL1S.mk' (show law20_nodeL1S.D from y)) (kont (Y := Int × (Val TNode) × (Val TNode) × (Val TNode)) (Z := (Val TNode) × (Val TNode)) law20_nodeL1S law20_nodeL1O (fun d => d) (fun d => d))) (law20_nodeL1B y) := by kernel_rfl
theorem law20_nodeL1_ok {w0 : World} {Jo : Io} (hfix : ∀ i b, Jo.fix i = some b → i ∈ []) (hmay : true = true → Jo.may) : SumOk PT w0 Jo law20_nodeL1M (.loop law20_nodeL1C) :=
  @loop_ok w0 Jo PT law20_nodeE law20_nodeH (Int × (Val TNode) × (Val TNode) × (Val TNode)) ((Val TNode) × (Val TNode)) law20_node_env mixed law20_nodeL1C law20_nodeL1S law20_nodeL1O (fun d => d) (fun d => d) (fun d => d) (fun d => d) (fun _ => rfl) (fun _ => rfl) hfix hmay (by kernel_rfl) (noLoops (by kernel_rfl)) law20_nodeL1B law20_nodeL1_bd
theorem law20_node_bd (y : (Val TNode)) : @Eq (Option ((Val TNode))) (exec law20_nodeE law20_nodeH law20_nodeC (law20_nodeI.mk' (show law20_nodeI.D from y)) (kontF (Z := (Val TNode)) law20_nodeE Go.Proofs.Try.f26.results.toList law20_nodeO (fun d => d))) (law20_nodeF y) := by kernel_rfl
theorem law20_node_lo {w0 : World} {Jo : Io} (hfix : ∀ i b, Jo.fix i = some b → i ∈ []) (hmay : true = true → Jo.may) : LoopsOk PT w0 Jo law20_nodeH law20_nodeC := (loopsMk (by kernel_rfl) (loopsCons (c := law20_nodeL1C) (n := 3) (f := law20_nodeL1M) (by kernel_rfl) (by kernel_rfl) (law20_nodeL1_ok hfix hmay) loopsNil))
theorem law20_node_ctr : CtrOk PT 26 law20_nodect :=
  @ctr_ok PT law20_nodeE law20_nodeH law20_node_env mixed 26 Go.Proofs.Try.f26 law20_nodeC (by kernel_rfl) (by kernel_rfl) (enters_of (by kernel_rfl : PT.funcs[26]? = some Go.Proofs.Try.f26) (by kernel_rfl) (by kernel_rfl)) law20_nodeI law20_nodeO ((Val TNode)) ((Val TNode)) (fun d => d) (fun d => d) (fun d => d) (fun d => d) (fun _ => rfl) (fun _ => rfl) (by kernel_rfl) (by kernel_rfl) law20_nodeF law20_node_bd (fun w0 Jo hfix hmay => law20_node_lo hfix hmay)

/-- bodega/bodegaref19.WriteHeader -/
noncomputable def ref19_WriteHeader (a0 : Val TPage) (a1 : Val THead) : Option ((Val TPage) × Int) :=
  (ref19_isHeader a0.1).bind fun r1 =>
  bif (!r1) then (
    some (((0 : Int), ((0 : Int), ((List.replicate 7 (0 : Int)), ()))), (1 : Int)))
  else (
    bif (decide (a1.1 < (-1 : Int))) then (
      some (((0 : Int), ((0 : Int), ((List.replicate 7 (0 : Int)), ()))), (1 : Int)))
    else (
      bif (decide ((6 : Int) ≤ a1.1)) then (
        some (((0 : Int), ((0 : Int), ((List.replicate 7 (0 : Int)), ()))), (1 : Int)))
      else (
        bif (!(decide ((IntKind.wrap .u32 ((BitVec.ofInt (IntKind.bits .u32) a1.2.1 &&& ~~~ BitVec.ofInt (IntKind.bits .u32) (65534 : Int)).toNat : Int)) = (0 : Int)))) then (
          some (((0 : Int), ((0 : Int), ((List.replicate 7 (0 : Int)), ()))), (1 : Int)))
        else (
          some ((a0.1, (a0.2.1, ((List.set (List.set (List.replicate 7 (0 : Int)) 0 (IntKind.wrap .u64 (IntKind.wrap .i64 (a1.1 + (1 : Int))))) 1 (IntKind.wrap .u64 a1.2.1)), ()))), (0 : Int))))))
noncomputable def ref19_WriteHeaderI : Shape := { n := 45, nx := 0, sl := [(0, .dat false TPage), (1, .dat false THead)], ob := [], fix := [], may := true }
noncomputable def ref19_WriteHeaderO : Shape := { n := 46, nx := 0, sl := [(45, .tup (.cons (.dat true TPage) (.cons (.dat true (.int .i64)) (.nil))))], ob := [], fix := [], may := true }
noncomputable def ref19_WriteHeaderF : ((Val TPage) × (Val THead)) → Option ((Val TPage) × Int) := fun y => ref19_WriteHeader y.1 y.2
noncomputable def ref19_WriteHeaderct : Ctr := ctrOf ref19_WriteHeaderI ref19_WriteHeaderO (fun d => d) (fun d => d) ref19_WriteHeaderF
noncomputable def ref19_WriteHeaderE : Env := { tf := tfE, fn := fun f => bif Nat.beq f 50 then some ref19_isHeaderct else none }
theorem ref19_WriteHeader_env : EnvOk PT ref19_WriteHeaderE := ⟨tyE, fun f ct h => by
  simp only [ref19_WriteHeaderE] at h
  refine envCons (c := ref19_isHeaderct) h ref19_isHeader_ctr (fun h => ?_)
  cases h⟩
noncomputable def ref19_WriteHeaderC : Code := bodyOf Go.Proofs.Try.f28
noncomputable def ref19_WriteHeaderH : Nat → Option Sum := fun n => none
theorem ref19_WriteHeader_bd (y : (Val TPage) × (Val THead)) : @Eq (Option ((Val TPage) × Int)) (exec ref19_WriteHeaderE ref19_WriteHeaderH ref19_WriteHeaderC (ref19_WriteHeaderI.mk' (show ref19_WriteHeaderI.D from y)) (kontF (Z := (Val TPage) × Int) ref19_WriteHeaderE Go.Proofs.Try.f28.results.toList ref19_WriteHeaderO (fun d => d))) (ref19_WriteHeaderF y) := by kernel_rfl
theorem ref19_WriteHeader_lo {w0 : World} {Jo : Io} (hfix : ∀ i b, Jo.fix i = some b → i ∈ []) (hmay : true = true → Jo.may) : LoopsOk PT w0 Jo ref19_WriteHeaderH ref19_WriteHeaderC := (noLoops (by kernel_rfl))
theorem ref19_WriteHeader_ctr : CtrOk PT 28 ref19_WriteHeaderct :=
  @ctr_ok PT ref19_WriteHeaderE ref19_WriteHeaderH ref19_WriteHeader_env mixed 28 Go.Proofs.Try.f28 ref19_WriteHeaderC (by kernel_rfl) (by kernel_rfl) (enters_of (by kernel_rfl : PT.funcs[28]? = some Go.Proofs.Try.f28) (by kernel_rfl) (by kernel_rfl)) ref19_WriteHeaderI ref19_WriteHeaderO ((Val TPage) × (Val THead)) ((Val TPage) × Int) (fun d => d) (fun d => d) (fun d => d) (fun d => d) (fun _ => rfl) (fun _ => rfl) (by kernel_rfl) (by kernel_rfl) ref19_WriteHeaderF ref19_WriteHeader_bd (fun w0 Jo hfix hmay => ref19_WriteHeader_lo hfix hmay)

/-- bodega/bodegaref19.Pack -/
noncomputable def ref19_Pack (a0 : Val TPtr) : Option Int :=
  (ref19_ValidPointer a0).bind fun r1 =>
  bif (!r1) then (
    some (0 : Int))
  else (
    some (IntKind.wrap .u32 ((IntKind.wrap .u32 a0.1) + (IntKind.wrap .u32 ((256 : Int) * (IntKind.wrap .u32 a0.2.1))))))
noncomputable def ref19_PackI : Shape := { n := 14, nx := 0, sl := [(0, .dat false TPtr)], ob := [], fix := [], may := true }
noncomputable def ref19_PackO : Shape := { n := 15, nx := 0, sl := [(14, .dat true (.int .u32))], ob := [], fix := [], may := true }
noncomputable def ref19_PackF : ((Val TPtr)) → Option Int := fun y => ref19_Pack y
noncomputable def ref19_Packct : Ctr := ctrOf ref19_PackI ref19_PackO (fun d => d) (fun d => d) ref19_PackF
noncomputable def ref19_PackE : Env := { tf := tfE, fn := fun f => bif Nat.beq f 55 then some ref19_ValidPointerct else none }
theorem ref19_Pack_env : EnvOk PT ref19_PackE := ⟨tyE, fun f ct h => by
  simp only [ref19_PackE] at h
  refine envCons (c := ref19_ValidPointerct) h ref19_ValidPointer_ctr (fun h => ?_)
  cases h⟩
noncomputable def ref19_PackC : Code := bodyOf Go.Proofs.Try.f59
noncomputable def ref19_PackH : Nat → Option Sum := fun n => none
theorem ref19_Pack_bd (y : (Val TPtr)) : @Eq (Option Int) (exec ref19_PackE ref19_PackH ref19_PackC (ref19_PackI.mk' (show ref19_PackI.D from y)) (kontF (Z := Int) ref19_PackE Go.Proofs.Try.f59.results.toList ref19_PackO (fun d => d))) (ref19_PackF y) := by kernel_rfl
theorem ref19_Pack_lo {w0 : World} {Jo : Io} (hfix : ∀ i b, Jo.fix i = some b → i ∈ []) (hmay : true = true → Jo.may) : LoopsOk PT w0 Jo ref19_PackH ref19_PackC := (noLoops (by kernel_rfl))
theorem ref19_Pack_ctr : CtrOk PT 59 ref19_Packct :=
  @ctr_ok PT ref19_PackE ref19_PackH ref19_Pack_env mixed 59 Go.Proofs.Try.f59 ref19_PackC (by kernel_rfl) (by kernel_rfl) (enters_of (by kernel_rfl : PT.funcs[59]? = some Go.Proofs.Try.f59) (by kernel_rfl) (by kernel_rfl)) ref19_PackI ref19_PackO ((Val TPtr)) Int (fun d => d) (fun d => d) (fun d => d) (fun d => d) (fun _ => rfl) (fun _ => rfl) (by kernel_rfl) (by kernel_rfl) ref19_PackF ref19_Pack_bd (fun w0 Jo hfix hmay => ref19_Pack_lo hfix hmay)

noncomputable def ref19_WriteNodeL1b (x0 : Int) (x1 : Val TNode) (x2 : Val TPage) (x3 : Val TPage) : Option ((Int × (Val TNode) × (Val TPage) × (Val TPage)) ⊕ (((Val TPage) × (Val TPage)) ⊕ (Int × (Val TPage)))) :=
  bif (decide (x0 < (4 : Int))) then (
    bif (inR x0 4) then
    bif (eqV TRet (List.getD x1.2.2.2.2.1 (Int.toNat x0) (((0 : Int), ((0 : Int), ())), ((0 : Int), ()))) (((0 : Int), ((0 : Int), ())), ((0 : Int), ()))) then (
      some (Sum.inl ((IntKind.wrap .i64 (x0 + (1 : Int))), (x1, (x2, x3)))))
    else (
      (ref19_ValidPointer (List.getD x1.2.2.2.2.1 (Int.toNat x0) (((0 : Int), ((0 : Int), ())), ((0 : Int), ()))).1).bind fun r1 =>
      bif (!r1) then (
        some (Sum.inr (Sum.inr ((1 : Int), ((0 : Int), ((0 : Int), ((List.replicate 7 (0 : Int)), ())))))))
      else (
        (ref19_Pack (List.getD x1.2.2.2.2.1 (Int.toNat x0) (((0 : Int), ((0 : Int), ())), ((0 : Int), ()))).1).bind fun r2 =>
        bif (inR (IntKind.wrap .i64 ((3 : Int) + x0)) 7) then
        some (Sum.inl ((IntKind.wrap .i64 (x0 + (1 : Int))), (x1, (x2, (x3.1, (x3.2.1, ((List.set x3.2.2.1 (Int.toNat (IntKind.wrap .i64 ((3 : Int) + x0))) (IntKind.wrap .u64 ((IntKind.wrap .u64 r2) + (shiftL .u64 (IntKind.wrap .u64 (List.getD x1.2.2.2.2.1 (Int.toNat x0) (((0 : Int), ((0 : Int), ())), ((0 : Int), ()))).2.1) (32 : Int))))), x3.2.2.2)))))))
        else none))
    else none)
  else (
    some (Sum.inr (Sum.inl (x2, x3))))
noncomputable def ref19_WriteNodeL1B : (Int × (Val TNode) × (Val TPage) × (Val TPage)) → Option ((Int × (Val TNode) × (Val TPage) × (Val TPage)) ⊕ (((Val TPage) × (Val TPage)) ⊕ (Int × (Val TPage)))) := fun y => ref19_WriteNodeL1b y.1 y.2.1 y.2.2.1 y.2.2.2
noncomputable def ref19_WriteNodeL1 (x0 : Int) (x1 : Val TNode) (x2 : Val TPage) (x3 : Val TPage) : Option (((Val TPage) × (Val TPage)) ⊕ (Int × (Val TPage))) := iter ref19_WriteNodeL1B (x0, (x1, (x2, x3)))
/-- bodega/bodegaref19.WriteNode -/
noncomputable def ref19_WriteNode (a0 : Val TPage) (a1 : Val TNode) : Option ((Val TPage) × Int) :=
  (ref19_isOwn a0.1).bind fun r1 =>
  bif (!r1) then (
    some (((0 : Int), ((0 : Int), ((List.replicate 7 (0 : Int)), ()))), (1 : Int)))
  else (
    bif (decide ((511 : Int) < a1.2.2.1)) then (
      some (((0 : Int), ((0 : Int), ((List.replicate 7 (0 : Int)), ()))), (1 : Int)))
    else (
      bif (decide (a1.2.2.2.1 < (0 : Int))) then (
        some (((0 : Int), ((0 : Int), ((List.replicate 7 (0 : Int)), ()))), (1 : Int)))
      else (
        bif (decide ((59 : Int) < a1.2.2.2.1)) then (
          some (((0 : Int), ((0 : Int), ((List.replicate 7 (0 : Int)), ()))), (1 : Int)))
        else (
          bif (!a1.1) then (
            bif (!(decide (a1.2.1 = (0 : Int)))) then (
              some (((0 : Int), ((0 : Int), ((List.replicate 7 (0 : Int)), ()))), (1 : Int)))
            else (
              bif a1.1 then (
                (ref19_WriteNodeL1 (0 : Int) a1 ((0 : Int), ((0 : Int), ((List.replicate 7 (0 : Int)), ()))) (a0.1, (a0.2.1, ((List.set (List.set (List.set (List.replicate 7 (0 : Int)) 0 (IntKind.wrap .u64 ((IntKind.wrap .u64 a1.2.1) + (1 : Int)))) 1 (IntKind.wrap .u64 a1.2.2.1)) 2 (IntKind.wrap .u64 a1.2.2.2.1)), ())))).bind fun r2 =>
                match r2 with
                | .inl r3 => (
                  some (r3.2, (0 : Int)))
                | .inr r4 => (
                  some (r4.2, r4.1)))
              else (
                (ref19_WriteNodeL1 (0 : Int) a1 ((0 : Int), ((0 : Int), ((List.replicate 7 (0 : Int)), ()))) (a0.1, (a0.2.1, ((List.set (List.set (List.replicate 7 (0 : Int)) 1 (IntKind.wrap .u64 a1.2.2.1)) 2 (IntKind.wrap .u64 a1.2.2.2.1)), ())))).bind fun r5 =>
                match r5 with
                | .inl r6 => (
                  some (r6.2, (0 : Int)))
                | .inr r7 => (
                  some (r7.2, r7.1)))))
          else (
            bif a1.1 then (
              (ref19_WriteNodeL1 (0 : Int) a1 ((0 : Int), ((0 : Int), ((List.replicate 7 (0 : Int)), ()))) (a0.1, (a0.2.1, ((List.set (List.set (List.set (List.replicate 7 (0 : Int)) 0 (IntKind.wrap .u64 ((IntKind.wrap .u64 a1.2.1) + (1 : Int)))) 1 (IntKind.wrap .u64 a1.2.2.1)) 2 (IntKind.wrap .u64 a1.2.2.2.1)), ())))).bind fun r8 =>
              match r8 with
              | .inl r9 => (
                some (r9.2, (0 : Int)))
              | .inr r10 => (
                some (r10.2, r10.1)))
            else (
              (ref19_WriteNodeL1 (0 : Int) a1 ((0 : Int), ((0 : Int), ((List.replicate 7 (0 : Int)), ()))) (a0.1, (a0.2.1, ((List.set (List.set (List.replicate 7 (0 : Int)) 1 (IntKind.wrap .u64 a1.2.2.1)) 2 (IntKind.wrap .u64 a1.2.2.2.1)), ())))).bind fun r11 =>
              match r11 with
              | .inl r12 => (
                some (r12.2, (0 : Int)))
              | .inr r13 => (
                some (r13.2, r13.1))))))))
noncomputable def ref19_WriteNodeI : Shape := { n := 92, nx := 0, sl := [(0, .dat false TPage), (1, .dat false TNode)], ob := [], fix := [], may := true }
noncomputable def ref19_WriteNodeO : Shape := { n := 93, nx := 0, sl := [(92, .tup (.cons (.dat true TPage) (.cons (.dat true (.int .i64)) (.nil))))], ob := [], fix := [], may := true }
noncomputable def ref19_WriteNodeF : ((Val TPage) × (Val TNode)) → Option ((Val TPage) × Int) := fun y => ref19_WriteNode y.1 y.2
noncomputable def ref19_WriteNodect : Ctr := ctrOf ref19_WriteNodeI ref19_WriteNodeO (fun d => d) (fun d => d) ref19_WriteNodeF
noncomputable def ref19_WriteNodeE : Env := { tf := tfE, fn := fun f => bif Nat.beq f 53 then some ref19_isOwnct else bif Nat.beq f 55 then some ref19_ValidPointerct else bif Nat.beq f 59 then some ref19_Packct else none }
theorem ref19_WriteNode_env : EnvOk PT ref19_WriteNodeE := ⟨tyE, fun f ct h => by
  simp only [ref19_WriteNodeE] at h
  refine envCons (c := ref19_isOwnct) h ref19_isOwn_ctr (fun h => ?_)
  refine envCons (c := ref19_ValidPointerct) h ref19_ValidPointer_ctr (fun h => ?_)
  refine envCons (c := ref19_Packct) h ref19_Pack_ctr (fun h => ?_)
  cases h⟩
noncomputable def ref19_WriteNodeC : Code := bodyOf Go.Proofs.Try.f30
noncomputable def ref19_WriteNodeL1C : Code := (loopsOf ref19_WriteNodeC).getD 0 .skip
noncomputable def ref19_WriteNodeL1S : Shape := { n := 92, nx := 3, sl := [(3, .ref 0 []), (4, .ref 1 []), (6, .ref 2 []), (7, .dat true (.int .i64))], ob := [(0, .box TNode (.dat false TNode)), (1, .box TPage (.dat true TPage)), (2, .box TPage (.dat true TPage))], fix := [], may := true }
noncomputable def ref19_WriteNodeL1O : List (Ex × Shape) := [(.exit 0, { n := 92, nx := 2, sl := [(4, .ref 0 []), (6, .ref 1 [])], ob := [(0, .box TPage (.dat true TPage)), (1, .box TPage (.dat true TPage))], fix := [], may := true }), (.ret, { n := 92, nx := 1, sl := [(4, .ref 0 []), (5, .dat true (.int .i64))], ob := [(0, .box TPage (.dat true TPage))], fix := [], may := true })]
noncomputable def ref19_WriteNodeL1M : Sum := loopSum (Y := Int × (Val TNode) × (Val TPage) × (Val TPage)) (Z := ((Val TPage) × (Val TPage)) ⊕ (Int × (Val TPage))) ref19_WriteNodeL1S ref19_WriteNodeL1O (fun d => d) (fun d => d) (iter ref19_WriteNodeL1B)
noncomputable def ref19_WriteNodeH : Nat → Option Sum := fun n => bif Nat.beq n 9 then some ref19_WriteNodeL1M else none
theorem ref19_WriteNodeL1_bd (y : Int × (Val TNode) × (Val TPage) × (Val TPage)) : @Eq (Option ((Int × (Val TNode) × (Val TPage) × (Val TPage)) ⊕ (((Val TPage) × (Val TPage)) ⊕ (Int × (Val TPage))))) (exec ref19_WriteNodeE ref19_WriteNodeH ref19_WriteNodeL1C (ref19_WriteNodeL1S.mk' (show ref19_WriteNodeL1S.D from y)) (kont (Y := Int × (Val TNode) × (Val TPage) × (Val TPage)) (Z := ((Val TPage) × (Val TPage)) ⊕ (Int × (Val TPage))) ref19_WriteNodeL1S ref19_WriteNodeL1O (fun d => d) (fun d => d))) (ref19_WriteNodeL1B y) := by kernel_rfl
theorem ref19_WriteNodeL1_ok {w0 : World} {Jo : Io} (hfix : ∀ i b, Jo.fix i = some b → i ∈ []) (hmay : true = true → Jo.may) : SumOk PT w0 Jo ref19_WriteNodeL1M (.loop ref19_WriteNodeL1C) :=
  @loop_ok w0 Jo PT ref19_WriteNodeE ref19_WriteNodeH (Int × (Val TNode) × (Val TPage) × (Val TPage)) (((Val TPage) × (Val TPage)) ⊕ (Int × (Val TPage))) ref19_WriteNode_env mixed ref19_WriteNodeL1C ref19_WriteNodeL1S ref19_WriteNodeL1O (fun d => d) (fun d => d) (fun d => d) (fun d => d) (fun _ => rfl) (fun _ => rfl) hfix hmay (by kernel_rfl) (noLoops (by kernel_rfl)) ref19_WriteNodeL1B ref19_WriteNodeL1_bd
theorem ref19_WriteNode_bd (y : (Val TPage) × (Val TNode)) : @Eq (Option ((Val TPage) × Int)) (exec ref19_WriteNodeE ref19_WriteNodeH ref19_WriteNodeC (ref19_WriteNodeI.mk' (show ref19_WriteNodeI.D from y)) (kontF (Z := (Val TPage) × Int) ref19_WriteNodeE Go.Proofs.Try.f30.results.toList ref19_WriteNodeO (fun d => d))) (ref19_WriteNodeF y) := by kernel_rfl
theorem ref19_WriteNode_lo {w0 : World} {Jo : Io} (hfix : ∀ i b, Jo.fix i = some b → i ∈ []) (hmay : true = true → Jo.may) : LoopsOk PT w0 Jo ref19_WriteNodeH ref19_WriteNodeC := (loopsMk (by kernel_rfl) (loopsCons (c := ref19_WriteNodeL1C) (n := 9) (f := ref19_WriteNodeL1M) (by kernel_rfl) (by kernel_rfl) (ref19_WriteNodeL1_ok hfix hmay) loopsNil))
theorem ref19_WriteNode_ctr : CtrOk PT 30 ref19_WriteNodect :=
  @ctr_ok PT ref19_WriteNodeE ref19_WriteNodeH ref19_WriteNode_env mixed 30 Go.Proofs.Try.f30 ref19_WriteNodeC (by kernel_rfl) (by kernel_rfl) (enters_of (by kernel_rfl : PT.funcs[30]? = some Go.Proofs.Try.f30) (by kernel_rfl) (by kernel_rfl)) ref19_WriteNodeI ref19_WriteNodeO ((Val TPage) × (Val TNode)) ((Val TPage) × Int) (fun d => d) (fun d => d) (fun d => d) (fun d => d) (fun _ => rfl) (fun _ => rfl) (by kernel_rfl) (by kernel_rfl) ref19_WriteNodeF ref19_WriteNode_bd (fun w0 Jo hfix hmay => ref19_WriteNode_lo hfix hmay)

/-- bodega/bodegalaw20.same -/
noncomputable def law20_same (a0 : Val TPage) (a1 : Val TPage) : Option Bool :=
  bif (decide (a0.1 = a1.1)) then (
    bif (decide (a0.2.1 = a1.2.1)) then (
      some (eqV (.arr 7 (.int .u64)) a0.2.2.1 a1.2.2.1))
    else (
      some false))
  else (
    some false)
noncomputable def law20_sameI : Shape := { n := 24, nx := 0, sl := [(0, .dat false TPage), (1, .dat false TPage)], ob := [], fix := [], may := true }
noncomputable def law20_sameO : Shape := { n := 25, nx := 0, sl := [(24, .dat true .bool)], ob := [], fix := [], may := true }
noncomputable def law20_sameF : ((Val TPage) × (Val TPage)) → Option Bool := fun y => law20_same y.1 y.2
noncomputable def law20_samect : Ctr := ctrOf law20_sameI law20_sameO (fun d => d) (fun d => d) law20_sameF
noncomputable def law20_sameE : Env := { tf := tfE, fn := fun f => none }
theorem law20_same_env : EnvOk PT law20_sameE := ⟨tyE, fun f ct h => by
  simp only [law20_sameE] at h
  cases h⟩
noncomputable def law20_sameC : Code := bodyOf Go.Proofs.Try.f31
noncomputable def law20_sameH : Nat → Option Sum := fun n => none
theorem law20_same_bd (y : (Val TPage) × (Val TPage)) : @Eq (Option Bool) (exec law20_sameE law20_sameH law20_sameC (law20_sameI.mk' (show law20_sameI.D from y)) (kontF (Z := Bool) law20_sameE Go.Proofs.Try.f31.results.toList law20_sameO (fun d => d))) (law20_sameF y) := by kernel_rfl
theorem law20_same_lo {w0 : World} {Jo : Io} (hfix : ∀ i b, Jo.fix i = some b → i ∈ []) (hmay : true = true → Jo.may) : LoopsOk PT w0 Jo law20_sameH law20_sameC := (noLoops (by kernel_rfl))
theorem law20_same_ctr : CtrOk PT 31 law20_samect :=
  @ctr_ok PT law20_sameE law20_sameH law20_same_env mixed 31 Go.Proofs.Try.f31 law20_sameC (by kernel_rfl) (by kernel_rfl) (enters_of (by kernel_rfl : PT.funcs[31]? = some Go.Proofs.Try.f31) (by kernel_rfl) (by kernel_rfl)) law20_sameI law20_sameO ((Val TPage) × (Val TPage)) Bool (fun d => d) (fun d => d) (fun d => d) (fun d => d) (fun _ => rfl) (fun _ => rfl) (by kernel_rfl) (by kernel_rfl) law20_sameF law20_same_bd (fun w0 Jo hfix hmay => law20_same_lo hfix hmay)

noncomputable def law20_SegmentPagesL1b (x0 : Int) (x1 : Val TPage) (x2 : Val THead) (x3 : Val TNode) : Option ((Int × (Val TPage) × (Val THead) × (Val TNode)) ⊕ ((Val TPage) × (Val THead) × (Val TNode))) :=
  bif (decide (x0 < (4 : Int))) then (
    bif (inR x0 4) then
    (hand_Pick (List.getD x3.2.2.2.2.1 (Int.toNat x0) (((0 : Int), ((0 : Int), ())), ((0 : Int), ()))).1.1 (158 : Int)).bind fun r1 =>
    bif (inR x0 4) then
    (hand_Pick (List.getD x3.2.2.2.2.1 (Int.toNat x0) (((0 : Int), ((0 : Int), ())), ((0 : Int), ()))).1.2.1 (4 : Int)).bind fun r2 =>
    bif (inR x0 4) then
    bif (inR x0 4) then
    bif (decide ((List.getD (List.set x3.2.2.2.2.1 (Int.toNat x0) (((IntKind.wrap .i64 ((100 : Int) + r1)), (r2, ())), (List.getD x3.2.2.2.2.1 (Int.toNat x0) (((0 : Int), ((0 : Int), ())), ((0 : Int), ()))).2)) (Int.toNat x0) (((0 : Int), ((0 : Int), ())), ((0 : Int), ()))).1.2.1 = (0 : Int))) then (
      bif (inR x0 4) then
      some (Sum.inl ((IntKind.wrap .i64 (x0 + (1 : Int))), (x1, (x2, (x3.1, (x3.2.1, (x3.2.2.1, (x3.2.2.2.1, ((List.set (List.set x3.2.2.2.2.1 (Int.toNat x0) (((IntKind.wrap .i64 ((100 : Int) + r1)), (r2, ())), (List.getD x3.2.2.2.2.1 (Int.toNat x0) (((0 : Int), ((0 : Int), ())), ((0 : Int), ()))).2)) (Int.toNat x0) (((0 : Int), ((0 : Int), ())), ((0 : Int), ()))), x3.2.2.2.2.2)))))))))
      else none)
    else (
      some (Sum.inl ((IntKind.wrap .i64 (x0 + (1 : Int))), (x1, (x2, (x3.1, (x3.2.1, (x3.2.2.1, (x3.2.2.2.1, ((List.set x3.2.2.2.2.1 (Int.toNat x0) (((IntKind.wrap .i64 ((100 : Int) + r1)), (r2, ())), (List.getD x3.2.2.2.2.1 (Int.toNat x0) (((0 : Int), ((0 : Int), ())), ((0 : Int), ()))).2)), x3.2.2.2.2.2))))))))))
    else none
    else none
    else none
    else none)
  else (
    some (Sum.inr (x1, (x2, x3))))
noncomputable def law20_SegmentPagesL1B : (Int × (Val TPage) × (Val THead) × (Val TNode)) → Option ((Int × (Val TPage) × (Val THead) × (Val TNode)) ⊕ ((Val TPage) × (Val THead) × (Val TNode))) := fun y => law20_SegmentPagesL1b y.1 y.2.1 y.2.2.1 y.2.2.2
noncomputable def law20_SegmentPagesL1 (x0 : Int) (x1 : Val TPage) (x2 : Val THead) (x3 : Val TNode) : Option ((Val TPage) × (Val THead) × (Val TNode)) := iter law20_SegmentPagesL1B (x0, (x1, (x2, x3)))
/-- bodega/bodegalaw20.SegmentPages -/
noncomputable def law20_SegmentPages (a0 : Val TPage) (a1 : Int) (a2 : Val THead) (a3 : Val TNode) : Option Bool :=
  (law20_nearby a0 a1).bind fun r1 =>
  (hand_Pick (IntKind.wrap .i64 (Int.tdiv a1 (4 : Int))) (3 : Int)).bind fun r2 =>
  bif (decide ((0 : Int) < r2)) then (
    (hand_Pick a2.1 (9 : Int)).bind fun r3 =>
    (hand_Pick a3.2.2.2.1 (204 : Int)).bind fun r4 =>
    (law20_SegmentPagesL1 (0 : Int) r1 ((IntKind.wrap .i64 (r3 - (2 : Int))), ((IntKind.wrap .u32 ((BitVec.ofInt (IntKind.bits .u32) (Int.tmod a2.2.1 (131072 : Int)) &&& ~~~ BitVec.ofInt (IntKind.bits .u32) (shiftR .u32 a2.2.1 (31 : Int))).toNat : Int)), a2.2.2)) (a3.1, (a3.2.1, ((Int.tmod a3.2.2.1 (520 : Int)), ((IntKind.wrap .i64 (r4 - (1 : Int))), a3.2.2.2.2))))).bind fun r5 =>
    bif (!r5.2.2.1) then (
      (segment_ReadHeader r5.1).bind fun r6 =>
      (ref19_ReadHeader r5.1).bind fun r7 =>
      (segment_ReadNode r5.1).bind fun r8 =>
      (ref19_ReadNode r5.1).bind fun r9 =>
      (law20_awake).bind fun r10 =>
      bif (!r10) then (
        some false)
      else (
        bif (!(decide (r6.2 = r7.2))) then (
          some false)
        else (
          bif (!(decide (r8.2 = r9.2))) then (
            some false)
          else (
            (law20_header r6.1).bind fun r11 =>
            bif (!(eqV THead r11 r7.1)) then (
              some false)
            else (
              (law20_node r8.1).bind fun r12 =>
              bif (!(eqV TNode r12 r9.1)) then (
                some false)
              else (
                (segment_WriteHeader r5.1 r5.2.1).bind fun r13 =>
                (law20_header r5.2.1).bind fun r14 =>
                (ref19_WriteHeader r5.1 r14).bind fun r15 =>
                (segment_WriteNode r5.1 (r5.2.2.1, ((IntKind.wrap .u32 (Int.tdiv (Int.tmod r5.2.2.2.1 (20 : Int)) (19 : Int))), r5.2.2.2.2))).bind fun r16 =>
                (law20_node (r5.2.2.1, ((IntKind.wrap .u32 (Int.tdiv (Int.tmod r5.2.2.2.1 (20 : Int)) (19 : Int))), r5.2.2.2.2))).bind fun r17 =>
                (ref19_WriteNode r5.1 r17).bind fun r18 =>
                bif (decide (r13.2 = r15.2)) then (
                  bif (decide (r16.2 = r18.2)) then (
                    (law20_same r13.1 r15.1).bind fun r19 =>
                    bif r19 then (
                      (law20_same r16.1 r18.1).bind fun r20 =>
                      some r20)
                    else (
                      some false))
                  else (
                    some false))
                else (
                  some false)))))))
    else (
      (segment_ReadHeader r5.1).bind fun r21 =>
      (ref19_ReadHeader r5.1).bind fun r22 =>
      (segment_ReadNode r5.1).bind fun r23 =>
      (ref19_ReadNode r5.1).bind fun r24 =>
      (law20_awake).bind fun r25 =>
      bif (!r25) then (
        some false)
      else (
        bif (!(decide (r21.2 = r22.2))) then (
          some false)
        else (
          bif (!(decide (r23.2 = r24.2))) then (
            some false)
          else (
            (law20_header r21.1).bind fun r26 =>
            bif (!(eqV THead r26 r22.1)) then (
              some false)
            else (
              (law20_node r23.1).bind fun r27 =>
              bif (!(eqV TNode r27 r24.1)) then (
                some false)
              else (
                (segment_WriteHeader r5.1 r5.2.1).bind fun r28 =>
                (law20_header r5.2.1).bind fun r29 =>
                (ref19_WriteHeader r5.1 r29).bind fun r30 =>
                (segment_WriteNode r5.1 r5.2.2).bind fun r31 =>
                (law20_node r5.2.2).bind fun r32 =>
                (ref19_WriteNode r5.1 r32).bind fun r33 =>
                bif (decide (r28.2 = r30.2)) then (
                  bif (decide (r31.2 = r33.2)) then (
                    (law20_same r28.1 r30.1).bind fun r34 =>
                    bif r34 then (
                      (law20_same r31.1 r33.1).bind fun r35 =>
                      some r35)
                    else (
                      some false))
                  else (
                    some false))
                else (
                  some false))))))))
  else (
    (segment_ReadHeader r1).bind fun r36 =>
    (ref19_ReadHeader r1).bind fun r37 =>
    (segment_ReadNode r1).bind fun r38 =>
    (ref19_ReadNode r1).bind fun r39 =>
    (law20_awake).bind fun r40 =>
    bif (!r40) then (
      some false)
    else (
      bif (!(decide (r36.2 = r37.2))) then (
        some false)
      else (
        bif (!(decide (r38.2 = r39.2))) then (
          some false)
        else (
          (law20_header r36.1).bind fun r41 =>
          bif (!(eqV THead r41 r37.1)) then (
            some false)
          else (
            (law20_node r38.1).bind fun r42 =>
            bif (!(eqV TNode r42 r39.1)) then (
              some false)
            else (
              (segment_WriteHeader r1 a2).bind fun r43 =>
              (law20_header a2).bind fun r44 =>
              (ref19_WriteHeader r1 r44).bind fun r45 =>
              (segment_WriteNode r1 a3).bind fun r46 =>
              (law20_node a3).bind fun r47 =>
              (ref19_WriteNode r1 r47).bind fun r48 =>
              bif (decide (r43.2 = r45.2)) then (
                bif (decide (r46.2 = r48.2)) then (
                  (law20_same r43.1 r45.1).bind fun r49 =>
                  bif r49 then (
                    (law20_same r46.1 r48.1).bind fun r50 =>
                    some r50)
                  else (
                    some false))
                else (
                  some false))
              else (
                some false)))))))
noncomputable def law20_SegmentPagesI : Shape := { n := 182, nx := 0, sl := [(0, .dat false TPage), (1, .dat false (.int .i64)), (2, .dat false THead), (3, .dat false TNode)], ob := [], fix := [], may := true }
noncomputable def law20_SegmentPagesO : Shape := { n := 183, nx := 0, sl := [(182, .dat true .bool)], ob := [], fix := [], may := true }
noncomputable def law20_SegmentPagesF : ((Val TPage) × Int × (Val THead) × (Val TNode)) → Option Bool := fun y => law20_SegmentPages y.1 y.2.1 y.2.2.1 y.2.2.2
noncomputable def law20_SegmentPagesct : Ctr := ctrOf law20_SegmentPagesI law20_SegmentPagesO (fun d => d) (fun d => d) law20_SegmentPagesF
noncomputable def law20_SegmentPagesE : Env := { tf := tfE, fn := fun f => bif Nat.beq f 19 then some law20_nearbyct else bif Nat.beq f 10 then some hand_Pickct else bif Nat.beq f 20 then some segment_ReadHeaderct else bif Nat.beq f 21 then some ref19_ReadHeaderct else bif Nat.beq f 22 then some segment_ReadNodect else bif Nat.beq f 23 then some ref19_ReadNodect else bif Nat.beq f 24 then some law20_awakect else bif Nat.beq f 25 then some law20_headerct else bif Nat.beq f 26 then some law20_nodect else bif Nat.beq f 27 then some segment_WriteHeaderct else bif Nat.beq f 28 then some ref19_WriteHeaderct else bif Nat.beq f 29 then some segment_WriteNodect else bif Nat.beq f 30 then some ref19_WriteNodect else bif Nat.beq f 31 then some law20_samect else none }
theorem law20_SegmentPages_env : EnvOk PT law20_SegmentPagesE := ⟨tyE, fun f ct h => by
  simp only [law20_SegmentPagesE] at h
  refine envCons (c := law20_nearbyct) h law20_nearby_ctr (fun h => ?_)
  refine envCons (c := hand_Pickct) h hand_Pick_ctr (fun h => ?_)
  refine envCons (c := segment_ReadHeaderct) h segment_ReadHeader_ctr (fun h => ?_)
  refine envCons (c := ref19_ReadHeaderct) h ref19_ReadHeader_ctr (fun h => ?_)
  refine envCons (c := segment_ReadNodect) h segment_ReadNode_ctr (fun h => ?_)
  refine envCons (c := ref19_ReadNodect) h ref19_ReadNode_ctr (fun h => ?_)
  refine envCons (c := law20_awakect) h law20_awake_ctr (fun h => ?_)
  refine envCons (c := law20_headerct) h law20_header_ctr (fun h => ?_)
  refine envCons (c := law20_nodect) h law20_node_ctr (fun h => ?_)
  refine envCons (c := segment_WriteHeaderct) h segment_WriteHeader_ctr (fun h => ?_)
  refine envCons (c := ref19_WriteHeaderct) h ref19_WriteHeader_ctr (fun h => ?_)
  refine envCons (c := segment_WriteNodect) h segment_WriteNode_ctr (fun h => ?_)
  refine envCons (c := ref19_WriteNodect) h ref19_WriteNode_ctr (fun h => ?_)
  refine envCons (c := law20_samect) h law20_same_ctr (fun h => ?_)
  cases h⟩
noncomputable def law20_SegmentPagesC : Code := bodyOf Go.Proofs.Try.f4
noncomputable def law20_SegmentPagesL1C : Code := (loopsOf law20_SegmentPagesC).getD 0 .skip
noncomputable def law20_SegmentPagesL1S : Shape := { n := 182, nx := 3, sl := [(4, .ref 0 []), (6, .ref 1 []), (7, .ref 2 []), (9, .dat true (.int .i64))], ob := [(0, .box TPage (.dat true TPage)), (1, .box THead (.dat false THead)), (2, .box TNode (.dat false TNode))], fix := [], may := true }
noncomputable def law20_SegmentPagesL1O : List (Ex × Shape) := [(.exit 0, { n := 182, nx := 3, sl := [(4, .ref 0 []), (6, .ref 1 []), (7, .ref 2 [])], ob := [(0, .box TPage (.dat true TPage)), (1, .box THead (.dat false THead)), (2, .box TNode (.dat false TNode))], fix := [], may := true })]
noncomputable def law20_SegmentPagesL1M : Sum := loopSum (Y := Int × (Val TPage) × (Val THead) × (Val TNode)) (Z := (Val TPage) × (Val THead) × (Val TNode)) law20_SegmentPagesL1S law20_SegmentPagesL1O (fun d => d) (fun d => d) (iter law20_SegmentPagesL1B)
noncomputable def law20_SegmentPagesH : Nat → Option Sum := fun n => bif Nat.beq n 7 then some law20_SegmentPagesL1M else none
theorem law20_SegmentPagesL1_bd (y : Int × (Val TPage) × (Val THead) × (Val TNode)) : @Eq (Option ((Int × (Val TPage) × (Val THead) × (Val TNode)) ⊕ ((Val TPage) × (Val THead) × (Val TNode)))) (exec law20_SegmentPagesE law20_SegmentPagesH law20_SegmentPagesL1C (law20_SegmentPagesL1S.mk' (show law20_SegmentPagesL1S.D from y)) (kont (Y := Int × (Val TPage) × (Val THead) × (Val TNode)) (Z := (Val TPage) × (Val THead) × (Val TNode)) law20_SegmentPagesL1S law20_SegmentPagesL1O (fun d => d) (fun d => d))) (law20_SegmentPagesL1B y) := by kernel_rfl
theorem law20_SegmentPagesL1_ok {w0 : World} {Jo : Io} (hfix : ∀ i b, Jo.fix i = some b → i ∈ []) (hmay : true = true → Jo.may) : SumOk PT w0 Jo law20_SegmentPagesL1M (.loop law20_SegmentPagesL1C) :=
  @loop_ok w0 Jo PT law20_SegmentPagesE law20_SegmentPagesH (Int × (Val TPage) × (Val THead) × (Val TNode)) ((Val TPage) × (Val THead) × (Val TNode)) law20_SegmentPages_env mixed law20_SegmentPagesL1C law20_SegmentPagesL1S law20_SegmentPagesL1O (fun d => d) (fun d => d) (fun d => d) (fun d => d) (fun _ => rfl) (fun _ => rfl) hfix hmay (by kernel_rfl) (noLoops (by kernel_rfl)) law20_SegmentPagesL1B law20_SegmentPagesL1_bd
theorem law20_SegmentPages_bd (y : (Val TPage) × Int × (Val THead) × (Val TNode)) : @Eq (Option Bool) (exec law20_SegmentPagesE law20_SegmentPagesH law20_SegmentPagesC (law20_SegmentPagesI.mk' (show law20_SegmentPagesI.D from y)) (kontF (Z := Bool) law20_SegmentPagesE Go.Proofs.Try.f4.results.toList law20_SegmentPagesO (fun d => d))) (law20_SegmentPagesF y) := by kernel_rfl
theorem law20_SegmentPages_lo {w0 : World} {Jo : Io} (hfix : ∀ i b, Jo.fix i = some b → i ∈ []) (hmay : true = true → Jo.may) : LoopsOk PT w0 Jo law20_SegmentPagesH law20_SegmentPagesC := (loopsMk (by kernel_rfl) (loopsCons (c := law20_SegmentPagesL1C) (n := 7) (f := law20_SegmentPagesL1M) (by kernel_rfl) (by kernel_rfl) (law20_SegmentPagesL1_ok hfix hmay) loopsNil))
theorem law20_SegmentPages_ctr : CtrOk PT 4 law20_SegmentPagesct :=
  @ctr_ok PT law20_SegmentPagesE law20_SegmentPagesH law20_SegmentPages_env mixed 4 Go.Proofs.Try.f4 law20_SegmentPagesC (by kernel_rfl) (by kernel_rfl) (enters_of (by kernel_rfl : PT.funcs[4]? = some Go.Proofs.Try.f4) (by kernel_rfl) (by kernel_rfl)) law20_SegmentPagesI law20_SegmentPagesO ((Val TPage) × Int × (Val THead) × (Val TNode)) Bool (fun d => d) (fun d => d) (fun d => d) (fun d => d) (fun _ => rfl) (fun _ => rfl) (by kernel_rfl) (by kernel_rfl) law20_SegmentPagesF law20_SegmentPages_bd (fun w0 Jo hfix hmay => law20_SegmentPages_lo hfix hmay)

end Go.Sx
