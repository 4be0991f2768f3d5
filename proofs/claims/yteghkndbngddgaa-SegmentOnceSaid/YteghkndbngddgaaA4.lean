/- A4: printed by a program of this session: the functions of the seat as plain functions, and that the code comes to them. -/
import Derived.Test.YteghkndbngddgaaA0
set_option linter.unusedVariables false
set_option maxRecDepth 100000
namespace Go.Sx
open Go.RowKit
noncomputable def str2 : ByteArray := (ByteArray.mk (List.toArray (List.append (List.append [0, 1, 1, 2, 1, 2, 2, 3, 1, 2, 2, 3, 2, 3, 3, 4, 1, 2, 2, 3, 2, 3, 3, 4, 2, 3, 3, 4, 3, 4, 4, 5, 1, 2, 2, 3, 2, 3, 3, 4, 2, 3, 3, 4, 3, 4, 4, 5, 2, 3, 3, 4, 3, 4, 4, 5, 3, 4, 4, 5, 4, 5, 5, 6] [1, 2, 2, 3, 2, 3, 3, 4, 2, 3, 3, 4, 3, 4, 4, 5, 2, 3, 3, 4, 3, 4, 4, 5, 3, 4, 4, 5, 4, 5, 5, 6, 2, 3, 3, 4, 3, 4, 4, 5, 3, 4, 4, 5, 4, 5, 5, 6, 3, 4, 4, 5, 4, 5, 5, 6, 4, 5, 5, 6, 5, 6, 6, 7]) (List.append [1, 2, 2, 3, 2, 3, 3, 4, 2, 3, 3, 4, 3, 4, 4, 5, 2, 3, 3, 4, 3, 4, 4, 5, 3, 4, 4, 5, 4, 5, 5, 6, 2, 3, 3, 4, 3, 4, 4, 5, 3, 4, 4, 5, 4, 5, 5, 6, 3, 4, 4, 5, 4, 5, 5, 6, 4, 5, 5, 6, 5, 6, 6, 7] [2, 3, 3, 4, 3, 4, 4, 5, 3, 4, 4, 5, 4, 5, 5, 6, 3, 4, 4, 5, 4, 5, 5, 6, 4, 5, 5, 6, 5, 6, 6, 7, 3, 4, 4, 5, 4, 5, 5, 6, 4, 5, 5, 6, 5, 6, 6, 7, 4, 5, 5, 6, 5, 6, 6, 7, 5, 6, 6, 7, 6, 7, 7, 8]))))
/-- bodega/bodegaheap.Size -/
noncomputable def heap_Size (a0 : Int) : Option Int :=
  (hand_Pick a0 (5 : Int)).bind fun r1 =>
  some (IntKind.wrap .i64 ((104 : Int) + (IntKind.wrap .i64 ((16 : Int) * (IntKind.wrap .i64 ((1 : Int) + r1))))))
noncomputable def heap_SizeI : Shape := { n := 8, nx := 0, sl := [(0, .dat false (.int .i64))], ob := [], fix := [], may := true }
noncomputable def heap_SizeO : Shape := { n := 9, nx := 0, sl := [(8, .dat true (.int .i64))], ob := [], fix := [], may := true }
noncomputable def heap_SizeF : Int → Option Int := fun y => heap_Size y
noncomputable def heap_Sizect : Ctr := ctrOf heap_SizeI heap_SizeO (fun d => d) (fun d => d) heap_SizeF
noncomputable def heap_SizeE : Env := { tf := tfE, mt := mtE, fn := fun f => bif Nat.beq f 10 then some hand_Pickct else none }
theorem heap_Size_env : EnvOk PT heap_SizeE := ⟨tyE, (fun f ct h => by
  simp only [heap_SizeE] at h
  refine envCons (c := hand_Pickct) h hand_Pick_ctr (fun h => ?_)
  cases h), mapE⟩
noncomputable def heap_SizeC : Code := bodyOf Go.Proofs.Try.f41
noncomputable def heap_SizeH : Nat → Option Sum := fun n => none
theorem heap_Size_bd (y : Int) : @Eq (Option Int) (exec heap_SizeE heap_SizeH heap_SizeC (heap_SizeI.mk' (show heap_SizeI.D from y)) (kontF (Z := Int) heap_SizeE Go.Proofs.Try.f41.results.toList heap_SizeO (fun d => d))) (heap_SizeF y) := by kernel_rfl
theorem heap_Size_lo {w0 : World} {Jo : Io} (hfix : ∀ i b, Jo.fix i = some b → i ∈ []) (hmay : true = true → Jo.may) : LoopsOk PT w0 Jo heap_SizeH heap_SizeC := (noLoops (by kernel_rfl))
theorem heap_Size_ctr : CtrOk PT 41 heap_Sizect :=
  @ctr_ok PT heap_SizeE heap_SizeH heap_Size_env mixed 41 Go.Proofs.Try.f41 heap_SizeC (by kernel_rfl) (by kernel_rfl) (enters_of (by kernel_rfl : PT.funcs[41]? = some Go.Proofs.Try.f41) (by kernel_rfl) (by kernel_rfl)) heap_SizeI heap_SizeO Int Int (fun d => d) (fun d => d) (fun d => d) (fun d => d) (fun _ => rfl) (fun _ => rfl) (by kernel_rfl) (by kernel_rfl) heap_SizeF heap_Size_bd (fun w0 Jo hfix hmay => heap_Size_lo hfix hmay)

noncomputable def heap_Heap_CommitL1b (x0 : Val (.slice TPage)) (x1 : Int) (x2 : Int) (x3 : Int) (x4 : Val (.pair (.int .i64) THead)) (x5 : Val (.slice TPage)) : Option (((Val (.slice TPage)) × Int × Int × Int × (Val (.pair (.int .i64) THead)) × (Val (.slice TPage))) ⊕ (Int × Int × (Val (.pair (.int .i64) THead)) × (Val (.slice TPage)))) :=
  bif (decide (x1 < (((List.length x0) : Nat) : Int))) then (
    bif (inR x1 (List.length x0)) then
    bif (decide ((0 : Int) ≤ (IntKind.wrap .i64 ((List.getD x0 (Int.toNat x1) ((0 : Int), ((0 : Int), ((List.replicate 7 (0 : Int)), ())))).1 - (96 : Int))))) then (
      bif (decide ((IntKind.wrap .i64 ((List.getD x0 (Int.toNat x1) ((0 : Int), ((0 : Int), ((List.replicate 7 (0 : Int)), ())))).1 - (96 : Int))) < (((List.length x5) : Nat) : Int))) then (
        bif (inR x1 (List.length x0)) then
        bif (inR (IntKind.wrap .i64 ((List.getD x0 (Int.toNat x1) ((0 : Int), ((0 : Int), ((List.replicate 7 (0 : Int)), ())))).1 - (96 : Int))) (List.length x5)) then
        bif (inR (IntKind.wrap .i64 ((List.getD x0 (Int.toNat x1) ((0 : Int), ((0 : Int), ((List.replicate 7 (0 : Int)), ())))).1 - (96 : Int))) (List.length x5)) then
        some (Sum.inl (x0, ((IntKind.wrap .i64 (x1 + (1 : Int))), (x2, (x3, (x4, (List.set x5 (Int.toNat (IntKind.wrap .i64 ((List.getD x0 (Int.toNat x1) ((0 : Int), ((0 : Int), ((List.replicate 7 (0 : Int)), ())))).1 - (96 : Int)))) ((List.getD x0 (Int.toNat x1) ((0 : Int), ((0 : Int), ((List.replicate 7 (0 : Int)), ())))).1, ((IntKind.wrap .u64 ((IntKind.wrap .u64 ((IntKind.wrap .u64 (Int.tdiv (List.getD x5 (Int.toNat (IntKind.wrap .i64 ((List.getD x0 (Int.toNat x1) ((0 : Int), ((0 : Int), ((List.replicate 7 (0 : Int)), ())))).1 - (96 : Int)))) ((0 : Int), ((0 : Int), ((List.replicate 7 (0 : Int)), ())))).2.1 (256 : Int))) + (1 : Int))) * (256 : Int))), (List.getD x0 (Int.toNat x1) ((0 : Int), ((0 : Int), ((List.replicate 7 (0 : Int)), ())))).2.2)))))))))
        else none
        else none
        else none)
      else (
        some (Sum.inl (x0, ((IntKind.wrap .i64 (x1 + (1 : Int))), (x2, (x3, (x4, x5))))))))
    else (
      some (Sum.inl (x0, ((IntKind.wrap .i64 (x1 + (1 : Int))), (x2, (x3, (x4, x5)))))))
    else none)
  else (
    some (Sum.inr (x2, (x3, (x4, x5)))))
noncomputable def heap_Heap_CommitL1B : ((Val (.slice TPage)) × Int × Int × Int × (Val (.pair (.int .i64) THead)) × (Val (.slice TPage))) → Option (((Val (.slice TPage)) × Int × Int × Int × (Val (.pair (.int .i64) THead)) × (Val (.slice TPage))) ⊕ (Int × Int × (Val (.pair (.int .i64) THead)) × (Val (.slice TPage)))) := fun y => heap_Heap_CommitL1b y.1 y.2.1 y.2.2.1 y.2.2.2.1 y.2.2.2.2.1 y.2.2.2.2.2
noncomputable def heap_Heap_CommitL1 (x0 : Val (.slice TPage)) (x1 : Int) (x2 : Int) (x3 : Int) (x4 : Val (.pair (.int .i64) THead)) (x5 : Val (.slice TPage)) : Option (Int × Int × (Val (.pair (.int .i64) THead)) × (Val (.slice TPage))) := iter heap_Heap_CommitL1B (x0, (x1, (x2, (x3, (x4, x5)))))
/-- (*bodega/bodegaheap.Heap).Commit -/
noncomputable def heap_Heap_Commit (a0 : Val (.slice TPage)) (a1 : Int) (a2 : Int) (a3 : Val (.pair (.int .i64) THead)) (a4 : Val (.slice TPage)) : Option (Int × Int × (Val (.pair (.int .i64) THead)) × (Val (.slice TPage))) :=
  (heap_Heap_CommitL1 a0 (0 : Int) a1 a2 a3 a4).bind fun r1 =>
  some (r1.1, (r1.2.1, (r1.2.2.1, r1.2.2.2)))
noncomputable def heap_Heap_CommitI : Shape := { n := 53, nx := 2, sl := [(0, .ref 0 []), (1, .dat false (.slice TPage))], ob := [(0, .box (.pair (.slice TPage) (.pair (.int .i64) (.pair (.int .i64) (.pair (.slice (.pair (.int .u32) (.pair (.arr 3 (.int .i64)) .unit))) (.pair (.pair (.int .i64) THead) .unit))))) (.cons (.own TPage 1) (.cons (.dat false (.int .i64)) (.cons (.dat false (.int .i64)) (.cons (.nils) (.cons (.dat false (.pair (.int .i64) THead)) (.nil))))))), (1, .slc false TPage)], fix := [0, 1], may := false }
noncomputable def heap_Heap_CommitO : Shape := { n := 54, nx := 2, sl := [(53, .tup (.nil))], ob := [(0, .box (.pair (.slice TPage) (.pair (.int .i64) (.pair (.int .i64) (.pair (.slice (.pair (.int .u32) (.pair (.arr 3 (.int .i64)) .unit))) (.pair (.pair (.int .i64) THead) .unit))))) (.cons (.own TPage 1) (.cons (.dat false (.int .i64)) (.cons (.dat false (.int .i64)) (.cons (.nils) (.cons (.dat false (.pair (.int .i64) THead)) (.nil))))))), (1, .slc false TPage)], fix := [0, 1], may := false }
noncomputable def heap_Heap_CommitF : ((Val (.slice TPage)) × Int × Int × (Val (.pair (.int .i64) THead)) × (Val (.slice TPage))) → Option (Int × Int × (Val (.pair (.int .i64) THead)) × (Val (.slice TPage))) := fun y => heap_Heap_Commit y.1 y.2.1 y.2.2.1 y.2.2.2.1 y.2.2.2.2
noncomputable def heap_Heap_Commitct : Ctr := ctrOf heap_Heap_CommitI heap_Heap_CommitO (fun d => d) (fun d => d) heap_Heap_CommitF
noncomputable def heap_Heap_CommitE : Env := { tf := tfE, mt := mtE, fn := fun f => none }
theorem heap_Heap_Commit_env : EnvOk PT heap_Heap_CommitE := ⟨tyE, (fun f ct h => by
  simp only [heap_Heap_CommitE] at h
  cases h), mapE⟩
noncomputable def heap_Heap_CommitC : Code := bodyOf Go.Proofs.Try.f43
noncomputable def heap_Heap_CommitL1C : Code := (loopsOf heap_Heap_CommitC).getD 0 .skip
noncomputable def heap_Heap_CommitL1S : Shape := { n := 53, nx := 2, sl := [(0, .ref 0 []), (1, .dat false (.slice TPage)), (4, .dat true (.int .i64))], ob := [(0, .box (.pair (.slice TPage) (.pair (.int .i64) (.pair (.int .i64) (.pair (.slice (.pair (.int .u32) (.pair (.arr 3 (.int .i64)) .unit))) (.pair (.pair (.int .i64) THead) .unit))))) (.cons (.own TPage 1) (.cons (.dat false (.int .i64)) (.cons (.dat false (.int .i64)) (.cons (.nils) (.cons (.dat false (.pair (.int .i64) THead)) (.nil))))))), (1, .slc false TPage)], fix := [0, 1], may := false }
noncomputable def heap_Heap_CommitL1O : List (Ex × Shape) := [(.exit 0, { n := 53, nx := 2, sl := [], ob := [(0, .box (.pair (.slice TPage) (.pair (.int .i64) (.pair (.int .i64) (.pair (.slice (.pair (.int .u32) (.pair (.arr 3 (.int .i64)) .unit))) (.pair (.pair (.int .i64) THead) .unit))))) (.cons (.own TPage 1) (.cons (.dat false (.int .i64)) (.cons (.dat false (.int .i64)) (.cons (.nils) (.cons (.dat false (.pair (.int .i64) THead)) (.nil))))))), (1, .slc false TPage)], fix := [0, 1], may := false })]
noncomputable def heap_Heap_CommitL1M : Sum := loopSum (Y := (Val (.slice TPage)) × Int × Int × Int × (Val (.pair (.int .i64) THead)) × (Val (.slice TPage))) (Z := Int × Int × (Val (.pair (.int .i64) THead)) × (Val (.slice TPage))) heap_Heap_CommitL1S heap_Heap_CommitL1O (fun d => d) (fun d => d) (iter heap_Heap_CommitL1B)
noncomputable def heap_Heap_CommitH : Nat → Option Sum := fun n => bif Nat.beq n 1 then some heap_Heap_CommitL1M else none
theorem heap_Heap_CommitL1_bd (y : (Val (.slice TPage)) × Int × Int × Int × (Val (.pair (.int .i64) THead)) × (Val (.slice TPage))) : @Eq (Option (((Val (.slice TPage)) × Int × Int × Int × (Val (.pair (.int .i64) THead)) × (Val (.slice TPage))) ⊕ (Int × Int × (Val (.pair (.int .i64) THead)) × (Val (.slice TPage))))) (exec heap_Heap_CommitE heap_Heap_CommitH heap_Heap_CommitL1C (heap_Heap_CommitL1S.mk' (show heap_Heap_CommitL1S.D from y)) (kont (Y := (Val (.slice TPage)) × Int × Int × Int × (Val (.pair (.int .i64) THead)) × (Val (.slice TPage))) (Z := Int × Int × (Val (.pair (.int .i64) THead)) × (Val (.slice TPage))) heap_Heap_CommitL1S heap_Heap_CommitL1O (fun d => d) (fun d => d))) (heap_Heap_CommitL1B y) := by kernel_rfl
theorem heap_Heap_CommitL1_ok {w0 : World} {Jo : Io} (hfix : ∀ i b, Jo.fix i = some b → i ∈ [0, 1]) (hmay : false = true → Jo.may) : SumOk PT w0 Jo heap_Heap_CommitL1M (.loop heap_Heap_CommitL1C) :=
  @loop_ok w0 Jo PT heap_Heap_CommitE heap_Heap_CommitH ((Val (.slice TPage)) × Int × Int × Int × (Val (.pair (.int .i64) THead)) × (Val (.slice TPage))) (Int × Int × (Val (.pair (.int .i64) THead)) × (Val (.slice TPage))) heap_Heap_Commit_env mixed heap_Heap_CommitL1C heap_Heap_CommitL1S heap_Heap_CommitL1O (fun d => d) (fun d => d) (fun d => d) (fun d => d) (fun _ => rfl) (fun _ => rfl) hfix hmay (by kernel_rfl) (noLoops (by kernel_rfl)) heap_Heap_CommitL1B heap_Heap_CommitL1_bd
theorem heap_Heap_Commit_bd (y : (Val (.slice TPage)) × Int × Int × (Val (.pair (.int .i64) THead)) × (Val (.slice TPage))) : @Eq (Option (Int × Int × (Val (.pair (.int .i64) THead)) × (Val (.slice TPage)))) (exec heap_Heap_CommitE heap_Heap_CommitH heap_Heap_CommitC (heap_Heap_CommitI.mk' (show heap_Heap_CommitI.D from y)) (kontF (Z := Int × Int × (Val (.pair (.int .i64) THead)) × (Val (.slice TPage))) heap_Heap_CommitE Go.Proofs.Try.f43.results.toList heap_Heap_CommitO (fun d => d))) (heap_Heap_CommitF y) := by kernel_rfl
theorem heap_Heap_Commit_lo {w0 : World} {Jo : Io} (hfix : ∀ i b, Jo.fix i = some b → i ∈ [0, 1]) (hmay : false = true → Jo.may) : LoopsOk PT w0 Jo heap_Heap_CommitH heap_Heap_CommitC := (loopsMk (by kernel_rfl) (loopsCons (c := heap_Heap_CommitL1C) (n := 1) (f := heap_Heap_CommitL1M) (by kernel_rfl) (by kernel_rfl) (heap_Heap_CommitL1_ok hfix hmay) loopsNil))
theorem heap_Heap_Commit_ctr : CtrOk PT 43 heap_Heap_Commitct :=
  @ctr_ok PT heap_Heap_CommitE heap_Heap_CommitH heap_Heap_Commit_env mixed 43 Go.Proofs.Try.f43 heap_Heap_CommitC (by kernel_rfl) (by kernel_rfl) (enters_of (by kernel_rfl : PT.funcs[43]? = some Go.Proofs.Try.f43) (by kernel_rfl) (by kernel_rfl)) heap_Heap_CommitI heap_Heap_CommitO ((Val (.slice TPage)) × Int × Int × (Val (.pair (.int .i64) THead)) × (Val (.slice TPage))) (Int × Int × (Val (.pair (.int .i64) THead)) × (Val (.slice TPage))) (fun d => d) (fun d => d) (fun d => d) (fun d => d) (fun _ => rfl) (fun _ => rfl) (by kernel_rfl) (by kernel_rfl) heap_Heap_CommitF heap_Heap_Commit_bd (fun w0 Jo hfix hmay => heap_Heap_Commit_lo hfix hmay)

/-- math/bits.OnesCount32 -/
noncomputable def bits_OnesCount32 (a0 : Int) : Option Int :=
  bif (inR (shiftR .u32 a0 (24 : Int)) (ByteArray.size str2)) then
  bif (inR (IntKind.wrap .u32 ((BitVec.ofInt (IntKind.bits .u32) (shiftR .u32 a0 (16 : Int)) &&& BitVec.ofInt (IntKind.bits .u32) (255 : Int)).toNat : Int)) (ByteArray.size str2)) then
  bif (inR (IntKind.wrap .u32 ((BitVec.ofInt (IntKind.bits .u32) (shiftR .u32 a0 (8 : Int)) &&& BitVec.ofInt (IntKind.bits .u32) (255 : Int)).toNat : Int)) (ByteArray.size str2)) then
  bif (inR (IntKind.wrap .u32 ((BitVec.ofInt (IntKind.bits .u32) a0 &&& BitVec.ofInt (IntKind.bits .u32) (255 : Int)).toNat : Int)) (ByteArray.size str2)) then
  some (IntKind.wrap .i64 (IntKind.wrap .u8 ((IntKind.wrap .u8 ((IntKind.wrap .u8 (((UInt8.toNat (Array.getD (ByteArray.data str2) (Int.toNat (shiftR .u32 a0 (24 : Int))) 0) : Nat) : Int) + ((UInt8.toNat (Array.getD (ByteArray.data str2) (Int.toNat (IntKind.wrap .u32 ((BitVec.ofInt (IntKind.bits .u32) (shiftR .u32 a0 (16 : Int)) &&& BitVec.ofInt (IntKind.bits .u32) (255 : Int)).toNat : Int))) 0) : Nat) : Int))) + ((UInt8.toNat (Array.getD (ByteArray.data str2) (Int.toNat (IntKind.wrap .u32 ((BitVec.ofInt (IntKind.bits .u32) (shiftR .u32 a0 (8 : Int)) &&& BitVec.ofInt (IntKind.bits .u32) (255 : Int)).toNat : Int))) 0) : Nat) : Int))) + ((UInt8.toNat (Array.getD (ByteArray.data str2) (Int.toNat (IntKind.wrap .u32 ((BitVec.ofInt (IntKind.bits .u32) a0 &&& BitVec.ofInt (IntKind.bits .u32) (255 : Int)).toNat : Int))) 0) : Nat) : Int))))
  else none
  else none
  else none
  else none
noncomputable def bits_OnesCount32I : Shape := { n := 21, nx := 0, sl := [(0, .dat false (.int .u32))], ob := [], fix := [], may := true }
noncomputable def bits_OnesCount32O : Shape := { n := 22, nx := 0, sl := [(21, .dat true (.int .i64))], ob := [], fix := [], may := true }
noncomputable def bits_OnesCount32F : Int → Option Int := fun y => bits_OnesCount32 y
noncomputable def bits_OnesCount32ct : Ctr := ctrOf bits_OnesCount32I bits_OnesCount32O (fun d => d) (fun d => d) bits_OnesCount32F
noncomputable def bits_OnesCount32E : Env := { tf := tfE, mt := mtE, fn := fun f => none }
theorem bits_OnesCount32_env : EnvOk PT bits_OnesCount32E := ⟨tyE, (fun f ct h => by
  simp only [bits_OnesCount32E] at h
  cases h), mapE⟩
noncomputable def bits_OnesCount32C : Code := bodyOf Go.Proofs.Try.f90
noncomputable def bits_OnesCount32H : Nat → Option Sum := fun n => none
theorem bits_OnesCount32_bd (y : Int) : @Eq (Option Int) (exec bits_OnesCount32E bits_OnesCount32H bits_OnesCount32C (bits_OnesCount32I.mk' (show bits_OnesCount32I.D from y)) (kontF (Z := Int) bits_OnesCount32E Go.Proofs.Try.f90.results.toList bits_OnesCount32O (fun d => d))) (bits_OnesCount32F y) := by kernel_rfl
theorem bits_OnesCount32_lo {w0 : World} {Jo : Io} (hfix : ∀ i b, Jo.fix i = some b → i ∈ []) (hmay : true = true → Jo.may) : LoopsOk PT w0 Jo bits_OnesCount32H bits_OnesCount32C := (noLoops (by kernel_rfl))
theorem bits_OnesCount32_ctr : CtrOk PT 90 bits_OnesCount32ct :=
  @ctr_ok PT bits_OnesCount32E bits_OnesCount32H bits_OnesCount32_env mixed 90 Go.Proofs.Try.f90 bits_OnesCount32C (by kernel_rfl) (by kernel_rfl) (enters_of (by kernel_rfl : PT.funcs[90]? = some Go.Proofs.Try.f90) (by kernel_rfl) (by kernel_rfl)) bits_OnesCount32I bits_OnesCount32O Int Int (fun d => d) (fun d => d) (fun d => d) (fun d => d) (fun _ => rfl) (fun _ => rfl) (by kernel_rfl) (by kernel_rfl) bits_OnesCount32F bits_OnesCount32_bd (fun w0 Jo hfix hmay => bits_OnesCount32_lo hfix hmay)

/-- bodega/segment.vacant -/
noncomputable def segment_vacant (a0 : Val THead) : Option Int :=
  (bits_OnesCount32 a0.2.1).bind fun r1 =>
  some (IntKind.wrap .i64 ((15 : Int) - r1))
noncomputable def segment_vacantI : Shape := { n := 7, nx := 0, sl := [(0, .dat false THead)], ob := [], fix := [], may := true }
noncomputable def segment_vacantO : Shape := { n := 8, nx := 0, sl := [(7, .dat true (.int .i64))], ob := [], fix := [], may := true }
noncomputable def segment_vacantF : ((Val THead)) → Option Int := fun y => segment_vacant y
noncomputable def segment_vacantct : Ctr := ctrOf segment_vacantI segment_vacantO (fun d => d) (fun d => d) segment_vacantF
noncomputable def segment_vacantE : Env := { tf := tfE, mt := mtE, fn := fun f => bif Nat.beq f 90 then some bits_OnesCount32ct else none }
theorem segment_vacant_env : EnvOk PT segment_vacantE := ⟨tyE, (fun f ct h => by
  simp only [segment_vacantE] at h
  refine envCons (c := bits_OnesCount32ct) h bits_OnesCount32_ctr (fun h => ?_)
  cases h), mapE⟩
noncomputable def segment_vacantC : Code := bodyOf Go.Proofs.Try.f70
noncomputable def segment_vacantH : Nat → Option Sum := fun n => none
theorem segment_vacant_bd (y : (Val THead)) : @Eq (Option Int) (exec segment_vacantE segment_vacantH segment_vacantC (segment_vacantI.mk' (show segment_vacantI.D from y)) (kontF (Z := Int) segment_vacantE Go.Proofs.Try.f70.results.toList segment_vacantO (fun d => d))) (segment_vacantF y) := by kernel_rfl
theorem segment_vacant_lo {w0 : World} {Jo : Io} (hfix : ∀ i b, Jo.fix i = some b → i ∈ []) (hmay : true = true → Jo.may) : LoopsOk PT w0 Jo segment_vacantH segment_vacantC := (noLoops (by kernel_rfl))
theorem segment_vacant_ctr : CtrOk PT 70 segment_vacantct :=
  @ctr_ok PT segment_vacantE segment_vacantH segment_vacant_env mixed 70 Go.Proofs.Try.f70 segment_vacantC (by kernel_rfl) (by kernel_rfl) (enters_of (by kernel_rfl : PT.funcs[70]? = some Go.Proofs.Try.f70) (by kernel_rfl) (by kernel_rfl)) segment_vacantI segment_vacantO ((Val THead)) Int (fun d => d) (fun d => d) (fun d => d) (fun d => d) (fun _ => rfl) (fun _ => rfl) (by kernel_rfl) (by kernel_rfl) segment_vacantF segment_vacant_bd (fun w0 Jo hfix hmay => segment_vacant_lo hfix hmay)

/-- bodega/pointer.UnpackTag -/
noncomputable def pointer_UnpackTag (a0 : Int) : Option ((Val (.pair (.int .i64) THead))) :=
  some ((IntKind.wrap .i64 (IntKind.wrap .u64 ((BitVec.ofInt (IntKind.bits .u64) a0 &&& BitVec.ofInt (IntKind.bits .u64) (255 : Int)).toNat : Int))), ((IntKind.wrap .i64 (IntKind.wrap .u64 ((BitVec.ofInt (IntKind.bits .u64) (shiftR .u64 a0 (8 : Int)) &&& BitVec.ofInt (IntKind.bits .u64) (16777215 : Int)).toNat : Int))), ((IntKind.wrap .u32 (shiftR .u64 a0 (32 : Int))), ())))
noncomputable def pointer_UnpackTagI : Shape := { n := 14, nx := 0, sl := [(0, .dat false (.int .u64))], ob := [], fix := [], may := true }
noncomputable def pointer_UnpackTagO : Shape := { n := 15, nx := 0, sl := [(14, .dat true (.pair (.int .i64) THead))], ob := [], fix := [], may := true }
noncomputable def pointer_UnpackTagF : Int → Option ((Val (.pair (.int .i64) THead))) := fun y => pointer_UnpackTag y
noncomputable def pointer_UnpackTagct : Ctr := ctrOf pointer_UnpackTagI pointer_UnpackTagO (fun d => d) (fun d => d) pointer_UnpackTagF
noncomputable def pointer_UnpackTagE : Env := { tf := tfE, mt := mtE, fn := fun f => none }
theorem pointer_UnpackTag_env : EnvOk PT pointer_UnpackTagE := ⟨tyE, (fun f ct h => by
  simp only [pointer_UnpackTagE] at h
  cases h), mapE⟩
noncomputable def pointer_UnpackTagC : Code := bodyOf Go.Proofs.Try.f72
noncomputable def pointer_UnpackTagH : Nat → Option Sum := fun n => none
theorem pointer_UnpackTag_bd (y : Int) : @Eq (Option ((Val (.pair (.int .i64) THead)))) (exec pointer_UnpackTagE pointer_UnpackTagH pointer_UnpackTagC (pointer_UnpackTagI.mk' (show pointer_UnpackTagI.D from y)) (kontF (Z := (Val (.pair (.int .i64) THead))) pointer_UnpackTagE Go.Proofs.Try.f72.results.toList pointer_UnpackTagO (fun d => d))) (pointer_UnpackTagF y) := by kernel_rfl
theorem pointer_UnpackTag_lo {w0 : World} {Jo : Io} (hfix : ∀ i b, Jo.fix i = some b → i ∈ []) (hmay : true = true → Jo.may) : LoopsOk PT w0 Jo pointer_UnpackTagH pointer_UnpackTagC := (noLoops (by kernel_rfl))
theorem pointer_UnpackTag_ctr : CtrOk PT 72 pointer_UnpackTagct :=
  @ctr_ok PT pointer_UnpackTagE pointer_UnpackTagH pointer_UnpackTag_env mixed 72 Go.Proofs.Try.f72 pointer_UnpackTagC (by kernel_rfl) (by kernel_rfl) (enters_of (by kernel_rfl : PT.funcs[72]? = some Go.Proofs.Try.f72) (by kernel_rfl) (by kernel_rfl)) pointer_UnpackTagI pointer_UnpackTagO Int ((Val (.pair (.int .i64) THead))) (fun d => d) (fun d => d) (fun d => d) (fun d => d) (fun _ => rfl) (fun _ => rfl) (by kernel_rfl) (by kernel_rfl) pointer_UnpackTagF pointer_UnpackTag_bd (fun w0 Jo hfix hmay => pointer_UnpackTag_lo hfix hmay)

noncomputable def segment_AllocateL1b (x0 : Val (.slice TPage)) (x1 : Val (.slice (.int .i64))) (x2 : Val (.slice (.int .i64))) (x3 : Int) (x4 : Int) (x5 : Val (.pair (.int .i64) TPtr)) (x6 : Val (.slice (.int .i64))) (x7 : Val (.slice (.pair (.int .i64) TPage))) (x8 : Val (.slice (.pair (.int .i64) THead))) : Option (((Val (.slice TPage)) × (Val (.slice (.int .i64))) × (Val (.slice (.int .i64))) × Int × Int × (Val (.pair (.int .i64) TPtr)) × (Val (.slice (.int .i64))) × (Val (.slice (.pair (.int .i64) TPage))) × (Val (.slice (.pair (.int .i64) THead)))) ⊕ (((Val (.slice TPage)) × (Val (.slice (.int .i64))) × (Val (.pair (.int .i64) TPtr)) × (Val (.slice (.int .i64))) × (Val (.slice (.pair (.int .i64) TPage))) × (Val (.slice (.pair (.int .i64) THead)))) ⊕ (Int × Bool))) :=
  bif (decide (x4 < x3)) then (
    bif (inR x4 (List.length x2)) then
    (segment_header x0 (List.getD x2 (Int.toNat x4) (0 : Int))).bind fun r1 =>
    bif (!(decide (r1.2.2.2 = (0 : Int)))) then (
      some (Sum.inr (Sum.inr (r1.2.2.2, true))))
    else (
      bif (!(decide (r1.2.1.1 = x5.1))) then (
        some (Sum.inr (Sum.inr ((11 : Int), true))))
      else (
        some (Sum.inl (x0, (x1, (x2, (x3, ((IntKind.wrap .i64 (x4 + (1 : Int))), (x5, (x6, ((upsV x7 (List.getD x2 (Int.toNat x4) (0 : Int)) r1.1), (upsV x8 (List.getD x2 (Int.toNat x4) (0 : Int)) r1.2.1))))))))))))
    else none)
  else (
    some (Sum.inr (Sum.inl (x0, (x1, (x5, (x6, (x7, x8))))))))
noncomputable def segment_AllocateL1B : ((Val (.slice TPage)) × (Val (.slice (.int .i64))) × (Val (.slice (.int .i64))) × Int × Int × (Val (.pair (.int .i64) TPtr)) × (Val (.slice (.int .i64))) × (Val (.slice (.pair (.int .i64) TPage))) × (Val (.slice (.pair (.int .i64) THead)))) → Option (((Val (.slice TPage)) × (Val (.slice (.int .i64))) × (Val (.slice (.int .i64))) × Int × Int × (Val (.pair (.int .i64) TPtr)) × (Val (.slice (.int .i64))) × (Val (.slice (.pair (.int .i64) TPage))) × (Val (.slice (.pair (.int .i64) THead)))) ⊕ (((Val (.slice TPage)) × (Val (.slice (.int .i64))) × (Val (.pair (.int .i64) TPtr)) × (Val (.slice (.int .i64))) × (Val (.slice (.pair (.int .i64) TPage))) × (Val (.slice (.pair (.int .i64) THead)))) ⊕ (Int × Bool))) := fun y => segment_AllocateL1b y.1 y.2.1 y.2.2.1 y.2.2.2.1 y.2.2.2.2.1 y.2.2.2.2.2.1 y.2.2.2.2.2.2.1 y.2.2.2.2.2.2.2.1 y.2.2.2.2.2.2.2.2
noncomputable def segment_AllocateL1 (x0 : Val (.slice TPage)) (x1 : Val (.slice (.int .i64))) (x2 : Val (.slice (.int .i64))) (x3 : Int) (x4 : Int) (x5 : Val (.pair (.int .i64) TPtr)) (x6 : Val (.slice (.int .i64))) (x7 : Val (.slice (.pair (.int .i64) TPage))) (x8 : Val (.slice (.pair (.int .i64) THead))) : Option (((Val (.slice TPage)) × (Val (.slice (.int .i64))) × (Val (.pair (.int .i64) TPtr)) × (Val (.slice (.int .i64))) × (Val (.slice (.pair (.int .i64) TPage))) × (Val (.slice (.pair (.int .i64) THead)))) ⊕ (Int × Bool)) := iter segment_AllocateL1B (x0, (x1, (x2, (x3, (x4, (x5, (x6, (x7, x8))))))))
noncomputable def segment_AllocateL2b (x0 : Val (.slice TPage)) (x1 : Val (.slice (.int .i64))) (x2 : Val (.slice (.int .i64))) (x3 : Int) (x4 : Int) (x5 : Val (.pair (.int .i64) TPtr)) (x6 : Val (.slice (.int .i64))) (x7 : Val (.slice (.pair (.int .i64) TPage))) (x8 : Val (.slice (.pair (.int .i64) THead))) : Option (((Val (.slice TPage)) × (Val (.slice (.int .i64))) × (Val (.slice (.int .i64))) × Int × Int × (Val (.pair (.int .i64) TPtr)) × (Val (.slice (.int .i64))) × (Val (.slice (.pair (.int .i64) TPage))) × (Val (.slice (.pair (.int .i64) THead)))) ⊕ ((Val (.slice TPage)) × (Val (.slice (.int .i64))) × (Val (.pair (.int .i64) TPtr)) × (Val (.slice (.int .i64))) × (Val (.slice (.pair (.int .i64) TPage))) × (Val (.slice (.pair (.int .i64) THead))))) :=
  bif (decide (x4 < x3)) then (
    bif (inR x4 (List.length x2)) then
    (segment_vacant (Option.getD (lookV x8 (List.getD x2 (Int.toNat x4) (0 : Int))) ((0 : Int), ((0 : Int), ())))).bind fun r1 =>
    bif (decide (x5.2.2.1 ≤ r1)) then (
      some (Sum.inr (x0, ([(List.getD x2 (Int.toNat x4) (0 : Int))], (x5, (x6, (x7, x8)))))))
    else (
      some (Sum.inl (x0, (x1, (x2, (x3, ((IntKind.wrap .i64 (x4 + (1 : Int))), (x5, (x6, (x7, x8))))))))))
    else none)
  else (
    some (Sum.inr (x0, (x1, (x5, (x6, (x7, x8)))))))
noncomputable def segment_AllocateL2B : ((Val (.slice TPage)) × (Val (.slice (.int .i64))) × (Val (.slice (.int .i64))) × Int × Int × (Val (.pair (.int .i64) TPtr)) × (Val (.slice (.int .i64))) × (Val (.slice (.pair (.int .i64) TPage))) × (Val (.slice (.pair (.int .i64) THead)))) → Option (((Val (.slice TPage)) × (Val (.slice (.int .i64))) × (Val (.slice (.int .i64))) × Int × Int × (Val (.pair (.int .i64) TPtr)) × (Val (.slice (.int .i64))) × (Val (.slice (.pair (.int .i64) TPage))) × (Val (.slice (.pair (.int .i64) THead)))) ⊕ ((Val (.slice TPage)) × (Val (.slice (.int .i64))) × (Val (.pair (.int .i64) TPtr)) × (Val (.slice (.int .i64))) × (Val (.slice (.pair (.int .i64) TPage))) × (Val (.slice (.pair (.int .i64) THead))))) := fun y => segment_AllocateL2b y.1 y.2.1 y.2.2.1 y.2.2.2.1 y.2.2.2.2.1 y.2.2.2.2.2.1 y.2.2.2.2.2.2.1 y.2.2.2.2.2.2.2.1 y.2.2.2.2.2.2.2.2
noncomputable def segment_AllocateL2 (x0 : Val (.slice TPage)) (x1 : Val (.slice (.int .i64))) (x2 : Val (.slice (.int .i64))) (x3 : Int) (x4 : Int) (x5 : Val (.pair (.int .i64) TPtr)) (x6 : Val (.slice (.int .i64))) (x7 : Val (.slice (.pair (.int .i64) TPage))) (x8 : Val (.slice (.pair (.int .i64) THead))) : Option ((Val (.slice TPage)) × (Val (.slice (.int .i64))) × (Val (.pair (.int .i64) TPtr)) × (Val (.slice (.int .i64))) × (Val (.slice (.pair (.int .i64) TPage))) × (Val (.slice (.pair (.int .i64) THead)))) := iter segment_AllocateL2B (x0, (x1, (x2, (x3, (x4, (x5, (x6, (x7, x8))))))))
noncomputable def segment_AllocateL3b (x0 : Val (.slice TPage)) (x1 : Val (.slice (.int .i64))) (x2 : Int) (x3 : Int) (x4 : Int) (x5 : Val (.slice (.int .i64))) (x6 : Int) (x7 : Int) (x8 : Val (.pair (.int .i64) TPtr)) (x9 : Val (.slice (.int .i64))) (x10 : Val (.slice TPage)) (x11 : Val (.slice (.pair (.int .i64) TPage))) (x12 : Val (.slice (.pair (.int .i64) THead))) (x13 : Val (.slice (.pair (.int .i64) THead))) (x14 : Val THead) : Option (((Val (.slice TPage)) × (Val (.slice (.int .i64))) × Int × Int × Int × (Val (.slice (.int .i64))) × Int × Int × (Val (.pair (.int .i64) TPtr)) × (Val (.slice (.int .i64))) × (Val (.slice TPage)) × (Val (.slice (.pair (.int .i64) TPage))) × (Val (.slice (.pair (.int .i64) THead))) × (Val (.slice (.pair (.int .i64) THead))) × (Val THead)) ⊕ (((Val (.slice TPage)) × (Val (.slice (.int .i64))) × Int × (Val (.slice (.int .i64))) × Int × Int × (Val (.pair (.int .i64) TPtr)) × (Val (.slice (.int .i64))) × (Val (.slice TPage)) × (Val (.slice (.pair (.int .i64) TPage))) × (Val (.slice (.pair (.int .i64) THead))) × (Val (.slice (.pair (.int .i64) THead)))) ⊕ (Int × Bool))) :=
  bif (decide (x4 < (16 : Int))) then (
    bif (decide (x2 < x8.2.2.1)) then (
      bif (decide ((0 : Int) ≤ (IntKind.wrap .u64 x4))) then
      bif (decide ((IntKind.wrap .u32 ((BitVec.ofInt (IntKind.bits .u32) (shiftR .u32 x14.2.1 (IntKind.wrap .u64 x4)) &&& BitVec.ofInt (IntKind.bits .u32) (1 : Int)).toNat : Int)) = (1 : Int))) then (
        some (Sum.inl (x0, (x1, (x2, (x3, ((IntKind.wrap .i64 (x4 + (1 : Int))), (x5, (x6, (x7, (x8, (x9, (x10, (x11, (x12, (x13, x14))))))))))))))))
      else (
        (segment_HeaderLine x3).bind fun r1 =>
        (pointer_Latest x0 (IntKind.wrap .i64 (r1 + x4))).bind fun r2 =>
        (pointer_UnpackTag (List.getD r2.1.2.2.1 0 (0 : Int))).bind fun r3 =>
        bif (!r2.2) then (
          bif (decide (((List.length x9) + 1) ≤ lim)) then
          bif (decide ((0 : Int) ≤ (IntKind.wrap .u64 x4))) then
          some (Sum.inl (x0, (x1, ((IntKind.wrap .i64 (x2 + (1 : Int))), (x3, ((IntKind.wrap .i64 (x4 + (1 : Int))), (x5, (x6, (x7, (x8, ((x9 ++ [(IntKind.wrap .i64 (r1 + x4))]), (x10, (x11, (x12, ((upsV x13 x3 (x14.1, ((IntKind.wrap .u32 ((BitVec.ofInt (IntKind.bits .u32) x14.2.1 ||| BitVec.ofInt (IntKind.bits .u32) (shiftL .u32 (1 : Int) (IntKind.wrap .u64 x4))).toNat : Int)), x14.2.2))), (x14.1, ((IntKind.wrap .u32 ((BitVec.ofInt (IntKind.bits .u32) x14.2.1 ||| BitVec.ofInt (IntKind.bits .u32) (shiftL .u32 (1 : Int) (IntKind.wrap .u64 x4))).toNat : Int)), x14.2.2)))))))))))))))))
          else none
          else none)
        else (
          (pointer_Locked r2.1).bind fun r4 =>
          bif r4 then (
            some (Sum.inr (Sum.inr ((3 : Int), true))))
          else (
            bif (!(decide (r3.1 = (0 : Int)))) then (
              some (Sum.inr (Sum.inr ((11 : Int), true))))
            else (
              bif (decide (r3.2.1 = (16777215 : Int))) then (
                some (Sum.inl (x0, (x1, (x2, (x3, ((IntKind.wrap .i64 (x4 + (1 : Int))), (x5, (x6, (x7, (x8, (x9, (x10, (x11, (x12, (x13, x14))))))))))))))))
              else (
                bif (decide (((List.length x10) + 1) ≤ lim)) then
                bif (decide ((0 : Int) ≤ (IntKind.wrap .u64 x4))) then
                some (Sum.inl (x0, (x1, ((IntKind.wrap .i64 (x2 + (1 : Int))), (x3, ((IntKind.wrap .i64 (x4 + (1 : Int))), (x5, (x6, (x7, (x8, (x9, ((x10 ++ [r2.1]), (x11, (x12, ((upsV x13 x3 (x14.1, ((IntKind.wrap .u32 ((BitVec.ofInt (IntKind.bits .u32) x14.2.1 ||| BitVec.ofInt (IntKind.bits .u32) (shiftL .u32 (1 : Int) (IntKind.wrap .u64 x4))).toNat : Int)), x14.2.2))), (x14.1, ((IntKind.wrap .u32 ((BitVec.ofInt (IntKind.bits .u32) x14.2.1 ||| BitVec.ofInt (IntKind.bits .u32) (shiftL .u32 (1 : Int) (IntKind.wrap .u64 x4))).toNat : Int)), x14.2.2)))))))))))))))))
                else none
                else none)))))
      else none)
    else (
      some (Sum.inr (Sum.inl (x0, (x1, (x2, (x5, (x6, (x7, (x8, (x9, (x10, (x11, (x12, x13)))))))))))))))
  else (
    some (Sum.inr (Sum.inl (x0, (x1, (x2, (x5, (x6, (x7, (x8, (x9, (x10, (x11, (x12, x13))))))))))))))
noncomputable def segment_AllocateL3B : ((Val (.slice TPage)) × (Val (.slice (.int .i64))) × Int × Int × Int × (Val (.slice (.int .i64))) × Int × Int × (Val (.pair (.int .i64) TPtr)) × (Val (.slice (.int .i64))) × (Val (.slice TPage)) × (Val (.slice (.pair (.int .i64) TPage))) × (Val (.slice (.pair (.int .i64) THead))) × (Val (.slice (.pair (.int .i64) THead))) × (Val THead)) → Option (((Val (.slice TPage)) × (Val (.slice (.int .i64))) × Int × Int × Int × (Val (.slice (.int .i64))) × Int × Int × (Val (.pair (.int .i64) TPtr)) × (Val (.slice (.int .i64))) × (Val (.slice TPage)) × (Val (.slice (.pair (.int .i64) TPage))) × (Val (.slice (.pair (.int .i64) THead))) × (Val (.slice (.pair (.int .i64) THead))) × (Val THead)) ⊕ (((Val (.slice TPage)) × (Val (.slice (.int .i64))) × Int × (Val (.slice (.int .i64))) × Int × Int × (Val (.pair (.int .i64) TPtr)) × (Val (.slice (.int .i64))) × (Val (.slice TPage)) × (Val (.slice (.pair (.int .i64) TPage))) × (Val (.slice (.pair (.int .i64) THead))) × (Val (.slice (.pair (.int .i64) THead)))) ⊕ (Int × Bool))) := fun y => segment_AllocateL3b y.1 y.2.1 y.2.2.1 y.2.2.2.1 y.2.2.2.2.1 y.2.2.2.2.2.1 y.2.2.2.2.2.2.1 y.2.2.2.2.2.2.2.1 y.2.2.2.2.2.2.2.2.1 y.2.2.2.2.2.2.2.2.2.1 y.2.2.2.2.2.2.2.2.2.2.1 y.2.2.2.2.2.2.2.2.2.2.2.1 y.2.2.2.2.2.2.2.2.2.2.2.2.1 y.2.2.2.2.2.2.2.2.2.2.2.2.2.1 y.2.2.2.2.2.2.2.2.2.2.2.2.2.2
noncomputable def segment_AllocateL3 (x0 : Val (.slice TPage)) (x1 : Val (.slice (.int .i64))) (x2 : Int) (x3 : Int) (x4 : Int) (x5 : Val (.slice (.int .i64))) (x6 : Int) (x7 : Int) (x8 : Val (.pair (.int .i64) TPtr)) (x9 : Val (.slice (.int .i64))) (x10 : Val (.slice TPage)) (x11 : Val (.slice (.pair (.int .i64) TPage))) (x12 : Val (.slice (.pair (.int .i64) THead))) (x13 : Val (.slice (.pair (.int .i64) THead))) (x14 : Val THead) : Option (((Val (.slice TPage)) × (Val (.slice (.int .i64))) × Int × (Val (.slice (.int .i64))) × Int × Int × (Val (.pair (.int .i64) TPtr)) × (Val (.slice (.int .i64))) × (Val (.slice TPage)) × (Val (.slice (.pair (.int .i64) TPage))) × (Val (.slice (.pair (.int .i64) THead))) × (Val (.slice (.pair (.int .i64) THead)))) ⊕ (Int × Bool)) := iter segment_AllocateL3B (x0, (x1, (x2, (x3, (x4, (x5, (x6, (x7, (x8, (x9, (x10, (x11, (x12, (x13, x14))))))))))))))
noncomputable def segment_AllocateL4b (x0 : Val (.slice TPage)) (x1 : Val (.slice (.int .i64))) (x2 : Int) (x3 : Val (.slice (.int .i64))) (x4 : Int) (x5 : Int) (x6 : Val (.pair (.int .i64) TPtr)) (x7 : Val (.slice (.int .i64))) (x8 : Val (.slice TPage)) (x9 : Val (.slice (.pair (.int .i64) TPage))) (x10 : Val (.slice (.pair (.int .i64) THead))) (x11 : Val (.slice (.pair (.int .i64) THead))) : Option (((Val (.slice TPage)) × (Val (.slice (.int .i64))) × Int × (Val (.slice (.int .i64))) × Int × Int × (Val (.pair (.int .i64) TPtr)) × (Val (.slice (.int .i64))) × (Val (.slice TPage)) × (Val (.slice (.pair (.int .i64) TPage))) × (Val (.slice (.pair (.int .i64) THead))) × (Val (.slice (.pair (.int .i64) THead)))) ⊕ (((Val (.slice (.int .i64))) × Int × (Val (.pair (.int .i64) TPtr)) × (Val (.slice (.int .i64))) × (Val (.slice TPage)) × (Val (.slice (.pair (.int .i64) TPage))) × (Val (.slice (.pair (.int .i64) THead)))) ⊕ (Int × Bool))) :=
  bif (decide (x5 < x4)) then (
    bif (inR x5 (List.length x3)) then
    (segment_AllocateL3 x0 x1 x2 (List.getD x3 (Int.toNat x5) (0 : Int)) (1 : Int) x3 x4 x5 x6 x7 x8 x9 x10 x11 (Option.getD (lookV x10 (List.getD x3 (Int.toNat x5) (0 : Int))) ((0 : Int), ((0 : Int), ())))).bind fun r1 =>
    match r1 with
    | .inl r2 => (
      some (Sum.inl (r2.1, (r2.2.1, (r2.2.2.1, (r2.2.2.2.1, (r2.2.2.2.2.1, ((IntKind.wrap .i64 (r2.2.2.2.2.2.1 + (1 : Int))), (r2.2.2.2.2.2.2.1, (r2.2.2.2.2.2.2.2.1, (r2.2.2.2.2.2.2.2.2.1, (r2.2.2.2.2.2.2.2.2.2.1, (r2.2.2.2.2.2.2.2.2.2.2.1, r2.2.2.2.2.2.2.2.2.2.2.2)))))))))))))
    | .inr r3 => (
      some (Sum.inr (Sum.inr (r3.1, r3.2))))
    else none)
  else (
    some (Sum.inr (Sum.inl (x1, (x2, (x6, (x7, (x8, (x9, x11)))))))))
noncomputable def segment_AllocateL4B : ((Val (.slice TPage)) × (Val (.slice (.int .i64))) × Int × (Val (.slice (.int .i64))) × Int × Int × (Val (.pair (.int .i64) TPtr)) × (Val (.slice (.int .i64))) × (Val (.slice TPage)) × (Val (.slice (.pair (.int .i64) TPage))) × (Val (.slice (.pair (.int .i64) THead))) × (Val (.slice (.pair (.int .i64) THead)))) → Option (((Val (.slice TPage)) × (Val (.slice (.int .i64))) × Int × (Val (.slice (.int .i64))) × Int × Int × (Val (.pair (.int .i64) TPtr)) × (Val (.slice (.int .i64))) × (Val (.slice TPage)) × (Val (.slice (.pair (.int .i64) TPage))) × (Val (.slice (.pair (.int .i64) THead))) × (Val (.slice (.pair (.int .i64) THead)))) ⊕ (((Val (.slice (.int .i64))) × Int × (Val (.pair (.int .i64) TPtr)) × (Val (.slice (.int .i64))) × (Val (.slice TPage)) × (Val (.slice (.pair (.int .i64) TPage))) × (Val (.slice (.pair (.int .i64) THead)))) ⊕ (Int × Bool))) := fun y => segment_AllocateL4b y.1 y.2.1 y.2.2.1 y.2.2.2.1 y.2.2.2.2.1 y.2.2.2.2.2.1 y.2.2.2.2.2.2.1 y.2.2.2.2.2.2.2.1 y.2.2.2.2.2.2.2.2.1 y.2.2.2.2.2.2.2.2.2.1 y.2.2.2.2.2.2.2.2.2.2.1 y.2.2.2.2.2.2.2.2.2.2.2
noncomputable def segment_AllocateL4 (x0 : Val (.slice TPage)) (x1 : Val (.slice (.int .i64))) (x2 : Int) (x3 : Val (.slice (.int .i64))) (x4 : Int) (x5 : Int) (x6 : Val (.pair (.int .i64) TPtr)) (x7 : Val (.slice (.int .i64))) (x8 : Val (.slice TPage)) (x9 : Val (.slice (.pair (.int .i64) TPage))) (x10 : Val (.slice (.pair (.int .i64) THead))) (x11 : Val (.slice (.pair (.int .i64) THead))) : Option (((Val (.slice (.int .i64))) × Int × (Val (.pair (.int .i64) TPtr)) × (Val (.slice (.int .i64))) × (Val (.slice TPage)) × (Val (.slice (.pair (.int .i64) TPage))) × (Val (.slice (.pair (.int .i64) THead)))) ⊕ (Int × Bool)) := iter segment_AllocateL4B (x0, (x1, (x2, (x3, (x4, (x5, (x6, (x7, (x8, (x9, (x10, x11)))))))))))
noncomputable def segment_AllocateL5b (x0 : Val (.slice (.int .i64))) (x1 : Int) (x2 : Int) (x3 : Val (.slice TPage)) (x4 : Val (.slice TPage)) (x5 : Val (.slice (.pair (.int .i64) TPage))) (x6 : Val (.slice (.pair (.int .i64) THead))) : Option (((Val (.slice (.int .i64))) × Int × Int × (Val (.slice TPage)) × (Val (.slice TPage)) × (Val (.slice (.pair (.int .i64) TPage))) × (Val (.slice (.pair (.int .i64) THead)))) ⊕ ((Val (.slice TPage)) × (Val (.slice TPage)))) :=
  bif (decide (x2 < x1)) then (
    bif (inR x2 (List.length x0)) then
    bif (Option.isSome (lookV x6 (List.getD x0 (Int.toNat x2) (0 : Int)))) then (
      (segment_WriteHeader (Option.getD (lookV x5 (List.getD x0 (Int.toNat x2) (0 : Int))) ((0 : Int), ((0 : Int), ((List.replicate 7 (0 : Int)), ())))) (Option.getD (lookV x6 (List.getD x0 (Int.toNat x2) (0 : Int))) ((0 : Int), ((0 : Int), ())))).bind fun r1 =>
      bif (decide (((List.length x4) + 1) ≤ lim)) then
      some (Sum.inl (x0, (x1, ((IntKind.wrap .i64 (x2 + (1 : Int))), (x3, ((x4 ++ [r1.1]), (x5, x6)))))))
      else none)
    else (
      some (Sum.inl (x0, (x1, ((IntKind.wrap .i64 (x2 + (1 : Int))), (x3, (x4, (x5, x6))))))))
    else none)
  else (
    some (Sum.inr (x3, x4)))
noncomputable def segment_AllocateL5B : ((Val (.slice (.int .i64))) × Int × Int × (Val (.slice TPage)) × (Val (.slice TPage)) × (Val (.slice (.pair (.int .i64) TPage))) × (Val (.slice (.pair (.int .i64) THead)))) → Option (((Val (.slice (.int .i64))) × Int × Int × (Val (.slice TPage)) × (Val (.slice TPage)) × (Val (.slice (.pair (.int .i64) TPage))) × (Val (.slice (.pair (.int .i64) THead)))) ⊕ ((Val (.slice TPage)) × (Val (.slice TPage)))) := fun y => segment_AllocateL5b y.1 y.2.1 y.2.2.1 y.2.2.2.1 y.2.2.2.2.1 y.2.2.2.2.2.1 y.2.2.2.2.2.2
noncomputable def segment_AllocateL5 (x0 : Val (.slice (.int .i64))) (x1 : Int) (x2 : Int) (x3 : Val (.slice TPage)) (x4 : Val (.slice TPage)) (x5 : Val (.slice (.pair (.int .i64) TPage))) (x6 : Val (.slice (.pair (.int .i64) THead))) : Option ((Val (.slice TPage)) × (Val (.slice TPage))) := iter segment_AllocateL5B (x0, (x1, (x2, (x3, (x4, (x5, x6))))))
/-- bodega/segment.Allocate -/
noncomputable def segment_Allocate (a0 : Val (.pair (.int .i64) TPtr)) (a1 : Val (.slice TPage)) : Option ((Val (.slice (.int .i64))) × (Val (.slice TPage)) × (Val (.slice TPage)) × Int × Bool) :=
  (segment_isClient a0.1).bind fun r1 =>
  bif (!r1) then (
    some ([], ([], ([], ((1 : Int), true)))))
  else (
    (segment_isSize a0.2.1).bind fun r2 =>
    bif (!r2) then (
      some ([], ([], ([], ((1 : Int), true)))))
    else (
      bif (decide (a0.2.2.1 < (1 : Int))) then (
        some ([], ([], ([], ((1 : Int), true)))))
      else (
        bif (decide ((12 : Int) < a0.2.2.1)) then (
          some ([], ([], ([], ((1 : Int), true)))))
        else (
          (segment_node a1 a0.1).bind fun r3 =>
          bif (!r3.2.2.1) then (
            some ([(IntKind.wrap .i64 ((98 : Int) + a0.1))], ([], ([], ((0 : Int), false)))))
          else (
            bif (!(decide (r3.2.2.2 = (0 : Int)))) then (
              some ([], ([], ([], (r3.2.2.2, true)))))
            else (
              (segment_Count a0.2.1).bind fun r4 =>
              (segment_owned r3.2.1.2.2.1 r4).bind fun r5 =>
              (segment_headerLines r5).bind fun r6 =>
              (segment_missing a1 r6).bind fun r7 =>
              bif (decide ((0 : Int) < (((List.length r7) : Nat) : Int))) then (
                some (r7, ([], ([], ((0 : Int), false)))))
              else (
                (segment_AllocateL1 a1 r5 r5 (((List.length r5) : Nat) : Int) (0 : Int) a0 r7 [] []).bind fun r8 =>
                match r8 with
                | .inl r9 => (
                  (segment_AllocateL2 r9.1 r9.2.1 r9.2.1 (((List.length r9.2.1) : Nat) : Int) (0 : Int) r9.2.2.1 r9.2.2.2.1 r9.2.2.2.2.1 r9.2.2.2.2.2).bind fun r11 =>
                  (segment_AllocateL4 r11.1 r11.2.1 (0 : Int) r11.2.1 (((List.length r11.2.1) : Nat) : Int) (0 : Int) r11.2.2.1 r11.2.2.2.1 [] r11.2.2.2.2.1 r11.2.2.2.2.2 []).bind fun r12 =>
                  match r12 with
                  | .inl r13 => (
                    bif (decide (r13.2.1 < r13.2.2.1.2.2.1)) then (
                      some ([], ([], ([], ((12 : Int), true)))))
                    else (
                      bif (decide ((0 : Int) < (((List.length r13.2.2.2.1) : Nat) : Int))) then (
                        some (r13.2.2.2.1, ([], ([], ((0 : Int), false)))))
                      else (
                        (segment_AllocateL5 r13.1 (((List.length r13.1) : Nat) : Int) (0 : Int) r13.2.2.2.2.1 [] r13.2.2.2.2.2.1 r13.2.2.2.2.2.2).bind fun r15 =>
                        some ([], (r15.1, (r15.2, ((0 : Int), true)))))))
                  | .inr r14 => (
                    some ([], ([], ([], (r14.1, r14.2))))))
                | .inr r10 => (
                  some ([], ([], ([], (r10.1, r10.2))))))))))))
noncomputable def segment_AllocateI : Shape := { n := 254, nx := 0, sl := [(0, .dat false (.pair (.int .i64) TPtr)), (1, .dat false (.slice TPage))], ob := [], fix := [], may := true }
noncomputable def segment_AllocateO : Shape := { n := 255, nx := 0, sl := [(254, .tup (.cons (.dat true (.slice (.int .i64))) (.cons (.dat true (.slice TPage)) (.cons (.dat true (.slice TPage)) (.cons (.dat true (.int .i64)) (.cons (.dat true .bool) (.nil)))))))], ob := [], fix := [], may := true }
noncomputable def segment_AllocateF : ((Val (.pair (.int .i64) TPtr)) × (Val (.slice TPage))) → Option ((Val (.slice (.int .i64))) × (Val (.slice TPage)) × (Val (.slice TPage)) × Int × Bool) := fun y => segment_Allocate y.1 y.2
noncomputable def segment_Allocatect : Ctr := ctrOf segment_AllocateI segment_AllocateO (fun d => d) (fun d => d) segment_AllocateF
noncomputable def segment_AllocateE : Env := { tf := tfE, mt := mtE, fn := fun f => bif Nat.beq f 63 then some segment_isClientct else bif Nat.beq f 60 then some segment_isSizect else bif Nat.beq f 65 then some segment_nodect else bif Nat.beq f 34 then some segment_Countct else bif Nat.beq f 67 then some segment_ownedct else bif Nat.beq f 66 then some segment_headerLinesct else bif Nat.beq f 64 then some segment_missingct else bif Nat.beq f 69 then some segment_headerct else bif Nat.beq f 70 then some segment_vacantct else bif Nat.beq f 36 then some segment_HeaderLinect else bif Nat.beq f 71 then some pointer_Latestct else bif Nat.beq f 72 then some pointer_UnpackTagct else bif Nat.beq f 73 then some pointer_Lockedct else bif Nat.beq f 27 then some segment_WriteHeaderct else none }
theorem segment_Allocate_env : EnvOk PT segment_AllocateE := ⟨tyE, (fun f ct h => by
  simp only [segment_AllocateE] at h
  refine envCons (c := segment_isClientct) h segment_isClient_ctr (fun h => ?_)
  refine envCons (c := segment_isSizect) h segment_isSize_ctr (fun h => ?_)
  refine envCons (c := segment_nodect) h segment_node_ctr (fun h => ?_)
  refine envCons (c := segment_Countct) h segment_Count_ctr (fun h => ?_)
  refine envCons (c := segment_ownedct) h segment_owned_ctr (fun h => ?_)
  refine envCons (c := segment_headerLinesct) h segment_headerLines_ctr (fun h => ?_)
  refine envCons (c := segment_missingct) h segment_missing_ctr (fun h => ?_)
  refine envCons (c := segment_headerct) h segment_header_ctr (fun h => ?_)
  refine envCons (c := segment_vacantct) h segment_vacant_ctr (fun h => ?_)
  refine envCons (c := segment_HeaderLinect) h segment_HeaderLine_ctr (fun h => ?_)
  refine envCons (c := pointer_Latestct) h pointer_Latest_ctr (fun h => ?_)
  refine envCons (c := pointer_UnpackTagct) h pointer_UnpackTag_ctr (fun h => ?_)
  refine envCons (c := pointer_Lockedct) h pointer_Locked_ctr (fun h => ?_)
  refine envCons (c := segment_WriteHeaderct) h segment_WriteHeader_ctr (fun h => ?_)
  cases h), mapE⟩
noncomputable def segment_AllocateC : Code := bodyOf Go.Proofs.Try.f44
noncomputable def segment_AllocateL1C : Code := (loopsOf segment_AllocateC).getD 0 .skip
noncomputable def segment_AllocateL2C : Code := (loopsOf segment_AllocateC).getD 1 .skip
noncomputable def segment_AllocateL4C : Code := (loopsOf segment_AllocateC).getD 2 .skip
noncomputable def segment_AllocateL3C : Code := (loopsOf segment_AllocateC).getD 3 .skip
noncomputable def segment_AllocateL5C : Code := (loopsOf segment_AllocateC).getD 4 .skip
noncomputable def segment_AllocateL1S : Shape := { n := 254, nx := 4, sl := [(1, .dat false (.slice TPage)), (2, .ref 0 []), (4, .own (.int .i64) 1), (5, .nils), (6, .nils), (12, .dat true (.slice (.int .i64))), (13, .mp 2), (14, .mp 3), (94, .dat true (.slice (.int .i64))), (95, .dat true (.int .i64)), (96, .dat true (.int .i64))], ob := [(0, .box (.pair (.int .i64) TPtr) (.dat false (.pair (.int .i64) TPtr))), (1, .slc true (.int .i64)), (2, .map .i64 true TPage), (3, .map .i64 true THead)], fix := [], may := true }
noncomputable def segment_AllocateL1O : List (Ex × Shape) := [(.exit 0, { n := 254, nx := 4, sl := [(1, .dat false (.slice TPage)), (2, .ref 0 []), (4, .own (.int .i64) 1), (5, .nils), (6, .nils), (12, .dat true (.slice (.int .i64))), (13, .mp 2), (14, .mp 3)], ob := [(0, .box (.pair (.int .i64) TPtr) (.dat false (.pair (.int .i64) TPtr))), (1, .slc true (.int .i64)), (2, .map .i64 true TPage), (3, .map .i64 true THead)], fix := [], may := true }), (.ret, { n := 254, nx := 0, sl := [(4, .nils), (5, .nils), (6, .nils), (7, .dat true (.int .i64)), (8, .dat true .bool)], ob := [], fix := [], may := true })]
noncomputable def segment_AllocateL1M : Sum := loopSum (Y := (Val (.slice TPage)) × (Val (.slice (.int .i64))) × (Val (.slice (.int .i64))) × Int × Int × (Val (.pair (.int .i64) TPtr)) × (Val (.slice (.int .i64))) × (Val (.slice (.pair (.int .i64) TPage))) × (Val (.slice (.pair (.int .i64) THead)))) (Z := ((Val (.slice TPage)) × (Val (.slice (.int .i64))) × (Val (.pair (.int .i64) TPtr)) × (Val (.slice (.int .i64))) × (Val (.slice (.pair (.int .i64) TPage))) × (Val (.slice (.pair (.int .i64) THead)))) ⊕ (Int × Bool)) segment_AllocateL1S segment_AllocateL1O (fun d => d) (fun d => d) (iter segment_AllocateL1B)
noncomputable def segment_AllocateL2S : Shape := { n := 254, nx := 4, sl := [(1, .dat false (.slice TPage)), (2, .ref 0 []), (4, .own (.int .i64) 1), (5, .nils), (6, .nils), (13, .mp 2), (14, .mp 3), (21, .dat true (.slice (.int .i64))), (126, .dat true (.slice (.int .i64))), (127, .dat true (.int .i64)), (128, .dat true (.int .i64))], ob := [(0, .box (.pair (.int .i64) TPtr) (.dat false (.pair (.int .i64) TPtr))), (1, .slc true (.int .i64)), (2, .map .i64 true TPage), (3, .map .i64 true THead)], fix := [], may := true }
noncomputable def segment_AllocateL2O : List (Ex × Shape) := [(.exit 3, { n := 254, nx := 4, sl := [(1, .dat false (.slice TPage)), (2, .ref 0 []), (4, .own (.int .i64) 1), (5, .nils), (6, .nils), (13, .mp 2), (14, .mp 3), (21, .dat true (.slice (.int .i64)))], ob := [(0, .box (.pair (.int .i64) TPtr) (.dat false (.pair (.int .i64) TPtr))), (1, .slc true (.int .i64)), (2, .map .i64 true TPage), (3, .map .i64 true THead)], fix := [], may := true })]
noncomputable def segment_AllocateL2M : Sum := loopSum (Y := (Val (.slice TPage)) × (Val (.slice (.int .i64))) × (Val (.slice (.int .i64))) × Int × Int × (Val (.pair (.int .i64) TPtr)) × (Val (.slice (.int .i64))) × (Val (.slice (.pair (.int .i64) TPage))) × (Val (.slice (.pair (.int .i64) THead)))) (Z := (Val (.slice TPage)) × (Val (.slice (.int .i64))) × (Val (.pair (.int .i64) TPtr)) × (Val (.slice (.int .i64))) × (Val (.slice (.pair (.int .i64) TPage))) × (Val (.slice (.pair (.int .i64) THead)))) segment_AllocateL2S segment_AllocateL2O (fun d => d) (fun d => d) (iter segment_AllocateL2B)
noncomputable def segment_AllocateL3S : Shape := { n := 254, nx := 7, sl := [(1, .dat false (.slice TPage)), (2, .ref 0 []), (4, .own (.int .i64) 1), (5, .own TPage 2), (6, .nils), (13, .mp 3), (14, .mp 4), (21, .dat true (.slice (.int .i64))), (24, .dat true (.int .i64)), (25, .mp 5), (27, .dat true (.int .i64)), (28, .ref 6 []), (29, .dat true (.int .i64)), (143, .dat true (.slice (.int .i64))), (144, .dat true (.int .i64)), (145, .dat true (.int .i64))], ob := [(0, .box (.pair (.int .i64) TPtr) (.dat false (.pair (.int .i64) TPtr))), (1, .slc true (.int .i64)), (2, .slc true TPage), (3, .map .i64 true TPage), (4, .map .i64 true THead), (5, .map .i64 true THead), (6, .box THead (.dat true THead))], fix := [], may := true }
noncomputable def segment_AllocateL3O : List (Ex × Shape) := [(.exit 7, { n := 254, nx := 6, sl := [(1, .dat false (.slice TPage)), (2, .ref 0 []), (4, .own (.int .i64) 1), (5, .own TPage 2), (6, .nils), (13, .mp 3), (14, .mp 4), (21, .dat true (.slice (.int .i64))), (24, .dat true (.int .i64)), (25, .mp 5), (143, .dat true (.slice (.int .i64))), (144, .dat true (.int .i64)), (145, .dat true (.int .i64))], ob := [(0, .box (.pair (.int .i64) TPtr) (.dat false (.pair (.int .i64) TPtr))), (1, .slc true (.int .i64)), (2, .slc true TPage), (3, .map .i64 true TPage), (4, .map .i64 true THead), (5, .map .i64 true THead)], fix := [], may := true }), (.ret, { n := 254, nx := 0, sl := [(4, .nils), (5, .nils), (6, .nils), (7, .dat true (.int .i64)), (8, .dat true .bool)], ob := [], fix := [], may := true })]
noncomputable def segment_AllocateL3M : Sum := loopSum (Y := (Val (.slice TPage)) × (Val (.slice (.int .i64))) × Int × Int × Int × (Val (.slice (.int .i64))) × Int × Int × (Val (.pair (.int .i64) TPtr)) × (Val (.slice (.int .i64))) × (Val (.slice TPage)) × (Val (.slice (.pair (.int .i64) TPage))) × (Val (.slice (.pair (.int .i64) THead))) × (Val (.slice (.pair (.int .i64) THead))) × (Val THead)) (Z := ((Val (.slice TPage)) × (Val (.slice (.int .i64))) × Int × (Val (.slice (.int .i64))) × Int × Int × (Val (.pair (.int .i64) TPtr)) × (Val (.slice (.int .i64))) × (Val (.slice TPage)) × (Val (.slice (.pair (.int .i64) TPage))) × (Val (.slice (.pair (.int .i64) THead))) × (Val (.slice (.pair (.int .i64) THead)))) ⊕ (Int × Bool)) segment_AllocateL3S segment_AllocateL3O (fun d => d) (fun d => d) (iter segment_AllocateL3B)
noncomputable def segment_AllocateL4S : Shape := { n := 254, nx := 6, sl := [(1, .dat false (.slice TPage)), (2, .ref 0 []), (4, .own (.int .i64) 1), (5, .own TPage 2), (6, .nils), (13, .mp 3), (14, .mp 4), (21, .dat true (.slice (.int .i64))), (24, .dat true (.int .i64)), (25, .mp 5), (143, .dat true (.slice (.int .i64))), (144, .dat true (.int .i64)), (145, .dat true (.int .i64))], ob := [(0, .box (.pair (.int .i64) TPtr) (.dat false (.pair (.int .i64) TPtr))), (1, .slc true (.int .i64)), (2, .slc true TPage), (3, .map .i64 true TPage), (4, .map .i64 true THead), (5, .map .i64 true THead)], fix := [], may := true }
noncomputable def segment_AllocateL4O : List (Ex × Shape) := [(.exit 5, { n := 254, nx := 5, sl := [(2, .ref 0 []), (4, .own (.int .i64) 1), (5, .own TPage 2), (6, .nils), (13, .mp 3), (21, .dat true (.slice (.int .i64))), (24, .dat true (.int .i64)), (25, .mp 4)], ob := [(0, .box (.pair (.int .i64) TPtr) (.dat false (.pair (.int .i64) TPtr))), (1, .slc true (.int .i64)), (2, .slc true TPage), (3, .map .i64 true TPage), (4, .map .i64 true THead)], fix := [], may := true }), (.ret, { n := 254, nx := 0, sl := [(4, .nils), (5, .nils), (6, .nils), (7, .dat true (.int .i64)), (8, .dat true .bool)], ob := [], fix := [], may := true })]
noncomputable def segment_AllocateL4M : Sum := loopSum (Y := (Val (.slice TPage)) × (Val (.slice (.int .i64))) × Int × (Val (.slice (.int .i64))) × Int × Int × (Val (.pair (.int .i64) TPtr)) × (Val (.slice (.int .i64))) × (Val (.slice TPage)) × (Val (.slice (.pair (.int .i64) TPage))) × (Val (.slice (.pair (.int .i64) THead))) × (Val (.slice (.pair (.int .i64) THead)))) (Z := ((Val (.slice (.int .i64))) × Int × (Val (.pair (.int .i64) TPtr)) × (Val (.slice (.int .i64))) × (Val (.slice TPage)) × (Val (.slice (.pair (.int .i64) TPage))) × (Val (.slice (.pair (.int .i64) THead)))) ⊕ (Int × Bool)) segment_AllocateL4S segment_AllocateL4O (fun d => d) (fun d => d) (iter segment_AllocateL4B)
noncomputable def segment_AllocateL5S : Shape := { n := 254, nx := 4, sl := [(5, .own TPage 0), (6, .own TPage 1), (13, .mp 2), (25, .mp 3), (226, .dat true (.slice (.int .i64))), (227, .dat true (.int .i64)), (228, .dat true (.int .i64))], ob := [(0, .slc true TPage), (1, .slc true TPage), (2, .map .i64 true TPage), (3, .map .i64 true THead)], fix := [], may := true }
noncomputable def segment_AllocateL5O : List (Ex × Shape) := [(.exit 10, { n := 254, nx := 2, sl := [(5, .own TPage 0), (6, .own TPage 1)], ob := [(0, .slc true TPage), (1, .slc true TPage)], fix := [], may := true })]
noncomputable def segment_AllocateL5M : Sum := loopSum (Y := (Val (.slice (.int .i64))) × Int × Int × (Val (.slice TPage)) × (Val (.slice TPage)) × (Val (.slice (.pair (.int .i64) TPage))) × (Val (.slice (.pair (.int .i64) THead)))) (Z := (Val (.slice TPage)) × (Val (.slice TPage))) segment_AllocateL5S segment_AllocateL5O (fun d => d) (fun d => d) (iter segment_AllocateL5B)
noncomputable def segment_AllocateH : Nat → Option Sum := fun n => bif Nat.beq n 14 then some segment_AllocateL1M else bif Nat.beq n 25 then some segment_AllocateL2M else bif Nat.beq n 36 then some segment_AllocateL3M else bif Nat.beq n 32 then some segment_AllocateL4M else bif Nat.beq n 59 then some segment_AllocateL5M else none
theorem segment_AllocateL1_bd (y : (Val (.slice TPage)) × (Val (.slice (.int .i64))) × (Val (.slice (.int .i64))) × Int × Int × (Val (.pair (.int .i64) TPtr)) × (Val (.slice (.int .i64))) × (Val (.slice (.pair (.int .i64) TPage))) × (Val (.slice (.pair (.int .i64) THead)))) : @Eq (Option (((Val (.slice TPage)) × (Val (.slice (.int .i64))) × (Val (.slice (.int .i64))) × Int × Int × (Val (.pair (.int .i64) TPtr)) × (Val (.slice (.int .i64))) × (Val (.slice (.pair (.int .i64) TPage))) × (Val (.slice (.pair (.int .i64) THead)))) ⊕ (((Val (.slice TPage)) × (Val (.slice (.int .i64))) × (Val (.pair (.int .i64) TPtr)) × (Val (.slice (.int .i64))) × (Val (.slice (.pair (.int .i64) TPage))) × (Val (.slice (.pair (.int .i64) THead)))) ⊕ (Int × Bool)))) (exec segment_AllocateE segment_AllocateH segment_AllocateL1C (segment_AllocateL1S.mk' (show segment_AllocateL1S.D from y)) (kont (Y := (Val (.slice TPage)) × (Val (.slice (.int .i64))) × (Val (.slice (.int .i64))) × Int × Int × (Val (.pair (.int .i64) TPtr)) × (Val (.slice (.int .i64))) × (Val (.slice (.pair (.int .i64) TPage))) × (Val (.slice (.pair (.int .i64) THead)))) (Z := ((Val (.slice TPage)) × (Val (.slice (.int .i64))) × (Val (.pair (.int .i64) TPtr)) × (Val (.slice (.int .i64))) × (Val (.slice (.pair (.int .i64) TPage))) × (Val (.slice (.pair (.int .i64) THead)))) ⊕ (Int × Bool)) segment_AllocateL1S segment_AllocateL1O (fun d => d) (fun d => d))) (segment_AllocateL1B y) := by kernel_rfl
theorem segment_AllocateL1_ok {w0 : World} {Jo : Io} (hfix : ∀ i b, Jo.fix i = some b → i ∈ []) (hmay : true = true → Jo.may) : SumOk PT w0 Jo segment_AllocateL1M (.loop segment_AllocateL1C) :=
  @loop_ok w0 Jo PT segment_AllocateE segment_AllocateH ((Val (.slice TPage)) × (Val (.slice (.int .i64))) × (Val (.slice (.int .i64))) × Int × Int × (Val (.pair (.int .i64) TPtr)) × (Val (.slice (.int .i64))) × (Val (.slice (.pair (.int .i64) TPage))) × (Val (.slice (.pair (.int .i64) THead)))) (((Val (.slice TPage)) × (Val (.slice (.int .i64))) × (Val (.pair (.int .i64) TPtr)) × (Val (.slice (.int .i64))) × (Val (.slice (.pair (.int .i64) TPage))) × (Val (.slice (.pair (.int .i64) THead)))) ⊕ (Int × Bool)) segment_Allocate_env mixed segment_AllocateL1C segment_AllocateL1S segment_AllocateL1O (fun d => d) (fun d => d) (fun d => d) (fun d => d) (fun _ => rfl) (fun _ => rfl) hfix hmay (by kernel_rfl) (noLoops (by kernel_rfl)) segment_AllocateL1B segment_AllocateL1_bd
theorem segment_AllocateL2_bd (y : (Val (.slice TPage)) × (Val (.slice (.int .i64))) × (Val (.slice (.int .i64))) × Int × Int × (Val (.pair (.int .i64) TPtr)) × (Val (.slice (.int .i64))) × (Val (.slice (.pair (.int .i64) TPage))) × (Val (.slice (.pair (.int .i64) THead)))) : @Eq (Option (((Val (.slice TPage)) × (Val (.slice (.int .i64))) × (Val (.slice (.int .i64))) × Int × Int × (Val (.pair (.int .i64) TPtr)) × (Val (.slice (.int .i64))) × (Val (.slice (.pair (.int .i64) TPage))) × (Val (.slice (.pair (.int .i64) THead)))) ⊕ ((Val (.slice TPage)) × (Val (.slice (.int .i64))) × (Val (.pair (.int .i64) TPtr)) × (Val (.slice (.int .i64))) × (Val (.slice (.pair (.int .i64) TPage))) × (Val (.slice (.pair (.int .i64) THead)))))) (exec segment_AllocateE segment_AllocateH segment_AllocateL2C (segment_AllocateL2S.mk' (show segment_AllocateL2S.D from y)) (kont (Y := (Val (.slice TPage)) × (Val (.slice (.int .i64))) × (Val (.slice (.int .i64))) × Int × Int × (Val (.pair (.int .i64) TPtr)) × (Val (.slice (.int .i64))) × (Val (.slice (.pair (.int .i64) TPage))) × (Val (.slice (.pair (.int .i64) THead)))) (Z := (Val (.slice TPage)) × (Val (.slice (.int .i64))) × (Val (.pair (.int .i64) TPtr)) × (Val (.slice (.int .i64))) × (Val (.slice (.pair (.int .i64) TPage))) × (Val (.slice (.pair (.int .i64) THead)))) segment_AllocateL2S segment_AllocateL2O (fun d => d) (fun d => d))) (segment_AllocateL2B y) := by kernel_rfl
theorem segment_AllocateL2_ok {w0 : World} {Jo : Io} (hfix : ∀ i b, Jo.fix i = some b → i ∈ []) (hmay : true = true → Jo.may) : SumOk PT w0 Jo segment_AllocateL2M (.loop segment_AllocateL2C) :=
  @loop_ok w0 Jo PT segment_AllocateE segment_AllocateH ((Val (.slice TPage)) × (Val (.slice (.int .i64))) × (Val (.slice (.int .i64))) × Int × Int × (Val (.pair (.int .i64) TPtr)) × (Val (.slice (.int .i64))) × (Val (.slice (.pair (.int .i64) TPage))) × (Val (.slice (.pair (.int .i64) THead)))) ((Val (.slice TPage)) × (Val (.slice (.int .i64))) × (Val (.pair (.int .i64) TPtr)) × (Val (.slice (.int .i64))) × (Val (.slice (.pair (.int .i64) TPage))) × (Val (.slice (.pair (.int .i64) THead)))) segment_Allocate_env mixed segment_AllocateL2C segment_AllocateL2S segment_AllocateL2O (fun d => d) (fun d => d) (fun d => d) (fun d => d) (fun _ => rfl) (fun _ => rfl) hfix hmay (by kernel_rfl) (noLoops (by kernel_rfl)) segment_AllocateL2B segment_AllocateL2_bd
theorem segment_AllocateL3_bd (y : (Val (.slice TPage)) × (Val (.slice (.int .i64))) × Int × Int × Int × (Val (.slice (.int .i64))) × Int × Int × (Val (.pair (.int .i64) TPtr)) × (Val (.slice (.int .i64))) × (Val (.slice TPage)) × (Val (.slice (.pair (.int .i64) TPage))) × (Val (.slice (.pair (.int .i64) THead))) × (Val (.slice (.pair (.int .i64) THead))) × (Val THead)) : @Eq (Option (((Val (.slice TPage)) × (Val (.slice (.int .i64))) × Int × Int × Int × (Val (.slice (.int .i64))) × Int × Int × (Val (.pair (.int .i64) TPtr)) × (Val (.slice (.int .i64))) × (Val (.slice TPage)) × (Val (.slice (.pair (.int .i64) TPage))) × (Val (.slice (.pair (.int .i64) THead))) × (Val (.slice (.pair (.int .i64) THead))) × (Val THead)) ⊕ (((Val (.slice TPage)) × (Val (.slice (.int .i64))) × Int × (Val (.slice (.int .i64))) × Int × Int × (Val (.pair (.int .i64) TPtr)) × (Val (.slice (.int .i64))) × (Val (.slice TPage)) × (Val (.slice (.pair (.int .i64) TPage))) × (Val (.slice (.pair (.int .i64) THead))) × (Val (.slice (.pair (.int .i64) THead)))) ⊕ (Int × Bool)))) (exec segment_AllocateE segment_AllocateH segment_AllocateL3C (segment_AllocateL3S.mk' (show segment_AllocateL3S.D from y)) (kont (Y := (Val (.slice TPage)) × (Val (.slice (.int .i64))) × Int × Int × Int × (Val (.slice (.int .i64))) × Int × Int × (Val (.pair (.int .i64) TPtr)) × (Val (.slice (.int .i64))) × (Val (.slice TPage)) × (Val (.slice (.pair (.int .i64) TPage))) × (Val (.slice (.pair (.int .i64) THead))) × (Val (.slice (.pair (.int .i64) THead))) × (Val THead)) (Z := ((Val (.slice TPage)) × (Val (.slice (.int .i64))) × Int × (Val (.slice (.int .i64))) × Int × Int × (Val (.pair (.int .i64) TPtr)) × (Val (.slice (.int .i64))) × (Val (.slice TPage)) × (Val (.slice (.pair (.int .i64) TPage))) × (Val (.slice (.pair (.int .i64) THead))) × (Val (.slice (.pair (.int .i64) THead)))) ⊕ (Int × Bool)) segment_AllocateL3S segment_AllocateL3O (fun d => d) (fun d => d))) (segment_AllocateL3B y) := by kernel_rfl
theorem segment_AllocateL3_ok {w0 : World} {Jo : Io} (hfix : ∀ i b, Jo.fix i = some b → i ∈ []) (hmay : true = true → Jo.may) : SumOk PT w0 Jo segment_AllocateL3M (.loop segment_AllocateL3C) :=
  @loop_ok w0 Jo PT segment_AllocateE segment_AllocateH ((Val (.slice TPage)) × (Val (.slice (.int .i64))) × Int × Int × Int × (Val (.slice (.int .i64))) × Int × Int × (Val (.pair (.int .i64) TPtr)) × (Val (.slice (.int .i64))) × (Val (.slice TPage)) × (Val (.slice (.pair (.int .i64) TPage))) × (Val (.slice (.pair (.int .i64) THead))) × (Val (.slice (.pair (.int .i64) THead))) × (Val THead)) (((Val (.slice TPage)) × (Val (.slice (.int .i64))) × Int × (Val (.slice (.int .i64))) × Int × Int × (Val (.pair (.int .i64) TPtr)) × (Val (.slice (.int .i64))) × (Val (.slice TPage)) × (Val (.slice (.pair (.int .i64) TPage))) × (Val (.slice (.pair (.int .i64) THead))) × (Val (.slice (.pair (.int .i64) THead)))) ⊕ (Int × Bool)) segment_Allocate_env mixed segment_AllocateL3C segment_AllocateL3S segment_AllocateL3O (fun d => d) (fun d => d) (fun d => d) (fun d => d) (fun _ => rfl) (fun _ => rfl) hfix hmay (by kernel_rfl) (noLoops (by kernel_rfl)) segment_AllocateL3B segment_AllocateL3_bd
theorem segment_AllocateL4_bd (y : (Val (.slice TPage)) × (Val (.slice (.int .i64))) × Int × (Val (.slice (.int .i64))) × Int × Int × (Val (.pair (.int .i64) TPtr)) × (Val (.slice (.int .i64))) × (Val (.slice TPage)) × (Val (.slice (.pair (.int .i64) TPage))) × (Val (.slice (.pair (.int .i64) THead))) × (Val (.slice (.pair (.int .i64) THead)))) : @Eq (Option (((Val (.slice TPage)) × (Val (.slice (.int .i64))) × Int × (Val (.slice (.int .i64))) × Int × Int × (Val (.pair (.int .i64) TPtr)) × (Val (.slice (.int .i64))) × (Val (.slice TPage)) × (Val (.slice (.pair (.int .i64) TPage))) × (Val (.slice (.pair (.int .i64) THead))) × (Val (.slice (.pair (.int .i64) THead)))) ⊕ (((Val (.slice (.int .i64))) × Int × (Val (.pair (.int .i64) TPtr)) × (Val (.slice (.int .i64))) × (Val (.slice TPage)) × (Val (.slice (.pair (.int .i64) TPage))) × (Val (.slice (.pair (.int .i64) THead)))) ⊕ (Int × Bool)))) (exec segment_AllocateE segment_AllocateH segment_AllocateL4C (segment_AllocateL4S.mk' (show segment_AllocateL4S.D from y)) (kont (Y := (Val (.slice TPage)) × (Val (.slice (.int .i64))) × Int × (Val (.slice (.int .i64))) × Int × Int × (Val (.pair (.int .i64) TPtr)) × (Val (.slice (.int .i64))) × (Val (.slice TPage)) × (Val (.slice (.pair (.int .i64) TPage))) × (Val (.slice (.pair (.int .i64) THead))) × (Val (.slice (.pair (.int .i64) THead)))) (Z := ((Val (.slice (.int .i64))) × Int × (Val (.pair (.int .i64) TPtr)) × (Val (.slice (.int .i64))) × (Val (.slice TPage)) × (Val (.slice (.pair (.int .i64) TPage))) × (Val (.slice (.pair (.int .i64) THead)))) ⊕ (Int × Bool)) segment_AllocateL4S segment_AllocateL4O (fun d => d) (fun d => d))) (segment_AllocateL4B y) := by kernel_rfl
theorem segment_AllocateL4_ok {w0 : World} {Jo : Io} (hfix : ∀ i b, Jo.fix i = some b → i ∈ []) (hmay : true = true → Jo.may) : SumOk PT w0 Jo segment_AllocateL4M (.loop segment_AllocateL4C) :=
  @loop_ok w0 Jo PT segment_AllocateE segment_AllocateH ((Val (.slice TPage)) × (Val (.slice (.int .i64))) × Int × (Val (.slice (.int .i64))) × Int × Int × (Val (.pair (.int .i64) TPtr)) × (Val (.slice (.int .i64))) × (Val (.slice TPage)) × (Val (.slice (.pair (.int .i64) TPage))) × (Val (.slice (.pair (.int .i64) THead))) × (Val (.slice (.pair (.int .i64) THead)))) (((Val (.slice (.int .i64))) × Int × (Val (.pair (.int .i64) TPtr)) × (Val (.slice (.int .i64))) × (Val (.slice TPage)) × (Val (.slice (.pair (.int .i64) TPage))) × (Val (.slice (.pair (.int .i64) THead)))) ⊕ (Int × Bool)) segment_Allocate_env mixed segment_AllocateL4C segment_AllocateL4S segment_AllocateL4O (fun d => d) (fun d => d) (fun d => d) (fun d => d) (fun _ => rfl) (fun _ => rfl) hfix hmay (by kernel_rfl) (loopsMk (by kernel_rfl) (loopsCons (c := segment_AllocateL3C) (n := 36) (f := segment_AllocateL3M) (by kernel_rfl) (by kernel_rfl) (segment_AllocateL3_ok hfix hmay) loopsNil)) segment_AllocateL4B segment_AllocateL4_bd
theorem segment_AllocateL5_bd (y : (Val (.slice (.int .i64))) × Int × Int × (Val (.slice TPage)) × (Val (.slice TPage)) × (Val (.slice (.pair (.int .i64) TPage))) × (Val (.slice (.pair (.int .i64) THead)))) : @Eq (Option (((Val (.slice (.int .i64))) × Int × Int × (Val (.slice TPage)) × (Val (.slice TPage)) × (Val (.slice (.pair (.int .i64) TPage))) × (Val (.slice (.pair (.int .i64) THead)))) ⊕ ((Val (.slice TPage)) × (Val (.slice TPage))))) (exec segment_AllocateE segment_AllocateH segment_AllocateL5C (segment_AllocateL5S.mk' (show segment_AllocateL5S.D from y)) (kont (Y := (Val (.slice (.int .i64))) × Int × Int × (Val (.slice TPage)) × (Val (.slice TPage)) × (Val (.slice (.pair (.int .i64) TPage))) × (Val (.slice (.pair (.int .i64) THead)))) (Z := (Val (.slice TPage)) × (Val (.slice TPage))) segment_AllocateL5S segment_AllocateL5O (fun d => d) (fun d => d))) (segment_AllocateL5B y) := by kernel_rfl
theorem segment_AllocateL5_ok {w0 : World} {Jo : Io} (hfix : ∀ i b, Jo.fix i = some b → i ∈ []) (hmay : true = true → Jo.may) : SumOk PT w0 Jo segment_AllocateL5M (.loop segment_AllocateL5C) :=
  @loop_ok w0 Jo PT segment_AllocateE segment_AllocateH ((Val (.slice (.int .i64))) × Int × Int × (Val (.slice TPage)) × (Val (.slice TPage)) × (Val (.slice (.pair (.int .i64) TPage))) × (Val (.slice (.pair (.int .i64) THead)))) ((Val (.slice TPage)) × (Val (.slice TPage))) segment_Allocate_env mixed segment_AllocateL5C segment_AllocateL5S segment_AllocateL5O (fun d => d) (fun d => d) (fun d => d) (fun d => d) (fun _ => rfl) (fun _ => rfl) hfix hmay (by kernel_rfl) (noLoops (by kernel_rfl)) segment_AllocateL5B segment_AllocateL5_bd
theorem segment_Allocate_bd (y : (Val (.pair (.int .i64) TPtr)) × (Val (.slice TPage))) : @Eq (Option ((Val (.slice (.int .i64))) × (Val (.slice TPage)) × (Val (.slice TPage)) × Int × Bool)) (exec segment_AllocateE segment_AllocateH segment_AllocateC (segment_AllocateI.mk' (show segment_AllocateI.D from y)) (kontF (Z := (Val (.slice (.int .i64))) × (Val (.slice TPage)) × (Val (.slice TPage)) × Int × Bool) segment_AllocateE Go.Proofs.Try.f44.results.toList segment_AllocateO (fun d => d))) (segment_AllocateF y) := by kernel_rfl
theorem segment_Allocate_lo {w0 : World} {Jo : Io} (hfix : ∀ i b, Jo.fix i = some b → i ∈ []) (hmay : true = true → Jo.may) : LoopsOk PT w0 Jo segment_AllocateH segment_AllocateC := (loopsMk (by kernel_rfl) (loopsCons (c := segment_AllocateL1C) (n := 14) (f := segment_AllocateL1M) (by kernel_rfl) (by kernel_rfl) (segment_AllocateL1_ok hfix hmay) (loopsCons (c := segment_AllocateL2C) (n := 25) (f := segment_AllocateL2M) (by kernel_rfl) (by kernel_rfl) (segment_AllocateL2_ok hfix hmay) (loopsCons (c := segment_AllocateL4C) (n := 32) (f := segment_AllocateL4M) (by kernel_rfl) (by kernel_rfl) (segment_AllocateL4_ok hfix hmay) (loopsCons (c := segment_AllocateL3C) (n := 36) (f := segment_AllocateL3M) (by kernel_rfl) (by kernel_rfl) (segment_AllocateL3_ok hfix hmay) (loopsCons (c := segment_AllocateL5C) (n := 59) (f := segment_AllocateL5M) (by kernel_rfl) (by kernel_rfl) (segment_AllocateL5_ok hfix hmay) loopsNil))))))
theorem segment_Allocate_ctr : CtrOk PT 44 segment_Allocatect :=
  @ctr_ok PT segment_AllocateE segment_AllocateH segment_Allocate_env mixed 44 Go.Proofs.Try.f44 segment_AllocateC (by kernel_rfl) (by kernel_rfl) (enters_of (by kernel_rfl : PT.funcs[44]? = some Go.Proofs.Try.f44) (by kernel_rfl) (by kernel_rfl)) segment_AllocateI segment_AllocateO ((Val (.pair (.int .i64) TPtr)) × (Val (.slice TPage))) ((Val (.slice (.int .i64))) × (Val (.slice TPage)) × (Val (.slice TPage)) × Int × Bool) (fun d => d) (fun d => d) (fun d => d) (fun d => d) (fun _ => rfl) (fun _ => rfl) (by kernel_rfl) (by kernel_rfl) segment_AllocateF segment_Allocate_bd (fun w0 Jo hfix hmay => segment_Allocate_lo hfix hmay)

/-- bodega/pointer.tagOf -/
noncomputable def pointer_tagOf (a0 : Val TPage) : Option ((Val (.pair (.int .i64) THead))) :=
  (pointer_UnpackTag (List.getD a0.2.2.1 0 (0 : Int))).bind fun r1 =>
  some r1
noncomputable def pointer_tagOfI : Shape := { n := 7, nx := 0, sl := [(0, .dat false TPage)], ob := [], fix := [], may := true }
noncomputable def pointer_tagOfO : Shape := { n := 8, nx := 0, sl := [(7, .dat true (.pair (.int .i64) THead))], ob := [], fix := [], may := true }
noncomputable def pointer_tagOfF : ((Val TPage)) → Option ((Val (.pair (.int .i64) THead))) := fun y => pointer_tagOf y
noncomputable def pointer_tagOfct : Ctr := ctrOf pointer_tagOfI pointer_tagOfO (fun d => d) (fun d => d) pointer_tagOfF
noncomputable def pointer_tagOfE : Env := { tf := tfE, mt := mtE, fn := fun f => bif Nat.beq f 72 then some pointer_UnpackTagct else none }
theorem pointer_tagOf_env : EnvOk PT pointer_tagOfE := ⟨tyE, (fun f ct h => by
  simp only [pointer_tagOfE] at h
  refine envCons (c := pointer_UnpackTagct) h pointer_UnpackTag_ctr (fun h => ?_)
  cases h), mapE⟩
noncomputable def pointer_tagOfC : Code := bodyOf Go.Proofs.Try.f74
noncomputable def pointer_tagOfH : Nat → Option Sum := fun n => none
theorem pointer_tagOf_bd (y : (Val TPage)) : @Eq (Option ((Val (.pair (.int .i64) THead)))) (exec pointer_tagOfE pointer_tagOfH pointer_tagOfC (pointer_tagOfI.mk' (show pointer_tagOfI.D from y)) (kontF (Z := (Val (.pair (.int .i64) THead))) pointer_tagOfE Go.Proofs.Try.f74.results.toList pointer_tagOfO (fun d => d))) (pointer_tagOfF y) := by kernel_rfl
theorem pointer_tagOf_lo {w0 : World} {Jo : Io} (hfix : ∀ i b, Jo.fix i = some b → i ∈ []) (hmay : true = true → Jo.may) : LoopsOk PT w0 Jo pointer_tagOfH pointer_tagOfC := (noLoops (by kernel_rfl))
theorem pointer_tagOf_ctr : CtrOk PT 74 pointer_tagOfct :=
  @ctr_ok PT pointer_tagOfE pointer_tagOfH pointer_tagOf_env mixed 74 Go.Proofs.Try.f74 pointer_tagOfC (by kernel_rfl) (by kernel_rfl) (enters_of (by kernel_rfl : PT.funcs[74]? = some Go.Proofs.Try.f74) (by kernel_rfl) (by kernel_rfl)) pointer_tagOfI pointer_tagOfO ((Val TPage)) ((Val (.pair (.int .i64) THead))) (fun d => d) (fun d => d) (fun d => d) (fun d => d) (fun _ => rfl) (fun _ => rfl) (by kernel_rfl) (by kernel_rfl) pointer_tagOfF pointer_tagOf_bd (fun w0 Jo hfix hmay => pointer_tagOf_lo hfix hmay)

/-- bodega/pointer.PackTag -/
noncomputable def pointer_PackTag (a0 : Val (.pair (.int .i64) THead)) : Option Int :=
  some (IntKind.wrap .u64 ((BitVec.ofInt (IntKind.bits .u64) (IntKind.wrap .u64 ((BitVec.ofInt (IntKind.bits .u64) (IntKind.wrap .u64 ((BitVec.ofInt (IntKind.bits .u64) (IntKind.wrap .u64 a0.1) &&& BitVec.ofInt (IntKind.bits .u64) (255 : Int)).toNat : Int)) ||| BitVec.ofInt (IntKind.bits .u64) (shiftL .u64 (IntKind.wrap .u64 ((BitVec.ofInt (IntKind.bits .u64) (IntKind.wrap .u64 a0.2.1) &&& BitVec.ofInt (IntKind.bits .u64) (16777215 : Int)).toNat : Int)) (8 : Int))).toNat : Int)) ||| BitVec.ofInt (IntKind.bits .u64) (shiftL .u64 (IntKind.wrap .u64 a0.2.2.1) (32 : Int))).toNat : Int))
noncomputable def pointer_PackTagI : Shape := { n := 22, nx := 0, sl := [(0, .dat false (.pair (.int .i64) THead))], ob := [], fix := [], may := true }
noncomputable def pointer_PackTagO : Shape := { n := 23, nx := 0, sl := [(22, .dat true (.int .u64))], ob := [], fix := [], may := true }
noncomputable def pointer_PackTagF : ((Val (.pair (.int .i64) THead))) → Option Int := fun y => pointer_PackTag y
noncomputable def pointer_PackTagct : Ctr := ctrOf pointer_PackTagI pointer_PackTagO (fun d => d) (fun d => d) pointer_PackTagF
noncomputable def pointer_PackTagE : Env := { tf := tfE, mt := mtE, fn := fun f => none }
theorem pointer_PackTag_env : EnvOk PT pointer_PackTagE := ⟨tyE, (fun f ct h => by
  simp only [pointer_PackTagE] at h
  cases h), mapE⟩
noncomputable def pointer_PackTagC : Code := bodyOf Go.Proofs.Try.f91
noncomputable def pointer_PackTagH : Nat → Option Sum := fun n => none
theorem pointer_PackTag_bd (y : (Val (.pair (.int .i64) THead))) : @Eq (Option Int) (exec pointer_PackTagE pointer_PackTagH pointer_PackTagC (pointer_PackTagI.mk' (show pointer_PackTagI.D from y)) (kontF (Z := Int) pointer_PackTagE Go.Proofs.Try.f91.results.toList pointer_PackTagO (fun d => d))) (pointer_PackTagF y) := by kernel_rfl
theorem pointer_PackTag_lo {w0 : World} {Jo : Io} (hfix : ∀ i b, Jo.fix i = some b → i ∈ []) (hmay : true = true → Jo.may) : LoopsOk PT w0 Jo pointer_PackTagH pointer_PackTagC := (noLoops (by kernel_rfl))
theorem pointer_PackTag_ctr : CtrOk PT 91 pointer_PackTagct :=
  @ctr_ok PT pointer_PackTagE pointer_PackTagH pointer_PackTag_env mixed 91 Go.Proofs.Try.f91 pointer_PackTagC (by kernel_rfl) (by kernel_rfl) (enters_of (by kernel_rfl : PT.funcs[91]? = some Go.Proofs.Try.f91) (by kernel_rfl) (by kernel_rfl)) pointer_PackTagI pointer_PackTagO ((Val (.pair (.int .i64) THead))) Int (fun d => d) (fun d => d) (fun d => d) (fun d => d) (fun _ => rfl) (fun _ => rfl) (by kernel_rfl) (by kernel_rfl) pointer_PackTagF pointer_PackTag_bd (fun w0 Jo hfix hmay => pointer_PackTag_lo hfix hmay)

/-- bodega/pointer.tagged -/
noncomputable def pointer_tagged (a0 : Val TPage) (a1 : Val (.pair (.int .i64) THead)) : Option ((Val TPage)) :=
  (pointer_PackTag a1).bind fun r1 =>
  some (a0.1, (a0.2.1, ((List.set (List.replicate 7 (0 : Int)) 0 r1), ())))
noncomputable def pointer_taggedI : Shape := { n := 16, nx := 0, sl := [(0, .dat false TPage), (1, .dat false (.pair (.int .i64) THead))], ob := [], fix := [], may := true }
noncomputable def pointer_taggedO : Shape := { n := 17, nx := 0, sl := [(16, .dat true TPage)], ob := [], fix := [], may := true }
noncomputable def pointer_taggedF : ((Val TPage) × (Val (.pair (.int .i64) THead))) → Option ((Val TPage)) := fun y => pointer_tagged y.1 y.2
noncomputable def pointer_taggedct : Ctr := ctrOf pointer_taggedI pointer_taggedO (fun d => d) (fun d => d) pointer_taggedF
noncomputable def pointer_taggedE : Env := { tf := tfE, mt := mtE, fn := fun f => bif Nat.beq f 91 then some pointer_PackTagct else none }
theorem pointer_tagged_env : EnvOk PT pointer_taggedE := ⟨tyE, (fun f ct h => by
  simp only [pointer_taggedE] at h
  refine envCons (c := pointer_PackTagct) h pointer_PackTag_ctr (fun h => ?_)
  cases h), mapE⟩
noncomputable def pointer_taggedC : Code := bodyOf Go.Proofs.Try.f76
noncomputable def pointer_taggedH : Nat → Option Sum := fun n => none
theorem pointer_tagged_bd (y : (Val TPage) × (Val (.pair (.int .i64) THead))) : @Eq (Option ((Val TPage))) (exec pointer_taggedE pointer_taggedH pointer_taggedC (pointer_taggedI.mk' (show pointer_taggedI.D from y)) (kontF (Z := (Val TPage)) pointer_taggedE Go.Proofs.Try.f76.results.toList pointer_taggedO (fun d => d))) (pointer_taggedF y) := by kernel_rfl
theorem pointer_tagged_lo {w0 : World} {Jo : Io} (hfix : ∀ i b, Jo.fix i = some b → i ∈ []) (hmay : true = true → Jo.may) : LoopsOk PT w0 Jo pointer_taggedH pointer_taggedC := (noLoops (by kernel_rfl))
theorem pointer_tagged_ctr : CtrOk PT 76 pointer_taggedct :=
  @ctr_ok PT pointer_taggedE pointer_taggedH pointer_tagged_env mixed 76 Go.Proofs.Try.f76 pointer_taggedC (by kernel_rfl) (by kernel_rfl) (enters_of (by kernel_rfl : PT.funcs[76]? = some Go.Proofs.Try.f76) (by kernel_rfl) (by kernel_rfl)) pointer_taggedI pointer_taggedO ((Val TPage) × (Val (.pair (.int .i64) THead))) ((Val TPage)) (fun d => d) (fun d => d) (fun d => d) (fun d => d) (fun _ => rfl) (fun _ => rfl) (by kernel_rfl) (by kernel_rfl) pointer_taggedF pointer_tagged_bd (fun w0 Jo hfix hmay => pointer_tagged_lo hfix hmay)

/-- bodega/pointer.Allocate -/
noncomputable def pointer_Allocate (a0 : Val TPage) (a1 : Int) (a2 : Int) : Option ((Val TPage) × Int) :=
  (pointer_tagOf a0).bind fun r1 =>
  (pointer_inHeap a0.1).bind fun r2 =>
  bif (!r2) then (
    some (((0 : Int), ((0 : Int), ((List.replicate 7 (0 : Int)), ()))), (1 : Int)))
  else (
    bif (decide (a1 < (1 : Int))) then (
      some (((0 : Int), ((0 : Int), ((List.replicate 7 (0 : Int)), ()))), (1 : Int)))
    else (
      bif (decide ((4 : Int) < a1)) then (
        some (((0 : Int), ((0 : Int), ((List.replicate 7 (0 : Int)), ()))), (1 : Int)))
      else (
        (pointer_Locked a0).bind fun r3 =>
        bif r3 then (
          some (((0 : Int), ((0 : Int), ((List.replicate 7 (0 : Int)), ()))), (3 : Int)))
        else (
          bif (!(decide (r1.1 = (0 : Int)))) then (
            some (((0 : Int), ((0 : Int), ((List.replicate 7 (0 : Int)), ()))), (17 : Int)))
          else (
            bif (decide (r1.2.1 = (16777215 : Int))) then (
              some (((0 : Int), ((0 : Int), ((List.replicate 7 (0 : Int)), ()))), (18 : Int)))
            else (
              (pointer_tagged a0 (a1, ((IntKind.wrap .i64 (r1.2.1 + (1 : Int))), (a2, ())))).bind fun r4 =>
              some (r4, (0 : Int))))))))
noncomputable def pointer_AllocateI : Shape := { n := 47, nx := 0, sl := [(0, .dat false TPage), (1, .dat false (.int .i64)), (2, .dat false (.int .u32))], ob := [], fix := [], may := true }
noncomputable def pointer_AllocateO : Shape := { n := 48, nx := 0, sl := [(47, .tup (.cons (.dat true TPage) (.cons (.dat true (.int .i64)) (.nil))))], ob := [], fix := [], may := true }
noncomputable def pointer_AllocateF : ((Val TPage) × Int × Int) → Option ((Val TPage) × Int) := fun y => pointer_Allocate y.1 y.2.1 y.2.2
noncomputable def pointer_Allocatect : Ctr := ctrOf pointer_AllocateI pointer_AllocateO (fun d => d) (fun d => d) pointer_AllocateF
noncomputable def pointer_AllocateE : Env := { tf := tfE, mt := mtE, fn := fun f => bif Nat.beq f 74 then some pointer_tagOfct else bif Nat.beq f 75 then some pointer_inHeapct else bif Nat.beq f 73 then some pointer_Lockedct else bif Nat.beq f 76 then some pointer_taggedct else none }
theorem pointer_Allocate_env : EnvOk PT pointer_AllocateE := ⟨tyE, (fun f ct h => by
  simp only [pointer_AllocateE] at h
  refine envCons (c := pointer_tagOfct) h pointer_tagOf_ctr (fun h => ?_)
  refine envCons (c := pointer_inHeapct) h pointer_inHeap_ctr (fun h => ?_)
  refine envCons (c := pointer_Lockedct) h pointer_Locked_ctr (fun h => ?_)
  refine envCons (c := pointer_taggedct) h pointer_tagged_ctr (fun h => ?_)
  cases h), mapE⟩
noncomputable def pointer_AllocateC : Code := bodyOf Go.Proofs.Try.f45
noncomputable def pointer_AllocateH : Nat → Option Sum := fun n => none
theorem pointer_Allocate_bd (y : (Val TPage) × Int × Int) : @Eq (Option ((Val TPage) × Int)) (exec pointer_AllocateE pointer_AllocateH pointer_AllocateC (pointer_AllocateI.mk' (show pointer_AllocateI.D from y)) (kontF (Z := (Val TPage) × Int) pointer_AllocateE Go.Proofs.Try.f45.results.toList pointer_AllocateO (fun d => d))) (pointer_AllocateF y) := by kernel_rfl
theorem pointer_Allocate_lo {w0 : World} {Jo : Io} (hfix : ∀ i b, Jo.fix i = some b → i ∈ []) (hmay : true = true → Jo.may) : LoopsOk PT w0 Jo pointer_AllocateH pointer_AllocateC := (noLoops (by kernel_rfl))
theorem pointer_Allocate_ctr : CtrOk PT 45 pointer_Allocatect :=
  @ctr_ok PT pointer_AllocateE pointer_AllocateH pointer_Allocate_env mixed 45 Go.Proofs.Try.f45 pointer_AllocateC (by kernel_rfl) (by kernel_rfl) (enters_of (by kernel_rfl : PT.funcs[45]? = some Go.Proofs.Try.f45) (by kernel_rfl) (by kernel_rfl)) pointer_AllocateI pointer_AllocateO ((Val TPage) × Int × Int) ((Val TPage) × Int) (fun d => d) (fun d => d) (fun d => d) (fun d => d) (fun _ => rfl) (fun _ => rfl) (by kernel_rfl) (by kernel_rfl) pointer_AllocateF pointer_Allocate_bd (fun w0 Jo hfix hmay => pointer_Allocate_lo hfix hmay)

end Go.Sx

set_option linter.unusedVariables false
set_option maxRecDepth 100000
namespace Go.Sx
open Go.RowKit
/-- bodega/pointer.At -/
noncomputable def pointer_At (a0 : Val TPage) : Option ((Val TPtr)) :=
  (pointer_tagOf a0).bind fun r1 =>
  some (a0.1, (r1.2.1, ()))
noncomputable def pointer_AtI : Shape := { n := 9, nx := 0, sl := [(0, .dat false TPage)], ob := [], fix := [], may := true }
noncomputable def pointer_AtO : Shape := { n := 10, nx := 0, sl := [(9, .dat true TPtr)], ob := [], fix := [], may := true }
noncomputable def pointer_AtF : ((Val TPage)) → Option ((Val TPtr)) := fun y => pointer_At y
noncomputable def pointer_Atct : Ctr := ctrOf pointer_AtI pointer_AtO (fun d => d) (fun d => d) pointer_AtF
noncomputable def pointer_AtE : Env := { tf := tfE, mt := mtE, fn := fun f => bif Nat.beq f 74 then some pointer_tagOfct else none }
theorem pointer_At_env : EnvOk PT pointer_AtE := ⟨tyE, (fun f ct h => by
  simp only [pointer_AtE] at h
  refine envCons (c := pointer_tagOfct) h pointer_tagOf_ctr (fun h => ?_)
  cases h), mapE⟩
noncomputable def pointer_AtC : Code := bodyOf Go.Proofs.Try.f47
noncomputable def pointer_AtH : Nat → Option Sum := fun n => none
theorem pointer_At_bd (y : (Val TPage)) : @Eq (Option ((Val TPtr))) (exec pointer_AtE pointer_AtH pointer_AtC (pointer_AtI.mk' (show pointer_AtI.D from y)) (kontF (Z := (Val TPtr)) pointer_AtE Go.Proofs.Try.f47.results.toList pointer_AtO (fun d => d))) (pointer_AtF y) := by kernel_rfl
theorem pointer_At_lo {w0 : World} {Jo : Io} (hfix : ∀ i b, Jo.fix i = some b → i ∈ []) (hmay : true = true → Jo.may) : LoopsOk PT w0 Jo pointer_AtH pointer_AtC := (noLoops (by kernel_rfl))
theorem pointer_At_ctr : CtrOk PT 47 pointer_Atct :=
  @ctr_ok PT pointer_AtE pointer_AtH pointer_At_env mixed 47 Go.Proofs.Try.f47 pointer_AtC (by kernel_rfl) (by kernel_rfl) (enters_of (by kernel_rfl : PT.funcs[47]? = some Go.Proofs.Try.f47) (by kernel_rfl) (by kernel_rfl)) pointer_AtI pointer_AtO ((Val TPage)) ((Val TPtr)) (fun d => d) (fun d => d) (fun d => d) (fun d => d) (fun _ => rfl) (fun _ => rfl) (by kernel_rfl) (by kernel_rfl) pointer_AtF pointer_At_bd (fun w0 Jo hfix hmay => pointer_At_lo hfix hmay)

/-- bodega/segment.Free$1 -/
noncomputable def segment_Free_1 (a0 : Val TPtr) (a1 : Val TPtr) : Option (Bool × (Val TPtr)) :=
  some ((decide (a0.1 = a1.1)), a1)
noncomputable def segment_Free_1I : Shape := { n := 9, nx := 1, sl := [(0, .dat false TPtr), (1, .ref 0 [])], ob := [(0, .box TPtr (.dat false TPtr))], fix := [0], may := false }
noncomputable def segment_Free_1O : Shape := { n := 10, nx := 1, sl := [(9, .dat true .bool)], ob := [(0, .box TPtr (.dat false TPtr))], fix := [0], may := false }
noncomputable def segment_Free_1F : ((Val TPtr) × (Val TPtr)) → Option (Bool × (Val TPtr)) := fun y => segment_Free_1 y.1 y.2
noncomputable def segment_Free_1ct : Ctr := ctrOf segment_Free_1I segment_Free_1O (fun d => d) (fun d => d) segment_Free_1F
noncomputable def segment_Free_1E : Env := { tf := tfE, mt := mtE, fn := fun f => none }
theorem segment_Free_1_env : EnvOk PT segment_Free_1E := ⟨tyE, (fun f ct h => by
  simp only [segment_Free_1E] at h
  cases h), mapE⟩
noncomputable def segment_Free_1C : Code := bodyOf Go.Proofs.Try.f78
noncomputable def segment_Free_1H : Nat → Option Sum := fun n => none
theorem segment_Free_1_bd (y : (Val TPtr) × (Val TPtr)) : @Eq (Option (Bool × (Val TPtr))) (exec segment_Free_1E segment_Free_1H segment_Free_1C (segment_Free_1I.mk' (show segment_Free_1I.D from y)) (kontF (Z := Bool × (Val TPtr)) segment_Free_1E Go.Proofs.Try.f78.results.toList segment_Free_1O (fun d => d))) (segment_Free_1F y) := by kernel_rfl
theorem segment_Free_1_lo {w0 : World} {Jo : Io} (hfix : ∀ i b, Jo.fix i = some b → i ∈ [0]) (hmay : false = true → Jo.may) : LoopsOk PT w0 Jo segment_Free_1H segment_Free_1C := (noLoops (by kernel_rfl))
theorem segment_Free_1_ctr : CtrOk PT 78 segment_Free_1ct :=
  @ctr_ok PT segment_Free_1E segment_Free_1H segment_Free_1_env mixed 78 Go.Proofs.Try.f78 segment_Free_1C (by kernel_rfl) (by kernel_rfl) (enters_of (by kernel_rfl : PT.funcs[78]? = some Go.Proofs.Try.f78) (by kernel_rfl) (by kernel_rfl)) segment_Free_1I segment_Free_1O ((Val TPtr) × (Val TPtr)) (Bool × (Val TPtr)) (fun d => d) (fun d => d) (fun d => d) (fun d => d) (fun _ => rfl) (fun _ => rfl) (by kernel_rfl) (by kernel_rfl) segment_Free_1F segment_Free_1_bd (fun w0 Jo hfix hmay => segment_Free_1_lo hfix hmay)

noncomputable def slices_IndexFunc_PointerL1b (x0 : Val (.slice TPtr)) (x1 : Int) (x2 : Int) (x3 : Val TPtr) : Option (((Val (.slice TPtr)) × Int × Int × (Val TPtr)) ⊕ (((Val TPtr)) ⊕ (Int × (Val TPtr)))) :=
  bif (decide (x2 < x1)) then (
    bif (inR x2 (List.length x0)) then
    (segment_Free_1 (List.getD x0 (Int.toNat x2) ((0 : Int), ((0 : Int), ()))) x3).bind fun r1 =>
    bif r1.1 then (
      some (Sum.inr (Sum.inr (x2, r1.2))))
    else (
      some (Sum.inl (x0, (x1, ((IntKind.wrap .i64 (x2 + (1 : Int))), r1.2)))))
    else none)
  else (
    some (Sum.inr (Sum.inl x3)))
noncomputable def slices_IndexFunc_PointerL1B : ((Val (.slice TPtr)) × Int × Int × (Val TPtr)) → Option (((Val (.slice TPtr)) × Int × Int × (Val TPtr)) ⊕ (((Val TPtr)) ⊕ (Int × (Val TPtr)))) := fun y => slices_IndexFunc_PointerL1b y.1 y.2.1 y.2.2.1 y.2.2.2
noncomputable def slices_IndexFunc_PointerL1 (x0 : Val (.slice TPtr)) (x1 : Int) (x2 : Int) (x3 : Val TPtr) : Option (((Val TPtr)) ⊕ (Int × (Val TPtr))) := iter slices_IndexFunc_PointerL1B (x0, (x1, (x2, x3)))
/-- slices.IndexFunc[[]bodega/pointer.Pointer,bodega/pointer.Pointer] -/
noncomputable def slices_IndexFunc_Pointer (a0 : Val (.slice TPtr)) (a1 : Val TPtr) : Option (Int × (Val TPtr)) :=
  (slices_IndexFunc_PointerL1 a0 (((List.length a0) : Nat) : Int) (0 : Int) a1).bind fun r1 =>
  match r1 with
  | .inl r2 => (
    some ((-1 : Int), r2))
  | .inr r3 => (
    some (r3.1, r3.2))
noncomputable def slices_IndexFunc_PointerI : Shape := { n := 19, nx := 1, sl := [(0, .dat false (.slice TPtr)), (1, .fn 78 (.cons (.ref 0 []) (.nil)))], ob := [(0, .box TPtr (.dat false TPtr))], fix := [0], may := false }
noncomputable def slices_IndexFunc_PointerO : Shape := { n := 20, nx := 1, sl := [(19, .dat true (.int .i64))], ob := [(0, .box TPtr (.dat false TPtr))], fix := [0], may := false }
noncomputable def slices_IndexFunc_PointerF : ((Val (.slice TPtr)) × (Val TPtr)) → Option (Int × (Val TPtr)) := fun y => slices_IndexFunc_Pointer y.1 y.2
noncomputable def slices_IndexFunc_Pointerct : Ctr := ctrOf slices_IndexFunc_PointerI slices_IndexFunc_PointerO (fun d => d) (fun d => d) slices_IndexFunc_PointerF
noncomputable def slices_IndexFunc_PointerE : Env := { tf := tfE, mt := mtE, fn := fun f => bif Nat.beq f 78 then some segment_Free_1ct else none }
theorem slices_IndexFunc_Pointer_env : EnvOk PT slices_IndexFunc_PointerE := ⟨tyE, (fun f ct h => by
  simp only [slices_IndexFunc_PointerE] at h
  refine envCons (c := segment_Free_1ct) h segment_Free_1_ctr (fun h => ?_)
  cases h), mapE⟩
noncomputable def slices_IndexFunc_PointerC : Code := bodyOf Go.Proofs.Try.f92
noncomputable def slices_IndexFunc_PointerL1C : Code := (loopsOf slices_IndexFunc_PointerC).getD 0 .skip
noncomputable def slices_IndexFunc_PointerL1S : Shape := { n := 19, nx := 1, sl := [(0, .dat false (.slice TPtr)), (1, .fn 78 (.cons (.ref 0 []) (.nil))), (7, .dat true (.int .i64)), (8, .dat true (.int .i64))], ob := [(0, .box TPtr (.dat false TPtr))], fix := [0], may := false }
noncomputable def slices_IndexFunc_PointerL1O : List (Ex × Shape) := [(.exit 0, { n := 19, nx := 1, sl := [], ob := [(0, .box TPtr (.dat false TPtr))], fix := [0], may := false }), (.ret, { n := 19, nx := 1, sl := [(4, .dat true (.int .i64))], ob := [(0, .box TPtr (.dat false TPtr))], fix := [0], may := false })]
noncomputable def slices_IndexFunc_PointerL1M : Sum := loopSum (Y := (Val (.slice TPtr)) × Int × Int × (Val TPtr)) (Z := ((Val TPtr)) ⊕ (Int × (Val TPtr))) slices_IndexFunc_PointerL1S slices_IndexFunc_PointerL1O (fun d => d) (fun d => d) (iter slices_IndexFunc_PointerL1B)
noncomputable def slices_IndexFunc_PointerH : Nat → Option Sum := fun n => bif Nat.beq n 2 then some slices_IndexFunc_PointerL1M else none
theorem slices_IndexFunc_PointerL1_bd (y : (Val (.slice TPtr)) × Int × Int × (Val TPtr)) : @Eq (Option (((Val (.slice TPtr)) × Int × Int × (Val TPtr)) ⊕ (((Val TPtr)) ⊕ (Int × (Val TPtr))))) (exec slices_IndexFunc_PointerE slices_IndexFunc_PointerH slices_IndexFunc_PointerL1C (slices_IndexFunc_PointerL1S.mk' (show slices_IndexFunc_PointerL1S.D from y)) (kont (Y := (Val (.slice TPtr)) × Int × Int × (Val TPtr)) (Z := ((Val TPtr)) ⊕ (Int × (Val TPtr))) slices_IndexFunc_PointerL1S slices_IndexFunc_PointerL1O (fun d => d) (fun d => d))) (slices_IndexFunc_PointerL1B y) := by kernel_rfl
theorem slices_IndexFunc_PointerL1_ok {w0 : World} {Jo : Io} (hfix : ∀ i b, Jo.fix i = some b → i ∈ [0]) (hmay : false = true → Jo.may) : SumOk PT w0 Jo slices_IndexFunc_PointerL1M (.loop slices_IndexFunc_PointerL1C) :=
  @loop_ok w0 Jo PT slices_IndexFunc_PointerE slices_IndexFunc_PointerH ((Val (.slice TPtr)) × Int × Int × (Val TPtr)) (((Val TPtr)) ⊕ (Int × (Val TPtr))) slices_IndexFunc_Pointer_env mixed slices_IndexFunc_PointerL1C slices_IndexFunc_PointerL1S slices_IndexFunc_PointerL1O (fun d => d) (fun d => d) (fun d => d) (fun d => d) (fun _ => rfl) (fun _ => rfl) hfix hmay (by kernel_rfl) (noLoops (by kernel_rfl)) slices_IndexFunc_PointerL1B slices_IndexFunc_PointerL1_bd
theorem slices_IndexFunc_Pointer_bd (y : (Val (.slice TPtr)) × (Val TPtr)) : @Eq (Option (Int × (Val TPtr))) (exec slices_IndexFunc_PointerE slices_IndexFunc_PointerH slices_IndexFunc_PointerC (slices_IndexFunc_PointerI.mk' (show slices_IndexFunc_PointerI.D from y)) (kontF (Z := Int × (Val TPtr)) slices_IndexFunc_PointerE Go.Proofs.Try.f92.results.toList slices_IndexFunc_PointerO (fun d => d))) (slices_IndexFunc_PointerF y) := by kernel_rfl
theorem slices_IndexFunc_Pointer_lo {w0 : World} {Jo : Io} (hfix : ∀ i b, Jo.fix i = some b → i ∈ [0]) (hmay : false = true → Jo.may) : LoopsOk PT w0 Jo slices_IndexFunc_PointerH slices_IndexFunc_PointerC := (loopsMk (by kernel_rfl) (loopsCons (c := slices_IndexFunc_PointerL1C) (n := 2) (f := slices_IndexFunc_PointerL1M) (by kernel_rfl) (by kernel_rfl) (slices_IndexFunc_PointerL1_ok hfix hmay) loopsNil))
theorem slices_IndexFunc_Pointer_ctr : CtrOk PT 92 slices_IndexFunc_Pointerct :=
  @ctr_ok PT slices_IndexFunc_PointerE slices_IndexFunc_PointerH slices_IndexFunc_Pointer_env mixed 92 Go.Proofs.Try.f92 slices_IndexFunc_PointerC (by kernel_rfl) (by kernel_rfl) (enters_of (by kernel_rfl : PT.funcs[92]? = some Go.Proofs.Try.f92) (by kernel_rfl) (by kernel_rfl)) slices_IndexFunc_PointerI slices_IndexFunc_PointerO ((Val (.slice TPtr)) × (Val TPtr)) (Int × (Val TPtr)) (fun d => d) (fun d => d) (fun d => d) (fun d => d) (fun _ => rfl) (fun _ => rfl) (by kernel_rfl) (by kernel_rfl) slices_IndexFunc_PointerF slices_IndexFunc_Pointer_bd (fun w0 Jo hfix hmay => slices_IndexFunc_Pointer_lo hfix hmay)

/-- slices.ContainsFunc[[]bodega/pointer.Pointer,bodega/pointer.Pointer] -/
noncomputable def slices_ContainsFunc_Pointer (a0 : Val (.slice TPtr)) (a1 : Val TPtr) : Option (Bool × (Val TPtr)) :=
  (slices_IndexFunc_Pointer a0 a1).bind fun r1 =>
  some ((decide ((0 : Int) ≤ r1.1)), r1.2)
noncomputable def slices_ContainsFunc_PointerI : Shape := { n := 9, nx := 1, sl := [(0, .dat false (.slice TPtr)), (1, .fn 78 (.cons (.ref 0 []) (.nil)))], ob := [(0, .box TPtr (.dat false TPtr))], fix := [0], may := false }
noncomputable def slices_ContainsFunc_PointerO : Shape := { n := 10, nx := 1, sl := [(9, .dat true .bool)], ob := [(0, .box TPtr (.dat false TPtr))], fix := [0], may := false }
noncomputable def slices_ContainsFunc_PointerF : ((Val (.slice TPtr)) × (Val TPtr)) → Option (Bool × (Val TPtr)) := fun y => slices_ContainsFunc_Pointer y.1 y.2
noncomputable def slices_ContainsFunc_Pointerct : Ctr := ctrOf slices_ContainsFunc_PointerI slices_ContainsFunc_PointerO (fun d => d) (fun d => d) slices_ContainsFunc_PointerF
noncomputable def slices_ContainsFunc_PointerE : Env := { tf := tfE, mt := mtE, fn := fun f => bif Nat.beq f 92 then some slices_IndexFunc_Pointerct else none }
theorem slices_ContainsFunc_Pointer_env : EnvOk PT slices_ContainsFunc_PointerE := ⟨tyE, (fun f ct h => by
  simp only [slices_ContainsFunc_PointerE] at h
  refine envCons (c := slices_IndexFunc_Pointerct) h slices_IndexFunc_Pointer_ctr (fun h => ?_)
  cases h), mapE⟩
noncomputable def slices_ContainsFunc_PointerC : Code := bodyOf Go.Proofs.Try.f77
noncomputable def slices_ContainsFunc_PointerH : Nat → Option Sum := fun n => none
theorem slices_ContainsFunc_Pointer_bd (y : (Val (.slice TPtr)) × (Val TPtr)) : @Eq (Option (Bool × (Val TPtr))) (exec slices_ContainsFunc_PointerE slices_ContainsFunc_PointerH slices_ContainsFunc_PointerC (slices_ContainsFunc_PointerI.mk' (show slices_ContainsFunc_PointerI.D from y)) (kontF (Z := Bool × (Val TPtr)) slices_ContainsFunc_PointerE Go.Proofs.Try.f77.results.toList slices_ContainsFunc_PointerO (fun d => d))) (slices_ContainsFunc_PointerF y) := by kernel_rfl
theorem slices_ContainsFunc_Pointer_lo {w0 : World} {Jo : Io} (hfix : ∀ i b, Jo.fix i = some b → i ∈ [0]) (hmay : false = true → Jo.may) : LoopsOk PT w0 Jo slices_ContainsFunc_PointerH slices_ContainsFunc_PointerC := (noLoops (by kernel_rfl))
theorem slices_ContainsFunc_Pointer_ctr : CtrOk PT 77 slices_ContainsFunc_Pointerct :=
  @ctr_ok PT slices_ContainsFunc_PointerE slices_ContainsFunc_PointerH slices_ContainsFunc_Pointer_env mixed 77 Go.Proofs.Try.f77 slices_ContainsFunc_PointerC (by kernel_rfl) (by kernel_rfl) (enters_of (by kernel_rfl : PT.funcs[77]? = some Go.Proofs.Try.f77) (by kernel_rfl) (by kernel_rfl)) slices_ContainsFunc_PointerI slices_ContainsFunc_PointerO ((Val (.slice TPtr)) × (Val TPtr)) (Bool × (Val TPtr)) (fun d => d) (fun d => d) (fun d => d) (fun d => d) (fun _ => rfl) (fun _ => rfl) (by kernel_rfl) (by kernel_rfl) slices_ContainsFunc_PointerF slices_ContainsFunc_Pointer_bd (fun w0 Jo hfix hmay => slices_ContainsFunc_Pointer_lo hfix hmay)

/-- bodega/pointer.Release -/
noncomputable def pointer_Release (a0 : Val TPage) : Option ((Val TPage) × Int) :=
  (pointer_tagOf a0).bind fun r1 =>
  (pointer_inHeap a0.1).bind fun r2 =>
  bif (!r2) then (
    some (((0 : Int), ((0 : Int), ((List.replicate 7 (0 : Int)), ()))), (1 : Int)))
  else (
    (pointer_Locked a0).bind fun r3 =>
    bif r3 then (
      some (((0 : Int), ((0 : Int), ((List.replicate 7 (0 : Int)), ()))), (3 : Int)))
    else (
      bif (decide (r1.1 = (0 : Int))) then (
        some (((0 : Int), ((0 : Int), ((List.replicate 7 (0 : Int)), ()))), (16 : Int)))
      else (
        (pointer_tagged a0 ((0 : Int), (r1.2.1, ((0 : Int), ())))).bind fun r4 =>
        some (r4, (0 : Int)))))
noncomputable def pointer_ReleaseI : Shape := { n := 27, nx := 0, sl := [(0, .dat false TPage)], ob := [], fix := [], may := true }
noncomputable def pointer_ReleaseO : Shape := { n := 28, nx := 0, sl := [(27, .tup (.cons (.dat true TPage) (.cons (.dat true (.int .i64)) (.nil))))], ob := [], fix := [], may := true }
noncomputable def pointer_ReleaseF : ((Val TPage)) → Option ((Val TPage) × Int) := fun y => pointer_Release y
noncomputable def pointer_Releasect : Ctr := ctrOf pointer_ReleaseI pointer_ReleaseO (fun d => d) (fun d => d) pointer_ReleaseF
noncomputable def pointer_ReleaseE : Env := { tf := tfE, mt := mtE, fn := fun f => bif Nat.beq f 74 then some pointer_tagOfct else bif Nat.beq f 75 then some pointer_inHeapct else bif Nat.beq f 73 then some pointer_Lockedct else bif Nat.beq f 76 then some pointer_taggedct else none }
theorem pointer_Release_env : EnvOk PT pointer_ReleaseE := ⟨tyE, (fun f ct h => by
  simp only [pointer_ReleaseE] at h
  refine envCons (c := pointer_tagOfct) h pointer_tagOf_ctr (fun h => ?_)
  refine envCons (c := pointer_inHeapct) h pointer_inHeap_ctr (fun h => ?_)
  refine envCons (c := pointer_Lockedct) h pointer_Locked_ctr (fun h => ?_)
  refine envCons (c := pointer_taggedct) h pointer_tagged_ctr (fun h => ?_)
  cases h), mapE⟩
noncomputable def pointer_ReleaseC : Code := bodyOf Go.Proofs.Try.f79
noncomputable def pointer_ReleaseH : Nat → Option Sum := fun n => none
theorem pointer_Release_bd (y : (Val TPage)) : @Eq (Option ((Val TPage) × Int)) (exec pointer_ReleaseE pointer_ReleaseH pointer_ReleaseC (pointer_ReleaseI.mk' (show pointer_ReleaseI.D from y)) (kontF (Z := (Val TPage) × Int) pointer_ReleaseE Go.Proofs.Try.f79.results.toList pointer_ReleaseO (fun d => d))) (pointer_ReleaseF y) := by kernel_rfl
theorem pointer_Release_lo {w0 : World} {Jo : Io} (hfix : ∀ i b, Jo.fix i = some b → i ∈ []) (hmay : true = true → Jo.may) : LoopsOk PT w0 Jo pointer_ReleaseH pointer_ReleaseC := (noLoops (by kernel_rfl))
theorem pointer_Release_ctr : CtrOk PT 79 pointer_Releasect :=
  @ctr_ok PT pointer_ReleaseE pointer_ReleaseH pointer_Release_env mixed 79 Go.Proofs.Try.f79 pointer_ReleaseC (by kernel_rfl) (by kernel_rfl) (enters_of (by kernel_rfl : PT.funcs[79]? = some Go.Proofs.Try.f79) (by kernel_rfl) (by kernel_rfl)) pointer_ReleaseI pointer_ReleaseO ((Val TPage)) ((Val TPage) × Int) (fun d => d) (fun d => d) (fun d => d) (fun d => d) (fun _ => rfl) (fun _ => rfl) (by kernel_rfl) (by kernel_rfl) pointer_ReleaseF pointer_Release_bd (fun w0 Jo hfix hmay => pointer_Release_lo hfix hmay)

noncomputable def segment_FreeL1b (x0 : Int) (x1 : Val (.slice TPtr)) (x2 : Val (.slice TPage)) (x3 : Val (.slice TPtr)) (x4 : Int) (x5 : Int) (x6 : Val (.slice (.int .i64))) : Option ((Int × (Val (.slice TPtr)) × (Val (.slice TPage)) × (Val (.slice TPtr)) × Int × Int × (Val (.slice (.int .i64)))) ⊕ ((Int × (Val (.slice TPtr)) × (Val (.slice TPage)) × (Val (.slice (.int .i64)))) ⊕ (Int × Bool))) :=
  bif (decide (x5 < x4)) then (
    bif (inR x5 (List.length x3)) then
    (segment_Locate x0 (List.getD x3 (Int.toNat x5) ((0 : Int), ((0 : Int), ()))).1).bind fun r1 =>
    bif ((decide ((0 : Int) ≤ x5)) && (decide (x5 ≤ (((List.length x1) : Nat) : Int)))) then
    (slices_ContainsFunc_Pointer (List.drop 0 (List.take (Int.toNat x5) x1)) (List.getD x3 (Int.toNat x5) ((0 : Int), ((0 : Int), ())))).bind fun r2 =>
    (pointer_Valid r2.2).bind fun r3 =>
    bif (!r3) then (
      some (Sum.inr (Sum.inr ((1 : Int), true))))
    else (
      bif (!r1.2.2) then (
        some (Sum.inr (Sum.inr ((1 : Int), true))))
      else (
        bif r2.1 then (
          some (Sum.inr (Sum.inr ((1 : Int), true))))
        else (
          (segment_HeaderLine r1.1).bind fun r4 =>
          bif (decide (((List.length x6) + 2) ≤ lim)) then
          some (Sum.inl (x0, (x1, (x2, (x3, (x4, ((IntKind.wrap .i64 (x5 + (1 : Int))), (x6 ++ [r2.2.1, r4]))))))))
          else none)))
    else none
    else none)
  else (
    some (Sum.inr (Sum.inl (x0, (x1, (x2, x6))))))
noncomputable def segment_FreeL1B : (Int × (Val (.slice TPtr)) × (Val (.slice TPage)) × (Val (.slice TPtr)) × Int × Int × (Val (.slice (.int .i64)))) → Option ((Int × (Val (.slice TPtr)) × (Val (.slice TPage)) × (Val (.slice TPtr)) × Int × Int × (Val (.slice (.int .i64)))) ⊕ ((Int × (Val (.slice TPtr)) × (Val (.slice TPage)) × (Val (.slice (.int .i64)))) ⊕ (Int × Bool))) := fun y => segment_FreeL1b y.1 y.2.1 y.2.2.1 y.2.2.2.1 y.2.2.2.2.1 y.2.2.2.2.2.1 y.2.2.2.2.2.2
noncomputable def segment_FreeL1 (x0 : Int) (x1 : Val (.slice TPtr)) (x2 : Val (.slice TPage)) (x3 : Val (.slice TPtr)) (x4 : Int) (x5 : Int) (x6 : Val (.slice (.int .i64))) : Option ((Int × (Val (.slice TPtr)) × (Val (.slice TPage)) × (Val (.slice (.int .i64)))) ⊕ (Int × Bool)) := iter segment_FreeL1B (x0, (x1, (x2, (x3, (x4, (x5, x6))))))
noncomputable def segment_FreeL2b (x0 : Int) (x1 : Val (.slice TPage)) (x2 : Val (.slice TPtr)) (x3 : Int) (x4 : Int) (x5 : Val (.slice TPage)) (x6 : Val (.slice (.pair (.int .i64) TPage))) (x7 : Val (.slice (.pair (.int .i64) THead))) : Option ((Int × (Val (.slice TPage)) × (Val (.slice TPtr)) × Int × Int × (Val (.slice TPage)) × (Val (.slice (.pair (.int .i64) TPage))) × (Val (.slice (.pair (.int .i64) THead)))) ⊕ (((Val (.slice TPage)) × (Val (.slice (.pair (.int .i64) TPage))) × (Val (.slice (.pair (.int .i64) THead)))) ⊕ (Int × Bool))) :=
  bif (decide (x4 < x3)) then (
    bif (inR x4 (List.length x2)) then
    (segment_Locate x0 (List.getD x2 (Int.toNat x4) ((0 : Int), ((0 : Int), ()))).1).bind fun r1 =>
    (pointer_Latest x1 (List.getD x2 (Int.toNat x4) ((0 : Int), ((0 : Int), ()))).1).bind fun r2 =>
    (pointer_UnpackTag (List.getD r2.1.2.2.1 0 (0 : Int))).bind fun r3 =>
    (pointer_Locked r2.1).bind fun r4 =>
    bif r4 then (
      some (Sum.inr (Sum.inr ((3 : Int), true))))
    else (
      bif (decide (r3.1 = (0 : Int))) then (
        some (Sum.inr (Sum.inr ((11 : Int), true))))
      else (
        bif (!(decide (r3.2.1 = (List.getD x2 (Int.toNat x4) ((0 : Int), ((0 : Int), ()))).2.1))) then (
          some (Sum.inr (Sum.inr ((11 : Int), true))))
        else (
          (segment_header x1 r1.1).bind fun r5 =>
          bif (!(decide (r5.2.2.2 = (0 : Int)))) then (
            some (Sum.inr (Sum.inr (r5.2.2.2, true))))
          else (
            bif (decide ((0 : Int) ≤ (IntKind.wrap .u64 r1.2.1))) then
            bif (decide ((IntKind.wrap .u32 ((BitVec.ofInt (IntKind.bits .u32) (shiftR .u32 r5.2.1.2.1 (IntKind.wrap .u64 r1.2.1)) &&& BitVec.ofInt (IntKind.bits .u32) (1 : Int)).toNat : Int)) = (0 : Int))) then (
              some (Sum.inr (Sum.inr ((14 : Int), true))))
            else (
              bif (Option.isSome (lookV x7 r1.1)) then (
                bif (decide ((0 : Int) ≤ (IntKind.wrap .u64 r1.2.1))) then
                (pointer_Release r2.1).bind fun r6 =>
                bif (decide (((List.length x5) + 1) ≤ lim)) then
                some (Sum.inl (x0, (x1, (x2, (x3, ((IntKind.wrap .i64 (x4 + (1 : Int))), ((x5 ++ [r6.1]), ((upsV x6 r1.1 r5.1), (upsV x7 r1.1 ((Option.getD (lookV x7 r1.1) ((0 : Int), ((0 : Int), ()))).1, ((IntKind.wrap .u32 ((BitVec.ofInt (IntKind.bits .u32) (Option.getD (lookV x7 r1.1) ((0 : Int), ((0 : Int), ()))).2.1 &&& ~~~ BitVec.ofInt (IntKind.bits .u32) (shiftL .u32 (1 : Int) (IntKind.wrap .u64 r1.2.1))).toNat : Int)), (Option.getD (lookV x7 r1.1) ((0 : Int), ((0 : Int), ()))).2.2)))))))))))
                else none
                else none)
              else (
                bif (decide ((0 : Int) ≤ (IntKind.wrap .u64 r1.2.1))) then
                (pointer_Release r2.1).bind fun r7 =>
                bif (decide (((List.length x5) + 1) ≤ lim)) then
                some (Sum.inl (x0, (x1, (x2, (x3, ((IntKind.wrap .i64 (x4 + (1 : Int))), ((x5 ++ [r7.1]), ((upsV x6 r1.1 r5.1), (upsV x7 r1.1 (r5.2.1.1, ((IntKind.wrap .u32 ((BitVec.ofInt (IntKind.bits .u32) r5.2.1.2.1 &&& ~~~ BitVec.ofInt (IntKind.bits .u32) (shiftL .u32 (1 : Int) (IntKind.wrap .u64 r1.2.1))).toNat : Int)), r5.2.1.2.2)))))))))))
                else none
                else none))
            else none))))
    else none)
  else (
    some (Sum.inr (Sum.inl (x5, (x6, x7)))))
noncomputable def segment_FreeL2B : (Int × (Val (.slice TPage)) × (Val (.slice TPtr)) × Int × Int × (Val (.slice TPage)) × (Val (.slice (.pair (.int .i64) TPage))) × (Val (.slice (.pair (.int .i64) THead)))) → Option ((Int × (Val (.slice TPage)) × (Val (.slice TPtr)) × Int × Int × (Val (.slice TPage)) × (Val (.slice (.pair (.int .i64) TPage))) × (Val (.slice (.pair (.int .i64) THead)))) ⊕ (((Val (.slice TPage)) × (Val (.slice (.pair (.int .i64) TPage))) × (Val (.slice (.pair (.int .i64) THead)))) ⊕ (Int × Bool))) := fun y => segment_FreeL2b y.1 y.2.1 y.2.2.1 y.2.2.2.1 y.2.2.2.2.1 y.2.2.2.2.2.1 y.2.2.2.2.2.2.1 y.2.2.2.2.2.2.2
noncomputable def segment_FreeL2 (x0 : Int) (x1 : Val (.slice TPage)) (x2 : Val (.slice TPtr)) (x3 : Int) (x4 : Int) (x5 : Val (.slice TPage)) (x6 : Val (.slice (.pair (.int .i64) TPage))) (x7 : Val (.slice (.pair (.int .i64) THead))) : Option (((Val (.slice TPage)) × (Val (.slice (.pair (.int .i64) TPage))) × (Val (.slice (.pair (.int .i64) THead)))) ⊕ (Int × Bool)) := iter segment_FreeL2B (x0, (x1, (x2, (x3, (x4, (x5, (x6, x7)))))))
noncomputable def segment_FreeL3b (x0 : Val (.slice TPage)) (x1 : Val (.slice (.pair (.int .i64) TPage))) (x2 : Val (.pair (.int .i64) (.slice (.int .i64)))) (x3 : Val (.slice (.pair (.int .i64) THead))) (i : Int) : Option ((Val (.slice TPage)) × (Val (.slice (.pair (.int .i64) TPage))) × (Val (.pair (.int .i64) (.slice (.int .i64)))) × (Val (.slice (.pair (.int .i64) THead)))) :=
  bif (decide (x2.1 = (((List.length x3) : Nat) : Int))) then
  (x3[(Int.toNat i)]?).bind fun r1 =>
  (segment_WriteHeader (Option.getD (lookV x1 r1.1) ((0 : Int), ((0 : Int), ((List.replicate 7 (0 : Int)), ())))) r1.2).bind fun r2 =>
  bif (decide (((List.length x0) + 1) ≤ lim)) then
  some ((x0 ++ [r2.1]), (x1, ((x2.1, (i :: x2.2)), x3)))
  else none
  else none
noncomputable def segment_FreeL3_es : ((Val (.slice TPage)) × (Val (.slice (.pair (.int .i64) TPage))) × (Val (.pair (.int .i64) (.slice (.int .i64)))) × (Val (.slice (.pair (.int .i64) THead)))) → List (Int × Val THead) := fun y => y.2.2.2
noncomputable def segment_FreeL3_n : ((Val (.slice TPage)) × (Val (.slice (.pair (.int .i64) TPage))) × (Val (.pair (.int .i64) (.slice (.int .i64)))) × (Val (.slice (.pair (.int .i64) THead)))) → Int := fun y => y.2.2.1.1
noncomputable def segment_FreeL3_seen : ((Val (.slice TPage)) × (Val (.slice (.pair (.int .i64) TPage))) × (Val (.pair (.int .i64) (.slice (.int .i64)))) × (Val (.slice (.pair (.int .i64) THead)))) → List Int := fun y => y.2.2.1.2
noncomputable def segment_FreeL3B : ((Val (.slice TPage)) × (Val (.slice (.pair (.int .i64) TPage))) × (Val (.pair (.int .i64) (.slice (.int .i64)))) × (Val (.slice (.pair (.int .i64) THead)))) → Int → Option ((Val (.slice TPage)) × (Val (.slice (.pair (.int .i64) TPage))) × (Val (.pair (.int .i64) (.slice (.int .i64)))) × (Val (.slice (.pair (.int .i64) THead)))) := fun y i => segment_FreeL3b y.1 y.2.1 y.2.2.1 y.2.2.2 i
/-- bodega/segment.Free -/
noncomputable def segment_Free (a0 : Int) (a1 : Val (.slice TPtr)) (a2 : Val (.slice TPage)) : Option ((Val (.slice (.int .i64))) × (Val (.slice TPage)) × Int × Bool) :=
  (segment_isSize a0).bind fun r1 =>
  bif (!r1) then (
    some ([], ([], ((1 : Int), true))))
  else (
    bif (decide ((((List.length a1) : Nat) : Int) < (1 : Int))) then (
      some ([], ([], ((1 : Int), true))))
    else (
      bif (decide ((3 : Int) < (((List.length a1) : Nat) : Int))) then (
        some ([], ([], ((1 : Int), true))))
      else (
        (segment_FreeL1 a0 a1 a2 a1 (((List.length a1) : Nat) : Int) (0 : Int) []).bind fun r2 =>
        match r2 with
        | .inl r3 => (
          (segment_missing r3.2.2.1 r3.2.2.2).bind fun r5 =>
          bif (decide ((0 : Int) < (((List.length r5) : Nat) : Int))) then (
            some (r5, ([], ((0 : Int), false))))
          else (
            (segment_FreeL2 r3.1 r3.2.2.1 r3.2.1 (((List.length r3.2.1) : Nat) : Int) (0 : Int) [] [] []).bind fun r6 =>
            match r6 with
            | .inl r7 => (
              demO (fun p9 : List Int => List.Perm p9 (idx (List.length r7.2.2))) fun p9 =>
              bif (decide ((((List.length r7.2.2) : Nat) : Int) = (((List.length r7.2.2) : Nat) : Int)) && (List.isEmpty ([] : List Int))) then
              (rfold (fun y => List.length (segment_FreeL3_es y)) segment_FreeL3_n segment_FreeL3_seen segment_FreeL3B (r7.1, (r7.2.1, (((((List.length r7.2.2) : Nat) : Int), ([] : List Int)), r7.2.2))) p9).bind fun r10 =>
              (segment_ascending r10.1).bind fun r11 =>
              some ([], (r11, ((0 : Int), true)))
              else none)
            | .inr r8 => (
              some ([], ([], (r8.1, r8.2))))))
        | .inr r4 => (
          some ([], ([], (r4.1, r4.2)))))))
noncomputable def segment_FreeI : Shape := { n := 204, nx := 0, sl := [(0, .dat false (.int .i64)), (1, .dat false (.slice TPtr)), (2, .dat false (.slice TPage))], ob := [], fix := [], may := true }
noncomputable def segment_FreeO : Shape := { n := 205, nx := 0, sl := [(204, .tup (.cons (.dat true (.slice (.int .i64))) (.cons (.dat true (.slice TPage)) (.cons (.dat true (.int .i64)) (.cons (.dat true .bool) (.nil))))))], ob := [], fix := [], may := true }
noncomputable def segment_FreeF : (Int × (Val (.slice TPtr)) × (Val (.slice TPage))) → Option ((Val (.slice (.int .i64))) × (Val (.slice TPage)) × Int × Bool) := fun y => segment_Free y.1 y.2.1 y.2.2
noncomputable def segment_Freect : Ctr := ctrOf segment_FreeI segment_FreeO (fun d => d) (fun d => d) segment_FreeF
noncomputable def segment_FreeE : Env := { tf := tfE, mt := mtE, fn := fun f => bif Nat.beq f 60 then some segment_isSizect else bif Nat.beq f 32 then some segment_Locatect else bif Nat.beq f 77 then some slices_ContainsFunc_Pointerct else bif Nat.beq f 57 then some pointer_Validct else bif Nat.beq f 36 then some segment_HeaderLinect else bif Nat.beq f 64 then some segment_missingct else bif Nat.beq f 71 then some pointer_Latestct else bif Nat.beq f 72 then some pointer_UnpackTagct else bif Nat.beq f 73 then some pointer_Lockedct else bif Nat.beq f 69 then some segment_headerct else bif Nat.beq f 79 then some pointer_Releasect else bif Nat.beq f 27 then some segment_WriteHeaderct else bif Nat.beq f 62 then some segment_ascendingct else none }
theorem segment_Free_env : EnvOk PT segment_FreeE := ⟨tyE, (fun f ct h => by
  simp only [segment_FreeE] at h
  refine envCons (c := segment_isSizect) h segment_isSize_ctr (fun h => ?_)
  refine envCons (c := segment_Locatect) h segment_Locate_ctr (fun h => ?_)
  refine envCons (c := slices_ContainsFunc_Pointerct) h slices_ContainsFunc_Pointer_ctr (fun h => ?_)
  refine envCons (c := pointer_Validct) h pointer_Valid_ctr (fun h => ?_)
  refine envCons (c := segment_HeaderLinect) h segment_HeaderLine_ctr (fun h => ?_)
  refine envCons (c := segment_missingct) h segment_missing_ctr (fun h => ?_)
  refine envCons (c := pointer_Latestct) h pointer_Latest_ctr (fun h => ?_)
  refine envCons (c := pointer_UnpackTagct) h pointer_UnpackTag_ctr (fun h => ?_)
  refine envCons (c := pointer_Lockedct) h pointer_Locked_ctr (fun h => ?_)
  refine envCons (c := segment_headerct) h segment_header_ctr (fun h => ?_)
  refine envCons (c := pointer_Releasect) h pointer_Release_ctr (fun h => ?_)
  refine envCons (c := segment_WriteHeaderct) h segment_WriteHeader_ctr (fun h => ?_)
  refine envCons (c := segment_ascendingct) h segment_ascending_ctr (fun h => ?_)
  cases h), mapE⟩
noncomputable def segment_FreeC : Code := bodyOf Go.Proofs.Try.f46
noncomputable def segment_FreeL1C : Code := (loopsOf segment_FreeC).getD 0 .skip
noncomputable def segment_FreeL2C : Code := (loopsOf segment_FreeC).getD 1 .skip
noncomputable def segment_FreeL3C : Code := (loopsOf segment_FreeC).getD 2 .skip
noncomputable def segment_FreeL1S : Shape := { n := 204, nx := 1, sl := [(0, .dat false (.int .i64)), (1, .dat false (.slice TPtr)), (2, .dat false (.slice TPage)), (7, .nils), (10, .own (.int .i64) 0), (50, .dat false (.slice TPtr)), (51, .dat true (.int .i64)), (52, .dat true (.int .i64))], ob := [(0, .slc true (.int .i64))], fix := [], may := true }
noncomputable def segment_FreeL1O : List (Ex × Shape) := [(.exit 0, { n := 204, nx := 1, sl := [(0, .dat false (.int .i64)), (1, .dat false (.slice TPtr)), (2, .dat false (.slice TPage)), (7, .nils), (10, .own (.int .i64) 0)], ob := [(0, .slc true (.int .i64))], fix := [], may := true }), (.ret, { n := 204, nx := 0, sl := [(6, .nils), (7, .nils), (8, .dat true (.int .i64)), (9, .dat true .bool)], ob := [], fix := [], may := true })]
noncomputable def segment_FreeL1M : Sum := loopSum (Y := Int × (Val (.slice TPtr)) × (Val (.slice TPage)) × (Val (.slice TPtr)) × Int × Int × (Val (.slice (.int .i64)))) (Z := (Int × (Val (.slice TPtr)) × (Val (.slice TPage)) × (Val (.slice (.int .i64)))) ⊕ (Int × Bool)) segment_FreeL1S segment_FreeL1O (fun d => d) (fun d => d) (iter segment_FreeL1B)
noncomputable def segment_FreeL2S : Shape := { n := 204, nx := 3, sl := [(0, .dat false (.int .i64)), (2, .dat false (.slice TPage)), (7, .own TPage 0), (17, .mp 1), (18, .mp 2), (97, .dat false (.slice TPtr)), (98, .dat true (.int .i64)), (99, .dat true (.int .i64))], ob := [(0, .slc true TPage), (1, .map .i64 true TPage), (2, .map .i64 true THead)], fix := [], may := true }
noncomputable def segment_FreeL2O : List (Ex × Shape) := [(.exit 2, { n := 204, nx := 3, sl := [(7, .own TPage 0), (17, .mp 1), (18, .mp 2)], ob := [(0, .slc true TPage), (1, .map .i64 true TPage), (2, .map .i64 true THead)], fix := [], may := true }), (.ret, { n := 204, nx := 0, sl := [(6, .nils), (7, .nils), (8, .dat true (.int .i64)), (9, .dat true .bool)], ob := [], fix := [], may := true })]
noncomputable def segment_FreeL2M : Sum := loopSum (Y := Int × (Val (.slice TPage)) × (Val (.slice TPtr)) × Int × Int × (Val (.slice TPage)) × (Val (.slice (.pair (.int .i64) TPage))) × (Val (.slice (.pair (.int .i64) THead)))) (Z := ((Val (.slice TPage)) × (Val (.slice (.pair (.int .i64) TPage))) × (Val (.slice (.pair (.int .i64) THead)))) ⊕ (Int × Bool)) segment_FreeL2S segment_FreeL2O (fun d => d) (fun d => d) (iter segment_FreeL2B)
noncomputable def segment_FreeL3S : Shape := { n := 204, nx := 4, sl := [(7, .own TPage 0), (17, .mp 1), (184, .it 2)], ob := [(0, .slc true TPage), (1, .map .i64 true TPage), (2, .itr 3), (3, .map .i64 true THead)], fix := [], may := true }
noncomputable def segment_FreeL3BC : Code := rBody segment_FreeL3C
noncomputable def segment_FreeL3M : Sum := rangeSum (Y := (Val (.slice TPage)) × (Val (.slice (.pair (.int .i64) TPage))) × (Val (.pair (.int .i64) (.slice (.int .i64)))) × (Val (.slice (.pair (.int .i64) THead)))) segment_FreeL3S (fun d => d) (fun d => d) 4 185 186 (fun y => List.length (segment_FreeL3_es y)) segment_FreeL3_n segment_FreeL3_seen segment_FreeL3B
noncomputable def segment_FreeH : Nat → Option Sum := fun n => bif Nat.beq n 5 then some segment_FreeL1M else bif Nat.beq n 18 then some segment_FreeL2M else bif Nat.beq n 41 then some segment_FreeL3M else none
theorem segment_FreeL1_bd (y : Int × (Val (.slice TPtr)) × (Val (.slice TPage)) × (Val (.slice TPtr)) × Int × Int × (Val (.slice (.int .i64)))) : @Eq (Option ((Int × (Val (.slice TPtr)) × (Val (.slice TPage)) × (Val (.slice TPtr)) × Int × Int × (Val (.slice (.int .i64)))) ⊕ ((Int × (Val (.slice TPtr)) × (Val (.slice TPage)) × (Val (.slice (.int .i64)))) ⊕ (Int × Bool)))) (exec segment_FreeE segment_FreeH segment_FreeL1C (segment_FreeL1S.mk' (show segment_FreeL1S.D from y)) (kont (Y := Int × (Val (.slice TPtr)) × (Val (.slice TPage)) × (Val (.slice TPtr)) × Int × Int × (Val (.slice (.int .i64)))) (Z := (Int × (Val (.slice TPtr)) × (Val (.slice TPage)) × (Val (.slice (.int .i64)))) ⊕ (Int × Bool)) segment_FreeL1S segment_FreeL1O (fun d => d) (fun d => d))) (segment_FreeL1B y) := by kernel_rfl
theorem segment_FreeL1_ok {w0 : World} {Jo : Io} (hfix : ∀ i b, Jo.fix i = some b → i ∈ []) (hmay : true = true → Jo.may) : SumOk PT w0 Jo segment_FreeL1M (.loop segment_FreeL1C) :=
  @loop_ok w0 Jo PT segment_FreeE segment_FreeH (Int × (Val (.slice TPtr)) × (Val (.slice TPage)) × (Val (.slice TPtr)) × Int × Int × (Val (.slice (.int .i64)))) ((Int × (Val (.slice TPtr)) × (Val (.slice TPage)) × (Val (.slice (.int .i64)))) ⊕ (Int × Bool)) segment_Free_env mixed segment_FreeL1C segment_FreeL1S segment_FreeL1O (fun d => d) (fun d => d) (fun d => d) (fun d => d) (fun _ => rfl) (fun _ => rfl) hfix hmay (by kernel_rfl) (noLoops (by kernel_rfl)) segment_FreeL1B segment_FreeL1_bd
theorem segment_FreeL2_bd (y : Int × (Val (.slice TPage)) × (Val (.slice TPtr)) × Int × Int × (Val (.slice TPage)) × (Val (.slice (.pair (.int .i64) TPage))) × (Val (.slice (.pair (.int .i64) THead)))) : @Eq (Option ((Int × (Val (.slice TPage)) × (Val (.slice TPtr)) × Int × Int × (Val (.slice TPage)) × (Val (.slice (.pair (.int .i64) TPage))) × (Val (.slice (.pair (.int .i64) THead)))) ⊕ (((Val (.slice TPage)) × (Val (.slice (.pair (.int .i64) TPage))) × (Val (.slice (.pair (.int .i64) THead)))) ⊕ (Int × Bool)))) (exec segment_FreeE segment_FreeH segment_FreeL2C (segment_FreeL2S.mk' (show segment_FreeL2S.D from y)) (kont (Y := Int × (Val (.slice TPage)) × (Val (.slice TPtr)) × Int × Int × (Val (.slice TPage)) × (Val (.slice (.pair (.int .i64) TPage))) × (Val (.slice (.pair (.int .i64) THead)))) (Z := ((Val (.slice TPage)) × (Val (.slice (.pair (.int .i64) TPage))) × (Val (.slice (.pair (.int .i64) THead)))) ⊕ (Int × Bool)) segment_FreeL2S segment_FreeL2O (fun d => d) (fun d => d))) (segment_FreeL2B y) := by kernel_rfl
theorem segment_FreeL2_ok {w0 : World} {Jo : Io} (hfix : ∀ i b, Jo.fix i = some b → i ∈ []) (hmay : true = true → Jo.may) : SumOk PT w0 Jo segment_FreeL2M (.loop segment_FreeL2C) :=
  @loop_ok w0 Jo PT segment_FreeE segment_FreeH (Int × (Val (.slice TPage)) × (Val (.slice TPtr)) × Int × Int × (Val (.slice TPage)) × (Val (.slice (.pair (.int .i64) TPage))) × (Val (.slice (.pair (.int .i64) THead)))) (((Val (.slice TPage)) × (Val (.slice (.pair (.int .i64) TPage))) × (Val (.slice (.pair (.int .i64) THead)))) ⊕ (Int × Bool)) segment_Free_env mixed segment_FreeL2C segment_FreeL2S segment_FreeL2O (fun d => d) (fun d => d) (fun d => d) (fun d => d) (fun _ => rfl) (fun _ => rfl) hfix hmay (by kernel_rfl) (noLoops (by kernel_rfl)) segment_FreeL2B segment_FreeL2_bd
theorem segment_FreeL3_bd (y : (Val (.slice TPage)) × (Val (.slice (.pair (.int .i64) TPage))) × (Val (.pair (.int .i64) (.slice (.int .i64)))) × (Val (.slice (.pair (.int .i64) THead)))) (i : Int) : @Eq (Option ((Val (.slice TPage)) × (Val (.slice (.pair (.int .i64) TPage))) × (Val (.pair (.int .i64) (.slice (.int .i64)))) × (Val (.slice (.pair (.int .i64) THead))))) (exec segment_FreeE segment_FreeH segment_FreeL3BC (nextSt (segment_FreeL3S.mk' (show segment_FreeL3S.D from y)) 2 185 186 i) (kontN (Y := (Val (.slice TPage)) × (Val (.slice (.pair (.int .i64) TPage))) × (Val (.pair (.int .i64) (.slice (.int .i64)))) × (Val (.slice (.pair (.int .i64) THead)))) segment_FreeL3S (fun d => d))) (segment_FreeL3B y i) := by kernel_rfl
theorem segment_FreeL3_ok {w0 : World} {Jo : Io} (hfix : ∀ i b, Jo.fix i = some b → i ∈ []) (hmay : true = true → Jo.may) : SumOk PT w0 Jo segment_FreeL3M (.loop segment_FreeL3C) := by
  rw [show segment_FreeL3C = .seq (.region 41 #[rOp 0 segment_FreeL3C, rOp 1 segment_FreeL3C] false) (.seq (.cond (.tmp 186) .skip (.exit 4)) segment_FreeL3BC) from by kernel_rfl]
  exact @range_ok w0 Jo PT segment_FreeE segment_FreeH ((Val (.slice TPage)) × (Val (.slice (.pair (.int .i64) TPage))) × (Val (.pair (.int .i64) (.slice (.int .i64)))) × (Val (.slice (.pair (.int .i64) THead)))) segment_Free_env mixed 41 4 2 3 184 185 186 (rOp 0 segment_FreeL3C) (rOp 1 segment_FreeL3C) segment_FreeL3BC segment_FreeL3S (fun d => d) (fun d => d) (fun _ => rfl) segment_FreeL3_n segment_FreeL3_seen .i64 true THead segment_FreeL3_es hfix hmay (by kernel_rfl) (by kernel_rfl) (by kernel_rfl) (by kernel_rfl) (by kernel_rfl) (by kernel_rfl) (by kernel_rfl) (by kernel_rfl) (fun y => by kernel_rfl) (fun y => by kernel_rfl) (fun y => by kernel_rfl) (noLoops (by kernel_rfl)) segment_FreeL3B segment_FreeL3_bd
theorem segment_Free_bd (y : Int × (Val (.slice TPtr)) × (Val (.slice TPage))) : @Eq (Option ((Val (.slice (.int .i64))) × (Val (.slice TPage)) × Int × Bool)) (exec segment_FreeE segment_FreeH segment_FreeC (segment_FreeI.mk' (show segment_FreeI.D from y)) (kontF (Z := (Val (.slice (.int .i64))) × (Val (.slice TPage)) × Int × Bool) segment_FreeE Go.Proofs.Try.f46.results.toList segment_FreeO (fun d => d))) (segment_FreeF y) := by kernel_rfl
theorem segment_Free_lo {w0 : World} {Jo : Io} (hfix : ∀ i b, Jo.fix i = some b → i ∈ []) (hmay : true = true → Jo.may) : LoopsOk PT w0 Jo segment_FreeH segment_FreeC := (loopsMk (by kernel_rfl) (loopsCons (c := segment_FreeL1C) (n := 5) (f := segment_FreeL1M) (by kernel_rfl) (by kernel_rfl) (segment_FreeL1_ok hfix hmay) (loopsCons (c := segment_FreeL2C) (n := 18) (f := segment_FreeL2M) (by kernel_rfl) (by kernel_rfl) (segment_FreeL2_ok hfix hmay) (loopsCons (c := segment_FreeL3C) (n := 41) (f := segment_FreeL3M) (by kernel_rfl) (by kernel_rfl) (segment_FreeL3_ok hfix hmay) loopsNil))))
theorem segment_Free_ctr : CtrOk PT 46 segment_Freect :=
  @ctr_ok PT segment_FreeE segment_FreeH segment_Free_env mixed 46 Go.Proofs.Try.f46 segment_FreeC (by kernel_rfl) (by kernel_rfl) (enters_of (by kernel_rfl : PT.funcs[46]? = some Go.Proofs.Try.f46) (by kernel_rfl) (by kernel_rfl)) segment_FreeI segment_FreeO (Int × (Val (.slice TPtr)) × (Val (.slice TPage))) ((Val (.slice (.int .i64))) × (Val (.slice TPage)) × Int × Bool) (fun d => d) (fun d => d) (fun d => d) (fun d => d) (fun _ => rfl) (fun _ => rfl) (by kernel_rfl) (by kernel_rfl) segment_FreeF segment_Free_bd (fun w0 Jo hfix hmay => segment_Free_lo hfix hmay)

noncomputable def law20_SegmentOnceL1b (x0 : Val (.slice (.pair (.int .i64) (.pair (.int .i64) (.pair .bool (.pair (.int .i64) .unit)))))) (x1 : Int) (x2 : Int) (x3 : Val (.slice TPage)) (x4 : Int) (x5 : Int) (x6 : Int) (x7 : Int) (x8 : Val (.pair (.int .i64) THead)) (x9 : Val (.slice (.pair TPtr .unit))) (x10 : Val (.slice (.int .i64))) (x11 : Val TPage) (x12 : Val (.slice TPage)) : Option (((Val (.slice (.pair (.int .i64) (.pair (.int .i64) (.pair .bool (.pair (.int .i64) .unit)))))) × Int × Int × (Val (.slice TPage)) × Int × Int × Int × Int × (Val (.pair (.int .i64) THead)) × (Val (.slice (.pair TPtr .unit))) × (Val (.slice (.int .i64))) × (Val TPage) × (Val (.slice TPage))) ⊕ (((Val (.slice (.pair (.int .i64) (.pair (.int .i64) (.pair .bool (.pair (.int .i64) .unit)))))) × Int × Int × (Val (.slice TPage)) × Int × Int × Int × (Val (.pair (.int .i64) THead)) × (Val (.slice (.pair TPtr .unit))) × (Val (.slice (.int .i64))) × (Val TPage) × (Val (.slice TPage))) ⊕ (Bool))) :=
  bif (decide (x5 < (((List.length x9) : Nat) : Int))) then (
    bif (inR x5 (List.length x9)) then
    bif (decide ((List.getD x9 (Int.toNat x5) (((0 : Int), ((0 : Int), ())), ())).1.1 = x11.1)) then (
      some (Sum.inr (Sum.inr false)))
    else (
      some (Sum.inl (x0, (x1, (x2, (x3, (x4, ((IntKind.wrap .i64 (x5 + (1 : Int))), (x6, (x7, (x8, (x9, (x10, (x11, x12))))))))))))))
    else none)
  else (
    some (Sum.inr (Sum.inl (x0, (x1, (x2, (x3, (x4, (x6, (x7, (x8, (x9, (x10, (x11, x12))))))))))))))
noncomputable def law20_SegmentOnceL1B : ((Val (.slice (.pair (.int .i64) (.pair (.int .i64) (.pair .bool (.pair (.int .i64) .unit)))))) × Int × Int × (Val (.slice TPage)) × Int × Int × Int × Int × (Val (.pair (.int .i64) THead)) × (Val (.slice (.pair TPtr .unit))) × (Val (.slice (.int .i64))) × (Val TPage) × (Val (.slice TPage))) → Option (((Val (.slice (.pair (.int .i64) (.pair (.int .i64) (.pair .bool (.pair (.int .i64) .unit)))))) × Int × Int × (Val (.slice TPage)) × Int × Int × Int × Int × (Val (.pair (.int .i64) THead)) × (Val (.slice (.pair TPtr .unit))) × (Val (.slice (.int .i64))) × (Val TPage) × (Val (.slice TPage))) ⊕ (((Val (.slice (.pair (.int .i64) (.pair (.int .i64) (.pair .bool (.pair (.int .i64) .unit)))))) × Int × Int × (Val (.slice TPage)) × Int × Int × Int × (Val (.pair (.int .i64) THead)) × (Val (.slice (.pair TPtr .unit))) × (Val (.slice (.int .i64))) × (Val TPage) × (Val (.slice TPage))) ⊕ (Bool))) := fun y => law20_SegmentOnceL1b y.1 y.2.1 y.2.2.1 y.2.2.2.1 y.2.2.2.2.1 y.2.2.2.2.2.1 y.2.2.2.2.2.2.1 y.2.2.2.2.2.2.2.1 y.2.2.2.2.2.2.2.2.1 y.2.2.2.2.2.2.2.2.2.1 y.2.2.2.2.2.2.2.2.2.2.1 y.2.2.2.2.2.2.2.2.2.2.2.1 y.2.2.2.2.2.2.2.2.2.2.2.2
noncomputable def law20_SegmentOnceL1 (x0 : Val (.slice (.pair (.int .i64) (.pair (.int .i64) (.pair .bool (.pair (.int .i64) .unit)))))) (x1 : Int) (x2 : Int) (x3 : Val (.slice TPage)) (x4 : Int) (x5 : Int) (x6 : Int) (x7 : Int) (x8 : Val (.pair (.int .i64) THead)) (x9 : Val (.slice (.pair TPtr .unit))) (x10 : Val (.slice (.int .i64))) (x11 : Val TPage) (x12 : Val (.slice TPage)) : Option (((Val (.slice (.pair (.int .i64) (.pair (.int .i64) (.pair .bool (.pair (.int .i64) .unit)))))) × Int × Int × (Val (.slice TPage)) × Int × Int × Int × (Val (.pair (.int .i64) THead)) × (Val (.slice (.pair TPtr .unit))) × (Val (.slice (.int .i64))) × (Val TPage) × (Val (.slice TPage))) ⊕ (Bool)) := iter law20_SegmentOnceL1B (x0, (x1, (x2, (x3, (x4, (x5, (x6, (x7, (x8, (x9, (x10, (x11, x12))))))))))))
noncomputable def law20_SegmentOnceL2b (x0 : Val (.slice (.pair (.int .i64) (.pair (.int .i64) (.pair .bool (.pair (.int .i64) .unit)))))) (x1 : Int) (x2 : Int) (x3 : Val (.slice TPage)) (x4 : Int) (x5 : Int) (x6 : Int) (x7 : Val (.pair (.int .i64) THead)) (x8 : Val (.slice (.pair TPtr .unit))) (x9 : Val (.slice (.int .i64))) (x10 : Val (.slice TPage)) : Option (((Val (.slice (.pair (.int .i64) (.pair (.int .i64) (.pair .bool (.pair (.int .i64) .unit)))))) × Int × Int × (Val (.slice TPage)) × Int × Int × Int × (Val (.pair (.int .i64) THead)) × (Val (.slice (.pair TPtr .unit))) × (Val (.slice (.int .i64))) × (Val (.slice TPage))) ⊕ (((Val (.slice (.pair (.int .i64) (.pair (.int .i64) (.pair .bool (.pair (.int .i64) .unit)))))) × Int × Int × Int × (Val (.pair (.int .i64) THead)) × (Val (.slice (.pair TPtr .unit))) × (Val (.slice (.int .i64))) × (Val (.slice TPage))) ⊕ (Bool))) :=
  bif (decide (x4 < (((List.length x3) : Nat) : Int))) then (
    bif (inR x4 (List.length x3)) then
    (segment_Locate x5 (List.getD x3 (Int.toNat x4) ((0 : Int), ((0 : Int), ((List.replicate 7 (0 : Int)), ())))).1).bind fun r1 =>
    bif (inR x4 (List.length x3)) then
    (pointer_Allocate (List.getD x3 (Int.toNat x4) ((0 : Int), ((0 : Int), ((List.replicate 7 (0 : Int)), ())))) (1 : Int) (0 : Int)).bind fun r2 =>
    bif (!r1.2.2) then (
      some (Sum.inr (Sum.inr false)))
    else (
      bif (!(decide (r2.2 = (0 : Int)))) then (
        some (Sum.inr (Sum.inr false)))
      else (
        bif (inR r1.1 (List.length x9)) then
        bif (!(decide ((List.getD x9 (Int.toNat r1.1) (0 : Int)) = (IntKind.wrap .i64 (x2 + (1 : Int)))))) then (
          some (Sum.inr (Sum.inr false)))
        else (
          (law20_SegmentOnceL1 x0 x1 x2 x3 x4 (0 : Int) x5 x6 x7 x8 x9 r2.1 x10).bind fun r3 =>
          match r3 with
          | .inl r4 => (
            (pointer_At r4.2.2.2.2.2.2.2.2.2.2.1).bind fun r6 =>
            bif (decide (((List.length r4.2.2.2.2.2.2.2.2.1) + 1) ≤ lim)) then
            (heap_Heap_Commit [r4.2.2.2.2.2.2.2.2.2.2.1] r4.2.2.2.2.2.1 r4.2.2.2.2.2.2.1 r4.2.2.2.2.2.2.2.1 r4.2.2.2.2.2.2.2.2.2.2.2).bind fun r7 =>
            some (Sum.inl (r4.1, (r4.2.1, (r4.2.2.1, (r4.2.2.2.1, ((IntKind.wrap .i64 (r4.2.2.2.2.1 + (1 : Int))), (r7.1, (r7.2.1, (r7.2.2.1, ((r4.2.2.2.2.2.2.2.2.1 ++ [(r6, ())]), (r4.2.2.2.2.2.2.2.2.2.1, r7.2.2.2)))))))))))
            else none)
          | .inr r5 => (
            some (Sum.inr (Sum.inr r5))))
        else none))
    else none
    else none)
  else (
    some (Sum.inr (Sum.inl (x0, (x1, (x5, (x6, (x7, (x8, (x9, x10))))))))))
noncomputable def law20_SegmentOnceL2B : ((Val (.slice (.pair (.int .i64) (.pair (.int .i64) (.pair .bool (.pair (.int .i64) .unit)))))) × Int × Int × (Val (.slice TPage)) × Int × Int × Int × (Val (.pair (.int .i64) THead)) × (Val (.slice (.pair TPtr .unit))) × (Val (.slice (.int .i64))) × (Val (.slice TPage))) → Option (((Val (.slice (.pair (.int .i64) (.pair (.int .i64) (.pair .bool (.pair (.int .i64) .unit)))))) × Int × Int × (Val (.slice TPage)) × Int × Int × Int × (Val (.pair (.int .i64) THead)) × (Val (.slice (.pair TPtr .unit))) × (Val (.slice (.int .i64))) × (Val (.slice TPage))) ⊕ (((Val (.slice (.pair (.int .i64) (.pair (.int .i64) (.pair .bool (.pair (.int .i64) .unit)))))) × Int × Int × Int × (Val (.pair (.int .i64) THead)) × (Val (.slice (.pair TPtr .unit))) × (Val (.slice (.int .i64))) × (Val (.slice TPage))) ⊕ (Bool))) := fun y => law20_SegmentOnceL2b y.1 y.2.1 y.2.2.1 y.2.2.2.1 y.2.2.2.2.1 y.2.2.2.2.2.1 y.2.2.2.2.2.2.1 y.2.2.2.2.2.2.2.1 y.2.2.2.2.2.2.2.2.1 y.2.2.2.2.2.2.2.2.2.1 y.2.2.2.2.2.2.2.2.2.2
noncomputable def law20_SegmentOnceL2 (x0 : Val (.slice (.pair (.int .i64) (.pair (.int .i64) (.pair .bool (.pair (.int .i64) .unit)))))) (x1 : Int) (x2 : Int) (x3 : Val (.slice TPage)) (x4 : Int) (x5 : Int) (x6 : Int) (x7 : Val (.pair (.int .i64) THead)) (x8 : Val (.slice (.pair TPtr .unit))) (x9 : Val (.slice (.int .i64))) (x10 : Val (.slice TPage)) : Option (((Val (.slice (.pair (.int .i64) (.pair (.int .i64) (.pair .bool (.pair (.int .i64) .unit)))))) × Int × Int × Int × (Val (.pair (.int .i64) THead)) × (Val (.slice (.pair TPtr .unit))) × (Val (.slice (.int .i64))) × (Val (.slice TPage))) ⊕ (Bool)) := iter law20_SegmentOnceL2B (x0, (x1, (x2, (x3, (x4, (x5, (x6, (x7, (x8, (x9, x10))))))))))
noncomputable def law20_SegmentOnceL3b (x0 : Val (.slice (.pair (.int .i64) (.pair (.int .i64) (.pair .bool (.pair (.int .i64) .unit)))))) (x1 : Int) (x2 : Int) (x3 : Int) (x4 : Val (.pair (.int .i64) THead)) (x5 : Val (.slice (.pair TPtr .unit))) (x6 : Val (.slice (.int .i64))) (x7 : Val (.slice TPage)) : Option (((Val (.slice (.pair (.int .i64) (.pair (.int .i64) (.pair .bool (.pair (.int .i64) .unit)))))) × Int × Int × Int × (Val (.pair (.int .i64) THead)) × (Val (.slice (.pair TPtr .unit))) × (Val (.slice (.int .i64))) × (Val (.slice TPage))) ⊕ ((Unit) ⊕ (Bool))) :=
  bif (decide (x1 < (((List.length x0) : Nat) : Int))) then (
    bif (inR x1 (List.length x0)) then
    (hand_Pick (List.getD x0 (Int.toNat x1) ((0 : Int), ((0 : Int), (false, ((0 : Int), ()))))).1 (3 : Int)).bind fun r1 =>
    bif (inR x1 (List.length x0)) then
    bif (List.getD x0 (Int.toNat x1) ((0 : Int), ((0 : Int), (false, ((0 : Int), ()))))).2.2.1 then (
      bif (decide ((0 : Int) < (((List.length x5) : Nat) : Int))) then (
        bif (inR x1 (List.length x0)) then
        (hand_Pick (List.getD x0 (Int.toNat x1) ((0 : Int), ((0 : Int), (false, ((0 : Int), ()))))).2.2.2.1 (((List.length x5) : Nat) : Int)).bind fun r2 =>
        bif (inR r2 (List.length x5)) then
        (segment_Free x2 [(List.getD x5 (Int.toNat r2) (((0 : Int), ((0 : Int), ())), ())).1] x7).bind fun r3 =>
        bif (!r3.2.2.2) then (
          some (Sum.inr (Sum.inr false)))
        else (
          bif (!(decide (r3.2.2.1 = (0 : Int)))) then (
            some (Sum.inr (Sum.inr false)))
          else (
            (heap_Heap_Commit r3.2.1 x2 x3 x4 x7).bind fun r4 =>
            bif ((decide ((0 : Int) ≤ r2)) && (decide (r2 ≤ (((List.length x5) : Nat) : Int)))) then
            bif (decide ((0 + (List.length (List.drop 0 (List.take (Int.toNat r2) x5)))) ≤ lim)) then
            bif (((decide ((0 : Int) ≤ (IntKind.wrap .i64 (r2 + (1 : Int))))) && (decide ((IntKind.wrap .i64 (r2 + (1 : Int))) ≤ (((List.length x5) : Nat) : Int)))) && (decide ((((List.length x5) : Nat) : Int) ≤ (((List.length x5) : Nat) : Int)))) then
            bif (decide (((List.length ([] ++ (List.drop 0 (List.take (Int.toNat r2) x5)))) + (List.length (List.drop (Int.toNat (IntKind.wrap .i64 (r2 + (1 : Int)))) (List.take (List.length x5) x5)))) ≤ lim)) then
            some (Sum.inl (x0, ((IntKind.wrap .i64 (x1 + (1 : Int))), (r4.1, (r4.2.1, (r4.2.2.1, ((([] ++ (List.drop 0 (List.take (Int.toNat r2) x5))) ++ (List.drop (Int.toNat (IntKind.wrap .i64 (r2 + (1 : Int)))) (List.take (List.length x5) x5))), (x6, r4.2.2.2))))))))
            else none
            else none
            else none
            else none))
        else none
        else none)
      else (
        bif (inR x1 (List.length x0)) then
        (hand_Pick (List.getD x0 (Int.toNat x1) ((0 : Int), ((0 : Int), (false, ((0 : Int), ()))))).2.1 (4 : Int)).bind fun r5 =>
        (segment_Allocate (r1, (x2, ((IntKind.wrap .i64 ((1 : Int) + r5)), ()))) x7).bind fun r6 =>
        bif r6.2.2.2.2 then (
          bif (decide (r6.2.2.2.1 = (12 : Int))) then (
            (segment_Acquire (r1, ((1 : Int), (x2, ((-1 : Int), ())))) x7).bind fun r7 =>
            bif (!r7.2.2.2.2) then (
              some (Sum.inr (Sum.inr false)))
            else (
              bif (!(decide (r7.2.2.2.1 = (0 : Int)))) then (
                bif (!(decide (r7.2.2.2.1 = (12 : Int)))) then (
                  some (Sum.inr (Sum.inr false)))
                else (
                  bif (decide (r7.2.2.2.1 = (0 : Int))) then (
                    bif (decide (r7.2.2.1 < (0 : Int))) then (
                      some (Sum.inr (Sum.inr false)))
                    else (
                      (segment_Count x2).bind fun r8 =>
                      bif (decide (r8 ≤ r7.2.2.1)) then (
                        some (Sum.inr (Sum.inr false)))
                      else (
                        bif (inR r7.2.2.1 (List.length x6)) then
                        bif (!(decide ((List.getD x6 (Int.toNat r7.2.2.1) (0 : Int)) = (0 : Int)))) then (
                          some (Sum.inr (Sum.inr false)))
                        else (
                          bif (inR r7.2.2.1 (List.length x6)) then
                          (heap_Heap_Commit r7.2.1 x2 x3 x4 x7).bind fun r9 =>
                          some (Sum.inl (x0, ((IntKind.wrap .i64 (x1 + (1 : Int))), (r9.1, (r9.2.1, (r9.2.2.1, (x5, ((List.set x6 (Int.toNat r7.2.2.1) (IntKind.wrap .i64 (r1 + (1 : Int)))), r9.2.2.2))))))))
                          else none)
                        else none)))
                  else (
                    some (Sum.inl (x0, ((IntKind.wrap .i64 (x1 + (1 : Int))), (x2, (x3, (x4, (x5, (x6, x7)))))))))))
              else (
                bif (decide (r7.2.2.2.1 = (0 : Int))) then (
                  bif (decide (r7.2.2.1 < (0 : Int))) then (
                    some (Sum.inr (Sum.inr false)))
                  else (
                    (segment_Count x2).bind fun r10 =>
                    bif (decide (r10 ≤ r7.2.2.1)) then (
                      some (Sum.inr (Sum.inr false)))
                    else (
                      bif (inR r7.2.2.1 (List.length x6)) then
                      bif (!(decide ((List.getD x6 (Int.toNat r7.2.2.1) (0 : Int)) = (0 : Int)))) then (
                        some (Sum.inr (Sum.inr false)))
                      else (
                        bif (inR r7.2.2.1 (List.length x6)) then
                        (heap_Heap_Commit r7.2.1 x2 x3 x4 x7).bind fun r11 =>
                        some (Sum.inl (x0, ((IntKind.wrap .i64 (x1 + (1 : Int))), (r11.1, (r11.2.1, (r11.2.2.1, (x5, ((List.set x6 (Int.toNat r7.2.2.1) (IntKind.wrap .i64 (r1 + (1 : Int)))), r11.2.2.2))))))))
                        else none)
                      else none)))
                else (
                  some (Sum.inl (x0, ((IntKind.wrap .i64 (x1 + (1 : Int))), (x2, (x3, (x4, (x5, (x6, x7))))))))))))
          else (
            bif (!r6.2.2.2.2) then (
              some (Sum.inr (Sum.inr false)))
            else (
              bif (!(decide (r6.2.2.2.1 = (0 : Int)))) then (
                some (Sum.inr (Sum.inr false)))
              else (
                bif (!(decide ((((List.length r6.2.1) : Nat) : Int) = (IntKind.wrap .i64 ((1 : Int) + r5))))) then (
                  some (Sum.inr (Sum.inr false)))
                else (
                  (heap_Heap_Commit r6.2.2.1 x2 x3 x4 x7).bind fun r12 =>
                  (law20_SegmentOnceL2 x0 x1 r1 r6.2.1 (0 : Int) r12.1 r12.2.1 r12.2.2.1 x5 x6 r12.2.2.2).bind fun r13 =>
                  match r13 with
                  | .inl r14 => (
                    some (Sum.inl (r14.1, ((IntKind.wrap .i64 (r14.2.1 + (1 : Int))), (r14.2.2.1, (r14.2.2.2.1, (r14.2.2.2.2.1, (r14.2.2.2.2.2.1, (r14.2.2.2.2.2.2.1, r14.2.2.2.2.2.2.2)))))))))
                  | .inr r15 => (
                    some (Sum.inr (Sum.inr r15))))))))
        else (
          bif (!r6.2.2.2.2) then (
            some (Sum.inr (Sum.inr false)))
          else (
            bif (!(decide (r6.2.2.2.1 = (0 : Int)))) then (
              some (Sum.inr (Sum.inr false)))
            else (
              bif (!(decide ((((List.length r6.2.1) : Nat) : Int) = (IntKind.wrap .i64 ((1 : Int) + r5))))) then (
                some (Sum.inr (Sum.inr false)))
              else (
                (heap_Heap_Commit r6.2.2.1 x2 x3 x4 x7).bind fun r16 =>
                (law20_SegmentOnceL2 x0 x1 r1 r6.2.1 (0 : Int) r16.1 r16.2.1 r16.2.2.1 x5 x6 r16.2.2.2).bind fun r17 =>
                match r17 with
                | .inl r18 => (
                  some (Sum.inl (r18.1, ((IntKind.wrap .i64 (r18.2.1 + (1 : Int))), (r18.2.2.1, (r18.2.2.2.1, (r18.2.2.2.2.1, (r18.2.2.2.2.2.1, (r18.2.2.2.2.2.2.1, r18.2.2.2.2.2.2.2)))))))))
                | .inr r19 => (
                  some (Sum.inr (Sum.inr r19)))))))
        else none))
    else (
      bif (inR x1 (List.length x0)) then
      (hand_Pick (List.getD x0 (Int.toNat x1) ((0 : Int), ((0 : Int), (false, ((0 : Int), ()))))).2.1 (4 : Int)).bind fun r20 =>
      (segment_Allocate (r1, (x2, ((IntKind.wrap .i64 ((1 : Int) + r20)), ()))) x7).bind fun r21 =>
      bif r21.2.2.2.2 then (
        bif (decide (r21.2.2.2.1 = (12 : Int))) then (
          (segment_Acquire (r1, ((1 : Int), (x2, ((-1 : Int), ())))) x7).bind fun r22 =>
          bif (!r22.2.2.2.2) then (
            some (Sum.inr (Sum.inr false)))
          else (
            bif (!(decide (r22.2.2.2.1 = (0 : Int)))) then (
              bif (!(decide (r22.2.2.2.1 = (12 : Int)))) then (
                some (Sum.inr (Sum.inr false)))
              else (
                bif (decide (r22.2.2.2.1 = (0 : Int))) then (
                  bif (decide (r22.2.2.1 < (0 : Int))) then (
                    some (Sum.inr (Sum.inr false)))
                  else (
                    (segment_Count x2).bind fun r23 =>
                    bif (decide (r23 ≤ r22.2.2.1)) then (
                      some (Sum.inr (Sum.inr false)))
                    else (
                      bif (inR r22.2.2.1 (List.length x6)) then
                      bif (!(decide ((List.getD x6 (Int.toNat r22.2.2.1) (0 : Int)) = (0 : Int)))) then (
                        some (Sum.inr (Sum.inr false)))
                      else (
                        bif (inR r22.2.2.1 (List.length x6)) then
                        (heap_Heap_Commit r22.2.1 x2 x3 x4 x7).bind fun r24 =>
                        some (Sum.inl (x0, ((IntKind.wrap .i64 (x1 + (1 : Int))), (r24.1, (r24.2.1, (r24.2.2.1, (x5, ((List.set x6 (Int.toNat r22.2.2.1) (IntKind.wrap .i64 (r1 + (1 : Int)))), r24.2.2.2))))))))
                        else none)
                      else none)))
                else (
                  some (Sum.inl (x0, ((IntKind.wrap .i64 (x1 + (1 : Int))), (x2, (x3, (x4, (x5, (x6, x7)))))))))))
            else (
              bif (decide (r22.2.2.2.1 = (0 : Int))) then (
                bif (decide (r22.2.2.1 < (0 : Int))) then (
                  some (Sum.inr (Sum.inr false)))
                else (
                  (segment_Count x2).bind fun r25 =>
                  bif (decide (r25 ≤ r22.2.2.1)) then (
                    some (Sum.inr (Sum.inr false)))
                  else (
                    bif (inR r22.2.2.1 (List.length x6)) then
                    bif (!(decide ((List.getD x6 (Int.toNat r22.2.2.1) (0 : Int)) = (0 : Int)))) then (
                      some (Sum.inr (Sum.inr false)))
                    else (
                      bif (inR r22.2.2.1 (List.length x6)) then
                      (heap_Heap_Commit r22.2.1 x2 x3 x4 x7).bind fun r26 =>
                      some (Sum.inl (x0, ((IntKind.wrap .i64 (x1 + (1 : Int))), (r26.1, (r26.2.1, (r26.2.2.1, (x5, ((List.set x6 (Int.toNat r22.2.2.1) (IntKind.wrap .i64 (r1 + (1 : Int)))), r26.2.2.2))))))))
                      else none)
                    else none)))
              else (
                some (Sum.inl (x0, ((IntKind.wrap .i64 (x1 + (1 : Int))), (x2, (x3, (x4, (x5, (x6, x7))))))))))))
        else (
          bif (!r21.2.2.2.2) then (
            some (Sum.inr (Sum.inr false)))
          else (
            bif (!(decide (r21.2.2.2.1 = (0 : Int)))) then (
              some (Sum.inr (Sum.inr false)))
            else (
              bif (!(decide ((((List.length r21.2.1) : Nat) : Int) = (IntKind.wrap .i64 ((1 : Int) + r20))))) then (
                some (Sum.inr (Sum.inr false)))
              else (
                (heap_Heap_Commit r21.2.2.1 x2 x3 x4 x7).bind fun r27 =>
                (law20_SegmentOnceL2 x0 x1 r1 r21.2.1 (0 : Int) r27.1 r27.2.1 r27.2.2.1 x5 x6 r27.2.2.2).bind fun r28 =>
                match r28 with
                | .inl r29 => (
                  some (Sum.inl (r29.1, ((IntKind.wrap .i64 (r29.2.1 + (1 : Int))), (r29.2.2.1, (r29.2.2.2.1, (r29.2.2.2.2.1, (r29.2.2.2.2.2.1, (r29.2.2.2.2.2.2.1, r29.2.2.2.2.2.2.2)))))))))
                | .inr r30 => (
                  some (Sum.inr (Sum.inr r30))))))))
      else (
        bif (!r21.2.2.2.2) then (
          some (Sum.inr (Sum.inr false)))
        else (
          bif (!(decide (r21.2.2.2.1 = (0 : Int)))) then (
            some (Sum.inr (Sum.inr false)))
          else (
            bif (!(decide ((((List.length r21.2.1) : Nat) : Int) = (IntKind.wrap .i64 ((1 : Int) + r20))))) then (
              some (Sum.inr (Sum.inr false)))
            else (
              (heap_Heap_Commit r21.2.2.1 x2 x3 x4 x7).bind fun r31 =>
              (law20_SegmentOnceL2 x0 x1 r1 r21.2.1 (0 : Int) r31.1 r31.2.1 r31.2.2.1 x5 x6 r31.2.2.2).bind fun r32 =>
              match r32 with
              | .inl r33 => (
                some (Sum.inl (r33.1, ((IntKind.wrap .i64 (r33.2.1 + (1 : Int))), (r33.2.2.1, (r33.2.2.2.1, (r33.2.2.2.2.1, (r33.2.2.2.2.2.1, (r33.2.2.2.2.2.2.1, r33.2.2.2.2.2.2.2)))))))))
              | .inr r34 => (
                some (Sum.inr (Sum.inr r34)))))))
      else none)
    else none
    else none)
  else (
    some (Sum.inr (Sum.inl ())))
noncomputable def law20_SegmentOnceL3B : ((Val (.slice (.pair (.int .i64) (.pair (.int .i64) (.pair .bool (.pair (.int .i64) .unit)))))) × Int × Int × Int × (Val (.pair (.int .i64) THead)) × (Val (.slice (.pair TPtr .unit))) × (Val (.slice (.int .i64))) × (Val (.slice TPage))) → Option (((Val (.slice (.pair (.int .i64) (.pair (.int .i64) (.pair .bool (.pair (.int .i64) .unit)))))) × Int × Int × Int × (Val (.pair (.int .i64) THead)) × (Val (.slice (.pair TPtr .unit))) × (Val (.slice (.int .i64))) × (Val (.slice TPage))) ⊕ ((Unit) ⊕ (Bool))) := fun y => law20_SegmentOnceL3b y.1 y.2.1 y.2.2.1 y.2.2.2.1 y.2.2.2.2.1 y.2.2.2.2.2.1 y.2.2.2.2.2.2.1 y.2.2.2.2.2.2.2
noncomputable def law20_SegmentOnceL3 (x0 : Val (.slice (.pair (.int .i64) (.pair (.int .i64) (.pair .bool (.pair (.int .i64) .unit)))))) (x1 : Int) (x2 : Int) (x3 : Int) (x4 : Val (.pair (.int .i64) THead)) (x5 : Val (.slice (.pair TPtr .unit))) (x6 : Val (.slice (.int .i64))) (x7 : Val (.slice TPage)) : Option ((Unit) ⊕ (Bool)) := iter law20_SegmentOnceL3B (x0, (x1, (x2, (x3, (x4, (x5, (x6, x7)))))))
/-- bodega/bodegalaw20.SegmentOnce -/
noncomputable def law20_SegmentOnce (a0 : Int) (a1 : Val (.slice (.pair (.int .i64) (.pair (.int .i64) (.pair .bool (.pair (.int .i64) .unit)))))) : Option Bool :=
  bif (decide ((40 : Int) < (((List.length a1) : Nat) : Int))) then (
    some (decide ((40 : Int) < (((List.length a1) : Nat) : Int))))
  else (
    (law20_awake).bind fun r1 =>
    bif (!r1) then (
      some (decide ((40 : Int) < (((List.length a1) : Nat) : Int))))
    else (
      (heap_Size a0).bind fun r2 =>
      (heap_New r2).bind fun r3 =>
      (law20_SegmentOnceL3 a1 (0 : Int) r3.1 r3.2.1 r3.2.2.1 [] (List.replicate 12 (0 : Int)) r3.2.2.2).bind fun r4 =>
      match r4 with
      | .inl r5 => (
        some true)
      | .inr r6 => (
        some r6)))
noncomputable def law20_SegmentOnceI : Shape := { n := 285, nx := 0, sl := [(0, .dat false (.int .i64)), (1, .dat false (.slice (.pair (.int .i64) (.pair (.int .i64) (.pair .bool (.pair (.int .i64) .unit))))))], ob := [], fix := [], may := true }
noncomputable def law20_SegmentOnceO : Shape := { n := 286, nx := 0, sl := [(285, .dat true .bool)], ob := [], fix := [], may := true }
noncomputable def law20_SegmentOnceF : (Int × (Val (.slice (.pair (.int .i64) (.pair (.int .i64) (.pair .bool (.pair (.int .i64) .unit))))))) → Option Bool := fun y => law20_SegmentOnce y.1 y.2
noncomputable def law20_SegmentOncect : Ctr := ctrOf law20_SegmentOnceI law20_SegmentOnceO (fun d => d) (fun d => d) law20_SegmentOnceF
noncomputable def law20_SegmentOnceE : Env := { tf := tfE, mt := mtE, fn := fun f => bif Nat.beq f 24 then some law20_awakect else bif Nat.beq f 41 then some heap_Sizect else bif Nat.beq f 40 then some heap_Newct else bif Nat.beq f 10 then some hand_Pickct else bif Nat.beq f 44 then some segment_Allocatect else bif Nat.beq f 42 then some segment_Acquirect else bif Nat.beq f 34 then some segment_Countct else bif Nat.beq f 43 then some heap_Heap_Commitct else bif Nat.beq f 32 then some segment_Locatect else bif Nat.beq f 45 then some pointer_Allocatect else bif Nat.beq f 47 then some pointer_Atct else bif Nat.beq f 46 then some segment_Freect else none }
theorem law20_SegmentOnce_env : EnvOk PT law20_SegmentOnceE := ⟨tyE, (fun f ct h => by
  simp only [law20_SegmentOnceE] at h
  refine envCons (c := law20_awakect) h law20_awake_ctr (fun h => ?_)
  refine envCons (c := heap_Sizect) h heap_Size_ctr (fun h => ?_)
  refine envCons (c := heap_Newct) h heap_New_ctr (fun h => ?_)
  refine envCons (c := hand_Pickct) h hand_Pick_ctr (fun h => ?_)
  refine envCons (c := segment_Allocatect) h segment_Allocate_ctr (fun h => ?_)
  refine envCons (c := segment_Acquirect) h segment_Acquire_ctr (fun h => ?_)
  refine envCons (c := segment_Countct) h segment_Count_ctr (fun h => ?_)
  refine envCons (c := heap_Heap_Commitct) h heap_Heap_Commit_ctr (fun h => ?_)
  refine envCons (c := segment_Locatect) h segment_Locate_ctr (fun h => ?_)
  refine envCons (c := pointer_Allocatect) h pointer_Allocate_ctr (fun h => ?_)
  refine envCons (c := pointer_Atct) h pointer_At_ctr (fun h => ?_)
  refine envCons (c := segment_Freect) h segment_Free_ctr (fun h => ?_)
  cases h), mapE⟩
noncomputable def law20_SegmentOnceC : Code := bodyOf Go.Proofs.Try.f9
noncomputable def law20_SegmentOnceL3C : Code := (loopsOf law20_SegmentOnceC).getD 0 .skip
noncomputable def law20_SegmentOnceL2C : Code := (loopsOf law20_SegmentOnceC).getD 1 .skip
noncomputable def law20_SegmentOnceL1C : Code := (loopsOf law20_SegmentOnceC).getD 2 .skip
noncomputable def law20_SegmentOnceL1S : Shape := { n := 285, nx := 5, sl := [(1, .dat false (.slice (.pair (.int .i64) (.pair (.int .i64) (.pair .bool (.pair (.int .i64) .unit)))))), (5, .ref 0 []), (6, .own (.pair TPtr .unit) 1), (7, .own (.int .i64) 2), (8, .dat true (.int .i64)), (9, .dat true (.int .i64)), (17, .dat true (.slice TPage)), (26, .dat true (.int .i64)), (30, .ref 3 []), (32, .dat true (.int .i64))], ob := [(0, .box (.pair (.slice TPage) (.pair (.int .i64) (.pair (.int .i64) (.pair (.slice (.pair (.int .u32) (.pair (.arr 3 (.int .i64)) .unit))) (.pair (.pair (.int .i64) THead) .unit))))) (.cons (.own TPage 4) (.cons (.dat false (.int .i64)) (.cons (.dat false (.int .i64)) (.cons (.nils) (.cons (.dat false (.pair (.int .i64) THead)) (.nil))))))), (1, .slc true (.pair TPtr .unit)), (2, .slc true (.int .i64)), (3, .box TPage (.dat true TPage)), (4, .slc true TPage)], fix := [], may := true }
noncomputable def law20_SegmentOnceL1O : List (Ex × Shape) := [(.exit 4, { n := 285, nx := 5, sl := [(1, .dat false (.slice (.pair (.int .i64) (.pair (.int .i64) (.pair .bool (.pair (.int .i64) .unit)))))), (5, .ref 0 []), (6, .own (.pair TPtr .unit) 1), (7, .own (.int .i64) 2), (8, .dat true (.int .i64)), (9, .dat true (.int .i64)), (17, .dat true (.slice TPage)), (26, .dat true (.int .i64)), (30, .ref 3 [])], ob := [(0, .box (.pair (.slice TPage) (.pair (.int .i64) (.pair (.int .i64) (.pair (.slice (.pair (.int .u32) (.pair (.arr 3 (.int .i64)) .unit))) (.pair (.pair (.int .i64) THead) .unit))))) (.cons (.own TPage 4) (.cons (.dat false (.int .i64)) (.cons (.dat false (.int .i64)) (.cons (.nils) (.cons (.dat false (.pair (.int .i64) THead)) (.nil))))))), (1, .slc true (.pair TPtr .unit)), (2, .slc true (.int .i64)), (3, .box TPage (.dat true TPage)), (4, .slc true TPage)], fix := [], may := true }), (.ret, { n := 285, nx := 0, sl := [(4, .dat true .bool)], ob := [], fix := [], may := true })]
noncomputable def law20_SegmentOnceL1M : Sum := loopSum (Y := (Val (.slice (.pair (.int .i64) (.pair (.int .i64) (.pair .bool (.pair (.int .i64) .unit)))))) × Int × Int × (Val (.slice TPage)) × Int × Int × Int × Int × (Val (.pair (.int .i64) THead)) × (Val (.slice (.pair TPtr .unit))) × (Val (.slice (.int .i64))) × (Val TPage) × (Val (.slice TPage))) (Z := ((Val (.slice (.pair (.int .i64) (.pair (.int .i64) (.pair .bool (.pair (.int .i64) .unit)))))) × Int × Int × (Val (.slice TPage)) × Int × Int × Int × (Val (.pair (.int .i64) THead)) × (Val (.slice (.pair TPtr .unit))) × (Val (.slice (.int .i64))) × (Val TPage) × (Val (.slice TPage))) ⊕ (Bool)) law20_SegmentOnceL1S law20_SegmentOnceL1O (fun d => d) (fun d => d) (iter law20_SegmentOnceL1B)
noncomputable def law20_SegmentOnceL2S : Shape := { n := 285, nx := 4, sl := [(1, .dat false (.slice (.pair (.int .i64) (.pair (.int .i64) (.pair .bool (.pair (.int .i64) .unit)))))), (5, .ref 0 []), (6, .own (.pair TPtr .unit) 1), (7, .own (.int .i64) 2), (8, .dat true (.int .i64)), (9, .dat true (.int .i64)), (17, .dat true (.slice TPage)), (26, .dat true (.int .i64))], ob := [(0, .box (.pair (.slice TPage) (.pair (.int .i64) (.pair (.int .i64) (.pair (.slice (.pair (.int .u32) (.pair (.arr 3 (.int .i64)) .unit))) (.pair (.pair (.int .i64) THead) .unit))))) (.cons (.own TPage 3) (.cons (.dat false (.int .i64)) (.cons (.dat false (.int .i64)) (.cons (.nils) (.cons (.dat false (.pair (.int .i64) THead)) (.nil))))))), (1, .slc true (.pair TPtr .unit)), (2, .slc true (.int .i64)), (3, .slc true TPage)], fix := [], may := true }
noncomputable def law20_SegmentOnceL2O : List (Ex × Shape) := [(.exit 2, { n := 285, nx := 4, sl := [(1, .dat false (.slice (.pair (.int .i64) (.pair (.int .i64) (.pair .bool (.pair (.int .i64) .unit)))))), (5, .ref 0 []), (6, .own (.pair TPtr .unit) 1), (7, .own (.int .i64) 2), (8, .dat true (.int .i64))], ob := [(0, .box (.pair (.slice TPage) (.pair (.int .i64) (.pair (.int .i64) (.pair (.slice (.pair (.int .u32) (.pair (.arr 3 (.int .i64)) .unit))) (.pair (.pair (.int .i64) THead) .unit))))) (.cons (.own TPage 3) (.cons (.dat false (.int .i64)) (.cons (.dat false (.int .i64)) (.cons (.nils) (.cons (.dat false (.pair (.int .i64) THead)) (.nil))))))), (1, .slc true (.pair TPtr .unit)), (2, .slc true (.int .i64)), (3, .slc true TPage)], fix := [], may := true }), (.ret, { n := 285, nx := 0, sl := [(4, .dat true .bool)], ob := [], fix := [], may := true })]
noncomputable def law20_SegmentOnceL2M : Sum := loopSum (Y := (Val (.slice (.pair (.int .i64) (.pair (.int .i64) (.pair .bool (.pair (.int .i64) .unit)))))) × Int × Int × (Val (.slice TPage)) × Int × Int × Int × (Val (.pair (.int .i64) THead)) × (Val (.slice (.pair TPtr .unit))) × (Val (.slice (.int .i64))) × (Val (.slice TPage))) (Z := ((Val (.slice (.pair (.int .i64) (.pair (.int .i64) (.pair .bool (.pair (.int .i64) .unit)))))) × Int × Int × Int × (Val (.pair (.int .i64) THead)) × (Val (.slice (.pair TPtr .unit))) × (Val (.slice (.int .i64))) × (Val (.slice TPage))) ⊕ (Bool)) law20_SegmentOnceL2S law20_SegmentOnceL2O (fun d => d) (fun d => d) (iter law20_SegmentOnceL2B)
noncomputable def law20_SegmentOnceL3S : Shape := { n := 285, nx := 4, sl := [(1, .dat false (.slice (.pair (.int .i64) (.pair (.int .i64) (.pair .bool (.pair (.int .i64) .unit)))))), (5, .ref 0 []), (6, .own (.pair TPtr .unit) 1), (7, .own (.int .i64) 2), (8, .dat true (.int .i64))], ob := [(0, .box (.pair (.slice TPage) (.pair (.int .i64) (.pair (.int .i64) (.pair (.slice (.pair (.int .u32) (.pair (.arr 3 (.int .i64)) .unit))) (.pair (.pair (.int .i64) THead) .unit))))) (.cons (.own TPage 3) (.cons (.dat false (.int .i64)) (.cons (.dat false (.int .i64)) (.cons (.nils) (.cons (.dat false (.pair (.int .i64) THead)) (.nil))))))), (1, .slc true (.pair TPtr .unit)), (2, .slc true (.int .i64)), (3, .slc true TPage)], fix := [], may := true }
noncomputable def law20_SegmentOnceL3O : List (Ex × Shape) := [(.exit 0, { n := 285, nx := 0, sl := [], ob := [], fix := [], may := true }), (.ret, { n := 285, nx := 0, sl := [(4, .dat true .bool)], ob := [], fix := [], may := true })]
noncomputable def law20_SegmentOnceL3M : Sum := loopSum (Y := (Val (.slice (.pair (.int .i64) (.pair (.int .i64) (.pair .bool (.pair (.int .i64) .unit)))))) × Int × Int × Int × (Val (.pair (.int .i64) THead)) × (Val (.slice (.pair TPtr .unit))) × (Val (.slice (.int .i64))) × (Val (.slice TPage))) (Z := (Unit) ⊕ (Bool)) law20_SegmentOnceL3S law20_SegmentOnceL3O (fun d => d) (fun d => d) (iter law20_SegmentOnceL3B)
noncomputable def law20_SegmentOnceH : Nat → Option Sum := fun n => bif Nat.beq n 39 then some law20_SegmentOnceL1M else bif Nat.beq n 32 then some law20_SegmentOnceL2M else bif Nat.beq n 7 then some law20_SegmentOnceL3M else none
theorem law20_SegmentOnceL1_bd (y : (Val (.slice (.pair (.int .i64) (.pair (.int .i64) (.pair .bool (.pair (.int .i64) .unit)))))) × Int × Int × (Val (.slice TPage)) × Int × Int × Int × Int × (Val (.pair (.int .i64) THead)) × (Val (.slice (.pair TPtr .unit))) × (Val (.slice (.int .i64))) × (Val TPage) × (Val (.slice TPage))) : @Eq (Option (((Val (.slice (.pair (.int .i64) (.pair (.int .i64) (.pair .bool (.pair (.int .i64) .unit)))))) × Int × Int × (Val (.slice TPage)) × Int × Int × Int × Int × (Val (.pair (.int .i64) THead)) × (Val (.slice (.pair TPtr .unit))) × (Val (.slice (.int .i64))) × (Val TPage) × (Val (.slice TPage))) ⊕ (((Val (.slice (.pair (.int .i64) (.pair (.int .i64) (.pair .bool (.pair (.int .i64) .unit)))))) × Int × Int × (Val (.slice TPage)) × Int × Int × Int × (Val (.pair (.int .i64) THead)) × (Val (.slice (.pair TPtr .unit))) × (Val (.slice (.int .i64))) × (Val TPage) × (Val (.slice TPage))) ⊕ (Bool)))) (exec law20_SegmentOnceE law20_SegmentOnceH law20_SegmentOnceL1C (law20_SegmentOnceL1S.mk' (show law20_SegmentOnceL1S.D from y)) (kont (Y := (Val (.slice (.pair (.int .i64) (.pair (.int .i64) (.pair .bool (.pair (.int .i64) .unit)))))) × Int × Int × (Val (.slice TPage)) × Int × Int × Int × Int × (Val (.pair (.int .i64) THead)) × (Val (.slice (.pair TPtr .unit))) × (Val (.slice (.int .i64))) × (Val TPage) × (Val (.slice TPage))) (Z := ((Val (.slice (.pair (.int .i64) (.pair (.int .i64) (.pair .bool (.pair (.int .i64) .unit)))))) × Int × Int × (Val (.slice TPage)) × Int × Int × Int × (Val (.pair (.int .i64) THead)) × (Val (.slice (.pair TPtr .unit))) × (Val (.slice (.int .i64))) × (Val TPage) × (Val (.slice TPage))) ⊕ (Bool)) law20_SegmentOnceL1S law20_SegmentOnceL1O (fun d => d) (fun d => d))) (law20_SegmentOnceL1B y) := by kernel_rfl
theorem law20_SegmentOnceL1_ok {w0 : World} {Jo : Io} (hfix : ∀ i b, Jo.fix i = some b → i ∈ []) (hmay : true = true → Jo.may) : SumOk PT w0 Jo law20_SegmentOnceL1M (.loop law20_SegmentOnceL1C) :=
  @loop_ok w0 Jo PT law20_SegmentOnceE law20_SegmentOnceH ((Val (.slice (.pair (.int .i64) (.pair (.int .i64) (.pair .bool (.pair (.int .i64) .unit)))))) × Int × Int × (Val (.slice TPage)) × Int × Int × Int × Int × (Val (.pair (.int .i64) THead)) × (Val (.slice (.pair TPtr .unit))) × (Val (.slice (.int .i64))) × (Val TPage) × (Val (.slice TPage))) (((Val (.slice (.pair (.int .i64) (.pair (.int .i64) (.pair .bool (.pair (.int .i64) .unit)))))) × Int × Int × (Val (.slice TPage)) × Int × Int × Int × (Val (.pair (.int .i64) THead)) × (Val (.slice (.pair TPtr .unit))) × (Val (.slice (.int .i64))) × (Val TPage) × (Val (.slice TPage))) ⊕ (Bool)) law20_SegmentOnce_env mixed law20_SegmentOnceL1C law20_SegmentOnceL1S law20_SegmentOnceL1O (fun d => d) (fun d => d) (fun d => d) (fun d => d) (fun _ => rfl) (fun _ => rfl) hfix hmay (by kernel_rfl) (noLoops (by kernel_rfl)) law20_SegmentOnceL1B law20_SegmentOnceL1_bd
theorem law20_SegmentOnceL2_bd (y : (Val (.slice (.pair (.int .i64) (.pair (.int .i64) (.pair .bool (.pair (.int .i64) .unit)))))) × Int × Int × (Val (.slice TPage)) × Int × Int × Int × (Val (.pair (.int .i64) THead)) × (Val (.slice (.pair TPtr .unit))) × (Val (.slice (.int .i64))) × (Val (.slice TPage))) : @Eq (Option (((Val (.slice (.pair (.int .i64) (.pair (.int .i64) (.pair .bool (.pair (.int .i64) .unit)))))) × Int × Int × (Val (.slice TPage)) × Int × Int × Int × (Val (.pair (.int .i64) THead)) × (Val (.slice (.pair TPtr .unit))) × (Val (.slice (.int .i64))) × (Val (.slice TPage))) ⊕ (((Val (.slice (.pair (.int .i64) (.pair (.int .i64) (.pair .bool (.pair (.int .i64) .unit)))))) × Int × Int × Int × (Val (.pair (.int .i64) THead)) × (Val (.slice (.pair TPtr .unit))) × (Val (.slice (.int .i64))) × (Val (.slice TPage))) ⊕ (Bool)))) (exec law20_SegmentOnceE law20_SegmentOnceH law20_SegmentOnceL2C (law20_SegmentOnceL2S.mk' (show law20_SegmentOnceL2S.D from y)) (kont (Y := (Val (.slice (.pair (.int .i64) (.pair (.int .i64) (.pair .bool (.pair (.int .i64) .unit)))))) × Int × Int × (Val (.slice TPage)) × Int × Int × Int × (Val (.pair (.int .i64) THead)) × (Val (.slice (.pair TPtr .unit))) × (Val (.slice (.int .i64))) × (Val (.slice TPage))) (Z := ((Val (.slice (.pair (.int .i64) (.pair (.int .i64) (.pair .bool (.pair (.int .i64) .unit)))))) × Int × Int × Int × (Val (.pair (.int .i64) THead)) × (Val (.slice (.pair TPtr .unit))) × (Val (.slice (.int .i64))) × (Val (.slice TPage))) ⊕ (Bool)) law20_SegmentOnceL2S law20_SegmentOnceL2O (fun d => d) (fun d => d))) (law20_SegmentOnceL2B y) := by kernel_rfl
theorem law20_SegmentOnceL2_ok {w0 : World} {Jo : Io} (hfix : ∀ i b, Jo.fix i = some b → i ∈ []) (hmay : true = true → Jo.may) : SumOk PT w0 Jo law20_SegmentOnceL2M (.loop law20_SegmentOnceL2C) :=
  @loop_ok w0 Jo PT law20_SegmentOnceE law20_SegmentOnceH ((Val (.slice (.pair (.int .i64) (.pair (.int .i64) (.pair .bool (.pair (.int .i64) .unit)))))) × Int × Int × (Val (.slice TPage)) × Int × Int × Int × (Val (.pair (.int .i64) THead)) × (Val (.slice (.pair TPtr .unit))) × (Val (.slice (.int .i64))) × (Val (.slice TPage))) (((Val (.slice (.pair (.int .i64) (.pair (.int .i64) (.pair .bool (.pair (.int .i64) .unit)))))) × Int × Int × Int × (Val (.pair (.int .i64) THead)) × (Val (.slice (.pair TPtr .unit))) × (Val (.slice (.int .i64))) × (Val (.slice TPage))) ⊕ (Bool)) law20_SegmentOnce_env mixed law20_SegmentOnceL2C law20_SegmentOnceL2S law20_SegmentOnceL2O (fun d => d) (fun d => d) (fun d => d) (fun d => d) (fun _ => rfl) (fun _ => rfl) hfix hmay (by kernel_rfl) (loopsMk (by kernel_rfl) (loopsCons (c := law20_SegmentOnceL1C) (n := 39) (f := law20_SegmentOnceL1M) (by kernel_rfl) (by kernel_rfl) (law20_SegmentOnceL1_ok hfix hmay) loopsNil)) law20_SegmentOnceL2B law20_SegmentOnceL2_bd
theorem law20_SegmentOnceL3_bd (y : (Val (.slice (.pair (.int .i64) (.pair (.int .i64) (.pair .bool (.pair (.int .i64) .unit)))))) × Int × Int × Int × (Val (.pair (.int .i64) THead)) × (Val (.slice (.pair TPtr .unit))) × (Val (.slice (.int .i64))) × (Val (.slice TPage))) : @Eq (Option (((Val (.slice (.pair (.int .i64) (.pair (.int .i64) (.pair .bool (.pair (.int .i64) .unit)))))) × Int × Int × Int × (Val (.pair (.int .i64) THead)) × (Val (.slice (.pair TPtr .unit))) × (Val (.slice (.int .i64))) × (Val (.slice TPage))) ⊕ ((Unit) ⊕ (Bool)))) (exec law20_SegmentOnceE law20_SegmentOnceH law20_SegmentOnceL3C (law20_SegmentOnceL3S.mk' (show law20_SegmentOnceL3S.D from y)) (kont (Y := (Val (.slice (.pair (.int .i64) (.pair (.int .i64) (.pair .bool (.pair (.int .i64) .unit)))))) × Int × Int × Int × (Val (.pair (.int .i64) THead)) × (Val (.slice (.pair TPtr .unit))) × (Val (.slice (.int .i64))) × (Val (.slice TPage))) (Z := (Unit) ⊕ (Bool)) law20_SegmentOnceL3S law20_SegmentOnceL3O (fun d => d) (fun d => d))) (law20_SegmentOnceL3B y) := by kernel_rfl
theorem law20_SegmentOnceL3_ok {w0 : World} {Jo : Io} (hfix : ∀ i b, Jo.fix i = some b → i ∈ []) (hmay : true = true → Jo.may) : SumOk PT w0 Jo law20_SegmentOnceL3M (.loop law20_SegmentOnceL3C) :=
  @loop_ok w0 Jo PT law20_SegmentOnceE law20_SegmentOnceH ((Val (.slice (.pair (.int .i64) (.pair (.int .i64) (.pair .bool (.pair (.int .i64) .unit)))))) × Int × Int × Int × (Val (.pair (.int .i64) THead)) × (Val (.slice (.pair TPtr .unit))) × (Val (.slice (.int .i64))) × (Val (.slice TPage))) ((Unit) ⊕ (Bool)) law20_SegmentOnce_env mixed law20_SegmentOnceL3C law20_SegmentOnceL3S law20_SegmentOnceL3O (fun d => d) (fun d => d) (fun d => d) (fun d => d) (fun _ => rfl) (fun _ => rfl) hfix hmay (by kernel_rfl) (loopsMk (by kernel_rfl) (loopsCons (c := law20_SegmentOnceL2C) (n := 32) (f := law20_SegmentOnceL2M) (by kernel_rfl) (by kernel_rfl) (law20_SegmentOnceL2_ok hfix hmay) (loopsCons (c := law20_SegmentOnceL1C) (n := 39) (f := law20_SegmentOnceL1M) (by kernel_rfl) (by kernel_rfl) (law20_SegmentOnceL1_ok hfix hmay) loopsNil))) law20_SegmentOnceL3B law20_SegmentOnceL3_bd
theorem law20_SegmentOnce_bd (y : Int × (Val (.slice (.pair (.int .i64) (.pair (.int .i64) (.pair .bool (.pair (.int .i64) .unit))))))) : @Eq (Option Bool) (exec law20_SegmentOnceE law20_SegmentOnceH law20_SegmentOnceC (law20_SegmentOnceI.mk' (show law20_SegmentOnceI.D from y)) (kontF (Z := Bool) law20_SegmentOnceE Go.Proofs.Try.f9.results.toList law20_SegmentOnceO (fun d => d))) (law20_SegmentOnceF y) := by kernel_rfl
theorem law20_SegmentOnce_lo {w0 : World} {Jo : Io} (hfix : ∀ i b, Jo.fix i = some b → i ∈ []) (hmay : true = true → Jo.may) : LoopsOk PT w0 Jo law20_SegmentOnceH law20_SegmentOnceC := (loopsMk (by kernel_rfl) (loopsCons (c := law20_SegmentOnceL3C) (n := 7) (f := law20_SegmentOnceL3M) (by kernel_rfl) (by kernel_rfl) (law20_SegmentOnceL3_ok hfix hmay) (loopsCons (c := law20_SegmentOnceL2C) (n := 32) (f := law20_SegmentOnceL2M) (by kernel_rfl) (by kernel_rfl) (law20_SegmentOnceL2_ok hfix hmay) (loopsCons (c := law20_SegmentOnceL1C) (n := 39) (f := law20_SegmentOnceL1M) (by kernel_rfl) (by kernel_rfl) (law20_SegmentOnceL1_ok hfix hmay) loopsNil))))
theorem law20_SegmentOnce_ctr : CtrOk PT 9 law20_SegmentOncect :=
  @ctr_ok PT law20_SegmentOnceE law20_SegmentOnceH law20_SegmentOnce_env mixed 9 Go.Proofs.Try.f9 law20_SegmentOnceC (by kernel_rfl) (by kernel_rfl) (enters_of (by kernel_rfl : PT.funcs[9]? = some Go.Proofs.Try.f9) (by kernel_rfl) (by kernel_rfl)) law20_SegmentOnceI law20_SegmentOnceO (Int × (Val (.slice (.pair (.int .i64) (.pair (.int .i64) (.pair .bool (.pair (.int .i64) .unit))))))) Bool (fun d => d) (fun d => d) (fun d => d) (fun d => d) (fun _ => rfl) (fun _ => rfl) (by kernel_rfl) (by kernel_rfl) law20_SegmentOnceF law20_SegmentOnce_bd (fun w0 Jo hfix hmay => law20_SegmentOnce_lo hfix hmay)

end Go.Sx

