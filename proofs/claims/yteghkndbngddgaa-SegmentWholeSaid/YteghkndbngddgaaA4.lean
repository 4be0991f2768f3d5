/- A4: printed by a program of this session: the functions of the seat as plain functions, and that the code comes to them. -/
import Derived.Test.YteghkndbngddgaaA0
set_option linter.unusedVariables false
set_option maxRecDepth 100000
namespace Go.Sx
open Go.RowKit
noncomputable def str2 : ByteArray := (ByteArray.mk (List.toArray (List.append (List.append [0, 1, 1, 2, 1, 2, 2, 3, 1, 2, 2, 3, 2, 3, 3, 4, 1, 2, 2, 3, 2, 3, 3, 4, 2, 3, 3, 4, 3, 4, 4, 5, 1, 2, 2, 3, 2, 3, 3, 4, 2, 3, 3, 4, 3, 4, 4, 5, 2, 3, 3, 4, 3, 4, 4, 5, 3, 4, 4, 5, 4, 5, 5, 6] [1, 2, 2, 3, 2, 3, 3, 4, 2, 3, 3, 4, 3, 4, 4, 5, 2, 3, 3, 4, 3, 4, 4, 5, 3, 4, 4, 5, 4, 5, 5, 6, 2, 3, 3, 4, 3, 4, 4, 5, 3, 4, 4, 5, 4, 5, 5, 6, 3, 4, 4, 5, 4, 5, 5, 6, 4, 5, 5, 6, 5, 6, 6, 7]) (List.append [1, 2, 2, 3, 2, 3, 3, 4, 2, 3, 3, 4, 3, 4, 4, 5, 2, 3, 3, 4, 3, 4, 4, 5, 3, 4, 4, 5, 4, 5, 5, 6, 2, 3, 3, 4, 3, 4, 4, 5, 3, 4, 4, 5, 4, 5, 5, 6, 3, 4, 4, 5, 4, 5, 5, 6, 4, 5, 5, 6, 5, 6, 6, 7] [2, 3, 3, 4, 3, 4, 4, 5, 3, 4, 4, 5, 4, 5, 5, 6, 3, 4, 4, 5, 4, 5, 5, 6, 4, 5, 5, 6, 5, 6, 6, 7, 3, 4, 4, 5, 4, 5, 5, 6, 4, 5, 5, 6, 5, 6, 6, 7, 4, 5, 5, 6, 5, 6, 6, 7, 5, 6, 6, 7, 6, 7, 7, 8]))))
/-- bodega/bodegaheap.Size -/
noncomputable def heap_Size (a0 : Int) : Option Int :=
  (hand_Pick a0 (5 : Int)).bind fun r1 =>
  some (IntKind.wrap .i64 ((104 : Int) + (IntKind.wrap .i64 ((16 : Int) * (IntKind.wrap .i64 ((1 : Int) + r1))))))
noncomputable def heap_SizeI : Shape := { n := 8, nx := 0, sl := [(0, .dat false (.int .i64))], ob := [], fix := [], may := true }
noncomputable def heap_SizeO : Shape := { n := 9, nx := 0, sl := [(8, .dat true (.int .i64))], ob := [], fix := [], may := true }
noncomputable def heap_SizeF : Int → Option Int := fun y => heap_Size y
noncomputable def heap_Sizect : Ctr := ctrOf heap_SizeI heap_SizeO (fun d => d) (fun d => d) heap_SizeF
noncomputable def heap_SizeE : Env := { tf := tfE, mt := mtE, fn := fun f => bif Nat.beq f 10 then some hand_Pickct else none }
theorem heap_Size_env : EnvOk PT heap_SizeE := ⟨tyE, (fun f ct h => by
  simp only [heap_SizeE] at h
  refine envCons (c := hand_Pickct) h hand_Pick_ctr (fun h => ?_)
  cases h), mapE⟩
noncomputable def heap_SizeC : Code := bodyOf Go.Proofs.Try.f41
noncomputable def heap_SizeH : Nat → Option Sum := fun n => none
theorem heap_Size_bd (y : Int) : @Eq (Option Int) (exec heap_SizeE heap_SizeH heap_SizeC (heap_SizeI.mk' (show heap_SizeI.D from y)) (kontF (Z := Int) heap_SizeE Go.Proofs.Try.f41.results.toList heap_SizeO (fun d => d))) (heap_SizeF y) := by kernel_rfl
theorem heap_Size_lo {w0 : World} {Jo : Io} (hfix : ∀ i b, Jo.fix i = some b → i ∈ []) (hmay : true = true → Jo.may) : LoopsOk PT w0 Jo heap_SizeH heap_SizeC := (noLoops (by kernel_rfl))
theorem heap_Size_ctr : CtrOk PT 41 heap_Sizect :=
  @ctr_ok PT heap_SizeE heap_SizeH heap_Size_env mixed 41 Go.Proofs.Try.f41 heap_SizeC (by kernel_rfl) (by kernel_rfl) (enters_of (by kernel_rfl : PT.funcs[41]? = some Go.Proofs.Try.f41) (by kernel_rfl) (by kernel_rfl)) heap_SizeI heap_SizeO Int Int (fun d => d) (fun d => d) (fun d => d) (fun d => d) (fun _ => rfl) (fun _ => rfl) (by kernel_rfl) (by kernel_rfl) heap_SizeF heap_Size_bd (fun w0 Jo hfix hmay => heap_Size_lo hfix hmay)

noncomputable def heap_Heap_CommitL1b (x0 : Val (.slice TPage)) (x1 : Int) (x2 : Int) (x3 : Int) (x4 : Val (.pair (.int .i64) THead)) (x5 : Val (.slice TPage)) : Option (((Val (.slice TPage)) × Int × Int × Int × (Val (.pair (.int .i64) THead)) × (Val (.slice TPage))) ⊕ (Int × Int × (Val (.pair (.int .i64) THead)) × (Val (.slice TPage)))) :=
  bif (decide (x1 < (((List.length x0) : Nat) : Int))) then (
    bif (inR x1 (List.length x0)) then
    bif (decide ((0 : Int) ≤ (IntKind.wrap .i64 ((List.getD x0 (Int.toNat x1) ((0 : Int), ((0 : Int), ((List.replicate 7 (0 : Int)), ())))).1 - (96 : Int))))) then (
      bif (decide ((IntKind.wrap .i64 ((List.getD x0 (Int.toNat x1) ((0 : Int), ((0 : Int), ((List.replicate 7 (0 : Int)), ())))).1 - (96 : Int))) < (((List.length x5) : Nat) : Int))) then (
        bif (inR x1 (List.length x0)) then
        bif (inR (IntKind.wrap .i64 ((List.getD x0 (Int.toNat x1) ((0 : Int), ((0 : Int), ((List.replicate 7 (0 : Int)), ())))).1 - (96 : Int))) (List.length x5)) then
        bif (inR (IntKind.wrap .i64 ((List.getD x0 (Int.toNat x1) ((0 : Int), ((0 : Int), ((List.replicate 7 (0 : Int)), ())))).1 - (96 : Int))) (List.length x5)) then
        some (Sum.inl (x0, ((IntKind.wrap .i64 (x1 + (1 : Int))), (x2, (x3, (x4, (List.set x5 (Int.toNat (IntKind.wrap .i64 ((List.getD x0 (Int.toNat x1) ((0 : Int), ((0 : Int), ((List.replicate 7 (0 : Int)), ())))).1 - (96 : Int)))) ((List.getD x0 (Int.toNat x1) ((0 : Int), ((0 : Int), ((List.replicate 7 (0 : Int)), ())))).1, ((IntKind.wrap .u64 ((IntKind.wrap .u64 ((IntKind.wrap .u64 (Int.tdiv (List.getD x5 (Int.toNat (IntKind.wrap .i64 ((List.getD x0 (Int.toNat x1) ((0 : Int), ((0 : Int), ((List.replicate 7 (0 : Int)), ())))).1 - (96 : Int)))) ((0 : Int), ((0 : Int), ((List.replicate 7 (0 : Int)), ())))).2.1 (256 : Int))) + (1 : Int))) * (256 : Int))), (List.getD x0 (Int.toNat x1) ((0 : Int), ((0 : Int), ((List.replicate 7 (0 : Int)), ())))).2.2)))))))))
        else none
        else none
        else none)
      else (
        some (Sum.inl (x0, ((IntKind.wrap .i64 (x1 + (1 : Int))), (x2, (x3, (x4, x5))))))))
    else (
      some (Sum.inl (x0, ((IntKind.wrap .i64 (x1 + (1 : Int))), (x2, (x3, (x4, x5)))))))
    else none)
  else (
    some (Sum.inr (x2, (x3, (x4, x5)))))
noncomputable def heap_Heap_CommitL1B : ((Val (.slice TPage)) × Int × Int × Int × (Val (.pair (.int .i64) THead)) × (Val (.slice TPage))) → Option (((Val (.slice TPage)) × Int × Int × Int × (Val (.pair (.int .i64) THead)) × (Val (.slice TPage))) ⊕ (Int × Int × (Val (.pair (.int .i64) THead)) × (Val (.slice TPage)))) := fun y => heap_Heap_CommitL1b y.1 y.2.1 y.2.2.1 y.2.2.2.1 y.2.2.2.2.1 y.2.2.2.2.2
noncomputable def heap_Heap_CommitL1 (x0 : Val (.slice TPage)) (x1 : Int) (x2 : Int) (x3 : Int) (x4 : Val (.pair (.int .i64) THead)) (x5 : Val (.slice TPage)) : Option (Int × Int × (Val (.pair (.int .i64) THead)) × (Val (.slice TPage))) := iter heap_Heap_CommitL1B (x0, (x1, (x2, (x3, (x4, x5)))))
/-- (*bodega/bodegaheap.Heap).Commit -/
noncomputable def heap_Heap_Commit (a0 : Val (.slice TPage)) (a1 : Int) (a2 : Int) (a3 : Val (.pair (.int .i64) THead)) (a4 : Val (.slice TPage)) : Option (Int × Int × (Val (.pair (.int .i64) THead)) × (Val (.slice TPage))) :=
  (heap_Heap_CommitL1 a0 (0 : Int) a1 a2 a3 a4).bind fun r1 =>
  some (r1.1, (r1.2.1, (r1.2.2.1, r1.2.2.2)))
noncomputable def heap_Heap_CommitI : Shape := { n := 53, nx := 2, sl := [(0, .ref 0 []), (1, .dat false (.slice TPage))], ob := [(0, .box (.pair (.slice TPage) (.pair (.int .i64) (.pair (.int .i64) (.pair (.slice (.pair (.int .u32) (.pair (.arr 3 (.int .i64)) .unit))) (.pair (.pair (.int .i64) THead) .unit))))) (.cons (.own TPage 1) (.cons (.dat false (.int .i64)) (.cons (.dat false (.int .i64)) (.cons (.nils) (.cons (.dat false (.pair (.int .i64) THead)) (.nil))))))), (1, .slc false TPage)], fix := [0, 1], may := false }
noncomputable def heap_Heap_CommitO : Shape := { n := 54, nx := 2, sl := [(53, .tup (.nil))], ob := [(0, .box (.pair (.slice TPage) (.pair (.int .i64) (.pair (.int .i64) (.pair (.slice (.pair (.int .u32) (.pair (.arr 3 (.int .i64)) .unit))) (.pair (.pair (.int .i64) THead) .unit))))) (.cons (.own TPage 1) (.cons (.dat false (.int .i64)) (.cons (.dat false (.int .i64)) (.cons (.nils) (.cons (.dat false (.pair (.int .i64) THead)) (.nil))))))), (1, .slc false TPage)], fix := [0, 1], may := false }
noncomputable def heap_Heap_CommitF : ((Val (.slice TPage)) × Int × Int × (Val (.pair (.int .i64) THead)) × (Val (.slice TPage))) → Option (Int × Int × (Val (.pair (.int .i64) THead)) × (Val (.slice TPage))) := fun y => heap_Heap_Commit y.1 y.2.1 y.2.2.1 y.2.2.2.1 y.2.2.2.2
noncomputable def heap_Heap_Commitct : Ctr := ctrOf heap_Heap_CommitI heap_Heap_CommitO (fun d => d) (fun d => d) heap_Heap_CommitF
noncomputable def heap_Heap_CommitE : Env := { tf := tfE, mt := mtE, fn := fun f => none }
theorem heap_Heap_Commit_env : EnvOk PT heap_Heap_CommitE := ⟨tyE, (fun f ct h => by
  simp only [heap_Heap_CommitE] at h
  cases h), mapE⟩
noncomputable def heap_Heap_CommitC : Code := bodyOf Go.Proofs.Try.f43
noncomputable def heap_Heap_CommitL1C : Code := (loopsOf heap_Heap_CommitC).getD 0 .skip
noncomputable def heap_Heap_CommitL1S : Shape := { n := 53, nx := 2, sl := [(0, .ref 0 []), (1, .dat false (.slice TPage)), (4, .dat true (.int .i64))], ob := [(0, .box (.pair (.slice TPage) (.pair (.int .i64) (.pair (.int .i64) (.pair (.slice (.pair (.int .u32) (.pair (.arr 3 (.int .i64)) .unit))) (.pair (.pair (.int .i64) THead) .unit))))) (.cons (.own TPage 1) (.cons (.dat false (.int .i64)) (.cons (.dat false (.int .i64)) (.cons (.nils) (.cons (.dat false (.pair (.int .i64) THead)) (.nil))))))), (1, .slc false TPage)], fix := [0, 1], may := false }
noncomputable def heap_Heap_CommitL1O : List (Ex × Shape) := [(.exit 0, { n := 53, nx := 2, sl := [], ob := [(0, .box (.pair (.slice TPage) (.pair (.int .i64) (.pair (.int .i64) (.pair (.slice (.pair (.int .u32) (.pair (.arr 3 (.int .i64)) .unit))) (.pair (.pair (.int .i64) THead) .unit))))) (.cons (.own TPage 1) (.cons (.dat false (.int .i64)) (.cons (.dat false (.int .i64)) (.cons (.nils) (.cons (.dat false (.pair (.int .i64) THead)) (.nil))))))), (1, .slc false TPage)], fix := [0, 1], may := false })]
noncomputable def heap_Heap_CommitL1M : Sum := loopSum (Y := (Val (.slice TPage)) × Int × Int × Int × (Val (.pair (.int .i64) THead)) × (Val (.slice TPage))) (Z := Int × Int × (Val (.pair (.int .i64) THead)) × (Val (.slice TPage))) heap_Heap_CommitL1S heap_Heap_CommitL1O (fun d => d) (fun d => d) (iter heap_Heap_CommitL1B)
noncomputable def heap_Heap_CommitH : Nat → Option Sum := fun n => bif Nat.beq n 1 then some heap_Heap_CommitL1M else none
theorem heap_Heap_CommitL1_bd (y : (Val (.slice TPage)) × Int × Int × Int × (Val (.pair (.int .i64) THead)) × (Val (.slice TPage))) : @Eq (Option (((Val (.slice TPage)) × Int × Int × Int × (Val (.pair (.int .i64) THead)) × (Val (.slice TPage))) ⊕ (Int × Int × (Val (.pair (.int .i64) THead)) × (Val (.slice TPage))))) (exec heap_Heap_CommitE heap_Heap_CommitH heap_Heap_CommitL1C (heap_Heap_CommitL1S.mk' (show heap_Heap_CommitL1S.D from y)) (kont (Y := (Val (.slice TPage)) × Int × Int × Int × (Val (.pair (.int .i64) THead)) × (Val (.slice TPage))) (Z := Int × Int × (Val (.pair (.int .i64) THead)) × (Val (.slice TPage))) heap_Heap_CommitL1S heap_Heap_CommitL1O (fun d => d) (fun d => d))) (heap_Heap_CommitL1B y) := by kernel_rfl
theorem heap_Heap_CommitL1_ok {w0 : World} {Jo : Io} (hfix : ∀ i b, Jo.fix i = some b → i ∈ [0, 1]) (hmay : false = true → Jo.may) : SumOk PT w0 Jo heap_Heap_CommitL1M (.loop heap_Heap_CommitL1C) :=
  @loop_ok w0 Jo PT heap_Heap_CommitE heap_Heap_CommitH ((Val (.slice TPage)) × Int × Int × Int × (Val (.pair (.int .i64) THead)) × (Val (.slice TPage))) (Int × Int × (Val (.pair (.int .i64) THead)) × (Val (.slice TPage))) heap_Heap_Commit_env mixed heap_Heap_CommitL1C heap_Heap_CommitL1S heap_Heap_CommitL1O (fun d => d) (fun d => d) (fun d => d) (fun d => d) (fun _ => rfl) (fun _ => rfl) hfix hmay (by kernel_rfl) (noLoops (by kernel_rfl)) heap_Heap_CommitL1B heap_Heap_CommitL1_bd
theorem heap_Heap_Commit_bd (y : (Val (.slice TPage)) × Int × Int × (Val (.pair (.int .i64) THead)) × (Val (.slice TPage))) : @Eq (Option (Int × Int × (Val (.pair (.int .i64) THead)) × (Val (.slice TPage)))) (exec heap_Heap_CommitE heap_Heap_CommitH heap_Heap_CommitC (heap_Heap_CommitI.mk' (show heap_Heap_CommitI.D from y)) (kontF (Z := Int × Int × (Val (.pair (.int .i64) THead)) × (Val (.slice TPage))) heap_Heap_CommitE Go.Proofs.Try.f43.results.toList heap_Heap_CommitO (fun d => d))) (heap_Heap_CommitF y) := by kernel_rfl
theorem heap_Heap_Commit_lo {w0 : World} {Jo : Io} (hfix : ∀ i b, Jo.fix i = some b → i ∈ [0, 1]) (hmay : false = true → Jo.may) : LoopsOk PT w0 Jo heap_Heap_CommitH heap_Heap_CommitC := (loopsMk (by kernel_rfl) (loopsCons (c := heap_Heap_CommitL1C) (n := 1) (f := heap_Heap_CommitL1M) (by kernel_rfl) (by kernel_rfl) (heap_Heap_CommitL1_ok hfix hmay) loopsNil))
theorem heap_Heap_Commit_ctr : CtrOk PT 43 heap_Heap_Commitct :=
  @ctr_ok PT heap_Heap_CommitE heap_Heap_CommitH heap_Heap_Commit_env mixed 43 Go.Proofs.Try.f43 heap_Heap_CommitC (by kernel_rfl) (by kernel_rfl) (enters_of (by kernel_rfl : PT.funcs[43]? = some Go.Proofs.Try.f43) (by kernel_rfl) (by kernel_rfl)) heap_Heap_CommitI heap_Heap_CommitO ((Val (.slice TPage)) × Int × Int × (Val (.pair (.int .i64) THead)) × (Val (.slice TPage))) (Int × Int × (Val (.pair (.int .i64) THead)) × (Val (.slice TPage))) (fun d => d) (fun d => d) (fun d => d) (fun d => d) (fun _ => rfl) (fun _ => rfl) (by kernel_rfl) (by kernel_rfl) heap_Heap_CommitF heap_Heap_Commit_bd (fun w0 Jo hfix hmay => heap_Heap_Commit_lo hfix hmay)

/-- math/bits.OnesCount32 -/
noncomputable def bits_OnesCount32 (a0 : Int) : Option Int :=
  bif (inR (shiftR .u32 a0 (24 : Int)) (ByteArray.size str2)) then
  bif (inR (IntKind.wrap .u32 ((BitVec.ofInt (IntKind.bits .u32) (shiftR .u32 a0 (16 : Int)) &&& BitVec.ofInt (IntKind.bits .u32) (255 : Int)).toNat : Int)) (ByteArray.size str2)) then
  bif (inR (IntKind.wrap .u32 ((BitVec.ofInt (IntKind.bits .u32) (shiftR .u32 a0 (8 : Int)) &&& BitVec.ofInt (IntKind.bits .u32) (255 : Int)).toNat : Int)) (ByteArray.size str2)) then
  bif (inR (IntKind.wrap .u32 ((BitVec.ofInt (IntKind.bits .u32) a0 &&& BitVec.ofInt (IntKind.bits .u32) (255 : Int)).toNat : Int)) (ByteArray.size str2)) then
  some (IntKind.wrap .i64 (IntKind.wrap .u8 ((IntKind.wrap .u8 ((IntKind.wrap .u8 (((UInt8.toNat (Array.getD (ByteArray.data str2) (Int.toNat (shiftR .u32 a0 (24 : Int))) 0) : Nat) : Int) + ((UInt8.toNat (Array.getD (ByteArray.data str2) (Int.toNat (IntKind.wrap .u32 ((BitVec.ofInt (IntKind.bits .u32) (shiftR .u32 a0 (16 : Int)) &&& BitVec.ofInt (IntKind.bits .u32) (255 : Int)).toNat : Int))) 0) : Nat) : Int))) + ((UInt8.toNat (Array.getD (ByteArray.data str2) (Int.toNat (IntKind.wrap .u32 ((BitVec.ofInt (IntKind.bits .u32) (shiftR .u32 a0 (8 : Int)) &&& BitVec.ofInt (IntKind.bits .u32) (255 : Int)).toNat : Int))) 0) : Nat) : Int))) + ((UInt8.toNat (Array.getD (ByteArray.data str2) (Int.toNat (IntKind.wrap .u32 ((BitVec.ofInt (IntKind.bits .u32) a0 &&& BitVec.ofInt (IntKind.bits .u32) (255 : Int)).toNat : Int))) 0) : Nat) : Int))))
  else none
  else none
  else none
  else none
noncomputable def bits_OnesCount32I : Shape := { n := 21, nx := 0, sl := [(0, .dat false (.int .u32))], ob := [], fix := [], may := true }
noncomputable def bits_OnesCount32O : Shape := { n := 22, nx := 0, sl := [(21, .dat true (.int .i64))], ob := [], fix := [], may := true }
noncomputable def bits_OnesCount32F : Int → Option Int := fun y => bits_OnesCount32 y
noncomputable def bits_OnesCount32ct : Ctr := ctrOf bits_OnesCount32I bits_OnesCount32O (fun d => d) (fun d => d) bits_OnesCount32F
noncomputable def bits_OnesCount32E : Env := { tf := tfE, mt := mtE, fn := fun f => none }
theorem bits_OnesCount32_env : EnvOk PT bits_OnesCount32E := ⟨tyE, (fun f ct h => by
  simp only [bits_OnesCount32E] at h
  cases h), mapE⟩
noncomputable def bits_OnesCount32C : Code := bodyOf Go.Proofs.Try.f90
noncomputable def bits_OnesCount32H : Nat → Option Sum := fun n => none
theorem bits_OnesCount32_bd (y : Int) : @Eq (Option Int) (exec bits_OnesCount32E bits_OnesCount32H bits_OnesCount32C (bits_OnesCount32I.mk' (show bits_OnesCount32I.D from y)) (kontF (Z := Int) bits_OnesCount32E Go.Proofs.Try.f90.results.toList bits_OnesCount32O (fun d => d))) (bits_OnesCount32F y) := by kernel_rfl
theorem bits_OnesCount32_lo {w0 : World} {Jo : Io} (hfix : ∀ i b, Jo.fix i = some b → i ∈ []) (hmay : true = true → Jo.may) : LoopsOk PT w0 Jo bits_OnesCount32H bits_OnesCount32C := (noLoops (by kernel_rfl))
theorem bits_OnesCount32_ctr : CtrOk PT 90 bits_OnesCount32ct :=
  @ctr_ok PT bits_OnesCount32E bits_OnesCount32H bits_OnesCount32_env mixed 90 Go.Proofs.Try.f90 bits_OnesCount32C (by kernel_rfl) (by kernel_rfl) (enters_of (by kernel_rfl : PT.funcs[90]? = some Go.Proofs.Try.f90) (by kernel_rfl) (by kernel_rfl)) bits_OnesCount32I bits_OnesCount32O Int Int (fun d => d) (fun d => d) (fun d => d) (fun d => d) (fun _ => rfl) (fun _ => rfl) (by kernel_rfl) (by kernel_rfl) bits_OnesCount32F bits_OnesCount32_bd (fun w0 Jo hfix hmay => bits_OnesCount32_lo hfix hmay)

/-- bodega/segment.vacant -/
noncomputable def segment_vacant (a0 : Val THead) : Option Int :=
  (bits_OnesCount32 a0.2.1).bind fun r1 =>
  some (IntKind.wrap .i64 ((15 : Int) - r1))
noncomputable def segment_vacantI : Shape := { n := 7, nx := 0, sl := [(0, .dat false THead)], ob := [], fix := [], may := true }
noncomputable def segment_vacantO : Shape := { n := 8, nx := 0, sl := [(7, .dat true (.int .i64))], ob := [], fix := [], may := true }
noncomputable def segment_vacantF : ((Val THead)) → Option Int := fun y => segment_vacant y
noncomputable def segment_vacantct : Ctr := ctrOf segment_vacantI segment_vacantO (fun d => d) (fun d => d) segment_vacantF
noncomputable def segment_vacantE : Env := { tf := tfE, mt := mtE, fn := fun f => bif Nat.beq f 90 then some bits_OnesCount32ct else none }
theorem segment_vacant_env : EnvOk PT segment_vacantE := ⟨tyE, (fun f ct h => by
  simp only [segment_vacantE] at h
  refine envCons (c := bits_OnesCount32ct) h bits_OnesCount32_ctr (fun h => ?_)
  cases h), mapE⟩
noncomputable def segment_vacantC : Code := bodyOf Go.Proofs.Try.f70
noncomputable def segment_vacantH : Nat → Option Sum := fun n => none
theorem segment_vacant_bd (y : (Val THead)) : @Eq (Option Int) (exec segment_vacantE segment_vacantH segment_vacantC (segment_vacantI.mk' (show segment_vacantI.D from y)) (kontF (Z := Int) segment_vacantE Go.Proofs.Try.f70.results.toList segment_vacantO (fun d => d))) (segment_vacantF y) := by kernel_rfl
theorem segment_vacant_lo {w0 : World} {Jo : Io} (hfix : ∀ i b, Jo.fix i = some b → i ∈ []) (hmay : true = true → Jo.may) : LoopsOk PT w0 Jo segment_vacantH segment_vacantC := (noLoops (by kernel_rfl))
theorem segment_vacant_ctr : CtrOk PT 70 segment_vacantct :=
  @ctr_ok PT segment_vacantE segment_vacantH segment_vacant_env mixed 70 Go.Proofs.Try.f70 segment_vacantC (by kernel_rfl) (by kernel_rfl) (enters_of (by kernel_rfl : PT.funcs[70]? = some Go.Proofs.Try.f70) (by kernel_rfl) (by kernel_rfl)) segment_vacantI segment_vacantO ((Val THead)) Int (fun d => d) (fun d => d) (fun d => d) (fun d => d) (fun _ => rfl) (fun _ => rfl) (by kernel_rfl) (by kernel_rfl) segment_vacantF segment_vacant_bd (fun w0 Jo hfix hmay => segment_vacant_lo hfix hmay)

/-- bodega/pointer.UnpackTag -/
noncomputable def pointer_UnpackTag (a0 : Int) : Option ((Val (.pair (.int .i64) THead))) :=
  some ((IntKind.wrap .i64 (IntKind.wrap .u64 ((BitVec.ofInt (IntKind.bits .u64) a0 &&& BitVec.ofInt (IntKind.bits .u64) (255 : Int)).toNat : Int))), ((IntKind.wrap .i64 (IntKind.wrap .u64 ((BitVec.ofInt (IntKind.bits .u64) (shiftR .u64 a0 (8 : Int)) &&& BitVec.ofInt (IntKind.bits .u64) (16777215 : Int)).toNat : Int))), ((IntKind.wrap .u32 (shiftR .u64 a0 (32 : Int))), ())))
noncomputable def pointer_UnpackTagI : Shape := { n := 14, nx := 0, sl := [(0, .dat false (.int .u64))], ob := [], fix := [], may := true }
noncomputable def pointer_UnpackTagO : Shape := { n := 15, nx := 0, sl := [(14, .dat true (.pair (.int .i64) THead))], ob := [], fix := [], may := true }
noncomputable def pointer_UnpackTagF : Int → Option ((Val (.pair (.int .i64) THead))) := fun y => pointer_UnpackTag y
noncomputable def pointer_UnpackTagct : Ctr := ctrOf pointer_UnpackTagI pointer_UnpackTagO (fun d => d) (fun d => d) pointer_UnpackTagF
noncomputable def pointer_UnpackTagE : Env := { tf := tfE, mt := mtE, fn := fun f => none }
theorem pointer_UnpackTag_env : EnvOk PT pointer_UnpackTagE := ⟨tyE, (fun f ct h => by
  simp only [pointer_UnpackTagE] at h
  cases h), mapE⟩
noncomputable def pointer_UnpackTagC : Code := bodyOf Go.Proofs.Try.f72
noncomputable def pointer_UnpackTagH : Nat → Option Sum := fun n => none
theorem pointer_UnpackTag_bd (y : Int) : @Eq (Option ((Val (.pair (.int .i64) THead)))) (exec pointer_UnpackTagE pointer_UnpackTagH pointer_UnpackTagC (pointer_UnpackTagI.mk' (show pointer_UnpackTagI.D from y)) (kontF (Z := (Val (.pair (.int .i64) THead))) pointer_UnpackTagE Go.Proofs.Try.f72.results.toList pointer_UnpackTagO (fun d => d))) (pointer_UnpackTagF y) := by kernel_rfl
theorem pointer_UnpackTag_lo {w0 : World} {Jo : Io} (hfix : ∀ i b, Jo.fix i = some b → i ∈ []) (hmay : true = true → Jo.may) : LoopsOk PT w0 Jo pointer_UnpackTagH pointer_UnpackTagC := (noLoops (by kernel_rfl))
theorem pointer_UnpackTag_ctr : CtrOk PT 72 pointer_UnpackTagct :=
  @ctr_ok PT pointer_UnpackTagE pointer_UnpackTagH pointer_UnpackTag_env mixed 72 Go.Proofs.Try.f72 pointer_UnpackTagC (by kernel_rfl) (by kernel_rfl) (enters_of (by kernel_rfl : PT.funcs[72]? = some Go.Proofs.Try.f72) (by kernel_rfl) (by kernel_rfl)) pointer_UnpackTagI pointer_UnpackTagO Int ((Val (.pair (.int .i64) THead))) (fun d => d) (fun d => d) (fun d => d) (fun d => d) (fun _ => rfl) (fun _ => rfl) (by kernel_rfl) (by kernel_rfl) pointer_UnpackTagF pointer_UnpackTag_bd (fun w0 Jo hfix hmay => pointer_UnpackTag_lo hfix hmay)

noncomputable def segment_AllocateL1b (x0 : Val (.slice TPage)) (x1 : Val (.slice (.int .i64))) (x2 : Val (.slice (.int .i64))) (x3 : Int) (x4 : Int) (x5 : Val (.pair (.int .i64) TPtr)) (x6 : Val (.slice (.int .i64))) (x7 : Val (.slice (.pair (.int .i64) TPage))) (x8 : Val (.slice (.pair (.int .i64) THead))) : Option (((Val (.slice TPage)) × (Val (.slice (.int .i64))) × (Val (.slice (.int .i64))) × Int × Int × (Val (.pair (.int .i64) TPtr)) × (Val (.slice (.int .i64))) × (Val (.slice (.pair (.int .i64) TPage))) × (Val (.slice (.pair (.int .i64) THead)))) ⊕ (((Val (.slice TPage)) × (Val (.slice (.int .i64))) × (Val (.pair (.int .i64) TPtr)) × (Val (.slice (.int .i64))) × (Val (.slice (.pair (.int .i64) TPage))) × (Val (.slice (.pair (.int .i64) THead)))) ⊕ (Int × Bool))) :=
  bif (decide (x4 < x3)) then (
    bif (inR x4 (List.length x2)) then
    (segment_header x0 (List.getD x2 (Int.toNat x4) (0 : Int))).bind fun r1 =>
    bif (!(decide (r1.2.2.2 = (0 : Int)))) then (
      some (Sum.inr (Sum.inr (r1.2.2.2, true))))
    else (
      bif (!(decide (r1.2.1.1 = x5.1))) then (
        some (Sum.inr (Sum.inr ((11 : Int), true))))
      else (
        some (Sum.inl (x0, (x1, (x2, (x3, ((IntKind.wrap .i64 (x4 + (1 : Int))), (x5, (x6, ((upsV x7 (List.getD x2 (Int.toNat x4) (0 : Int)) r1.1), (upsV x8 (List.getD x2 (Int.toNat x4) (0 : Int)) r1.2.1))))))))))))
    else none)
  else (
    some (Sum.inr (Sum.inl (x0, (x1, (x5, (x6, (x7, x8))))))))
noncomputable def segment_AllocateL1B : ((Val (.slice TPage)) × (Val (.slice (.int .i64))) × (Val (.slice (.int .i64))) × Int × Int × (Val (.pair (.int .i64) TPtr)) × (Val (.slice (.int .i64))) × (Val (.slice (.pair (.int .i64) TPage))) × (Val (.slice (.pair (.int .i64) THead)))) → Option (((Val (.slice TPage)) × (Val (.slice (.int .i64))) × (Val (.slice (.int .i64))) × Int × Int × (Val (.pair (.int .i64) TPtr)) × (Val (.slice (.int .i64))) × (Val (.slice (.pair (.int .i64) TPage))) × (Val (.slice (.pair (.int .i64) THead)))) ⊕ (((Val (.slice TPage)) × (Val (.slice (.int .i64))) × (Val (.pair (.int .i64) TPtr)) × (Val (.slice (.int .i64))) × (Val (.slice (.pair (.int .i64) TPage))) × (Val (.slice (.pair (.int .i64) THead)))) ⊕ (Int × Bool))) := fun y => segment_AllocateL1b y.1 y.2.1 y.2.2.1 y.2.2.2.1 y.2.2.2.2.1 y.2.2.2.2.2.1 y.2.2.2.2.2.2.1 y.2.2.2.2.2.2.2.1 y.2.2.2.2.2.2.2.2
noncomputable def segment_AllocateL1 (x0 : Val (.slice TPage)) (x1 : Val (.slice (.int .i64))) (x2 : Val (.slice (.int .i64))) (x3 : Int) (x4 : Int) (x5 : Val (.pair (.int .i64) TPtr)) (x6 : Val (.slice (.int .i64))) (x7 : Val (.slice (.pair (.int .i64) TPage))) (x8 : Val (.slice (.pair (.int .i64) THead))) : Option (((Val (.slice TPage)) × (Val (.slice (.int .i64))) × (Val (.pair (.int .i64) TPtr)) × (Val (.slice (.int .i64))) × (Val (.slice (.pair (.int .i64) TPage))) × (Val (.slice (.pair (.int .i64) THead)))) ⊕ (Int × Bool)) := iter segment_AllocateL1B (x0, (x1, (x2, (x3, (x4, (x5, (x6, (x7, x8))))))))
noncomputable def segment_AllocateL2b (x0 : Val (.slice TPage)) (x1 : Val (.slice (.int .i64))) (x2 : Val (.slice (.int .i64))) (x3 : Int) (x4 : Int) (x5 : Val (.pair (.int .i64) TPtr)) (x6 : Val (.slice (.int .i64))) (x7 : Val (.slice (.pair (.int .i64) TPage))) (x8 : Val (.slice (.pair (.int .i64) THead))) : Option (((Val (.slice TPage)) × (Val (.slice (.int .i64))) × (Val (.slice (.int .i64))) × Int × Int × (Val (.pair (.int .i64) TPtr)) × (Val (.slice (.int .i64))) × (Val (.slice (.pair (.int .i64) TPage))) × (Val (.slice (.pair (.int .i64) THead)))) ⊕ ((Val (.slice TPage)) × (Val (.slice (.int .i64))) × (Val (.pair (.int .i64) TPtr)) × (Val (.slice (.int .i64))) × (Val (.slice (.pair (.int .i64) TPage))) × (Val (.slice (.pair (.int .i64) THead))))) :=
  bif (decide (x4 < x3)) then (
    bif (inR x4 (List.length x2)) then
    (segment_vacant (Option.getD (lookV x8 (List.getD x2 (Int.toNat x4) (0 : Int))) ((0 : Int), ((0 : Int), ())))).bind fun r1 =>
    bif (decide (x5.2.2.1 ≤ r1)) then (
      some (Sum.inr (x0, ([(List.getD x2 (Int.toNat x4) (0 : Int))], (x5, (x6, (x7, x8)))))))
    else (
      some (Sum.inl (x0, (x1, (x2, (x3, ((IntKind.wrap .i64 (x4 + (1 : Int))), (x5, (x6, (x7, x8))))))))))
    else none)
  else (
    some (Sum.inr (x0, (x1, (x5, (x6, (x7, x8)))))))
noncomputable def segment_AllocateL2B : ((Val (.slice TPage)) × (Val (.slice (.int .i64))) × (Val (.slice (.int .i64))) × Int × Int × (Val (.pair (.int .i64) TPtr)) × (Val (.slice (.int .i64))) × (Val (.slice (.pair (.int .i64) TPage))) × (Val (.slice (.pair (.int .i64) THead)))) → Option (((Val (.slice TPage)) × (Val (.slice (.int .i64))) × (Val (.slice (.int .i64))) × Int × Int × (Val (.pair (.int .i64) TPtr)) × (Val (.slice (.int .i64))) × (Val (.slice (.pair (.int .i64) TPage))) × (Val (.slice (.pair (.int .i64) THead)))) ⊕ ((Val (.slice TPage)) × (Val (.slice (.int .i64))) × (Val (.pair (.int .i64) TPtr)) × (Val (.slice (.int .i64))) × (Val (.slice (.pair (.int .i64) TPage))) × (Val (.slice (.pair (.int .i64) THead))))) := fun y => segment_AllocateL2b y.1 y.2.1 y.2.2.1 y.2.2.2.1 y.2.2.2.2.1 y.2.2.2.2.2.1 y.2.2.2.2.2.2.1 y.2.2.2.2.2.2.2.1 y.2.2.2.2.2.2.2.2
noncomputable def segment_AllocateL2 (x0 : Val (.slice TPage)) (x1 : Val (.slice (.int .i64))) (x2 : Val (.slice (.int .i64))) (x3 : Int) (x4 : Int) (x5 : Val (.pair (.int .i64) TPtr)) (x6 : Val (.slice (.int .i64))) (x7 : Val (.slice (.pair (.int .i64) TPage))) (x8 : Val (.slice (.pair (.int .i64) THead))) : Option ((Val (.slice TPage)) × (Val (.slice (.int .i64))) × (Val (.pair (.int .i64) TPtr)) × (Val (.slice (.int .i64))) × (Val (.slice (.pair (.int .i64) TPage))) × (Val (.slice (.pair (.int .i64) THead)))) := iter segment_AllocateL2B (x0, (x1, (x2, (x3, (x4, (x5, (x6, (x7, x8))))))))
noncomputable def segment_AllocateL3b (x0 : Val (.slice TPage)) (x1 : Val (.slice (.int .i64))) (x2 : Int) (x3 : Int) (x4 : Int) (x5 : Val (.slice (.int .i64))) (x6 : Int) (x7 : Int) (x8 : Val (.pair (.int .i64) TPtr)) (x9 : Val (.slice (.int .i64))) (x10 : Val (.slice TPage)) (x11 : Val (.slice (.pair (.int .i64) TPage))) (x12 : Val (.slice (.pair (.int .i64) THead))) (x13 : Val (.slice (.pair (.int .i64) THead))) (x14 : Val THead) : Option (((Val (.slice TPage)) × (Val (.slice (.int .i64))) × Int × Int × Int × (Val (.slice (.int .i64))) × Int × Int × (Val (.pair (.int .i64) TPtr)) × (Val (.slice (.int .i64))) × (Val (.slice TPage)) × (Val (.slice (.pair (.int .i64) TPage))) × (Val (.slice (.pair (.int .i64) THead))) × (Val (.slice (.pair (.int .i64) THead))) × (Val THead)) ⊕ (((Val (.slice TPage)) × (Val (.slice (.int .i64))) × Int × (Val (.slice (.int .i64))) × Int × Int × (Val (.pair (.int .i64) TPtr)) × (Val (.slice (.int .i64))) × (Val (.slice TPage)) × (Val (.slice (.pair (.int .i64) TPage))) × (Val (.slice (.pair (.int .i64) THead))) × (Val (.slice (.pair (.int .i64) THead)))) ⊕ (Int × Bool))) :=
  bif (decide (x4 < (16 : Int))) then (
    bif (decide (x2 < x8.2.2.1)) then (
      bif (decide ((0 : Int) ≤ (IntKind.wrap .u64 x4))) then
      bif (decide ((IntKind.wrap .u32 ((BitVec.ofInt (IntKind.bits .u32) (shiftR .u32 x14.2.1 (IntKind.wrap .u64 x4)) &&& BitVec.ofInt (IntKind.bits .u32) (1 : Int)).toNat : Int)) = (1 : Int))) then (
        some (Sum.inl (x0, (x1, (x2, (x3, ((IntKind.wrap .i64 (x4 + (1 : Int))), (x5, (x6, (x7, (x8, (x9, (x10, (x11, (x12, (x13, x14))))))))))))))))
      else (
        (segment_HeaderLine x3).bind fun r1 =>
        (pointer_Latest x0 (IntKind.wrap .i64 (r1 + x4))).bind fun r2 =>
        (pointer_UnpackTag (List.getD r2.1.2.2.1 0 (0 : Int))).bind fun r3 =>
        bif (!r2.2) then (
          bif (decide (((List.length x9) + 1) ≤ lim)) then
          bif (decide ((0 : Int) ≤ (IntKind.wrap .u64 x4))) then
          some (Sum.inl (x0, (x1, ((IntKind.wrap .i64 (x2 + (1 : Int))), (x3, ((IntKind.wrap .i64 (x4 + (1 : Int))), (x5, (x6, (x7, (x8, ((x9 ++ [(IntKind.wrap .i64 (r1 + x4))]), (x10, (x11, (x12, ((upsV x13 x3 (x14.1, ((IntKind.wrap .u32 ((BitVec.ofInt (IntKind.bits .u32) x14.2.1 ||| BitVec.ofInt (IntKind.bits .u32) (shiftL .u32 (1 : Int) (IntKind.wrap .u64 x4))).toNat : Int)), x14.2.2))), (x14.1, ((IntKind.wrap .u32 ((BitVec.ofInt (IntKind.bits .u32) x14.2.1 ||| BitVec.ofInt (IntKind.bits .u32) (shiftL .u32 (1 : Int) (IntKind.wrap .u64 x4))).toNat : Int)), x14.2.2)))))))))))))))))
          else none
          else none)
        else (
          (pointer_Locked r2.1).bind fun r4 =>
          bif r4 then (
            some (Sum.inr (Sum.inr ((3 : Int), true))))
          else (
            bif (!(decide (r3.1 = (0 : Int)))) then (
              some (Sum.inr (Sum.inr ((11 : Int), true))))
            else (
              bif (decide (r3.2.1 = (16777215 : Int))) then (
                some (Sum.inl (x0, (x1, (x2, (x3, ((IntKind.wrap .i64 (x4 + (1 : Int))), (x5, (x6, (x7, (x8, (x9, (x10, (x11, (x12, (x13, x14))))))))))))))))
              else (
                bif (decide (((List.length x10) + 1) ≤ lim)) then
                bif (decide ((0 : Int) ≤ (IntKind.wrap .u64 x4))) then
                some (Sum.inl (x0, (x1, ((IntKind.wrap .i64 (x2 + (1 : Int))), (x3, ((IntKind.wrap .i64 (x4 + (1 : Int))), (x5, (x6, (x7, (x8, (x9, ((x10 ++ [r2.1]), (x11, (x12, ((upsV x13 x3 (x14.1, ((IntKind.wrap .u32 ((BitVec.ofInt (IntKind.bits .u32) x14.2.1 ||| BitVec.ofInt (IntKind.bits .u32) (shiftL .u32 (1 : Int) (IntKind.wrap .u64 x4))).toNat : Int)), x14.2.2))), (x14.1, ((IntKind.wrap .u32 ((BitVec.ofInt (IntKind.bits .u32) x14.2.1 ||| BitVec.ofInt (IntKind.bits .u32) (shiftL .u32 (1 : Int) (IntKind.wrap .u64 x4))).toNat : Int)), x14.2.2)))))))))))))))))
                else none
                else none)))))
      else none)
    else (
      some (Sum.inr (Sum.inl (x0, (x1, (x2, (x5, (x6, (x7, (x8, (x9, (x10, (x11, (x12, x13)))))))))))))))
  else (
    some (Sum.inr (Sum.inl (x0, (x1, (x2, (x5, (x6, (x7, (x8, (x9, (x10, (x11, (x12, x13))))))))))))))
noncomputable def segment_AllocateL3B : ((Val (.slice TPage)) × (Val (.slice (.int .i64))) × Int × Int × Int × (Val (.slice (.int .i64))) × Int × Int × (Val (.pair (.int .i64) TPtr)) × (Val (.slice (.int .i64))) × (Val (.slice TPage)) × (Val (.slice (.pair (.int .i64) TPage))) × (Val (.slice (.pair (.int .i64) THead))) × (Val (.slice (.pair (.int .i64) THead))) × (Val THead)) → Option (((Val (.slice TPage)) × (Val (.slice (.int .i64))) × Int × Int × Int × (Val (.slice (.int .i64))) × Int × Int × (Val (.pair (.int .i64) TPtr)) × (Val (.slice (.int .i64))) × (Val (.slice TPage)) × (Val (.slice (.pair (.int .i64) TPage))) × (Val (.slice (.pair (.int .i64) THead))) × (Val (.slice (.pair (.int .i64) THead))) × (Val THead)) ⊕ (((Val (.slice TPage)) × (Val (.slice (.int .i64))) × Int × (Val (.slice (.int .i64))) × Int × Int × (Val (.pair (.int .i64) TPtr)) × (Val (.slice (.int .i64))) × (Val (.slice TPage)) × (Val (.slice (.pair (.int .i64) TPage))) × (Val (.slice (.pair (.int .i64) THead))) × (Val (.slice (.pair (.int .i64) THead)))) ⊕ (Int × Bool))) := fun y => segment_AllocateL3b y.1 y.2.1 y.2.2.1 y.2.2.2.1 y.2.2.2.2.1 y.2.2.2.2.2.1 y.2.2.2.2.2.2.1 y.2.2.2.2.2.2.2.1 y.2.2.2.2.2.2.2.2.1 y.2.2.2.2.2.2.2.2.2.1 y.2.2.2.2.2.2.2.2.2.2.1 y.2.2.2.2.2.2.2.2.2.2.2.1 y.2.2.2.2.2.2.2.2.2.2.2.2.1 y.2.2.2.2.2.2.2.2.2.2.2.2.2.1 y.2.2.2.2.2.2.2.2.2.2.2.2.2.2
noncomputable def segment_AllocateL3 (x0 : Val (.slice TPage)) (x1 : Val (.slice (.int .i64))) (x2 : Int) (x3 : Int) (x4 : Int) (x5 : Val (.slice (.int .i64))) (x6 : Int) (x7 : Int) (x8 : Val (.pair (.int .i64) TPtr)) (x9 : Val (.slice (.int .i64))) (x10 : Val (.slice TPage)) (x11 : Val (.slice (.pair (.int .i64) TPage))) (x12 : Val (.slice (.pair (.int .i64) THead))) (x13 : Val (.slice (.pair (.int .i64) THead))) (x14 : Val THead) : Option (((Val (.slice TPage)) × (Val (.slice (.int .i64))) × Int × (Val (.slice (.int .i64))) × Int × Int × (Val (.pair (.int .i64) TPtr)) × (Val (.slice (.int .i64))) × (Val (.slice TPage)) × (Val (.slice (.pair (.int .i64) TPage))) × (Val (.slice (.pair (.int .i64) THead))) × (Val (.slice (.pair (.int .i64) THead)))) ⊕ (Int × Bool)) := iter segment_AllocateL3B (x0, (x1, (x2, (x3, (x4, (x5, (x6, (x7, (x8, (x9, (x10, (x11, (x12, (x13, x14))))))))))))))
noncomputable def segment_AllocateL4b (x0 : Val (.slice TPage)) (x1 : Val (.slice (.int .i64))) (x2 : Int) (x3 : Val (.slice (.int .i64))) (x4 : Int) (x5 : Int) (x6 : Val (.pair (.int .i64) TPtr)) (x7 : Val (.slice (.int .i64))) (x8 : Val (.slice TPage)) (x9 : Val (.slice (.pair (.int .i64) TPage))) (x10 : Val (.slice (.pair (.int .i64) THead))) (x11 : Val (.slice (.pair (.int .i64) THead))) : Option (((Val (.slice TPage)) × (Val (.slice (.int .i64))) × Int × (Val (.slice (.int .i64))) × Int × Int × (Val (.pair (.int .i64) TPtr)) × (Val (.slice (.int .i64))) × (Val (.slice TPage)) × (Val (.slice (.pair (.int .i64) TPage))) × (Val (.slice (.pair (.int .i64) THead))) × (Val (.slice (.pair (.int .i64) THead)))) ⊕ (((Val (.slice (.int .i64))) × Int × (Val (.pair (.int .i64) TPtr)) × (Val (.slice (.int .i64))) × (Val (.slice TPage)) × (Val (.slice (.pair (.int .i64) TPage))) × (Val (.slice (.pair (.int .i64) THead)))) ⊕ (Int × Bool))) :=
  bif (decide (x5 < x4)) then (
    bif (inR x5 (List.length x3)) then
    (segment_AllocateL3 x0 x1 x2 (List.getD x3 (Int.toNat x5) (0 : Int)) (1 : Int) x3 x4 x5 x6 x7 x8 x9 x10 x11 (Option.getD (lookV x10 (List.getD x3 (Int.toNat x5) (0 : Int))) ((0 : Int), ((0 : Int), ())))).bind fun r1 =>
    match r1 with
    | .inl r2 => (
      some (Sum.inl (r2.1, (r2.2.1, (r2.2.2.1, (r2.2.2.2.1, (r2.2.2.2.2.1, ((IntKind.wrap .i64 (r2.2.2.2.2.2.1 + (1 : Int))), (r2.2.2.2.2.2.2.1, (r2.2.2.2.2.2.2.2.1, (r2.2.2.2.2.2.2.2.2.1, (r2.2.2.2.2.2.2.2.2.2.1, (r2.2.2.2.2.2.2.2.2.2.2.1, r2.2.2.2.2.2.2.2.2.2.2.2)))))))))))))
    | .inr r3 => (
      some (Sum.inr (Sum.inr (r3.1, r3.2))))
    else none)
  else (
    some (Sum.inr (Sum.inl (x1, (x2, (x6, (x7, (x8, (x9, x11)))))))))
noncomputable def segment_AllocateL4B : ((Val (.slice TPage)) × (Val (.slice (.int .i64))) × Int × (Val (.slice (.int .i64))) × Int × Int × (Val (.pair (.int .i64) TPtr)) × (Val (.slice (.int .i64))) × (Val (.slice TPage)) × (Val (.slice (.pair (.int .i64) TPage))) × (Val (.slice (.pair (.int .i64) THead))) × (Val (.slice (.pair (.int .i64) THead)))) → Option (((Val (.slice TPage)) × (Val (.slice (.int .i64))) × Int × (Val (.slice (.int .i64))) × Int × Int × (Val (.pair (.int .i64) TPtr)) × (Val (.slice (.int .i64))) × (Val (.slice TPage)) × (Val (.slice (.pair (.int .i64) TPage))) × (Val (.slice (.pair (.int .i64) THead))) × (Val (.slice (.pair (.int .i64) THead)))) ⊕ (((Val (.slice (.int .i64))) × Int × (Val (.pair (.int .i64) TPtr)) × (Val (.slice (.int .i64))) × (Val (.slice TPage)) × (Val (.slice (.pair (.int .i64) TPage))) × (Val (.slice (.pair (.int .i64) THead)))) ⊕ (Int × Bool))) := fun y => segment_AllocateL4b y.1 y.2.1 y.2.2.1 y.2.2.2.1 y.2.2.2.2.1 y.2.2.2.2.2.1 y.2.2.2.2.2.2.1 y.2.2.2.2.2.2.2.1 y.2.2.2.2.2.2.2.2.1 y.2.2.2.2.2.2.2.2.2.1 y.2.2.2.2.2.2.2.2.2.2.1 y.2.2.2.2.2.2.2.2.2.2.2
noncomputable def segment_AllocateL4 (x0 : Val (.slice TPage)) (x1 : Val (.slice (.int .i64))) (x2 : Int) (x3 : Val (.slice (.int .i64))) (x4 : Int) (x5 : Int) (x6 : Val (.pair (.int .i64) TPtr)) (x7 : Val (.slice (.int .i64))) (x8 : Val (.slice TPage)) (x9 : Val (.slice (.pair (.int .i64) TPage))) (x10 : Val (.slice (.pair (.int .i64) THead))) (x11 : Val (.slice (.pair (.int .i64) THead))) : Option (((Val (.slice (.int .i64))) × Int × (Val (.pair (.int .i64) TPtr)) × (Val (.slice (.int .i64))) × (Val (.slice TPage)) × (Val (.slice (.pair (.int .i64) TPage))) × (Val (.slice (.pair (.int .i64) THead)))) ⊕ (Int × Bool)) := iter segment_AllocateL4B (x0, (x1, (x2, (x3, (x4, (x5, (x6, (x7, (x8, (x9, (x10, x11)))))))))))
noncomputable def segment_AllocateL5b (x0 : Val (.slice (.int .i64))) (x1 : Int) (x2 : Int) (x3 : Val (.slice TPage)) (x4 : Val (.slice TPage)) (x5 : Val (.slice (.pair (.int .i64) TPage))) (x6 : Val (.slice (.pair (.int .i64) THead))) : Option (((Val (.slice (.int .i64))) × Int × Int × (Val (.slice TPage)) × (Val (.slice TPage)) × (Val (.slice (.pair (.int .i64) TPage))) × (Val (.slice (.pair (.int .i64) THead)))) ⊕ ((Val (.slice TPage)) × (Val (.slice TPage)))) :=
  bif (decide (x2 < x1)) then (
    bif (inR x2 (List.length x0)) then
    bif (Option.isSome (lookV x6 (List.getD x0 (Int.toNat x2) (0 : Int)))) then (
      (segment_WriteHeader (Option.getD (lookV x5 (List.getD x0 (Int.toNat x2) (0 : Int))) ((0 : Int), ((0 : Int), ((List.replicate 7 (0 : Int)), ())))) (Option.getD (lookV x6 (List.getD x0 (Int.toNat x2) (0 : Int))) ((0 : Int), ((0 : Int), ())))).bind fun r1 =>
      bif (decide (((List.length x4) + 1) ≤ lim)) then
      some (Sum.inl (x0, (x1, ((IntKind.wrap .i64 (x2 + (1 : Int))), (x3, ((x4 ++ [r1.1]), (x5, x6)))))))
      else none)
    else (
      some (Sum.inl (x0, (x1, ((IntKind.wrap .i64 (x2 + (1 : Int))), (x3, (x4, (x5, x6))))))))
    else none)
  else (
    some (Sum.inr (x3, x4)))
noncomputable def segment_AllocateL5B : ((Val (.slice (.int .i64))) × Int × Int × (Val (.slice TPage)) × (Val (.slice TPage)) × (Val (.slice (.pair (.int .i64) TPage))) × (Val (.slice (.pair (.int .i64) THead)))) → Option (((Val (.slice (.int .i64))) × Int × Int × (Val (.slice TPage)) × (Val (.slice TPage)) × (Val (.slice (.pair (.int .i64) TPage))) × (Val (.slice (.pair (.int .i64) THead)))) ⊕ ((Val (.slice TPage)) × (Val (.slice TPage)))) := fun y => segment_AllocateL5b y.1 y.2.1 y.2.2.1 y.2.2.2.1 y.2.2.2.2.1 y.2.2.2.2.2.1 y.2.2.2.2.2.2
noncomputable def segment_AllocateL5 (x0 : Val (.slice (.int .i64))) (x1 : Int) (x2 : Int) (x3 : Val (.slice TPage)) (x4 : Val (.slice TPage)) (x5 : Val (.slice (.pair (.int .i64) TPage))) (x6 : Val (.slice (.pair (.int .i64) THead))) : Option ((Val (.slice TPage)) × (Val (.slice TPage))) := iter segment_AllocateL5B (x0, (x1, (x2, (x3, (x4, (x5, x6))))))
/-- bodega/segment.Allocate -/
noncomputable def segment_Allocate (a0 : Val (.pair (.int .i64) TPtr)) (a1 : Val (.slice TPage)) : Option ((Val (.slice (.int .i64))) × (Val (.slice TPage)) × (Val (.slice TPage)) × Int × Bool) :=
  (segment_isClient a0.1).bind fun r1 =>
  bif (!r1) then (
    some ([], ([], ([], ((1 : Int), true)))))
  else (
    (segment_isSize a0.2.1).bind fun r2 =>
    bif (!r2) then (
      some ([], ([], ([], ((1 : Int), true)))))
    else (
      bif (decide (a0.2.2.1 < (1 : Int))) then (
        some ([], ([], ([], ((1 : Int), true)))))
      else (
        bif (decide ((12 : Int) < a0.2.2.1)) then (
          some ([], ([], ([], ((1 : Int), true)))))
        else (
          (segment_node a1 a0.1).bind fun r3 =>
          bif (!r3.2.2.1) then (
            some ([(IntKind.wrap .i64 ((98 : Int) + a0.1))], ([], ([], ((0 : Int), false)))))
          else (
            bif (!(decide (r3.2.2.2 = (0 : Int)))) then (
              some ([], ([], ([], (r3.2.2.2, true)))))
            else (
              (segment_Count a0.2.1).bind fun r4 =>
              (segment_owned r3.2.1.2.2.1 r4).bind fun r5 =>
              (segment_headerLines r5).bind fun r6 =>
              (segment_missing a1 r6).bind fun r7 =>
              bif (decide ((0 : Int) < (((List.length r7) : Nat) : Int))) then (
                some (r7, ([], ([], ((0 : Int), false)))))
              else (
                (segment_AllocateL1 a1 r5 r5 (((List.length r5) : Nat) : Int) (0 : Int) a0 r7 [] []).bind fun r8 =>
                match r8 with
                | .inl r9 => (
                  (segment_AllocateL2 r9.1 r9.2.1 r9.2.1 (((List.length r9.2.1) : Nat) : Int) (0 : Int) r9.2.2.1 r9.2.2.2.1 r9.2.2.2.2.1 r9.2.2.2.2.2).bind fun r11 =>
                  (segment_AllocateL4 r11.1 r11.2.1 (0 : Int) r11.2.1 (((List.length r11.2.1) : Nat) : Int) (0 : Int) r11.2.2.1 r11.2.2.2.1 [] r11.2.2.2.2.1 r11.2.2.2.2.2 []).bind fun r12 =>
                  match r12 with
                  | .inl r13 => (
                    bif (decide (r13.2.1 < r13.2.2.1.2.2.1)) then (
                      some ([], ([], ([], ((12 : Int), true)))))
                    else (
                      bif (decide ((0 : Int) < (((List.length r13.2.2.2.1) : Nat) : Int))) then (
                        some (r13.2.2.2.1, ([], ([], ((0 : Int), false)))))
                      else (
                        (segment_AllocateL5 r13.1 (((List.length r13.1) : Nat) : Int) (0 : Int) r13.2.2.2.2.1 [] r13.2.2.2.2.2.1 r13.2.2.2.2.2.2).bind fun r15 =>
                        some ([], (r15.1, (r15.2, ((0 : Int), true)))))))
                  | .inr r14 => (
                    some ([], ([], ([], (r14.1, r14.2))))))
                | .inr r10 => (
                  some ([], ([], ([], (r10.1, r10.2))))))))))))
noncomputable def segment_AllocateI : Shape := { n := 254, nx := 0, sl := [(0, .dat false (.pair (.int .i64) TPtr)), (1, .dat false (.slice TPage))], ob := [], fix := [], may := true }
noncomputable def segment_AllocateO : Shape := { n := 255, nx := 0, sl := [(254, .tup (.cons (.dat true (.slice (.int .i64))) (.cons (.dat true (.slice TPage)) (.cons (.dat true (.slice TPage)) (.cons (.dat true (.int .i64)) (.cons (.dat true .bool) (.nil)))))))], ob := [], fix := [], may := true }
noncomputable def segment_AllocateF : ((Val (.pair (.int .i64) TPtr)) × (Val (.slice TPage))) → Option ((Val (.slice (.int .i64))) × (Val (.slice TPage)) × (Val (.slice TPage)) × Int × Bool) := fun y => segment_Allocate y.1 y.2
noncomputable def segment_Allocatect : Ctr := ctrOf segment_AllocateI segment_AllocateO (fun d => d) (fun d => d) segment_AllocateF
noncomputable def segment_AllocateE : Env := { tf := tfE, mt := mtE, fn := fun f => bif Nat.beq f 63 then some segment_isClientct else bif Nat.beq f 60 then some segment_isSizect else bif Nat.beq f 65 then some segment_nodect else bif Nat.beq f 34 then some segment_Countct else bif Nat.beq f 67 then some segment_ownedct else bif Nat.beq f 66 then some segment_headerLinesct else bif Nat.beq f 64 then some segment_missingct else bif Nat.beq f 69 then some segment_headerct else bif Nat.beq f 70 then some segment_vacantct else bif Nat.beq f 36 then some segment_HeaderLinect else bif Nat.beq f 71 then some pointer_Latestct else bif Nat.beq f 72 then some pointer_UnpackTagct else bif Nat.beq f 73 then some pointer_Lockedct else bif Nat.beq f 27 then some segment_WriteHeaderct else none }
theorem segment_Allocate_env : EnvOk PT segment_AllocateE := ⟨tyE, (fun f ct h => by
  simp only [segment_AllocateE] at h
  refine envCons (c := segment_isClientct) h segment_isClient_ctr (fun h => ?_)
  refine envCons (c := segment_isSizect) h segment_isSize_ctr (fun h => ?_)
  refine envCons (c := segment_nodect) h segment_node_ctr (fun h => ?_)
  refine envCons (c := segment_Countct) h segment_Count_ctr (fun h => ?_)
  refine envCons (c := segment_ownedct) h segment_owned_ctr (fun h => ?_)
  refine envCons (c := segment_headerLinesct) h segment_headerLines_ctr (fun h => ?_)
  refine envCons (c := segment_missingct) h segment_missing_ctr (fun h => ?_)
  refine envCons (c := segment_headerct) h segment_header_ctr (fun h => ?_)
  refine envCons (c := segment_vacantct) h segment_vacant_ctr (fun h => ?_)
  refine envCons (c := segment_HeaderLinect) h segment_HeaderLine_ctr (fun h => ?_)
  refine envCons (c := pointer_Latestct) h pointer_Latest_ctr (fun h => ?_)
  refine envCons (c := pointer_UnpackTagct) h pointer_UnpackTag_ctr (fun h => ?_)
  refine envCons (c := pointer_Lockedct) h pointer_Locked_ctr (fun h => ?_)
  refine envCons (c := segment_WriteHeaderct) h segment_WriteHeader_ctr (fun h => ?_)
  cases h), mapE⟩
noncomputable def segment_AllocateC : Code := bodyOf Go.Proofs.Try.f44
noncomputable def segment_AllocateL1C : Code := (loopsOf segment_AllocateC).getD 0 .skip
noncomputable def segment_AllocateL2C : Code := (loopsOf segment_AllocateC).getD 1 .skip
noncomputable def segment_AllocateL4C : Code := (loopsOf segment_AllocateC).getD 2 .skip
noncomputable def segment_AllocateL3C : Code := (loopsOf segment_AllocateC).getD 3 .skip
noncomputable def segment_AllocateL5C : Code := (loopsOf segment_AllocateC).getD 4 .skip
noncomputable def segment_AllocateL1S : Shape := { n := 254, nx := 4, sl := [(1, .dat false (.slice TPage)), (2, .ref 0 []), (4, .own (.int .i64) 1), (5, .nils), (6, .nils), (12, .dat true (.slice (.int .i64))), (13, .mp 2), (14, .mp 3), (94, .dat true (.slice (.int .i64))), (95, .dat true (.int .i64)), (96, .dat true (.int .i64))], ob := [(0, .box (.pair (.int .i64) TPtr) (.dat false (.pair (.int .i64) TPtr))), (1, .slc true (.int .i64)), (2, .map .i64 true TPage), (3, .map .i64 true THead)], fix := [], may := true }
noncomputable def segment_AllocateL1O : List (Ex × Shape) := [(.exit 0, { n := 254, nx := 4, sl := [(1, .dat false (.slice TPage)), (2, .ref 0 []), (4, .own (.int .i64) 1), (5, .nils), (6, .nils), (12, .dat true (.slice (.int .i64))), (13, .mp 2), (14, .mp 3)], ob := [(0, .box (.pair (.int .i64) TPtr) (.dat false (.pair (.int .i64) TPtr))), (1, .slc true (.int .i64)), (2, .map .i64 true TPage), (3, .map .i64 true THead)], fix := [], may := true }), (.ret, { n := 254, nx := 0, sl := [(4, .nils), (5, .nils), (6, .nils), (7, .dat true (.int .i64)), (8, .dat true .bool)], ob := [], fix := [], may := true })]
noncomputable def segment_AllocateL1M : Sum := loopSum (Y := (Val (.slice TPage)) × (Val (.slice (.int .i64))) × (Val (.slice (.int .i64))) × Int × Int × (Val (.pair (.int .i64) TPtr)) × (Val (.slice (.int .i64))) × (Val (.slice (.pair (.int .i64) TPage))) × (Val (.slice (.pair (.int .i64) THead)))) (Z := ((Val (.slice TPage)) × (Val (.slice (.int .i64))) × (Val (.pair (.int .i64) TPtr)) × (Val (.slice (.int .i64))) × (Val (.slice (.pair (.int .i64) TPage))) × (Val (.slice (.pair (.int .i64) THead)))) ⊕ (Int × Bool)) segment_AllocateL1S segment_AllocateL1O (fun d => d) (fun d => d) (iter segment_AllocateL1B)
noncomputable def segment_AllocateL2S : Shape := { n := 254, nx := 4, sl := [(1, .dat false (.slice TPage)), (2, .ref 0 []), (4, .own (.int .i64) 1), (5, .nils), (6, .nils), (13, .mp 2), (14, .mp 3), (21, .dat true (.slice (.int .i64))), (126, .dat true (.slice (.int .i64))), (127, .dat true (.int .i64)), (128, .dat true (.int .i64))], ob := [(0, .box (.pair (.int .i64) TPtr) (.dat false (.pair (.int .i64) TPtr))), (1, .slc true (.int .i64)), (2, .map .i64 true TPage), (3, .map .i64 true THead)], fix := [], may := true }
noncomputable def segment_AllocateL2O : List (Ex × Shape) := [(.exit 3, { n := 254, nx := 4, sl := [(1, .dat false (.slice TPage)), (2, .ref 0 []), (4, .own (.int .i64) 1), (5, .nils), (6, .nils), (13, .mp 2), (14, .mp 3), (21, .dat true (.slice (.int .i64)))], ob := [(0, .box (.pair (.int .i64) TPtr) (.dat false (.pair (.int .i64) TPtr))), (1, .slc true (.int .i64)), (2, .map .i64 true TPage), (3, .map .i64 true THead)], fix := [], may := true })]
noncomputable def segment_AllocateL2M : Sum := loopSum (Y := (Val (.slice TPage)) × (Val (.slice (.int .i64))) × (Val (.slice (.int .i64))) × Int × Int × (Val (.pair (.int .i64) TPtr)) × (Val (.slice (.int .i64))) × (Val (.slice (.pair (.int .i64) TPage))) × (Val (.slice (.pair (.int .i64) THead)))) (Z := (Val (.slice TPage)) × (Val (.slice (.int .i64))) × (Val (.pair (.int .i64) TPtr)) × (Val (.slice (.int .i64))) × (Val (.slice (.pair (.int .i64) TPage))) × (Val (.slice (.pair (.int .i64) THead)))) segment_AllocateL2S segment_AllocateL2O (fun d => d) (fun d => d) (iter segment_AllocateL2B)
noncomputable def segment_AllocateL3S : Shape := { n := 254, nx := 7, sl := [(1, .dat false (.slice TPage)), (2, .ref 0 []), (4, .own (.int .i64) 1), (5, .own TPage 2), (6, .nils), (13, .mp 3), (14, .mp 4), (21, .dat true (.slice (.int .i64))), (24, .dat true (.int .i64)), (25, .mp 5), (27, .dat true (.int .i64)), (28, .ref 6 []), (29, .dat true (.int .i64)), (143, .dat true (.slice (.int .i64))), (144, .dat true (.int .i64)), (145, .dat true (.int .i64))], ob := [(0, .box (.pair (.int .i64) TPtr) (.dat false (.pair (.int .i64) TPtr))), (1, .slc true (.int .i64)), (2, .slc true TPage), (3, .map .i64 true TPage), (4, .map .i64 true THead), (5, .map .i64 true THead), (6, .box THead (.dat true THead))], fix := [], may := true }
noncomputable def segment_AllocateL3O : List (Ex × Shape) := [(.exit 7, { n := 254, nx := 6, sl := [(1, .dat false (.slice TPage)), (2, .ref 0 []), (4, .own (.int .i64) 1), (5, .own TPage 2), (6, .nils), (13, .mp 3), (14, .mp 4), (21, .dat true (.slice (.int .i64))), (24, .dat true (.int .i64)), (25, .mp 5), (143, .dat true (.slice (.int .i64))), (144, .dat true (.int .i64)), (145, .dat true (.int .i64))], ob := [(0, .box (.pair (.int .i64) TPtr) (.dat false (.pair (.int .i64) TPtr))), (1, .slc true (.int .i64)), (2, .slc true TPage), (3, .map .i64 true TPage), (4, .map .i64 true THead), (5, .map .i64 true THead)], fix := [], may := true }), (.ret, { n := 254, nx := 0, sl := [(4, .nils), (5, .nils), (6, .nils), (7, .dat true (.int .i64)), (8, .dat true .bool)], ob := [], fix := [], may := true })]
noncomputable def segment_AllocateL3M : Sum := loopSum (Y := (Val (.slice TPage)) × (Val (.slice (.int .i64))) × Int × Int × Int × (Val (.slice (.int .i64))) × Int × Int × (Val (.pair (.int .i64) TPtr)) × (Val (.slice (.int .i64))) × (Val (.slice TPage)) × (Val (.slice (.pair (.int .i64) TPage))) × (Val (.slice (.pair (.int .i64) THead))) × (Val (.slice (.pair (.int .i64) THead))) × (Val THead)) (Z := ((Val (.slice TPage)) × (Val (.slice (.int .i64))) × Int × (Val (.slice (.int .i64))) × Int × Int × (Val (.pair (.int .i64) TPtr)) × (Val (.slice (.int .i64))) × (Val (.slice TPage)) × (Val (.slice (.pair (.int .i64) TPage))) × (Val (.slice (.pair (.int .i64) THead))) × (Val (.slice (.pair (.int .i64) THead)))) ⊕ (Int × Bool)) segment_AllocateL3S segment_AllocateL3O (fun d => d) (fun d => d) (iter segment_AllocateL3B)
noncomputable def segment_AllocateL4S : Shape := { n := 254, nx := 6, sl := [(1, .dat false (.slice TPage)), (2, .ref 0 []), (4, .own (.int .i64) 1), (5, .own TPage 2), (6, .nils), (13, .mp 3), (14, .mp 4), (21, .dat true (.slice (.int .i64))), (24, .dat true (.int .i64)), (25, .mp 5), (143, .dat true (.slice (.int .i64))), (144, .dat true (.int .i64)), (145, .dat true (.int .i64))], ob := [(0, .box (.pair (.int .i64) TPtr) (.dat false (.pair (.int .i64) TPtr))), (1, .slc true (.int .i64)), (2, .slc true TPage), (3, .map .i64 true TPage), (4, .map .i64 true THead), (5, .map .i64 true THead)], fix := [], may := true }
noncomputable def segment_AllocateL4O : List (Ex × Shape) := [(.exit 5, { n := 254, nx := 5, sl := [(2, .ref 0 []), (4, .own (.int .i64) 1), (5, .own TPage 2), (6, .nils), (13, .mp 3), (21, .dat true (.slice (.int .i64))), (24, .dat true (.int .i64)), (25, .mp 4)], ob := [(0, .box (.pair (.int .i64) TPtr) (.dat false (.pair (.int .i64) TPtr))), (1, .slc true (.int .i64)), (2, .slc true TPage), (3, .map .i64 true TPage), (4, .map .i64 true THead)], fix := [], may := true }), (.ret, { n := 254, nx := 0, sl := [(4, .nils), (5, .nils), (6, .nils), (7, .dat true (.int .i64)), (8, .dat true .bool)], ob := [], fix := [], may := true })]
noncomputable def segment_AllocateL4M : Sum := loopSum (Y := (Val (.slice TPage)) × (Val (.slice (.int .i64))) × Int × (Val (.slice (.int .i64))) × Int × Int × (Val (.pair (.int .i64) TPtr)) × (Val (.slice (.int .i64))) × (Val (.slice TPage)) × (Val (.slice (.pair (.int .i64) TPage))) × (Val (.slice (.pair (.int .i64) THead))) × (Val (.slice (.pair (.int .i64) THead)))) (Z := ((Val (.slice (.int .i64))) × Int × (Val (.pair (.int .i64) TPtr)) × (Val (.slice (.int .i64))) × (Val (.slice TPage)) × (Val (.slice (.pair (.int .i64) TPage))) × (Val (.slice (.pair (.int .i64) THead)))) ⊕ (Int × Bool)) segment_AllocateL4S segment_AllocateL4O (fun d => d) (fun d => d) (iter segment_AllocateL4B)
noncomputable def segment_AllocateL5S : Shape := { n := 254, nx := 4, sl := [(5, .own TPage 0), (6, .own TPage 1), (13, .mp 2), (25, .mp 3), (226, .dat true (.slice (.int .i64))), (227, .dat true (.int .i64)), (228, .dat true (.int .i64))], ob := [(0, .slc true TPage), (1, .slc true TPage), (2, .map .i64 true TPage), (3, .map .i64 true THead)], fix := [], may := true }
noncomputable def segment_AllocateL5O : List (Ex × Shape) := [(.exit 10, { n := 254, nx := 2, sl := [(5, .own TPage 0), (6, .own TPage 1)], ob := [(0, .slc true TPage), (1, .slc true TPage)], fix := [], may := true })]
noncomputable def segment_AllocateL5M : Sum := loopSum (Y := (Val (.slice (.int .i64))) × Int × Int × (Val (.slice TPage)) × (Val (.slice TPage)) × (Val (.slice (.pair (.int .i64) TPage))) × (Val (.slice (.pair (.int .i64) THead)))) (Z := (Val (.slice TPage)) × (Val (.slice TPage))) segment_AllocateL5S segment_AllocateL5O (fun d => d) (fun d => d) (iter segment_AllocateL5B)
noncomputable def segment_AllocateH : Nat → Option Sum := fun n => bif Nat.beq n 14 then some segment_AllocateL1M else bif Nat.beq n 25 then some segment_AllocateL2M else bif Nat.beq n 36 then some segment_AllocateL3M else bif Nat.beq n 32 then some segment_AllocateL4M else bif Nat.beq n 59 then some segment_AllocateL5M else none
theorem segment_AllocateL1_bd (y : (Val (.slice TPage)) × (Val (.slice (.int .i64))) × (Val (.slice (.int .i64))) × Int × Int × (Val (.pair (.int .i64) TPtr)) × (Val (.slice (.int .i64))) × (Val (.slice (.pair (.int .i64) TPage))) × (Val (.slice (.pair (.int .i64) THead)))) : @Eq (Option (((Val (.slice TPage)) × (Val (.slice (.int .i64))) × (Val (.slice (.int .i64))) × Int × Int × (Val (.pair (.int .i64) TPtr)) × (Val (.slice (.int .i64))) × (Val (.slice (.pair (.int .i64) TPage))) × (Val (.slice (.pair (.int .i64) THead)))) ⊕ (((Val (.slice TPage)) × (Val (.slice (.int .i64))) × (Val (.pair (.int .i64) TPtr)) × (Val (.slice (.int .i64))) × (Val (.slice (.pair (.int .i64) TPage))) × (Val (.slice (.pair (.int .i64) THead)))) ⊕ (Int × Bool)))) (exec segment_AllocateE segment_AllocateH segment_AllocateL1C (segment_AllocateL1S.mk' (show segment_AllocateL1S.D from y)) (kont (Y := (Val (.slice TPage)) × (Val (.slice (.int .i64))) × (Val (.slice (.int .i64))) × Int × Int × (Val (.pair (.int .i64) TPtr)) × (Val (.slice (.int .i64))) × (Val (.slice (.pair (.int .i64) TPage))) × (Val (.slice (.pair (.int .i64) THead)))) (Z := ((Val (.slice TPage)) × (Val (.slice (.int .i64))) × (Val (.pair (.int .i64) TPtr)) × (Val (.slice (.int .i64))) × (Val (.slice (.pair (.int .i64) TPage))) × (Val (.slice (.pair (.int .i64) THead)))) ⊕ (Int × Bool)) segment_AllocateL1S segment_AllocateL1O (fun d => d) (fun d => d))) (segment_AllocateL1B y) := by kernel_rfl
theorem segment_AllocateL1_ok {w0 : World} {Jo : Io} (hfix : ∀ i b, Jo.fix i = some b → i ∈ []) (hmay : true = true → Jo.may) : SumOk PT w0 Jo segment_AllocateL1M (.loop segment_AllocateL1C) :=
  @loop_ok w0 Jo PT segment_AllocateE segment_AllocateH ((Val (.slice TPage)) × (Val (.slice (.int .i64))) × (Val (.slice (.int .i64))) × Int × Int × (Val (.pair (.int .i64) TPtr)) × (Val (.slice (.int .i64))) × (Val (.slice (.pair (.int .i64) TPage))) × (Val (.slice (.pair (.int .i64) THead)))) (((Val (.slice TPage)) × (Val (.slice (.int .i64))) × (Val (.pair (.int .i64) TPtr)) × (Val (.slice (.int .i64))) × (Val (.slice (.pair (.int .i64) TPage))) × (Val (.slice (.pair (.int .i64) THead)))) ⊕ (Int × Bool)) segment_Allocate_env mixed segment_AllocateL1C segment_AllocateL1S segment_AllocateL1O (fun d => d) (fun d => d) (fun d => d) (fun d => d) (fun _ => rfl) (fun _ => rfl) hfix hmay (by kernel_rfl) (noLoops (by kernel_rfl)) segment_AllocateL1B segment_AllocateL1_bd
theorem segment_AllocateL2_bd (y : (Val (.slice TPage)) × (Val (.slice (.int .i64))) × (Val (.slice (.int .i64))) × Int × Int × (Val (.pair (.int .i64) TPtr)) × (Val (.slice (.int .i64))) × (Val (.slice (.pair (.int .i64) TPage))) × (Val (.slice (.pair (.int .i64) THead)))) : @Eq (Option (((Val (.slice TPage)) × (Val (.slice (.int .i64))) × (Val (.slice (.int .i64))) × Int × Int × (Val (.pair (.int .i64) TPtr)) × (Val (.slice (.int .i64))) × (Val (.slice (.pair (.int .i64) TPage))) × (Val (.slice (.pair (.int .i64) THead)))) ⊕ ((Val (.slice TPage)) × (Val (.slice (.int .i64))) × (Val (.pair (.int .i64) TPtr)) × (Val (.slice (.int .i64))) × (Val (.slice (.pair (.int .i64) TPage))) × (Val (.slice (.pair (.int .i64) THead)))))) (exec segment_AllocateE segment_AllocateH segment_AllocateL2C (segment_AllocateL2S.mk' (show segment_AllocateL2S.D from y)) (kont (Y := (Val (.slice TPage)) × (Val (.slice (.int .i64))) × (Val (.slice (.int .i64))) × Int × Int × (Val (.pair (.int .i64) TPtr)) × (Val (.slice (.int .i64))) × (Val (.slice (.pair (.int .i64) TPage))) × (Val (.slice (.pair (.int .i64) THead)))) (Z := (Val (.slice TPage)) × (Val (.slice (.int .i64))) × (Val (.pair (.int .i64) TPtr)) × (Val (.slice (.int .i64))) × (Val (.slice (.pair (.int .i64) TPage))) × (Val (.slice (.pair (.int .i64) THead)))) segment_AllocateL2S segment_AllocateL2O (fun d => d) (fun d => d))) (segment_AllocateL2B y) := by kernel_rfl
theorem segment_AllocateL2_ok {w0 : World} {Jo : Io} (hfix : ∀ i b, Jo.fix i = some b → i ∈ []) (hmay : true = true → Jo.may) : SumOk PT w0 Jo segment_AllocateL2M (.loop segment_AllocateL2C) :=
  @loop_ok w0 Jo PT segment_AllocateE segment_AllocateH ((Val (.slice TPage)) × (Val (.slice (.int .i64))) × (Val (.slice (.int .i64))) × Int × Int × (Val (.pair (.int .i64) TPtr)) × (Val (.slice (.int .i64))) × (Val (.slice (.pair (.int .i64) TPage))) × (Val (.slice (.pair (.int .i64) THead)))) ((Val (.slice TPage)) × (Val (.slice (.int .i64))) × (Val (.pair (.int .i64) TPtr)) × (Val (.slice (.int .i64))) × (Val (.slice (.pair (.int .i64) TPage))) × (Val (.slice (.pair (.int .i64) THead)))) segment_Allocate_env mixed segment_AllocateL2C segment_AllocateL2S segment_AllocateL2O (fun d => d) (fun d => d) (fun d => d) (fun d => d) (fun _ => rfl) (fun _ => rfl) hfix hmay (by kernel_rfl) (noLoops (by kernel_rfl)) segment_AllocateL2B segment_AllocateL2_bd
theorem segment_AllocateL3_bd (y : (Val (.slice TPage)) × (Val (.slice (.int .i64))) × Int × Int × Int × (Val (.slice (.int .i64))) × Int × Int × (Val (.pair (.int .i64) TPtr)) × (Val (.slice (.int .i64))) × (Val (.slice TPage)) × (Val (.slice (.pair (.int .i64) TPage))) × (Val (.slice (.pair (.int .i64) THead))) × (Val (.slice (.pair (.int .i64) THead))) × (Val THead)) : @Eq (Option (((Val (.slice TPage)) × (Val (.slice (.int .i64))) × Int × Int × Int × (Val (.slice (.int .i64))) × Int × Int × (Val (.pair (.int .i64) TPtr)) × (Val (.slice (.int .i64))) × (Val (.slice TPage)) × (Val (.slice (.pair (.int .i64) TPage))) × (Val (.slice (.pair (.int .i64) THead))) × (Val (.slice (.pair (.int .i64) THead))) × (Val THead)) ⊕ (((Val (.slice TPage)) × (Val (.slice (.int .i64))) × Int × (Val (.slice (.int .i64))) × Int × Int × (Val (.pair (.int .i64) TPtr)) × (Val (.slice (.int .i64))) × (Val (.slice TPage)) × (Val (.slice (.pair (.int .i64) TPage))) × (Val (.slice (.pair (.int .i64) THead))) × (Val (.slice (.pair (.int .i64) THead)))) ⊕ (Int × Bool)))) (exec segment_AllocateE segment_AllocateH segment_AllocateL3C (segment_AllocateL3S.mk' (show segment_AllocateL3S.D from y)) (kont (Y := (Val (.slice TPage)) × (Val (.slice (.int .i64))) × Int × Int × Int × (Val (.slice (.int .i64))) × Int × Int × (Val (.pair (.int .i64) TPtr)) × (Val (.slice (.int .i64))) × (Val (.slice TPage)) × (Val (.slice (.pair (.int .i64) TPage))) × (Val (.slice (.pair (.int .i64) THead))) × (Val (.slice (.pair (.int .i64) THead))) × (Val THead)) (Z := ((Val (.slice TPage)) × (Val (.slice (.int .i64))) × Int × (Val (.slice (.int .i64))) × Int × Int × (Val (.pair (.int .i64) TPtr)) × (Val (.slice (.int .i64))) × (Val (.slice TPage)) × (Val (.slice (.pair (.int .i64) TPage))) × (Val (.slice (.pair (.int .i64) THead))) × (Val (.slice (.pair (.int .i64) THead)))) ⊕ (Int × Bool)) segment_AllocateL3S segment_AllocateL3O (fun d => d) (fun d => d))) (segment_AllocateL3B y) := by kernel_rfl
theorem segment_AllocateL3_ok {w0 : World} {Jo : Io} (hfix : ∀ i b, Jo.fix i = some b → i ∈ []) (hmay : true = true → Jo.may) : SumOk PT w0 Jo segment_AllocateL3M (.loop segment_AllocateL3C) :=
  @loop_ok w0 Jo PT segment_AllocateE segment_AllocateH ((Val (.slice TPage)) × (Val (.slice (.int .i64))) × Int × Int × Int × (Val (.slice (.int .i64))) × Int × Int × (Val (.pair (.int .i64) TPtr)) × (Val (.slice (.int .i64))) × (Val (.slice TPage)) × (Val (.slice (.pair (.int .i64) TPage))) × (Val (.slice (.pair (.int .i64) THead))) × (Val (.slice (.pair (.int .i64) THead))) × (Val THead)) (((Val (.slice TPage)) × (Val (.slice (.int .i64))) × Int × (Val (.slice (.int .i64))) × Int × Int × (Val (.pair (.int .i64) TPtr)) × (Val (.slice (.int .i64))) × (Val (.slice TPage)) × (Val (.slice (.pair (.int .i64) TPage))) × (Val (.slice (.pair (.int .i64) THead))) × (Val (.slice (.pair (.int .i64) THead)))) ⊕ (Int × Bool)) segment_Allocate_env mixed segment_AllocateL3C segment_AllocateL3S segment_AllocateL3O (fun d => d) (fun d => d) (fun d => d) (fun d => d) (fun _ => rfl) (fun _ => rfl) hfix hmay (by kernel_rfl) (noLoops (by kernel_rfl)) segment_AllocateL3B segment_AllocateL3_bd
theorem segment_AllocateL4_bd (y : (Val (.slice TPage)) × (Val (.slice (.int .i64))) × Int × (Val (.slice (.int .i64))) × Int × Int × (Val (.pair (.int .i64) TPtr)) × (Val (.slice (.int .i64))) × (Val (.slice TPage)) × (Val (.slice (.pair (.int .i64) TPage))) × (Val (.slice (.pair (.int .i64) THead))) × (Val (.slice (.pair (.int .i64) THead)))) : @Eq (Option (((Val (.slice TPage)) × (Val (.slice (.int .i64))) × Int × (Val (.slice (.int .i64))) × Int × Int × (Val (.pair (.int .i64) TPtr)) × (Val (.slice (.int .i64))) × (Val (.slice TPage)) × (Val (.slice (.pair (.int .i64) TPage))) × (Val (.slice (.pair (.int .i64) THead))) × (Val (.slice (.pair (.int .i64) THead)))) ⊕ (((Val (.slice (.int .i64))) × Int × (Val (.pair (.int .i64) TPtr)) × (Val (.slice (.int .i64))) × (Val (.slice TPage)) × (Val (.slice (.pair (.int .i64) TPage))) × (Val (.slice (.pair (.int .i64) THead)))) ⊕ (Int × Bool)))) (exec segment_AllocateE segment_AllocateH segment_AllocateL4C (segment_AllocateL4S.mk' (show segment_AllocateL4S.D from y)) (kont (Y := (Val (.slice TPage)) × (Val (.slice (.int .i64))) × Int × (Val (.slice (.int .i64))) × Int × Int × (Val (.pair (.int .i64) TPtr)) × (Val (.slice (.int .i64))) × (Val (.slice TPage)) × (Val (.slice (.pair (.int .i64) TPage))) × (Val (.slice (.pair (.int .i64) THead))) × (Val (.slice (.pair (.int .i64) THead)))) (Z := ((Val (.slice (.int .i64))) × Int × (Val (.pair (.int .i64) TPtr)) × (Val (.slice (.int .i64))) × (Val (.slice TPage)) × (Val (.slice (.pair (.int .i64) TPage))) × (Val (.slice (.pair (.int .i64) THead)))) ⊕ (Int × Bool)) segment_AllocateL4S segment_AllocateL4O (fun d => d) (fun d => d))) (segment_AllocateL4B y) := by kernel_rfl
theorem segment_AllocateL4_ok {w0 : World} {Jo : Io} (hfix : ∀ i b, Jo.fix i = some b → i ∈ []) (hmay : true = true → Jo.may) : SumOk PT w0 Jo segment_AllocateL4M (.loop segment_AllocateL4C) :=
  @loop_ok w0 Jo PT segment_AllocateE segment_AllocateH ((Val (.slice TPage)) × (Val (.slice (.int .i64))) × Int × (Val (.slice (.int .i64))) × Int × Int × (Val (.pair (.int .i64) TPtr)) × (Val (.slice (.int .i64))) × (Val (.slice TPage)) × (Val (.slice (.pair (.int .i64) TPage))) × (Val (.slice (.pair (.int .i64) THead))) × (Val (.slice (.pair (.int .i64) THead)))) (((Val (.slice (.int .i64))) × Int × (Val (.pair (.int .i64) TPtr)) × (Val (.slice (.int .i64))) × (Val (.slice TPage)) × (Val (.slice (.pair (.int .i64) TPage))) × (Val (.slice (.pair (.int .i64) THead)))) ⊕ (Int × Bool)) segment_Allocate_env mixed segment_AllocateL4C segment_AllocateL4S segment_AllocateL4O (fun d => d) (fun d => d) (fun d => d) (fun d => d) (fun _ => rfl) (fun _ => rfl) hfix hmay (by kernel_rfl) (loopsMk (by kernel_rfl) (loopsCons (c := segment_AllocateL3C) (n := 36) (f := segment_AllocateL3M) (by kernel_rfl) (by kernel_rfl) (segment_AllocateL3_ok hfix hmay) loopsNil)) segment_AllocateL4B segment_AllocateL4_bd
theorem segment_AllocateL5_bd (y : (Val (.slice (.int .i64))) × Int × Int × (Val (.slice TPage)) × (Val (.slice TPage)) × (Val (.slice (.pair (.int .i64) TPage))) × (Val (.slice (.pair (.int .i64) THead)))) : @Eq (Option (((Val (.slice (.int .i64))) × Int × Int × (Val (.slice TPage)) × (Val (.slice TPage)) × (Val (.slice (.pair (.int .i64) TPage))) × (Val (.slice (.pair (.int .i64) THead)))) ⊕ ((Val (.slice TPage)) × (Val (.slice TPage))))) (exec segment_AllocateE segment_AllocateH segment_AllocateL5C (segment_AllocateL5S.mk' (show segment_AllocateL5S.D from y)) (kont (Y := (Val (.slice (.int .i64))) × Int × Int × (Val (.slice TPage)) × (Val (.slice TPage)) × (Val (.slice (.pair (.int .i64) TPage))) × (Val (.slice (.pair (.int .i64) THead)))) (Z := (Val (.slice TPage)) × (Val (.slice TPage))) segment_AllocateL5S segment_AllocateL5O (fun d => d) (fun d => d))) (segment_AllocateL5B y) := by kernel_rfl
theorem segment_AllocateL5_ok {w0 : World} {Jo : Io} (hfix : ∀ i b, Jo.fix i = some b → i ∈ []) (hmay : true = true → Jo.may) : SumOk PT w0 Jo segment_AllocateL5M (.loop segment_AllocateL5C) :=
  @loop_ok w0 Jo PT segment_AllocateE segment_AllocateH ((Val (.slice (.int .i64))) × Int × Int × (Val (.slice TPage)) × (Val (.slice TPage)) × (Val (.slice (.pair (.int .i64) TPage))) × (Val (.slice (.pair (.int .i64) THead)))) ((Val (.slice TPage)) × (Val (.slice TPage))) segment_Allocate_env mixed segment_AllocateL5C segment_AllocateL5S segment_AllocateL5O (fun d => d) (fun d => d) (fun d => d) (fun d => d) (fun _ => rfl) (fun _ => rfl) hfix hmay (by kernel_rfl) (noLoops (by kernel_rfl)) segment_AllocateL5B segment_AllocateL5_bd
theorem segment_Allocate_bd (y : (Val (.pair (.int .i64) TPtr)) × (Val (.slice TPage))) : @Eq (Option ((Val (.slice (.int .i64))) × (Val (.slice TPage)) × (Val (.slice TPage)) × Int × Bool)) (exec segment_AllocateE segment_AllocateH segment_AllocateC (segment_AllocateI.mk' (show segment_AllocateI.D from y)) (kontF (Z := (Val (.slice (.int .i64))) × (Val (.slice TPage)) × (Val (.slice TPage)) × Int × Bool) segment_AllocateE Go.Proofs.Try.f44.results.toList segment_AllocateO (fun d => d))) (segment_AllocateF y) := by kernel_rfl
theorem segment_Allocate_lo {w0 : World} {Jo : Io} (hfix : ∀ i b, Jo.fix i = some b → i ∈ []) (hmay : true = true → Jo.may) : LoopsOk PT w0 Jo segment_AllocateH segment_AllocateC := (loopsMk (by kernel_rfl) (loopsCons (c := segment_AllocateL1C) (n := 14) (f := segment_AllocateL1M) (by kernel_rfl) (by kernel_rfl) (segment_AllocateL1_ok hfix hmay) (loopsCons (c := segment_AllocateL2C) (n := 25) (f := segment_AllocateL2M) (by kernel_rfl) (by kernel_rfl) (segment_AllocateL2_ok hfix hmay) (loopsCons (c := segment_AllocateL4C) (n := 32) (f := segment_AllocateL4M) (by kernel_rfl) (by kernel_rfl) (segment_AllocateL4_ok hfix hmay) (loopsCons (c := segment_AllocateL3C) (n := 36) (f := segment_AllocateL3M) (by kernel_rfl) (by kernel_rfl) (segment_AllocateL3_ok hfix hmay) (loopsCons (c := segment_AllocateL5C) (n := 59) (f := segment_AllocateL5M) (by kernel_rfl) (by kernel_rfl) (segment_AllocateL5_ok hfix hmay) loopsNil))))))
theorem segment_Allocate_ctr : CtrOk PT 44 segment_Allocatect :=
  @ctr_ok PT segment_AllocateE segment_AllocateH segment_Allocate_env mixed 44 Go.Proofs.Try.f44 segment_AllocateC (by kernel_rfl) (by kernel_rfl) (enters_of (by kernel_rfl : PT.funcs[44]? = some Go.Proofs.Try.f44) (by kernel_rfl) (by kernel_rfl)) segment_AllocateI segment_AllocateO ((Val (.pair (.int .i64) TPtr)) × (Val (.slice TPage))) ((Val (.slice (.int .i64))) × (Val (.slice TPage)) × (Val (.slice TPage)) × Int × Bool) (fun d => d) (fun d => d) (fun d => d) (fun d => d) (fun _ => rfl) (fun _ => rfl) (by kernel_rfl) (by kernel_rfl) segment_AllocateF segment_Allocate_bd (fun w0 Jo hfix hmay => segment_Allocate_lo hfix hmay)

/-- bodega/pointer.tagOf -/
noncomputable def pointer_tagOf (a0 : Val TPage) : Option ((Val (.pair (.int .i64) THead))) :=
  (pointer_UnpackTag (List.getD a0.2.2.1 0 (0 : Int))).bind fun r1 =>
  some r1
noncomputable def pointer_tagOfI : Shape := { n := 7, nx := 0, sl := [(0, .dat false TPage)], ob := [], fix := [], may := true }
noncomputable def pointer_tagOfO : Shape := { n := 8, nx := 0, sl := [(7, .dat true (.pair (.int .i64) THead))], ob := [], fix := [], may := true }
noncomputable def pointer_tagOfF : ((Val TPage)) → Option ((Val (.pair (.int .i64) THead))) := fun y => pointer_tagOf y
noncomputable def pointer_tagOfct : Ctr := ctrOf pointer_tagOfI pointer_tagOfO (fun d => d) (fun d => d) pointer_tagOfF
noncomputable def pointer_tagOfE : Env := { tf := tfE, mt := mtE, fn := fun f => bif Nat.beq f 72 then some pointer_UnpackTagct else none }
theorem pointer_tagOf_env : EnvOk PT pointer_tagOfE := ⟨tyE, (fun f ct h => by
  simp only [pointer_tagOfE] at h
  refine envCons (c := pointer_UnpackTagct) h pointer_UnpackTag_ctr (fun h => ?_)
  cases h), mapE⟩
noncomputable def pointer_tagOfC : Code := bodyOf Go.Proofs.Try.f74
noncomputable def pointer_tagOfH : Nat → Option Sum := fun n => none
theorem pointer_tagOf_bd (y : (Val TPage)) : @Eq (Option ((Val (.pair (.int .i64) THead)))) (exec pointer_tagOfE pointer_tagOfH pointer_tagOfC (pointer_tagOfI.mk' (show pointer_tagOfI.D from y)) (kontF (Z := (Val (.pair (.int .i64) THead))) pointer_tagOfE Go.Proofs.Try.f74.results.toList pointer_tagOfO (fun d => d))) (pointer_tagOfF y) := by kernel_rfl
theorem pointer_tagOf_lo {w0 : World} {Jo : Io} (hfix : ∀ i b, Jo.fix i = some b → i ∈ []) (hmay : true = true → Jo.may) : LoopsOk PT w0 Jo pointer_tagOfH pointer_tagOfC := (noLoops (by kernel_rfl))
theorem pointer_tagOf_ctr : CtrOk PT 74 pointer_tagOfct :=
  @ctr_ok PT pointer_tagOfE pointer_tagOfH pointer_tagOf_env mixed 74 Go.Proofs.Try.f74 pointer_tagOfC (by kernel_rfl) (by kernel_rfl) (enters_of (by kernel_rfl : PT.funcs[74]? = some Go.Proofs.Try.f74) (by kernel_rfl) (by kernel_rfl)) pointer_tagOfI pointer_tagOfO ((Val TPage)) ((Val (.pair (.int .i64) THead))) (fun d => d) (fun d => d) (fun d => d) (fun d => d) (fun _ => rfl) (fun _ => rfl) (by kernel_rfl) (by kernel_rfl) pointer_tagOfF pointer_tagOf_bd (fun w0 Jo hfix hmay => pointer_tagOf_lo hfix hmay)

/-- bodega/pointer.PackTag -/
noncomputable def pointer_PackTag (a0 : Val (.pair (.int .i64) THead)) : Option Int :=
  some (IntKind.wrap .u64 ((BitVec.ofInt (IntKind.bits .u64) (IntKind.wrap .u64 ((BitVec.ofInt (IntKind.bits .u64) (IntKind.wrap .u64 ((BitVec.ofInt (IntKind.bits .u64) (IntKind.wrap .u64 a0.1) &&& BitVec.ofInt (IntKind.bits .u64) (255 : Int)).toNat : Int)) ||| BitVec.ofInt (IntKind.bits .u64) (shiftL .u64 (IntKind.wrap .u64 ((BitVec.ofInt (IntKind.bits .u64) (IntKind.wrap .u64 a0.2.1) &&& BitVec.ofInt (IntKind.bits .u64) (16777215 : Int)).toNat : Int)) (8 : Int))).toNat : Int)) ||| BitVec.ofInt (IntKind.bits .u64) (shiftL .u64 (IntKind.wrap .u64 a0.2.2.1) (32 : Int))).toNat : Int))
noncomputable def pointer_PackTagI : Shape := { n := 22, nx := 0, sl := [(0, .dat false (.pair (.int .i64) THead))], ob := [], fix := [], may := true }
noncomputable def pointer_PackTagO : Shape := { n := 23, nx := 0, sl := [(22, .dat true (.int .u64))], ob := [], fix := [], may := true }
noncomputable def pointer_PackTagF : ((Val (.pair (.int .i64) THead))) → Option Int := fun y => pointer_PackTag y
noncomputable def pointer_PackTagct : Ctr := ctrOf pointer_PackTagI pointer_PackTagO (fun d => d) (fun d => d) pointer_PackTagF
noncomputable def pointer_PackTagE : Env := { tf := tfE, mt := mtE, fn := fun f => none }
theorem pointer_PackTag_env : EnvOk PT pointer_PackTagE := ⟨tyE, (fun f ct h => by
  simp only [pointer_PackTagE] at h
  cases h), mapE⟩
noncomputable def pointer_PackTagC : Code := bodyOf Go.Proofs.Try.f91
noncomputable def pointer_PackTagH : Nat → Option Sum := fun n => none
theorem pointer_PackTag_bd (y : (Val (.pair (.int .i64) THead))) : @Eq (Option Int) (exec pointer_PackTagE pointer_PackTagH pointer_PackTagC (pointer_PackTagI.mk' (show pointer_PackTagI.D from y)) (kontF (Z := Int) pointer_PackTagE Go.Proofs.Try.f91.results.toList pointer_PackTagO (fun d => d))) (pointer_PackTagF y) := by kernel_rfl
theorem pointer_PackTag_lo {w0 : World} {Jo : Io} (hfix : ∀ i b, Jo.fix i = some b → i ∈ []) (hmay : true = true → Jo.may) : LoopsOk PT w0 Jo pointer_PackTagH pointer_PackTagC := (noLoops (by kernel_rfl))
theorem pointer_PackTag_ctr : CtrOk PT 91 pointer_PackTagct :=
  @ctr_ok PT pointer_PackTagE pointer_PackTagH pointer_PackTag_env mixed 91 Go.Proofs.Try.f91 pointer_PackTagC (by kernel_rfl) (by kernel_rfl) (enters_of (by kernel_rfl : PT.funcs[91]? = some Go.Proofs.Try.f91) (by kernel_rfl) (by kernel_rfl)) pointer_PackTagI pointer_PackTagO ((Val (.pair (.int .i64) THead))) Int (fun d => d) (fun d => d) (fun d => d) (fun d => d) (fun _ => rfl) (fun _ => rfl) (by kernel_rfl) (by kernel_rfl) pointer_PackTagF pointer_PackTag_bd (fun w0 Jo hfix hmay => pointer_PackTag_lo hfix hmay)

/-- bodega/pointer.tagged -/
noncomputable def pointer_tagged (a0 : Val TPage) (a1 : Val (.pair (.int .i64) THead)) : Option ((Val TPage)) :=
  (pointer_PackTag a1).bind fun r1 =>
  some (a0.1, (a0.2.1, ((List.set (List.replicate 7 (0 : Int)) 0 r1), ())))
noncomputable def pointer_taggedI : Shape := { n := 16, nx := 0, sl := [(0, .dat false TPage), (1, .dat false (.pair (.int .i64) THead))], ob := [], fix := [], may := true }
noncomputable def pointer_taggedO : Shape := { n := 17, nx := 0, sl := [(16, .dat true TPage)], ob := [], fix := [], may := true }
noncomputable def pointer_taggedF : ((Val TPage) × (Val (.pair (.int .i64) THead))) → Option ((Val TPage)) := fun y => pointer_tagged y.1 y.2
noncomputable def pointer_taggedct : Ctr := ctrOf pointer_taggedI pointer_taggedO (fun d => d) (fun d => d) pointer_taggedF
noncomputable def pointer_taggedE : Env := { tf := tfE, mt := mtE, fn := fun f => bif Nat.beq f 91 then some pointer_PackTagct else none }
theorem pointer_tagged_env : EnvOk PT pointer_taggedE := ⟨tyE, (fun f ct h => by
  simp only [pointer_taggedE] at h
  refine envCons (c := pointer_PackTagct) h pointer_PackTag_ctr (fun h => ?_)
  cases h), mapE⟩
noncomputable def pointer_taggedC : Code := bodyOf Go.Proofs.Try.f76
noncomputable def pointer_taggedH : Nat → Option Sum := fun n => none
theorem pointer_tagged_bd (y : (Val TPage) × (Val (.pair (.int .i64) THead))) : @Eq (Option ((Val TPage))) (exec pointer_taggedE pointer_taggedH pointer_taggedC (pointer_taggedI.mk' (show pointer_taggedI.D from y)) (kontF (Z := (Val TPage)) pointer_taggedE Go.Proofs.Try.f76.results.toList pointer_taggedO (fun d => d))) (pointer_taggedF y) := by kernel_rfl
theorem pointer_tagged_lo {w0 : World} {Jo : Io} (hfix : ∀ i b, Jo.fix i = some b → i ∈ []) (hmay : true = true → Jo.may) : LoopsOk PT w0 Jo pointer_taggedH pointer_taggedC := (noLoops (by kernel_rfl))
theorem pointer_tagged_ctr : CtrOk PT 76 pointer_taggedct :=
  @ctr_ok PT pointer_taggedE pointer_taggedH pointer_tagged_env mixed 76 Go.Proofs.Try.f76 pointer_taggedC (by kernel_rfl) (by kernel_rfl) (enters_of (by kernel_rfl : PT.funcs[76]? = some Go.Proofs.Try.f76) (by kernel_rfl) (by kernel_rfl)) pointer_taggedI pointer_taggedO ((Val TPage) × (Val (.pair (.int .i64) THead))) ((Val TPage)) (fun d => d) (fun d => d) (fun d => d) (fun d => d) (fun _ => rfl) (fun _ => rfl) (by kernel_rfl) (by kernel_rfl) pointer_taggedF pointer_tagged_bd (fun w0 Jo hfix hmay => pointer_tagged_lo hfix hmay)

/-- bodega/pointer.Allocate -/
noncomputable def pointer_Allocate (a0 : Val TPage) (a1 : Int) (a2 : Int) : Option ((Val TPage) × Int) :=
  (pointer_tagOf a0).bind fun r1 =>
  (pointer_inHeap a0.1).bind fun r2 =>
  bif (!r2) then (
    some (((0 : Int), ((0 : Int), ((List.replicate 7 (0 : Int)), ()))), (1 : Int)))
  else (
    bif (decide (a1 < (1 : Int))) then (
      some (((0 : Int), ((0 : Int), ((List.replicate 7 (0 : Int)), ()))), (1 : Int)))
    else (
      bif (decide ((4 : Int) < a1)) then (
        some (((0 : Int), ((0 : Int), ((List.replicate 7 (0 : Int)), ()))), (1 : Int)))
      else (
        (pointer_Locked a0).bind fun r3 =>
        bif r3 then (
          some (((0 : Int), ((0 : Int), ((List.replicate 7 (0 : Int)), ()))), (3 : Int)))
        else (
          bif (!(decide (r1.1 = (0 : Int)))) then (
            some (((0 : Int), ((0 : Int), ((List.replicate 7 (0 : Int)), ()))), (17 : Int)))
          else (
            bif (decide (r1.2.1 = (16777215 : Int))) then (
              some (((0 : Int), ((0 : Int), ((List.replicate 7 (0 : Int)), ()))), (18 : Int)))
            else (
              (pointer_tagged a0 (a1, ((IntKind.wrap .i64 (r1.2.1 + (1 : Int))), (a2, ())))).bind fun r4 =>
              some (r4, (0 : Int))))))))
noncomputable def pointer_AllocateI : Shape := { n := 47, nx := 0, sl := [(0, .dat false TPage), (1, .dat false (.int .i64)), (2, .dat false (.int .u32))], ob := [], fix := [], may := true }
noncomputable def pointer_AllocateO : Shape := { n := 48, nx := 0, sl := [(47, .tup (.cons (.dat true TPage) (.cons (.dat true (.int .i64)) (.nil))))], ob := [], fix := [], may := true }
noncomputable def pointer_AllocateF : ((Val TPage) × Int × Int) → Option ((Val TPage) × Int) := fun y => pointer_Allocate y.1 y.2.1 y.2.2
noncomputable def pointer_Allocatect : Ctr := ctrOf pointer_AllocateI pointer_AllocateO (fun d => d) (fun d => d) pointer_AllocateF
noncomputable def pointer_AllocateE : Env := { tf := tfE, mt := mtE, fn := fun f => bif Nat.beq f 74 then some pointer_tagOfct else bif Nat.beq f 75 then some pointer_inHeapct else bif Nat.beq f 73 then some pointer_Lockedct else bif Nat.beq f 76 then some pointer_taggedct else none }
theorem pointer_Allocate_env : EnvOk PT pointer_AllocateE := ⟨tyE, (fun f ct h => by
  simp only [pointer_AllocateE] at h
  refine envCons (c := pointer_tagOfct) h pointer_tagOf_ctr (fun h => ?_)
  refine envCons (c := pointer_inHeapct) h pointer_inHeap_ctr (fun h => ?_)
  refine envCons (c := pointer_Lockedct) h pointer_Locked_ctr (fun h => ?_)
  refine envCons (c := pointer_taggedct) h pointer_tagged_ctr (fun h => ?_)
  cases h), mapE⟩
noncomputable def pointer_AllocateC : Code := bodyOf Go.Proofs.Try.f45
noncomputable def pointer_AllocateH : Nat → Option Sum := fun n => none
theorem pointer_Allocate_bd (y : (Val TPage) × Int × Int) : @Eq (Option ((Val TPage) × Int)) (exec pointer_AllocateE pointer_AllocateH pointer_AllocateC (pointer_AllocateI.mk' (show pointer_AllocateI.D from y)) (kontF (Z := (Val TPage) × Int) pointer_AllocateE Go.Proofs.Try.f45.results.toList pointer_AllocateO (fun d => d))) (pointer_AllocateF y) := by kernel_rfl
theorem pointer_Allocate_lo {w0 : World} {Jo : Io} (hfix : ∀ i b, Jo.fix i = some b → i ∈ []) (hmay : true = true → Jo.may) : LoopsOk PT w0 Jo pointer_AllocateH pointer_AllocateC := (noLoops (by kernel_rfl))
theorem pointer_Allocate_ctr : CtrOk PT 45 pointer_Allocatect :=
  @ctr_ok PT pointer_AllocateE pointer_AllocateH pointer_Allocate_env mixed 45 Go.Proofs.Try.f45 pointer_AllocateC (by kernel_rfl) (by kernel_rfl) (enters_of (by kernel_rfl : PT.funcs[45]? = some Go.Proofs.Try.f45) (by kernel_rfl) (by kernel_rfl)) pointer_AllocateI pointer_AllocateO ((Val TPage) × Int × Int) ((Val TPage) × Int) (fun d => d) (fun d => d) (fun d => d) (fun d => d) (fun _ => rfl) (fun _ => rfl) (by kernel_rfl) (by kernel_rfl) pointer_AllocateF pointer_Allocate_bd (fun w0 Jo hfix hmay => pointer_Allocate_lo hfix hmay)

noncomputable def law20_SegmentWholeL1b (x0 : Int) (x1 : Int) (x2 : Int) (x3 : Int) (x4 : Int) (x5 : Int) (x6 : Val (.pair (.int .i64) THead)) (x7 : Val (.slice TPage)) : Option ((Int × Int × Int × Int × Int × Int × (Val (.pair (.int .i64) THead)) × (Val (.slice TPage))) ⊕ ((Int × Int × Int × Int × Int × (Val (.pair (.int .i64) THead)) × (Val (.slice TPage))) ⊕ (Bool))) :=
  bif (decide (x3 < x2)) then (
    (segment_Acquire (x1, ((1 : Int), (x4, ((-1 : Int), ())))) x7).bind fun r1 =>
    bif (!r1.2.2.2.2) then (
      some (Sum.inr (Sum.inr false)))
    else (
      bif (!(decide (r1.2.2.2.1 = (0 : Int)))) then (
        some (Sum.inr (Sum.inr false)))
      else (
        (heap_Heap_Commit r1.2.1 x4 x5 x6 x7).bind fun r2 =>
        some (Sum.inl (x0, (x1, (x2, ((IntKind.wrap .i64 (x3 + (1 : Int))), (r2.1, (r2.2.1, (r2.2.2.1, r2.2.2.2)))))))))))
  else (
    some (Sum.inr (Sum.inl (x0, (x1, (x2, (x4, (x5, (x6, x7)))))))))
noncomputable def law20_SegmentWholeL1B : (Int × Int × Int × Int × Int × Int × (Val (.pair (.int .i64) THead)) × (Val (.slice TPage))) → Option ((Int × Int × Int × Int × Int × Int × (Val (.pair (.int .i64) THead)) × (Val (.slice TPage))) ⊕ ((Int × Int × Int × Int × Int × (Val (.pair (.int .i64) THead)) × (Val (.slice TPage))) ⊕ (Bool))) := fun y => law20_SegmentWholeL1b y.1 y.2.1 y.2.2.1 y.2.2.2.1 y.2.2.2.2.1 y.2.2.2.2.2.1 y.2.2.2.2.2.2.1 y.2.2.2.2.2.2.2
noncomputable def law20_SegmentWholeL1 (x0 : Int) (x1 : Int) (x2 : Int) (x3 : Int) (x4 : Int) (x5 : Int) (x6 : Val (.pair (.int .i64) THead)) (x7 : Val (.slice TPage)) : Option ((Int × Int × Int × Int × Int × (Val (.pair (.int .i64) THead)) × (Val (.slice TPage))) ⊕ (Bool)) := iter law20_SegmentWholeL1B (x0, (x1, (x2, (x3, (x4, (x5, (x6, x7)))))))
noncomputable def law20_SegmentWholeL2b (x0 : Int) (x1 : Int) (x2 : Int) (x3 : Int) (x4 : Int) (x5 : Val (.slice TPage)) (x6 : Int) (x7 : Int) (x8 : Int) (x9 : Val (.pair (.int .i64) THead)) (x10 : Val (.slice TPage)) : Option ((Int × Int × Int × Int × Int × (Val (.slice TPage)) × Int × Int × Int × (Val (.pair (.int .i64) THead)) × (Val (.slice TPage))) ⊕ ((Int × Int × Int × Int × Int × Int × Int × (Val (.pair (.int .i64) THead)) × (Val (.slice TPage))) ⊕ (Bool))) :=
  bif (decide (x6 < (((List.length x5) : Nat) : Int))) then (
    bif (inR x6 (List.length x5)) then
    (pointer_Allocate (List.getD x5 (Int.toNat x6) ((0 : Int), ((0 : Int), ((List.replicate 7 (0 : Int)), ())))) (4 : Int) (0 : Int)).bind fun r1 =>
    bif (!(decide (r1.2 = (0 : Int)))) then (
      some (Sum.inr (Sum.inr false)))
    else (
      (heap_Heap_Commit [r1.1] x7 x8 x9 x10).bind fun r2 =>
      some (Sum.inl (x0, (x1, (x2, (x3, (x4, (x5, ((IntKind.wrap .i64 (x6 + (1 : Int))), (r2.1, (r2.2.1, (r2.2.2.1, r2.2.2.2))))))))))))
    else none)
  else (
    some (Sum.inr (Sum.inl (x0, (x1, (x2, (x3, (x4, (x7, (x8, (x9, x10)))))))))))
noncomputable def law20_SegmentWholeL2B : (Int × Int × Int × Int × Int × (Val (.slice TPage)) × Int × Int × Int × (Val (.pair (.int .i64) THead)) × (Val (.slice TPage))) → Option ((Int × Int × Int × Int × Int × (Val (.slice TPage)) × Int × Int × Int × (Val (.pair (.int .i64) THead)) × (Val (.slice TPage))) ⊕ ((Int × Int × Int × Int × Int × Int × Int × (Val (.pair (.int .i64) THead)) × (Val (.slice TPage))) ⊕ (Bool))) := fun y => law20_SegmentWholeL2b y.1 y.2.1 y.2.2.1 y.2.2.2.1 y.2.2.2.2.1 y.2.2.2.2.2.1 y.2.2.2.2.2.2.1 y.2.2.2.2.2.2.2.1 y.2.2.2.2.2.2.2.2.1 y.2.2.2.2.2.2.2.2.2.1 y.2.2.2.2.2.2.2.2.2.2
noncomputable def law20_SegmentWholeL2 (x0 : Int) (x1 : Int) (x2 : Int) (x3 : Int) (x4 : Int) (x5 : Val (.slice TPage)) (x6 : Int) (x7 : Int) (x8 : Int) (x9 : Val (.pair (.int .i64) THead)) (x10 : Val (.slice TPage)) : Option ((Int × Int × Int × Int × Int × Int × Int × (Val (.pair (.int .i64) THead)) × (Val (.slice TPage))) ⊕ (Bool)) := iter law20_SegmentWholeL2B (x0, (x1, (x2, (x3, (x4, (x5, (x6, (x7, (x8, (x9, x10))))))))))
noncomputable def law20_SegmentWholeL3b (x0 : Int) (x1 : Int) (x2 : Int) (x3 : Int) (x4 : Int) (x5 : Int) (x6 : Int) (x7 : Val (.pair (.int .i64) THead)) (x8 : Val (.slice TPage)) : Option ((Int × Int × Int × Int × Int × Int × Int × (Val (.pair (.int .i64) THead)) × (Val (.slice TPage))) ⊕ ((Unit) ⊕ (Bool))) :=
  bif (decide (x4 < (200 : Int))) then (
    (segment_Allocate (x0, (x5, (x3, ()))) x8).bind fun r1 =>
    bif r1.2.2.2.2 then (
      bif (decide (r1.2.2.2.1 = (12 : Int))) then (
        bif (decide ((1 : Int) < x3)) then (
          some (Sum.inl (x0, (x1, (x2, ((IntKind.wrap .i64 (x3 - (1 : Int))), ((IntKind.wrap .i64 (x4 + (1 : Int))), (x5, (x6, (x7, x8))))))))))
        else (
          bif r1.2.2.2.2 then (
            bif (decide (r1.2.2.2.1 = (12 : Int))) then (
              (law20_awake).bind fun r2 =>
              bif r2 then (
                some (Sum.inr (Sum.inr (decide (x2 = (IntKind.wrap .i64 ((15 : Int) * x1)))))))
              else (
                some (Sum.inr (Sum.inr false))))
            else (
              bif (!r1.2.2.2.2) then (
                some (Sum.inr (Sum.inr false)))
              else (
                bif (!(decide (r1.2.2.2.1 = (0 : Int)))) then (
                  some (Sum.inr (Sum.inr false)))
                else (
                  bif (!(decide ((((List.length r1.2.1) : Nat) : Int) = x3))) then (
                    some (Sum.inr (Sum.inr false)))
                  else (
                    (heap_Heap_Commit r1.2.2.1 x5 x6 x7 x8).bind fun r3 =>
                    (law20_SegmentWholeL2 x0 x1 x2 x3 x4 r1.2.1 (0 : Int) r3.1 r3.2.1 r3.2.2.1 r3.2.2.2).bind fun r4 =>
                    match r4 with
                    | .inl r5 => (
                      some (Sum.inl (r5.1, (r5.2.1, ((IntKind.wrap .i64 (r5.2.2.1 + r5.2.2.2.1)), (r5.2.2.2.1, ((IntKind.wrap .i64 (r5.2.2.2.2.1 + (1 : Int))), (r5.2.2.2.2.2.1, (r5.2.2.2.2.2.2.1, (r5.2.2.2.2.2.2.2.1, r5.2.2.2.2.2.2.2.2))))))))))
                    | .inr r6 => (
                      some (Sum.inr (Sum.inr r6))))))))
          else (
            bif (!r1.2.2.2.2) then (
              some (Sum.inr (Sum.inr false)))
            else (
              bif (!(decide (r1.2.2.2.1 = (0 : Int)))) then (
                some (Sum.inr (Sum.inr false)))
              else (
                bif (!(decide ((((List.length r1.2.1) : Nat) : Int) = x3))) then (
                  some (Sum.inr (Sum.inr false)))
                else (
                  (heap_Heap_Commit r1.2.2.1 x5 x6 x7 x8).bind fun r7 =>
                  (law20_SegmentWholeL2 x0 x1 x2 x3 x4 r1.2.1 (0 : Int) r7.1 r7.2.1 r7.2.2.1 r7.2.2.2).bind fun r8 =>
                  match r8 with
                  | .inl r9 => (
                    some (Sum.inl (r9.1, (r9.2.1, ((IntKind.wrap .i64 (r9.2.2.1 + r9.2.2.2.1)), (r9.2.2.2.1, ((IntKind.wrap .i64 (r9.2.2.2.2.1 + (1 : Int))), (r9.2.2.2.2.2.1, (r9.2.2.2.2.2.2.1, (r9.2.2.2.2.2.2.2.1, r9.2.2.2.2.2.2.2.2))))))))))
                  | .inr r10 => (
                    some (Sum.inr (Sum.inr r10)))))))))
      else (
        bif r1.2.2.2.2 then (
          bif (decide (r1.2.2.2.1 = (12 : Int))) then (
            (law20_awake).bind fun r11 =>
            bif r11 then (
              some (Sum.inr (Sum.inr (decide (x2 = (IntKind.wrap .i64 ((15 : Int) * x1)))))))
            else (
              some (Sum.inr (Sum.inr false))))
          else (
            bif (!r1.2.2.2.2) then (
              some (Sum.inr (Sum.inr false)))
            else (
              bif (!(decide (r1.2.2.2.1 = (0 : Int)))) then (
                some (Sum.inr (Sum.inr false)))
              else (
                bif (!(decide ((((List.length r1.2.1) : Nat) : Int) = x3))) then (
                  some (Sum.inr (Sum.inr false)))
                else (
                  (heap_Heap_Commit r1.2.2.1 x5 x6 x7 x8).bind fun r12 =>
                  (law20_SegmentWholeL2 x0 x1 x2 x3 x4 r1.2.1 (0 : Int) r12.1 r12.2.1 r12.2.2.1 r12.2.2.2).bind fun r13 =>
                  match r13 with
                  | .inl r14 => (
                    some (Sum.inl (r14.1, (r14.2.1, ((IntKind.wrap .i64 (r14.2.2.1 + r14.2.2.2.1)), (r14.2.2.2.1, ((IntKind.wrap .i64 (r14.2.2.2.2.1 + (1 : Int))), (r14.2.2.2.2.2.1, (r14.2.2.2.2.2.2.1, (r14.2.2.2.2.2.2.2.1, r14.2.2.2.2.2.2.2.2))))))))))
                  | .inr r15 => (
                    some (Sum.inr (Sum.inr r15))))))))
        else (
          bif (!r1.2.2.2.2) then (
            some (Sum.inr (Sum.inr false)))
          else (
            bif (!(decide (r1.2.2.2.1 = (0 : Int)))) then (
              some (Sum.inr (Sum.inr false)))
            else (
              bif (!(decide ((((List.length r1.2.1) : Nat) : Int) = x3))) then (
                some (Sum.inr (Sum.inr false)))
              else (
                (heap_Heap_Commit r1.2.2.1 x5 x6 x7 x8).bind fun r16 =>
                (law20_SegmentWholeL2 x0 x1 x2 x3 x4 r1.2.1 (0 : Int) r16.1 r16.2.1 r16.2.2.1 r16.2.2.2).bind fun r17 =>
                match r17 with
                | .inl r18 => (
                  some (Sum.inl (r18.1, (r18.2.1, ((IntKind.wrap .i64 (r18.2.2.1 + r18.2.2.2.1)), (r18.2.2.2.1, ((IntKind.wrap .i64 (r18.2.2.2.2.1 + (1 : Int))), (r18.2.2.2.2.2.1, (r18.2.2.2.2.2.2.1, (r18.2.2.2.2.2.2.2.1, r18.2.2.2.2.2.2.2.2))))))))))
                | .inr r19 => (
                  some (Sum.inr (Sum.inr r19)))))))))
    else (
      bif r1.2.2.2.2 then (
        bif (decide (r1.2.2.2.1 = (12 : Int))) then (
          (law20_awake).bind fun r20 =>
          bif r20 then (
            some (Sum.inr (Sum.inr (decide (x2 = (IntKind.wrap .i64 ((15 : Int) * x1)))))))
          else (
            some (Sum.inr (Sum.inr false))))
        else (
          bif (!r1.2.2.2.2) then (
            some (Sum.inr (Sum.inr false)))
          else (
            bif (!(decide (r1.2.2.2.1 = (0 : Int)))) then (
              some (Sum.inr (Sum.inr false)))
            else (
              bif (!(decide ((((List.length r1.2.1) : Nat) : Int) = x3))) then (
                some (Sum.inr (Sum.inr false)))
              else (
                (heap_Heap_Commit r1.2.2.1 x5 x6 x7 x8).bind fun r21 =>
                (law20_SegmentWholeL2 x0 x1 x2 x3 x4 r1.2.1 (0 : Int) r21.1 r21.2.1 r21.2.2.1 r21.2.2.2).bind fun r22 =>
                match r22 with
                | .inl r23 => (
                  some (Sum.inl (r23.1, (r23.2.1, ((IntKind.wrap .i64 (r23.2.2.1 + r23.2.2.2.1)), (r23.2.2.2.1, ((IntKind.wrap .i64 (r23.2.2.2.2.1 + (1 : Int))), (r23.2.2.2.2.2.1, (r23.2.2.2.2.2.2.1, (r23.2.2.2.2.2.2.2.1, r23.2.2.2.2.2.2.2.2))))))))))
                | .inr r24 => (
                  some (Sum.inr (Sum.inr r24))))))))
      else (
        bif (!r1.2.2.2.2) then (
          some (Sum.inr (Sum.inr false)))
        else (
          bif (!(decide (r1.2.2.2.1 = (0 : Int)))) then (
            some (Sum.inr (Sum.inr false)))
          else (
            bif (!(decide ((((List.length r1.2.1) : Nat) : Int) = x3))) then (
              some (Sum.inr (Sum.inr false)))
            else (
              (heap_Heap_Commit r1.2.2.1 x5 x6 x7 x8).bind fun r25 =>
              (law20_SegmentWholeL2 x0 x1 x2 x3 x4 r1.2.1 (0 : Int) r25.1 r25.2.1 r25.2.2.1 r25.2.2.2).bind fun r26 =>
              match r26 with
              | .inl r27 => (
                some (Sum.inl (r27.1, (r27.2.1, ((IntKind.wrap .i64 (r27.2.2.1 + r27.2.2.2.1)), (r27.2.2.2.1, ((IntKind.wrap .i64 (r27.2.2.2.2.1 + (1 : Int))), (r27.2.2.2.2.2.1, (r27.2.2.2.2.2.2.1, (r27.2.2.2.2.2.2.2.1, r27.2.2.2.2.2.2.2.2))))))))))
              | .inr r28 => (
                some (Sum.inr (Sum.inr r28)))))))))
  else (
    some (Sum.inr (Sum.inl ())))
noncomputable def law20_SegmentWholeL3B : (Int × Int × Int × Int × Int × Int × Int × (Val (.pair (.int .i64) THead)) × (Val (.slice TPage))) → Option ((Int × Int × Int × Int × Int × Int × Int × (Val (.pair (.int .i64) THead)) × (Val (.slice TPage))) ⊕ ((Unit) ⊕ (Bool))) := fun y => law20_SegmentWholeL3b y.1 y.2.1 y.2.2.1 y.2.2.2.1 y.2.2.2.2.1 y.2.2.2.2.2.1 y.2.2.2.2.2.2.1 y.2.2.2.2.2.2.2.1 y.2.2.2.2.2.2.2.2
noncomputable def law20_SegmentWholeL3 (x0 : Int) (x1 : Int) (x2 : Int) (x3 : Int) (x4 : Int) (x5 : Int) (x6 : Int) (x7 : Val (.pair (.int .i64) THead)) (x8 : Val (.slice TPage)) : Option ((Unit) ⊕ (Bool)) := iter law20_SegmentWholeL3B (x0, (x1, (x2, (x3, (x4, (x5, (x6, (x7, x8))))))))
/-- bodega/bodegalaw20.SegmentWhole -/
noncomputable def law20_SegmentWhole (a0 : Int) (a1 : Int) (a2 : Int) : Option Bool :=
  (heap_Size a0).bind fun r1 =>
  (heap_New r1).bind fun r2 =>
  (hand_Pick a1 (6 : Int)).bind fun r3 =>
  (segment_Count r2.1).bind fun r4 =>
  (law20_SegmentWholeL1 a2 r3 r4 (0 : Int) r2.1 r2.2.1 r2.2.2.1 r2.2.2.2).bind fun r5 =>
  match r5 with
  | .inl r6 => (
    (hand_Pick r6.1 (3 : Int)).bind fun r8 =>
    (law20_SegmentWholeL3 r6.2.1 r6.2.2.1 (0 : Int) (IntKind.wrap .i64 ((1 : Int) + r8)) (0 : Int) r6.2.2.2.1 r6.2.2.2.2.1 r6.2.2.2.2.2.1 r6.2.2.2.2.2.2).bind fun r9 =>
    match r9 with
    | .inl r10 => (
      some false)
    | .inr r11 => (
      some r11))
  | .inr r7 => (
    some r7)
noncomputable def law20_SegmentWholeI : Shape := { n := 154, nx := 0, sl := [(0, .dat false (.int .i64)), (1, .dat false (.int .i64)), (2, .dat false (.int .i64))], ob := [], fix := [], may := true }
noncomputable def law20_SegmentWholeO : Shape := { n := 155, nx := 0, sl := [(154, .dat true .bool)], ob := [], fix := [], may := true }
noncomputable def law20_SegmentWholeF : (Int × Int × Int) → Option Bool := fun y => law20_SegmentWhole y.1 y.2.1 y.2.2
noncomputable def law20_SegmentWholect : Ctr := ctrOf law20_SegmentWholeI law20_SegmentWholeO (fun d => d) (fun d => d) law20_SegmentWholeF
noncomputable def law20_SegmentWholeE : Env := { tf := tfE, mt := mtE, fn := fun f => bif Nat.beq f 41 then some heap_Sizect else bif Nat.beq f 40 then some heap_Newct else bif Nat.beq f 10 then some hand_Pickct else bif Nat.beq f 34 then some segment_Countct else bif Nat.beq f 42 then some segment_Acquirect else bif Nat.beq f 43 then some heap_Heap_Commitct else bif Nat.beq f 44 then some segment_Allocatect else bif Nat.beq f 24 then some law20_awakect else bif Nat.beq f 45 then some pointer_Allocatect else none }
theorem law20_SegmentWhole_env : EnvOk PT law20_SegmentWholeE := ⟨tyE, (fun f ct h => by
  simp only [law20_SegmentWholeE] at h
  refine envCons (c := heap_Sizect) h heap_Size_ctr (fun h => ?_)
  refine envCons (c := heap_Newct) h heap_New_ctr (fun h => ?_)
  refine envCons (c := hand_Pickct) h hand_Pick_ctr (fun h => ?_)
  refine envCons (c := segment_Countct) h segment_Count_ctr (fun h => ?_)
  refine envCons (c := segment_Acquirect) h segment_Acquire_ctr (fun h => ?_)
  refine envCons (c := heap_Heap_Commitct) h heap_Heap_Commit_ctr (fun h => ?_)
  refine envCons (c := segment_Allocatect) h segment_Allocate_ctr (fun h => ?_)
  refine envCons (c := law20_awakect) h law20_awake_ctr (fun h => ?_)
  refine envCons (c := pointer_Allocatect) h pointer_Allocate_ctr (fun h => ?_)
  cases h), mapE⟩
noncomputable def law20_SegmentWholeC : Code := bodyOf Go.Proofs.Try.f8
noncomputable def law20_SegmentWholeL1C : Code := (loopsOf law20_SegmentWholeC).getD 0 .skip
noncomputable def law20_SegmentWholeL3C : Code := (loopsOf law20_SegmentWholeC).getD 1 .skip
noncomputable def law20_SegmentWholeL2C : Code := (loopsOf law20_SegmentWholeC).getD 2 .skip
noncomputable def law20_SegmentWholeL1S : Shape := { n := 154, nx := 2, sl := [(2, .dat false (.int .i64)), (7, .ref 0 []), (8, .dat true (.int .i64)), (9, .dat true (.int .i64)), (10, .dat true (.int .i64))], ob := [(0, .box (.pair (.slice TPage) (.pair (.int .i64) (.pair (.int .i64) (.pair (.slice (.pair (.int .u32) (.pair (.arr 3 (.int .i64)) .unit))) (.pair (.pair (.int .i64) THead) .unit))))) (.cons (.own TPage 1) (.cons (.dat false (.int .i64)) (.cons (.dat false (.int .i64)) (.cons (.nils) (.cons (.dat false (.pair (.int .i64) THead)) (.nil))))))), (1, .slc true TPage)], fix := [], may := true }
noncomputable def law20_SegmentWholeL1O : List (Ex × Shape) := [(.exit 0, { n := 154, nx := 2, sl := [(2, .dat false (.int .i64)), (7, .ref 0 []), (8, .dat true (.int .i64)), (9, .dat true (.int .i64))], ob := [(0, .box (.pair (.slice TPage) (.pair (.int .i64) (.pair (.int .i64) (.pair (.slice (.pair (.int .u32) (.pair (.arr 3 (.int .i64)) .unit))) (.pair (.pair (.int .i64) THead) .unit))))) (.cons (.own TPage 1) (.cons (.dat false (.int .i64)) (.cons (.dat false (.int .i64)) (.cons (.nils) (.cons (.dat false (.pair (.int .i64) THead)) (.nil))))))), (1, .slc true TPage)], fix := [], may := true }), (.ret, { n := 154, nx := 0, sl := [(6, .dat true .bool)], ob := [], fix := [], may := true })]
noncomputable def law20_SegmentWholeL1M : Sum := loopSum (Y := Int × Int × Int × Int × Int × Int × (Val (.pair (.int .i64) THead)) × (Val (.slice TPage))) (Z := (Int × Int × Int × Int × Int × (Val (.pair (.int .i64) THead)) × (Val (.slice TPage))) ⊕ (Bool)) law20_SegmentWholeL1S law20_SegmentWholeL1O (fun d => d) (fun d => d) (iter law20_SegmentWholeL1B)
noncomputable def law20_SegmentWholeL2S : Shape := { n := 154, nx := 2, sl := [(7, .ref 0 []), (8, .dat true (.int .i64)), (9, .dat true (.int .i64)), (16, .dat true (.int .i64)), (17, .dat true (.int .i64)), (18, .dat true (.int .i64)), (20, .dat true (.slice TPage)), (24, .dat true (.int .i64))], ob := [(0, .box (.pair (.slice TPage) (.pair (.int .i64) (.pair (.int .i64) (.pair (.slice (.pair (.int .u32) (.pair (.arr 3 (.int .i64)) .unit))) (.pair (.pair (.int .i64) THead) .unit))))) (.cons (.own TPage 1) (.cons (.dat false (.int .i64)) (.cons (.dat false (.int .i64)) (.cons (.nils) (.cons (.dat false (.pair (.int .i64) THead)) (.nil))))))), (1, .slc true TPage)], fix := [], may := true }
noncomputable def law20_SegmentWholeL2O : List (Ex × Shape) := [(.exit 4, { n := 154, nx := 2, sl := [(7, .ref 0 []), (8, .dat true (.int .i64)), (9, .dat true (.int .i64)), (16, .dat true (.int .i64)), (17, .dat true (.int .i64)), (18, .dat true (.int .i64))], ob := [(0, .box (.pair (.slice TPage) (.pair (.int .i64) (.pair (.int .i64) (.pair (.slice (.pair (.int .u32) (.pair (.arr 3 (.int .i64)) .unit))) (.pair (.pair (.int .i64) THead) .unit))))) (.cons (.own TPage 1) (.cons (.dat false (.int .i64)) (.cons (.dat false (.int .i64)) (.cons (.nils) (.cons (.dat false (.pair (.int .i64) THead)) (.nil))))))), (1, .slc true TPage)], fix := [], may := true }), (.ret, { n := 154, nx := 0, sl := [(6, .dat true .bool)], ob := [], fix := [], may := true })]
noncomputable def law20_SegmentWholeL2M : Sum := loopSum (Y := Int × Int × Int × Int × Int × (Val (.slice TPage)) × Int × Int × Int × (Val (.pair (.int .i64) THead)) × (Val (.slice TPage))) (Z := (Int × Int × Int × Int × Int × Int × Int × (Val (.pair (.int .i64) THead)) × (Val (.slice TPage))) ⊕ (Bool)) law20_SegmentWholeL2S law20_SegmentWholeL2O (fun d => d) (fun d => d) (iter law20_SegmentWholeL2B)
noncomputable def law20_SegmentWholeL3S : Shape := { n := 154, nx := 2, sl := [(7, .ref 0 []), (8, .dat true (.int .i64)), (9, .dat true (.int .i64)), (16, .dat true (.int .i64)), (17, .dat true (.int .i64)), (18, .dat true (.int .i64))], ob := [(0, .box (.pair (.slice TPage) (.pair (.int .i64) (.pair (.int .i64) (.pair (.slice (.pair (.int .u32) (.pair (.arr 3 (.int .i64)) .unit))) (.pair (.pair (.int .i64) THead) .unit))))) (.cons (.own TPage 1) (.cons (.dat false (.int .i64)) (.cons (.dat false (.int .i64)) (.cons (.nils) (.cons (.dat false (.pair (.int .i64) THead)) (.nil))))))), (1, .slc true TPage)], fix := [], may := true }
noncomputable def law20_SegmentWholeL3O : List (Ex × Shape) := [(.exit 2, { n := 154, nx := 0, sl := [], ob := [], fix := [], may := true }), (.ret, { n := 154, nx := 0, sl := [(6, .dat true .bool)], ob := [], fix := [], may := true })]
noncomputable def law20_SegmentWholeL3M : Sum := loopSum (Y := Int × Int × Int × Int × Int × Int × Int × (Val (.pair (.int .i64) THead)) × (Val (.slice TPage))) (Z := (Unit) ⊕ (Bool)) law20_SegmentWholeL3S law20_SegmentWholeL3O (fun d => d) (fun d => d) (iter law20_SegmentWholeL3B)
noncomputable def law20_SegmentWholeH : Nat → Option Sum := fun n => bif Nat.beq n 5 then some law20_SegmentWholeL1M else bif Nat.beq n 25 then some law20_SegmentWholeL2M else bif Nat.beq n 14 then some law20_SegmentWholeL3M else none
theorem law20_SegmentWholeL1_bd (y : Int × Int × Int × Int × Int × Int × (Val (.pair (.int .i64) THead)) × (Val (.slice TPage))) : @Eq (Option ((Int × Int × Int × Int × Int × Int × (Val (.pair (.int .i64) THead)) × (Val (.slice TPage))) ⊕ ((Int × Int × Int × Int × Int × (Val (.pair (.int .i64) THead)) × (Val (.slice TPage))) ⊕ (Bool)))) (exec law20_SegmentWholeE law20_SegmentWholeH law20_SegmentWholeL1C (law20_SegmentWholeL1S.mk' (show law20_SegmentWholeL1S.D from y)) (kont (Y := Int × Int × Int × Int × Int × Int × (Val (.pair (.int .i64) THead)) × (Val (.slice TPage))) (Z := (Int × Int × Int × Int × Int × (Val (.pair (.int .i64) THead)) × (Val (.slice TPage))) ⊕ (Bool)) law20_SegmentWholeL1S law20_SegmentWholeL1O (fun d => d) (fun d => d))) (law20_SegmentWholeL1B y) := by kernel_rfl
theorem law20_SegmentWholeL1_ok {w0 : World} {Jo : Io} (hfix : ∀ i b, Jo.fix i = some b → i ∈ []) (hmay : true = true → Jo.may) : SumOk PT w0 Jo law20_SegmentWholeL1M (.loop law20_SegmentWholeL1C) :=
  @loop_ok w0 Jo PT law20_SegmentWholeE law20_SegmentWholeH (Int × Int × Int × Int × Int × Int × (Val (.pair (.int .i64) THead)) × (Val (.slice TPage))) ((Int × Int × Int × Int × Int × (Val (.pair (.int .i64) THead)) × (Val (.slice TPage))) ⊕ (Bool)) law20_SegmentWhole_env mixed law20_SegmentWholeL1C law20_SegmentWholeL1S law20_SegmentWholeL1O (fun d => d) (fun d => d) (fun d => d) (fun d => d) (fun _ => rfl) (fun _ => rfl) hfix hmay (by kernel_rfl) (noLoops (by kernel_rfl)) law20_SegmentWholeL1B law20_SegmentWholeL1_bd
theorem law20_SegmentWholeL2_bd (y : Int × Int × Int × Int × Int × (Val (.slice TPage)) × Int × Int × Int × (Val (.pair (.int .i64) THead)) × (Val (.slice TPage))) : @Eq (Option ((Int × Int × Int × Int × Int × (Val (.slice TPage)) × Int × Int × Int × (Val (.pair (.int .i64) THead)) × (Val (.slice TPage))) ⊕ ((Int × Int × Int × Int × Int × Int × Int × (Val (.pair (.int .i64) THead)) × (Val (.slice TPage))) ⊕ (Bool)))) (exec law20_SegmentWholeE law20_SegmentWholeH law20_SegmentWholeL2C (law20_SegmentWholeL2S.mk' (show law20_SegmentWholeL2S.D from y)) (kont (Y := Int × Int × Int × Int × Int × (Val (.slice TPage)) × Int × Int × Int × (Val (.pair (.int .i64) THead)) × (Val (.slice TPage))) (Z := (Int × Int × Int × Int × Int × Int × Int × (Val (.pair (.int .i64) THead)) × (Val (.slice TPage))) ⊕ (Bool)) law20_SegmentWholeL2S law20_SegmentWholeL2O (fun d => d) (fun d => d))) (law20_SegmentWholeL2B y) := by kernel_rfl
theorem law20_SegmentWholeL2_ok {w0 : World} {Jo : Io} (hfix : ∀ i b, Jo.fix i = some b → i ∈ []) (hmay : true = true → Jo.may) : SumOk PT w0 Jo law20_SegmentWholeL2M (.loop law20_SegmentWholeL2C) :=
  @loop_ok w0 Jo PT law20_SegmentWholeE law20_SegmentWholeH (Int × Int × Int × Int × Int × (Val (.slice TPage)) × Int × Int × Int × (Val (.pair (.int .i64) THead)) × (Val (.slice TPage))) ((Int × Int × Int × Int × Int × Int × Int × (Val (.pair (.int .i64) THead)) × (Val (.slice TPage))) ⊕ (Bool)) law20_SegmentWhole_env mixed law20_SegmentWholeL2C law20_SegmentWholeL2S law20_SegmentWholeL2O (fun d => d) (fun d => d) (fun d => d) (fun d => d) (fun _ => rfl) (fun _ => rfl) hfix hmay (by kernel_rfl) (noLoops (by kernel_rfl)) law20_SegmentWholeL2B law20_SegmentWholeL2_bd
theorem law20_SegmentWholeL3_bd (y : Int × Int × Int × Int × Int × Int × Int × (Val (.pair (.int .i64) THead)) × (Val (.slice TPage))) : @Eq (Option ((Int × Int × Int × Int × Int × Int × Int × (Val (.pair (.int .i64) THead)) × (Val (.slice TPage))) ⊕ ((Unit) ⊕ (Bool)))) (exec law20_SegmentWholeE law20_SegmentWholeH law20_SegmentWholeL3C (law20_SegmentWholeL3S.mk' (show law20_SegmentWholeL3S.D from y)) (kont (Y := Int × Int × Int × Int × Int × Int × Int × (Val (.pair (.int .i64) THead)) × (Val (.slice TPage))) (Z := (Unit) ⊕ (Bool)) law20_SegmentWholeL3S law20_SegmentWholeL3O (fun d => d) (fun d => d))) (law20_SegmentWholeL3B y) := by kernel_rfl
theorem law20_SegmentWholeL3_ok {w0 : World} {Jo : Io} (hfix : ∀ i b, Jo.fix i = some b → i ∈ []) (hmay : true = true → Jo.may) : SumOk PT w0 Jo law20_SegmentWholeL3M (.loop law20_SegmentWholeL3C) :=
  @loop_ok w0 Jo PT law20_SegmentWholeE law20_SegmentWholeH (Int × Int × Int × Int × Int × Int × Int × (Val (.pair (.int .i64) THead)) × (Val (.slice TPage))) ((Unit) ⊕ (Bool)) law20_SegmentWhole_env mixed law20_SegmentWholeL3C law20_SegmentWholeL3S law20_SegmentWholeL3O (fun d => d) (fun d => d) (fun d => d) (fun d => d) (fun _ => rfl) (fun _ => rfl) hfix hmay (by kernel_rfl) (loopsMk (by kernel_rfl) (loopsCons (c := law20_SegmentWholeL2C) (n := 25) (f := law20_SegmentWholeL2M) (by kernel_rfl) (by kernel_rfl) (law20_SegmentWholeL2_ok hfix hmay) loopsNil)) law20_SegmentWholeL3B law20_SegmentWholeL3_bd
theorem law20_SegmentWhole_bd (y : Int × Int × Int) : @Eq (Option Bool) (exec law20_SegmentWholeE law20_SegmentWholeH law20_SegmentWholeC (law20_SegmentWholeI.mk' (show law20_SegmentWholeI.D from y)) (kontF (Z := Bool) law20_SegmentWholeE Go.Proofs.Try.f8.results.toList law20_SegmentWholeO (fun d => d))) (law20_SegmentWholeF y) := by kernel_rfl
theorem law20_SegmentWhole_lo {w0 : World} {Jo : Io} (hfix : ∀ i b, Jo.fix i = some b → i ∈ []) (hmay : true = true → Jo.may) : LoopsOk PT w0 Jo law20_SegmentWholeH law20_SegmentWholeC := (loopsMk (by kernel_rfl) (loopsCons (c := law20_SegmentWholeL1C) (n := 5) (f := law20_SegmentWholeL1M) (by kernel_rfl) (by kernel_rfl) (law20_SegmentWholeL1_ok hfix hmay) (loopsCons (c := law20_SegmentWholeL3C) (n := 14) (f := law20_SegmentWholeL3M) (by kernel_rfl) (by kernel_rfl) (law20_SegmentWholeL3_ok hfix hmay) (loopsCons (c := law20_SegmentWholeL2C) (n := 25) (f := law20_SegmentWholeL2M) (by kernel_rfl) (by kernel_rfl) (law20_SegmentWholeL2_ok hfix hmay) loopsNil))))
theorem law20_SegmentWhole_ctr : CtrOk PT 8 law20_SegmentWholect :=
  @ctr_ok PT law20_SegmentWholeE law20_SegmentWholeH law20_SegmentWhole_env mixed 8 Go.Proofs.Try.f8 law20_SegmentWholeC (by kernel_rfl) (by kernel_rfl) (enters_of (by kernel_rfl : PT.funcs[8]? = some Go.Proofs.Try.f8) (by kernel_rfl) (by kernel_rfl)) law20_SegmentWholeI law20_SegmentWholeO (Int × Int × Int) Bool (fun d => d) (fun d => d) (fun d => d) (fun d => d) (fun _ => rfl) (fun _ => rfl) (by kernel_rfl) (by kernel_rfl) law20_SegmentWholeF law20_SegmentWhole_bd (fun w0 Jo hfix hmay => law20_SegmentWhole_lo hfix hmay)

end Go.Sx

set_option linter.unusedVariables false
set_option maxRecDepth 100000
namespace Go.Sx
open Go.RowKit
end Go.Sx

