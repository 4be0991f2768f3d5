/- C24: printed by a program of this session: the functions of the seat as plain functions, and that the code comes to them. -/
import Derived.Test.YteghkndbngddgaaA0
import Derived.Test.YteghkndbngddgaaPuA
set_option linter.unusedVariables false
set_option maxRecDepth 100000
namespace Go.Sx
noncomputable def heap_NewL1bc (x0 : Int) (x1 : Int) (x2 : Int) (x3 : Int) (x4 : Val (.pair (.int .i64) THead)) (x5 : Val (.slice TPage)) : Option ((Int × Int × Int × Int × (Val (.pair (.int .i64) THead)) × (Val (.slice TPage))) ⊕ (Int × Int × (Val (.pair (.int .i64) THead)) × (Val (.slice TPage)))) :=
  bif (decide (x1 < x0)) then (
    bif (decide (((List.length x5) + 1) ≤ lim)) then
    some (Sum.inl (x0, ((IntKind.wrap .i64 (x1 + (1 : Int))), (x2, (x3, (x4, (x5 ++ [(x1, ((256 : Int), ((List.replicate 7 (0 : Int)), ())))])))))))
    else none)
  else (
    some (Sum.inr (x2, (x3, (x4, x5)))))
noncomputable def heap_NewL1c (x0 : Int) (x1 : Int) (x2 : Int) (x3 : Int) (x4 : Val (.pair (.int .i64) THead)) (x5 : Val (.slice TPage)) : Option (Int × Int × (Val (.pair (.int .i64) THead)) × (Val (.slice TPage))) := iterN (fun y : Int × Int × Int × Int × (Val (.pair (.int .i64) THead)) × (Val (.slice TPage)) => heap_NewL1bc y.1 y.2.1 y.2.2.1 y.2.2.2.1 y.2.2.2.2.1 y.2.2.2.2.2) 200 (x0, (x1, (x2, (x3, (x4, x5)))))
theorem heap_NewL1_le (x0 : Int) (x1 : Int) (x2 : Int) (x3 : Int) (x4 : Val (.pair (.int .i64) THead)) (x5 : Val (.slice TPage)) : Le (heap_NewL1c x0 x1 x2 x3 x4 x5) (heap_NewL1 x0 x1 x2 x3 x4 x5) :=
  .iter fun y => show Le (heap_NewL1bc y.1 y.2.1 y.2.2.1 y.2.2.2.1 y.2.2.2.2.1 y.2.2.2.2.2) (heap_NewL1b y.1 y.2.1 y.2.2.1 y.2.2.2.1 y.2.2.2.2.1 y.2.2.2.2.2) from by unfold heap_NewL1bc heap_NewL1b; exact .refl
noncomputable def heap_Newc (a0 : Int) : Option (Int × Int × (Val (.pair (.int .i64) THead)) × (Val (.slice TPage))) :=
  (heap_NewL1c a0 (96 : Int) a0 (0 : Int) ((1 : Int), ((0 : Int), ((1 : Int), ()))) []).bind fun r1 =>
  some (r1.1, (r1.2.1, (r1.2.2.1, r1.2.2.2)))
theorem heap_New_le (a0 : Int) : Le (heap_Newc a0) (heap_New a0) := by unfold heap_Newc heap_New; exact (.bind (heap_NewL1_le _ _ _ _ _ _) fun _ => .refl)
noncomputable def pointer_LatestL1bc (x0 : Val (.slice TPage)) (x1 : Int) (x2 : Int) (x3 : Val TPage) : Option (((Val (.slice TPage)) × Int × Int × (Val TPage)) ⊕ (((Val TPage)) ⊕ (Bool × (Val TPage)))) :=
  bif (decide ((0 : Int) ≤ x2)) then (
    bif (inR x2 (List.length x0)) then
    bif (decide ((List.getD x0 (Int.toNat x2) ((0 : Int), ((0 : Int), ((List.replicate 7 (0 : Int)), ())))).1 = x1)) then (
      bif (inR x2 (List.length x0)) then
      some (Sum.inr (Sum.inr (true, (List.getD x0 (Int.toNat x2) ((0 : Int), ((0 : Int), ((List.replicate 7 (0 : Int)), ())))))))
      else none)
    else (
      some (Sum.inl (x0, (x1, ((IntKind.wrap .i64 (x2 - (1 : Int))), x3)))))
    else none)
  else (
    some (Sum.inr (Sum.inl x3)))
noncomputable def pointer_LatestL1c (x0 : Val (.slice TPage)) (x1 : Int) (x2 : Int) (x3 : Val TPage) : Option (((Val TPage)) ⊕ (Bool × (Val TPage))) := iterN (fun y : (Val (.slice TPage)) × Int × Int × (Val TPage) => pointer_LatestL1bc y.1 y.2.1 y.2.2.1 y.2.2.2) 200 (x0, (x1, (x2, x3)))
theorem pointer_LatestL1_le (x0 : Val (.slice TPage)) (x1 : Int) (x2 : Int) (x3 : Val TPage) : Le (pointer_LatestL1c x0 x1 x2 x3) (pointer_LatestL1 x0 x1 x2 x3) :=
  .iter fun y => show Le (pointer_LatestL1bc y.1 y.2.1 y.2.2.1 y.2.2.2) (pointer_LatestL1b y.1 y.2.1 y.2.2.1 y.2.2.2) from by unfold pointer_LatestL1bc pointer_LatestL1b; exact .refl
noncomputable def pointer_Latestc (a0 : Val (.slice TPage)) (a1 : Int) : Option ((Val TPage) × Bool) :=
  (pointer_LatestL1c a0 a1 (IntKind.wrap .i64 ((((List.length a0) : Nat) : Int) - (1 : Int))) ((0 : Int), ((0 : Int), ((List.replicate 7 (0 : Int)), ())))).bind fun r1 =>
  match r1 with
  | .inl r2 => (
    some (((0 : Int), ((0 : Int), ((List.replicate 7 (0 : Int)), ()))), false))
  | .inr r3 => (
    some (r3.2, r3.1))
theorem pointer_Latest_le (a0 : Val (.slice TPage)) (a1 : Int) : Le (pointer_Latestc a0 a1) (pointer_Latest a0 a1) := by unfold pointer_Latestc pointer_Latest; exact (.bind (pointer_LatestL1_le _ _ _ _) fun _ => .refl)
noncomputable def slices_insertionSortOrdered_intL1bc (x0 : Int) (x1 : Int) (x2 : Int) (x3 : Int) (x4 : Val (.slice (.int .i64))) : Option ((Int × Int × Int × Int × (Val (.slice (.int .i64)))) ⊕ (Int × Int × Int × (Val (.slice (.int .i64))))) :=
  bif (decide (x0 < x3)) then (
    bif (inR x3 (List.length x4)) then
    bif (inR (IntKind.wrap .i64 (x3 - (1 : Int))) (List.length x4)) then
    (cmp_Less_int (List.getD x4 (Int.toNat x3) (0 : Int)) (List.getD x4 (Int.toNat (IntKind.wrap .i64 (x3 - (1 : Int)))) (0 : Int))).bind fun r1 =>
    bif r1 then (
      bif (inR (IntKind.wrap .i64 (x3 - (1 : Int))) (List.length x4)) then
      bif (inR x3 (List.length x4)) then
      bif (inR x3 (List.length x4)) then
      bif (inR (IntKind.wrap .i64 (x3 - (1 : Int))) (List.length (List.set x4 (Int.toNat x3) (List.getD x4 (Int.toNat (IntKind.wrap .i64 (x3 - (1 : Int)))) (0 : Int))))) then
      some (Sum.inl (x0, (x1, (x2, ((IntKind.wrap .i64 (x3 - (1 : Int))), (List.set (List.set x4 (Int.toNat x3) (List.getD x4 (Int.toNat (IntKind.wrap .i64 (x3 - (1 : Int)))) (0 : Int))) (Int.toNat (IntKind.wrap .i64 (x3 - (1 : Int)))) (List.getD x4 (Int.toNat x3) (0 : Int))))))))
      else none
      else none
      else none
      else none)
    else (
      some (Sum.inr (x0, (x1, (x2, x4)))))
    else none
    else none)
  else (
    some (Sum.inr (x0, (x1, (x2, x4)))))
noncomputable def slices_insertionSortOrdered_intL1c (x0 : Int) (x1 : Int) (x2 : Int) (x3 : Int) (x4 : Val (.slice (.int .i64))) : Option (Int × Int × Int × (Val (.slice (.int .i64)))) := iterN (fun y : Int × Int × Int × Int × (Val (.slice (.int .i64))) => slices_insertionSortOrdered_intL1bc y.1 y.2.1 y.2.2.1 y.2.2.2.1 y.2.2.2.2) 200 (x0, (x1, (x2, (x3, x4))))
theorem slices_insertionSortOrdered_intL1_le (x0 : Int) (x1 : Int) (x2 : Int) (x3 : Int) (x4 : Val (.slice (.int .i64))) : Le (slices_insertionSortOrdered_intL1c x0 x1 x2 x3 x4) (slices_insertionSortOrdered_intL1 x0 x1 x2 x3 x4) :=
  .iter fun y => show Le (slices_insertionSortOrdered_intL1bc y.1 y.2.1 y.2.2.1 y.2.2.2.1 y.2.2.2.2) (slices_insertionSortOrdered_intL1b y.1 y.2.1 y.2.2.1 y.2.2.2.1 y.2.2.2.2) from by unfold slices_insertionSortOrdered_intL1bc slices_insertionSortOrdered_intL1b; exact .refl
noncomputable def slices_insertionSortOrdered_intL2bc (x0 : Int) (x1 : Int) (x2 : Int) (x3 : Val (.slice (.int .i64))) : Option ((Int × Int × Int × (Val (.slice (.int .i64)))) ⊕ ((Val (.slice (.int .i64))))) :=
  bif (decide (x2 < x1)) then (
    (slices_insertionSortOrdered_intL1c x0 x1 x2 x2 x3).bind fun r1 =>
    some (Sum.inl (r1.1, (r1.2.1, ((IntKind.wrap .i64 (r1.2.2.1 + (1 : Int))), r1.2.2.2)))))
  else (
    some (Sum.inr x3))
noncomputable def slices_insertionSortOrdered_intL2c (x0 : Int) (x1 : Int) (x2 : Int) (x3 : Val (.slice (.int .i64))) : Option ((Val (.slice (.int .i64)))) := iterN (fun y : Int × Int × Int × (Val (.slice (.int .i64))) => slices_insertionSortOrdered_intL2bc y.1 y.2.1 y.2.2.1 y.2.2.2) 200 (x0, (x1, (x2, x3)))
theorem slices_insertionSortOrdered_intL2_le (x0 : Int) (x1 : Int) (x2 : Int) (x3 : Val (.slice (.int .i64))) : Le (slices_insertionSortOrdered_intL2c x0 x1 x2 x3) (slices_insertionSortOrdered_intL2 x0 x1 x2 x3) :=
  .iter fun y => show Le (slices_insertionSortOrdered_intL2bc y.1 y.2.1 y.2.2.1 y.2.2.2) (slices_insertionSortOrdered_intL2b y.1 y.2.1 y.2.2.1 y.2.2.2) from by unfold slices_insertionSortOrdered_intL2bc slices_insertionSortOrdered_intL2b; exact (.cond (.bind (slices_insertionSortOrdered_intL1_le _ _ _ _ _) fun _ => .refl) .refl)
noncomputable def slices_insertionSortOrdered_intc (a0 : Int) (a1 : Int) (a2 : Val (.slice (.int .i64))) : Option ((Val (.slice (.int .i64)))) :=
  (slices_insertionSortOrdered_intL2c a0 a1 (IntKind.wrap .i64 (a0 + (1 : Int))) a2).bind fun r1 =>
  some r1
theorem slices_insertionSortOrdered_int_le (a0 : Int) (a1 : Int) (a2 : Val (.slice (.int .i64))) : Le (slices_insertionSortOrdered_intc a0 a1 a2) (slices_insertionSortOrdered_int a0 a1 a2) := by unfold slices_insertionSortOrdered_intc slices_insertionSortOrdered_int; exact (.bind (slices_insertionSortOrdered_intL2_le _ _ _ _) fun _ => .refl)
noncomputable def slices_pdqsortOrdered_intL1bc (x0 : Int) (x1 : Int) (x2 : Int) (x3 : Bool) (x4 : Bool) (x5 : Val (.slice (.int .i64))) : Option ((Int × Int × Int × Bool × Bool × (Val (.slice (.int .i64)))) ⊕ ((Val (.slice (.int .i64))))) :=
  bif (decide ((IntKind.wrap .i64 (x1 - x0)) ≤ (12 : Int))) then (
    (slices_insertionSortOrdered_intc x0 x1 x5).bind fun r1 =>
    some (Sum.inr r1))
  else (
    bif (decide (x2 = (0 : Int))) then (
      none)
    else (
      bif (!x3) then (
        none)
      else (
        none)))
noncomputable def slices_pdqsortOrdered_intL1c (x0 : Int) (x1 : Int) (x2 : Int) (x3 : Bool) (x4 : Bool) (x5 : Val (.slice (.int .i64))) : Option ((Val (.slice (.int .i64)))) := iterN (fun y : Int × Int × Int × Bool × Bool × (Val (.slice (.int .i64))) => slices_pdqsortOrdered_intL1bc y.1 y.2.1 y.2.2.1 y.2.2.2.1 y.2.2.2.2.1 y.2.2.2.2.2) 200 (x0, (x1, (x2, (x3, (x4, x5)))))
theorem slices_pdqsortOrdered_intL1_le (x0 : Int) (x1 : Int) (x2 : Int) (x3 : Bool) (x4 : Bool) (x5 : Val (.slice (.int .i64))) : Le (slices_pdqsortOrdered_intL1c x0 x1 x2 x3 x4 x5) (slices_pdqsortOrdered_intL1 x0 x1 x2 x3 x4 x5) :=
  .iter fun y => show Le (slices_pdqsortOrdered_intL1bc y.1 y.2.1 y.2.2.1 y.2.2.2.1 y.2.2.2.2.1 y.2.2.2.2.2) (slices_pdqsortOrdered_intL1b y.1 y.2.1 y.2.2.1 y.2.2.2.1 y.2.2.2.2.1 y.2.2.2.2.2) from by unfold slices_pdqsortOrdered_intL1bc slices_pdqsortOrdered_intL1b; exact (.cond (.bind (slices_insertionSortOrdered_int_le _ _ _) fun _ => .refl) .refl)
noncomputable def slices_pdqsortOrdered_intc (a0 : Int) (a1 : Int) (a2 : Int) (a3 : Val (.slice (.int .i64))) : Option ((Val (.slice (.int .i64)))) :=
  (slices_pdqsortOrdered_intL1c a0 a1 a2 true true a3).bind fun r1 =>
  some r1
theorem slices_pdqsortOrdered_int_le (a0 : Int) (a1 : Int) (a2 : Int) (a3 : Val (.slice (.int .i64))) : Le (slices_pdqsortOrdered_intc a0 a1 a2 a3) (slices_pdqsortOrdered_int a0 a1 a2 a3) := by unfold slices_pdqsortOrdered_intc slices_pdqsortOrdered_int; exact (.bind (slices_pdqsortOrdered_intL1_le _ _ _ _ _ _) fun _ => .refl)
noncomputable def slices_Sort_intc (a0 : Val (.slice (.int .i64))) : Option ((Val (.slice (.int .i64)))) :=
  (bits_Len (IntKind.wrap .u64 (((List.length a0) : Nat) : Int))).bind fun r1 =>
  (slices_pdqsortOrdered_intc (0 : Int) (((List.length a0) : Nat) : Int) r1 a0).bind fun r2 =>
  some r2
theorem slices_Sort_int_le (a0 : Val (.slice (.int .i64))) : Le (slices_Sort_intc a0) (slices_Sort_int a0) := by unfold slices_Sort_intc slices_Sort_int; exact (.bind .refl fun _ => (.bind (slices_pdqsortOrdered_int_le _ _ _ _) fun _ => .refl))
noncomputable def slices_Compact_intL1bc (x0 : Int) (x1 : Nat) (x2 : Nat) (x3 : Int) (x4 : Val (.slice (.int .i64))) : Option ((Int × Nat × Nat × Int × (Val (.slice (.int .i64)))) ⊕ (Int × (Val (.slice (.int .i64))))) :=
  bif (decide (x3 < (((x2 : Nat) : Int) - ((x1 : Nat) : Int)))) then (
    bif (inR x3 (x2 - x1)) then
    bif (inR (IntKind.wrap .i64 (x3 - (1 : Int))) (x2 - x1)) then
    bif (!(decide ((List.getD x4 (x1 + (Int.toNat x3)) (0 : Int)) = (List.getD x4 (x1 + (Int.toNat (IntKind.wrap .i64 (x3 - (1 : Int))))) (0 : Int))))) then (
      bif (inR x3 (x2 - x1)) then
      bif (inR x0 (List.length x4)) then
      some (Sum.inl ((IntKind.wrap .i64 (x0 + (1 : Int))), (x1, (x2, ((IntKind.wrap .i64 (x3 + (1 : Int))), (List.set x4 (Int.toNat x0) (List.getD x4 (x1 + (Int.toNat x3)) (0 : Int))))))))
      else none
      else none)
    else (
      some (Sum.inl (x0, (x1, (x2, ((IntKind.wrap .i64 (x3 + (1 : Int))), x4))))))
    else none
    else none)
  else (
    some (Sum.inr (x0, x4)))
noncomputable def slices_Compact_intL1c (x0 : Int) (x1 : Nat) (x2 : Nat) (x3 : Int) (x4 : Val (.slice (.int .i64))) : Option (Int × (Val (.slice (.int .i64)))) := iterN (fun y : Int × Nat × Nat × Int × (Val (.slice (.int .i64))) => slices_Compact_intL1bc y.1 y.2.1 y.2.2.1 y.2.2.2.1 y.2.2.2.2) 200 (x0, (x1, (x2, (x3, x4))))
theorem slices_Compact_intL1_le (x0 : Int) (x1 : Nat) (x2 : Nat) (x3 : Int) (x4 : Val (.slice (.int .i64))) : Le (slices_Compact_intL1c x0 x1 x2 x3 x4) (slices_Compact_intL1 x0 x1 x2 x3 x4) :=
  .iter fun y => show Le (slices_Compact_intL1bc y.1 y.2.1 y.2.2.1 y.2.2.2.1 y.2.2.2.2) (slices_Compact_intL1b y.1 y.2.1 y.2.2.1 y.2.2.2.1 y.2.2.2.2) from by unfold slices_Compact_intL1bc slices_Compact_intL1b; exact .refl
noncomputable def slices_Compact_intL2bc (x0 : Int) (x1 : Val (.slice (.int .i64))) : Option ((Int × (Val (.slice (.int .i64)))) ⊕ ((Val (.slice (.int .i64))))) :=
  bif (decide (x0 < (((List.length x1) : Nat) : Int))) then (
    bif (inR x0 (List.length x1)) then
    bif (inR (IntKind.wrap .i64 (x0 - (1 : Int))) (List.length x1)) then
    bif (decide ((List.getD x1 (Int.toNat x0) (0 : Int)) = (List.getD x1 (Int.toNat (IntKind.wrap .i64 (x0 - (1 : Int)))) (0 : Int)))) then (
      bif (((decide ((0 : Int) ≤ x0)) && (decide (x0 ≤ (((List.length x1) : Nat) : Int)))) && (decide ((((List.length x1) : Nat) : Int) ≤ (((List.length x1) : Nat) : Int)))) then
      (slices_Compact_intL1c x0 (Int.toNat x0) (List.length x1) (1 : Int) x1).bind fun r1 =>
      bif (((decide ((0 : Int) ≤ r1.1)) && (decide (r1.1 ≤ (((List.length r1.2) : Nat) : Int)))) && (decide ((((List.length r1.2) : Nat) : Int) ≤ (((List.length r1.2) : Nat) : Int)))) then
      none
      else none
      else none)
    else (
      some (Sum.inl ((IntKind.wrap .i64 (x0 + (1 : Int))), x1)))
    else none
    else none)
  else (
    some (Sum.inr x1))
noncomputable def slices_Compact_intL2c (x0 : Int) (x1 : Val (.slice (.int .i64))) : Option ((Val (.slice (.int .i64)))) := iterN (fun y : Int × (Val (.slice (.int .i64))) => slices_Compact_intL2bc y.1 y.2) 200 (x0, x1)
theorem slices_Compact_intL2_le (x0 : Int) (x1 : Val (.slice (.int .i64))) : Le (slices_Compact_intL2c x0 x1) (slices_Compact_intL2 x0 x1) :=
  .iter fun y => show Le (slices_Compact_intL2bc y.1 y.2) (slices_Compact_intL2b y.1 y.2) from by unfold slices_Compact_intL2bc slices_Compact_intL2b; exact (.cond (.cond (.cond (.cond (.cond (.bind (slices_Compact_intL1_le _ _ _ _ _) fun _ => .refl) .refl) .refl) .refl) .refl) .refl)
noncomputable def slices_Compact_intc (a0 : Val (.slice (.int .i64))) : Option ((Val (.slice (.int .i64)))) :=
  bif (decide ((((List.length a0) : Nat) : Int) < (2 : Int))) then (
    some a0)
  else (
    (slices_Compact_intL2c (1 : Int) a0).bind fun r1 =>
    some r1)
theorem slices_Compact_int_le (a0 : Val (.slice (.int .i64))) : Le (slices_Compact_intc a0) (slices_Compact_int a0) := by unfold slices_Compact_intc slices_Compact_int; exact (.cond .refl (.bind (slices_Compact_intL2_le _ _) fun _ => .refl))
noncomputable def segment_missingL1bc (x0 : Val (.slice TPage)) (x1 : Val (.slice (.int .i64))) (x2 : Int) (x3 : Int) (x4 : Val (.slice (.int .i64))) : Option (((Val (.slice TPage)) × (Val (.slice (.int .i64))) × Int × Int × (Val (.slice (.int .i64)))) ⊕ ((Val (.slice (.int .i64))))) :=
  bif (decide (x3 < x2)) then (
    bif (inR x3 (List.length x1)) then
    (pointer_Latestc x0 (List.getD x1 (Int.toNat x3) (0 : Int))).bind fun r1 =>
    bif (!r1.2) then (
      bif (decide (((List.length x4) + 1) ≤ lim)) then
      some (Sum.inl (x0, (x1, (x2, ((IntKind.wrap .i64 (x3 + (1 : Int))), (x4 ++ [(List.getD x1 (Int.toNat x3) (0 : Int))]))))))
      else none)
    else (
      some (Sum.inl (x0, (x1, (x2, ((IntKind.wrap .i64 (x3 + (1 : Int))), x4))))))
    else none)
  else (
    some (Sum.inr x4))
noncomputable def segment_missingL1c (x0 : Val (.slice TPage)) (x1 : Val (.slice (.int .i64))) (x2 : Int) (x3 : Int) (x4 : Val (.slice (.int .i64))) : Option ((Val (.slice (.int .i64)))) := iterN (fun y : (Val (.slice TPage)) × (Val (.slice (.int .i64))) × Int × Int × (Val (.slice (.int .i64))) => segment_missingL1bc y.1 y.2.1 y.2.2.1 y.2.2.2.1 y.2.2.2.2) 200 (x0, (x1, (x2, (x3, x4))))
theorem segment_missingL1_le (x0 : Val (.slice TPage)) (x1 : Val (.slice (.int .i64))) (x2 : Int) (x3 : Int) (x4 : Val (.slice (.int .i64))) : Le (segment_missingL1c x0 x1 x2 x3 x4) (segment_missingL1 x0 x1 x2 x3 x4) :=
  .iter fun y => show Le (segment_missingL1bc y.1 y.2.1 y.2.2.1 y.2.2.2.1 y.2.2.2.2) (segment_missingL1b y.1 y.2.1 y.2.2.1 y.2.2.2.1 y.2.2.2.2) from by unfold segment_missingL1bc segment_missingL1b; exact (.cond (.cond (.bind (pointer_Latest_le _ _) fun _ => .refl) .refl) .refl)
noncomputable def segment_missingc (a0 : Val (.slice TPage)) (a1 : Val (.slice (.int .i64))) : Option ((Val (.slice (.int .i64)))) :=
  (segment_missingL1c a0 a1 (((List.length a1) : Nat) : Int) (0 : Int) []).bind fun r1 =>
  (slices_Sort_intc r1).bind fun r2 =>
  (slices_Compact_intc r2).bind fun r3 =>
  some r3
theorem segment_missing_le (a0 : Val (.slice TPage)) (a1 : Val (.slice (.int .i64))) : Le (segment_missingc a0 a1) (segment_missing a0 a1) := by unfold segment_missingc segment_missing; exact (.bind (segment_missingL1_le _ _ _ _ _) fun _ => (.bind (slices_Sort_int_le _) fun _ => (.bind (slices_Compact_int_le _) fun _ => .refl)))
noncomputable def segment_ReadNodeL1bc (x0 : Int) (x1 : Val TPage) (x2 : Val TNode) (x3 : Val TNode) : Option ((Int × (Val TPage) × (Val TNode) × (Val TNode)) ⊕ (((Val TNode) × (Val TNode)) ⊕ (Int × (Val TNode)))) :=
  bif (decide (x0 < (4 : Int))) then (
    bif (inR (IntKind.wrap .i64 ((3 : Int) + x0)) 7) then
    (segment_unpackRetired (List.getD x1.2.2.1 (Int.toNat (IntKind.wrap .i64 ((3 : Int) + x0))) (0 : Int))).bind fun r1 =>
    bif (!r1.2) then (
      some (Sum.inr (Sum.inr ((14 : Int), (false, ((0 : Int), ((0 : Int), ((0 : Int), ((List.replicate 4 (((0 : Int), ((0 : Int), ())), ((0 : Int), ()))), ())))))))))
    else (
      bif (inR x0 4) then
      some (Sum.inl ((IntKind.wrap .i64 (x0 + (1 : Int))), (x1, (x2, (x3.1, (x3.2.1, (x3.2.2.1, (x3.2.2.2.1, ((List.set x3.2.2.2.2.1 (Int.toNat x0) r1.1), x3.2.2.2.2.2)))))))))
      else none)
    else none)
  else (
    some (Sum.inr (Sum.inl (x2, x3))))
noncomputable def segment_ReadNodeL1c (x0 : Int) (x1 : Val TPage) (x2 : Val TNode) (x3 : Val TNode) : Option (((Val TNode) × (Val TNode)) ⊕ (Int × (Val TNode))) := iterN (fun y : Int × (Val TPage) × (Val TNode) × (Val TNode) => segment_ReadNodeL1bc y.1 y.2.1 y.2.2.1 y.2.2.2) 200 (x0, (x1, (x2, x3)))
theorem segment_ReadNodeL1_le (x0 : Int) (x1 : Val TPage) (x2 : Val TNode) (x3 : Val TNode) : Le (segment_ReadNodeL1c x0 x1 x2 x3) (segment_ReadNodeL1 x0 x1 x2 x3) :=
  .iter fun y => show Le (segment_ReadNodeL1bc y.1 y.2.1 y.2.2.1 y.2.2.2) (segment_ReadNodeL1b y.1 y.2.1 y.2.2.1 y.2.2.2) from by unfold segment_ReadNodeL1bc segment_ReadNodeL1b; exact .refl
noncomputable def segment_ReadNodec (a0 : Val TPage) : Option ((Val TNode) × Int) :=
  (segment_isNodeLine a0.1).bind fun r1 =>
  bif (!r1) then (
    some ((false, ((0 : Int), ((0 : Int), ((0 : Int), ((List.replicate 4 (((0 : Int), ((0 : Int), ())), ((0 : Int), ()))), ()))))), (1 : Int)))
  else (
    bif (decide ((4294967296 : Int) < (List.getD a0.2.2.1 0 (0 : Int)))) then (
      some ((false, ((0 : Int), ((0 : Int), ((0 : Int), ((List.replicate 4 (((0 : Int), ((0 : Int), ())), ((0 : Int), ()))), ()))))), (14 : Int)))
    else (
      bif (decide ((512 : Int) ≤ (List.getD a0.2.2.1 1 (0 : Int)))) then (
        some ((false, ((0 : Int), ((0 : Int), ((0 : Int), ((List.replicate 4 (((0 : Int), ((0 : Int), ())), ((0 : Int), ()))), ()))))), (14 : Int)))
      else (
        bif (decide ((59 : Int) < (List.getD a0.2.2.1 2 (0 : Int)))) then (
          some ((false, ((0 : Int), ((0 : Int), ((0 : Int), ((List.replicate 4 (((0 : Int), ((0 : Int), ())), ((0 : Int), ()))), ()))))), (14 : Int)))
        else (
          bif (decide ((0 : Int) < (List.getD a0.2.2.1 0 (0 : Int)))) then (
            (segment_ReadNodeL1c (0 : Int) a0 (false, ((0 : Int), ((0 : Int), ((0 : Int), ((List.replicate 4 (((0 : Int), ((0 : Int), ())), ((0 : Int), ()))), ()))))) (true, ((IntKind.wrap .u32 (IntKind.wrap .u64 ((List.getD a0.2.2.1 0 (0 : Int)) - (1 : Int)))), ((IntKind.wrap .u32 (List.getD a0.2.2.1 1 (0 : Int))), ((IntKind.wrap .i64 (List.getD a0.2.2.1 2 (0 : Int))), ((List.replicate 4 (((0 : Int), ((0 : Int), ())), ((0 : Int), ()))), ())))))).bind fun r2 =>
            match r2 with
            | .inl r3 => (
              some (r3.2, (0 : Int)))
            | .inr r4 => (
              some (r4.2, r4.1)))
          else (
            (segment_ReadNodeL1c (0 : Int) a0 (false, ((0 : Int), ((0 : Int), ((0 : Int), ((List.replicate 4 (((0 : Int), ((0 : Int), ())), ((0 : Int), ()))), ()))))) (false, ((0 : Int), ((IntKind.wrap .u32 (List.getD a0.2.2.1 1 (0 : Int))), ((IntKind.wrap .i64 (List.getD a0.2.2.1 2 (0 : Int))), ((List.replicate 4 (((0 : Int), ((0 : Int), ())), ((0 : Int), ()))), ())))))).bind fun r5 =>
            match r5 with
            | .inl r6 => (
              some (r6.2, (0 : Int)))
            | .inr r7 => (
              some (r7.2, r7.1)))))))
theorem segment_ReadNode_le (a0 : Val TPage) : Le (segment_ReadNodec a0) (segment_ReadNode a0) := by unfold segment_ReadNodec segment_ReadNode; exact (.bind .refl fun _ => (.cond .refl (.cond .refl (.cond .refl (.cond .refl (.cond (.bind (segment_ReadNodeL1_le _ _ _ _) fun _ => .refl) (.bind (segment_ReadNodeL1_le _ _ _ _) fun _ => .refl)))))))
noncomputable def segment_nodec (a0 : Val (.slice TPage)) (a1 : Int) : Option ((Val TPage) × (Val TNode) × Bool × Int) :=
  (pointer_Latestc a0 (IntKind.wrap .i64 ((98 : Int) + a1))).bind fun r1 =>
  bif (!r1.2) then (
    some (((0 : Int), ((0 : Int), ((List.replicate 7 (0 : Int)), ()))), ((false, ((0 : Int), ((0 : Int), ((0 : Int), ((List.replicate 4 (((0 : Int), ((0 : Int), ())), ((0 : Int), ()))), ()))))), (false, (0 : Int)))))
  else (
    (pointer_Locked r1.1).bind fun r2 =>
    bif r2 then (
      some (((0 : Int), ((0 : Int), ((List.replicate 7 (0 : Int)), ()))), ((false, ((0 : Int), ((0 : Int), ((0 : Int), ((List.replicate 4 (((0 : Int), ((0 : Int), ())), ((0 : Int), ()))), ()))))), (true, (3 : Int)))))
    else (
      (segment_ReadNodec r1.1).bind fun r3 =>
      some (r1.1, (r3.1, (true, r3.2)))))
theorem segment_node_le (a0 : Val (.slice TPage)) (a1 : Int) : Le (segment_nodec a0 a1) (segment_node a0 a1) := by unfold segment_nodec segment_node; exact (.bind (pointer_Latest_le _ _) fun _ => (.cond .refl (.bind .refl fun _ => (.cond .refl (.bind (segment_ReadNode_le _) fun _ => .refl)))))
noncomputable def segment_ownedL1bc (x0 : Int) (x1 : Int) (x2 : Int) (x3 : Val (.slice (.int .i64))) : Option ((Int × Int × Int × (Val (.slice (.int .i64)))) ⊕ ((Val (.slice (.int .i64))))) :=
  bif (decide (x2 < x1)) then (
    bif (decide ((0 : Int) ≤ (IntKind.wrap .u64 x2))) then
    bif (decide ((IntKind.wrap .u32 ((BitVec.ofInt (IntKind.bits .u32) (shiftR .u32 x0 (IntKind.wrap .u64 x2)) &&& BitVec.ofInt (IntKind.bits .u32) (1 : Int)).toNat : Int)) = (1 : Int))) then (
      bif (decide (((List.length x3) + 1) ≤ lim)) then
      some (Sum.inl (x0, (x1, ((IntKind.wrap .i64 (x2 + (1 : Int))), (x3 ++ [x2])))))
      else none)
    else (
      some (Sum.inl (x0, (x1, ((IntKind.wrap .i64 (x2 + (1 : Int))), x3)))))
    else none)
  else (
    some (Sum.inr x3))
noncomputable def segment_ownedL1c (x0 : Int) (x1 : Int) (x2 : Int) (x3 : Val (.slice (.int .i64))) : Option ((Val (.slice (.int .i64)))) := iterN (fun y : Int × Int × Int × (Val (.slice (.int .i64))) => segment_ownedL1bc y.1 y.2.1 y.2.2.1 y.2.2.2) 200 (x0, (x1, (x2, x3)))
theorem segment_ownedL1_le (x0 : Int) (x1 : Int) (x2 : Int) (x3 : Val (.slice (.int .i64))) : Le (segment_ownedL1c x0 x1 x2 x3) (segment_ownedL1 x0 x1 x2 x3) :=
  .iter fun y => show Le (segment_ownedL1bc y.1 y.2.1 y.2.2.1 y.2.2.2) (segment_ownedL1b y.1 y.2.1 y.2.2.1 y.2.2.2) from by unfold segment_ownedL1bc segment_ownedL1b; exact .refl
noncomputable def segment_ownedc (a0 : Int) (a1 : Int) : Option ((Val (.slice (.int .i64)))) :=
  (segment_ownedL1c a0 a1 (0 : Int) []).bind fun r1 =>
  some r1
theorem segment_owned_le (a0 : Int) (a1 : Int) : Le (segment_ownedc a0 a1) (segment_owned a0 a1) := by unfold segment_ownedc segment_owned; exact (.bind (segment_ownedL1_le _ _ _ _) fun _ => .refl)
noncomputable def segment_headerLinesL1bc (x0 : Val (.slice (.int .i64))) (x1 : Int) (x2 : Int) (x3 : Val (.slice (.int .i64))) : Option (((Val (.slice (.int .i64))) × Int × Int × (Val (.slice (.int .i64)))) ⊕ ((Val (.slice (.int .i64))))) :=
  bif (decide (x2 < x1)) then (
    bif (inR x2 (List.length x0)) then
    (segment_HeaderLine (List.getD x0 (Int.toNat x2) (0 : Int))).bind fun r1 =>
    bif (decide (((List.length x3) + 1) ≤ lim)) then
    some (Sum.inl (x0, (x1, ((IntKind.wrap .i64 (x2 + (1 : Int))), (x3 ++ [r1])))))
    else none
    else none)
  else (
    some (Sum.inr x3))
noncomputable def segment_headerLinesL1c (x0 : Val (.slice (.int .i64))) (x1 : Int) (x2 : Int) (x3 : Val (.slice (.int .i64))) : Option ((Val (.slice (.int .i64)))) := iterN (fun y : (Val (.slice (.int .i64))) × Int × Int × (Val (.slice (.int .i64))) => segment_headerLinesL1bc y.1 y.2.1 y.2.2.1 y.2.2.2) 200 (x0, (x1, (x2, x3)))
theorem segment_headerLinesL1_le (x0 : Val (.slice (.int .i64))) (x1 : Int) (x2 : Int) (x3 : Val (.slice (.int .i64))) : Le (segment_headerLinesL1c x0 x1 x2 x3) (segment_headerLinesL1 x0 x1 x2 x3) :=
  .iter fun y => show Le (segment_headerLinesL1bc y.1 y.2.1 y.2.2.1 y.2.2.2) (segment_headerLinesL1b y.1 y.2.1 y.2.2.1 y.2.2.2) from by unfold segment_headerLinesL1bc segment_headerLinesL1b; exact .refl
noncomputable def segment_headerLinesc (a0 : Val (.slice (.int .i64))) : Option ((Val (.slice (.int .i64)))) :=
  (segment_headerLinesL1c a0 (((List.length a0) : Nat) : Int) (0 : Int) []).bind fun r1 =>
  some r1
theorem segment_headerLines_le (a0 : Val (.slice (.int .i64))) : Le (segment_headerLinesc a0) (segment_headerLines a0) := by unfold segment_headerLinesc segment_headerLines; exact (.bind (segment_headerLinesL1_le _ _ _ _) fun _ => .refl)
noncomputable def slices_IndexFunc_uint64L1bc (x0 : Val (.slice (.int .u64))) (x1 : Int) (x2 : Int) : Option (((Val (.slice (.int .u64))) × Int × Int) ⊕ ((Unit) ⊕ (Int))) :=
  bif (decide (x2 < x1)) then (
    bif (inR x2 (List.length x0)) then
    (segment_zeros_1 (List.getD x0 (Int.toNat x2) (0 : Int))).bind fun r1 =>
    bif r1 then (
      some (Sum.inr (Sum.inr x2)))
    else (
      some (Sum.inl (x0, (x1, (IntKind.wrap .i64 (x2 + (1 : Int)))))))
    else none)
  else (
    some (Sum.inr (Sum.inl ())))
noncomputable def slices_IndexFunc_uint64L1c (x0 : Val (.slice (.int .u64))) (x1 : Int) (x2 : Int) : Option ((Unit) ⊕ (Int)) := iterN (fun y : (Val (.slice (.int .u64))) × Int × Int => slices_IndexFunc_uint64L1bc y.1 y.2.1 y.2.2) 200 (x0, (x1, x2))
theorem slices_IndexFunc_uint64L1_le (x0 : Val (.slice (.int .u64))) (x1 : Int) (x2 : Int) : Le (slices_IndexFunc_uint64L1c x0 x1 x2) (slices_IndexFunc_uint64L1 x0 x1 x2) :=
  .iter fun y => show Le (slices_IndexFunc_uint64L1bc y.1 y.2.1 y.2.2) (slices_IndexFunc_uint64L1b y.1 y.2.1 y.2.2) from by unfold slices_IndexFunc_uint64L1bc slices_IndexFunc_uint64L1b; exact .refl
noncomputable def slices_IndexFunc_uint64c (a0 : Val (.slice (.int .u64))) : Option Int :=
  (slices_IndexFunc_uint64L1c a0 (((List.length a0) : Nat) : Int) (0 : Int)).bind fun r1 =>
  match r1 with
  | .inl r2 => (
    some (-1 : Int))
  | .inr r3 => (
    some r3)
theorem slices_IndexFunc_uint64_le (a0 : Val (.slice (.int .u64))) : Le (slices_IndexFunc_uint64c a0) (slices_IndexFunc_uint64 a0) := by unfold slices_IndexFunc_uint64c slices_IndexFunc_uint64; exact (.bind (slices_IndexFunc_uint64L1_le _ _ _) fun _ => .refl)
noncomputable def slices_ContainsFunc_uint64c (a0 : Val (.slice (.int .u64))) : Option Bool :=
  (slices_IndexFunc_uint64c a0).bind fun r1 =>
  some (decide ((0 : Int) ≤ r1))
theorem slices_ContainsFunc_uint64_le (a0 : Val (.slice (.int .u64))) : Le (slices_ContainsFunc_uint64c a0) (slices_ContainsFunc_uint64 a0) := by unfold slices_ContainsFunc_uint64c slices_ContainsFunc_uint64; exact (.bind (slices_IndexFunc_uint64_le _) fun _ => .refl)
noncomputable def segment_zerosc (a0 : Val (.slice (.int .u64))) : Option Bool :=
  (slices_ContainsFunc_uint64c a0).bind fun r1 =>
  some (!r1)
theorem segment_zeros_le (a0 : Val (.slice (.int .u64))) : Le (segment_zerosc a0) (segment_zeros a0) := by unfold segment_zerosc segment_zeros; exact (.bind (slices_ContainsFunc_uint64_le _) fun _ => .refl)
noncomputable def segment_ReadHeaderc (a0 : Val TPage) : Option ((Val THead) × Int) :=
  (segment_isHeaderLine a0.1).bind fun r1 =>
  bif (!r1) then (
    some (((0 : Int), ((0 : Int), ())), (1 : Int)))
  else (
    bif (decide ((6 : Int) < (List.getD a0.2.2.1 0 (0 : Int)))) then (
      some (((0 : Int), ((0 : Int), ())), (14 : Int)))
    else (
      bif (!(decide ((IntKind.wrap .u64 ((BitVec.ofInt (IntKind.bits .u64) (List.getD a0.2.2.1 1 (0 : Int)) &&& ~~~ BitVec.ofInt (IntKind.bits .u64) (65534 : Int)).toNat : Int)) = (0 : Int)))) then (
        some (((0 : Int), ((0 : Int), ())), (14 : Int)))
      else (
        (segment_zerosc (List.drop 2 (List.take 7 a0.2.2.1))).bind fun r2 =>
        bif (!r2) then (
          some (((0 : Int), ((0 : Int), ())), (14 : Int)))
        else (
          some (((IntKind.wrap .i64 ((IntKind.wrap .i64 (List.getD a0.2.2.1 0 (0 : Int))) - (1 : Int))), ((IntKind.wrap .u32 (List.getD a0.2.2.1 1 (0 : Int))), ())), (0 : Int))))))
theorem segment_ReadHeader_le (a0 : Val TPage) : Le (segment_ReadHeaderc a0) (segment_ReadHeader a0) := by unfold segment_ReadHeaderc segment_ReadHeader; exact (.bind .refl fun _ => (.cond .refl (.cond .refl (.cond .refl (.bind (segment_zeros_le _) fun _ => .refl)))))
noncomputable def segment_headerc (a0 : Val (.slice TPage)) (a1 : Int) : Option ((Val TPage) × (Val THead) × Bool × Int) :=
  (segment_HeaderLine a1).bind fun r1 =>
  (pointer_Latestc a0 r1).bind fun r2 =>
  bif (!r2.2) then (
    some (((0 : Int), ((0 : Int), ((List.replicate 7 (0 : Int)), ()))), (((0 : Int), ((0 : Int), ())), (false, (0 : Int)))))
  else (
    (pointer_Locked r2.1).bind fun r3 =>
    bif r3 then (
      some (((0 : Int), ((0 : Int), ((List.replicate 7 (0 : Int)), ()))), (((0 : Int), ((0 : Int), ())), (true, (3 : Int)))))
    else (
      (segment_ReadHeaderc r2.1).bind fun r4 =>
      some (r2.1, (r4.1, (true, r4.2)))))
theorem segment_header_le (a0 : Val (.slice TPage)) (a1 : Int) : Le (segment_headerc a0 a1) (segment_header a0 a1) := by unfold segment_headerc segment_header; exact (.bind .refl fun _ => (.bind (pointer_Latest_le _ _) fun _ => (.cond .refl (.bind .refl fun _ => (.cond .refl (.bind (segment_ReadHeader_le _) fun _ => .refl))))))
noncomputable def segment_unownedL1bc (x0 : Val (.slice TPage)) (x1 : Int) (x2 : Int) (x3 : Int) : Option (((Val (.slice TPage)) × Int × Int × Int) ⊕ ((Unit) ⊕ (Int × Bool))) :=
  bif (decide (x3 < x2)) then (
    bif (!(decide (x2 = (0 : Int)))) then
    (segment_headerc x0 (Int.tmod (IntKind.wrap .i64 (x1 + x3)) x2)).bind fun r1 =>
    bif (decide (r1.2.2.2 = (0 : Int))) then (
      bif (decide (r1.2.1.1 = (-1 : Int))) then (
        some (Sum.inr (Sum.inr ((Int.tmod (IntKind.wrap .i64 (x1 + x3)) x2), true))))
      else (
        some (Sum.inl (x0, (x1, (x2, (IntKind.wrap .i64 (x3 + (1 : Int)))))))))
    else (
      some (Sum.inl (x0, (x1, (x2, (IntKind.wrap .i64 (x3 + (1 : Int))))))))
    else none)
  else (
    some (Sum.inr (Sum.inl ())))
noncomputable def segment_unownedL1c (x0 : Val (.slice TPage)) (x1 : Int) (x2 : Int) (x3 : Int) : Option ((Unit) ⊕ (Int × Bool)) := iterN (fun y : (Val (.slice TPage)) × Int × Int × Int => segment_unownedL1bc y.1 y.2.1 y.2.2.1 y.2.2.2) 200 (x0, (x1, (x2, x3)))
theorem segment_unownedL1_le (x0 : Val (.slice TPage)) (x1 : Int) (x2 : Int) (x3 : Int) : Le (segment_unownedL1c x0 x1 x2 x3) (segment_unownedL1 x0 x1 x2 x3) :=
  .iter fun y => show Le (segment_unownedL1bc y.1 y.2.1 y.2.2.1 y.2.2.2) (segment_unownedL1b y.1 y.2.1 y.2.2.1 y.2.2.2) from by unfold segment_unownedL1bc segment_unownedL1b; exact (.cond (.cond (.bind (segment_header_le _ _) fun _ => .refl) .refl) .refl)
noncomputable def segment_unownedc (a0 : Val (.slice TPage)) (a1 : Int) (a2 : Int) : Option (Int × Bool) :=
  (segment_unownedL1c a0 a1 a2 (0 : Int)).bind fun r1 =>
  match r1 with
  | .inl r2 => (
    some ((0 : Int), false))
  | .inr r3 => (
    some (r3.1, r3.2))
theorem segment_unowned_le (a0 : Val (.slice TPage)) (a1 : Int) (a2 : Int) : Le (segment_unownedc a0 a1 a2) (segment_unowned a0 a1 a2) := by unfold segment_unownedc segment_unowned; exact (.bind (segment_unownedL1_le _ _ _ _) fun _ => .refl)
noncomputable def segment_WriteNodeL1bc (x0 : Val (.arr 4 TRet)) (x1 : Int) (x2 : Val TPage) (x3 : Val TPage) : Option (((Val (.arr 4 TRet)) × Int × (Val TPage) × (Val TPage)) ⊕ (((Val TPage) × (Val TPage)) ⊕ (Int × (Val TPage)))) :=
  bif (decide (x1 < (4 : Int))) then (
    bif (inR x1 4) then
    bif (eqV TRet (List.getD x0 (Int.toNat x1) (((0 : Int), ((0 : Int), ())), ((0 : Int), ()))) (((0 : Int), ((0 : Int), ())), ((0 : Int), ()))) then (
      some (Sum.inl (x0, ((IntKind.wrap .i64 (x1 + (1 : Int))), (x2, x3)))))
    else (
      (pointer_Valid (List.getD x0 (Int.toNat x1) (((0 : Int), ((0 : Int), ())), ((0 : Int), ()))).1).bind fun r1 =>
      bif r1 then (
        (pointer_Pack (List.getD x0 (Int.toNat x1) (((0 : Int), ((0 : Int), ())), ((0 : Int), ()))).1).bind fun r2 =>
        bif (inR (IntKind.wrap .i64 ((3 : Int) + x1)) 7) then
        some (Sum.inl (x0, ((IntKind.wrap .i64 (x1 + (1 : Int))), ((x2.1, (x2.2.1, ((List.set x2.2.2.1 (Int.toNat (IntKind.wrap .i64 ((3 : Int) + x1))) (IntKind.wrap .u64 ((BitVec.ofInt (IntKind.bits .u64) (IntKind.wrap .u64 r2) ||| BitVec.ofInt (IntKind.bits .u64) (shiftL .u64 (IntKind.wrap .u64 (List.getD x0 (Int.toNat x1) (((0 : Int), ((0 : Int), ())), ((0 : Int), ()))).2.1) (32 : Int))).toNat : Int))), x2.2.2.2))), x3))))
        else none)
      else (
        some (Sum.inr (Sum.inr ((1 : Int), ((0 : Int), ((0 : Int), ((List.replicate 7 (0 : Int)), ()))))))))
    else none)
  else (
    some (Sum.inr (Sum.inl (x2, x3))))
noncomputable def segment_WriteNodeL1c (x0 : Val (.arr 4 TRet)) (x1 : Int) (x2 : Val TPage) (x3 : Val TPage) : Option (((Val TPage) × (Val TPage)) ⊕ (Int × (Val TPage))) := iterN (fun y : (Val (.arr 4 TRet)) × Int × (Val TPage) × (Val TPage) => segment_WriteNodeL1bc y.1 y.2.1 y.2.2.1 y.2.2.2) 200 (x0, (x1, (x2, x3)))
theorem segment_WriteNodeL1_le (x0 : Val (.arr 4 TRet)) (x1 : Int) (x2 : Val TPage) (x3 : Val TPage) : Le (segment_WriteNodeL1c x0 x1 x2 x3) (segment_WriteNodeL1 x0 x1 x2 x3) :=
  .iter fun y => show Le (segment_WriteNodeL1bc y.1 y.2.1 y.2.2.1 y.2.2.2) (segment_WriteNodeL1b y.1 y.2.1 y.2.2.1 y.2.2.2) from by unfold segment_WriteNodeL1bc segment_WriteNodeL1b; exact .refl
noncomputable def segment_WriteNodec (a0 : Val TPage) (a1 : Val TNode) : Option ((Val TPage) × Int) :=
  (segment_isNodeLine a0.1).bind fun r1 =>
  bif (!r1) then (
    some (((0 : Int), ((0 : Int), ((List.replicate 7 (0 : Int)), ()))), (1 : Int)))
  else (
    bif (!a1.1) then (
      bif (!(decide (a1.2.1 = (0 : Int)))) then (
        some (((0 : Int), ((0 : Int), ((List.replicate 7 (0 : Int)), ()))), (1 : Int)))
      else (
        bif (decide ((512 : Int) ≤ a1.2.2.1)) then (
          some (((0 : Int), ((0 : Int), ((List.replicate 7 (0 : Int)), ()))), (1 : Int)))
        else (
          bif (decide (a1.2.2.2.1 < (0 : Int))) then (
            some (((0 : Int), ((0 : Int), ((List.replicate 7 (0 : Int)), ()))), (1 : Int)))
          else (
            bif (decide ((59 : Int) < a1.2.2.2.1)) then (
              some (((0 : Int), ((0 : Int), ((List.replicate 7 (0 : Int)), ()))), (1 : Int)))
            else (
              bif a1.1 then (
                (segment_WriteNodeL1c a1.2.2.2.2.1 (0 : Int) (a0.1, (a0.2.1, ((List.set [(0 : Int), (IntKind.wrap .u64 a1.2.2.1), (IntKind.wrap .u64 a1.2.2.2.1), (0 : Int), (0 : Int), (0 : Int), (0 : Int)] 0 (IntKind.wrap .u64 ((IntKind.wrap .u64 a1.2.1) + (1 : Int)))), a0.2.2.2))) ((0 : Int), ((0 : Int), ((List.replicate 7 (0 : Int)), ())))).bind fun r2 =>
                match r2 with
                | .inl r3 => (
                  some (r3.1, (0 : Int)))
                | .inr r4 => (
                  some (r4.2, r4.1)))
              else (
                (segment_WriteNodeL1c a1.2.2.2.2.1 (0 : Int) (a0.1, (a0.2.1, ([(0 : Int), (IntKind.wrap .u64 a1.2.2.1), (IntKind.wrap .u64 a1.2.2.2.1), (0 : Int), (0 : Int), (0 : Int), (0 : Int)], a0.2.2.2))) ((0 : Int), ((0 : Int), ((List.replicate 7 (0 : Int)), ())))).bind fun r5 =>
                match r5 with
                | .inl r6 => (
                  some (r6.1, (0 : Int)))
                | .inr r7 => (
                  some (r7.2, r7.1))))))))
    else (
      bif (decide ((512 : Int) ≤ a1.2.2.1)) then (
        some (((0 : Int), ((0 : Int), ((List.replicate 7 (0 : Int)), ()))), (1 : Int)))
      else (
        bif (decide (a1.2.2.2.1 < (0 : Int))) then (
          some (((0 : Int), ((0 : Int), ((List.replicate 7 (0 : Int)), ()))), (1 : Int)))
        else (
          bif (decide ((59 : Int) < a1.2.2.2.1)) then (
            some (((0 : Int), ((0 : Int), ((List.replicate 7 (0 : Int)), ()))), (1 : Int)))
          else (
            bif a1.1 then (
              (segment_WriteNodeL1c a1.2.2.2.2.1 (0 : Int) (a0.1, (a0.2.1, ((List.set [(0 : Int), (IntKind.wrap .u64 a1.2.2.1), (IntKind.wrap .u64 a1.2.2.2.1), (0 : Int), (0 : Int), (0 : Int), (0 : Int)] 0 (IntKind.wrap .u64 ((IntKind.wrap .u64 a1.2.1) + (1 : Int)))), a0.2.2.2))) ((0 : Int), ((0 : Int), ((List.replicate 7 (0 : Int)), ())))).bind fun r8 =>
              match r8 with
              | .inl r9 => (
                some (r9.1, (0 : Int)))
              | .inr r10 => (
                some (r10.2, r10.1)))
            else (
              (segment_WriteNodeL1c a1.2.2.2.2.1 (0 : Int) (a0.1, (a0.2.1, ([(0 : Int), (IntKind.wrap .u64 a1.2.2.1), (IntKind.wrap .u64 a1.2.2.2.1), (0 : Int), (0 : Int), (0 : Int), (0 : Int)], a0.2.2.2))) ((0 : Int), ((0 : Int), ((List.replicate 7 (0 : Int)), ())))).bind fun r11 =>
              match r11 with
              | .inl r12 => (
                some (r12.1, (0 : Int)))
              | .inr r13 => (
                some (r13.2, r13.1))))))))
theorem segment_WriteNode_le (a0 : Val TPage) (a1 : Val TNode) : Le (segment_WriteNodec a0 a1) (segment_WriteNode a0 a1) := by unfold segment_WriteNodec segment_WriteNode; exact (.bind .refl fun _ => (.cond .refl (.cond (.cond .refl (.cond .refl (.cond .refl (.cond .refl (.cond (.bind (segment_WriteNodeL1_le _ _ _ _) fun _ => .refl) (.bind (segment_WriteNodeL1_le _ _ _ _) fun _ => .refl)))))) (.cond .refl (.cond .refl (.cond .refl (.cond (.bind (segment_WriteNodeL1_le _ _ _ _) fun _ => .refl) (.bind (segment_WriteNodeL1_le _ _ _ _) fun _ => .refl))))))))
noncomputable def slices_insertionSortCmpFunc_PageL1bc (x0 : Int) (x1 : Int) (x2 : Int) (x3 : Int) (x4 : Val (.slice TPage)) : Option ((Int × Int × Int × Int × (Val (.slice TPage))) ⊕ (Int × Int × Int × (Val (.slice TPage)))) :=
  bif (decide (x0 < x3)) then (
    bif (inR x3 (List.length x4)) then
    bif (inR (IntKind.wrap .i64 (x3 - (1 : Int))) (List.length x4)) then
    (segment_ascending_1 (List.getD x4 (Int.toNat x3) ((0 : Int), ((0 : Int), ((List.replicate 7 (0 : Int)), ())))) (List.getD x4 (Int.toNat (IntKind.wrap .i64 (x3 - (1 : Int)))) ((0 : Int), ((0 : Int), ((List.replicate 7 (0 : Int)), ()))))).bind fun r1 =>
    bif (decide (r1 < (0 : Int))) then (
      bif (inR (IntKind.wrap .i64 (x3 - (1 : Int))) (List.length x4)) then
      bif (inR x3 (List.length x4)) then
      bif (inR x3 (List.length x4)) then
      bif (inR (IntKind.wrap .i64 (x3 - (1 : Int))) (List.length (List.set x4 (Int.toNat x3) (List.getD x4 (Int.toNat (IntKind.wrap .i64 (x3 - (1 : Int)))) ((0 : Int), ((0 : Int), ((List.replicate 7 (0 : Int)), ()))))))) then
      some (Sum.inl (x0, (x1, (x2, ((IntKind.wrap .i64 (x3 - (1 : Int))), (List.set (List.set x4 (Int.toNat x3) (List.getD x4 (Int.toNat (IntKind.wrap .i64 (x3 - (1 : Int)))) ((0 : Int), ((0 : Int), ((List.replicate 7 (0 : Int)), ()))))) (Int.toNat (IntKind.wrap .i64 (x3 - (1 : Int)))) (List.getD x4 (Int.toNat x3) ((0 : Int), ((0 : Int), ((List.replicate 7 (0 : Int)), ()))))))))))
      else none
      else none
      else none
      else none)
    else (
      some (Sum.inr (x0, (x1, (x2, x4)))))
    else none
    else none)
  else (
    some (Sum.inr (x0, (x1, (x2, x4)))))
noncomputable def slices_insertionSortCmpFunc_PageL1c (x0 : Int) (x1 : Int) (x2 : Int) (x3 : Int) (x4 : Val (.slice TPage)) : Option (Int × Int × Int × (Val (.slice TPage))) := iterN (fun y : Int × Int × Int × Int × (Val (.slice TPage)) => slices_insertionSortCmpFunc_PageL1bc y.1 y.2.1 y.2.2.1 y.2.2.2.1 y.2.2.2.2) 200 (x0, (x1, (x2, (x3, x4))))
theorem slices_insertionSortCmpFunc_PageL1_le (x0 : Int) (x1 : Int) (x2 : Int) (x3 : Int) (x4 : Val (.slice TPage)) : Le (slices_insertionSortCmpFunc_PageL1c x0 x1 x2 x3 x4) (slices_insertionSortCmpFunc_PageL1 x0 x1 x2 x3 x4) :=
  .iter fun y => show Le (slices_insertionSortCmpFunc_PageL1bc y.1 y.2.1 y.2.2.1 y.2.2.2.1 y.2.2.2.2) (slices_insertionSortCmpFunc_PageL1b y.1 y.2.1 y.2.2.1 y.2.2.2.1 y.2.2.2.2) from by unfold slices_insertionSortCmpFunc_PageL1bc slices_insertionSortCmpFunc_PageL1b; exact .refl
noncomputable def slices_insertionSortCmpFunc_PageL2bc (x0 : Int) (x1 : Int) (x2 : Int) (x3 : Val (.slice TPage)) : Option ((Int × Int × Int × (Val (.slice TPage))) ⊕ ((Val (.slice TPage)))) :=
  bif (decide (x2 < x1)) then (
    (slices_insertionSortCmpFunc_PageL1c x0 x1 x2 x2 x3).bind fun r1 =>
    some (Sum.inl (r1.1, (r1.2.1, ((IntKind.wrap .i64 (r1.2.2.1 + (1 : Int))), r1.2.2.2)))))
  else (
    some (Sum.inr x3))
noncomputable def slices_insertionSortCmpFunc_PageL2c (x0 : Int) (x1 : Int) (x2 : Int) (x3 : Val (.slice TPage)) : Option ((Val (.slice TPage))) := iterN (fun y : Int × Int × Int × (Val (.slice TPage)) => slices_insertionSortCmpFunc_PageL2bc y.1 y.2.1 y.2.2.1 y.2.2.2) 200 (x0, (x1, (x2, x3)))
theorem slices_insertionSortCmpFunc_PageL2_le (x0 : Int) (x1 : Int) (x2 : Int) (x3 : Val (.slice TPage)) : Le (slices_insertionSortCmpFunc_PageL2c x0 x1 x2 x3) (slices_insertionSortCmpFunc_PageL2 x0 x1 x2 x3) :=
  .iter fun y => show Le (slices_insertionSortCmpFunc_PageL2bc y.1 y.2.1 y.2.2.1 y.2.2.2) (slices_insertionSortCmpFunc_PageL2b y.1 y.2.1 y.2.2.1 y.2.2.2) from by unfold slices_insertionSortCmpFunc_PageL2bc slices_insertionSortCmpFunc_PageL2b; exact (.cond (.bind (slices_insertionSortCmpFunc_PageL1_le _ _ _ _ _) fun _ => .refl) .refl)
noncomputable def slices_insertionSortCmpFunc_Pagec (a0 : Int) (a1 : Int) (a2 : Val (.slice TPage)) : Option ((Val (.slice TPage))) :=
  (slices_insertionSortCmpFunc_PageL2c a0 a1 (IntKind.wrap .i64 (a0 + (1 : Int))) a2).bind fun r1 =>
  some r1
theorem slices_insertionSortCmpFunc_Page_le (a0 : Int) (a1 : Int) (a2 : Val (.slice TPage)) : Le (slices_insertionSortCmpFunc_Pagec a0 a1 a2) (slices_insertionSortCmpFunc_Page a0 a1 a2) := by unfold slices_insertionSortCmpFunc_Pagec slices_insertionSortCmpFunc_Page; exact (.bind (slices_insertionSortCmpFunc_PageL2_le _ _ _ _) fun _ => .refl)
noncomputable def slices_stableCmpFunc_PageL1bc (x0 : Int) (x1 : Int) (x2 : Int) (x3 : Int) (x4 : Val (.slice TPage)) : Option ((Int × Int × Int × Int × (Val (.slice TPage))) ⊕ (Int × Int × Int × (Val (.slice TPage)))) :=
  bif (decide (x3 ≤ x0)) then (
    (slices_insertionSortCmpFunc_Pagec x2 x3 x4).bind fun r1 =>
    some (Sum.inl (x0, (x1, (x3, ((IntKind.wrap .i64 (x3 + x1)), r1))))))
  else (
    some (Sum.inr (x0, (x1, (x2, x4)))))
noncomputable def slices_stableCmpFunc_PageL1c (x0 : Int) (x1 : Int) (x2 : Int) (x3 : Int) (x4 : Val (.slice TPage)) : Option (Int × Int × Int × (Val (.slice TPage))) := iterN (fun y : Int × Int × Int × Int × (Val (.slice TPage)) => slices_stableCmpFunc_PageL1bc y.1 y.2.1 y.2.2.1 y.2.2.2.1 y.2.2.2.2) 200 (x0, (x1, (x2, (x3, x4))))
theorem slices_stableCmpFunc_PageL1_le (x0 : Int) (x1 : Int) (x2 : Int) (x3 : Int) (x4 : Val (.slice TPage)) : Le (slices_stableCmpFunc_PageL1c x0 x1 x2 x3 x4) (slices_stableCmpFunc_PageL1 x0 x1 x2 x3 x4) :=
  .iter fun y => show Le (slices_stableCmpFunc_PageL1bc y.1 y.2.1 y.2.2.1 y.2.2.2.1 y.2.2.2.2) (slices_stableCmpFunc_PageL1b y.1 y.2.1 y.2.2.1 y.2.2.2.1 y.2.2.2.2) from by unfold slices_stableCmpFunc_PageL1bc slices_stableCmpFunc_PageL1b; exact (.cond (.bind (slices_insertionSortCmpFunc_Page_le _ _ _) fun _ => .refl) .refl)
noncomputable def slices_stableCmpFunc_PageL2bc (x0 : Int) (x1 : Int) (x2 : Int) (x3 : Int) (x4 : Val (.slice TPage)) : Option ((Int × Int × Int × Int × (Val (.slice TPage))) ⊕ (Int × Int × Int × (Val (.slice TPage)))) :=
  bif (decide (x3 ≤ x0)) then (
    (slices_symMergeCmpFunc_Page 40 x2 (IntKind.wrap .i64 (x2 + x1)) x3 x4).bind fun r1 =>
    some (Sum.inl (x0, (x1, (x3, ((IntKind.wrap .i64 (x3 + (IntKind.wrap .i64 ((2 : Int) * x1)))), r1))))))
  else (
    some (Sum.inr (x0, (x1, (x2, x4)))))
noncomputable def slices_stableCmpFunc_PageL2c (x0 : Int) (x1 : Int) (x2 : Int) (x3 : Int) (x4 : Val (.slice TPage)) : Option (Int × Int × Int × (Val (.slice TPage))) := iterN (fun y : Int × Int × Int × Int × (Val (.slice TPage)) => slices_stableCmpFunc_PageL2bc y.1 y.2.1 y.2.2.1 y.2.2.2.1 y.2.2.2.2) 200 (x0, (x1, (x2, (x3, x4))))
theorem slices_stableCmpFunc_PageL2_le (x0 : Int) (x1 : Int) (x2 : Int) (x3 : Int) (x4 : Val (.slice TPage)) : Le (slices_stableCmpFunc_PageL2c x0 x1 x2 x3 x4) (slices_stableCmpFunc_PageL2 x0 x1 x2 x3 x4) :=
  .iter fun y => show Le (slices_stableCmpFunc_PageL2bc y.1 y.2.1 y.2.2.1 y.2.2.2.1 y.2.2.2.2) (slices_stableCmpFunc_PageL2b y.1 y.2.1 y.2.2.1 y.2.2.2.1 y.2.2.2.2) from by unfold slices_stableCmpFunc_PageL2bc slices_stableCmpFunc_PageL2b; exact .refl
noncomputable def slices_stableCmpFunc_PageL3bc (x0 : Int) (x1 : Int) (x2 : Val (.slice TPage)) : Option ((Int × Int × (Val (.slice TPage))) ⊕ ((Val (.slice TPage)))) :=
  bif (decide (x1 < x0)) then (
    (slices_stableCmpFunc_PageL2c x0 x1 (0 : Int) (IntKind.wrap .i64 ((2 : Int) * x1)) x2).bind fun r1 =>
    bif (decide ((IntKind.wrap .i64 (r1.2.2.1 + r1.2.1)) < r1.1)) then (
      (slices_symMergeCmpFunc_Page 40 r1.2.2.1 (IntKind.wrap .i64 (r1.2.2.1 + r1.2.1)) r1.1 r1.2.2.2).bind fun r2 =>
      some (Sum.inl (r1.1, ((IntKind.wrap .i64 (r1.2.1 * (2 : Int))), r2))))
    else (
      some (Sum.inl (r1.1, ((IntKind.wrap .i64 (r1.2.1 * (2 : Int))), r1.2.2.2)))))
  else (
    some (Sum.inr x2))
noncomputable def slices_stableCmpFunc_PageL3c (x0 : Int) (x1 : Int) (x2 : Val (.slice TPage)) : Option ((Val (.slice TPage))) := iterN (fun y : Int × Int × (Val (.slice TPage)) => slices_stableCmpFunc_PageL3bc y.1 y.2.1 y.2.2) 200 (x0, (x1, x2))
theorem slices_stableCmpFunc_PageL3_le (x0 : Int) (x1 : Int) (x2 : Val (.slice TPage)) : Le (slices_stableCmpFunc_PageL3c x0 x1 x2) (slices_stableCmpFunc_PageL3 x0 x1 x2) :=
  .iter fun y => show Le (slices_stableCmpFunc_PageL3bc y.1 y.2.1 y.2.2) (slices_stableCmpFunc_PageL3b y.1 y.2.1 y.2.2) from by unfold slices_stableCmpFunc_PageL3bc slices_stableCmpFunc_PageL3b; exact (.cond (.bind (slices_stableCmpFunc_PageL2_le _ _ _ _ _) fun _ => .refl) .refl)
noncomputable def slices_stableCmpFunc_Pagec (a0 : Int) (a1 : Val (.slice TPage)) : Option ((Val (.slice TPage))) :=
  (slices_stableCmpFunc_PageL1c a0 (20 : Int) (0 : Int) (20 : Int) a1).bind fun r1 =>
  (slices_insertionSortCmpFunc_Pagec r1.2.2.1 r1.1 r1.2.2.2).bind fun r2 =>
  (slices_stableCmpFunc_PageL3c r1.1 r1.2.1 r2).bind fun r3 =>
  some r3
theorem slices_stableCmpFunc_Page_le (a0 : Int) (a1 : Val (.slice TPage)) : Le (slices_stableCmpFunc_Pagec a0 a1) (slices_stableCmpFunc_Page a0 a1) := by unfold slices_stableCmpFunc_Pagec slices_stableCmpFunc_Page; exact (.bind (slices_stableCmpFunc_PageL1_le _ _ _ _ _) fun _ => (.bind (slices_insertionSortCmpFunc_Page_le _ _ _) fun _ => (.bind (slices_stableCmpFunc_PageL3_le _ _ _) fun _ => .refl)))
noncomputable def slices_SortStableFunc_Pagec (a0 : Val (.slice TPage)) : Option ((Val (.slice TPage))) :=
  (slices_stableCmpFunc_Pagec (((List.length a0) : Nat) : Int) a0).bind fun r1 =>
  some r1
theorem slices_SortStableFunc_Page_le (a0 : Val (.slice TPage)) : Le (slices_SortStableFunc_Pagec a0) (slices_SortStableFunc_Page a0) := by unfold slices_SortStableFunc_Pagec slices_SortStableFunc_Page; exact (.bind (slices_stableCmpFunc_Page_le _ _) fun _ => .refl)
noncomputable def segment_ascendingc (a0 : Val (.slice TPage)) : Option ((Val (.slice TPage))) :=
  (slices_SortStableFunc_Pagec a0).bind fun r1 =>
  some r1
theorem segment_ascending_le (a0 : Val (.slice TPage)) : Le (segment_ascendingc a0) (segment_ascending a0) := by unfold segment_ascendingc segment_ascending; exact (.bind (slices_SortStableFunc_Page_le _) fun _ => .refl)
noncomputable def segment_Acquirec (a0 : Val TClaim) (a1 : Val (.slice TPage)) : Option ((Val (.slice (.int .i64))) × (Val (.slice TPage)) × Int × Int × Bool) :=
  (segment_isClient a0.1).bind fun r1 =>
  bif (!r1) then (
    some ([], ([], ((0 : Int), ((1 : Int), true)))))
  else (
    bif (decide (a0.2.1 < (1 : Int))) then (
      some ([], ([], ((0 : Int), ((1 : Int), true)))))
    else (
      bif (decide ((59 : Int) < a0.2.1)) then (
        some ([], ([], ((0 : Int), ((1 : Int), true)))))
      else (
        (segment_isSize a0.2.2.1).bind fun r2 =>
        bif (!r2) then (
          some ([], ([], ((0 : Int), ((1 : Int), true)))))
        else (
          bif (decide (a0.2.2.2.1 < (-1 : Int))) then (
            some ([], ([], ((0 : Int), ((1 : Int), true)))))
          else (
            bif (decide ((6 : Int) ≤ a0.2.2.2.1)) then (
              some ([], ([], ((0 : Int), ((1 : Int), true)))))
            else (
              bif (decide (a0.2.2.2.1 = a0.1)) then (
                some ([], ([], ((0 : Int), ((1 : Int), true)))))
              else (
                bif (!(decide (a0.2.2.2.1 = (-1 : Int)))) then (
                  (segment_missingc a1 ([(IntKind.wrap .i64 ((98 : Int) + a0.1))] ++ [(IntKind.wrap .i64 ((98 : Int) + a0.2.2.2.1))])).bind fun r3 =>
                  bif (decide ((0 : Int) < (((List.length r3) : Nat) : Int))) then (
                    some (r3, ([], ((0 : Int), ((0 : Int), false)))))
                  else (
                    (segment_nodec a1 a0.1).bind fun r4 =>
                    bif (!(decide (r4.2.2.2 = (0 : Int)))) then (
                      some ([], ([], ((0 : Int), (r4.2.2.2, true)))))
                    else (
                      bif (!(decide (a0.2.2.2.1 = (-1 : Int)))) then (
                        (segment_nodec a1 a0.2.2.2.1).bind fun r5 =>
                        bif (!(decide (r5.2.2.2 = (0 : Int)))) then (
                          some ([], ([], ((0 : Int), (r5.2.2.2, true)))))
                        else (
                          (segment_Count a0.2.2.1).bind fun r6 =>
                          bif (decide (a0.2.2.2.1 = (-1 : Int))) then (
                            (segment_ownedc (511 : Int) r6).bind fun r7 =>
                            (segment_headerLinesc r7).bind fun r8 =>
                            (segment_missingc a1 r8).bind fun r9 =>
                            bif (decide ((0 : Int) < (((List.length r9) : Nat) : Int))) then (
                              some (r9, ([], ((0 : Int), ((0 : Int), false)))))
                            else (
                              (segment_unownedc a1 a0.1 r6).bind fun r10 =>
                              bif (!r10.2) then (
                                some ([], ([], ((0 : Int), ((12 : Int), true)))))
                              else (
                                (segment_headerc a1 r10.1).bind fun r11 =>
                                bif (!r11.2.2.1) then (
                                  (segment_HeaderLine r10.1).bind fun r12 =>
                                  some ([r12], ([], ((0 : Int), ((0 : Int), false)))))
                                else (
                                  bif (!(decide (r11.2.2.2 = (0 : Int)))) then (
                                    some ([], ([], ((0 : Int), (r11.2.2.2, true)))))
                                  else (
                                    bif (!(decide (r11.2.1.1 = a0.2.2.2.1))) then (
                                      some ([], ([], ((0 : Int), ((11 : Int), true)))))
                                    else (
                                      bif (decide ((0 : Int) ≤ (IntKind.wrap .u64 r10.1))) then
                                      (segment_WriteNodec r4.1 (r4.2.1.1, (r4.2.1.2.1, ((IntKind.wrap .u32 ((BitVec.ofInt (IntKind.bits .u32) r4.2.1.2.2.1 ||| BitVec.ofInt (IntKind.bits .u32) (shiftL .u32 (1 : Int) (IntKind.wrap .u64 r10.1))).toNat : Int)), (a0.2.1, r4.2.1.2.2.2.2))))).bind fun r13 =>
                                      (segment_WriteHeader r11.1 (a0.1, r11.2.1.2)).bind fun r14 =>
                                      bif (!(decide (a0.2.2.2.1 = (-1 : Int)))) then (
                                        bif (decide ((0 : Int) ≤ (IntKind.wrap .u64 r10.1))) then
                                        (segment_WriteNodec r5.1 (r5.2.1.1, (r5.2.1.2.1, ((IntKind.wrap .u32 ((BitVec.ofInt (IntKind.bits .u32) r5.2.1.2.2.1 &&& ~~~ BitVec.ofInt (IntKind.bits .u32) (shiftL .u32 (1 : Int) (IntKind.wrap .u64 r10.1))).toNat : Int)), r5.2.1.2.2.2)))).bind fun r15 =>
                                        (segment_ascendingc ([r13.1, r14.1] ++ [r15.1])).bind fun r16 =>
                                        some ([], (r16, (r10.1, ((0 : Int), true))))
                                        else none)
                                      else (
                                        (segment_ascendingc [r13.1, r14.1]).bind fun r17 =>
                                        some ([], (r17, (r10.1, ((0 : Int), true)))))
                                      else none))))))
                          else (
                            (segment_ownedc r5.2.1.2.2.1 r6).bind fun r18 =>
                            bif (decide ((((List.length r18) : Nat) : Int) = (0 : Int))) then (
                              some ([], ([], ((0 : Int), ((16 : Int), true)))))
                            else (
                              bif (inR (0 : Int) (List.length r18)) then
                              (segment_headerc a1 (List.getD r18 0 (0 : Int))).bind fun r19 =>
                              bif (!r19.2.2.1) then (
                                (segment_HeaderLine (List.getD r18 0 (0 : Int))).bind fun r20 =>
                                some ([r20], ([], ((0 : Int), ((0 : Int), false)))))
                              else (
                                bif (!(decide (r19.2.2.2 = (0 : Int)))) then (
                                  some ([], ([], ((0 : Int), (r19.2.2.2, true)))))
                                else (
                                  bif (!(decide (r19.2.1.1 = a0.2.2.2.1))) then (
                                    some ([], ([], ((0 : Int), ((11 : Int), true)))))
                                  else (
                                    bif (decide ((0 : Int) ≤ (IntKind.wrap .u64 (List.getD r18 0 (0 : Int))))) then
                                    (segment_WriteNodec r4.1 (r4.2.1.1, (r4.2.1.2.1, ((IntKind.wrap .u32 ((BitVec.ofInt (IntKind.bits .u32) r4.2.1.2.2.1 ||| BitVec.ofInt (IntKind.bits .u32) (shiftL .u32 (1 : Int) (IntKind.wrap .u64 (List.getD r18 0 (0 : Int))))).toNat : Int)), (a0.2.1, r4.2.1.2.2.2.2))))).bind fun r21 =>
                                    (segment_WriteHeader r19.1 (a0.1, r19.2.1.2)).bind fun r22 =>
                                    bif (!(decide (a0.2.2.2.1 = (-1 : Int)))) then (
                                      bif (decide ((0 : Int) ≤ (IntKind.wrap .u64 (List.getD r18 0 (0 : Int))))) then
                                      (segment_WriteNodec r5.1 (r5.2.1.1, (r5.2.1.2.1, ((IntKind.wrap .u32 ((BitVec.ofInt (IntKind.bits .u32) r5.2.1.2.2.1 &&& ~~~ BitVec.ofInt (IntKind.bits .u32) (shiftL .u32 (1 : Int) (IntKind.wrap .u64 (List.getD r18 0 (0 : Int))))).toNat : Int)), r5.2.1.2.2.2)))).bind fun r23 =>
                                      (segment_ascendingc ([r21.1, r22.1] ++ [r23.1])).bind fun r24 =>
                                      some ([], (r24, ((List.getD r18 0 (0 : Int)), ((0 : Int), true))))
                                      else none)
                                    else (
                                      (segment_ascendingc [r21.1, r22.1]).bind fun r25 =>
                                      some ([], (r25, ((List.getD r18 0 (0 : Int)), ((0 : Int), true)))))
                                    else none)))
                              else none))))
                      else (
                        (segment_Count a0.2.2.1).bind fun r26 =>
                        bif (decide (a0.2.2.2.1 = (-1 : Int))) then (
                          (segment_ownedc (511 : Int) r26).bind fun r27 =>
                          (segment_headerLinesc r27).bind fun r28 =>
                          (segment_missingc a1 r28).bind fun r29 =>
                          bif (decide ((0 : Int) < (((List.length r29) : Nat) : Int))) then (
                            some (r29, ([], ((0 : Int), ((0 : Int), false)))))
                          else (
                            (segment_unownedc a1 a0.1 r26).bind fun r30 =>
                            bif (!r30.2) then (
                              some ([], ([], ((0 : Int), ((12 : Int), true)))))
                            else (
                              (segment_headerc a1 r30.1).bind fun r31 =>
                              bif (!r31.2.2.1) then (
                                (segment_HeaderLine r30.1).bind fun r32 =>
                                some ([r32], ([], ((0 : Int), ((0 : Int), false)))))
                              else (
                                bif (!(decide (r31.2.2.2 = (0 : Int)))) then (
                                  some ([], ([], ((0 : Int), (r31.2.2.2, true)))))
                                else (
                                  bif (!(decide (r31.2.1.1 = a0.2.2.2.1))) then (
                                    some ([], ([], ((0 : Int), ((11 : Int), true)))))
                                  else (
                                    bif (decide ((0 : Int) ≤ (IntKind.wrap .u64 r30.1))) then
                                    (segment_WriteNodec r4.1 (r4.2.1.1, (r4.2.1.2.1, ((IntKind.wrap .u32 ((BitVec.ofInt (IntKind.bits .u32) r4.2.1.2.2.1 ||| BitVec.ofInt (IntKind.bits .u32) (shiftL .u32 (1 : Int) (IntKind.wrap .u64 r30.1))).toNat : Int)), (a0.2.1, r4.2.1.2.2.2.2))))).bind fun r33 =>
                                    (segment_WriteHeader r31.1 (a0.1, r31.2.1.2)).bind fun r34 =>
                                    bif (!(decide (a0.2.2.2.1 = (-1 : Int)))) then (
                                      bif (decide ((0 : Int) ≤ (IntKind.wrap .u64 r30.1))) then
                                      (segment_WriteNodec ((0 : Int), ((0 : Int), ((List.replicate 7 (0 : Int)), ()))) (false, ((0 : Int), ((IntKind.wrap .u32 ((BitVec.ofInt (IntKind.bits .u32) (0 : Int) &&& ~~~ BitVec.ofInt (IntKind.bits .u32) (shiftL .u32 (1 : Int) (IntKind.wrap .u64 r30.1))).toNat : Int)), ((0 : Int), ((List.replicate 4 (((0 : Int), ((0 : Int), ())), ((0 : Int), ()))), ())))))).bind fun r35 =>
                                      (segment_ascendingc ([r33.1, r34.1] ++ [r35.1])).bind fun r36 =>
                                      some ([], (r36, (r30.1, ((0 : Int), true))))
                                      else none)
                                    else (
                                      (segment_ascendingc [r33.1, r34.1]).bind fun r37 =>
                                      some ([], (r37, (r30.1, ((0 : Int), true)))))
                                    else none))))))
                        else (
                          (segment_ownedc (0 : Int) r26).bind fun r38 =>
                          bif (decide ((((List.length r38) : Nat) : Int) = (0 : Int))) then (
                            some ([], ([], ((0 : Int), ((16 : Int), true)))))
                          else (
                            bif (inR (0 : Int) (List.length r38)) then
                            (segment_headerc a1 (List.getD r38 0 (0 : Int))).bind fun r39 =>
                            bif (!r39.2.2.1) then (
                              (segment_HeaderLine (List.getD r38 0 (0 : Int))).bind fun r40 =>
                              some ([r40], ([], ((0 : Int), ((0 : Int), false)))))
                            else (
                              bif (!(decide (r39.2.2.2 = (0 : Int)))) then (
                                some ([], ([], ((0 : Int), (r39.2.2.2, true)))))
                              else (
                                bif (!(decide (r39.2.1.1 = a0.2.2.2.1))) then (
                                  some ([], ([], ((0 : Int), ((11 : Int), true)))))
                                else (
                                  bif (decide ((0 : Int) ≤ (IntKind.wrap .u64 (List.getD r38 0 (0 : Int))))) then
                                  (segment_WriteNodec r4.1 (r4.2.1.1, (r4.2.1.2.1, ((IntKind.wrap .u32 ((BitVec.ofInt (IntKind.bits .u32) r4.2.1.2.2.1 ||| BitVec.ofInt (IntKind.bits .u32) (shiftL .u32 (1 : Int) (IntKind.wrap .u64 (List.getD r38 0 (0 : Int))))).toNat : Int)), (a0.2.1, r4.2.1.2.2.2.2))))).bind fun r41 =>
                                  (segment_WriteHeader r39.1 (a0.1, r39.2.1.2)).bind fun r42 =>
                                  bif (!(decide (a0.2.2.2.1 = (-1 : Int)))) then (
                                    bif (decide ((0 : Int) ≤ (IntKind.wrap .u64 (List.getD r38 0 (0 : Int))))) then
                                    (segment_WriteNodec ((0 : Int), ((0 : Int), ((List.replicate 7 (0 : Int)), ()))) (false, ((0 : Int), ((IntKind.wrap .u32 ((BitVec.ofInt (IntKind.bits .u32) (0 : Int) &&& ~~~ BitVec.ofInt (IntKind.bits .u32) (shiftL .u32 (1 : Int) (IntKind.wrap .u64 (List.getD r38 0 (0 : Int))))).toNat : Int)), ((0 : Int), ((List.replicate 4 (((0 : Int), ((0 : Int), ())), ((0 : Int), ()))), ())))))).bind fun r43 =>
                                    (segment_ascendingc ([r41.1, r42.1] ++ [r43.1])).bind fun r44 =>
                                    some ([], (r44, ((List.getD r38 0 (0 : Int)), ((0 : Int), true))))
                                    else none)
                                  else (
                                    (segment_ascendingc [r41.1, r42.1]).bind fun r45 =>
                                    some ([], (r45, ((List.getD r38 0 (0 : Int)), ((0 : Int), true)))))
                                  else none)))
                            else none))))))
                else (
                  (segment_missingc a1 [(IntKind.wrap .i64 ((98 : Int) + a0.1))]).bind fun r46 =>
                  bif (decide ((0 : Int) < (((List.length r46) : Nat) : Int))) then (
                    some (r46, ([], ((0 : Int), ((0 : Int), false)))))
                  else (
                    (segment_nodec a1 a0.1).bind fun r47 =>
                    bif (!(decide (r47.2.2.2 = (0 : Int)))) then (
                      some ([], ([], ((0 : Int), (r47.2.2.2, true)))))
                    else (
                      bif (!(decide (a0.2.2.2.1 = (-1 : Int)))) then (
                        (segment_nodec a1 a0.2.2.2.1).bind fun r48 =>
                        bif (!(decide (r48.2.2.2 = (0 : Int)))) then (
                          some ([], ([], ((0 : Int), (r48.2.2.2, true)))))
                        else (
                          (segment_Count a0.2.2.1).bind fun r49 =>
                          bif (decide (a0.2.2.2.1 = (-1 : Int))) then (
                            (segment_ownedc (511 : Int) r49).bind fun r50 =>
                            (segment_headerLinesc r50).bind fun r51 =>
                            (segment_missingc a1 r51).bind fun r52 =>
                            bif (decide ((0 : Int) < (((List.length r52) : Nat) : Int))) then (
                              some (r52, ([], ((0 : Int), ((0 : Int), false)))))
                            else (
                              (segment_unownedc a1 a0.1 r49).bind fun r53 =>
                              bif (!r53.2) then (
                                some ([], ([], ((0 : Int), ((12 : Int), true)))))
                              else (
                                (segment_headerc a1 r53.1).bind fun r54 =>
                                bif (!r54.2.2.1) then (
                                  (segment_HeaderLine r53.1).bind fun r55 =>
                                  some ([r55], ([], ((0 : Int), ((0 : Int), false)))))
                                else (
                                  bif (!(decide (r54.2.2.2 = (0 : Int)))) then (
                                    some ([], ([], ((0 : Int), (r54.2.2.2, true)))))
                                  else (
                                    bif (!(decide (r54.2.1.1 = a0.2.2.2.1))) then (
                                      some ([], ([], ((0 : Int), ((11 : Int), true)))))
                                    else (
                                      bif (decide ((0 : Int) ≤ (IntKind.wrap .u64 r53.1))) then
                                      (segment_WriteNodec r47.1 (r47.2.1.1, (r47.2.1.2.1, ((IntKind.wrap .u32 ((BitVec.ofInt (IntKind.bits .u32) r47.2.1.2.2.1 ||| BitVec.ofInt (IntKind.bits .u32) (shiftL .u32 (1 : Int) (IntKind.wrap .u64 r53.1))).toNat : Int)), (a0.2.1, r47.2.1.2.2.2.2))))).bind fun r56 =>
                                      (segment_WriteHeader r54.1 (a0.1, r54.2.1.2)).bind fun r57 =>
                                      bif (!(decide (a0.2.2.2.1 = (-1 : Int)))) then (
                                        bif (decide ((0 : Int) ≤ (IntKind.wrap .u64 r53.1))) then
                                        (segment_WriteNodec r48.1 (r48.2.1.1, (r48.2.1.2.1, ((IntKind.wrap .u32 ((BitVec.ofInt (IntKind.bits .u32) r48.2.1.2.2.1 &&& ~~~ BitVec.ofInt (IntKind.bits .u32) (shiftL .u32 (1 : Int) (IntKind.wrap .u64 r53.1))).toNat : Int)), r48.2.1.2.2.2)))).bind fun r58 =>
                                        (segment_ascendingc ([r56.1, r57.1] ++ [r58.1])).bind fun r59 =>
                                        some ([], (r59, (r53.1, ((0 : Int), true))))
                                        else none)
                                      else (
                                        (segment_ascendingc [r56.1, r57.1]).bind fun r60 =>
                                        some ([], (r60, (r53.1, ((0 : Int), true)))))
                                      else none))))))
                          else (
                            (segment_ownedc r48.2.1.2.2.1 r49).bind fun r61 =>
                            bif (decide ((((List.length r61) : Nat) : Int) = (0 : Int))) then (
                              some ([], ([], ((0 : Int), ((16 : Int), true)))))
                            else (
                              bif (inR (0 : Int) (List.length r61)) then
                              (segment_headerc a1 (List.getD r61 0 (0 : Int))).bind fun r62 =>
                              bif (!r62.2.2.1) then (
                                (segment_HeaderLine (List.getD r61 0 (0 : Int))).bind fun r63 =>
                                some ([r63], ([], ((0 : Int), ((0 : Int), false)))))
                              else (
                                bif (!(decide (r62.2.2.2 = (0 : Int)))) then (
                                  some ([], ([], ((0 : Int), (r62.2.2.2, true)))))
                                else (
                                  bif (!(decide (r62.2.1.1 = a0.2.2.2.1))) then (
                                    some ([], ([], ((0 : Int), ((11 : Int), true)))))
                                  else (
                                    bif (decide ((0 : Int) ≤ (IntKind.wrap .u64 (List.getD r61 0 (0 : Int))))) then
                                    (segment_WriteNodec r47.1 (r47.2.1.1, (r47.2.1.2.1, ((IntKind.wrap .u32 ((BitVec.ofInt (IntKind.bits .u32) r47.2.1.2.2.1 ||| BitVec.ofInt (IntKind.bits .u32) (shiftL .u32 (1 : Int) (IntKind.wrap .u64 (List.getD r61 0 (0 : Int))))).toNat : Int)), (a0.2.1, r47.2.1.2.2.2.2))))).bind fun r64 =>
                                    (segment_WriteHeader r62.1 (a0.1, r62.2.1.2)).bind fun r65 =>
                                    bif (!(decide (a0.2.2.2.1 = (-1 : Int)))) then (
                                      bif (decide ((0 : Int) ≤ (IntKind.wrap .u64 (List.getD r61 0 (0 : Int))))) then
                                      (segment_WriteNodec r48.1 (r48.2.1.1, (r48.2.1.2.1, ((IntKind.wrap .u32 ((BitVec.ofInt (IntKind.bits .u32) r48.2.1.2.2.1 &&& ~~~ BitVec.ofInt (IntKind.bits .u32) (shiftL .u32 (1 : Int) (IntKind.wrap .u64 (List.getD r61 0 (0 : Int))))).toNat : Int)), r48.2.1.2.2.2)))).bind fun r66 =>
                                      (segment_ascendingc ([r64.1, r65.1] ++ [r66.1])).bind fun r67 =>
                                      some ([], (r67, ((List.getD r61 0 (0 : Int)), ((0 : Int), true))))
                                      else none)
                                    else (
                                      (segment_ascendingc [r64.1, r65.1]).bind fun r68 =>
                                      some ([], (r68, ((List.getD r61 0 (0 : Int)), ((0 : Int), true)))))
                                    else none)))
                              else none))))
                      else (
                        (segment_Count a0.2.2.1).bind fun r69 =>
                        bif (decide (a0.2.2.2.1 = (-1 : Int))) then (
                          (segment_ownedc (511 : Int) r69).bind fun r70 =>
                          (segment_headerLinesc r70).bind fun r71 =>
                          (segment_missingc a1 r71).bind fun r72 =>
                          bif (decide ((0 : Int) < (((List.length r72) : Nat) : Int))) then (
                            some (r72, ([], ((0 : Int), ((0 : Int), false)))))
                          else (
                            (segment_unownedc a1 a0.1 r69).bind fun r73 =>
                            bif (!r73.2) then (
                              some ([], ([], ((0 : Int), ((12 : Int), true)))))
                            else (
                              (segment_headerc a1 r73.1).bind fun r74 =>
                              bif (!r74.2.2.1) then (
                                (segment_HeaderLine r73.1).bind fun r75 =>
                                some ([r75], ([], ((0 : Int), ((0 : Int), false)))))
                              else (
                                bif (!(decide (r74.2.2.2 = (0 : Int)))) then (
                                  some ([], ([], ((0 : Int), (r74.2.2.2, true)))))
                                else (
                                  bif (!(decide (r74.2.1.1 = a0.2.2.2.1))) then (
                                    some ([], ([], ((0 : Int), ((11 : Int), true)))))
                                  else (
                                    bif (decide ((0 : Int) ≤ (IntKind.wrap .u64 r73.1))) then
                                    (segment_WriteNodec r47.1 (r47.2.1.1, (r47.2.1.2.1, ((IntKind.wrap .u32 ((BitVec.ofInt (IntKind.bits .u32) r47.2.1.2.2.1 ||| BitVec.ofInt (IntKind.bits .u32) (shiftL .u32 (1 : Int) (IntKind.wrap .u64 r73.1))).toNat : Int)), (a0.2.1, r47.2.1.2.2.2.2))))).bind fun r76 =>
                                    (segment_WriteHeader r74.1 (a0.1, r74.2.1.2)).bind fun r77 =>
                                    bif (!(decide (a0.2.2.2.1 = (-1 : Int)))) then (
                                      bif (decide ((0 : Int) ≤ (IntKind.wrap .u64 r73.1))) then
                                      (segment_WriteNodec ((0 : Int), ((0 : Int), ((List.replicate 7 (0 : Int)), ()))) (false, ((0 : Int), ((IntKind.wrap .u32 ((BitVec.ofInt (IntKind.bits .u32) (0 : Int) &&& ~~~ BitVec.ofInt (IntKind.bits .u32) (shiftL .u32 (1 : Int) (IntKind.wrap .u64 r73.1))).toNat : Int)), ((0 : Int), ((List.replicate 4 (((0 : Int), ((0 : Int), ())), ((0 : Int), ()))), ())))))).bind fun r78 =>
                                      (segment_ascendingc ([r76.1, r77.1] ++ [r78.1])).bind fun r79 =>
                                      some ([], (r79, (r73.1, ((0 : Int), true))))
                                      else none)
                                    else (
                                      (segment_ascendingc [r76.1, r77.1]).bind fun r80 =>
                                      some ([], (r80, (r73.1, ((0 : Int), true)))))
                                    else none))))))
                        else (
                          (segment_ownedc (0 : Int) r69).bind fun r81 =>
                          bif (decide ((((List.length r81) : Nat) : Int) = (0 : Int))) then (
                            some ([], ([], ((0 : Int), ((16 : Int), true)))))
                          else (
                            bif (inR (0 : Int) (List.length r81)) then
                            (segment_headerc a1 (List.getD r81 0 (0 : Int))).bind fun r82 =>
                            bif (!r82.2.2.1) then (
                              (segment_HeaderLine (List.getD r81 0 (0 : Int))).bind fun r83 =>
                              some ([r83], ([], ((0 : Int), ((0 : Int), false)))))
                            else (
                              bif (!(decide (r82.2.2.2 = (0 : Int)))) then (
                                some ([], ([], ((0 : Int), (r82.2.2.2, true)))))
                              else (
                                bif (!(decide (r82.2.1.1 = a0.2.2.2.1))) then (
                                  some ([], ([], ((0 : Int), ((11 : Int), true)))))
                                else (
                                  bif (decide ((0 : Int) ≤ (IntKind.wrap .u64 (List.getD r81 0 (0 : Int))))) then
                                  (segment_WriteNodec r47.1 (r47.2.1.1, (r47.2.1.2.1, ((IntKind.wrap .u32 ((BitVec.ofInt (IntKind.bits .u32) r47.2.1.2.2.1 ||| BitVec.ofInt (IntKind.bits .u32) (shiftL .u32 (1 : Int) (IntKind.wrap .u64 (List.getD r81 0 (0 : Int))))).toNat : Int)), (a0.2.1, r47.2.1.2.2.2.2))))).bind fun r84 =>
                                  (segment_WriteHeader r82.1 (a0.1, r82.2.1.2)).bind fun r85 =>
                                  bif (!(decide (a0.2.2.2.1 = (-1 : Int)))) then (
                                    bif (decide ((0 : Int) ≤ (IntKind.wrap .u64 (List.getD r81 0 (0 : Int))))) then
                                    (segment_WriteNodec ((0 : Int), ((0 : Int), ((List.replicate 7 (0 : Int)), ()))) (false, ((0 : Int), ((IntKind.wrap .u32 ((BitVec.ofInt (IntKind.bits .u32) (0 : Int) &&& ~~~ BitVec.ofInt (IntKind.bits .u32) (shiftL .u32 (1 : Int) (IntKind.wrap .u64 (List.getD r81 0 (0 : Int))))).toNat : Int)), ((0 : Int), ((List.replicate 4 (((0 : Int), ((0 : Int), ())), ((0 : Int), ()))), ())))))).bind fun r86 =>
                                    (segment_ascendingc ([r84.1, r85.1] ++ [r86.1])).bind fun r87 =>
                                    some ([], (r87, ((List.getD r81 0 (0 : Int)), ((0 : Int), true))))
                                    else none)
                                  else (
                                    (segment_ascendingc [r84.1, r85.1]).bind fun r88 =>
                                    some ([], (r88, ((List.getD r81 0 (0 : Int)), ((0 : Int), true)))))
                                  else none)))
                            else none)))))))))))))
theorem segment_Acquire_le (a0 : Val TClaim) (a1 : Val (.slice TPage)) : Le (segment_Acquirec a0 a1) (segment_Acquire a0 a1) := by unfold segment_Acquirec segment_Acquire; exact (.bind .refl fun _ => (.cond .refl (.cond .refl (.cond .refl (.bind .refl fun _ => (.cond .refl (.cond .refl (.cond .refl (.cond .refl (.cond (.bind (segment_missing_le _ _) fun _ => (.cond .refl (.bind (segment_node_le _ _) fun _ => (.cond .refl (.cond (.bind (segment_node_le _ _) fun _ => (.cond .refl (.bind .refl fun _ => (.cond (.bind (segment_owned_le _ _) fun _ => (.bind (segment_headerLines_le _) fun _ => (.bind (segment_missing_le _ _) fun _ => (.cond .refl (.bind (segment_unowned_le _ _ _) fun _ => (.cond .refl (.bind (segment_header_le _ _) fun _ => (.cond .refl (.cond .refl (.cond .refl (.cond (.bind (segment_WriteNode_le _ _) fun _ => (.bind .refl fun _ => (.cond (.cond (.bind (segment_WriteNode_le _ _) fun _ => (.bind (segment_ascending_le _) fun _ => .refl)) .refl) (.bind (segment_ascending_le _) fun _ => .refl)))) .refl))))))))))) (.bind (segment_owned_le _ _) fun _ => (.cond .refl (.cond (.bind (segment_header_le _ _) fun _ => (.cond .refl (.cond .refl (.cond .refl (.cond (.bind (segment_WriteNode_le _ _) fun _ => (.bind .refl fun _ => (.cond (.cond (.bind (segment_WriteNode_le _ _) fun _ => (.bind (segment_ascending_le _) fun _ => .refl)) .refl) (.bind (segment_ascending_le _) fun _ => .refl)))) .refl))))) .refl))))))) (.bind .refl fun _ => (.cond (.bind (segment_owned_le _ _) fun _ => (.bind (segment_headerLines_le _) fun _ => (.bind (segment_missing_le _ _) fun _ => (.cond .refl (.bind (segment_unowned_le _ _ _) fun _ => (.cond .refl (.bind (segment_header_le _ _) fun _ => (.cond .refl (.cond .refl (.cond .refl (.cond (.bind (segment_WriteNode_le _ _) fun _ => (.bind .refl fun _ => (.cond (.cond (.bind (segment_WriteNode_le _ _) fun _ => (.bind (segment_ascending_le _) fun _ => .refl)) .refl) (.bind (segment_ascending_le _) fun _ => .refl)))) .refl))))))))))) (.bind (segment_owned_le _ _) fun _ => (.cond .refl (.cond (.bind (segment_header_le _ _) fun _ => (.cond .refl (.cond .refl (.cond .refl (.cond (.bind (segment_WriteNode_le _ _) fun _ => (.bind .refl fun _ => (.cond (.cond (.bind (segment_WriteNode_le _ _) fun _ => (.bind (segment_ascending_le _) fun _ => .refl)) .refl) (.bind (segment_ascending_le _) fun _ => .refl)))) .refl))))) .refl)))))))))) (.bind (segment_missing_le _ _) fun _ => (.cond .refl (.bind (segment_node_le _ _) fun _ => (.cond .refl (.cond (.bind (segment_node_le _ _) fun _ => (.cond .refl (.bind .refl fun _ => (.cond (.bind (segment_owned_le _ _) fun _ => (.bind (segment_headerLines_le _) fun _ => (.bind (segment_missing_le _ _) fun _ => (.cond .refl (.bind (segment_unowned_le _ _ _) fun _ => (.cond .refl (.bind (segment_header_le _ _) fun _ => (.cond .refl (.cond .refl (.cond .refl (.cond (.bind (segment_WriteNode_le _ _) fun _ => (.bind .refl fun _ => (.cond (.cond (.bind (segment_WriteNode_le _ _) fun _ => (.bind (segment_ascending_le _) fun _ => .refl)) .refl) (.bind (segment_ascending_le _) fun _ => .refl)))) .refl))))))))))) (.bind (segment_owned_le _ _) fun _ => (.cond .refl (.cond (.bind (segment_header_le _ _) fun _ => (.cond .refl (.cond .refl (.cond .refl (.cond (.bind (segment_WriteNode_le _ _) fun _ => (.bind .refl fun _ => (.cond (.cond (.bind (segment_WriteNode_le _ _) fun _ => (.bind (segment_ascending_le _) fun _ => .refl)) .refl) (.bind (segment_ascending_le _) fun _ => .refl)))) .refl))))) .refl))))))) (.bind .refl fun _ => (.cond (.bind (segment_owned_le _ _) fun _ => (.bind (segment_headerLines_le _) fun _ => (.bind (segment_missing_le _ _) fun _ => (.cond .refl (.bind (segment_unowned_le _ _ _) fun _ => (.cond .refl (.bind (segment_header_le _ _) fun _ => (.cond .refl (.cond .refl (.cond .refl (.cond (.bind (segment_WriteNode_le _ _) fun _ => (.bind .refl fun _ => (.cond (.cond (.bind (segment_WriteNode_le _ _) fun _ => (.bind (segment_ascending_le _) fun _ => .refl)) .refl) (.bind (segment_ascending_le _) fun _ => .refl)))) .refl))))))))))) (.bind (segment_owned_le _ _) fun _ => (.cond .refl (.cond (.bind (segment_header_le _ _) fun _ => (.cond .refl (.cond .refl (.cond .refl (.cond (.bind (segment_WriteNode_le _ _) fun _ => (.bind .refl fun _ => (.cond (.cond (.bind (segment_WriteNode_le _ _) fun _ => (.bind (segment_ascending_le _) fun _ => .refl)) .refl) (.bind (segment_ascending_le _) fun _ => .refl)))) .refl))))) .refl))))))))))))))))))))
noncomputable def law20_awakec  : Option Bool :=
  (heap_Newc (256 : Int)).bind fun r1 =>
  (segment_Acquirec ((1 : Int), ((1 : Int), ((256 : Int), ((-1 : Int), ())))) []).bind fun r2 =>
  (segment_Acquirec ((1 : Int), ((1 : Int), ((256 : Int), ((-1 : Int), ())))) r1.2.2.2).bind fun r3 =>
  bif (!r2.2.2.2.2) then (
    bif (decide ((((List.length r2.1) : Nat) : Int) = (1 : Int))) then (
      bif r3.2.2.2.2 then (
        bif (decide (r3.2.2.2.1 = (0 : Int))) then (
          bif (decide (r3.2.2.1 = (1 : Int))) then (
            some (decide ((((List.length r3.2.1) : Nat) : Int) = (2 : Int))))
          else (
            some false))
        else (
          some false))
      else (
        some false))
    else (
      some false))
  else (
    some false)
theorem law20_awake_le  : Le (law20_awakec ) (law20_awake ) := by unfold law20_awakec law20_awake; exact (.bind (heap_New_le _) fun _ => (.bind (segment_Acquire_le _ _) fun _ => (.bind (segment_Acquire_le _ _) fun _ => .refl)))
end Go.Sx
