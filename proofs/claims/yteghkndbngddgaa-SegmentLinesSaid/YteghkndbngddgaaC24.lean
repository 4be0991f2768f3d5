/- C24: printed by a program of this session: the functions of the seat as plain functions, and that the code comes to them. -/
import Derived.Test.YteghkndbngddgaaA2
import Derived.Test.YteghkndbngddgaaPuB
set_option linter.unusedVariables false
set_option maxRecDepth 100000
namespace Go.Sx
noncomputable def f40l1bc (x0 : Int) (x1 : Int) (x2 : Int) (x3 : Int) (x4 : Val (.pair (.int .i64) THead)) (x5 : Val (.slice TPage)) : Option ((Int × Int × Int × Int × (Val (.pair (.int .i64) THead)) × (Val (.slice TPage))) ⊕ (Int × Int × (Val (.pair (.int .i64) THead)) × (Val (.slice TPage)))) :=
  bif (decide (x1 < x0)) then (
    bif (decide (((List.length x5) + 1) ≤ lim)) then
    some (Sum.inl (x0, ((IntKind.wrap .i64 (x1 + (1 : Int))), (x2, (x3, (x4, (x5 ++ [(x1, ((256 : Int), ((List.replicate 7 (0 : Int)), ())))])))))))
    else none)
  else (
    some (Sum.inr (x2, (x3, (x4, x5)))))
noncomputable def f40l1c (x0 : Int) (x1 : Int) (x2 : Int) (x3 : Int) (x4 : Val (.pair (.int .i64) THead)) (x5 : Val (.slice TPage)) : Option (Int × Int × (Val (.pair (.int .i64) THead)) × (Val (.slice TPage))) := iterN (fun y : Int × Int × Int × Int × (Val (.pair (.int .i64) THead)) × (Val (.slice TPage)) => f40l1bc y.1 y.2.1 y.2.2.1 y.2.2.2.1 y.2.2.2.2.1 y.2.2.2.2.2) 200 (x0, (x1, (x2, (x3, (x4, x5)))))
theorem f40l1_le (x0 : Int) (x1 : Int) (x2 : Int) (x3 : Int) (x4 : Val (.pair (.int .i64) THead)) (x5 : Val (.slice TPage)) : Le (f40l1c x0 x1 x2 x3 x4 x5) (f40l1 x0 x1 x2 x3 x4 x5) :=
  .iter fun y => show Le (f40l1bc y.1 y.2.1 y.2.2.1 y.2.2.2.1 y.2.2.2.2.1 y.2.2.2.2.2) (f40l1b y.1 y.2.1 y.2.2.1 y.2.2.2.1 y.2.2.2.2.1 y.2.2.2.2.2) from by unfold f40l1bc f40l1b; exact .refl
noncomputable def f40c (a0 : Int) : Option (Int × Int × (Val (.pair (.int .i64) THead)) × (Val (.slice TPage))) :=
  (f40l1c a0 (96 : Int) a0 (0 : Int) ((1 : Int), ((0 : Int), ((1 : Int), ()))) []).bind fun r1 =>
  some (r1.1, (r1.2.1, (r1.2.2.1, r1.2.2.2)))
theorem f40_le (a0 : Int) : Le (f40c a0) (f40 a0) := by unfold f40c f40; exact (.bind (f40l1_le _ _ _ _ _ _) fun _ => .refl)
noncomputable def f71l1bc (x0 : Val (.slice TPage)) (x1 : Int) (x2 : Int) (x3 : Val TPage) : Option (((Val (.slice TPage)) × Int × Int × (Val TPage)) ⊕ (((Val TPage)) ⊕ (Bool × (Val TPage)))) :=
  bif (decide ((0 : Int) ≤ x2)) then (
    bif (inR x2 (List.length x0)) then
    bif (decide ((List.getD x0 (Int.toNat x2) ((0 : Int), ((0 : Int), ((List.replicate 7 (0 : Int)), ())))).1 = x1)) then (
      bif (inR x2 (List.length x0)) then
      some (Sum.inr (Sum.inr (true, (List.getD x0 (Int.toNat x2) ((0 : Int), ((0 : Int), ((List.replicate 7 (0 : Int)), ())))))))
      else none)
    else (
      some (Sum.inl (x0, (x1, ((IntKind.wrap .i64 (x2 - (1 : Int))), x3)))))
    else none)
  else (
    some (Sum.inr (Sum.inl x3)))
noncomputable def f71l1c (x0 : Val (.slice TPage)) (x1 : Int) (x2 : Int) (x3 : Val TPage) : Option (((Val TPage)) ⊕ (Bool × (Val TPage))) := iterN (fun y : (Val (.slice TPage)) × Int × Int × (Val TPage) => f71l1bc y.1 y.2.1 y.2.2.1 y.2.2.2) 200 (x0, (x1, (x2, x3)))
theorem f71l1_le (x0 : Val (.slice TPage)) (x1 : Int) (x2 : Int) (x3 : Val TPage) : Le (f71l1c x0 x1 x2 x3) (f71l1 x0 x1 x2 x3) :=
  .iter fun y => show Le (f71l1bc y.1 y.2.1 y.2.2.1 y.2.2.2) (f71l1b y.1 y.2.1 y.2.2.1 y.2.2.2) from by unfold f71l1bc f71l1b; exact .refl
noncomputable def f71c (a0 : Val (.slice TPage)) (a1 : Int) : Option ((Val TPage) × Bool) :=
  (f71l1c a0 a1 (IntKind.wrap .i64 ((((List.length a0) : Nat) : Int) - (1 : Int))) ((0 : Int), ((0 : Int), ((List.replicate 7 (0 : Int)), ())))).bind fun r1 =>
  match r1 with
  | .inl r2 => (
    some (((0 : Int), ((0 : Int), ((List.replicate 7 (0 : Int)), ()))), false))
  | .inr r3 => (
    some (r3.2, r3.1))
theorem f71_le (a0 : Val (.slice TPage)) (a1 : Int) : Le (f71c a0 a1) (f71 a0 a1) := by unfold f71c f71; exact (.bind (f71l1_le _ _ _ _) fun _ => .refl)
noncomputable def f100l1bc (x0 : Int) (x1 : Int) (x2 : Int) (x3 : Int) (x4 : Val (.slice (.int .i64))) : Option ((Int × Int × Int × Int × (Val (.slice (.int .i64)))) ⊕ (Int × Int × Int × (Val (.slice (.int .i64))))) :=
  bif (decide (x0 < x3)) then (
    bif (inR x3 (List.length x4)) then
    bif (inR (IntKind.wrap .i64 (x3 - (1 : Int))) (List.length x4)) then
    (f106 (List.getD x4 (Int.toNat x3) (0 : Int)) (List.getD x4 (Int.toNat (IntKind.wrap .i64 (x3 - (1 : Int)))) (0 : Int))).bind fun r1 =>
    bif r1 then (
      bif (inR (IntKind.wrap .i64 (x3 - (1 : Int))) (List.length x4)) then
      bif (inR x3 (List.length x4)) then
      bif (inR x3 (List.length x4)) then
      none
      else none
      else none
      else none)
    else (
      some (Sum.inr (x0, (x1, (x2, x4)))))
    else none
    else none)
  else (
    some (Sum.inr (x0, (x1, (x2, x4)))))
noncomputable def f100l1c (x0 : Int) (x1 : Int) (x2 : Int) (x3 : Int) (x4 : Val (.slice (.int .i64))) : Option (Int × Int × Int × (Val (.slice (.int .i64)))) := iterN (fun y : Int × Int × Int × Int × (Val (.slice (.int .i64))) => f100l1bc y.1 y.2.1 y.2.2.1 y.2.2.2.1 y.2.2.2.2) 200 (x0, (x1, (x2, (x3, x4))))
theorem f100l1_le (x0 : Int) (x1 : Int) (x2 : Int) (x3 : Int) (x4 : Val (.slice (.int .i64))) : Le (f100l1c x0 x1 x2 x3 x4) (f100l1 x0 x1 x2 x3 x4) :=
  .iter fun y => show Le (f100l1bc y.1 y.2.1 y.2.2.1 y.2.2.2.1 y.2.2.2.2) (f100l1b y.1 y.2.1 y.2.2.1 y.2.2.2.1 y.2.2.2.2) from by unfold f100l1bc f100l1b; exact .refl
noncomputable def f100l2bc (x0 : Int) (x1 : Int) (x2 : Int) (x3 : Val (.slice (.int .i64))) : Option ((Int × Int × Int × (Val (.slice (.int .i64)))) ⊕ ((Val (.slice (.int .i64))))) :=
  bif (decide (x2 < x1)) then (
    (f100l1c x0 x1 x2 x2 x3).bind fun r1 =>
    some (Sum.inl (r1.1, (r1.2.1, ((IntKind.wrap .i64 (r1.2.2.1 + (1 : Int))), r1.2.2.2)))))
  else (
    some (Sum.inr x3))
noncomputable def f100l2c (x0 : Int) (x1 : Int) (x2 : Int) (x3 : Val (.slice (.int .i64))) : Option ((Val (.slice (.int .i64)))) := iterN (fun y : Int × Int × Int × (Val (.slice (.int .i64))) => f100l2bc y.1 y.2.1 y.2.2.1 y.2.2.2) 200 (x0, (x1, (x2, x3)))
theorem f100l2_le (x0 : Int) (x1 : Int) (x2 : Int) (x3 : Val (.slice (.int .i64))) : Le (f100l2c x0 x1 x2 x3) (f100l2 x0 x1 x2 x3) :=
  .iter fun y => show Le (f100l2bc y.1 y.2.1 y.2.2.1 y.2.2.2) (f100l2b y.1 y.2.1 y.2.2.1 y.2.2.2) from by unfold f100l2bc f100l2b; exact (.cond (.bind (f100l1_le _ _ _ _ _) fun _ => .refl) .refl)
noncomputable def f100c (a0 : Int) (a1 : Int) (a2 : Val (.slice (.int .i64))) : Option ((Val (.slice (.int .i64)))) :=
  (f100l2c a0 a1 (IntKind.wrap .i64 (a0 + (1 : Int))) a2).bind fun r1 =>
  some r1
theorem f100_le (a0 : Int) (a1 : Int) (a2 : Val (.slice (.int .i64))) : Le (f100c a0 a1 a2) (f100 a0 a1 a2) := by unfold f100c f100; exact (.bind (f100l2_le _ _ _ _) fun _ => .refl)
noncomputable def f96l1bc (x0 : Int) (x1 : Int) (x2 : Int) (x3 : Bool) (x4 : Bool) (x5 : Val (.slice (.int .i64))) : Option ((Int × Int × Int × Bool × Bool × (Val (.slice (.int .i64)))) ⊕ ((Val (.slice (.int .i64))))) :=
  bif (decide ((IntKind.wrap .i64 (x1 - x0)) ≤ (12 : Int))) then (
    (f100c x0 x1 x5).bind fun r1 =>
    some (Sum.inr r1))
  else (
    bif (decide (x2 = (0 : Int))) then (
      none)
    else (
      bif (!x3) then (
        none)
      else (
        none)))
noncomputable def f96l1c (x0 : Int) (x1 : Int) (x2 : Int) (x3 : Bool) (x4 : Bool) (x5 : Val (.slice (.int .i64))) : Option ((Val (.slice (.int .i64)))) := iterN (fun y : Int × Int × Int × Bool × Bool × (Val (.slice (.int .i64))) => f96l1bc y.1 y.2.1 y.2.2.1 y.2.2.2.1 y.2.2.2.2.1 y.2.2.2.2.2) 200 (x0, (x1, (x2, (x3, (x4, x5)))))
theorem f96l1_le (x0 : Int) (x1 : Int) (x2 : Int) (x3 : Bool) (x4 : Bool) (x5 : Val (.slice (.int .i64))) : Le (f96l1c x0 x1 x2 x3 x4 x5) (f96l1 x0 x1 x2 x3 x4 x5) :=
  .iter fun y => show Le (f96l1bc y.1 y.2.1 y.2.2.1 y.2.2.2.1 y.2.2.2.2.1 y.2.2.2.2.2) (f96l1b y.1 y.2.1 y.2.2.1 y.2.2.2.1 y.2.2.2.2.1 y.2.2.2.2.2) from by unfold f96l1bc f96l1b; exact (.cond (.bind (f100_le _ _ _) fun _ => .refl) .refl)
noncomputable def f96c (a0 : Int) (a1 : Int) (a2 : Int) (a3 : Val (.slice (.int .i64))) : Option ((Val (.slice (.int .i64)))) :=
  (f96l1c a0 a1 a2 true true a3).bind fun r1 =>
  some r1
theorem f96_le (a0 : Int) (a1 : Int) (a2 : Int) (a3 : Val (.slice (.int .i64))) : Le (f96c a0 a1 a2 a3) (f96 a0 a1 a2 a3) := by unfold f96c f96; exact (.bind (f96l1_le _ _ _ _ _ _) fun _ => .refl)
noncomputable def f88c (a0 : Val (.slice (.int .i64))) : Option ((Val (.slice (.int .i64)))) :=
  (f97 (IntKind.wrap .u64 (((List.length a0) : Nat) : Int))).bind fun r1 =>
  (f96c (0 : Int) (((List.length a0) : Nat) : Int) r1 a0).bind fun r2 =>
  some r2
theorem f88_le (a0 : Val (.slice (.int .i64))) : Le (f88c a0) (f88 a0) := by unfold f88c f88; exact (.bind .refl fun _ => (.bind (f96_le _ _ _ _) fun _ => .refl))
noncomputable def f89l1bc (x0 : Int) (x1 : Nat) (x2 : Nat) (x3 : Int) (x4 : Val (.slice (.int .i64))) : Option ((Int × Nat × Nat × Int × (Val (.slice (.int .i64)))) ⊕ (Int × (Val (.slice (.int .i64))))) :=
  bif (decide (x3 < (((x2 : Nat) : Int) - ((x1 : Nat) : Int)))) then (
    bif (inR x3 (x2 - x1)) then
    bif (inR (IntKind.wrap .i64 (x3 - (1 : Int))) (x2 - x1)) then
    bif (!(decide ((List.getD x4 (x1 + (Int.toNat x3)) (0 : Int)) = (List.getD x4 (x1 + (Int.toNat (IntKind.wrap .i64 (x3 - (1 : Int))))) (0 : Int))))) then (
      bif (inR x3 (x2 - x1)) then
      bif (inR x0 (List.length x4)) then
      some (Sum.inl ((IntKind.wrap .i64 (x0 + (1 : Int))), (x1, (x2, ((IntKind.wrap .i64 (x3 + (1 : Int))), (List.set x4 (Int.toNat x0) (List.getD x4 (x1 + (Int.toNat x3)) (0 : Int))))))))
      else none
      else none)
    else (
      some (Sum.inl (x0, (x1, (x2, ((IntKind.wrap .i64 (x3 + (1 : Int))), x4))))))
    else none
    else none)
  else (
    some (Sum.inr (x0, x4)))
noncomputable def f89l1c (x0 : Int) (x1 : Nat) (x2 : Nat) (x3 : Int) (x4 : Val (.slice (.int .i64))) : Option (Int × (Val (.slice (.int .i64)))) := iterN (fun y : Int × Nat × Nat × Int × (Val (.slice (.int .i64))) => f89l1bc y.1 y.2.1 y.2.2.1 y.2.2.2.1 y.2.2.2.2) 200 (x0, (x1, (x2, (x3, x4))))
theorem f89l1_le (x0 : Int) (x1 : Nat) (x2 : Nat) (x3 : Int) (x4 : Val (.slice (.int .i64))) : Le (f89l1c x0 x1 x2 x3 x4) (f89l1 x0 x1 x2 x3 x4) :=
  .iter fun y => show Le (f89l1bc y.1 y.2.1 y.2.2.1 y.2.2.2.1 y.2.2.2.2) (f89l1b y.1 y.2.1 y.2.2.1 y.2.2.2.1 y.2.2.2.2) from by unfold f89l1bc f89l1b; exact .refl
noncomputable def f89l2bc (x0 : Int) (x1 : Val (.slice (.int .i64))) : Option ((Int × (Val (.slice (.int .i64)))) ⊕ ((Val (.slice (.int .i64))))) :=
  bif (decide (x0 < (((List.length x1) : Nat) : Int))) then (
    bif (inR x0 (List.length x1)) then
    bif (inR (IntKind.wrap .i64 (x0 - (1 : Int))) (List.length x1)) then
    bif (decide ((List.getD x1 (Int.toNat x0) (0 : Int)) = (List.getD x1 (Int.toNat (IntKind.wrap .i64 (x0 - (1 : Int)))) (0 : Int)))) then (
      bif (((decide ((0 : Int) ≤ x0)) && (decide (x0 ≤ (((List.length x1) : Nat) : Int)))) && (decide ((((List.length x1) : Nat) : Int) ≤ (((List.length x1) : Nat) : Int)))) then
      (f89l1c x0 (Int.toNat x0) (List.length x1) (1 : Int) x1).bind fun r1 =>
      bif (((decide ((0 : Int) ≤ r1.1)) && (decide (r1.1 ≤ (((List.length r1.2) : Nat) : Int)))) && (decide ((((List.length r1.2) : Nat) : Int) ≤ (((List.length r1.2) : Nat) : Int)))) then
      none
      else none
      else none)
    else (
      some (Sum.inl ((IntKind.wrap .i64 (x0 + (1 : Int))), x1)))
    else none
    else none)
  else (
    some (Sum.inr x1))
noncomputable def f89l2c (x0 : Int) (x1 : Val (.slice (.int .i64))) : Option ((Val (.slice (.int .i64)))) := iterN (fun y : Int × (Val (.slice (.int .i64))) => f89l2bc y.1 y.2) 200 (x0, x1)
theorem f89l2_le (x0 : Int) (x1 : Val (.slice (.int .i64))) : Le (f89l2c x0 x1) (f89l2 x0 x1) :=
  .iter fun y => show Le (f89l2bc y.1 y.2) (f89l2b y.1 y.2) from by unfold f89l2bc f89l2b; exact (.cond (.cond (.cond (.cond (.cond (.bind (f89l1_le _ _ _ _ _) fun _ => .refl) .refl) .refl) .refl) .refl) .refl)
noncomputable def f89c (a0 : Val (.slice (.int .i64))) : Option ((Val (.slice (.int .i64)))) :=
  bif (decide ((((List.length a0) : Nat) : Int) < (2 : Int))) then (
    some a0)
  else (
    (f89l2c (1 : Int) a0).bind fun r1 =>
    some r1)
theorem f89_le (a0 : Val (.slice (.int .i64))) : Le (f89c a0) (f89 a0) := by unfold f89c f89; exact (.cond .refl (.bind (f89l2_le _ _) fun _ => .refl))
noncomputable def f64l1bc (x0 : Val (.slice TPage)) (x1 : Val (.slice (.int .i64))) (x2 : Int) (x3 : Int) (x4 : Val (.slice (.int .i64))) : Option (((Val (.slice TPage)) × (Val (.slice (.int .i64))) × Int × Int × (Val (.slice (.int .i64)))) ⊕ ((Val (.slice (.int .i64))))) :=
  bif (decide (x3 < x2)) then (
    bif (inR x3 (List.length x1)) then
    (f71c x0 (List.getD x1 (Int.toNat x3) (0 : Int))).bind fun r1 =>
    bif (!r1.2) then (
      bif (decide (((List.length x4) + 1) ≤ lim)) then
      some (Sum.inl (x0, (x1, (x2, ((IntKind.wrap .i64 (x3 + (1 : Int))), (x4 ++ [(List.getD x1 (Int.toNat x3) (0 : Int))]))))))
      else none)
    else (
      some (Sum.inl (x0, (x1, (x2, ((IntKind.wrap .i64 (x3 + (1 : Int))), x4))))))
    else none)
  else (
    some (Sum.inr x4))
noncomputable def f64l1c (x0 : Val (.slice TPage)) (x1 : Val (.slice (.int .i64))) (x2 : Int) (x3 : Int) (x4 : Val (.slice (.int .i64))) : Option ((Val (.slice (.int .i64)))) := iterN (fun y : (Val (.slice TPage)) × (Val (.slice (.int .i64))) × Int × Int × (Val (.slice (.int .i64))) => f64l1bc y.1 y.2.1 y.2.2.1 y.2.2.2.1 y.2.2.2.2) 200 (x0, (x1, (x2, (x3, x4))))
theorem f64l1_le (x0 : Val (.slice TPage)) (x1 : Val (.slice (.int .i64))) (x2 : Int) (x3 : Int) (x4 : Val (.slice (.int .i64))) : Le (f64l1c x0 x1 x2 x3 x4) (f64l1 x0 x1 x2 x3 x4) :=
  .iter fun y => show Le (f64l1bc y.1 y.2.1 y.2.2.1 y.2.2.2.1 y.2.2.2.2) (f64l1b y.1 y.2.1 y.2.2.1 y.2.2.2.1 y.2.2.2.2) from by unfold f64l1bc f64l1b; exact (.cond (.cond (.bind (f71_le _ _) fun _ => .refl) .refl) .refl)
noncomputable def f64c (a0 : Val (.slice TPage)) (a1 : Val (.slice (.int .i64))) : Option ((Val (.slice (.int .i64)))) :=
  (f64l1c a0 a1 (((List.length a1) : Nat) : Int) (0 : Int) []).bind fun r1 =>
  (f88c r1).bind fun r2 =>
  (f89c r2).bind fun r3 =>
  some r3
theorem f64_le (a0 : Val (.slice TPage)) (a1 : Val (.slice (.int .i64))) : Le (f64c a0 a1) (f64 a0 a1) := by unfold f64c f64; exact (.bind (f64l1_le _ _ _ _ _) fun _ => (.bind (f88_le _) fun _ => (.bind (f89_le _) fun _ => .refl)))
noncomputable def f22l1bc (x0 : Int) (x1 : Val TPage) (x2 : Val TNode) (x3 : Val TNode) : Option ((Int × (Val TPage) × (Val TNode) × (Val TNode)) ⊕ (((Val TNode) × (Val TNode)) ⊕ (Int × (Val TNode)))) :=
  bif (decide (x0 < (4 : Int))) then (
    bif (inR (IntKind.wrap .i64 ((3 : Int) + x0)) 7) then
    (f52 (List.getD x1.2.2.1 (Int.toNat (IntKind.wrap .i64 ((3 : Int) + x0))) (0 : Int))).bind fun r1 =>
    bif (!r1.2) then (
      some (Sum.inr (Sum.inr ((14 : Int), (false, ((0 : Int), ((0 : Int), ((0 : Int), ((List.replicate 4 (((0 : Int), ((0 : Int), ())), ((0 : Int), ()))), ())))))))))
    else (
      bif (inR x0 4) then
      some (Sum.inl ((IntKind.wrap .i64 (x0 + (1 : Int))), (x1, (x2, (x3.1, (x3.2.1, (x3.2.2.1, (x3.2.2.2.1, ((List.set x3.2.2.2.2.1 (Int.toNat x0) r1.1), x3.2.2.2.2.2)))))))))
      else none)
    else none)
  else (
    some (Sum.inr (Sum.inl (x2, x3))))
noncomputable def f22l1c (x0 : Int) (x1 : Val TPage) (x2 : Val TNode) (x3 : Val TNode) : Option (((Val TNode) × (Val TNode)) ⊕ (Int × (Val TNode))) := iterN (fun y : Int × (Val TPage) × (Val TNode) × (Val TNode) => f22l1bc y.1 y.2.1 y.2.2.1 y.2.2.2) 200 (x0, (x1, (x2, x3)))
theorem f22l1_le (x0 : Int) (x1 : Val TPage) (x2 : Val TNode) (x3 : Val TNode) : Le (f22l1c x0 x1 x2 x3) (f22l1 x0 x1 x2 x3) :=
  .iter fun y => show Le (f22l1bc y.1 y.2.1 y.2.2.1 y.2.2.2) (f22l1b y.1 y.2.1 y.2.2.1 y.2.2.2) from by unfold f22l1bc f22l1b; exact .refl
noncomputable def f22c (a0 : Val TPage) : Option ((Val TNode) × Int) :=
  (f51 a0.1).bind fun r1 =>
  bif (!r1) then (
    some ((false, ((0 : Int), ((0 : Int), ((0 : Int), ((List.replicate 4 (((0 : Int), ((0 : Int), ())), ((0 : Int), ()))), ()))))), (1 : Int)))
  else (
    bif (decide ((4294967296 : Int) < (List.getD a0.2.2.1 0 (0 : Int)))) then (
      some ((false, ((0 : Int), ((0 : Int), ((0 : Int), ((List.replicate 4 (((0 : Int), ((0 : Int), ())), ((0 : Int), ()))), ()))))), (14 : Int)))
    else (
      bif (decide ((512 : Int) ≤ (List.getD a0.2.2.1 1 (0 : Int)))) then (
        some ((false, ((0 : Int), ((0 : Int), ((0 : Int), ((List.replicate 4 (((0 : Int), ((0 : Int), ())), ((0 : Int), ()))), ()))))), (14 : Int)))
      else (
        bif (decide ((59 : Int) < (List.getD a0.2.2.1 2 (0 : Int)))) then (
          some ((false, ((0 : Int), ((0 : Int), ((0 : Int), ((List.replicate 4 (((0 : Int), ((0 : Int), ())), ((0 : Int), ()))), ()))))), (14 : Int)))
        else (
          bif (decide ((0 : Int) < (List.getD a0.2.2.1 0 (0 : Int)))) then (
            (f22l1c (0 : Int) a0 (false, ((0 : Int), ((0 : Int), ((0 : Int), ((List.replicate 4 (((0 : Int), ((0 : Int), ())), ((0 : Int), ()))), ()))))) (true, ((IntKind.wrap .u32 (IntKind.wrap .u64 ((List.getD a0.2.2.1 0 (0 : Int)) - (1 : Int)))), ((IntKind.wrap .u32 (List.getD a0.2.2.1 1 (0 : Int))), ((IntKind.wrap .i64 (List.getD a0.2.2.1 2 (0 : Int))), ((List.replicate 4 (((0 : Int), ((0 : Int), ())), ((0 : Int), ()))), ())))))).bind fun r2 =>
            match r2 with
            | .inl r3 => (
              some (r3.2, (0 : Int)))
            | .inr r4 => (
              some (r4.2, r4.1)))
          else (
            (f22l1c (0 : Int) a0 (false, ((0 : Int), ((0 : Int), ((0 : Int), ((List.replicate 4 (((0 : Int), ((0 : Int), ())), ((0 : Int), ()))), ()))))) (false, ((0 : Int), ((IntKind.wrap .u32 (List.getD a0.2.2.1 1 (0 : Int))), ((IntKind.wrap .i64 (List.getD a0.2.2.1 2 (0 : Int))), ((List.replicate 4 (((0 : Int), ((0 : Int), ())), ((0 : Int), ()))), ())))))).bind fun r5 =>
            match r5 with
            | .inl r6 => (
              some (r6.2, (0 : Int)))
            | .inr r7 => (
              some (r7.2, r7.1)))))))
theorem f22_le (a0 : Val TPage) : Le (f22c a0) (f22 a0) := by unfold f22c f22; exact (.bind .refl fun _ => (.cond .refl (.cond .refl (.cond .refl (.cond .refl (.cond (.bind (f22l1_le _ _ _ _) fun _ => .refl) (.bind (f22l1_le _ _ _ _) fun _ => .refl)))))))
noncomputable def f65c (a0 : Val (.slice TPage)) (a1 : Int) : Option ((Val TPage) × (Val TNode) × Bool × Int) :=
  (f71c a0 (IntKind.wrap .i64 ((98 : Int) + a1))).bind fun r1 =>
  bif (!r1.2) then (
    some (((0 : Int), ((0 : Int), ((List.replicate 7 (0 : Int)), ()))), ((false, ((0 : Int), ((0 : Int), ((0 : Int), ((List.replicate 4 (((0 : Int), ((0 : Int), ())), ((0 : Int), ()))), ()))))), (false, (0 : Int)))))
  else (
    (f73 r1.1).bind fun r2 =>
    bif r2 then (
      some (((0 : Int), ((0 : Int), ((List.replicate 7 (0 : Int)), ()))), ((false, ((0 : Int), ((0 : Int), ((0 : Int), ((List.replicate 4 (((0 : Int), ((0 : Int), ())), ((0 : Int), ()))), ()))))), (true, (3 : Int)))))
    else (
      (f22c r1.1).bind fun r3 =>
      some (r1.1, (r3.1, (true, r3.2)))))
theorem f65_le (a0 : Val (.slice TPage)) (a1 : Int) : Le (f65c a0 a1) (f65 a0 a1) := by unfold f65c f65; exact (.bind (f71_le _ _) fun _ => (.cond .refl (.bind .refl fun _ => (.cond .refl (.bind (f22_le _) fun _ => .refl)))))
noncomputable def f67l1bc (x0 : Int) (x1 : Int) (x2 : Int) (x3 : Val (.slice (.int .i64))) : Option ((Int × Int × Int × (Val (.slice (.int .i64)))) ⊕ ((Val (.slice (.int .i64))))) :=
  bif (decide (x2 < x1)) then (
    bif (decide ((0 : Int) ≤ (IntKind.wrap .u64 x2))) then
    bif (decide ((IntKind.wrap .u32 ((BitVec.ofInt (IntKind.bits .u32) (shiftR .u32 x0 (IntKind.wrap .u64 x2)) &&& BitVec.ofInt (IntKind.bits .u32) (1 : Int)).toNat : Int)) = (1 : Int))) then (
      bif (decide (((List.length x3) + 1) ≤ lim)) then
      some (Sum.inl (x0, (x1, ((IntKind.wrap .i64 (x2 + (1 : Int))), (x3 ++ [x2])))))
      else none)
    else (
      some (Sum.inl (x0, (x1, ((IntKind.wrap .i64 (x2 + (1 : Int))), x3)))))
    else none)
  else (
    some (Sum.inr x3))
noncomputable def f67l1c (x0 : Int) (x1 : Int) (x2 : Int) (x3 : Val (.slice (.int .i64))) : Option ((Val (.slice (.int .i64)))) := iterN (fun y : Int × Int × Int × (Val (.slice (.int .i64))) => f67l1bc y.1 y.2.1 y.2.2.1 y.2.2.2) 200 (x0, (x1, (x2, x3)))
theorem f67l1_le (x0 : Int) (x1 : Int) (x2 : Int) (x3 : Val (.slice (.int .i64))) : Le (f67l1c x0 x1 x2 x3) (f67l1 x0 x1 x2 x3) :=
  .iter fun y => show Le (f67l1bc y.1 y.2.1 y.2.2.1 y.2.2.2) (f67l1b y.1 y.2.1 y.2.2.1 y.2.2.2) from by unfold f67l1bc f67l1b; exact .refl
noncomputable def f67c (a0 : Int) (a1 : Int) : Option ((Val (.slice (.int .i64)))) :=
  (f67l1c a0 a1 (0 : Int) []).bind fun r1 =>
  some r1
theorem f67_le (a0 : Int) (a1 : Int) : Le (f67c a0 a1) (f67 a0 a1) := by unfold f67c f67; exact (.bind (f67l1_le _ _ _ _) fun _ => .refl)
noncomputable def f66l1bc (x0 : Val (.slice (.int .i64))) (x1 : Int) (x2 : Int) (x3 : Val (.slice (.int .i64))) : Option (((Val (.slice (.int .i64))) × Int × Int × (Val (.slice (.int .i64)))) ⊕ ((Val (.slice (.int .i64))))) :=
  bif (decide (x2 < x1)) then (
    bif (inR x2 (List.length x0)) then
    (f36 (List.getD x0 (Int.toNat x2) (0 : Int))).bind fun r1 =>
    bif (decide (((List.length x3) + 1) ≤ lim)) then
    some (Sum.inl (x0, (x1, ((IntKind.wrap .i64 (x2 + (1 : Int))), (x3 ++ [r1])))))
    else none
    else none)
  else (
    some (Sum.inr x3))
noncomputable def f66l1c (x0 : Val (.slice (.int .i64))) (x1 : Int) (x2 : Int) (x3 : Val (.slice (.int .i64))) : Option ((Val (.slice (.int .i64)))) := iterN (fun y : (Val (.slice (.int .i64))) × Int × Int × (Val (.slice (.int .i64))) => f66l1bc y.1 y.2.1 y.2.2.1 y.2.2.2) 200 (x0, (x1, (x2, x3)))
theorem f66l1_le (x0 : Val (.slice (.int .i64))) (x1 : Int) (x2 : Int) (x3 : Val (.slice (.int .i64))) : Le (f66l1c x0 x1 x2 x3) (f66l1 x0 x1 x2 x3) :=
  .iter fun y => show Le (f66l1bc y.1 y.2.1 y.2.2.1 y.2.2.2) (f66l1b y.1 y.2.1 y.2.2.1 y.2.2.2) from by unfold f66l1bc f66l1b; exact .refl
noncomputable def f66c (a0 : Val (.slice (.int .i64))) : Option ((Val (.slice (.int .i64)))) :=
  (f66l1c a0 (((List.length a0) : Nat) : Int) (0 : Int) []).bind fun r1 =>
  some r1
theorem f66_le (a0 : Val (.slice (.int .i64))) : Le (f66c a0) (f66 a0) := by unfold f66c f66; exact (.bind (f66l1_le _ _ _ _) fun _ => .refl)
noncomputable def f93l1bc (x0 : Val (.slice (.int .u64))) (x1 : Int) (x2 : Int) : Option (((Val (.slice (.int .u64))) × Int × Int) ⊕ ((Unit) ⊕ (Int))) :=
  bif (decide (x2 < x1)) then (
    bif (inR x2 (List.length x0)) then
    (f81 (List.getD x0 (Int.toNat x2) (0 : Int))).bind fun r1 =>
    bif r1 then (
      some (Sum.inr (Sum.inr x2)))
    else (
      some (Sum.inl (x0, (x1, (IntKind.wrap .i64 (x2 + (1 : Int)))))))
    else none)
  else (
    some (Sum.inr (Sum.inl ())))
noncomputable def f93l1c (x0 : Val (.slice (.int .u64))) (x1 : Int) (x2 : Int) : Option ((Unit) ⊕ (Int)) := iterN (fun y : (Val (.slice (.int .u64))) × Int × Int => f93l1bc y.1 y.2.1 y.2.2) 200 (x0, (x1, x2))
theorem f93l1_le (x0 : Val (.slice (.int .u64))) (x1 : Int) (x2 : Int) : Le (f93l1c x0 x1 x2) (f93l1 x0 x1 x2) :=
  .iter fun y => show Le (f93l1bc y.1 y.2.1 y.2.2) (f93l1b y.1 y.2.1 y.2.2) from by unfold f93l1bc f93l1b; exact .refl
noncomputable def f93c (a0 : Val (.slice (.int .u64))) : Option Int :=
  (f93l1c a0 (((List.length a0) : Nat) : Int) (0 : Int)).bind fun r1 =>
  match r1 with
  | .inl r2 => (
    some (-1 : Int))
  | .inr r3 => (
    some r3)
theorem f93_le (a0 : Val (.slice (.int .u64))) : Le (f93c a0) (f93 a0) := by unfold f93c f93; exact (.bind (f93l1_le _ _ _) fun _ => .refl)
noncomputable def f80c (a0 : Val (.slice (.int .u64))) : Option Bool :=
  (f93c a0).bind fun r1 =>
  some (decide ((0 : Int) ≤ r1))
theorem f80_le (a0 : Val (.slice (.int .u64))) : Le (f80c a0) (f80 a0) := by unfold f80c f80; exact (.bind (f93_le _) fun _ => .refl)
noncomputable def f49c (a0 : Val (.slice (.int .u64))) : Option Bool :=
  (f80c a0).bind fun r1 =>
  some (!r1)
theorem f49_le (a0 : Val (.slice (.int .u64))) : Le (f49c a0) (f49 a0) := by unfold f49c f49; exact (.bind (f80_le _) fun _ => .refl)
noncomputable def f20c (a0 : Val TPage) : Option ((Val THead) × Int) :=
  (f48 a0.1).bind fun r1 =>
  bif (!r1) then (
    some (((0 : Int), ((0 : Int), ())), (1 : Int)))
  else (
    bif (decide ((6 : Int) < (List.getD a0.2.2.1 0 (0 : Int)))) then (
      some (((0 : Int), ((0 : Int), ())), (14 : Int)))
    else (
      bif (!(decide ((IntKind.wrap .u64 ((BitVec.ofInt (IntKind.bits .u64) (List.getD a0.2.2.1 1 (0 : Int)) &&& ~~~ BitVec.ofInt (IntKind.bits .u64) (65534 : Int)).toNat : Int)) = (0 : Int)))) then (
        some (((0 : Int), ((0 : Int), ())), (14 : Int)))
      else (
        (f49c (List.drop 2 (List.take 7 a0.2.2.1))).bind fun r2 =>
        bif (!r2) then (
          some (((0 : Int), ((0 : Int), ())), (14 : Int)))
        else (
          some (((IntKind.wrap .i64 ((IntKind.wrap .i64 (List.getD a0.2.2.1 0 (0 : Int))) - (1 : Int))), ((IntKind.wrap .u32 (List.getD a0.2.2.1 1 (0 : Int))), ())), (0 : Int))))))
theorem f20_le (a0 : Val TPage) : Le (f20c a0) (f20 a0) := by unfold f20c f20; exact (.bind .refl fun _ => (.cond .refl (.cond .refl (.cond .refl (.bind (f49_le _) fun _ => .refl)))))
noncomputable def f69c (a0 : Val (.slice TPage)) (a1 : Int) : Option ((Val TPage) × (Val THead) × Bool × Int) :=
  (f36 a1).bind fun r1 =>
  (f71c a0 r1).bind fun r2 =>
  bif (!r2.2) then (
    some (((0 : Int), ((0 : Int), ((List.replicate 7 (0 : Int)), ()))), (((0 : Int), ((0 : Int), ())), (false, (0 : Int)))))
  else (
    (f73 r2.1).bind fun r3 =>
    bif r3 then (
      some (((0 : Int), ((0 : Int), ((List.replicate 7 (0 : Int)), ()))), (((0 : Int), ((0 : Int), ())), (true, (3 : Int)))))
    else (
      (f20c r2.1).bind fun r4 =>
      some (r2.1, (r4.1, (true, r4.2)))))
theorem f69_le (a0 : Val (.slice TPage)) (a1 : Int) : Le (f69c a0 a1) (f69 a0 a1) := by unfold f69c f69; exact (.bind .refl fun _ => (.bind (f71_le _ _) fun _ => (.cond .refl (.bind .refl fun _ => (.cond .refl (.bind (f20_le _) fun _ => .refl))))))
noncomputable def f68l1bc (x0 : Val (.slice TPage)) (x1 : Int) (x2 : Int) (x3 : Int) : Option (((Val (.slice TPage)) × Int × Int × Int) ⊕ ((Unit) ⊕ (Int × Bool))) :=
  bif (decide (x3 < x2)) then (
    bif (!(decide (x2 = (0 : Int)))) then
    (f69c x0 (Int.tmod (IntKind.wrap .i64 (x1 + x3)) x2)).bind fun r1 =>
    bif (decide (r1.2.2.2 = (0 : Int))) then (
      bif (decide (r1.2.1.1 = (-1 : Int))) then (
        some (Sum.inr (Sum.inr ((Int.tmod (IntKind.wrap .i64 (x1 + x3)) x2), true))))
      else (
        some (Sum.inl (x0, (x1, (x2, (IntKind.wrap .i64 (x3 + (1 : Int)))))))))
    else (
      some (Sum.inl (x0, (x1, (x2, (IntKind.wrap .i64 (x3 + (1 : Int))))))))
    else none)
  else (
    some (Sum.inr (Sum.inl ())))
noncomputable def f68l1c (x0 : Val (.slice TPage)) (x1 : Int) (x2 : Int) (x3 : Int) : Option ((Unit) ⊕ (Int × Bool)) := iterN (fun y : (Val (.slice TPage)) × Int × Int × Int => f68l1bc y.1 y.2.1 y.2.2.1 y.2.2.2) 200 (x0, (x1, (x2, x3)))
theorem f68l1_le (x0 : Val (.slice TPage)) (x1 : Int) (x2 : Int) (x3 : Int) : Le (f68l1c x0 x1 x2 x3) (f68l1 x0 x1 x2 x3) :=
  .iter fun y => show Le (f68l1bc y.1 y.2.1 y.2.2.1 y.2.2.2) (f68l1b y.1 y.2.1 y.2.2.1 y.2.2.2) from by unfold f68l1bc f68l1b; exact (.cond (.cond (.bind (f69_le _ _) fun _ => .refl) .refl) .refl)
noncomputable def f68c (a0 : Val (.slice TPage)) (a1 : Int) (a2 : Int) : Option (Int × Bool) :=
  (f68l1c a0 a1 a2 (0 : Int)).bind fun r1 =>
  match r1 with
  | .inl r2 => (
    some ((0 : Int), false))
  | .inr r3 => (
    some (r3.1, r3.2))
theorem f68_le (a0 : Val (.slice TPage)) (a1 : Int) (a2 : Int) : Le (f68c a0 a1 a2) (f68 a0 a1 a2) := by unfold f68c f68; exact (.bind (f68l1_le _ _ _ _) fun _ => .refl)
noncomputable def f29l1bc (x0 : Val (.arr 4 TRet)) (x1 : Int) (x2 : Val TPage) (x3 : Val TPage) : Option (((Val (.arr 4 TRet)) × Int × (Val TPage) × (Val TPage)) ⊕ (((Val TPage) × (Val TPage)) ⊕ (Int × (Val TPage)))) :=
  bif (decide (x1 < (4 : Int))) then (
    bif (inR x1 4) then
    bif (eqV TRet (List.getD x0 (Int.toNat x1) (((0 : Int), ((0 : Int), ())), ((0 : Int), ()))) (((0 : Int), ((0 : Int), ())), ((0 : Int), ()))) then (
      some (Sum.inl (x0, ((IntKind.wrap .i64 (x1 + (1 : Int))), (x2, x3)))))
    else (
      (f57 (List.getD x0 (Int.toNat x1) (((0 : Int), ((0 : Int), ())), ((0 : Int), ()))).1).bind fun r1 =>
      bif r1 then (
        (f58 (List.getD x0 (Int.toNat x1) (((0 : Int), ((0 : Int), ())), ((0 : Int), ()))).1).bind fun r2 =>
        bif (inR (IntKind.wrap .i64 ((3 : Int) + x1)) 7) then
        some (Sum.inl (x0, ((IntKind.wrap .i64 (x1 + (1 : Int))), ((x2.1, (x2.2.1, ((List.set x2.2.2.1 (Int.toNat (IntKind.wrap .i64 ((3 : Int) + x1))) (IntKind.wrap .u64 ((BitVec.ofInt (IntKind.bits .u64) (IntKind.wrap .u64 r2) ||| BitVec.ofInt (IntKind.bits .u64) (shiftL .u64 (IntKind.wrap .u64 (List.getD x0 (Int.toNat x1) (((0 : Int), ((0 : Int), ())), ((0 : Int), ()))).2.1) (32 : Int))).toNat : Int))), x2.2.2.2))), x3))))
        else none)
      else (
        some (Sum.inr (Sum.inr ((1 : Int), ((0 : Int), ((0 : Int), ((List.replicate 7 (0 : Int)), ()))))))))
    else none)
  else (
    some (Sum.inr (Sum.inl (x2, x3))))
noncomputable def f29l1c (x0 : Val (.arr 4 TRet)) (x1 : Int) (x2 : Val TPage) (x3 : Val TPage) : Option (((Val TPage) × (Val TPage)) ⊕ (Int × (Val TPage))) := iterN (fun y : (Val (.arr 4 TRet)) × Int × (Val TPage) × (Val TPage) => f29l1bc y.1 y.2.1 y.2.2.1 y.2.2.2) 200 (x0, (x1, (x2, x3)))
theorem f29l1_le (x0 : Val (.arr 4 TRet)) (x1 : Int) (x2 : Val TPage) (x3 : Val TPage) : Le (f29l1c x0 x1 x2 x3) (f29l1 x0 x1 x2 x3) :=
  .iter fun y => show Le (f29l1bc y.1 y.2.1 y.2.2.1 y.2.2.2) (f29l1b y.1 y.2.1 y.2.2.1 y.2.2.2) from by unfold f29l1bc f29l1b; exact .refl
noncomputable def f29c (a0 : Val TPage) (a1 : Val TNode) : Option ((Val TPage) × Int) :=
  (f51 a0.1).bind fun r1 =>
  bif (!r1) then (
    some (((0 : Int), ((0 : Int), ((List.replicate 7 (0 : Int)), ()))), (1 : Int)))
  else (
    bif (!a1.1) then (
      bif (!(decide (a1.2.1 = (0 : Int)))) then (
        some (((0 : Int), ((0 : Int), ((List.replicate 7 (0 : Int)), ()))), (1 : Int)))
      else (
        bif (decide ((512 : Int) ≤ a1.2.2.1)) then (
          some (((0 : Int), ((0 : Int), ((List.replicate 7 (0 : Int)), ()))), (1 : Int)))
        else (
          bif (decide (a1.2.2.2.1 < (0 : Int))) then (
            some (((0 : Int), ((0 : Int), ((List.replicate 7 (0 : Int)), ()))), (1 : Int)))
          else (
            bif (decide ((59 : Int) < a1.2.2.2.1)) then (
              some (((0 : Int), ((0 : Int), ((List.replicate 7 (0 : Int)), ()))), (1 : Int)))
            else (
              bif a1.1 then (
                (f29l1c a1.2.2.2.2.1 (0 : Int) (a0.1, (a0.2.1, ((List.set [(0 : Int), (IntKind.wrap .u64 a1.2.2.1), (IntKind.wrap .u64 a1.2.2.2.1), (0 : Int), (0 : Int), (0 : Int), (0 : Int)] 0 (IntKind.wrap .u64 ((IntKind.wrap .u64 a1.2.1) + (1 : Int)))), a0.2.2.2))) ((0 : Int), ((0 : Int), ((List.replicate 7 (0 : Int)), ())))).bind fun r2 =>
                match r2 with
                | .inl r3 => (
                  some (r3.1, (0 : Int)))
                | .inr r4 => (
                  some (r4.2, r4.1)))
              else (
                (f29l1c a1.2.2.2.2.1 (0 : Int) (a0.1, (a0.2.1, ([(0 : Int), (IntKind.wrap .u64 a1.2.2.1), (IntKind.wrap .u64 a1.2.2.2.1), (0 : Int), (0 : Int), (0 : Int), (0 : Int)], a0.2.2.2))) ((0 : Int), ((0 : Int), ((List.replicate 7 (0 : Int)), ())))).bind fun r5 =>
                match r5 with
                | .inl r6 => (
                  some (r6.1, (0 : Int)))
                | .inr r7 => (
                  some (r7.2, r7.1))))))))
    else (
      bif (decide ((512 : Int) ≤ a1.2.2.1)) then (
        some (((0 : Int), ((0 : Int), ((List.replicate 7 (0 : Int)), ()))), (1 : Int)))
      else (
        bif (decide (a1.2.2.2.1 < (0 : Int))) then (
          some (((0 : Int), ((0 : Int), ((List.replicate 7 (0 : Int)), ()))), (1 : Int)))
        else (
          bif (decide ((59 : Int) < a1.2.2.2.1)) then (
            some (((0 : Int), ((0 : Int), ((List.replicate 7 (0 : Int)), ()))), (1 : Int)))
          else (
            bif a1.1 then (
              (f29l1c a1.2.2.2.2.1 (0 : Int) (a0.1, (a0.2.1, ((List.set [(0 : Int), (IntKind.wrap .u64 a1.2.2.1), (IntKind.wrap .u64 a1.2.2.2.1), (0 : Int), (0 : Int), (0 : Int), (0 : Int)] 0 (IntKind.wrap .u64 ((IntKind.wrap .u64 a1.2.1) + (1 : Int)))), a0.2.2.2))) ((0 : Int), ((0 : Int), ((List.replicate 7 (0 : Int)), ())))).bind fun r8 =>
              match r8 with
              | .inl r9 => (
                some (r9.1, (0 : Int)))
              | .inr r10 => (
                some (r10.2, r10.1)))
            else (
              (f29l1c a1.2.2.2.2.1 (0 : Int) (a0.1, (a0.2.1, ([(0 : Int), (IntKind.wrap .u64 a1.2.2.1), (IntKind.wrap .u64 a1.2.2.2.1), (0 : Int), (0 : Int), (0 : Int), (0 : Int)], a0.2.2.2))) ((0 : Int), ((0 : Int), ((List.replicate 7 (0 : Int)), ())))).bind fun r11 =>
              match r11 with
              | .inl r12 => (
                some (r12.1, (0 : Int)))
              | .inr r13 => (
                some (r13.2, r13.1))))))))
theorem f29_le (a0 : Val TPage) (a1 : Val TNode) : Le (f29c a0 a1) (f29 a0 a1) := by unfold f29c f29; exact (.bind .refl fun _ => (.cond .refl (.cond (.cond .refl (.cond .refl (.cond .refl (.cond .refl (.cond (.bind (f29l1_le _ _ _ _) fun _ => .refl) (.bind (f29l1_le _ _ _ _) fun _ => .refl)))))) (.cond .refl (.cond .refl (.cond .refl (.cond (.bind (f29l1_le _ _ _ _) fun _ => .refl) (.bind (f29l1_le _ _ _ _) fun _ => .refl))))))))
noncomputable def f98l1bc (x0 : Int) (x1 : Int) (x2 : Int) (x3 : Int) (x4 : Val (.slice TPage)) : Option ((Int × Int × Int × Int × (Val (.slice TPage))) ⊕ (Int × Int × Int × (Val (.slice TPage)))) :=
  bif (decide (x0 < x3)) then (
    bif (inR x3 (List.length x4)) then
    bif (inR (IntKind.wrap .i64 (x3 - (1 : Int))) (List.length x4)) then
    (f86 (List.getD x4 (Int.toNat x3) ((0 : Int), ((0 : Int), ((List.replicate 7 (0 : Int)), ())))) (List.getD x4 (Int.toNat (IntKind.wrap .i64 (x3 - (1 : Int)))) ((0 : Int), ((0 : Int), ((List.replicate 7 (0 : Int)), ()))))).bind fun r1 =>
    bif (decide (r1 < (0 : Int))) then (
      bif (inR (IntKind.wrap .i64 (x3 - (1 : Int))) (List.length x4)) then
      bif (inR x3 (List.length x4)) then
      bif (inR x3 (List.length x4)) then
      none
      else none
      else none
      else none)
    else (
      some (Sum.inr (x0, (x1, (x2, x4)))))
    else none
    else none)
  else (
    some (Sum.inr (x0, (x1, (x2, x4)))))
noncomputable def f98l1c (x0 : Int) (x1 : Int) (x2 : Int) (x3 : Int) (x4 : Val (.slice TPage)) : Option (Int × Int × Int × (Val (.slice TPage))) := iterN (fun y : Int × Int × Int × Int × (Val (.slice TPage)) => f98l1bc y.1 y.2.1 y.2.2.1 y.2.2.2.1 y.2.2.2.2) 200 (x0, (x1, (x2, (x3, x4))))
theorem f98l1_le (x0 : Int) (x1 : Int) (x2 : Int) (x3 : Int) (x4 : Val (.slice TPage)) : Le (f98l1c x0 x1 x2 x3 x4) (f98l1 x0 x1 x2 x3 x4) :=
  .iter fun y => show Le (f98l1bc y.1 y.2.1 y.2.2.1 y.2.2.2.1 y.2.2.2.2) (f98l1b y.1 y.2.1 y.2.2.1 y.2.2.2.1 y.2.2.2.2) from by unfold f98l1bc f98l1b; exact .refl
noncomputable def f98l2bc (x0 : Int) (x1 : Int) (x2 : Int) (x3 : Val (.slice TPage)) : Option ((Int × Int × Int × (Val (.slice TPage))) ⊕ ((Val (.slice TPage)))) :=
  bif (decide (x2 < x1)) then (
    (f98l1c x0 x1 x2 x2 x3).bind fun r1 =>
    some (Sum.inl (r1.1, (r1.2.1, ((IntKind.wrap .i64 (r1.2.2.1 + (1 : Int))), r1.2.2.2)))))
  else (
    some (Sum.inr x3))
noncomputable def f98l2c (x0 : Int) (x1 : Int) (x2 : Int) (x3 : Val (.slice TPage)) : Option ((Val (.slice TPage))) := iterN (fun y : Int × Int × Int × (Val (.slice TPage)) => f98l2bc y.1 y.2.1 y.2.2.1 y.2.2.2) 200 (x0, (x1, (x2, x3)))
theorem f98l2_le (x0 : Int) (x1 : Int) (x2 : Int) (x3 : Val (.slice TPage)) : Le (f98l2c x0 x1 x2 x3) (f98l2 x0 x1 x2 x3) :=
  .iter fun y => show Le (f98l2bc y.1 y.2.1 y.2.2.1 y.2.2.2) (f98l2b y.1 y.2.1 y.2.2.1 y.2.2.2) from by unfold f98l2bc f98l2b; exact (.cond (.bind (f98l1_le _ _ _ _ _) fun _ => .refl) .refl)
noncomputable def f98c (a0 : Int) (a1 : Int) (a2 : Val (.slice TPage)) : Option ((Val (.slice TPage))) :=
  (f98l2c a0 a1 (IntKind.wrap .i64 (a0 + (1 : Int))) a2).bind fun r1 =>
  some r1
theorem f98_le (a0 : Int) (a1 : Int) (a2 : Val (.slice TPage)) : Le (f98c a0 a1 a2) (f98 a0 a1 a2) := by unfold f98c f98; exact (.bind (f98l2_le _ _ _ _) fun _ => .refl)
noncomputable def f94l1bc (x0 : Int) (x1 : Int) (x2 : Int) (x3 : Int) (x4 : Val (.slice TPage)) : Option ((Int × Int × Int × Int × (Val (.slice TPage))) ⊕ (Int × Int × Int × (Val (.slice TPage)))) :=
  bif (decide (x3 ≤ x0)) then (
    (f98c x2 x3 x4).bind fun r1 =>
    some (Sum.inl (x0, (x1, (x3, ((IntKind.wrap .i64 (x3 + x1)), r1))))))
  else (
    some (Sum.inr (x0, (x1, (x2, x4)))))
noncomputable def f94l1c (x0 : Int) (x1 : Int) (x2 : Int) (x3 : Int) (x4 : Val (.slice TPage)) : Option (Int × Int × Int × (Val (.slice TPage))) := iterN (fun y : Int × Int × Int × Int × (Val (.slice TPage)) => f94l1bc y.1 y.2.1 y.2.2.1 y.2.2.2.1 y.2.2.2.2) 200 (x0, (x1, (x2, (x3, x4))))
theorem f94l1_le (x0 : Int) (x1 : Int) (x2 : Int) (x3 : Int) (x4 : Val (.slice TPage)) : Le (f94l1c x0 x1 x2 x3 x4) (f94l1 x0 x1 x2 x3 x4) :=
  .iter fun y => show Le (f94l1bc y.1 y.2.1 y.2.2.1 y.2.2.2.1 y.2.2.2.2) (f94l1b y.1 y.2.1 y.2.2.1 y.2.2.2.1 y.2.2.2.2) from by unfold f94l1bc f94l1b; exact (.cond (.bind (f98_le _ _ _) fun _ => .refl) .refl)
noncomputable def f94l2bc (x0 : Int) (x1 : Int) (x2 : Int) (x3 : Int) (x4 : Val (.slice TPage)) : Option ((Int × Int × Int × Int × (Val (.slice TPage))) ⊕ (Int × Int × Int × (Val (.slice TPage)))) :=
  bif (decide (x3 ≤ x0)) then (
    none)
  else (
    some (Sum.inr (x0, (x1, (x2, x4)))))
noncomputable def f94l2c (x0 : Int) (x1 : Int) (x2 : Int) (x3 : Int) (x4 : Val (.slice TPage)) : Option (Int × Int × Int × (Val (.slice TPage))) := iterN (fun y : Int × Int × Int × Int × (Val (.slice TPage)) => f94l2bc y.1 y.2.1 y.2.2.1 y.2.2.2.1 y.2.2.2.2) 200 (x0, (x1, (x2, (x3, x4))))
theorem f94l2_le (x0 : Int) (x1 : Int) (x2 : Int) (x3 : Int) (x4 : Val (.slice TPage)) : Le (f94l2c x0 x1 x2 x3 x4) (f94l2 x0 x1 x2 x3 x4) :=
  .iter fun y => show Le (f94l2bc y.1 y.2.1 y.2.2.1 y.2.2.2.1 y.2.2.2.2) (f94l2b y.1 y.2.1 y.2.2.1 y.2.2.2.1 y.2.2.2.2) from by unfold f94l2bc f94l2b; exact .refl
noncomputable def f94l3bc (x0 : Int) (x1 : Int) (x2 : Val (.slice TPage)) : Option ((Int × Int × (Val (.slice TPage))) ⊕ ((Val (.slice TPage)))) :=
  bif (decide (x1 < x0)) then (
    (f94l2c x0 x1 (0 : Int) (IntKind.wrap .i64 ((2 : Int) * x1)) x2).bind fun r1 =>
    bif (decide ((IntKind.wrap .i64 (r1.2.2.1 + r1.2.1)) < r1.1)) then (
      none)
    else (
      some (Sum.inl (r1.1, ((IntKind.wrap .i64 (r1.2.1 * (2 : Int))), r1.2.2.2)))))
  else (
    some (Sum.inr x2))
noncomputable def f94l3c (x0 : Int) (x1 : Int) (x2 : Val (.slice TPage)) : Option ((Val (.slice TPage))) := iterN (fun y : Int × Int × (Val (.slice TPage)) => f94l3bc y.1 y.2.1 y.2.2) 200 (x0, (x1, x2))
theorem f94l3_le (x0 : Int) (x1 : Int) (x2 : Val (.slice TPage)) : Le (f94l3c x0 x1 x2) (f94l3 x0 x1 x2) :=
  .iter fun y => show Le (f94l3bc y.1 y.2.1 y.2.2) (f94l3b y.1 y.2.1 y.2.2) from by unfold f94l3bc f94l3b; exact (.cond (.bind (f94l2_le _ _ _ _ _) fun _ => .refl) .refl)
noncomputable def f94c (a0 : Int) (a1 : Val (.slice TPage)) : Option ((Val (.slice TPage))) :=
  (f94l1c a0 (20 : Int) (0 : Int) (20 : Int) a1).bind fun r1 =>
  (f98c r1.2.2.1 r1.1 r1.2.2.2).bind fun r2 =>
  (f94l3c r1.1 r1.2.1 r2).bind fun r3 =>
  some r3
theorem f94_le (a0 : Int) (a1 : Val (.slice TPage)) : Le (f94c a0 a1) (f94 a0 a1) := by unfold f94c f94; exact (.bind (f94l1_le _ _ _ _ _) fun _ => (.bind (f98_le _ _ _) fun _ => (.bind (f94l3_le _ _ _) fun _ => .refl)))
noncomputable def f85c (a0 : Val (.slice TPage)) : Option ((Val (.slice TPage))) :=
  (f94c (((List.length a0) : Nat) : Int) a0).bind fun r1 =>
  some r1
theorem f85_le (a0 : Val (.slice TPage)) : Le (f85c a0) (f85 a0) := by unfold f85c f85; exact (.bind (f94_le _ _) fun _ => .refl)
noncomputable def f62c (a0 : Val (.slice TPage)) : Option ((Val (.slice TPage))) :=
  (f85c a0).bind fun r1 =>
  some r1
theorem f62_le (a0 : Val (.slice TPage)) : Le (f62c a0) (f62 a0) := by unfold f62c f62; exact (.bind (f85_le _) fun _ => .refl)
noncomputable def f42c (a0 : Val TClaim) (a1 : Val (.slice TPage)) : Option ((Val (.slice (.int .i64))) × (Val (.slice TPage)) × Int × Int × Bool) :=
  (f63 a0.1).bind fun r1 =>
  bif (!r1) then (
    some ([], ([], ((0 : Int), ((1 : Int), true)))))
  else (
    bif (decide (a0.2.1 < (1 : Int))) then (
      some ([], ([], ((0 : Int), ((1 : Int), true)))))
    else (
      bif (decide ((59 : Int) < a0.2.1)) then (
        some ([], ([], ((0 : Int), ((1 : Int), true)))))
      else (
        (f60 a0.2.2.1).bind fun r2 =>
        bif (!r2) then (
          some ([], ([], ((0 : Int), ((1 : Int), true)))))
        else (
          bif (decide (a0.2.2.2.1 < (-1 : Int))) then (
            some ([], ([], ((0 : Int), ((1 : Int), true)))))
          else (
            bif (decide ((6 : Int) ≤ a0.2.2.2.1)) then (
              some ([], ([], ((0 : Int), ((1 : Int), true)))))
            else (
              bif (decide (a0.2.2.2.1 = a0.1)) then (
                some ([], ([], ((0 : Int), ((1 : Int), true)))))
              else (
                bif (!(decide (a0.2.2.2.1 = (-1 : Int)))) then (
                  (f64c a1 ([(IntKind.wrap .i64 ((98 : Int) + a0.1))] ++ [(IntKind.wrap .i64 ((98 : Int) + a0.2.2.2.1))])).bind fun r3 =>
                  bif (decide ((0 : Int) < (((List.length r3) : Nat) : Int))) then (
                    some (r3, ([], ((0 : Int), ((0 : Int), false)))))
                  else (
                    (f65c a1 a0.1).bind fun r4 =>
                    bif (!(decide (r4.2.2.2 = (0 : Int)))) then (
                      some ([], ([], ((0 : Int), (r4.2.2.2, true)))))
                    else (
                      bif (!(decide (a0.2.2.2.1 = (-1 : Int)))) then (
                        (f65c a1 a0.2.2.2.1).bind fun r5 =>
                        bif (!(decide (r5.2.2.2 = (0 : Int)))) then (
                          some ([], ([], ((0 : Int), (r5.2.2.2, true)))))
                        else (
                          (f34 a0.2.2.1).bind fun r6 =>
                          bif (decide (a0.2.2.2.1 = (-1 : Int))) then (
                            (f67c (511 : Int) r6).bind fun r7 =>
                            (f66c r7).bind fun r8 =>
                            (f64c a1 r8).bind fun r9 =>
                            bif (decide ((0 : Int) < (((List.length r9) : Nat) : Int))) then (
                              some (r9, ([], ((0 : Int), ((0 : Int), false)))))
                            else (
                              (f68c a1 a0.1 r6).bind fun r10 =>
                              bif (!r10.2) then (
                                some ([], ([], ((0 : Int), ((12 : Int), true)))))
                              else (
                                (f69c a1 r10.1).bind fun r11 =>
                                bif (!r11.2.2.1) then (
                                  (f36 r10.1).bind fun r12 =>
                                  some ([r12], ([], ((0 : Int), ((0 : Int), false)))))
                                else (
                                  bif (!(decide (r11.2.2.2 = (0 : Int)))) then (
                                    some ([], ([], ((0 : Int), (r11.2.2.2, true)))))
                                  else (
                                    bif (!(decide (r11.2.1.1 = a0.2.2.2.1))) then (
                                      some ([], ([], ((0 : Int), ((11 : Int), true)))))
                                    else (
                                      bif (decide ((0 : Int) ≤ (IntKind.wrap .u64 r10.1))) then
                                      (f29c r4.1 (r4.2.1.1, (r4.2.1.2.1, ((IntKind.wrap .u32 ((BitVec.ofInt (IntKind.bits .u32) r4.2.1.2.2.1 ||| BitVec.ofInt (IntKind.bits .u32) (shiftL .u32 (1 : Int) (IntKind.wrap .u64 r10.1))).toNat : Int)), (a0.2.1, r4.2.1.2.2.2.2))))).bind fun r13 =>
                                      (f27 r11.1 (a0.1, r11.2.1.2)).bind fun r14 =>
                                      bif (!(decide (a0.2.2.2.1 = (-1 : Int)))) then (
                                        bif (decide ((0 : Int) ≤ (IntKind.wrap .u64 r10.1))) then
                                        (f29c r5.1 (r5.2.1.1, (r5.2.1.2.1, ((IntKind.wrap .u32 ((BitVec.ofInt (IntKind.bits .u32) r5.2.1.2.2.1 &&& ~~~ BitVec.ofInt (IntKind.bits .u32) (shiftL .u32 (1 : Int) (IntKind.wrap .u64 r10.1))).toNat : Int)), r5.2.1.2.2.2)))).bind fun r15 =>
                                        (f62c ([r13.1, r14.1] ++ [r15.1])).bind fun r16 =>
                                        some ([], (r16, (r10.1, ((0 : Int), true))))
                                        else none)
                                      else (
                                        (f62c [r13.1, r14.1]).bind fun r17 =>
                                        some ([], (r17, (r10.1, ((0 : Int), true)))))
                                      else none))))))
                          else (
                            (f67c r5.2.1.2.2.1 r6).bind fun r18 =>
                            bif (decide ((((List.length r18) : Nat) : Int) = (0 : Int))) then (
                              some ([], ([], ((0 : Int), ((16 : Int), true)))))
                            else (
                              bif (inR (0 : Int) (List.length r18)) then
                              (f69c a1 (List.getD r18 0 (0 : Int))).bind fun r19 =>
                              bif (!r19.2.2.1) then (
                                (f36 (List.getD r18 0 (0 : Int))).bind fun r20 =>
                                some ([r20], ([], ((0 : Int), ((0 : Int), false)))))
                              else (
                                bif (!(decide (r19.2.2.2 = (0 : Int)))) then (
                                  some ([], ([], ((0 : Int), (r19.2.2.2, true)))))
                                else (
                                  bif (!(decide (r19.2.1.1 = a0.2.2.2.1))) then (
                                    some ([], ([], ((0 : Int), ((11 : Int), true)))))
                                  else (
                                    bif (decide ((0 : Int) ≤ (IntKind.wrap .u64 (List.getD r18 0 (0 : Int))))) then
                                    (f29c r4.1 (r4.2.1.1, (r4.2.1.2.1, ((IntKind.wrap .u32 ((BitVec.ofInt (IntKind.bits .u32) r4.2.1.2.2.1 ||| BitVec.ofInt (IntKind.bits .u32) (shiftL .u32 (1 : Int) (IntKind.wrap .u64 (List.getD r18 0 (0 : Int))))).toNat : Int)), (a0.2.1, r4.2.1.2.2.2.2))))).bind fun r21 =>
                                    (f27 r19.1 (a0.1, r19.2.1.2)).bind fun r22 =>
                                    bif (!(decide (a0.2.2.2.1 = (-1 : Int)))) then (
                                      bif (decide ((0 : Int) ≤ (IntKind.wrap .u64 (List.getD r18 0 (0 : Int))))) then
                                      (f29c r5.1 (r5.2.1.1, (r5.2.1.2.1, ((IntKind.wrap .u32 ((BitVec.ofInt (IntKind.bits .u32) r5.2.1.2.2.1 &&& ~~~ BitVec.ofInt (IntKind.bits .u32) (shiftL .u32 (1 : Int) (IntKind.wrap .u64 (List.getD r18 0 (0 : Int))))).toNat : Int)), r5.2.1.2.2.2)))).bind fun r23 =>
                                      (f62c ([r21.1, r22.1] ++ [r23.1])).bind fun r24 =>
                                      some ([], (r24, ((List.getD r18 0 (0 : Int)), ((0 : Int), true))))
                                      else none)
                                    else (
                                      (f62c [r21.1, r22.1]).bind fun r25 =>
                                      some ([], (r25, ((List.getD r18 0 (0 : Int)), ((0 : Int), true)))))
                                    else none)))
                              else none))))
                      else (
                        (f34 a0.2.2.1).bind fun r26 =>
                        bif (decide (a0.2.2.2.1 = (-1 : Int))) then (
                          (f67c (511 : Int) r26).bind fun r27 =>
                          (f66c r27).bind fun r28 =>
                          (f64c a1 r28).bind fun r29 =>
                          bif (decide ((0 : Int) < (((List.length r29) : Nat) : Int))) then (
                            some (r29, ([], ((0 : Int), ((0 : Int), false)))))
                          else (
                            (f68c a1 a0.1 r26).bind fun r30 =>
                            bif (!r30.2) then (
                              some ([], ([], ((0 : Int), ((12 : Int), true)))))
                            else (
                              (f69c a1 r30.1).bind fun r31 =>
                              bif (!r31.2.2.1) then (
                                (f36 r30.1).bind fun r32 =>
                                some ([r32], ([], ((0 : Int), ((0 : Int), false)))))
                              else (
                                bif (!(decide (r31.2.2.2 = (0 : Int)))) then (
                                  some ([], ([], ((0 : Int), (r31.2.2.2, true)))))
                                else (
                                  bif (!(decide (r31.2.1.1 = a0.2.2.2.1))) then (
                                    some ([], ([], ((0 : Int), ((11 : Int), true)))))
                                  else (
                                    bif (decide ((0 : Int) ≤ (IntKind.wrap .u64 r30.1))) then
                                    (f29c r4.1 (r4.2.1.1, (r4.2.1.2.1, ((IntKind.wrap .u32 ((BitVec.ofInt (IntKind.bits .u32) r4.2.1.2.2.1 ||| BitVec.ofInt (IntKind.bits .u32) (shiftL .u32 (1 : Int) (IntKind.wrap .u64 r30.1))).toNat : Int)), (a0.2.1, r4.2.1.2.2.2.2))))).bind fun r33 =>
                                    (f27 r31.1 (a0.1, r31.2.1.2)).bind fun r34 =>
                                    bif (!(decide (a0.2.2.2.1 = (-1 : Int)))) then (
                                      bif (decide ((0 : Int) ≤ (IntKind.wrap .u64 r30.1))) then
                                      (f29c ((0 : Int), ((0 : Int), ((List.replicate 7 (0 : Int)), ()))) (false, ((0 : Int), ((IntKind.wrap .u32 ((BitVec.ofInt (IntKind.bits .u32) (0 : Int) &&& ~~~ BitVec.ofInt (IntKind.bits .u32) (shiftL .u32 (1 : Int) (IntKind.wrap .u64 r30.1))).toNat : Int)), ((0 : Int), ((List.replicate 4 (((0 : Int), ((0 : Int), ())), ((0 : Int), ()))), ())))))).bind fun r35 =>
                                      (f62c ([r33.1, r34.1] ++ [r35.1])).bind fun r36 =>
                                      some ([], (r36, (r30.1, ((0 : Int), true))))
                                      else none)
                                    else (
                                      (f62c [r33.1, r34.1]).bind fun r37 =>
                                      some ([], (r37, (r30.1, ((0 : Int), true)))))
                                    else none))))))
                        else (
                          (f67c (0 : Int) r26).bind fun r38 =>
                          bif (decide ((((List.length r38) : Nat) : Int) = (0 : Int))) then (
                            some ([], ([], ((0 : Int), ((16 : Int), true)))))
                          else (
                            bif (inR (0 : Int) (List.length r38)) then
                            (f69c a1 (List.getD r38 0 (0 : Int))).bind fun r39 =>
                            bif (!r39.2.2.1) then (
                              (f36 (List.getD r38 0 (0 : Int))).bind fun r40 =>
                              some ([r40], ([], ((0 : Int), ((0 : Int), false)))))
                            else (
                              bif (!(decide (r39.2.2.2 = (0 : Int)))) then (
                                some ([], ([], ((0 : Int), (r39.2.2.2, true)))))
                              else (
                                bif (!(decide (r39.2.1.1 = a0.2.2.2.1))) then (
                                  some ([], ([], ((0 : Int), ((11 : Int), true)))))
                                else (
                                  bif (decide ((0 : Int) ≤ (IntKind.wrap .u64 (List.getD r38 0 (0 : Int))))) then
                                  (f29c r4.1 (r4.2.1.1, (r4.2.1.2.1, ((IntKind.wrap .u32 ((BitVec.ofInt (IntKind.bits .u32) r4.2.1.2.2.1 ||| BitVec.ofInt (IntKind.bits .u32) (shiftL .u32 (1 : Int) (IntKind.wrap .u64 (List.getD r38 0 (0 : Int))))).toNat : Int)), (a0.2.1, r4.2.1.2.2.2.2))))).bind fun r41 =>
                                  (f27 r39.1 (a0.1, r39.2.1.2)).bind fun r42 =>
                                  bif (!(decide (a0.2.2.2.1 = (-1 : Int)))) then (
                                    bif (decide ((0 : Int) ≤ (IntKind.wrap .u64 (List.getD r38 0 (0 : Int))))) then
                                    (f29c ((0 : Int), ((0 : Int), ((List.replicate 7 (0 : Int)), ()))) (false, ((0 : Int), ((IntKind.wrap .u32 ((BitVec.ofInt (IntKind.bits .u32) (0 : Int) &&& ~~~ BitVec.ofInt (IntKind.bits .u32) (shiftL .u32 (1 : Int) (IntKind.wrap .u64 (List.getD r38 0 (0 : Int))))).toNat : Int)), ((0 : Int), ((List.replicate 4 (((0 : Int), ((0 : Int), ())), ((0 : Int), ()))), ())))))).bind fun r43 =>
                                    (f62c ([r41.1, r42.1] ++ [r43.1])).bind fun r44 =>
                                    some ([], (r44, ((List.getD r38 0 (0 : Int)), ((0 : Int), true))))
                                    else none)
                                  else (
                                    (f62c [r41.1, r42.1]).bind fun r45 =>
                                    some ([], (r45, ((List.getD r38 0 (0 : Int)), ((0 : Int), true)))))
                                  else none)))
                            else none))))))
                else (
                  (f64c a1 [(IntKind.wrap .i64 ((98 : Int) + a0.1))]).bind fun r46 =>
                  bif (decide ((0 : Int) < (((List.length r46) : Nat) : Int))) then (
                    some (r46, ([], ((0 : Int), ((0 : Int), false)))))
                  else (
                    (f65c a1 a0.1).bind fun r47 =>
                    bif (!(decide (r47.2.2.2 = (0 : Int)))) then (
                      some ([], ([], ((0 : Int), (r47.2.2.2, true)))))
                    else (
                      bif (!(decide (a0.2.2.2.1 = (-1 : Int)))) then (
                        (f65c a1 a0.2.2.2.1).bind fun r48 =>
                        bif (!(decide (r48.2.2.2 = (0 : Int)))) then (
                          some ([], ([], ((0 : Int), (r48.2.2.2, true)))))
                        else (
                          (f34 a0.2.2.1).bind fun r49 =>
                          bif (decide (a0.2.2.2.1 = (-1 : Int))) then (
                            (f67c (511 : Int) r49).bind fun r50 =>
                            (f66c r50).bind fun r51 =>
                            (f64c a1 r51).bind fun r52 =>
                            bif (decide ((0 : Int) < (((List.length r52) : Nat) : Int))) then (
                              some (r52, ([], ((0 : Int), ((0 : Int), false)))))
                            else (
                              (f68c a1 a0.1 r49).bind fun r53 =>
                              bif (!r53.2) then (
                                some ([], ([], ((0 : Int), ((12 : Int), true)))))
                              else (
                                (f69c a1 r53.1).bind fun r54 =>
                                bif (!r54.2.2.1) then (
                                  (f36 r53.1).bind fun r55 =>
                                  some ([r55], ([], ((0 : Int), ((0 : Int), false)))))
                                else (
                                  bif (!(decide (r54.2.2.2 = (0 : Int)))) then (
                                    some ([], ([], ((0 : Int), (r54.2.2.2, true)))))
                                  else (
                                    bif (!(decide (r54.2.1.1 = a0.2.2.2.1))) then (
                                      some ([], ([], ((0 : Int), ((11 : Int), true)))))
                                    else (
                                      bif (decide ((0 : Int) ≤ (IntKind.wrap .u64 r53.1))) then
                                      (f29c r47.1 (r47.2.1.1, (r47.2.1.2.1, ((IntKind.wrap .u32 ((BitVec.ofInt (IntKind.bits .u32) r47.2.1.2.2.1 ||| BitVec.ofInt (IntKind.bits .u32) (shiftL .u32 (1 : Int) (IntKind.wrap .u64 r53.1))).toNat : Int)), (a0.2.1, r47.2.1.2.2.2.2))))).bind fun r56 =>
                                      (f27 r54.1 (a0.1, r54.2.1.2)).bind fun r57 =>
                                      bif (!(decide (a0.2.2.2.1 = (-1 : Int)))) then (
                                        bif (decide ((0 : Int) ≤ (IntKind.wrap .u64 r53.1))) then
                                        (f29c r48.1 (r48.2.1.1, (r48.2.1.2.1, ((IntKind.wrap .u32 ((BitVec.ofInt (IntKind.bits .u32) r48.2.1.2.2.1 &&& ~~~ BitVec.ofInt (IntKind.bits .u32) (shiftL .u32 (1 : Int) (IntKind.wrap .u64 r53.1))).toNat : Int)), r48.2.1.2.2.2)))).bind fun r58 =>
                                        (f62c ([r56.1, r57.1] ++ [r58.1])).bind fun r59 =>
                                        some ([], (r59, (r53.1, ((0 : Int), true))))
                                        else none)
                                      else (
                                        (f62c [r56.1, r57.1]).bind fun r60 =>
                                        some ([], (r60, (r53.1, ((0 : Int), true)))))
                                      else none))))))
                          else (
                            (f67c r48.2.1.2.2.1 r49).bind fun r61 =>
                            bif (decide ((((List.length r61) : Nat) : Int) = (0 : Int))) then (
                              some ([], ([], ((0 : Int), ((16 : Int), true)))))
                            else (
                              bif (inR (0 : Int) (List.length r61)) then
                              (f69c a1 (List.getD r61 0 (0 : Int))).bind fun r62 =>
                              bif (!r62.2.2.1) then (
                                (f36 (List.getD r61 0 (0 : Int))).bind fun r63 =>
                                some ([r63], ([], ((0 : Int), ((0 : Int), false)))))
                              else (
                                bif (!(decide (r62.2.2.2 = (0 : Int)))) then (
                                  some ([], ([], ((0 : Int), (r62.2.2.2, true)))))
                                else (
                                  bif (!(decide (r62.2.1.1 = a0.2.2.2.1))) then (
                                    some ([], ([], ((0 : Int), ((11 : Int), true)))))
                                  else (
                                    bif (decide ((0 : Int) ≤ (IntKind.wrap .u64 (List.getD r61 0 (0 : Int))))) then
                                    (f29c r47.1 (r47.2.1.1, (r47.2.1.2.1, ((IntKind.wrap .u32 ((BitVec.ofInt (IntKind.bits .u32) r47.2.1.2.2.1 ||| BitVec.ofInt (IntKind.bits .u32) (shiftL .u32 (1 : Int) (IntKind.wrap .u64 (List.getD r61 0 (0 : Int))))).toNat : Int)), (a0.2.1, r47.2.1.2.2.2.2))))).bind fun r64 =>
                                    (f27 r62.1 (a0.1, r62.2.1.2)).bind fun r65 =>
                                    bif (!(decide (a0.2.2.2.1 = (-1 : Int)))) then (
                                      bif (decide ((0 : Int) ≤ (IntKind.wrap .u64 (List.getD r61 0 (0 : Int))))) then
                                      (f29c r48.1 (r48.2.1.1, (r48.2.1.2.1, ((IntKind.wrap .u32 ((BitVec.ofInt (IntKind.bits .u32) r48.2.1.2.2.1 &&& ~~~ BitVec.ofInt (IntKind.bits .u32) (shiftL .u32 (1 : Int) (IntKind.wrap .u64 (List.getD r61 0 (0 : Int))))).toNat : Int)), r48.2.1.2.2.2)))).bind fun r66 =>
                                      (f62c ([r64.1, r65.1] ++ [r66.1])).bind fun r67 =>
                                      some ([], (r67, ((List.getD r61 0 (0 : Int)), ((0 : Int), true))))
                                      else none)
                                    else (
                                      (f62c [r64.1, r65.1]).bind fun r68 =>
                                      some ([], (r68, ((List.getD r61 0 (0 : Int)), ((0 : Int), true)))))
                                    else none)))
                              else none))))
                      else (
                        (f34 a0.2.2.1).bind fun r69 =>
                        bif (decide (a0.2.2.2.1 = (-1 : Int))) then (
                          (f67c (511 : Int) r69).bind fun r70 =>
                          (f66c r70).bind fun r71 =>
                          (f64c a1 r71).bind fun r72 =>
                          bif (decide ((0 : Int) < (((List.length r72) : Nat) : Int))) then (
                            some (r72, ([], ((0 : Int), ((0 : Int), false)))))
                          else (
                            (f68c a1 a0.1 r69).bind fun r73 =>
                            bif (!r73.2) then (
                              some ([], ([], ((0 : Int), ((12 : Int), true)))))
                            else (
                              (f69c a1 r73.1).bind fun r74 =>
                              bif (!r74.2.2.1) then (
                                (f36 r73.1).bind fun r75 =>
                                some ([r75], ([], ((0 : Int), ((0 : Int), false)))))
                              else (
                                bif (!(decide (r74.2.2.2 = (0 : Int)))) then (
                                  some ([], ([], ((0 : Int), (r74.2.2.2, true)))))
                                else (
                                  bif (!(decide (r74.2.1.1 = a0.2.2.2.1))) then (
                                    some ([], ([], ((0 : Int), ((11 : Int), true)))))
                                  else (
                                    bif (decide ((0 : Int) ≤ (IntKind.wrap .u64 r73.1))) then
                                    (f29c r47.1 (r47.2.1.1, (r47.2.1.2.1, ((IntKind.wrap .u32 ((BitVec.ofInt (IntKind.bits .u32) r47.2.1.2.2.1 ||| BitVec.ofInt (IntKind.bits .u32) (shiftL .u32 (1 : Int) (IntKind.wrap .u64 r73.1))).toNat : Int)), (a0.2.1, r47.2.1.2.2.2.2))))).bind fun r76 =>
                                    (f27 r74.1 (a0.1, r74.2.1.2)).bind fun r77 =>
                                    bif (!(decide (a0.2.2.2.1 = (-1 : Int)))) then (
                                      bif (decide ((0 : Int) ≤ (IntKind.wrap .u64 r73.1))) then
                                      (f29c ((0 : Int), ((0 : Int), ((List.replicate 7 (0 : Int)), ()))) (false, ((0 : Int), ((IntKind.wrap .u32 ((BitVec.ofInt (IntKind.bits .u32) (0 : Int) &&& ~~~ BitVec.ofInt (IntKind.bits .u32) (shiftL .u32 (1 : Int) (IntKind.wrap .u64 r73.1))).toNat : Int)), ((0 : Int), ((List.replicate 4 (((0 : Int), ((0 : Int), ())), ((0 : Int), ()))), ())))))).bind fun r78 =>
                                      (f62c ([r76.1, r77.1] ++ [r78.1])).bind fun r79 =>
                                      some ([], (r79, (r73.1, ((0 : Int), true))))
                                      else none)
                                    else (
                                      (f62c [r76.1, r77.1]).bind fun r80 =>
                                      some ([], (r80, (r73.1, ((0 : Int), true)))))
                                    else none))))))
                        else (
                          (f67c (0 : Int) r69).bind fun r81 =>
                          bif (decide ((((List.length r81) : Nat) : Int) = (0 : Int))) then (
                            some ([], ([], ((0 : Int), ((16 : Int), true)))))
                          else (
                            bif (inR (0 : Int) (List.length r81)) then
                            (f69c a1 (List.getD r81 0 (0 : Int))).bind fun r82 =>
                            bif (!r82.2.2.1) then (
                              (f36 (List.getD r81 0 (0 : Int))).bind fun r83 =>
                              some ([r83], ([], ((0 : Int), ((0 : Int), false)))))
                            else (
                              bif (!(decide (r82.2.2.2 = (0 : Int)))) then (
                                some ([], ([], ((0 : Int), (r82.2.2.2, true)))))
                              else (
                                bif (!(decide (r82.2.1.1 = a0.2.2.2.1))) then (
                                  some ([], ([], ((0 : Int), ((11 : Int), true)))))
                                else (
                                  bif (decide ((0 : Int) ≤ (IntKind.wrap .u64 (List.getD r81 0 (0 : Int))))) then
                                  (f29c r47.1 (r47.2.1.1, (r47.2.1.2.1, ((IntKind.wrap .u32 ((BitVec.ofInt (IntKind.bits .u32) r47.2.1.2.2.1 ||| BitVec.ofInt (IntKind.bits .u32) (shiftL .u32 (1 : Int) (IntKind.wrap .u64 (List.getD r81 0 (0 : Int))))).toNat : Int)), (a0.2.1, r47.2.1.2.2.2.2))))).bind fun r84 =>
                                  (f27 r82.1 (a0.1, r82.2.1.2)).bind fun r85 =>
                                  bif (!(decide (a0.2.2.2.1 = (-1 : Int)))) then (
                                    bif (decide ((0 : Int) ≤ (IntKind.wrap .u64 (List.getD r81 0 (0 : Int))))) then
                                    (f29c ((0 : Int), ((0 : Int), ((List.replicate 7 (0 : Int)), ()))) (false, ((0 : Int), ((IntKind.wrap .u32 ((BitVec.ofInt (IntKind.bits .u32) (0 : Int) &&& ~~~ BitVec.ofInt (IntKind.bits .u32) (shiftL .u32 (1 : Int) (IntKind.wrap .u64 (List.getD r81 0 (0 : Int))))).toNat : Int)), ((0 : Int), ((List.replicate 4 (((0 : Int), ((0 : Int), ())), ((0 : Int), ()))), ())))))).bind fun r86 =>
                                    (f62c ([r84.1, r85.1] ++ [r86.1])).bind fun r87 =>
                                    some ([], (r87, ((List.getD r81 0 (0 : Int)), ((0 : Int), true))))
                                    else none)
                                  else (
                                    (f62c [r84.1, r85.1]).bind fun r88 =>
                                    some ([], (r88, ((List.getD r81 0 (0 : Int)), ((0 : Int), true)))))
                                  else none)))
                            else none)))))))))))))
theorem f42_le (a0 : Val TClaim) (a1 : Val (.slice TPage)) : Le (f42c a0 a1) (f42 a0 a1) := by unfold f42c f42; exact (.bind .refl fun _ => (.cond .refl (.cond .refl (.cond .refl (.bind .refl fun _ => (.cond .refl (.cond .refl (.cond .refl (.cond .refl (.cond (.bind (f64_le _ _) fun _ => (.cond .refl (.bind (f65_le _ _) fun _ => (.cond .refl (.cond (.bind (f65_le _ _) fun _ => (.cond .refl (.bind .refl fun _ => (.cond (.bind (f67_le _ _) fun _ => (.bind (f66_le _) fun _ => (.bind (f64_le _ _) fun _ => (.cond .refl (.bind (f68_le _ _ _) fun _ => (.cond .refl (.bind (f69_le _ _) fun _ => (.cond .refl (.cond .refl (.cond .refl (.cond (.bind (f29_le _ _) fun _ => (.bind .refl fun _ => (.cond (.cond (.bind (f29_le _ _) fun _ => (.bind (f62_le _) fun _ => .refl)) .refl) (.bind (f62_le _) fun _ => .refl)))) .refl))))))))))) (.bind (f67_le _ _) fun _ => (.cond .refl (.cond (.bind (f69_le _ _) fun _ => (.cond .refl (.cond .refl (.cond .refl (.cond (.bind (f29_le _ _) fun _ => (.bind .refl fun _ => (.cond (.cond (.bind (f29_le _ _) fun _ => (.bind (f62_le _) fun _ => .refl)) .refl) (.bind (f62_le _) fun _ => .refl)))) .refl))))) .refl))))))) (.bind .refl fun _ => (.cond (.bind (f67_le _ _) fun _ => (.bind (f66_le _) fun _ => (.bind (f64_le _ _) fun _ => (.cond .refl (.bind (f68_le _ _ _) fun _ => (.cond .refl (.bind (f69_le _ _) fun _ => (.cond .refl (.cond .refl (.cond .refl (.cond (.bind (f29_le _ _) fun _ => (.bind .refl fun _ => (.cond (.cond (.bind (f29_le _ _) fun _ => (.bind (f62_le _) fun _ => .refl)) .refl) (.bind (f62_le _) fun _ => .refl)))) .refl))))))))))) (.bind (f67_le _ _) fun _ => (.cond .refl (.cond (.bind (f69_le _ _) fun _ => (.cond .refl (.cond .refl (.cond .refl (.cond (.bind (f29_le _ _) fun _ => (.bind .refl fun _ => (.cond (.cond (.bind (f29_le _ _) fun _ => (.bind (f62_le _) fun _ => .refl)) .refl) (.bind (f62_le _) fun _ => .refl)))) .refl))))) .refl)))))))))) (.bind (f64_le _ _) fun _ => (.cond .refl (.bind (f65_le _ _) fun _ => (.cond .refl (.cond (.bind (f65_le _ _) fun _ => (.cond .refl (.bind .refl fun _ => (.cond (.bind (f67_le _ _) fun _ => (.bind (f66_le _) fun _ => (.bind (f64_le _ _) fun _ => (.cond .refl (.bind (f68_le _ _ _) fun _ => (.cond .refl (.bind (f69_le _ _) fun _ => (.cond .refl (.cond .refl (.cond .refl (.cond (.bind (f29_le _ _) fun _ => (.bind .refl fun _ => (.cond (.cond (.bind (f29_le _ _) fun _ => (.bind (f62_le _) fun _ => .refl)) .refl) (.bind (f62_le _) fun _ => .refl)))) .refl))))))))))) (.bind (f67_le _ _) fun _ => (.cond .refl (.cond (.bind (f69_le _ _) fun _ => (.cond .refl (.cond .refl (.cond .refl (.cond (.bind (f29_le _ _) fun _ => (.bind .refl fun _ => (.cond (.cond (.bind (f29_le _ _) fun _ => (.bind (f62_le _) fun _ => .refl)) .refl) (.bind (f62_le _) fun _ => .refl)))) .refl))))) .refl))))))) (.bind .refl fun _ => (.cond (.bind (f67_le _ _) fun _ => (.bind (f66_le _) fun _ => (.bind (f64_le _ _) fun _ => (.cond .refl (.bind (f68_le _ _ _) fun _ => (.cond .refl (.bind (f69_le _ _) fun _ => (.cond .refl (.cond .refl (.cond .refl (.cond (.bind (f29_le _ _) fun _ => (.bind .refl fun _ => (.cond (.cond (.bind (f29_le _ _) fun _ => (.bind (f62_le _) fun _ => .refl)) .refl) (.bind (f62_le _) fun _ => .refl)))) .refl))))))))))) (.bind (f67_le _ _) fun _ => (.cond .refl (.cond (.bind (f69_le _ _) fun _ => (.cond .refl (.cond .refl (.cond .refl (.cond (.bind (f29_le _ _) fun _ => (.bind .refl fun _ => (.cond (.cond (.bind (f29_le _ _) fun _ => (.bind (f62_le _) fun _ => .refl)) .refl) (.bind (f62_le _) fun _ => .refl)))) .refl))))) .refl))))))))))))))))))))
noncomputable def f24c  : Option Bool :=
  (f40c (256 : Int)).bind fun r1 =>
  (f42c ((1 : Int), ((1 : Int), ((256 : Int), ((-1 : Int), ())))) []).bind fun r2 =>
  (f42c ((1 : Int), ((1 : Int), ((256 : Int), ((-1 : Int), ())))) r1.2.2.2).bind fun r3 =>
  bif (!r2.2.2.2.2) then (
    bif (decide ((((List.length r2.1) : Nat) : Int) = (1 : Int))) then (
      bif r3.2.2.2.2 then (
        bif (decide (r3.2.2.2.1 = (0 : Int))) then (
          bif (decide (r3.2.2.1 = (1 : Int))) then (
            some (decide ((((List.length r3.2.1) : Nat) : Int) = (2 : Int))))
          else (
            some false))
        else (
          some false))
      else (
        some false))
    else (
      some false))
  else (
    some false)
theorem f24_le  : Le (f24c ) (f24 ) := by unfold f24c f24; exact (.bind (f40_le _) fun _ => (.bind (f42_le _ _) fun _ => (.bind (f42_le _ _) fun _ => .refl)))
end Go.Sx
