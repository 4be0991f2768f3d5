/- A small symbolic executor for the model's code: types, values, states, one operation. Definitions alone. -/
import Derived.KernelRfl
import GoSem.Core.Code
import GoSem.Core.View
set_option linter.unusedVariables false
namespace Go.Sx
inductive CK where
  | ptr | map | func
inductive Ty where
  | int (k : IntKind)
  | bool
  | str
  | slice (t : Ty)
  | unit
  | pair (a b : Ty)
  | arr (n : Nat) (t : Ty)
  | cell (c : CK)
@[reducible] def Val : Ty → Type
  | .int _ => Int
  | .bool => Bool
  | .str => ByteArray
  | .slice t => List (Val t)
  | .unit => Unit
  | .pair a b => Val a × Val b
  | .arr _ t => List (Val t)
  | .cell _ => Unit
def Ty.size : Ty → Nat
  | .int _ | .bool | .str | .slice _ | .cell _ => 1
  | .unit => 0
  | .pair a b => a.size + b.size
  | .arr n t => n * t.size
def Ty.isAgg : Ty → Bool
  | .unit | .pair _ _ | .arr _ _ => true
  | _ => false
def Ty.heapy : Ty → Bool
  | .slice _ | .cell _ => true
  | .pair a b => a.heapy || b.heapy
  | .arr _ t => t.heapy
  | _ => false
def Ty.pure : Ty → Bool
  | .cell _ => false
  | .pair a b => a.pure && b.pure
  | .arr _ t | .slice t => t.pure
  | _ => true
def dflt : (t : Ty) → Val t
  | .int _ => (0 : Int)
  | .bool => false
  | .str => ByteArray.empty
  | .slice _ => []
  | .unit => ()
  | .pair a b => (dflt a, dflt b)
  | .arr n t => List.replicate n (dflt t)
  | .cell _ => ()
def ikEq : IntKind → IntKind → Bool
  | .i8, .i8 | .i16, .i16 | .i32, .i32 | .i64, .i64 | .u8, .u8 | .u16, .u16 | .u32, .u32 | .u64, .u64 => true
  | _, _ => false
def ckEq : CK → CK → Bool
  | .ptr, .ptr | .map, .map | .func, .func => true
  | _, _ => false
def tyEq : Ty → Ty → Bool
  | .int a, .int b => ikEq a b
  | .bool, .bool | .str, .str | .unit, .unit => true
  | .slice a, .slice b => tyEq a b
  | .pair a b, .pair c d => tyEq a c && tyEq b d
  | .arr n a, .arr m b => Nat.beq n m && tyEq a b
  | .cell a, .cell b => ckEq a b
  | _, _ => false
theorem ikEq_eq {a b : IntKind} (h : ikEq a b = true) : a = b := by cases a <;> cases b <;> simp_all [ikEq]
theorem ckEq_eq {a b : CK} (h : ckEq a b = true) : a = b := by cases a <;> cases b <;> simp_all [ckEq]
theorem tyEq_eq : ∀ {a b : Ty}, tyEq a b = true → a = b := by
  intro a
  induction a with
  | int k => intro b h; cases b <;> simp [tyEq] at h; rw [ikEq_eq h]
  | bool => intro b h; cases b <;> simp [tyEq] at h; rfl
  | str => intro b h; cases b <;> simp [tyEq] at h; rfl
  | unit => intro b h; cases b <;> simp [tyEq] at h; rfl
  | slice t ih => intro b h; cases b <;> simp [tyEq] at h; rw [ih h]
  | pair a b iha ihb => intro c h; cases c <;> simp [tyEq] at h; rw [iha h.1, ihb h.2]
  | arr n t ih => intro c h; cases c <;> simp [tyEq] at h; rw [ih h.2, h.1]
  | cell c => intro b h; cases b <;> simp [tyEq] at h; rw [ckEq_eq h]
def castV (a b : Ty) (v : Val a) : Option (Val b) :=
  match h : tyEq a b with
  | true => some (tyEq_eq h ▸ v)
  | false => none
def eqV : (t : Ty) → Val t → Val t → Bool
  | .int _, a, b => decide (a = b)
  | .bool, a, b => a == b
  | .str, a, b => a == b
  | .slice _, _, _ => false
  | .unit, _, _ => true
  | .pair a b, x, y => eqV a x.1 y.1 && eqV b x.2 y.2
  | .arr _ t, x, y => go (eqV t) x y
  | .cell _, _, _ => false
 where
  go {α : Type} (f : α → α → Bool) : List α → List α → Bool
    | [], [] => true
    | a :: l, b :: m => f a b && go f l m
    | _, _ => false
def Ty.eqOk : Ty → Bool
  | .int _ | .bool | .str | .unit => true
  | .pair a b => a.eqOk && b.eqOk
  | .arr _ t => t.eqOk
  | _ => false
inductive PS where
  | fld (i : Nat)
  | idx (i : Nat)
def fldT : Ty → Nat → Option (Nat × Ty)
  | .pair a _, 0 => some (0, a)
  | .pair a b, i + 1 => match fldT b i with
    | some (o, t) => some (a.size + o, t)
    | none => none
  | _, _ => none
def offT : Ty → List PS → Option (Nat × Ty)
  | t, [] => some (0, t)
  | t, .fld i :: p => match fldT t i with
    | some (o, u) => match offT u p with
      | some (q, z) => some (o + q, z)
      | none => none
    | none => none
  | .arr _ t, .idx i :: p => match offT t p with
    | some (q, z) => some (i * t.size + q, z)
    | none => none
  | _, _ => none
structure TV where
  t : Ty
  v : Val t
def fldV : (t : Ty) → Val t → Nat → Option TV
  | .pair a _, v, 0 => some ⟨a, v.1⟩
  | .pair _ b, v, i + 1 => fldV b v.2 i
  | _, _, _ => none
def getV : (p : List PS) → (t : Ty) → Val t → Option TV
  | [], t, v => some ⟨t, v⟩
  | .fld i :: p, t, v => match fldV t v i with
    | some ⟨u, x⟩ => getV p u x
    | none => none
  | .idx i :: p, .arr _ t, v => getV p t (v.getD i (dflt t))
  | _, _, _ => none
def setFldV : (t : Ty) → Val t → Nat → TV → Option (Val t)
  | .pair a _, v, 0, x => match castV x.t a x.v with
    | some y => some (y, v.2)
    | none => none
  | .pair _ b, v, i + 1, x => match setFldV b v.2 i x with
    | some y => some (v.1, y)
    | none => none
  | _, _, _, _ => none
def setV : (p : List PS) → (t : Ty) → Val t → TV → Option (Val t)
  | [], t, _, x => castV x.t t x.v
  | .fld i :: p, t, v, x => match fldV t v i with
    | some ⟨u, y⟩ => match setV p u y x with
      | some z => setFldV t v i ⟨u, z⟩
      | none => none
    | none => none
  | .idx i :: p, .arr _ t, v, x => match setV p t (v.getD i (dflt t)) x with
    | some z => some (v.set i z)
    | none => none
  | _, _, _, _ => none
inductive SV where
  | dead
  | dat (nw : Bool) (t : Ty) (v : Val t)
  | agg (l : List SV)
  | tup (l : List SV)
  | at (nw : Bool) (t : Ty) (v : Val t)
  | ref (id : Nat) (p : List PS)
  | zc (c : CK)
  | nils
  | own (t : Ty) (id : Nat)
  | sub (t : Ty) (id : Nat) (lo hi : Nat)
  | vw (t : Ty) (id : Nat) (p : List PS) (n lo hi : Nat)
  | fn (f : Nat) (caps : List SV)
  | mp (id : Nat)
  | it (id : Nat)
inductive Obj where
  | gone
  | box (t : Ty) (c : SV)
  | slc (nw : Bool) (t : Ty) (xs : List (Val t))
  | map (k : IntKind) (nw : Bool) (t : Ty) (es : List (Int × Val t))
  | itr (m : Nat) (n : Int) (seen : List Int)
structure St where
  n : Nat
  nx : Nat
  sl : Nat → SV
  ob : Nat → Obj
def up {α : Type} (f : Nat → α) (k : Nat) (v : α) : Nat → α := fun j => bif Nat.beq j k then v else f j
structure Upd where
  sl : List (Nat × SV)
  ob : List (Nat × Obj)
def ups {α : Type} (f : Nat → α) : List (Nat × α) → Nat → α
  | [] => f
  | (k, v) :: l => ups (up f k v) l
def St.apply (s : St) (u : Upd) : St :=
  match s, u with
  | ⟨n, nx, sl, ob⟩, ⟨a, b⟩ => ⟨n, nx, ups sl a, ups ob b⟩
inductive PR (β : Type) : Type 1 where
  | fail
  | ret (b : β)
  | chk (b : Bool) (p : PR β)
  | bnd {α : Type} (o : Option α) (f : α → PR β)
  | alt {α γ : Type} (s : α ⊕ γ) (f : α → PR β) (g : γ → PR β)
def PR.val {β : Type} : PR β → Option β
  | .fail => none
  | .ret b => some b
  | .chk b p => bif b then p.val else none
  | .bnd o f => o.bind fun a => (f a).val
  | .alt s f g => match s with
    | .inl a => (f a).val
    | .inr b => (g b).val
def PR.run {β R : Type} : PR β → (β → Option R) → Option R
  | .fail, _ => none
  | .ret b, k => k b
  | .chk b p, k => bif b then p.run k else none
  | .bnd o f, k => o.bind fun a => (f a).run k
  | .alt s f g, k => match s with
    | .inl a => (f a).run k
    | .inr b => (g b).run k
theorem PR.run_eq {β R : Type} (p : PR β) (k : β → Option R) : p.run k = p.val.bind k := by
  induction p with
  | fail => rfl
  | ret b => rfl
  | chk b p ih => cases b <;> simp [PR.run, PR.val, ih]
  | bnd o f ih => cases o <;> simp [PR.run, PR.val, ih]
  | alt s f g ihf ihg => cases s <;> simp [PR.run, PR.val, ihf, ihg]
end Go.Sx
