/- The symbolic executor: regions and code. Definitions alone. -/
import Derived.Test.YteghkndbngddgaaGreatSxP
import GoSem.Core.Region
set_option linter.unusedVariables false
namespace Go.Sx
def dstOf (ops : List Oper) (j : Nat) : Option Nat :=
  match ops[j]? with
  | some o => o.dst
  | none => none
def deadU (dst : Option Nat) : Upd :=
  match dst with
  | some d => ⟨[(d, .tup [])], []⟩
  | none => ⟨[], []⟩
def updOf {R : Type} (E : Env) (all : List Oper) (id0 : Nat) (v : (Nat → Obj) → Nat → Obj) (o : Oper) (s : St) (k : St → Upd → Option R) : Option R :=
  match o.guard with
  | none => (plan E { s with ob := v s.ob } id0 o).run fun u => k s u
  | some (j, want) => match dstOf all j with
    | some g => match s.sl g with
      | .dat nw .bool b =>
        bif b then
          match want with
          | true => (plan E { s with sl := up s.sl g (.dat nw .bool true), ob := v s.ob } id0 o).run fun u => k { s with sl := up s.sl g (.dat nw .bool true) } u
          | false => k { s with sl := up s.sl g (.dat nw .bool true) } (deadU o.dst)
        else
          match want with
          | false => (plan E { s with sl := up s.sl g (.dat nw .bool false), ob := v s.ob } id0 o).run fun u => k { s with sl := up s.sl g (.dat nw .bool false) } u
          | true => k { s with sl := up s.sl g (.dat nw .bool false) } (deadU o.dst)
      | .tup [] => k s (deadU o.dst)
      | _ => none
    | none => none
def stepsT {R : Type} (E : Env) (all : List Oper) (nx : Nat) : List Oper → Nat → St → (St → Option R) → Option R
  | [], _, s, k => k s
  | o :: l, i, s, k => updOf E all (nx + i * quota) (fun f => f) o s fun s u => stepsT E all nx l (i + 1) (s.apply u) k
def bitOf (m i : Nat) : Bool := Nat.beq (Nat.land (Nat.shiftRight m i) 1) 1
def maskOf (acc : List Nat) : List Edge → Nat → Nat
  | [], m => m
  | e :: l, m => maskOf acc l (bif Region.binds .any e then Nat.lor m (Nat.lor (Nat.shiftLeft 1 e.on) (acc.getD e.on 0)) else m)
def masksOf : List Oper → List Nat → List Nat
  | [], acc => acc
  | o :: l, acc => masksOf l (acc ++ [maskOf acc o.after.toList 0])
def rangeAll (p : Nat → Bool) : Nat → Bool
  | 0 => true
  | n + 1 => p n && rangeAll p n
def fixedAt (ms : List Nat) (n j : Nat) : Bool := rangeAll (fun i => bif Nat.blt i j then bitOf (ms.getD j 0) i else bif Nat.beq i j then true else bitOf (ms.getD i 0) j) n
def idsV : Nat → SV → List Nat → List Nat
  | 0, _, acc => acc
  | _ + 1, .ref id _, acc => id :: acc
  | _ + 1, .own _ id, acc => id :: acc
  | _ + 1, .sub _ id _ _, acc => id :: acc
  | _ + 1, .vw _ id _ _ _ _, acc => id :: acc
  | _ + 1, .mp id, acc => id :: acc
  | _ + 1, .it id, acc => id :: acc
  | n + 1, .agg l, acc => l.foldl (fun acc s => idsV n s acc) acc
  | n + 1, .tup l, acc => l.foldl (fun acc s => idsV n s acc) acc
  | n + 1, .fn _ l, acc => l.foldl (fun acc s => idsV n s acc) acc
  | _ + 1, _, acc => acc
def reachL : Nat → (Nat → Obj) → List Nat → List Nat → List Nat
  | 0, _, _, seen => seen
  | _ + 1, _, [], seen => seen
  | n + 1, ob, i :: l, seen => bif seen.any (Nat.beq i) then reachL n ob l seen else
    match ob i with
    | .box _ c => reachL n ob (idsV 10 c l) (i :: seen)
    | .itr m _ _ => reachL n ob (m :: l) (i :: seen)
    | _ => reachL n ob l (i :: seen)
def light : Op → Bool
  | .move _ | .assign _ | .pick _ _ _ | .binOp _ _ _ _ _ | .unOp _ _ _ => true
  | _ => false
def shallow : Op → Bool
  | .load .. | .fieldAddr .. | .store .. | .nilCheck .. | .indexAddr .. | .field .. | .extract .. | .lookup .. | .convert .. | .index .. => true
  | _ => false
def reachO (ms : List Nat) (n : Nat) (s : St) (i : Nat) (o : Oper) : Option (List Nat) :=
  match fixedAt ms n i with
  | true => none
  | false => some (bif light o.op then [] else bif shallow o.op then o.op.operands.toList.foldl (fun acc x => idsV 10 (ev s x) acc) [] else reachL 1000 s.ob (o.op.operands.toList.foldl (fun acc x => idsV 10 (ev s x) acc) []) [])
def seesB (nx : Nat) (ms : List Nat) (i : Nat) (V : Option (List Nat)) (id : Nat) : Bool :=
  bif Nat.blt id nx then (match V with
  | none => true
  | some l => l.any (Nat.beq id)) else bif Nat.beq (Nat.div (Nat.sub id nx) quota) i then true else bitOf (ms.getD i 0) (Nat.div (Nat.sub id nx) quota)
def view (nx : Nat) (ms : List Nat) (i : Nat) (V : Option (List Nat)) (ob : Nat → Obj) : Nat → Obj := fun id => bif seesB nx ms i V id then ob id else .gone
def apartOk (ms : List Nat) (nx i : Nat) (V : Option (List Nat)) (u : Upd) : List (Option (List Nat) × List Nat) → Nat → Bool
  | [], _ => true
  | (W, T) :: l, k => (bif bitOf (ms.getD i 0) k then true else (u.ob.all fun p => !(seesB nx ms k W p.1)) && T.all fun id => !(seesB nx ms i V id)) && apartOk ms nx i V u l (k + 1)
def slotsOf (all : List Oper) (o : Oper) : List Nat :=
  (match o.dst with
  | some d => [d]
  | none => []) ++
  (match o.guard with
  | some (j, _) => (match dstOf all j with
    | some g => [g]
    | none => [])
  | none => []) ++ o.op.operands.toList.filterMap fun x => match x with
    | .tmp t => some t
    | _ => none
def slotsOk (all : List Oper) (ms : List Nat) (n : Nat) : Bool :=
  rangeAll (fun j => match all[j]? with
    | some o => (slotsOf all o).all fun t => rangeAll (fun i => match dstOf all i with
      | some d => bif Nat.beq d t then (bif Nat.blt i j then bitOf (ms.getD j 0) i else bif Nat.beq i j then true else bitOf (ms.getD i 0) j) else true
      | none => true) n
    | none => false) n
def edgesOk (all : List Oper) (n : Nat) : Bool :=
  rangeAll (fun j => match all[j]? with
    | some o => o.after.toList.all fun e => bif Region.binds .any e then Nat.blt e.on j else true
    | none => false) n
def keysOk (dst : Option Nat) (u : Upd) : Bool := u.sl.all fun p => match dst with
  | some d => Nat.beq p.1 d
  | none => false
def stepsD {R : Type} (E : Env) (all : List Oper) (ms : List Nat) (n nx : Nat) : List Oper → Nat → List (Option (List Nat) × List Nat) → St → (St → Option R) → Option R
  | [], _, _, s, k => k s
  | o :: l, i, lg, s, k => updOf E all (nx + i * quota) (view nx ms i (reachO ms n s i o)) o s fun s' u =>
    match keysOk o.dst u && (u.ob.all fun p => seesB nx ms i (reachO ms n s i o) p.1) && apartOk ms nx i (reachO ms n s i o) u lg 0 with
    | true => stepsD E all ms n nx l (i + 1) (lg ++ [(reachO ms n s i o, u.ob.map (·.1))]) (s'.apply u) k
    | false => none
inductive Ex where
  | normal
  | exit (id : Nat)
  | ret
open Classical in
noncomputable def demO {α R : Type} (q : α → Prop) (g : α → Option R) : Option R := if h : ∃ r, ∀ a, q a → g a = some r then some h.choose else none
theorem demO_some {α R : Type} {q : α → Prop} {g : α → Option R} {r : R} (h : demO q g = some r) : ∀ a, q a → g a = some r := by
  unfold demO at h
  split at h
  · rename_i hh
    cases h
    exact hh.choose_spec
  · cases h
theorem demO_of {α R : Type} {q : α → Prop} {g : α → Option R} {r : R} (hq : ∃ a, q a) (h : ∀ a, q a → g a = some r) : demO q g = some r := by
  unfold demO
  have hh : ∃ r, ∀ a, q a → g a = some r := ⟨r, h⟩
  rw [dif_pos hh]
  obtain ⟨a, ha⟩ := hq
  have h1 := hh.choose_spec a ha
  rw [h a ha] at h1
  exact h1.symm
inductive DR (β : Type) : Type 1 where
  | det (p : PR β)
  | dem {α : Type} (q : α → Prop) (f : α → PR β)
noncomputable def DR.run {β R : Type} : DR β → (β → Option R) → Option R
  | .det p, k => p.run k
  | .dem q f, k => demO q fun a => (f a).run k
abbrev Sum := St → DR (Ex × St)
def rid : Code → Option Nat
  | .region id _ _ => some id
  | .seq a b => match rid a with
    | some n => some n
    | none => rid b
  | .cond _ a b => match rid a with
    | some n => some n
    | none => rid b
  | .block _ c | .loop c | .scope c => rid c
  | _ => none
noncomputable def exec {R : Type} (E : Env) (H : Nat → Option Sum) : Code → St → (Ex → St → Option R) → Option R
  | .skip, s, k => k .normal s
  | .region _ ops draw, s, k => match draw with
    | false => stepsT E ops.toList s.nx ops.toList 0 s fun s' => k .normal { s' with nx := s.nx + ops.size * quota }
    | true => match slotsOk ops.toList (masksOf ops.toList []) ops.size && edgesOk ops.toList ops.size with
      | true => stepsD E ops.toList (masksOf ops.toList []) ops.size s.nx ops.toList 0 [] s fun s' => k .normal { s' with nx := s.nx + ops.size * quota }
      | false => none
  | .seq a b, s, k => exec E H a s fun e s' => match e with
    | .normal => exec E H b s' k
    | .exit id => k (.exit id) s'
    | .ret => k .ret s'
  | .cond c a b, s, k => match ev s c with
    | .dat _ .bool t => bif t then exec E H a s k else exec E H b s k
    | _ => none
  | .block id c, s, k => exec E H c s fun e s' => match e with
    | .normal => k .normal s'
    | .exit j => bif Nat.beq j id then k .normal s' else k (.exit j) s'
    | .ret => k .ret s'
  | .loop c, s, k => match rid c with
    | some n => match H n with
      | some f => (f s).run fun r => k r.1 r.2
      | none => none
    | none => none
  | .exit id, s, k => k (.exit id) s
  | .ret, s, k => k .ret s
  | .scope c, s, k => exec E H c s k
  | _, _, _ => none
def loopsOf : Code → List Code
  | .seq a b => loopsOf a ++ loopsOf b
  | .cond _ a b => loopsOf a ++ loopsOf b
  | .block _ c | .scope c => loopsOf c
  | .loop c => c :: loopsOf c
  | _ => []
end Go.Sx
