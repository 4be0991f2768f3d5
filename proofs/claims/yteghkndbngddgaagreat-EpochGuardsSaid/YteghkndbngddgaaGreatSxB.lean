/- The symbolic executor: what one operation does. Definitions alone. -/
import Derived.Test.YteghkndbngddgaaGreatSxA
set_option linter.unusedVariables false
namespace Go.Sx
structure CallRes where
  res : SV
  ob : List (Nat × Obj)
abbrev Ctr := List SV → (Nat → Obj) → Nat → PR CallRes
structure Env where
  tf : Nat → Option Ty
  fn : Nat → Option Ctr
  mt : Nat → Option (IntKind × Nat × Ty) := fun _ => none
def lim : Nat := 2147483648
def toV (ob : Nat → Obj) : (t : Ty) → SV → Option (Bool × Val t)
  | t, .dat nw u v => match castV u t v with
    | some x => some (nw, x)
    | none => none
  | .slice _, .nils => some (true, [])
  | .slice t, .own _ id => match ob id with
    | .slc nw u xs => match castV (.slice u) (.slice t) xs with
      | some x => some (nw, x)
      | none => none
    | _ => none
  | .slice t, .sub _ id lo hi => match ob id with
    | .slc nw u xs => match castV (.slice u) (.slice t) xs with
      | some x => some (nw, (x.take hi).drop lo)
      | none => none
    | _ => none
  | .slice t, .vw _ id p _ lo hi => match ob id with
    | .box _ (.dat nw u v) => match getV p u v with
      | some ⟨.arr _ z, xs⟩ => match castV (.slice z) (.slice t) xs with
        | some x => some (nw, (x.take hi).drop lo)
        | none => none
      | _ => none
    | _ => none
  | .unit, .agg [] => some (true, ())
  | .pair a b, .agg (s :: l) => match toV ob a s, toV ob b (.agg l) with
    | some (m, x), some (n, y) => some ((m || !a.heapy) && (n || !b.heapy), (x, y))
    | _, _ => none
  | _, _ => none
def borrows : (t : Ty) → SV → List Nat
  | .slice _, .own _ id | .slice _, .sub _ id _ _ | .slice _, .vw _ id _ _ _ _ => [id]
  | .pair a b, .agg (s :: l) => borrows a s ++ borrows b (.agg l)
  | _, _ => []
def zeroSV : Ty → SV
  | .slice _ => .nils
  | .cell c => .zc c
  | .pair a b => bif a.heapy || b.heapy then
      (match zeroSV b with
      | .agg l => .agg (zeroSV a :: l)
      | .dat nw t v => .agg (zeroSV a :: go nw t v)
      | _ => .dead)
    else .dat true (.pair a b) (dflt (.pair a b))
  | t => .dat true t (dflt t)
 where
  go (nw : Bool) : (t : Ty) → Val t → List SV
    | .pair a b, v => .dat nw a v.1 :: go nw b v.2
    | _, _ => []
def explode (nw : Bool) : (t : Ty) → Val t → List SV
  | .pair a b, v => .dat nw a v.1 :: explode nw b v.2
  | _, _ => []
def listSet {α : Type} : List α → Nat → α → Option (List α)
  | [], _, _ => none
  | _ :: l, 0, x => some (x :: l)
  | a :: l, i + 1, x => match listSet l i x with
    | some m => some (a :: m)
    | none => none
def getS : List PS → SV → Option SV
  | [], s => some s
  | .fld i :: p, .agg l => match l[i]? with
    | some s => getS p s
    | none => none
  | .fld i :: p, .dat nw t v => match getV (.fld i :: p) t v with
    | some ⟨u, x⟩ => some (.dat nw u x)
    | none => none
  | .idx i :: p, .dat nw t v => match getV (.idx i :: p) t v with
    | some ⟨u, x⟩ => some (.dat nw u x)
    | none => none
  | _, _ => none
def fits : SV → Ty → Bool
  | .dat _ t _, u => tyEq t u
  | .agg [], .unit => true
  | .agg (s :: l), .pair a b => fits s a && fits (.agg l) b
  | .at _ _ _, .cell .ptr | .ref _ _, .cell .ptr | .mp _, .cell .map | .fn _ _, .cell .func => true
  | .zc a, .cell b => ckEq a b
  | .nils, .slice _ => true
  | .own t _, .slice u => tyEq t u
  | .sub t _ _ _, .slice u => tyEq t u
  | .vw t _ _ _ _ _, .slice u => tyEq t u
  | _, _ => false
def isChain : Ty → Bool
  | .unit => true
  | .pair _ b => isChain b
  | _ => false
def zOk : Ty → Bool
  | .pair a b => zOk a && zOk b && isChain b
  | .arr _ t => t.pure
  | _ => true
def setA (l : List SV) (i : Nat) (f : SV → Option SV) : Option SV := match l[i]? with
  | some s => match f s with
    | some y => match listSet l i y with
      | some m => some (.agg m)
      | none => none
    | none => none
  | none => none
def setS : List PS → SV → SV → Option SV
  | [], _, x => some x
  | .fld i :: p, .agg l, x => setA l i fun s => setS p s x
  | .fld i :: p, .dat nw t v, .dat mw u y => match setV (.fld i :: p) t v ⟨u, y⟩ with
    | some z => some (.dat (nw && (mw || !u.heapy)) t z)
    | none => none
  | .fld i :: p, .dat nw t v, x => match isChain t with
    | true => setA (explode nw t v) i fun s => setS p s x
    | false => none
  | .idx i :: p, .dat nw t v, .dat mw u y => match setV (.idx i :: p) t v ⟨u, y⟩ with
    | some z => some (.dat (nw && (mw || !u.heapy)) t z)
    | none => none
  | _, _, _ => none
def constSV : Value → SV
  | .int k n => match decide (k.min ≤ n) && decide (n ≤ k.max) with
    | true => .dat true (.int k) n
    | false => .dead
  | .bool b => .dat true .bool b
  | .string s => match Nat.ble s.size lim with
    | true => .dat true .str s
    | false => .dead
  | .slice none 0 0 => .nils
  | .pointer none => .zc .ptr
  | .map none => .zc .map
  | .nilFunc => .zc .func
  | _ => .dead
def ev (s : St) : Operand → SV
  | .tmp t => s.sl t
  | .const v => constSV v
  | .func f => .fn f []
  | .global _ => .dead
def arith (op : BinOp) (k : IntKind) (a b : Int) : PR SV :=
  match op with
  | .add => .ret (.dat true (.int k) (k.wrap (a + b)))
  | .sub => .ret (.dat true (.int k) (k.wrap (a - b)))
  | .mul => .ret (.dat true (.int k) (k.wrap (a * b)))
  | .quo => .chk (!decide (b = 0)) (.ret (.dat true (.int k) (k.wrap (a.tdiv b))))
  | .rem => .chk (!decide (b = 0)) (.ret (.dat true (.int k) (a.tmod b)))
  | .and => .ret (.dat true (.int k) (k.wrap (BitVec.ofInt k.bits a &&& BitVec.ofInt k.bits b).toNat))
  | .or => .ret (.dat true (.int k) (k.wrap (BitVec.ofInt k.bits a ||| BitVec.ofInt k.bits b).toNat))
  | .xor => .ret (.dat true (.int k) (k.wrap (BitVec.ofInt k.bits a ^^^ BitVec.ofInt k.bits b).toNat))
  | .andNot => .ret (.dat true (.int k) (k.wrap (BitVec.ofInt k.bits a &&& ~~~ BitVec.ofInt k.bits b).toNat))
  | .eql => .ret (.dat true .bool (decide (a = b)))
  | .neq => .ret (.dat true .bool (!decide (a = b)))
  | .lss => .ret (.dat true .bool (decide (a < b)))
  | .leq => .ret (.dat true .bool (decide (a ≤ b)))
  | .gtr => .ret (.dat true .bool (decide (b < a)))
  | .geq => .ret (.dat true .bool (decide (b ≤ a)))
  | _ => .fail
def shiftL (k : IntKind) (a b : Int) : Int := k.wrap (a * 2 ^ (min b.toNat k.bits))
def shiftR (k : IntKind) (a b : Int) : Int := a.fdiv (2 ^ (min b.toNat k.bits))
def Ty.dep : Ty → Nat
  | .pair a b => max a.dep b.dep + 1
  | .arr _ t => t.dep + 1
  | _ => 0
def cmpS (op : BinOp) (t : Ty) (v w : Val t) : PR SV :=
  match t.eqOk && Nat.ble t.dep 1000 with
  | true => match op with
    | .eql => .ret (.dat true .bool (eqV t v w))
    | .neq => .ret (.dat true .bool (!(eqV t v w)))
    | _ => .fail
  | false => .fail
def binS (op : BinOp) (ty : Ty) : SV → SV → PR SV
  | .dat _ (.int k) a, .dat _ (.int j) b => match op with
    | .shl => .chk (decide (0 ≤ b)) (.ret (.dat true (.int k) (shiftL k a b)))
    | .shr => .chk (decide (0 ≤ b)) (.ret (.dat true (.int k) (shiftR k a b)))
    | op => match ikEq k j with
      | true => arith op k a b
      | false => .fail
  | .dat _ .bool a, .dat _ .bool b => match ty with
    | .bool => cmpS op .bool a b
    | _ => .fail
  | .dat _ (.pair a b) v, .dat _ u w => match castV u (.pair a b) w, tyEq ty (.pair a b) with
    | some w, true => cmpS op (.pair a b) v w
    | _, _ => .fail
  | .dat _ (.arr n t) v, .dat _ u w => match castV u (.arr n t) w, tyEq ty (.arr n t) with
    | some w, true => cmpS op (.arr n t) v w
    | _, _ => .fail
  | _, _ => .fail
def unS (op : UnOp) : SV → PR SV
  | .dat _ .bool b => match op with
    | .not => .ret (.dat true .bool (!b))
    | _ => .fail
  | .dat _ (.int k) n => match op with
    | .neg => .ret (.dat true (.int k) (k.wrap (0 - n)))
    | _ => .fail
  | _ => .fail
def convS (E : Env) (src dst : Nat) : SV → PR SV
  | .dat _ (.int _) n => match E.tf src, E.tf dst with
    | some _, some (.int k) => .ret (.dat true (.int k) (k.wrap n))
    | _, _ => .fail
  | _ => .fail
def tyAt (ob : Nat → Obj) (id : Nat) (p : List PS) : Option Ty := match ob id with
  | .box t _ => match offT t p with
    | some (_, u) => some u
    | none => none
  | .slc _ t _ => match p with
    | .idx _ :: q => match offT t q with
      | some (_, u) => some u
      | none => none
    | _ => none
  | .gone => none
  | .map _ _ _ _ => none
  | .itr _ _ _ => none
def isTy (o : Option Ty) (t : Ty) : Bool := match o with
  | some u => tyEq u t
  | none => false
def fieldS (ob : Nat → Obj) (ty : Ty) (f : Nat) : SV → PR SV
  | .ref id p => match isTy (tyAt ob id p) ty, fldT ty f with
    | true, some (_, u) => match u.size with
      | 0 => .fail
      | _ + 1 => .ret (.ref id (p ++ [.fld f]))
    | _, _ => .fail
  | .at nw t v => match tyEq t ty, fldV t v f with
    | true, some ⟨u, x⟩ => match u.size with
      | 0 => .fail
      | _ + 1 => .ret (.at nw u x)
    | _, _ => .fail
  | _ => .fail
def inR (i : Int) (n : Nat) : Bool := decide (0 ≤ i) && decide (i < n)
def idxS (ob : Nat → Obj) (i : Int) : Ty → SV → PR SV
  | .slice e, .dat nw (.slice t) xs => match tyEq t e with
    | true => .chk (inR i xs.length) (.ret (.at nw t (xs.getD i.toNat (dflt t))))
    | false => .fail
  | .slice e, .own t id => match ob id, tyEq t e with
    | .slc _ u xs, true => match tyEq u t with
      | true => .chk (inR i xs.length) (.ret (.ref id [.idx i.toNat]))
      | false => .fail
    | _, _ => .fail
  | .slice e, .sub t id lo hi => match ob id, tyEq t e with
    | .slc _ u _, true => match tyEq u t with
      | true => .chk (inR i (hi - lo)) (.ret (.ref id [.idx (lo + i.toNat)]))
      | false => .fail
    | _, _ => .fail
  | .slice e, .vw t id p n lo hi => match isTy (tyAt ob id p) (.arr n t), tyEq t e, ob id with
    | true, true, .box _ _ => .chk (inR i (hi - lo)) (.ret (.ref id (p ++ [.idx (lo + i.toNat)])))
    | _, _, _ => .fail
  | .arr n e, .ref id p => match isTy (tyAt ob id p) (.arr n e) with
    | true => .chk (inR i n) (.ret (.ref id (p ++ [.idx i.toNat])))
    | false => .fail
  | .arr n e, .at nw (.arr m t) v => match tyEq (.arr m t) (.arr n e) with
    | true => .chk (inR i n) (.ret (.at nw t (v.getD i.toNat (dflt t))))
    | false => .fail
  | _, _ => .fail
def loadS (ob : Nat → Obj) (t : Ty) : SV → PR SV
  | .at nw u v => match tyEq u t with
    | true => .ret (.dat nw u v)
    | false => .fail
  | .ref id p => match ob id with
    | .box _ c => match getS p c with
      | some s => match fits s t with
        | true => .ret s
        | false => .fail
      | none => .fail
    | .slc nw u xs => match p with
      | .idx i :: q => match getV q u (xs.getD i (dflt u)) with
        | some ⟨z, x⟩ => match tyEq z t with
          | true => .ret (.dat nw z x)
          | false => .fail
        | none => .fail
      | _ => .fail
    | .gone => .fail
    | .map _ _ _ _ => .fail
    | .itr _ _ _ => .fail
  | _ => .fail
def storeS (ob : Nat → Obj) (t : Ty) (x : SV) : SV → PR (Nat × Obj)
  | .ref id p => match ob id with
    | .box u c => match offT u p, fits x t with
      | some (_, z), true => match tyEq z t, setS p c x with
        | true, some c' => .ret (id, .box u c')
        | _, _ => .fail
      | _, _ => .fail
    | .slc nw u xs => match p with
      | .idx i :: q => match toV ob t x, borrows t x with
        | some (mw, v), [] => match setV q u (xs.getD i (dflt u)) ⟨t, v⟩ with
          | some y => .ret (id, .slc (nw && (mw || !t.heapy)) u (xs.set i y))
          | none => .fail
        | _, _ => .fail
      | _ => .fail
    | .gone => .fail
    | .map _ _ _ _ => .fail
    | .itr _ _ _ => .fail
  | _ => .fail
def bound (s : St) (d : Int) : Option Operand → Option Int
  | none => some d
  | some o => match ev s o with
    | .dat _ (.int _) n => some n
    | _ => none
def sliceS (ob : Nat → Obj) (s : St) (lo hi : Option Operand) : Ty → SV → PR SV
  | .slice e, .dat nw (.slice t) xs => match tyEq t e, bound s 0 lo, bound s xs.length hi with
    | true, some l, some h => .chk (decide (0 ≤ l) && decide (l ≤ h) && decide (h ≤ xs.length)) (.ret (.dat nw (.slice t) ((xs.take h.toNat).drop l.toNat)))
    | _, _, _ => .fail
  | .slice e, .own t id => match ob id, tyEq t e with
    | .slc _ u xs, true => match tyEq u t, bound s 0 lo, bound s xs.length hi with
      | true, some l, some h => .chk (decide (0 ≤ l) && decide (l ≤ h) && decide (h ≤ xs.length)) (.ret (.sub t id l.toNat h.toNat))
      | _, _, _ => .fail
    | _, _ => .fail
  | .arr n e, .ref id p => match isTy (tyAt ob id p) (.arr n e), ob id, Nat.ble n lim with
    | true, .box _ _, true => match bound s 0 lo, bound s n hi with
      | some l, some h => .chk (decide (0 ≤ l) && decide (l ≤ h) && decide (h ≤ n)) (.ret (.vw e id p n l.toNat h.toNat))
      | _, _ => .fail
    | _, _, _ => .fail
  | _, _ => .fail
def isNils : SV → Bool
  | .nils => true
  | _ => false
def sliceX (ob : Nat → Obj) (s : St) (lo hi : Option Operand) (ty : Ty) (x : SV) : PR SV := match isNils x with
  | true => (match ty with
    | .slice _ => (match bound s 0 lo, bound s 0 hi with
      | some l, some h => .chk (decide (0 ≤ l) && decide (l ≤ h) && decide (h ≤ 0)) (.ret .nils)
      | _, _ => .fail)
    | _ => .fail)
  | false => sliceS ob s lo hi ty x
def buildParts (s : St) (ty : Ty) : List SV → List (Nat × Operand) → Option (List SV)
  | l, [] => some l
  | l, (i, o) :: r => match fldT ty i with
    | some (_, u) => match fits (ev s o) u, listSet l i (ev s o) with
      | true, some m => buildParts s ty m r
      | _, _ => none
    | none => none
def buildList (s : St) (t : Ty) : Bool → List (Val t) → List (Nat × Operand) → Option (Bool × List (Val t))
  | nw, l, [] => some (nw, l)
  | nw, l, (i, o) :: r => match toV s.ob t (ev s o), borrows t (ev s o) with
    | some (mw, v), [] => match listSet l i v with
      | some m => buildList s t (nw && (mw || !t.heapy)) m r
      | none => none
    | _, _ => none
def partsOf : SV → List SV
  | .agg l => l
  | .dat nw t v => explode nw t v
  | _ => []
def buildS (s : St) (parts : List (Nat × Operand)) : Ty → PR SV
  | .arr n t => match t.pure, buildList s t true (List.replicate n (dflt t)) parts with
    | true, some (nw, l) => .ret (.dat nw (.arr n t) l)
    | _, _ => .fail
  | .pair a b => match zOk (.pair a b) && isChain (.pair a b), buildParts s (.pair a b) (partsOf (zeroSV (.pair a b))) parts with
    | true, some l => match (Ty.pair a b).heapy with
      | false => match toV s.ob (.pair a b) (.agg l) with
        | some (_, v) => .ret (.dat true (.pair a b) v)
        | none => .fail
      | true => .ret (.agg l)
    | _, _ => .fail
  | .unit => match parts with
    | [] => .ret (.dat true .unit ())
    | _ => .fail
  | _ => .fail
def appendS (s : St) (id0 : Nat) (t : Ty) (x y : SV) : PR (SV × List (Nat × Obj)) :=
  match toV s.ob (.slice t) y with
  | some (mw, ys) => match x with
    | .nils => .chk (decide (ys.length ≤ lim)) (.ret (.own t id0, [(id0, .slc (mw || !t.heapy) t ys)]))
    | .own _ id => match s.ob id with
      | .slc nw u xs => match castV (.slice u) (.slice t) xs with
        | some xs => .chk (decide (xs.length + ys.length ≤ lim)) (.ret (.own t id0, [(id0, .slc (nw && (mw || !t.heapy)) t (xs ++ ys)), (id, .gone)]))
        | none => .fail
      | _ => .fail
    | .sub _ id lo hi => match s.ob id with
      | .slc nw u xs => match castV (.slice u) (.slice t) xs with
        | some xs => .chk (decide (((xs.take hi).drop lo).length + ys.length ≤ lim)) (.ret (.own t id0, [(id0, .slc (nw && (mw || !t.heapy)) t ((xs.take hi).drop lo ++ ys)), (id, .gone)]))
        | none => .fail
      | _ => .fail
    | _ => .fail
  | none => .fail
def lenS (ob : Nat → Obj) : SV → PR SV
  | .dat _ (.slice _) xs => .ret (.dat true (.int .i64) (xs.length : Int))
  | .dat _ .str b => .ret (.dat true (.int .i64) (b.size : Int))
  | .nils => .ret (.dat true (.int .i64) 0)
  | .own _ id => match ob id with
    | .slc _ _ xs => .ret (.dat true (.int .i64) (xs.length : Int))
    | _ => .fail
  | .sub _ id lo hi => match ob id with
    | .slc _ _ _ => .ret (.dat true (.int .i64) ((hi : Int) - lo))
    | _ => .fail
  | .vw _ id _ _ lo hi => match ob id with
    | .box _ _ => .ret (.dat true (.int .i64) ((hi : Int) - lo))
    | _ => .fail
  | _ => .fail
def lookV {α : Type} : List (Int × α) → Int → Option α
  | [], _ => none
  | (m, x) :: l, n => bif decide (n = m) then some x else lookV l n
def upsV {α : Type} : List (Int × α) → Int → α → List (Int × α)
  | [], n, x => [(n, x)]
  | (m, y) :: l, n, x => bif decide (n = m) then (n, x) :: l else (m, y) :: upsV l n x
def lookS (ob : Nat → Obj) (k : IntKind) (t : Ty) (n : Int) : SV → PR (SV × SV)
  | .mp id => match ob id with
    | .map j nw u es => match ikEq j k, tyEq u t, t.pure with
      | true, true, true => .ret (.dat nw u ((lookV es n).getD (dflt u)), .dat true .bool (lookV es n).isSome)
      | _, _, _ => .fail
    | _ => .fail
  | .zc .map => match t.pure with
    | true => .ret (.dat true t (dflt t), .dat true .bool false)
    | false => .fail
  | _ => .fail
def updS (ob : Nat → Obj) (k : IntKind) (t : Ty) (n : Int) (x : SV) : SV → PR (Nat × Obj)
  | .mp id => match ob id with
    | .map j nw u es => match ikEq j k, tyEq u t, toV ob u x, borrows u x with
      | true, true, some (mw, v), [] => .ret (id, .map j (nw && (mw || !u.heapy)) u (upsV es n v))
      | _, _, _, _ => .fail
    | _ => .fail
  | _ => .fail
def rangeS (ob : Nat → Obj) (id0 : Nat) : SV → PR (SV × List (Nat × Obj))
  | .mp id => match ob id with
    | .map _ _ _ es => .ret (.it id0, [(id0, .itr id es.length [])])
    | _ => .fail
  | _ => .fail
def entryS (ob : Nat → Obj) : SV → PR SV
  | .it id => match ob id with
    | .itr m n (i :: _) => match ob m with
      | .map k nw t es => .chk (decide (n = es.length)) (.bnd es[i.toNat]? fun x => .ret (.tup [.dat true (.int k) x.1, .dat nw t x.2]))
      | _ => .fail
    | _ => .fail
  | _ => .fail
def force {α : Type 1} : SV → (SV → α) → α
  | .dead, k => k .dead
  | .dat nw t v, k => k (.dat nw t v)
  | .agg l, k => k (.agg l)
  | .tup l, k => k (.tup l)
  | .at nw t v, k => k (.at nw t v)
  | .ref id p, k => k (.ref id p)
  | .zc c, k => k (.zc c)
  | .nils, k => k .nils
  | .own t id, k => k (.own t id)
  | .sub t id lo hi, k => k (.sub t id lo hi)
  | .vw t id p n lo hi, k => k (.vw t id p n lo hi)
  | .fn f l, k => k (.fn f l)
  | .mp id, k => k (.mp id)
  | .it id, k => k (.it id)
theorem force_eq {α : Type 1} (v : SV) (k : SV → α) : force v k = k v := by cases v <;> rfl
def put1 (dst : Option Nat) (n : Nat) (v : SV) (ob : List (Nat × Obj)) : PR Upd :=
  match dst with
  | some d => match Nat.blt d n with
    | true => force v fun v => .ret ⟨[(d, v)], ob⟩
    | false => .fail
  | none => .ret ⟨[], ob⟩
def PR.bind {α β : Type} : PR α → (α → PR β) → PR β
  | .fail, _ => .fail
  | .ret a, f => f a
  | .chk b p, f => .chk b (p.bind f)
  | .bnd o g, f => .bnd o fun a => (g a).bind f
  | .alt s g h, f => .alt s (fun a => (g a).bind f) (fun b => (h b).bind f)
def quota : Nat := 16
end Go.Sx
