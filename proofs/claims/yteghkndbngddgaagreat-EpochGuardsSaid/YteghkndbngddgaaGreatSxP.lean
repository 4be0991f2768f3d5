/- The symbolic executor: one operation, by its kind. Definitions alone. -/
import Derived.Test.YteghkndbngddgaaGreatSxB
set_option linter.unusedVariables false
namespace Go.Sx
def callS (E : Env) (s : St) (id0 : Nat) (o : Oper) (f : Nat) (args : List SV) : PR Upd :=
  match E.fn f with
  | some c => (c args s.ob id0).bind fun r => put1 o.dst s.n r.res r.ob
  | none => .fail
def lenB (E : Env) (s : St) (o : Oper) : List Operand → List TypeId → PR Upd
  | [x], [t] => match E.tf t with
    | some ty => match fits (ev s x) ty with
      | true => (lenS s.ob (ev s x)).bind fun v => put1 o.dst s.n v []
      | false => .fail
    | none => .fail
  | _, _ => .fail
def capB (E : Env) (s : St) (o : Oper) : List Operand → List TypeId → PR Upd
  | [x], [t] => match E.tf t, ev s x with
    | some (.slice _), .nils => put1 o.dst s.n (.dat true (.int .i64) (0 : Int)) []
    | _, _ => .fail
  | _, _ => .fail
def appendZ (s : St) (id0 : Nat) (o : Oper) (e : Ty) : SV → SV → PR Upd
  | .nils, .dat _ (.int _) m => .chk (decide (0 < m) && decide (m ≤ lim)) (put1 o.dst s.n (.own e id0) [(id0, .slc true e (List.replicate m.toNat (dflt e)))])
  | _, _ => .fail
def appendB (E : Env) (s : St) (id0 : Nat) (o : Oper) : List Operand → List TypeId → PR Upd
  | [x, y], [t, t2] => match E.tf t, E.tf t2 with
    | some (.slice e), some (.slice _) => match e.pure with
      | true => (appendS s id0 e (ev s x) (ev s y)).bind fun r => put1 o.dst s.n r.1 r.2
      | false => .fail
    | some (.slice e), some (.int _) => match e.pure with
      | true => appendZ s id0 o e (ev s x) (ev s y)
      | false => .fail
    | _, _ => .fail
  | _, _ => .fail
def callB (E : Env) (s : St) (id0 : Nat) (o : Oper) (b : Builtin) (xs : List Operand) (ts : List TypeId) : PR Upd := match b with
  | .len => lenB E s o xs ts
  | .cap => capB E s o xs ts
  | .append => appendB E s id0 o xs ts
  | _ => .fail
def plan (E : Env) (s : St) (id0 : Nat) (o : Oper) : PR Upd :=
  match o.op with
  | .move x | .assign x => put1 o.dst s.n (ev s x) []
  | .pick c a b => match ev s c with
    | .dat _ .bool true => put1 o.dst s.n (ev s a) []
    | .dat _ .bool false => put1 o.dst s.n (ev s b) []
    | _ => .fail
  | .alloc t => match E.tf t with
    | some ty => match zOk ty with
      | true => put1 o.dst s.n (.ref id0 []) [(id0, .box ty (zeroSV ty))]
      | false => .fail
    | none => .fail
  | .box t x => match E.tf t with
    | some ty => match fits (ev s x) ty with
      | true => put1 o.dst s.n (.ref id0 []) [(id0, .box ty (ev s x))]
      | false => .fail
    | none => .fail
  | .build t parts => match E.tf t with
    | some ty => (buildS s parts.toList ty).bind fun v => put1 o.dst s.n v []
    | none => .fail
  | .buildSlice t len parts => match E.tf t with
    | some (.slice e) => match e.pure && Nat.ble (len * e.size) 1000000 && Nat.ble len lim, buildList s e true (List.replicate len (dflt e)) parts.toList with
      | true, some (nw, l) => put1 o.dst s.n (.own e id0) [(id0, .slc nw e l)]
      | _, _ => .fail
    | _ => .fail
  | .load t a => match E.tf t with
    | some ty => (loadS s.ob ty (ev s a)).bind fun v => put1 o.dst s.n v []
    | none => .fail
  | .store t a x => match E.tf t, o.dst with
    | some ty, none => (storeS s.ob ty (ev s x) (ev s a)).bind fun r => .ret ⟨[], [r]⟩
    | _, _ => .fail
  | .nilCheck x => match ev s x with
    | .ref id p => match tyAt s.ob id p with
      | some _ => put1 o.dst s.n (.ref id p) []
      | none => .fail
    | .at nw t v => put1 o.dst s.n (.at nw t v) []
    | _ => .fail
  | .binOp op t x y _ => match E.tf t with
    | some ty => (binS op ty (ev s x) (ev s y)).bind fun v => put1 o.dst s.n v []
    | none => .fail
  | .unOp op _ x => (unS op (ev s x)).bind fun v => put1 o.dst s.n v []
  | .convert t d x => (convS E t d (ev s x)).bind fun v => put1 o.dst s.n v []
  | .fieldAddr t x f => match E.tf t with
    | some ty => (fieldS s.ob ty f (ev s x)).bind fun v => put1 o.dst s.n v []
    | none => .fail
  | .field t x f => match E.tf t with
    | some ty => match fits (ev s x) ty, getS [.fld f] (ev s x), fldT ty f with
      | true, some v, some _ => put1 o.dst s.n v []
      | _, _, _ => .fail
    | none => .fail
  | .indexAddr t x i => match E.tf t, ev s i with
    | some ty, .dat _ (.int _) n => (idxS s.ob n ty (ev s x)).bind fun v => put1 o.dst s.n v []
    | _, _ => .fail
  | .index t x i => match E.tf t, ev s i with
    | some ty, .dat _ (.int _) n => match ty, ev s x with
      | .arr m e, .dat nw (.arr q u) v => match tyEq (.arr q u) (.arr m e) with
        | true => .chk (inR n m) (put1 o.dst s.n (.dat nw u (v.getD n.toNat (dflt u))) [])
        | false => .fail
      | .str, .dat _ .str b => .chk (inR n b.size) (put1 o.dst s.n (.dat true (.int .u8) ((b.data.getD n.toNat 0).toNat : Int)) [])
      | _, _ => .fail
    | _, _ => .fail
  | .slice t x lo hi mx => match E.tf t, mx with
    | some ty, none => (sliceX s.ob s lo hi ty (ev s x)).bind fun v => put1 o.dst s.n v []
    | _, _ => .fail
  | .extract t i => match ev s t with
    | .tup l => match l[i]? with
      | some v => put1 o.dst s.n v []
      | none => .fail
    | _ => .fail
  | .makeSlice t x y => match E.tf t, ev s x, ev s y with
    | some (.slice e), .dat _ (.int _) n, .dat _ (.int _) m => match e.pure with
      | true => .chk (decide (0 ≤ n) && decide (n ≤ m) && decide (m ≤ lim)) (put1 o.dst s.n (.own e id0) [(id0, .slc true e (List.replicate n.toNat (dflt e)))])
      | false => .fail
    | _, _, _ => .fail
  | .makeMap t r => match E.mt t, r with
    | some (k, _, ty), none => put1 o.dst s.n (.mp id0) [(id0, .map k true ty [])]
    | _, _ => .fail
  | .lookup t m i commaOk => match E.mt t, ev s i with
    | some (k, _, ty), .dat _ (.int j) n => match ikEq j k with
      | true => (lookS s.ob k ty n (ev s m)).bind fun r => match commaOk with
        | true => put1 o.dst s.n (.tup [r.1, r.2]) []
        | false => put1 o.dst s.n r.1 []
      | false => .fail
    | _, _ => .fail
  | .mapUpdate t m i x => match E.mt t, ev s i, o.dst with
    | some (k, _, ty), .dat _ (.int j) n, none => match ikEq j k with
      | true => (updS s.ob k ty n (ev s x) (ev s m)).bind fun r => .ret ⟨[], [r]⟩
      | false => .fail
    | _, _, _ => .fail
  | .range t x => match E.mt t with
    | some _ => (rangeS s.ob id0 (ev s x)).bind fun r => put1 o.dst s.n r.1 r.2
    | none => .fail
  | .entry x => (entryS s.ob (ev s x)).bind fun v => put1 o.dst s.n v []
  | .makeFunc fn first caps => match fn, first.toList with
    | .func f, [] => put1 o.dst s.n (.fn f (caps.toList.map (ev s))) []
    | _, _ => .fail
  | .call cl => match cl.callee with
    | .builtin b => callB E s id0 o b cl.args.toList cl.argTypes.toList
    | .value (.func f) => callS E s id0 o f (cl.args.toList.map (ev s))
    | .value (.tmp t) => match s.sl t with
      | .fn f caps => callS E s id0 o f (cl.args.toList.map (ev s) ++ caps)
      | _ => .fail
    | _ => .fail
  | _ => .fail
end Go.Sx
