/- The symbolic executor: shapes of states. Definitions alone. -/
import Derived.Test.YteghkndbngddgaaGreatSxC
import Derived.Test.YteghkndbngddgaaGreatSxE
set_option linter.unusedVariables false
namespace Go.Sx
inductive H where
  | v (t : Ty)
  | nat
@[reducible] def H.T : H → Type
  | .v t => Val t
  | .nat => Nat
@[reducible] def Dl : List H → Type
  | [] => Unit
  | [h] => h.T
  | h :: k :: l => h.T × Dl (k :: l)
def dcons : (h : H) → (l : List H) → h.T → Dl l → Dl (h :: l)
  | _, [], x, _ => x
  | _, _ :: _, x, r => (x, r)
def dhd : (h : H) → (l : List H) → Dl (h :: l) → h.T
  | _, [], x => x
  | _, _ :: _, p => p.1
def dtl : (h : H) → (l : List H) → Dl (h :: l) → Dl l
  | _, [], _ => ()
  | _, _ :: _, p => p.2
inductive Tm where
  | dead
  | dat (nw : Bool) (t : Ty)
  | at (nw : Bool) (t : Ty)
  | nil
  | cons (a b : Tm)
  | tup (b : Tm)
  | ref (id : Nat) (p : List PS)
  | refI (id : Nat) (q : List PS)
  | zc (c : CK)
  | nils
  | own (t : Ty) (id : Nat)
  | sub (t : Ty) (id : Nat)
  | fn (f : Nat) (b : Tm)
  | mp (id : Nat)
  | it (id : Nat)
def holes : Tm → List H → List H
  | .dat _ t, acc => .v t :: acc
  | .at _ t, acc => .v t :: acc
  | .cons a b, acc => holes a (holes b acc)
  | .tup b, acc => holes b acc
  | .fn _ b, acc => holes b acc
  | .refI _ _, acc => .nat :: acc
  | .sub _ _, acc => .nat :: .nat :: acc
  | _, acc => acc
def rest : (t : Tm) → (acc : List H) → Dl (holes t acc) → Dl acc
  | .dat _ _, _, d => dtl _ _ d
  | .at _ _, _, d => dtl _ _ d
  | .cons a b, acc, d => rest b acc (rest a (holes b acc) d)
  | .tup b, acc, d => rest b acc d
  | .fn _ b, acc, d => rest b acc d
  | .refI _ _, _, d => dtl _ _ d
  | .sub _ _, _, d => dtl _ _ (dtl _ _ d)
  | .dead, _, d | .nil, _, d | .ref _ _, _, d | .zc _, _, d | .nils, _, d | .own _ _, _, d | .mp _, _, d | .it _, _, d => d
def aggL : SV → List SV
  | .agg l => l
  | _ => []
def mk (σ : Nat → Nat) : (t : Tm) → (acc : List H) → Dl (holes t acc) → SV
  | .dead, _, _ => .dead
  | .dat nw t, _, d => .dat nw t (dhd _ _ d)
  | .at nw t, _, d => .at nw t (dhd _ _ d)
  | .nil, _, _ => .agg []
  | .cons a b, acc, d => .agg (mk σ a (holes b acc) d :: aggL (mk σ b acc (rest a (holes b acc) d)))
  | .tup b, acc, d => .tup (aggL (mk σ b acc d))
  | .ref id p, _, _ => .ref (σ id) p
  | .refI id q, _, d => .ref (σ id) (.idx (dhd _ _ d) :: q)
  | .zc c, _, _ => .zc c
  | .nils, _, _ => .nils
  | .own t id, _, _ => .own t (σ id)
  | .sub t id, _, d => .sub t (σ id) (dhd _ _ d) (dhd _ _ (dtl _ _ d))
  | .fn f b, acc, d => .fn f (aggL (mk σ b acc d))
  | .mp id, _, _ => .mp (σ id)
  | .it id, _, _ => .it (σ id)
def isL : Tm → Bool
  | .nil => true
  | .cons _ b => isL b
  | _ => false
def fitsT : Tm → Ty → Bool
  | .dat _ t, u => tyEq t u
  | .nil, .unit => true
  | .cons a b, .pair t u => isL b && fitsT a t && fitsT b u
  | .at _ _, .cell .ptr | .ref _ _, .cell .ptr | .refI _ _, .cell .ptr | .fn _ _, .cell .func | .mp _, .cell .map => true
  | .zc a, .cell b => ckEq a b
  | .nils, .slice _ => true
  | .own t _, .slice u => tyEq t u
  | .sub t _, .slice u => tyEq t u
  | _, _ => false
structure Rho where
  ρ : List (Nat × Option Nat)
  kill : List Nat
  nt : List (Nat × Ty)
def look : List (Nat × Option Nat) → Nat → Option (Option Nat)
  | [], _ => none
  | (k, v) :: l, i => bif Nat.beq k i then some v else look l i
def usedIn : List (Nat × Option Nat) → Nat → Bool
  | [], _ => false
  | (_, some j) :: l, i => bif Nat.beq j i then true else usedIn l i
  | (_, none) :: l, i => usedIn l i
def bind1 (r : Rho) (i j : Nat) : Option Rho := match look r.ρ i with
  | some (some k) => bif Nat.beq k j then some r else none
  | some none => none
  | none => bif usedIn r.ρ j then none else some ⟨(i, some j) :: r.ρ, r.kill, r.nt⟩
def bindNil (r : Rho) (i : Nat) (t : Ty) : Option Rho := match look r.ρ i with
  | none => some ⟨(i, none) :: r.ρ, r.kill, (i, t) :: r.nt⟩
  | some _ => none
def psEq : List PS → List PS → Bool
  | [], [] => true
  | .fld i :: p, .fld j :: q => Nat.beq i j && psEq p q
  | .idx i :: p, .idx j :: q => Nat.beq i j && psEq p q
  | _, _ => false
def flagOk (md : Bool) (ob : Nat → Obj) (nw mw : Bool) (ids : List Nat) (t : Ty) : Bool := !nw || !t.heapy || (md && mw && ids.all fun i => isMine (ob i))
def pickT (md : Bool) (ob : Nat → Obj) : (t : Tm) → SV → Rho → Option (Rho × ((acc : List H) → Dl acc → Dl (holes t acc)))
  | .dat nw t, s, r => match toV ob t s with
    | some (mw, v) => match flagOk md ob nw mw (borrows t s) t with
      | true => some (⟨r.ρ, borrows t s ++ r.kill, r.nt⟩, fun acc d => dcons (.v t) acc v d)
      | false => none
    | none => none
  | .at nw t, .at mw u v, r => match castV u t v with
    | some x => match !nw || (md && mw) with
      | true => some (r, fun acc d => dcons (.v t) acc x d)
      | false => none
    | none => none
  | .nil, .agg [], r => some (r, fun _ d => d)
  | .nil, .dat _ .unit _, r => some (r, fun _ d => d)
  | .cons a b, .agg (x :: l), r => match isL b, pickT md ob a x r with
    | true, some (r1, f) => match pickT md ob b (.agg l) r1 with
      | some (r2, g) => some (r2, fun acc d => f _ (g acc d))
      | none => none
    | _, _ => none
  | .cons a b, .dat nw (.pair t u) v, r => match isL b, pickT md ob a (.dat nw t v.1) r with
    | true, some (r1, f) => match pickT md ob b (.dat nw u v.2) r1 with
      | some (r2, g) => some (r2, fun acc d => f _ (g acc d))
      | none => none
    | _, _ => none
  | .ref i p, .ref j q, r => match psEq p q with
    | true => match bind1 r i j with
      | some r => some (r, fun _ d => d)
      | none => none
    | false => none
  | .refI i q, .ref j (.idx k :: q'), r => match psEq q q' with
    | true => match bind1 r i j with
      | some r => some (r, fun acc d => dcons .nat acc k d)
      | none => none
    | false => none
  | .zc a, .zc b, r => match ckEq a b with
    | true => some (r, fun _ d => d)
    | false => none
  | .nils, .nils, r => some (r, fun _ d => d)
  | .own t i, .own u j, r => match tyEq u t with
    | true => match bind1 r i j with
      | some r => some (r, fun _ d => d)
      | none => none
    | false => none
  | .own t i, .nils, r => match bindNil r i t with
    | some r => some (r, fun _ d => d)
    | none => none
  | .sub t i, .sub u j lo hi, r => match tyEq u t with
    | true => match bind1 r i j with
      | some r => some (r, fun acc d => dcons .nat (.nat :: acc) lo (dcons .nat acc hi d))
      | none => none
    | false => none
  | .sub t i, .nils, r => match bindNil r i t with
    | some r => some (r, fun acc d => dcons .nat (.nat :: acc) 0 (dcons .nat acc 0 d))
    | none => none
  | .sub t i, .own u j, r => match tyEq u t, ob j with
    | true, .slc _ _ xs => match bind1 r i j with
      | some r => some (r, fun acc d => dcons .nat (.nat :: acc) 0 (dcons .nat acc xs.length d))
      | none => none
    | _, _ => none
  | .fn f b, .fn g l, r => match Nat.beq f g && isL b with
    | true => match pickT md ob b (.agg l) r with
      | some (r1, h) => some (r1, fun acc d => h acc d)
      | none => none
    | false => none
  | .mp i, .mp j, r => match bind1 r i j with
    | some r => some (r, fun _ d => d)
    | none => none
  | _, _, _ => none
def pickV (md : Bool) (ob : Nat → Obj) : (t : Tm) → SV → Rho → Option (Rho × ((acc : List H) → Dl acc → Dl (holes t acc)))
  | .dead, _, r => some (r, fun _ d => d)
  | .tup b, .tup l, r => match isL b with
    | true => match pickT md ob b (.agg l) r with
      | some (r1, h) => some (r1, fun acc d => h acc d)
      | none => none
    | false => none
  | .it i, .it j, r => match bind1 r i j with
    | some r => some (r, fun _ d => d)
    | none => none
  | t, s, r => pickT md ob t s r
inductive OT where
  | box (t : Ty) (c : Tm)
  | slc (nw : Bool) (t : Ty)
  | map (k : IntKind) (nw : Bool) (t : Ty)
  | itr (m : Nat)
structure Shape where
  n : Nat
  nx : Nat
  sl : List (Nat × Tm)
  ob : List (Nat × OT)
  fix : List Nat
  may : Bool
def holesO : OT → List H → List H
  | .box _ c, acc => holes c acc
  | .slc _ t, acc => .v (.slice t) :: acc
  | .map k _ t, acc => .v (.slice (.pair (.int k) t)) :: acc
  | .itr _, acc => .v (.pair (.int .i64) (.slice (.int .i64))) :: acc
def holesS : List (Nat × Tm) → List H → List H
  | [], acc => acc
  | (_, t) :: l, acc => holes t (holesS l acc)
def holesB : List (Nat × OT) → List H → List H
  | [], acc => acc
  | (_, o) :: l, acc => holesO o (holesB l acc)
abbrev Shape.D (sh : Shape) : Type := Dl (holesS sh.sl (holesB sh.ob []))
def restO : (o : OT) → (acc : List H) → Dl (holesO o acc) → Dl acc
  | .box _ c, acc, d => rest c acc d
  | .slc _ _, _, d => dtl _ _ d
  | .map _ _ _, _, d => dtl _ _ d
  | .itr _, _, d => dtl _ _ d
def mkO (σ : Nat → Nat) : (o : OT) → (acc : List H) → Dl (holesO o acc) → Obj
  | .box t c, acc, d => .box t (mk σ c acc d)
  | .slc nw t, _, d => .slc nw t (dhd _ _ d)
  | .map k nw t, _, d => .map k nw t (dhd _ _ d)
  | .itr m, _, d => .itr (σ m) (dhd _ _ d).1 (dhd _ _ d).2
def mkS (σ : Nat → Nat) : (l : List (Nat × Tm)) → (acc : List H) → Dl (holesS l acc) → List (Nat × SV)
  | [], _, _ => []
  | (k, t) :: l, acc, d => (k, mk σ t (holesS l acc) d) :: mkS σ l acc (rest t (holesS l acc) d)
def restS : (l : List (Nat × Tm)) → (acc : List H) → Dl (holesS l acc) → Dl acc
  | [], _, d => d
  | (_, t) :: l, acc, d => restS l acc (rest t (holesS l acc) d)
def restB : (l : List (Nat × OT)) → (acc : List H) → Dl (holesB l acc) → Dl acc
  | [], _, d => d
  | (_, o) :: l, acc, d => restB l acc (restO o (holesB l acc) d)
def mkB (σ : Nat → Nat) : (l : List (Nat × OT)) → (acc : List H) → Dl (holesB l acc) → List (Nat × Obj)
  | [], _, _ => []
  | (k, o) :: l, acc, d => (σ k, mkO σ o (holesB l acc) d) :: mkB σ l acc (restO o (holesB l acc) d)
def Shape.mk' (sh : Shape) (d : sh.D) : St :=
  ⟨sh.n, sh.nx, ups (fun _ => .dead) (mkS id sh.sl (holesB sh.ob []) d), ups (fun _ => .gone) (mkB id sh.ob [] (restS sh.sl (holesB sh.ob []) d))⟩
def pickO (md : Bool) (ob : Nat → Obj) : (o : OT) → Obj → Rho → Option (Rho × ((acc : List H) → Dl acc → Dl (holesO o acc)))
  | .box t c, .box u x, r => match tyEq u t && fitsT c t with
    | true => match pickT md ob c x r with
      | some (r1, f) => some (r1, fun acc d => f acc d)
      | none => none
    | false => none
  | .slc nw t, .slc mw u xs, r => match castV (.slice u) (.slice t) xs, !nw || (md && mw) with
    | some x, true => some (r, fun acc d => dcons (.v (.slice t)) acc x d)
    | _, _ => none
  | .map k nw t, .map j mw u es, r => match castV (.slice (.pair (.int j) u)) (.slice (.pair (.int k) t)) es, !nw || (md && mw) with
    | some x, true => some (r, fun acc d => dcons (.v (.slice (.pair (.int k) t))) acc x d)
    | _, _ => none
  | .itr m, .itr m' n l, r => match bind1 r m m' with
    | some r => some (r, fun acc d => dcons (.v (.pair (.int .i64) (.slice (.int .i64)))) acc (n, l) d)
    | none => none
  | _, _, _ => none
def pickS (md : Bool) (ob : Nat → Obj) (sl : Nat → SV) : (l : List (Nat × Tm)) → Rho → Option (Rho × ((acc : List H) → Dl acc → Dl (holesS l acc)))
  | [], r => some (r, fun _ d => d)
  | (k, t) :: l, r => match pickV md ob t (sl k) r with
    | some (r1, f) => match pickS md ob sl l r1 with
      | some (r2, g) => some (r2, fun acc d => f _ (g acc d))
      | none => none
    | none => none
def ntOk : List (Nat × Ty) → Nat → Ty → Bool
  | [], _, _ => true
  | (k, u) :: l, i, t => (bif Nat.beq k i then tyEq u t else true) && ntOk l i t
def pickB (md : Bool) (ob : Nat → Obj) : (l : List (Nat × OT)) → Rho → Option (Rho × ((acc : List H) → Dl acc → Dl (holesB l acc)))
  | [], r => some (r, fun _ d => d)
  | (k, o) :: l, r => match look r.ρ k with
    | some (some j) => match pickO md ob o (ob j) r with
      | some (r1, f) => match pickB md ob l r1 with
        | some (r2, g) => some (r2, fun acc d => f _ (g acc d))
        | none => none
      | none => none
    | some none => match o with
      | .slc nw t => match ntOk r.nt k t, pickB md ob l r with
        | true, some (r2, g) => some (r2, fun acc d => dcons (.v (.slice t)) _ [] (g acc d))
        | _, _ => none
      | .box _ _ => none
      | .map _ _ _ => none
      | .itr _ => none
    | none => none
def injB : List (Nat × Option Nat) → Bool
  | [] => true
  | (_, some j) :: l => !usedIn l j && injB l
  | (_, none) :: l => injB l
def ntIn (ρ : List (Nat × Option Nat)) : List (Nat × Ty) → Bool
  | [] => true
  | (i, _) :: l => (match look ρ i with
    | some none => true
    | _ => false) && ntIn ρ l
def rhoOk (nx : Nat) (r : Rho) : Bool := ntIn r.ρ r.nt && (r.kill.all fun j => !usedIn r.ρ j) && injB r.ρ && r.ρ.all fun p => Nat.blt p.1 nx
def fix0 : List Nat → List (Nat × Option Nat)
  | [] => []
  | i :: l => (i, some i) :: fix0 l
def Shape.pick (md : Bool) (sh : Shape) (s : St) : Option sh.D := match Nat.beq sh.n s.n with
  | true => match pickS md s.ob s.sl sh.sl ⟨fix0 sh.fix, [], []⟩ with
    | some (r1, f) => match pickB md s.ob sh.ob r1 with
      | some (r2, g) => match rhoOk sh.nx r2 && (sh.may || r2.kill.all fun j => isMine (s.ob j)) with
        | true => some (f _ (g [] ()))
        | false => none
      | none => none
    | none => none
  | false => none
end Go.Sx
