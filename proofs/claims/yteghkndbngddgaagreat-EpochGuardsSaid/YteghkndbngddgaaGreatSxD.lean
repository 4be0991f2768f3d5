/- The symbolic executor's meaning: data in memory, states and worlds. -/
import Derived.Test.YteghkndbngddgaaGreatSxB
import Derived.Calls
import Derived.Laws.Sem
import Derived.Below
set_option linter.unusedVariables false
namespace Go.Sx
open Go.RowKit
def Rep (w : World) (F : Nat → Prop) : (t : Ty) → Val t → List Value → Prop
  | .int k, n, cs => cs = [.int k n] ∧ k.min ≤ n ∧ n ≤ k.max
  | .bool, b, cs => cs = [.bool b]
  | .str, s, cs => cs = [.string s] ∧ s.size ≤ maxLen
  | .slice t, xs, cs => ∃ a len cap, cs = [.slice a len cap] ∧ len = xs.length ∧ len ≤ maxLen ∧ len ≤ cap ∧
      (xs = [] ∨ ∃ b off, a = some ⟨b, off, none⟩ ∧ F b ∧ ∀ i, i < xs.length →
        ∃ ds : List Value, ds.length = t.size ∧ (∀ j, j < t.size → w.cell? ⟨b, off + i * t.size + j, none⟩ = ds[j]?) ∧ Rep w F t (xs.getD i (dflt t)) ds)
  | .unit, _, cs => cs = []
  | .pair a b, v, cs => Rep w F a v.1 (cs.take a.size) ∧ Rep w F b v.2 (cs.drop a.size)
  | .arr n t, xs, cs => xs.length = n ∧ cs.length = n * t.size ∧ ∀ i, i < n → Rep w F t (xs.getD i (dflt t)) ((cs.drop (i * t.size)).take t.size)
  | .cell _, _, _ => False
theorem Rep.len {w : World} {F : Nat → Prop} : ∀ {t : Ty} {v : Val t} {cs : List Value}, Rep w F t v cs → cs.length = t.size := by
  intro t
  induction t with
  | int k => intro v cs h; rw [h.1]; rfl
  | bool => intro v cs h; rw [show cs = _ from h]; rfl
  | str => intro v cs h; rw [h.1]; rfl
  | slice t ih => intro v cs h; obtain ⟨a, l, c, h, _⟩ := h; rw [h]; rfl
  | unit => intro v cs h; rw [show cs = _ from h]; rfl
  | pair a b iha ihb =>
    intro v cs h
    have h1 := iha h.1
    have h2 := ihb h.2
    simp only [List.length_take, List.length_drop] at h1 h2
    simp only [Ty.size]
    omega
  | arr n t ih => intro v cs h; exact h.2.1
  | cell c => intro v cs h; exact h.elim
theorem cell_of_heap {w w' : World} {b off : Nat} (h : w'.heap[b]? = w.heap[b]?) : w'.cell? ⟨b, off, none⟩ = w.cell? ⟨b, off, none⟩ := by
  simp only [World.cell?, h]
theorem Rep.mono {w w' : World} {F F' : Nat → Prop} (hF : ∀ b, F b → F' b) (hw : ∀ b, F b → w'.heap[b]? = w.heap[b]?) :
    ∀ {t : Ty} {v : Val t} {cs : List Value}, Rep w F t v cs → Rep w' F' t v cs := by
  intro t
  induction t with
  | int k => intro v cs h; exact h
  | bool => intro v cs h; exact h
  | str => intro v cs h; exact h
  | slice t ih =>
    intro v cs h
    obtain ⟨a, l, c, h1, h2, h3, hc, h4⟩ := h
    refine ⟨a, l, c, h1, h2, h3, hc, ?_⟩
    rcases h4 with h4 | ⟨b, off, h4, hb, h5⟩
    · exact .inl h4
    · refine .inr ⟨b, off, h4, hF b hb, fun i hi => ?_⟩
      obtain ⟨ds, h6, h7, h8⟩ := h5 i hi
      exact ⟨ds, h6, fun j hj => by rw [cell_of_heap (hw b hb)]; exact h7 j hj, ih h8⟩
  | unit => intro v cs h; exact h
  | pair a b iha ihb => intro v cs h; exact ⟨iha h.1, ihb h.2⟩
  | arr n t ih => intro v cs h; exact ⟨h.1, h.2.1, fun i hi => ih (h.2.2 i hi)⟩
  | cell c => intro v cs h; exact h.elim
theorem Rep.light {w w' : World} {F F' : Nat → Prop} : ∀ {t : Ty} {v : Val t} {cs : List Value}, t.heapy = false → Rep w F t v cs → Rep w' F' t v cs := by
  intro t
  induction t with
  | int k => intro v cs _ h; exact h
  | bool => intro v cs _ h; exact h
  | str => intro v cs _ h; exact h
  | slice t ih => intro v cs hh; cases hh
  | unit => intro v cs _ h; exact h
  | pair a b iha ihb => intro v cs hh h; simp [Ty.heapy] at hh; exact ⟨iha hh.1 h.1, ihb hh.2 h.2⟩
  | arr n t ih => intro v cs hh h; exact ⟨h.1, h.2.1, fun i hi => ih hh (h.2.2 i hi)⟩
  | cell c => intro v cs hh; cases hh
def PathOk : Ty → List PS → Prop
  | _, [] => True
  | t, .fld i :: p => match fldT t i with
    | some (_, u) => PathOk u p
    | none => False
  | .arr n t, .idx i :: p => i < n ∧ PathOk t p
  | _, _ => False
structure Conc where
  blk : Nat
  off : Nat
  cap : Nat
  isnil : Bool
structure Cx where
  w : World
  F : Nat → Prop
  B : Nat
  A : Nat → Prop
  β : Nat → Conc
  ob : Nat → Obj
def Cx.Fn (c : Cx) (nw : Bool) : Nat → Prop := fun b => c.F b ∧ (nw = true → c.B ≤ b)
theorem Rep.liftn {c : Cx} {nw : Bool} {t : Ty} {v : Val t} {cs : List Value} (h : Rep c.w (c.Fn nw) t v cs) : Rep c.w (c.Fn (nw || !t.heapy)) t v cs := by
  cases hh : t.heapy with
  | false => exact Rep.light hh h
  | true => simpa using h
def pack (t : Ty) (cs : List Value) : Value := match t.isAgg with
  | true => .agg cs.toArray
  | false => cs.headD undef
def hdr (k : Conc) (n : Nat) : Value := match k.isnil with
  | true => .slice none 0 0
  | false => .slice (some ⟨k.blk, k.off, none⟩) n k.cap
theorem hdr_one (k : Conc) (n : Nat) : (hdr k n).oneCell' = true := by unfold hdr; split <;> rfl
def subAddr (k : Conc) (lo size : Nat) : Option Addr := match k.isnil with
  | true => none
  | false => some ⟨k.blk, k.off + (if k.cap = lo then 0 else lo * size), none⟩
mutual
inductive SRep (c : Cx) : SV → Ty → List Value → Prop
  | dat {nw t v cs} : Rep c.w (c.Fn nw) t v cs → SRep c (.dat nw t v) t cs
  | anil : SRep c (.agg []) .unit []
  | acons {s l a b x y} : SRep c s a x → SRep c (.agg l) b y → SRep c (.agg (s :: l)) (.pair a b) (x ++ y)
  | at {nw t v b off} {ds : List Value} : c.Fn nw b → ds.length = t.size → (∀ j, j < t.size → c.w.cell? ⟨b, off + j, none⟩ = ds[j]?) → Rep c.w (c.Fn nw) t v ds →
      SRep c (.at nw t v) (.cell .ptr) [.pointer (some ⟨b, off, none⟩)]
  | refGone {id p x} : c.A id → c.ob id = .gone → x.oneCell' = true → SRep c (.ref id p) (.cell .ptr) [x]
  | refBox {id p t s o u} : c.A id → c.ob id = .box t s → PathOk t p → offT t p = some (o, u) → SRep c (.ref id p) (.cell .ptr) [.pointer (some ⟨(c.β id).blk, o, none⟩)]
  | refSlc {id i q nw t xs o u} : c.A id → c.ob id = .slc nw t xs → i < xs.length → PathOk t q → offT t q = some (o, u) →
      SRep c (.ref id (.idx i :: q)) (.cell .ptr) [.pointer (some ⟨(c.β id).blk, (c.β id).off + i * t.size + o, none⟩)]
  | zptr : SRep c (.zc .ptr) (.cell .ptr) [.pointer none]
  | zmap : SRep c (.zc .map) (.cell .map) [.map none]
  | zfun : SRep c (.zc .func) (.cell .func) [.nilFunc]
  | nils {t} : SRep c .nils (.slice t) [.slice none 0 0]
  | ownGone {t id x} : c.A id → c.ob id = .gone → x.oneCell' = true → SRep c (.own t id) (.slice t) [x]
  | own {t id nw xs} : c.A id → c.ob id = .slc nw t xs → SRep c (.own t id) (.slice t) [hdr (c.β id) xs.length]
  | subGone {t id lo hi x} : c.A id → c.ob id = .gone → x.oneCell' = true → SRep c (.sub t id lo hi) (.slice t) [x]
  | sub {t id lo hi nw xs a} : c.A id → c.ob id = .slc nw t xs → lo ≤ hi → hi ≤ xs.length →
      (a = subAddr (c.β id) lo t.size) →
      SRep c (.sub t id lo hi) (.slice t) [.slice a (hi - lo) ((c.β id).cap - lo)]
  | vwGone {t id p n lo hi x} : c.A id → c.ob id = .gone → x.oneCell' = true → SRep c (.vw t id p n lo hi) (.slice t) [x]
  | vw {t id p n lo hi u s o a} : c.A id → c.ob id = .box u s → PathOk u p → offT u p = some (o, .arr n t) → lo ≤ hi → hi ≤ n → n ≤ lim →
      (lo < n → a = some ⟨(c.β id).blk, o + lo * t.size, none⟩) → SRep c (.vw t id p n lo hi) (.slice t) [.slice a (hi - lo) (n - lo)]
  | fn {f l vs} : SReps c l vs → SRep c (.fn f l) (.cell .func) [.func (.func f) #[] vs.toArray]
  | mpGone {id x} : c.A id → c.ob id = .gone → x.oneCell' = true → SRep c (.mp id) (.cell .map) [x]
  | mp {id k nw t es} : c.A id → c.ob id = .map k nw t es → SRep c (.mp id) (.cell .map) [.map (some (c.β id).blk)]
inductive SRepV (c : Cx) : SV → Value → Prop
  | vdead {v} : SRepV c .dead v
  | one {s t cs} : SRep c s t cs → SRepV c s (pack t cs)
  | tup {l vs} : SReps c l vs → SRepV c (.tup l) (.tuple vs.toArray)
  | itGone {id v} : c.A id → c.ob id = .gone → SRepV c (.it id) v
  | it {id m n seen} : c.A id → c.ob id = .itr m n seen → SRepV c (.it id) (.pointer (some ⟨(c.β id).blk, 0, none⟩))
inductive SReps (c : Cx) : List SV → List Value → Prop
  | nil : SReps c [] []
  | cons {s v l vs} : SRepV c s v → SReps c l vs → SReps c (s :: l) (v :: vs)
end
theorem SRep.len {c : Cx} {s : SV} {t : Ty} {cs : List Value} (h : SRep c s t cs) : cs.length = t.size := by
  induction h using SRep.rec (motive_2 := fun _ _ _ => True) (motive_3 := fun _ _ _ => True) with
  | dat h => exact h.len
  | acons _ _ h1 h2 => simp [Ty.size, h1, h2]
  | _ => first | rfl | trivial
def sameShape : Obj → Obj → Prop
  | .box t _, .box u _ => t = u
  | .slc _ t xs, .slc _ u ys => t = u ∧ xs.length = ys.length
  | .map k _ t _, .map j _ u _ => k = j ∧ t = u
  | .itr _ _ _, .itr _ _ _ => True
  | _, _ => False
structure Ext (c c' : Cx) : Prop where
  B : c'.B = c.B
  F : ∀ b, c.F b → c'.F b
  heap : ∀ b, c.F b → c'.w.heap[b]? = c.w.heap[b]?
  A : ∀ i, c.A i → c'.A i
  ob : ∀ i, c.A i → c'.ob i = .gone ∨ (sameShape (c.ob i) (c'.ob i) ∧ c'.β i = c.β i)
theorem Ext.Fn {c c' : Cx} (h : Ext c c') {nw : Bool} {b : Nat} (hb : c.Fn nw b) : c'.Fn nw b := ⟨h.F b hb.1, fun e => by rw [h.B]; exact hb.2 e⟩
theorem Ext.rep {c c' : Cx} (h : Ext c c') {nw : Bool} {t : Ty} {v : Val t} {cs : List Value} (hr : Rep c.w (c.Fn nw) t v cs) : Rep c'.w (c'.Fn nw) t v cs :=
  hr.mono (fun _ hb => h.Fn hb) (fun b hb => h.heap b hb.1)
theorem Ext.refl (c : Cx) (hs : ∀ i, c.ob i = .gone ∨ sameShape (c.ob i) (c.ob i)) : Ext c c :=
  ⟨rfl, fun _ h => h, fun _ _ => rfl, fun _ h => h, fun i _ => by rcases hs i with h | h; exact .inl h; exact .inr ⟨h, rfl⟩⟩
theorem sameShape_self (o : Obj) : o = .gone ∨ sameShape o o := by
  cases o with
  | gone => exact .inl rfl
  | box t c => exact .inr rfl
  | slc nw t xs => exact .inr ⟨rfl, rfl⟩
  | map k nw t es => exact .inr ⟨rfl, rfl⟩
  | itr m n l => exact .inr trivial
theorem SRep.ext {c c' : Cx} (h : Ext c c') {s : SV} {t : Ty} {cs : List Value} (hr : SRep c s t cs) : SRep c' s t cs := by
  induction hr using SRep.rec (motive_2 := fun s v _ => SRepV c' s v) (motive_3 := fun l vs _ => SReps c' l vs) with
  | dat hr => exact .dat (h.rep hr)
  | anil => exact .anil
  | acons _ _ h1 h2 => exact .acons h1 h2
  | «at» hb hl hc hr => exact .at (h.Fn hb) hl (fun j hj => by rw [cell_of_heap (h.heap _ hb.1)]; exact hc j hj) (h.rep hr)
  | @refGone id p x ha hg hx =>
    rcases h.ob id ha with e | ⟨e, _⟩
    · exact .refGone (h.A _ ha) e hx
    · rw [hg] at e; exact e.elim
  | @refBox id p t s o u ha hg hp ho =>
    rcases h.ob id ha with e | ⟨e, hβ⟩
    · exact .refGone (h.A _ ha) e rfl
    · rw [hg] at e
      cases hob : c'.ob id with
      | gone => rw [hob] at e; exact e.elim
      | map => rw [hob] at e; exact e.elim
      | itr => rw [hob] at e; exact e.elim
      | slc nw t xs => rw [hob] at e; exact e.elim
      | box t' s' =>
        rw [hob] at e
        obtain rfl : t = t' := e
        rw [← hβ]
        exact .refBox (h.A _ ha) hob hp ho
  | @refSlc id i q nw t xs o u ha hg hi hp ho =>
    rcases h.ob id ha with e | ⟨e, hβ⟩
    · exact .refGone (h.A _ ha) e rfl
    · rw [hg] at e
      cases hob : c'.ob id with
      | gone => rw [hob] at e; exact e.elim
      | map => rw [hob] at e; exact e.elim
      | itr => rw [hob] at e; exact e.elim
      | box t' s' => rw [hob] at e; exact e.elim
      | slc nw' t' xs' =>
        rw [hob] at e
        obtain ⟨rfl, hl⟩ : t = t' ∧ xs.length = xs'.length := e
        rw [← hβ]
        exact .refSlc (h.A _ ha) hob (hl ▸ hi) hp ho
  | zptr => exact .zptr
  | zmap => exact .zmap
  | zfun => exact .zfun
  | nils => exact .nils
  | @ownGone t id x ha hg hx =>
    rcases h.ob id ha with e | ⟨e, _⟩
    · exact .ownGone (h.A _ ha) e hx
    · rw [hg] at e; exact e.elim
  | @own t id nw xs ha hg =>
    rcases h.ob id ha with e | ⟨e, hβ⟩
    · exact .ownGone (h.A _ ha) e (hdr_one _ _)
    · rw [hg] at e
      cases hob : c'.ob id with
      | gone => rw [hob] at e; exact e.elim
      | map => rw [hob] at e; exact e.elim
      | itr => rw [hob] at e; exact e.elim
      | box t' s' => rw [hob] at e; exact e.elim
      | slc nw' t' xs' =>
        rw [hob] at e
        obtain ⟨rfl, hl⟩ : t = t' ∧ xs.length = xs'.length := e
        rw [← hβ, hl]
        exact .own (h.A _ ha) hob
  | @subGone t id lo hi x ha hg hx =>
    rcases h.ob id ha with e | ⟨e, _⟩
    · exact .subGone (h.A _ ha) e hx
    · rw [hg] at e; exact e.elim
  | @sub t id lo hi nw xs a ha hg h1 h2 h3 =>
    rcases h.ob id ha with e | ⟨e, hβ⟩
    · exact .subGone (h.A _ ha) e rfl
    · rw [hg] at e
      cases hob : c'.ob id with
      | gone => rw [hob] at e; exact e.elim
      | map => rw [hob] at e; exact e.elim
      | itr => rw [hob] at e; exact e.elim
      | box t' s' => rw [hob] at e; exact e.elim
      | slc nw' t' xs' =>
        rw [hob] at e
        obtain ⟨rfl, hl⟩ : t = t' ∧ xs.length = xs'.length := e
        rw [← hβ]
        exact .sub (h.A _ ha) hob h1 (hl ▸ h2) (by rw [hβ]; exact h3)
  | @vwGone t id p n lo hi x ha hg hx =>
    rcases h.ob id ha with e | ⟨e, _⟩
    · exact .vwGone (h.A _ ha) e hx
    · rw [hg] at e; exact e.elim
  | @vw t id p n lo hi u s o a ha hg hp ho h1 h2 hl h3 =>
    rcases h.ob id ha with e | ⟨e, hβ⟩
    · exact .vwGone (h.A _ ha) e rfl
    · rw [hg] at e
      cases hob : c'.ob id with
      | gone => rw [hob] at e; exact e.elim
      | map => rw [hob] at e; exact e.elim
      | itr => rw [hob] at e; exact e.elim
      | slc nw t xs => rw [hob] at e; exact e.elim
      | box t' s' =>
        rw [hob] at e
        obtain rfl : u = t' := e
        exact .vw (h.A _ ha) hob hp ho h1 h2 hl (by rw [hβ]; exact h3)
  | fn _ ih => exact .fn ih
  | @mpGone id x ha hg hx =>
    rcases h.ob id ha with e | ⟨e, _⟩
    · exact .mpGone (h.A _ ha) e hx
    · rw [hg] at e; exact e.elim
  | @mp id k nw t es ha hg =>
    rcases h.ob id ha with e | ⟨e, hβ⟩
    · exact .mpGone (h.A _ ha) e rfl
    · rw [hg] at e
      cases hob : c'.ob id with
      | gone => rw [hob] at e; exact e.elim
      | box t' s' => rw [hob] at e; exact e.elim
      | slc nw' t' xs' => rw [hob] at e; exact e.elim
      | itr => rw [hob] at e; exact e.elim
      | map k' nw' t' es' =>
        rw [← hβ]
        exact .mp (h.A _ ha) hob
  | vdead => exact .vdead
  | one _ ih => exact .one ih
  | tup _ ih => exact .tup ih
  | @itGone id v ha hg =>
    rcases h.ob id ha with e | ⟨e, _⟩
    · exact .itGone (h.A _ ha) e
    · rw [hg] at e; exact e.elim
  | @it id m n seen ha hg =>
    rcases h.ob id ha with e | ⟨e, hβ⟩
    · exact .itGone (h.A _ ha) e
    · rw [hg] at e
      cases hob : c'.ob id with
      | gone => rw [hob] at e; exact e.elim
      | box t' s' => rw [hob] at e; exact e.elim
      | slc nw' t' xs' => rw [hob] at e; exact e.elim
      | map => rw [hob] at e; exact e.elim
      | itr m' n' s' =>
        rw [← hβ]
        exact .it (h.A _ ha) hob
  | nil => exact .nil
  | cons _ _ h1 h2 => exact .cons h1 h2
end Go.Sx
