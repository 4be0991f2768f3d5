/- The symbolic executor's meaning: states of a call; how they change. -/
import Derived.Test.YteghkndbngddgaaGreatSxD
set_option linter.unusedVariables false
namespace Go.Sx
open Go.RowKit
theorem SRepV.ext {c c' : Cx} (h : Ext c c') {s : SV} {v : Value} (hr : SRepV c s v) : SRepV c' s v := by
  induction hr using SRepV.rec (motive_1 := fun s t cs _ => SRep c' s t cs) (motive_3 := fun l vs _ => SReps c' l vs) with
  | vdead => exact .vdead
  | one _ ih => exact .one ih
  | tup _ ih => exact .tup ih
  | @itGone id v ha hg =>
    rcases h.ob id ha with e | ⟨e, _⟩
    · exact .itGone (h.A _ ha) e
    · rw [hg] at e; exact e.elim
  | @it id m n seen ha hg =>
    rcases h.ob id ha with e | ⟨e, hβ⟩
    · exact .itGone (h.A _ ha) e
    · rw [hg] at e
      cases hob : c'.ob id with
      | itr m' n' s' =>
        rw [← hβ]
        exact .it (h.A _ ha) hob
      | _ => rw [hob] at e; exact e.elim
  | nil => exact .nil
  | cons _ _ h1 h2 => exact .cons h1 h2
  | fn _ ih => exact .fn ih
  | mpGone a b d => exact SRep.ext h (.mpGone a b d)
  | mp a b => exact SRep.ext h (.mp a b)
  | dat h' => exact SRep.ext h (.dat h')
  | anil => exact .anil
  | acons _ _ h1 h2 => exact .acons h1 h2
  | «at» a b d e => exact SRep.ext h (.at a b d e)
  | refGone a b d => exact SRep.ext h (.refGone a b d)
  | refBox a b d e => exact SRep.ext h (.refBox a b d e)
  | refSlc a b d e f => exact SRep.ext h (.refSlc a b d e f)
  | zptr => exact .zptr
  | zmap => exact .zmap
  | zfun => exact .zfun
  | nils => exact .nils
  | ownGone a b d => exact SRep.ext h (.ownGone a b d)
  | own a b => exact SRep.ext h (.own a b)
  | subGone a b d => exact SRep.ext h (.subGone a b d)
  | sub a b d e f => exact SRep.ext h (.sub a b d e f)
  | vwGone a b d => exact SRep.ext h (.vwGone a b d)
  | vw a b d e f g i j => exact SRep.ext h (.vw a b d e f g i j)
theorem SReps.ext {c c' : Cx} (h : Ext c c') : ∀ {l : List SV} {vs : List Value}, SReps c l vs → SReps c' l vs
  | _, _, .nil => .nil
  | _, _, .cons a b => .cons (a.ext h) (b.ext h)
def OK (c : Cx) (id : Nat) : Obj → Prop
  | .gone => True
  | .box t s => (c.β id).isnil = false ∧ ∃ (cs : List Value) (e : TypeId), c.w.heap[(c.β id).blk]? = some (.cells cs.toArray e (0, 0)) ∧ SRep c s t cs
  | .slc nw t xs => xs.length ≤ maxLen ∧ (((c.β id).isnil = true ∧ (c.β id).cap = 0 ∧ xs = []) ∨
      ((c.β id).isnil = false ∧ xs.length ≤ (c.β id).cap ∧ ∃ (arr : Array Value) (e : TypeId), c.w.heap[(c.β id).blk]? = some (.cells arr e (0, 0)) ∧
        (c.β id).off + (c.β id).cap * t.size ≤ arr.size ∧ ∀ i, i < xs.length →
          ∃ ds : List Value, ds.length = t.size ∧ (∀ j, j < t.size → arr[(c.β id).off + i * t.size + j]? = ds[j]?) ∧ Rep c.w (c.Fn nw) t (xs.getD i (dflt t)) ds))
  | .map k nw t es => (c.β id).isnil = false ∧ ∃ arr : Array MapEntry, c.w.heap[(c.β id).blk]? = some (.map arr arr.size) ∧ arr.size = es.length ∧
      ∀ i (x : Int × Val t), es[i]? = some x → ∃ (e : MapEntry) (cs : List Value), arr[i]? = some e ∧ e.key = .int k x.1 ∧ e.born = i ∧ k.min ≤ x.1 ∧ x.1 ≤ k.max ∧ e.val = pack t cs ∧ Rep c.w (c.Fn nw) t x.2 cs
  | .itr m n seen => (c.β id).isnil = false ∧ c.A m ∧ (c.ob m = .gone ∨ c.w.heap[(c.β id).blk]? = some (.mapIter (some (c.β m).blk) n.toNat (seen.map Int.toNat).reverse.toArray n.toNat))
def Live (c : Cx) (i : Nat) : Prop := c.ob i ≠ .gone ∧ (c.β i).isnil = false
theorem OK.ext {c c' : Cx} (h : Ext c c') {id : Nat} {o : Obj} (hβ : c'.β id = c.β id) (hh : (c.β id).isnil = false → c'.w.heap[(c.β id).blk]? = c.w.heap[(c.β id).blk]?)
    (ho : OK c id o) : OK c' id o := by
  cases o with
  | gone => trivial
  | box t s =>
    obtain ⟨h1, cs, e, h2, h3⟩ := ho
    exact ⟨by rw [hβ]; exact h1, cs, e, by rw [hβ, hh h1]; exact h2, h3.ext h⟩
  | slc nw t xs =>
    obtain ⟨h0, h1 | ⟨h1, h2, arr, e, h3, h4, h5⟩⟩ := ho
    · exact ⟨h0, .inl (by rw [hβ]; exact h1)⟩
    · refine ⟨h0, .inr ⟨by rw [hβ]; exact h1, by rw [hβ]; exact h2, arr, e, by rw [hβ, hh h1]; exact h3, by rw [hβ]; exact h4, fun i hi => ?_⟩⟩
      obtain ⟨ds, h6, h7, h8⟩ := h5 i hi
      exact ⟨ds, h6, fun j hj => by rw [hβ]; exact h7 j hj, h.rep h8⟩
  | map k nw t es =>
    obtain ⟨h1, arr, h2, h3, h4⟩ := ho
    refine ⟨by rw [hβ]; exact h1, arr, by rw [hβ, hh h1]; exact h2, h3, fun i x hx => ?_⟩
    obtain ⟨e, cs, k1, k2, k3, k4, k5, k6, k7⟩ := h4 i x hx
    exact ⟨e, cs, k1, k2, k3, k4, k5, k6, h.rep k7⟩
  | itr m n seen =>
    obtain ⟨h1, h2, h3⟩ := ho
    refine ⟨by rw [hβ]; exact h1, h.A _ h2, ?_⟩
    rcases h.ob m h2 with e | ⟨e, hm⟩
    · exact .inl e
    · rcases h3 with h3 | h3
      · rw [h3] at e; exact e.elim
      · exact .inr (by rw [hβ, hh h1, hm]; exact h3)
theorem sameShape_trans {x y z : Obj} (h : sameShape x y) (k : sameShape y z) : sameShape x z := by
  cases x <;> cases y <;> cases z <;> simp_all [sameShape]
def isMine : Obj → Bool
  | .slc nw _ _ => nw
  | _ => false
structure Io where
  blk : Nat → Prop
  fix : Nat → Option (Conc × Obj)
  F0 : Nat → Prop
  may : Prop
instance : CoeFun Io (fun _ => Nat → Prop) := ⟨Io.blk⟩
structure RelC (c : Cx) (n : Nat) (sl : Nat → SV) (w0 : World) (Jo : Io) (a : Act) : Prop where
  defers : a.defers = []
  size : a.tmps.size = n
  slots : ∀ k, SRepV c (sl k) (a.tmps.getD k undef)
  objs : ∀ id, OK c id (c.ob id)
  unalloc : ∀ id, ¬ c.A id → c.ob id = .gone
  inj : ∀ i j, Live c i → Live c j → i ≠ j → (c.β i).blk ≠ (c.β j).blk
  own : ∀ i, Live c i → ¬ c.F (c.β i).blk ∧ (c.β i).blk < c.w.heap.size ∧ (c.B ≤ (c.β i).blk ∨ Jo (c.β i).blk)
  fz : ∀ b, c.F b → b < c.w.heap.size
  below : ∀ b, b < c.B → ¬ Jo b → c.w.heap[b]? = w0.heap[b]?
  base : c.B = w0.heap.size
  grown : c.B ≤ c.w.heap.size
  os : c.w.os = w0.os
  tape : c.w.tape = w0.tape
  output : c.w.output = w0.output
  fix : ∀ i b, Jo.fix i = some b → c.A i ∧ (c.ob i = .gone ∨ (c.β i = b.1 ∧ sameShape b.2 (c.ob i)))
  old : ∀ b, c.F b → b < c.B → Jo.F0 b ∨ (Jo b ∧ Jo.may)
  mine : ∀ i, isMine (c.ob i) = true → (c.β i).isnil = false → c.B ≤ (c.β i).blk
section
variable {c : Cx} {n : Nat} {sl : Nat → SV} {w0 : World} {Jo : Io} {a : Act}
theorem getD_set (xs : Array Value) (d k : Nat) (v u : Value) (h : d < xs.size) : (xs.setIfInBounds d v).getD k u = if k = d then v else xs.getD k u := by
  simp only [Array.getD_eq_getD_getElem?, Array.getElem?_setIfInBounds]
  by_cases e : k = d
  · subst e; simp [h]
  · rw [if_neg e, if_neg (fun h' => e h'.symm)]
theorem up_same {α : Type} (f : Nat → α) (k : Nat) (v : α) : up f k v k = v := by simp [up]
theorem up_ne {α : Type} (f : Nat → α) {k j : Nat} (v : α) (h : j ≠ k) : up f k v j = f j := by
  have : Nat.beq j k = false := by
    rw [Bool.eq_false_iff]; intro e; exact h (Nat.eq_of_beq_eq_true e)
  simp [up, this]
theorem RelC.put (h : RelC c n sl w0 Jo a) {d : Nat} (hd : d < n) {s : SV} {v : Value} (hv : SRepV c s v) : RelC c n (up sl d s) w0 Jo (a.put (some d) v) :=
  { h with
    defers := h.defers
    size := by simpa [Act.put] using h.size
    slots := fun k => by
      simp only [Act.put]
      rw [getD_set _ _ _ _ _ (by rw [h.size]; exact hd)]
      by_cases e : k = d
      · subst e; rw [if_pos rfl, up_same]; exact hv
      · rw [if_neg e, up_ne _ _ e]; exact h.slots k }
theorem RelC.slot (h : RelC c n sl w0 Jo a) {sl' : Nat → SV} (hs : ∀ k, sl' k = .dead ∨ sl' k = sl k) : RelC c n sl' w0 Jo a :=
  { h with slots := fun k => by rcases hs k with e | e; rw [e]; exact .vdead; rw [e]; exact h.slots k }
theorem RelC.change (h : RelC c n sl w0 Jo a) {c' : Cx} (he : Ext c c') (objs : ∀ id, OK c' id (c'.ob id)) (unalloc : ∀ id, ¬ c'.A id → c'.ob id = .gone)
    (inj : ∀ i j, Live c' i → Live c' j → i ≠ j → (c'.β i).blk ≠ (c'.β j).blk)
    (own : ∀ i, Live c' i → ¬ c'.F (c'.β i).blk ∧ (c'.β i).blk < c'.w.heap.size ∧ (c'.B ≤ (c'.β i).blk ∨ Jo (c'.β i).blk))
    (fz : ∀ b, c'.F b → b < c'.w.heap.size) (below : ∀ b, b < c'.B → ¬ Jo b → c'.w.heap[b]? = c.w.heap[b]?) (grown : c.w.heap.size ≤ c'.w.heap.size)
    (os : c'.w.os = c.w.os) (tape : c'.w.tape = c.w.tape) (output : c'.w.output = c.w.output) (old : ∀ b, c'.F b → b < c'.B → c.F b)
    (mine : ∀ i, isMine (c'.ob i) = true → (c'.β i).isnil = false → c'.B ≤ (c'.β i).blk) : RelC c' n sl w0 Jo a :=
  { defers := h.defers, size := h.size, slots := fun k => (h.slots k).ext he, objs := objs, unalloc := unalloc, inj := inj, own := own, fz := fz,
    below := fun b hb hi => by rw [below b hb hi]; exact h.below b (by rw [← he.B]; exact hb) hi
    base := by rw [he.B]; exact h.base
    grown := by rw [he.B]; exact Nat.le_trans h.grown grown
    os := os.trans h.os, tape := tape.trans h.tape, output := output.trans h.output
    fix := fun i b hb => by
      obtain ⟨h1, h2⟩ := h.fix i b hb
      refine ⟨he.A i h1, ?_⟩
      rcases he.ob i h1 with e | ⟨e1, e2⟩
      · exact .inl e
      · rcases h2 with h2 | h2
        · rw [h2] at e1; exact absurd e1 (by simp [sameShape])
        · rw [e2]; exact .inr ⟨h2.1, sameShape_trans h2.2 e1⟩
    old := fun b hb hlt => h.old b (old b hb hlt) (by rw [← he.B]; exact hlt)
    mine := mine }
theorem RelC.grow (h : RelC c n sl w0 Jo a) {w' : World} (hs : c.w.heap.size ≤ w'.heap.size) (hh : ∀ b, b < c.w.heap.size → w'.heap[b]? = c.w.heap[b]?)
    (os : w'.os = c.w.os) (tape : w'.tape = c.w.tape) (output : w'.output = c.w.output) : RelC { c with w := w' } n sl w0 Jo a := by
  have he : Ext c { c with w := w' } := ⟨rfl, fun _ hb => hb, fun b hb => hh b (h.fz b hb), fun _ hi => hi, fun i _ => by
    rcases sameShape_self (c.ob i) with e | e
    · exact .inl e
    · exact .inr ⟨e, rfl⟩⟩
  refine h.change he (fun id => ?_) h.unalloc h.inj (fun i hi => ?_) (fun b hb => Nat.lt_of_lt_of_le (h.fz b hb) hs) (fun b hb hi => hh b (Nat.lt_of_lt_of_le hb h.grown)) hs os tape output (fun b hb _ => hb) h.mine
  · by_cases hg : c.ob id = .gone
    · show OK _ id (c.ob id)
      rw [hg]; trivial
    · exact (h.objs id).ext he rfl (fun hn => hh _ (h.own id ⟨hg, hn⟩).2.1)
  · obtain ⟨h1, h2, h3⟩ := h.own i hi
    exact ⟨h1, Nat.lt_of_lt_of_le h2 hs, h3⟩
theorem RelC.alloc (h : RelC c n sl w0 Jo a) {id : Nat} (hid : ¬ c.A id) (o : Go.Obj) (k : Conc) (hk : k.blk = c.w.heap.size) (x : Obj) (c' : Cx)
    (hc' : c' = { w := c.w.alloc o, F := c.F, B := c.B, A := fun i => c.A i ∨ i = id, β := up c.β id k, ob := up c.ob id x })
    (hx : Ext c c' → OK c' id x) : RelC c' n sl w0 Jo a := by
  have hh : ∀ b, b < c.w.heap.size → (c.w.alloc o).heap[b]? = c.w.heap[b]? := fun b hb => Below.heap_alloc _ _ _ hb
  have hne : ∀ i, c.A i → i ≠ id := fun i hi e => hid (e ▸ hi)
  have he : Ext c c' := by
    subst hc'
    refine ⟨rfl, fun _ hb => hb, fun b hb => hh b (h.fz b hb), fun _ hi => .inl hi, fun i hi => ?_⟩
    simp only [up_ne _ _ (hne i hi)]
    rcases sameShape_self (c.ob i) with e | e
    · exact .inl e
    · exact .inr ⟨e, trivial⟩
  have hx := hx he
  have hlive : ∀ i, Live c' i → i = id ∨ (i ≠ id ∧ Live c i) := by
    intro i hi
    by_cases e : i = id
    · exact .inl e
    · refine .inr ⟨e, ?_⟩
      subst hc'
      have := hi
      simp only [Live, up_ne _ _ e] at this
      exact this
  have hsz : c'.w.heap.size = c.w.heap.size + 1 := by subst hc'; simp
  refine h.change he (fun i => ?_) (fun i hi => ?_) (fun i j hi hj hij => ?_) (fun i hi => ?_) (fun b hb => ?_) (fun b hb _ => ?_) (by omega) (by subst hc'; rfl) (by subst hc'; rfl) (by subst hc'; rfl) (by subst hc'; exact fun b hb _ => hb) (fun i hi hn => ?_)
  · by_cases e : i = id
    · subst e
      have : c'.ob i = x := by subst hc'; exact up_same _ _ _
      rw [this]; exact hx
    · have h1 : c'.ob i = c.ob i := by subst hc'; exact up_ne _ _ e
      have h2 : c'.β i = c.β i := by subst hc'; exact up_ne _ _ e
      rw [h1]
      by_cases hg : c.ob i = .gone
      · rw [hg]; trivial
      · exact (h.objs i).ext he h2 (fun hn => by subst hc'; exact hh _ (h.own i ⟨hg, hn⟩).2.1)
  · subst hc'
    simp only [not_or] at hi
    show up c.ob id x i = .gone
    rw [up_ne _ _ hi.2]; exact h.unalloc i hi.1
  · have hβ : ∀ i, i ≠ id → c'.β i = c.β i := fun i e => by subst hc'; exact up_ne _ _ e
    have hβ' : c'.β id = k := by subst hc'; exact up_same _ _ _
    rcases hlive i hi with e | ⟨e, l⟩ <;> rcases hlive j hj with e' | ⟨e', l'⟩
    · exact absurd (e.trans e'.symm) hij
    · rw [e, hβ', hβ j e', hk]; have := (h.own j l').2.1; omega
    · rw [e', hβ', hβ i e, hk]; have := (h.own i l).2.1; omega
    · rw [hβ i e, hβ j e']; exact h.inj i j l l' hij
  · rcases hlive i hi with e | ⟨e, l⟩
    · have hβ' : c'.β i = k := by subst e; subst hc'; exact up_same _ _ _
      rw [hβ', hk]
      refine ⟨fun hf => ?_, by omega, .inl ?_⟩
      · have : c.F c.w.heap.size := by subst hc'; exact hf
        have := h.fz _ this; omega
      · rw [he.B]; exact h.grown
    · have hβ : c'.β i = c.β i := by subst hc'; exact up_ne _ _ e
      rw [hβ, he.B]
      obtain ⟨h1, h2, h3⟩ := h.own i l
      exact ⟨fun hf => h1 (by subst hc'; exact hf), by omega, h3⟩
  · have : c.F b := by subst hc'; exact hb
    have := h.fz b this; omega
  · rw [he.B] at hb
    have := h.grown
    subst hc'
    exact hh b (by omega)
  · rw [he.B]
    by_cases e : i = id
    · have hβ' : c'.β i = k := by subst e; subst hc'; exact up_same _ _ _
      rw [hβ', hk]; exact h.grown
    · have h1 : c'.ob i = c.ob i := by subst hc'; exact up_ne _ _ e
      have h2 : c'.β i = c.β i := by subst hc'; exact up_ne _ _ e
      rw [h1] at hi
      rw [h2] at hn ⊢
      exact h.mine i hi hn
theorem RelC.modify (h : RelC c n sl w0 Jo a) {id : Nat} (hA : c.A id) (hl : Live c id) (w' : World) (x : Obj) (hsh : sameShape (c.ob id) x) (hmine : isMine x = true → isMine (c.ob id) = true)
    (hsz : w'.heap.size = c.w.heap.size) (hh : ∀ b, b ≠ (c.β id).blk → w'.heap[b]? = c.w.heap[b]?) (os : w'.os = c.w.os) (tape : w'.tape = c.w.tape) (output : w'.output = c.w.output)
    (c' : Cx) (hc' : c' = { c with w := w', ob := up c.ob id x }) (hx : Ext c c' → OK c' id x) : RelC c' n sl w0 Jo a := by
  have hown := h.own id hl
  have he : Ext c c' := by
    subst hc'
    refine ⟨rfl, fun _ hb => hb, fun b hb => hh b (fun e => hown.1 (e ▸ hb)), fun _ hi => hi, fun i hi => ?_⟩
    by_cases e : i = id
    · subst e; simp only [up_same]; exact .inr ⟨hsh, trivial⟩
    · simp only [up_ne _ _ e]
      rcases sameShape_self (c.ob i) with e | e
      · exact .inl e
      · exact .inr ⟨e, trivial⟩
  have hx := hx he
  have hβ : c'.β = c.β := by subst hc'; rfl
  have hlive : ∀ i, Live c' i → Live c i := by
    intro i hi
    by_cases e : i = id
    · rw [e]; exact hl
    · subst hc'
      have := hi
      simp only [Live, up_ne _ _ e] at this
      exact this
  refine h.change he (fun i => ?_) (fun i hi => ?_) (fun i j hi hj hij => ?_) (fun i hi => ?_) (fun b hb => ?_) (fun b hb hio => ?_) (by subst hc'; exact Nat.le_of_eq hsz.symm) (by subst hc'; exact os) (by subst hc'; exact tape) (by subst hc'; exact output) (by subst hc'; exact fun b hb _ => hb) (fun i hi hn => ?_)
  · by_cases e : i = id
    · subst e
      have : c'.ob i = x := by subst hc'; exact up_same _ _ _
      rw [this]; exact hx
    · have h1 : c'.ob i = c.ob i := by subst hc'; exact up_ne _ _ e
      rw [h1]
      by_cases hg : c.ob i = .gone
      · rw [hg]; trivial
      · exact (h.objs i).ext he (by rw [hβ]) (fun hn => by subst hc'; exact hh _ (h.inj i id ⟨hg, hn⟩ hl e))
  · by_cases e : i = id
    · subst hc'; exact absurd hA (e ▸ hi)
    · subst hc'
      show up c.ob id x i = .gone
      rw [up_ne _ _ e]; exact h.unalloc i hi
  · rw [hβ]; exact h.inj i j (hlive i hi) (hlive j hj) hij
  · rw [hβ, he.B]
    obtain ⟨h1, h2, h3⟩ := h.own i (hlive i hi)
    exact ⟨fun hf => h1 (by subst hc'; exact hf), by subst hc'; exact hsz ▸ h2, h3⟩
  · have : c.F b := by subst hc'; exact hb
    subst hc'
    exact hsz ▸ h.fz b this
  · subst hc'
    refine hh b (fun e => ?_)
    rcases hown.2.2 with h3 | h3
    · have : b < c.B := hb
      omega
    · exact hio (e ▸ h3)
  · rw [he.B]
    rw [hβ] at hn ⊢
    by_cases e : i = id
    · rw [e] at hi hn ⊢
      have : c'.ob id = x := by subst hc'; exact up_same _ _ _
      rw [this] at hi
      exact h.mine id (hmine hi) hn
    · have h1 : c'.ob i = c.ob i := by subst hc'; exact up_ne _ _ e
      rw [h1] at hi
      exact h.mine i hi hn
theorem RelC.kill (h : RelC c n sl w0 Jo a) (id : Nat) : RelC { c with ob := up c.ob id .gone } n sl w0 Jo a := by
  have hgone : ∀ i, up c.ob id .gone i = .gone ∨ (i ≠ id ∧ up c.ob id .gone i = c.ob i) := by
    intro i
    by_cases e : i = id
    · subst e; exact .inl (up_same _ _ _)
    · exact .inr ⟨e, up_ne _ _ e⟩
  have he : Ext c { c with ob := up c.ob id .gone } := by
    refine ⟨rfl, fun _ hb => hb, fun b hb => rfl, fun _ hi => hi, fun i hi => ?_⟩
    rcases hgone i with e | ⟨_, e⟩
    · exact .inl e
    · show up c.ob id .gone i = .gone ∨ (sameShape (c.ob i) (up c.ob id .gone i) ∧ _)
      rw [e]
      rcases sameShape_self (c.ob i) with e | e
      · exact .inl e
      · exact .inr ⟨e, rfl⟩
  have hlive : ∀ i, Live { c with ob := up c.ob id .gone } i → Live c i := by
    intro i hi
    rcases hgone i with e | ⟨_, e⟩
    · exact absurd e hi.1
    · exact ⟨by rw [← e]; exact hi.1, hi.2⟩
  refine h.change he (fun i => ?_) (fun i hi => ?_) (fun i j hi hj hij => h.inj i j (hlive i hi) (hlive j hj) hij) (fun i hi => h.own i (hlive i hi)) h.fz (fun b _ _ => rfl) (Nat.le_refl _) rfl rfl rfl (fun b hb _ => hb) (fun i hi hn => h.mine i (by
    rcases hgone i with e | ⟨_, e⟩
    · have hi' : isMine (up c.ob id .gone i) = true := hi
      rw [e] at hi'; cases hi'
    · rw [← e]; exact hi) hn)
  · show OK _ i (up c.ob id .gone i)
    rcases hgone i with e | ⟨_, e⟩
    · rw [e]; trivial
    · rw [e]; exact (h.objs i).ext he rfl (fun _ => rfl)
  · rcases hgone i with e | ⟨_, e⟩
    · exact e
    · show up c.ob id .gone i = .gone
      rw [e]; exact h.unalloc i hi
end
end Go.Sx
