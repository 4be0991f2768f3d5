/- The symbolic executor's meaning: operations on memory. -/
import Derived.Test.YteghkndbngddgaaGreatSxN
set_option linter.unusedVariables false
namespace Go.Sx
open Go.RowKit
section
variable {c : Cx} {s : St} {w0 : World} {Jo : Io} {a : Act} {P : Program} {tf : Nat → Option Ty} {n : Nat} {sl : Nat → SV}
theorem RelC.renew (h : RelC c n sl w0 Jo a) {id id0 : Nat} (hl : Live c id) (hid0 : ¬ c.A id0) (w' : World) (k : Conc) (hk : k.blk = (c.β id).blk) (x : Obj) (hmine : isMine x = true → isMine (c.ob id) = true)
    (hsz : w'.heap.size = c.w.heap.size) (hh : ∀ b, b ≠ (c.β id).blk → w'.heap[b]? = c.w.heap[b]?) (os : w'.os = c.w.os) (tape : w'.tape = c.w.tape) (output : w'.output = c.w.output)
    (c' : Cx) (hc' : c' = { w := w', F := c.F, B := c.B, A := fun i => c.A i ∨ i = id0, β := up c.β id0 k, ob := up (up c.ob id0 x) id .gone }) (hx : Ext c c' → OK c' id0 x) : RelC c' n sl w0 Jo a := by
  have hown := h.own id hl
  have hA : c.A id := by
    by_cases e : c.A id
    · exact e
    · exact absurd (h.unalloc id e) hl.1
  have hne : id ≠ id0 := fun e => hid0 (e ▸ hA)
  have hob : ∀ i, c'.ob i = if i = id then .gone else if i = id0 then x else c.ob i := by
    intro i
    subst hc'
    by_cases e : i = id
    · rw [if_pos e, e]; exact up_same _ _ _
    · rw [if_neg e]
      show up (up c.ob id0 x) id .gone i = _
      rw [up_ne _ _ e]
      by_cases e2 : i = id0
      · rw [if_pos e2, e2]; exact up_same _ _ _
      · rw [if_neg e2]; exact up_ne _ _ e2
  have hβ : ∀ i, i ≠ id0 → c'.β i = c.β i := fun i e => by subst hc'; exact up_ne _ _ e
  have hβ0 : c'.β id0 = k := by subst hc'; exact up_same _ _ _
  have hw : c'.w = w' := by subst hc'; rfl
  have he : Ext c c' := by
    refine ⟨by subst hc'; rfl, fun _ hb => by subst hc'; exact hb, fun b hb => by rw [hw]; exact hh b (fun e => hown.1 (e ▸ hb)), fun _ hi => by subst hc'; exact .inl hi, fun i hi => ?_⟩
    have hne0 : i ≠ id0 := fun e => hid0 (e ▸ hi)
    rw [hob i]
    by_cases e : i = id
    · rw [if_pos e]; exact .inl rfl
    · rw [if_neg e, if_neg hne0]
      rcases sameShape_self (c.ob i) with e | e
      · exact .inl e
      · exact .inr ⟨e, hβ i hne0⟩
  have hx := hx he
  have hlive : ∀ i, Live c' i → i = id0 ∨ (i ≠ id0 ∧ i ≠ id ∧ Live c i) := by
    intro i hi
    by_cases e : i = id
    · exact absurd (by rw [hob i, if_pos e]) hi.1
    · by_cases e2 : i = id0
      · exact .inl e2
      · refine .inr ⟨e2, e, ?_⟩
        have h1 := hi.1
        have h2 := hi.2
        rw [hob i, if_neg e, if_neg e2] at h1
        rw [hβ i e2] at h2
        exact ⟨h1, h2⟩
  refine h.change he (fun i => ?_) (fun i hi => ?_) (fun i j hi hj hij => ?_) (fun i hi => ?_) (fun b hb => ?_) (fun b hb hio => ?_) (by rw [hw]; exact Nat.le_of_eq hsz.symm) (by rw [hw]; exact os) (by rw [hw]; exact tape) (by rw [hw]; exact output) (by subst hc'; exact fun b hb _ => hb) (fun i hi hn => ?_)
  · rw [hob i]
    by_cases e : i = id
    · rw [if_pos e]; trivial
    · rw [if_neg e]
      by_cases e2 : i = id0
      · rw [if_pos e2, e2]; exact hx
      · rw [if_neg e2]
        by_cases hg : c.ob i = .gone
        · rw [hg]; trivial
        · exact (h.objs i).ext he (hβ i e2) (fun hn => by rw [hw]; exact hh _ (h.inj i id ⟨hg, hn⟩ hl e))
  · rw [hob i]
    by_cases e : i = id
    · rw [if_pos e]
    · rw [if_neg e]
      have : ¬ (c.A i ∨ i = id0) := by subst hc'; exact hi
      rw [if_neg (fun e2 => this (.inr e2))]
      exact h.unalloc i (fun e2 => this (.inl e2))
  · rcases hlive i hi with e | ⟨e, e2, l⟩ <;> rcases hlive j hj with e' | ⟨e', e2', l'⟩
    · exact absurd (e.trans e'.symm) hij
    · rw [e, hβ0, hβ j e', hk]; exact h.inj id j hl l' (fun q => e2' q.symm)
    · rw [e', hβ0, hβ i e, hk]; exact h.inj i id l hl e2
    · rw [hβ i e, hβ j e']; exact h.inj i j l l' hij
  · rw [hw, hsz, he.B]
    rcases hlive i hi with e | ⟨e, e2, l⟩
    · rw [e, hβ0, hk]
      exact ⟨fun hf => hown.1 (by subst hc'; exact hf), hown.2⟩
    · rw [hβ i e]
      obtain ⟨h1, h2, h3⟩ := h.own i l
      exact ⟨fun hf => h1 (by subst hc'; exact hf), h2, h3⟩
  · rw [hw, hsz]; exact h.fz b (by subst hc'; exact hb)
  · rw [hw]
    refine hh b (fun e => ?_)
    rcases hown.2.2 with h3 | h3
    · rw [he.B] at hb; omega
    · exact hio (e ▸ h3)
  · rw [he.B]
    rw [hob i] at hi
    by_cases e : i = id
    · rw [if_pos e] at hi; cases hi
    · rw [if_neg e] at hi
      by_cases e2 : i = id0
      · rw [if_pos e2] at hi
        rw [e2, hβ0, hk]
        exact h.mine id (hmine hi) hl.2
      · rw [if_neg e2] at hi
        rw [hβ i e2] at hn ⊢
        exact h.mine i hi hn
theorem RelC.newNil (h : RelC c n sl w0 Jo a) {id0 : Nat} (hid : ¬ c.A id0) (nw : Bool) (t : Ty) (c' : Cx)
    (hc' : c' = { c with A := fun i => c.A i ∨ i = id0, β := up c.β id0 ⟨0, 0, 0, true⟩, ob := up c.ob id0 (.slc nw t []) }) : Ext c c' ∧ RelC c' n sl w0 Jo a := by
  have hne : ∀ i, c.A i → i ≠ id0 := fun i hi e => hid (e ▸ hi)
  have hw : c'.w = c.w := by subst hc'; rfl
  have he : Ext c c' := by
    subst hc'
    refine ⟨rfl, fun _ hb => hb, fun b hb => rfl, fun _ hi => .inl hi, fun i hi => ?_⟩
    simp only [up_ne _ _ (hne i hi)]
    rcases sameShape_self (c.ob i) with e | e
    · exact .inl e
    · exact .inr ⟨e, trivial⟩
  have hlive : ∀ i, Live c' i → i ≠ id0 ∧ Live c i := by
    intro i hi
    by_cases e : i = id0
    · have := hi.2
      subst hc'
      rw [e] at this
      simp only [up_same] at this
      cases this
    · refine ⟨e, ?_⟩
      subst hc'
      have := hi
      simp only [Live, up_ne _ _ e] at this
      exact this
  refine ⟨he, h.change he (fun i => ?_) (fun i hi => ?_) (fun i j hi hj hij => ?_) (fun i hi => ?_) (fun b hb => ?_) (fun b hb _ => by rw [hw]) (by rw [hw]; exact Nat.le_refl _) (by rw [hw]) (by rw [hw]) (by rw [hw]) (by subst hc'; exact fun b hb _ => hb) (fun i hi hn => ?_)⟩
  · by_cases e : i = id0
    · subst e; subst hc'
      show OK _ i (up c.ob i (.slc nw t []) i)
      rw [up_same]
      exact ⟨by simp, .inl (by simp [up_same])⟩
    · have h1 : c'.ob i = c.ob i := by subst hc'; exact up_ne _ _ e
      rw [h1]
      exact (h.objs i).ext he (by subst hc'; exact up_ne _ _ e) (fun _ => by rw [hw])
  · subst hc'
    simp only [not_or] at hi
    show up c.ob id0 (.slc nw t []) i = .gone
    rw [up_ne _ _ hi.2]; exact h.unalloc i hi.1
  · obtain ⟨e, l⟩ := hlive i hi
    obtain ⟨e', l'⟩ := hlive j hj
    have h1 : c'.β i = c.β i := by subst hc'; exact up_ne _ _ e
    have h2 : c'.β j = c.β j := by subst hc'; exact up_ne _ _ e'
    rw [h1, h2]; exact h.inj i j l l' hij
  · obtain ⟨e, l⟩ := hlive i hi
    have h1 : c'.β i = c.β i := by subst hc'; exact up_ne _ _ e
    rw [h1, hw, he.B]
    obtain ⟨h1, h2, h3⟩ := h.own i l
    exact ⟨fun hf => h1 (by subst hc'; exact hf), h2, h3⟩
  · rw [hw]; exact h.fz b (by subst hc'; exact hb)
  · rw [he.B]
    by_cases e : i = id0
    · subst hc'
      rw [e] at hn
      simp only [up_same] at hn
      cases hn
    · have h1 : c'.ob i = c.ob i := by subst hc'; exact up_ne _ _ e
      have h2 : c'.β i = c.β i := by subst hc'; exact up_ne _ _ e
      rw [h1] at hi
      rw [h2] at hn ⊢
      exact h.mine i hi hn
theorem heap_alloc_new (w : World) (o : Go.Obj) : (w.alloc o).heap[w.heap.size]? = some o := by
  show (w.heap.push o)[w.heap.size]? = some o
  exact Array.getElem?_push_size
theorem newBox (h : RelC c n sl w0 Jo a) {id0 : Nat} (hid : ¬ c.A id0) {ty : Ty} {x : SV} {cs : List Value} (e : TypeId) (hx : ∀ c', Ext c c' → SRep c' x ty cs) :
    ∃ c', c'.w = c.w.alloc (.cells cs.toArray e) ∧ c'.ob = up c.ob id0 (.box ty x) ∧ RelC c' n sl w0 Jo a ∧ (∀ i, c'.A i → c.A i ∨ i = id0) ∧ SRepV c' (.ref id0 []) (.pointer (some ⟨c.w.heap.size, 0, none⟩)) := by
  let c' : Cx := { w := c.w.alloc (.cells cs.toArray e), F := c.F, B := c.B, A := fun i => c.A i ∨ i = id0, β := up c.β id0 ⟨c.w.heap.size, 0, 0, false⟩, ob := up c.ob id0 (.box ty x) }
  have hβ : c'.β id0 = ⟨c.w.heap.size, 0, 0, false⟩ := up_same _ _ _
  refine ⟨c', rfl, rfl, h.alloc hid _ ⟨c.w.heap.size, 0, 0, false⟩ rfl _ c' rfl (fun he => ?_), fun i hi => hi, ?_⟩
  · refine ⟨by rw [hβ], cs, e, ?_, hx c' he⟩
    rw [hβ]; exact heap_alloc_new _ _
  · have h1 : AddrAt c' id0 [] ty 0 := ⟨.inr rfl, .inl ⟨ty, x, up_same _ _ _, trivial, rfl⟩⟩
    have := h1.rep
    rw [hβ] at this
    exact this
theorem alloc_ok (hE : ∀ t ty, tf t = some ty → TyOk P tf t ty) (h : RelC c n sl w0 Jo a) {id0 : Nat} (hid : ¬ c.A id0) {t : Nat} {ty : Ty} (ht : tf t = some ty) (hz : zOk ty = true) :
    ∃ c' v, (Instr.alloc t true (.tuple #[])).run P c.w = .ok v c'.w ∧ c'.ob = up c.ob id0 (.box ty (zeroSV ty)) ∧ RelC c' n sl w0 Jo a ∧ (∀ i, c'.A i → c.A i ∨ i = id0) ∧ SRepV c' (.ref id0 []) v := by
  obtain ⟨c', h1, h2, h3, h4, h5⟩ := newBox h hid (ty := ty) (x := zeroSV ty) (cs := zcells ty) t (fun c' _ => zeroSV_rep hz)
  have hp := zeroSV_rep (c := c) hz
  refine ⟨c', _, ?_, h2, h3, h4, h5⟩
  rw [h1]
  simp only [Instr.alloc, Sem.run_bind, (hE _ _ ht).run_zero, Result.andThen_ok, newVar, newRow, pack_cells hp.len hp.one, run_newObj, Sem.run_pure]
  rfl
theorem box_ok (h : RelC c n sl w0 Jo a) {id0 : Nat} (hid : ¬ c.A id0) {t : Nat} {ty : Ty} {x : SV} {v : Value} (hv : SRepV c x v) (hf : fits x ty = true) :
    ∃ c' v', (Instr.box t v).run P c.w = .ok v' c'.w ∧ c'.ob = up c.ob id0 (.box ty x) ∧ RelC c' n sl w0 Jo a ∧ (∀ i, c'.A i → c.A i ∨ i = id0) ∧ SRepV c' (.ref id0 []) v' := by
  obtain ⟨cs, rfl, hr⟩ := fits_val hv hf
  obtain ⟨c', h1, h2, h3, h4, h5⟩ := newBox h hid (ty := ty) (x := x) (cs := cs) t (fun c' he => hr.ext he)
  refine ⟨c', _, ?_, h2, h3, h4, h5⟩
  rw [h1]
  simp only [Instr.box, Sem.run_bind, newVar, newRow, pack_cells hr.len hr.one, run_newObj, Result.andThen_ok, Sem.run_pure]
  rfl
theorem newSlc (h : RelC c n sl w0 Jo a) {id0 : Nat} (hid : ¬ c.A id0) {nw : Bool} {t : Ty} {xs : List (Val t)} {arr : Array Value} (e : TypeId) {cap : Nat} (hlen : xs.length ≤ maxLen) (hcap : xs.length ≤ cap)
    (hsz : cap * t.size ≤ arr.size) (hx : ∀ i, i < xs.length → ∃ ds : List Value, ds.length = t.size ∧ (∀ j, j < t.size → arr[i * t.size + j]? = ds[j]?) ∧ Rep c.w (c.Fn nw) t (xs.getD i (dflt t)) ds) :
    ∃ c', c'.w = c.w.alloc (.cells arr e) ∧ c'.ob = up c.ob id0 (.slc nw t xs) ∧ RelC c' n sl w0 Jo a ∧ (∀ i, c'.A i → c.A i ∨ i = id0) ∧ SRepV c' (.own t id0) (.slice (some ⟨c.w.heap.size, 0, none⟩) xs.length cap) ∧ c'.A id0 := by
  let c' : Cx := { w := c.w.alloc (.cells arr e), F := c.F, B := c.B, A := fun i => c.A i ∨ i = id0, β := up c.β id0 ⟨c.w.heap.size, 0, cap, false⟩, ob := up c.ob id0 (.slc nw t xs) }
  have hβ : c'.β id0 = ⟨c.w.heap.size, 0, cap, false⟩ := up_same _ _ _
  refine ⟨c', rfl, rfl, h.alloc hid _ ⟨c.w.heap.size, 0, cap, false⟩ rfl _ c' rfl (fun he => ?_), fun i hi => hi, ?_, .inr rfl⟩
  · refine ⟨hlen, .inr ⟨by rw [hβ], by rw [hβ]; exact hcap, arr, e, by rw [hβ]; exact heap_alloc_new _ _, by rw [hβ]; simpa using hsz, fun i hi => ?_⟩⟩
    obtain ⟨ds, k1, k2, k3⟩ := hx i hi
    exact ⟨ds, k1, fun j hj => by rw [hβ]; simpa using k2 j hj, he.rep k3⟩
  · have := SRep.own (c := c') (t := t) (id := id0) (nw := nw) (xs := xs) (.inr rfl) (up_same _ _ _)
    rw [hβ] at this
    exact .one (t := .slice t) this
theorem repl_get (z : List Value) : ∀ (m i : Nat), (repl m z)[i]? = if i < m * z.length then z[i % z.length]? else none
  | 0, i => by simp [repl]
  | m + 1, i => by
    simp only [repl]
    by_cases h : i < z.length
    · rw [List.getElem?_append_left h, if_pos (by rw [Nat.succ_mul]; omega), Nat.mod_eq_of_lt h]
    · rw [List.getElem?_append_right (by omega), repl_get z m]
      have h2 : (i - z.length) % z.length = i % z.length := by
        conv => rhs; rw [← Nat.sub_add_cancel (show z.length ≤ i by omega), Nat.add_mod_right]
      rw [h2]
      by_cases h3 : i < (m + 1) * z.length
      · rw [if_pos h3, if_pos (by rw [Nat.succ_mul] at h3; omega)]
      · rw [if_neg h3, if_neg (by rw [Nat.succ_mul] at h3; omega)]
theorem range_repl (z : Array Value) (m : Nat) : ((Array.range (m * z.size)).map fun i => z[i % z.size]!).toList = repl m z.toList := by
  apply List.ext_getElem?
  intro i
  rw [repl_get]
  simp only [Array.toList_map, Array.toList_range, List.getElem?_map, Array.length_toList]
  by_cases h : i < m * z.size
  · rw [if_pos h, List.getElem?_range h]
    have hz : 0 < z.size := by
      rcases Nat.eq_zero_or_pos z.size with e | e
      · rw [e] at h; omega
      · exact e
    have := Nat.mod_lt i hz
    simp [this]
  · rw [if_neg h, List.getElem?_eq_none (by simp; omega)]; rfl
theorem repl_len (z : List Value) : ∀ m, (repl m z).length = m * z.length
  | 0 => by simp [repl]
  | m + 1 => by simp [repl, repl_len z m, Nat.succ_mul]; omega
theorem buildSlice_ok (hE : ∀ t ty, tf t = some ty → TyOk P tf t ty) (h : RelC c s.n s.sl w0 Jo a) (hob : c.ob = s.ob) {id0 : Nat} (hid : ¬ c.A id0) {t len : Nat} {e : Ty} (ht : tf t = some (.slice e)) {parts : Array (Nat × Operand)} {nw : Bool} {l : List (Val e)}
    (hp : (e.pure && Nat.ble (len * e.size) 1000000) = true) (hb : buildList s e true (List.replicate len (dflt e)) parts.toList = some (nw, l)) (hlen : len ≤ lim) :
    ∃ c' v, (Instr.buildSlice t len (parts.map fun (i, x) => (i, a.eval x))).run P c.w = .ok v c'.w ∧ c'.ob = up c.ob id0 (.slc nw e l) ∧ RelC c' s.n s.sl w0 Jo a ∧ (∀ i, c'.A i → c.A i ∨ i = id0) ∧ SRepV c' (.own e id0) v := by
  simp only [Bool.and_eq_true] at hp
  obtain ⟨hpu, hle⟩ := hp
  have hle := Nat.le_of_ble_eq_true hle
  obtain ⟨el, hu, hel⟩ := (hE _ _ ht).und_slice
  have he := hE _ _ hel
  have hmap : (parts.map fun (i, x) => (i, a.eval x)).toList = parts.toList.map fun x => (x.1, a.eval x.2) := by simp
  have hz := zero_rep (w := c.w) (F := c.Fn true) (t := .arr len e) (by exact hpu)
  have hz1 := zero_rep (w := c.w) (F := c.Fn true) (t := e) hpu
  have hcells : (Array.range (len * e.size)).map (fun i => (if len * e.size = 0 then #[] else (zcells e).toArray : Array Value)[i % (if len * e.size = 0 then #[] else (zcells e).toArray : Array Value).size]!) = (zcells (.arr len e)).toArray := by
    apply Array.ext'
    by_cases h0 : len * e.size = 0
    · rw [h0]
      have : (repl len (zcells e)).length = 0 := by rw [repl_len, hz1.len]; exact h0
      simp [zcells, List.eq_nil_of_length_eq_zero this]
    · rw [if_neg h0]
      have := range_repl (zcells e).toArray len
      simp only [List.size_toArray, hz1.len] at this
      simp only [List.size_toArray, hz1.len]
      rw [this]; simp [zcells]
  obtain ⟨cells', h1, h2⟩ := buildList_ok h hob parts.toList true _ len (zcells (.arr len e)).toArray nw l hb (by simpa [dflt] using hz)
  have hll : l.length = len := h2.1
  have hm : lim ≤ maxLen := by decide
  obtain ⟨c', k1, k2, k3, k4, k5, _⟩ := newSlc h hid (nw := nw) (t := e) (xs := l) (arr := cells') el (cap := len) (by omega) (by omega) (by have := h2.2.1; simp at this; omega) (fun i hi => by
    have := h2.2.2 i (by omega)
    refine ⟨_, this.len, fun j hj => ?_, this⟩
    rw [chunk_get, if_pos hj, Array.getElem?_toList])
  refine ⟨c', _, ?_, k2, k3, k4, k5⟩
  rw [k1, hll]
  simp only [Instr.buildSlice, Sem.run_bind, run_underlying hu, Result.andThen_ok, he.run_sizeOf]
  rw [if_neg (by omega)]
  by_cases h0 : len * e.size = 0
  · rw [if_pos h0]
    simp only [if_pos h0] at hcells
    simp only [Sem.run_bind, Sem.run_pure, Result.andThen_ok]
    rw [hcells, hmap, h1]
    simp only [newRow, Sem.run_bind, run_newObj, Result.andThen_ok, Sem.run_pure]
    rfl
  · rw [if_neg h0]
    simp only [if_neg h0] at hcells
    simp only [Sem.run_bind, Sem.run_pure, Result.andThen_ok, he.run_zero, pack_cells hz1.len hz1.one]
    rw [hcells, hmap, h1]
    simp only [newRow, Sem.run_bind, run_newObj, Result.andThen_ok, Sem.run_pure]
    rfl
end
end Go.Sx
