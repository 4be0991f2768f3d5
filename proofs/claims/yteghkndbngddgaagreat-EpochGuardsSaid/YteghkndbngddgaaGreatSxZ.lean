/- The symbolic executor's meaning: maps. -/
import Derived.Test.YteghkndbngddgaaGreatSxS
import Derived.MapKept
import Derived.IntWalk
set_option linter.unusedVariables false
namespace Go.Sx
open Go.RowKit Go.MapKept
section
variable {c : Cx} {n : Nat} {sl : Nat → SV} {w0 : World} {Jo : Io} {a : Act} {P : Program}
theorem int_key {k : IntKind} {m : Int} : IsKey (.int k) (.int k m) := by simp [IsKey]
def Ents (k : IntKind) {α : Type} (l : List MapEntry) (es : List (Int × α)) : Prop := l.length = es.length ∧ ∀ (i : Nat) (x : Int × α), es[i]? = some x → ∃ e : MapEntry, l[i]? = some e ∧ e.key = .int k x.1
theorem Ents.tail {k : IntKind} {α : Type} {e : MapEntry} {l : List MapEntry} {x : Int × α} {es : List (Int × α)} (h : Ents k (e :: l) (x :: es)) : e.key = .int k x.1 ∧ Ents k l es := by
  obtain ⟨h1, h2⟩ := h
  refine ⟨?_, by simpa using h1, fun i y hy => ?_⟩
  · obtain ⟨e', he, hk⟩ := h2 0 x rfl
    simp at he; subst he; exact hk
  · obtain ⟨e', he, hk⟩ := h2 (i + 1) y (by simpa using hy)
    exact ⟨e', by simpa using he, hk⟩
theorem find_ents {k : IntKind} {α : Type} (m : Int) (v : α) : ∀ (l : List MapEntry) (es : List (Int × α)) (i : Nat), Ents k l es →
    (∃ (j : Nat) (x : α) (e : MapEntry), es[j]? = some (m, x) ∧ l[j]? = some e ∧ e.key = .int k m ∧ Instr.findNow (.int k) (.int k m) l i = some (some (i + j, e.val)) ∧ lookV es m = some x ∧ upsV es m v = es.set j (m, v)) ∨
    (Instr.findNow (.int k) (.int k m) l i = some none ∧ lookV es m = none ∧ upsV es m v = es ++ [(m, v)])
  | [], [], i, _ => .inr ⟨rfl, rfl, rfl⟩
  | [], _ :: _, i, h => by have := h.1; simp at this
  | _ :: _, [], i, h => by have := h.1; simp at this
  | e :: l, (q, x) :: es, i, h => by
    obtain ⟨hk, ht⟩ := h.tail
    by_cases hq : m = q
    · subst hq
      refine .inl ⟨0, x, e, rfl, rfl, hk, ?_, ?_, ?_⟩
      · simp [Instr.findNow, hk, Instr.sameNow]
      · simp [lookV]
      · simp [upsV]
    · have hs : Instr.findNow (.int k) (.int k m) (e :: l) i = Instr.findNow (.int k) (.int k m) l (i + 1) := by
        have : (m == q) = false := by simpa using hq
        simp [Instr.findNow, hk, Instr.sameNow, this]
      have hl : lookV ((q, x) :: es) m = lookV es m := by simp [lookV, hq]
      have hu : upsV ((q, x) :: es) m v = (q, x) :: upsV es m v := by simp [upsV, hq]
      rw [hs, hl, hu]
      rcases find_ents m v l es (i + 1) ht with ⟨j, y, e', h1, h2, h3, h4, h5, h6⟩ | ⟨h1, h2, h3⟩
      · refine .inl ⟨j + 1, y, e', by simpa using h1, by simpa using h2, h3, by rw [h4]; congr 3; omega, h5, by rw [h6]; rfl⟩
      · exact .inr ⟨h1, h2, by rw [h3]; rfl⟩
theorem ok_ents {id : Nat} {k : IntKind} {nw : Bool} {t : Ty} {es : List (Int × Val t)} (h : OK c id (.map k nw t es)) : ∃ arr : Array MapEntry, c.w.heap[(c.β id).blk]? = some (.map arr arr.size) ∧ Ents k arr.toList es ∧
    ∀ (i : Nat) (x : Int × Val t), es[i]? = some x → ∃ (e : MapEntry) (cs : List Value), arr.toList[i]? = some e ∧ e.val = pack t cs ∧ Rep c.w (c.Fn nw) t x.2 cs := by
  obtain ⟨_, arr, h2, h3, h4⟩ := h
  refine ⟨arr, h2, ⟨by simpa using h3, fun i x hx => ?_⟩, fun i x hx => ?_⟩
  · obtain ⟨e, cs, k1, k2, _⟩ := h4 i x hx
    exact ⟨e, by simpa using k1, k2⟩
  · obtain ⟨e, cs, k1, k2, _, _, _, k6, k7⟩ := h4 i x hx
    exact ⟨e, cs, by simpa using k1, k6, k7⟩
theorem mp_inv {id : Nat} {v : Value} {k : IntKind} {nw : Bool} {t : Ty} {es : List (Int × Val t)} (h : SRepV c (.mp id) v) (hid : c.ob id = .map k nw t es) : v = .map (some (c.β id).blk) ∧ c.A id := by
  cases h with
  | one h =>
    cases h with
    | mpGone _ hg => rw [hg] at hid; cases hid
    | mp hA hg => exact ⟨rfl, hA⟩
theorem lookS_ok {tf : Nat → Option Ty} (hE : ∀ t ty, tf t = some ty → TyOk P tf t ty) (hobs : ∀ id, OK c id (c.ob id)) {t e : Nat} {k : IntKind} {ty : Ty} (hm : MtOk P tf t k e ty) {m : Int} {sx r1 r2 : SV} {vx : Value} (hx : SRepV c sx vx)
    (hs : (lookS c.ob k ty m sx).val = some (r1, r2)) (cok : Bool) : ∃ v1 b, (Instr.lookup t vx (.int k m) cok).run P c.w = .ok (if cok then .tuple #[v1, .bool b] else v1) c.w ∧ SRepV c r1 v1 ∧ SRepV c r2 (.bool b) := by
  obtain ⟨⟨kt, hu, hk⟩, he⟩ := hm
  unfold lookS at hs
  split at hs
  · rename_i id
    split at hs
    · rename_i j nw u es hid
      split at hs
      · rename_i h1 h2 hp
        have h1 := ikEq_eq h1
        have h2 := tyEq_eq h2
        subst h1 h2
        simp only [PR.val, Option.some.injEq, Prod.mk.injEq] at hs
        obtain ⟨rfl, rfl⟩ := hs
        obtain ⟨rfl, hA⟩ := mp_inv hx hid
        have hok := hobs id
        rw [hid] at hok
        obtain ⟨arr, hb, hents, hval⟩ := ok_ents hok
        rcases find_ents m (dflt u) arr.toList es 0 hents with ⟨q, x, en, k1, k2, k3, k4, k5, _⟩ | ⟨k1, k2, _⟩
        · obtain ⟨en', cs, l1, l2, l3⟩ := hval q _ k1
          rw [k2] at l1; cases l1
          refine ⟨en.val, true, ?_, ?_, ?_⟩
          · simp only [Instr.lookup, Sem.run_bind, run_underlying hu, Result.andThen_ok, Go.MapKept.run_getObj_map hb, Sem.run_pure, run_checkKey hk (int_key (k := j) (m := m)) _ 9999, run_findKey hk k4]
          · rw [k5, l2]; exact .one (.dat l3)
          · rw [k5]; exact .one (t := .bool) (.dat rfl)
        · refine ⟨pack u (zcells u), false, ?_, ?_, ?_⟩
          · simp only [Instr.lookup, Sem.run_bind, run_underlying hu, Result.andThen_ok, Go.MapKept.run_getObj_map hb, Sem.run_pure, run_checkKey hk (int_key (k := j) (m := m)) _ 9999, run_findKey hk k1, (hE _ _ he).run_zero]
          · rw [k2]; exact .one (.dat (zero_rep hp))
          · rw [k2]; exact .one (t := .bool) (.dat rfl)
      · cases hs
    · cases hs
  · split at hs
    · rename_i hp
      simp only [PR.val, Option.some.injEq, Prod.mk.injEq] at hs
      obtain ⟨rfl, rfl⟩ := hs
      have hv : vx = .map none := by
        cases hx with
        | one hx => cases hx with | zmap => rfl
      subst hv
      refine ⟨pack ty (zcells ty), false, ?_, .one (.dat (zero_rep hp)), .one (t := .bool) (.dat rfl)⟩
      have hf : Instr.findNow (.int k) (.int k m) [] 0 = some none := rfl
      simp only [Instr.lookup, Sem.run_bind, run_underlying hu, Result.andThen_ok, Sem.run_pure, run_checkKey hk (int_key (k := k) (m := m)) _ 9999, run_findKey hk hf, (hE _ _ he).run_zero]
    · cases hs
  · cases hs
theorem makeMap_ok (h : RelC c n sl w0 Jo a) {id0 : Nat} (hid0 : ¬ c.A id0) (t : Nat) (k : IntKind) (ty : Ty) :
    ∃ c' v, (Instr.makeMap t none).run P c.w = .ok v c'.w ∧ c'.ob = up c.ob id0 (.map k true ty []) ∧ RelC c' n sl w0 Jo a ∧ (∀ i, c'.A i → c.A i ∨ i = id0) ∧ SRepV c' (.mp id0) v := by
  let c' : Cx := { w := c.w.alloc (.map #[] 0), F := c.F, B := c.B, A := fun i => c.A i ∨ i = id0, β := up c.β id0 ⟨c.w.heap.size, 0, 0, false⟩, ob := up c.ob id0 (.map k true ty []) }
  have hob : c'.ob id0 = .map k true ty [] := up_same _ _ _
  have hβ : c'.β id0 = ⟨c.w.heap.size, 0, 0, false⟩ := up_same _ _ _
  refine ⟨c', .map (some c.w.heap.size), by simp [Instr.makeMap, newObj, c']; rfl, rfl, h.alloc hid0 (.map #[] 0) ⟨c.w.heap.size, 0, 0, false⟩ rfl (.map k true ty []) c' rfl (fun _ => ?_), fun i hi => hi, ?_⟩
  · refine ⟨by rw [hβ], #[], ?_, rfl, fun i x hx => by simp at hx⟩
    rw [hβ]
    exact (heap_alloc c.w _).1
  · have := SRep.mp (c := c') (id := id0) (.inr rfl) hob
    rw [hβ] at this
    exact .one (t := .cell .map) this
theorem updS_ok {tf : Nat → Option Ty} (h : RelC c n sl w0 Jo a) {t e : Nat} {k : IntKind} {ty : Ty} (hm : MtOk P tf t k e ty) {m : Int} (hr : k.min ≤ m ∧ m ≤ k.max) {sx sv : SV} {vx vv : Value} (hx : SRepV c sx vx) (hv : SRepV c sv vv) {id : Nat} {o : Obj}
    (hs : (updS c.ob k ty m sv sx).val = some (id, o)) : ∃ c', (Instr.mapUpdate t vx (.int k m) vv).run P c.w = .ok () c'.w ∧ c'.ob = up c.ob id o ∧ RelC c' n sl w0 Jo a ∧ ∀ i, c'.A i → c.A i := by
  obtain ⟨⟨kt, hu, hk⟩, he⟩ := hm
  unfold updS at hs
  split at hs
  · rename_i id'
    split at hs
    · rename_i j nw u es hid
      split at hs
      · rename_i mw v h1 h2 h3 h4
        have h1 := ikEq_eq h1
        have h2 := tyEq_eq h2
        subst h1 h2
        simp only [PR.val, Option.some.injEq, Prod.mk.injEq] at hs
        obtain ⟨rfl, rfl⟩ := hs
        obtain ⟨rfl, hA⟩ := mp_inv hx hid
        obtain ⟨cs, rfl, hrv⟩ := toV_val h.objs hv h3
        rw [h4] at hrv
        have hrv : Rep c.w (c.Fn mw) u v cs := hrv.mono (fun _ hb => Cx.G_nil hb) (fun _ _ => rfl)
        have hrv := hrv.liftn
        clear h3
        generalize (mw || !u.heapy) = mw at hrv
        have hok := h.objs id'
        rw [hid] at hok
        obtain ⟨arr, hb, hents, hval⟩ := ok_ents hok
        obtain ⟨hn, arr', hb', hsz, hall⟩ := hok
        rw [hb] at hb'
        simp only [Option.some.injEq, Go.Obj.map.injEq] at hb'
        obtain ⟨rfl, _⟩ := hb'
        have wk1 : ∀ {x : Val u} {ds : List Value}, Rep c.w (c.Fn nw) u x ds → Rep c.w (c.Fn (nw && mw)) u x ds := fun hh => hh.wk (by simp; intro x _; exact x)
        have wk2 : Rep c.w (c.Fn (nw && mw)) u v cs := hrv.wk (by simp)
        have live : Live c id' := ⟨by rw [hid]; simp, hn⟩
        rcases find_ents m v arr.toList es 0 hents with ⟨q, x, en, k1, k2, k3, k4, _, k6⟩ | ⟨k1, _, k3⟩
        · have k2 : arr[q]? = some en := by simpa using k2
          let w' : World := { c.w with heap := c.w.heap.setIfInBounds (c.β id').blk (.map (arr.modify q fun e => { e with key := .int j m, val := pack u cs }) arr.size) }
          let c' : Cx := { c with w := w', ob := up c.ob id' (.map j (nw && mw) u (upsV es m v)) }
          refine ⟨c', ?_, rfl, h.modify hA live w' _ (by rw [hid]; exact ⟨rfl, rfl⟩) (fun hm => by cases hm) (by simp [w']) (fun b hb2 => (heap_set hb).2 b hb2) rfl rfl rfl c' rfl (fun hext => ?_), fun i hi => hi⟩
          · simp only [Nat.zero_add] at k4
            simp only [Instr.mapUpdate, Sem.run_bind, run_underlying hu, Result.andThen_ok, Go.MapKept.run_getObj_map hb, run_checkKey hk (int_key (k := j) (m := m)) _ 9999, run_findKey hk k4, k2, Option.map_some, Option.getD_some, k3, run_keyThatStays (int_key (k := j) (m := m)), Go.MapKept.run_setObj_map _ hb]
            rfl
          · refine ⟨hn, arr.modify q fun e => { e with key := .int j m, val := pack u cs }, ?_, by rw [k6]; simpa using hsz, fun i y hy => ?_⟩
            · rw [Array.size_modify]; exact (heap_set hb).1
            · rw [k6] at hy
              by_cases hiq : i = q
              · subst hiq
                have hlt : i < es.length := (List.getElem?_eq_some_iff.1 k1).1
                rw [List.getElem?_set_self hlt] at hy
                cases hy
                obtain ⟨e0, cs0, a1, a2, a3, a4, a5, a6, a7⟩ := hall i _ k1
                rw [k2] at a1; cases a1
                refine ⟨{ en with key := .int j m, val := pack u cs }, cs, by rw [Array.getElem?_modify, if_pos rfl, k2]; rfl, rfl, a3, hr.1, hr.2, rfl, hext.rep wk2⟩
              · rw [List.getElem?_set_ne (fun e => hiq e.symm)] at hy
                obtain ⟨e0, cs0, a1, a2, a3, a4, a5, a6, a7⟩ := hall i y hy
                refine ⟨e0, cs0, by rw [Array.getElem?_modify, if_neg (fun e => hiq e.symm)]; exact a1, a2, a3, a4, a5, a6, hext.rep (wk1 a7)⟩
        · let w' : World := { c.w with heap := c.w.heap.setIfInBounds (c.β id').blk (.map (arr.push { key := .int j m, val := pack u cs, born := arr.size }) (arr.size + 1)) }
          let c' : Cx := { c with w := w', ob := up c.ob id' (.map j (nw && mw) u (upsV es m v)) }
          refine ⟨c', ?_, rfl, h.modify hA live w' _ (by rw [hid]; exact ⟨rfl, rfl⟩) (fun hm => by cases hm) (by simp [w']) (fun b hb2 => (heap_set hb).2 b hb2) rfl rfl rfl c' rfl (fun hext => ?_), fun i hi => hi⟩
          · simp only [Instr.mapUpdate, Sem.run_bind, run_underlying hu, Result.andThen_ok, Go.MapKept.run_getObj_map hb, run_checkKey hk (int_key (k := j) (m := m)) _ 9999, run_findKey hk k1, Go.MapKept.run_setObj_map _ hb]
            rfl
          · refine ⟨hn, arr.push { key := .int j m, val := pack u cs, born := arr.size }, ?_, by rw [k3]; simp [hsz], fun i y hy => ?_⟩
            · rw [Array.size_push]; exact (heap_set hb).1
            · rw [k3] at hy
              by_cases hiq : i < es.length
              · rw [List.getElem?_append_left hiq] at hy
                obtain ⟨e0, cs0, a1, a2, a3, a4, a5, a6, a7⟩ := hall i y hy
                refine ⟨e0, cs0, by rw [Array.getElem?_push, if_neg (by omega)]; exact a1, a2, a3, a4, a5, a6, hext.rep (wk1 a7)⟩
              · rw [List.getElem?_append_right (by omega)] at hy
                have hi0 : i - es.length = 0 := by
                  by_cases e0 : i - es.length = 0
                  · exact e0
                  · rw [List.getElem?_eq_none (by simp; omega)] at hy; cases hy
                rw [hi0] at hy
                simp at hy
                subst hy
                have : i = arr.size := by omega
                subst this
                exact ⟨_, cs, by rw [Array.getElem?_push, if_pos rfl], rfl, rfl, hr.1, hr.2, rfl, hext.rep wk2⟩
      · cases hs
    · cases hs
  · cases hs
theorem rangeS_ok (h : RelC c n sl w0 Jo a) {tf : Nat → Option Ty} {id0 : Nat} (hid0 : ¬ c.A id0) {t e : Nat} {k : IntKind} {ty : Ty} (hm : MtOk P tf t k e ty) {sx : SV} {vx : Value} (hx : SRepV c sx vx) {r : SV × List (Nat × Obj)}
    (hs : (rangeS c.ob id0 sx).val = some r) : ∃ c' v, (Instr.range t vx).run P c.w = .ok v c'.w ∧ c'.ob = ups c.ob r.2 ∧ RelC c' n sl w0 Jo a ∧ (∀ i, c'.A i → c.A i ∨ i = id0) ∧ SRepV c' r.1 v := by
  obtain ⟨⟨kt, hu, hk⟩, he⟩ := hm
  unfold rangeS at hs
  split at hs
  · rename_i id
    split at hs
    · rename_i j nw u es hid
      simp only [PR.val, Option.some.injEq] at hs
      subst hs
      obtain ⟨rfl, hA⟩ := mp_inv hx hid
      have hok := h.objs id
      rw [hid] at hok
      obtain ⟨hn, arr, hb, hsz, _⟩ := hok
      have hne : id ≠ id0 := fun e => hid0 (e ▸ hA)
      let o : Go.Obj := .mapIter (some (c.β id).blk) arr.size #[] arr.size
      let c' : Cx := { w := c.w.alloc o, F := c.F, B := c.B, A := fun i => c.A i ∨ i = id0, β := up c.β id0 ⟨c.w.heap.size, 0, 0, false⟩, ob := up c.ob id0 (.itr id es.length []) }
      have hob : c'.ob id0 = .itr id es.length [] := up_same _ _ _
      have hβ : c'.β id0 = ⟨c.w.heap.size, 0, 0, false⟩ := up_same _ _ _
      refine ⟨c', .pointer (some ⟨c.w.heap.size, 0, none⟩), ?_, rfl, h.alloc hid0 o ⟨c.w.heap.size, 0, 0, false⟩ rfl (.itr id es.length []) c' rfl (fun _ => ?_), fun i hi => hi, ?_⟩
      · simp only [Instr.range, Sem.run_bind, run_underlying hu, Result.andThen_ok, Go.MapKept.run_getObj_map hb, Sem.run_pure]
        simp [newObj, c', o]
        rfl
      · refine ⟨by rw [hβ], .inl hA, .inr ?_⟩
        rw [hβ]
        have : c'.β id = c.β id := up_ne _ _ hne
        rw [this]
        refine (heap_alloc c.w o).1.trans ?_
        simp [o, hsz]
      · have := SRepV.it (c := c') (id := id0) (.inr rfl) hob
        rw [hβ] at this
        exact this
    · cases hs
  · cases hs
theorem find_born {arr : Array MapEntry} (hb : ∀ (i : Nat) (e : MapEntry), arr[i]? = some e → e.born = i) (q : Nat) : arr.find? (·.born == q) = arr[q]? := by
  cases hq : arr[q]? with
  | none =>
    rw [Array.find?_eq_none]
    intro e he
    obtain ⟨i, hi, rfl⟩ := Array.mem_iff_getElem.1 he
    have := hb i arr[i] (by rw [Array.getElem?_eq_getElem hi])
    rw [Array.getElem?_eq_none_iff] at hq
    simp only [beq_iff_eq, this]
    omega
  | some x =>
    rw [Array.find?_eq_some_iff_getElem]
    have hx := hb q x hq
    obtain ⟨hlt, rfl⟩ := Array.getElem?_eq_some_iff.1 hq
    refine ⟨by simp [hx], q, hlt, rfl, fun j hj => ?_⟩
    have hjl : j < arr.size := Nat.lt_trans hj hlt
    have := hb j arr[j] (by rw [Array.getElem?_eq_getElem hjl])
    simp only [this, Bool.not_eq_eq_eq_not, Bool.not_true, beq_eq_false_iff_ne, ne_eq]
    omega
theorem entryS_ok (hobs : ∀ id, OK c id (c.ob id)) {sx r : SV} {vx : Value} (hx : SRepV c sx vx) (hs : (entryS c.ob sx).val = some r) : ∃ v, (Instr.entry vx).run P c.w = .ok v c.w ∧ SRepV c r v := by
  unfold entryS at hs
  split at hs
  · rename_i id
    split at hs
    · rename_i m n' i seen hid
      split at hs
      · rename_i k nw t es hm
        obtain ⟨hc, hs⟩ := chk_some hs
        have hc : n' = es.length := of_decide_eq_true hc
        simp only [PR.val] at hs
        obtain ⟨x, hx1, hs⟩ := bind_some hs
        cases hs
        have hok := hobs id
        rw [hid] at hok
        obtain ⟨h1, h2, h3⟩ := hok
        rcases h3 with h3 | h3
        · rw [hm] at h3; cases h3
        have hok := hobs m
        rw [hm] at hok
        obtain ⟨_, arr, hb, hsz, hall⟩ := hok
        have hv : vx = .pointer (some ⟨(c.β id).blk, 0, none⟩) := by
          cases hx with
          | one hx => cases hx
          | itGone _ hg => rw [hid] at hg; cases hg
          | it => rfl
        subst hv
        obtain ⟨e, cs, k1, k2, k3, k4, k5, k6, k7⟩ := hall _ x hx1
        refine ⟨.tuple #[.int k x.1, pack t cs], ?_, .tup (vs := [.int k x.1, pack t cs]) (.cons (.mkInt ⟨k4, k5⟩) (.cons (.one (.dat k7)) .nil))⟩
        have hborn : ∀ (i : Nat) (e : MapEntry), arr[i]? = some e → e.born = i := fun j e' hj => by
          have hlt : j < es.length := by
            have := (Array.getElem?_eq_some_iff.1 hj).1
            omega
          obtain ⟨e0, _, q1, _, q3, _⟩ := hall j es[j] (List.getElem?_eq_getElem hlt)
          rw [hj] at q1; cases q1; exact q3
        have hback : ((i :: seen).map Int.toNat).reverse.toArray.back? = some i.toNat := by simp
        have hclock : (arr.size != n'.toNat) = false := by simp [hc, hsz]
        have hg : (getObj (c.β id).blk).run P c.w = .ok (.mapIter (some (c.β m).blk) n'.toNat ((i :: seen).map Int.toNat).reverse.toArray n'.toNat) c.w := by simp [getObj, Sem.run, h3]
        simp only [Instr.entry, Sem.run_bind, hg, Result.andThen_ok, hback, Go.MapKept.run_getObj_map hb, hclock, find_born hborn, k1, k2, k6]
        rfl
      · cases hs
    · cases hs
  · cases hs
theorem wrap_small {x : Int} (h : 0 ≤ x) (h2 : x ≤ lim) : IntKind.i64.wrap x = x := by
  have : lim = 2147483648 := rfl
  exact IntWalk.i64_in x ⟨by omega, by omega⟩
theorem makeSlice_ok {tf : Nat → Option Ty} (hE : ∀ t ty, tf t = some ty → TyOk P tf t ty) (h : RelC c n sl w0 Jo a) {id0 : Nat} (hid : ¬ c.A id0) {t : Nat} {e : Ty} (ht : tf t = some (.slice e)) (hpu : e.pure = true) {j k : IntKind} {n' m : Int}
    (h0 : 0 ≤ n') (h1 : n' ≤ m) (h2 : m ≤ lim) : ∃ c' v, (Instr.makeSlice t (.int j n') (.int k m)).run P c.w = .ok v c'.w ∧ c'.ob = up c.ob id0 (.slc true e (List.replicate n'.toNat (dflt e))) ∧ RelC c' n sl w0 Jo a ∧ (∀ i, c'.A i → c.A i ∨ i = id0) ∧ SRepV c' (.own e id0) v := by
  obtain ⟨el, hu, hel⟩ := (hE _ _ ht).und_slice
  have he := hE _ _ hel
  have hlim : lim = 2147483648 := rfl
  have hm : lim ≤ maxLen := by decide
  have hz1 := zero_rep (w := c.w) (F := c.Fn true) (t := e) hpu
  obtain ⟨N, rfl⟩ : ∃ N : Nat, n' = N := ⟨n'.toNat, by omega⟩
  obtain ⟨M, rfl⟩ : ∃ M : Nat, m = M := ⟨m.toNat, by omega⟩
  have hNM : N ≤ M := by omega
  have hM : M ≤ lim := by omega
  obtain ⟨c', k1, k2, k3, k4, k5, _⟩ := newSlc h hid (nw := true) (t := e) (xs := List.replicate N (dflt e)) (arr := (repl M (zcells e)).toArray) el (cap := M) (by simp; omega) (by simp; omega) (by simp [repl_len, hz1.len]) (fun i hi => by
    simp only [List.length_replicate] at hi
    refine ⟨zcells e, hz1.len, fun q hq => ?_, ?_⟩
    · simp only [List.getElem?_toArray, repl_get, hz1.len]
      have hb : i * e.size + q < M * e.size := Nat.lt_of_lt_of_le (by rw [Nat.succ_mul]; omega : i * e.size + q < (i + 1) * e.size) (Nat.mul_le_mul_right _ (by omega))
      rw [if_pos hb, Nat.mul_comm, Nat.mul_add_mod, Nat.mod_eq_of_lt hq]
    · have : (List.replicate N (dflt e)).getD i (dflt e) = dflt e := by simp [List.getD, hi]
      rw [this]; exact hz1)
  obtain ⟨i, hi, hib⟩ := he.run_bytes (w := c.w)
  refine ⟨c', _, ?_, k2, k3, k4, k5⟩
  rw [k1]
  simp only [List.length_replicate]
  have w1 : IntKind.i64.wrap (N : Int) = N := wrap_small (by omega) (by omega)
  have w2 : IntKind.i64.wrap (M : Int) = M := wrap_small (by omega) (by omega)
  have hbm : M * i.bytes ≤ 70368744177664 := by
    have : M * i.bytes ≤ 2147483648 * 32768 := Nat.mul_le_mul (by omega) hib
    omega
  have hbn : N * i.bytes ≤ 70368744177664 := Nat.le_trans (Nat.mul_le_mul_right _ hNM) hbm
  have t1 : (decide ((M : Int) < 0) || decide ((i.bytes : Int) * (M : Int) > 2 ^ 48)) = false := by
    have : ((i.bytes : Int) * (M : Int)) = ((M * i.bytes : Nat) : Int) := by rw [Nat.mul_comm]; simp
    rw [this]
    simp only [Bool.or_eq_false_iff, decide_eq_false_iff_not]
    omega
  have hroom : ¬ roomBytes < M * i.bytes := by
    have : roomBytes = 140737488355328 := by decide
    omega
  simp only [Instr.makeSlice, Sem.run_bind, run_underlying hu, Result.andThen_ok, asInt, asIntOf, Sem.run_pure, hi, w1, w2, t1, Int.toNat_natCast]
  have e1 : (false || decide ((N : Int) < 0) || decide ((N : Int) > (M : Int))) = false := by
    simp only [Bool.false_or, Bool.or_eq_false_iff, decide_eq_false_iff_not]
    omega
  simp only [e1, Bool.false_eq_true, if_false, askRoom]
  rw [if_neg hroom]
  simp only [Sem.run_bind, Sem.run_pure, Result.andThen_ok, he.run_sizeOf]
  have hcells : (Array.range (M * e.size)).map (fun i => (zcells e).toArray[i % (zcells e).toArray.size]!) = (repl M (zcells e)).toArray := by
    apply Array.ext'
    have := range_repl (zcells e).toArray M
    simp only [List.size_toArray, hz1.len] at this ⊢
    rw [this]
  by_cases hn0 : M * e.size = 0
  · rw [if_pos hn0]
    simp only [Sem.run_pure, Result.andThen_ok, newRow, Sem.run_bind, run_newObj]
    have : (repl M (zcells e)) = [] := List.eq_nil_of_length_eq_zero (by rw [repl_len, hz1.len]; exact hn0)
    simp only [hn0, this]
    have e0 : ∀ f : Nat → Value, (Array.range 0).map f = #[] := fun f => by simp
    rw [e0]
    rfl
  · rw [if_neg hn0]
    simp only [Sem.run_bind, Sem.run_pure, Result.andThen_ok, he.run_zero, pack_cells hz1.len hz1.one, newRow, run_newObj, hcells]
    rfl
theorem run_appendZ {tf : Nat → Option Ty} (hE : ∀ t ty, tf t = some ty → TyOk P tf t ty) {t t2 rt : Nat} {e : Ty} {k j : IntKind} (ht : tf t = some (.slice e)) (ht2 : tf t2 = some (.int k)) (hpu : e.pure = true) {m : Nat} (hm : 0 < m) (hlim : m ≤ lim) :
    ∃ (el newCap : Nat), m ≤ newCap ∧ (Builtin.append_ #[t, t2] rt #[.slice none 0 0, .int j m]).run P c.w = .ok (.slice (some ⟨c.w.heap.size, 0, none⟩) m newCap) (c.w.drew.alloc (.cells (Builtin.zeroCells (zcells e).toArray m ++ Builtin.zeroCells (zcells e).toArray (newCap - m)) el)) := by
  obtain ⟨el, hu, hel⟩ := (hE _ _ ht).und_slice
  have hu2 : ∃ k', P.underlying t2 = some (.int k') := by
    obtain ⟨d, hu, hd⟩ := (hE _ _ ht2).und
    cases d <;> simp [descB] at hd
    exact ⟨_, hu⟩
  obtain ⟨k', hu2⟩ := hu2
  have he := hE _ _ hel
  obtain ⟨i, hi, hib⟩ := he.run_bytes (w := c.w)
  have hinfo : P.info? el = some i := by
    obtain ⟨j, hj, _⟩ := he.info
    simp [typeInfo, hj] at hi
    rw [hj, hi]
  have hti : ∀ w', (typeInfo el).run P w' = .ok i w' := fun w' => by simp [typeInfo, hinfo]
  have hz := zero_rep (w := c.w) (F := c.Fn true) (t := e) hpu
  have hl : lim = 2147483648 := rfl
  obtain ⟨newCap, hnc⟩ : ∃ q, q = (Question.appendCap m 0 el).cut (c.w.tape c.w.drawn (Question.appendCap m 0 el)) := ⟨_, rfl⟩
  have hge : m ≤ newCap := by
    rw [hnc]
    simp only [Question.cut]
    omega
  have hb : m * i.bytes ≤ 70368744177664 := by
    have : m * i.bytes ≤ 2147483648 * 32768 := Nat.mul_le_mul (by omega) hib
    omega
  have hw : IntKind.i64.wrap (m : Int) = m := wrap_small (by omega) (by omega)
  have hbi : ¬ ((m : Int) * (i.bytes : Int) > 2 ^ 48) := by
    have : ((m : Int) * (i.bytes : Int)) = ((m * i.bytes : Nat) : Int) := by simp
    rw [this]; omega
  have hnx : Builtin.nextslicecap m 0 = m := by simp [Builtin.nextslicecap]; omega
  have hz0 : ∀ w', (if m * e.size = 0 then pure #[] else do pure (Builtin.zeroCells (← zeroValue el).cells m) : Sem (Array Value)).run P w' = .ok (Builtin.zeroCells (zcells e).toArray m) w' := by
    intro w'
    by_cases h0 : m * e.size = 0
    · rw [if_pos h0]
      have : Builtin.zeroCells (zcells e).toArray m = #[] := Array.eq_empty_of_size_eq_zero (by rw [zero_cells (k := e.size) (by simp [hz.len])]; exact h0)
      rw [this]; rfl
    · rw [if_neg h0]
      simp only [Sem.run_bind, he.run_zero, Result.andThen_ok, pack_cells hz.len hz.one, Sem.run_pure]
  refine ⟨el, newCap, hge, ?_⟩
  have c1 : ¬ (m ≤ 0) := by omega
  have c2 : ¬ ((m : Int) > IntKind.i64.max) := by
    simp only [IntKind.max, IntKind.bits, IntKind.signed]
    simp
    omega
  have c3 : ¬ (m * i.bytes > 2 ^ 48) := by omega
  have c4 : ¬ (2 ^ 48 < (m : Int) * (i.bytes : Int)) := hbi
  have c5 : ¬ (m = 0) := by omega
  have c6 : ¬ (2 ^ 48 < m * i.bytes) := c3
  have c7 : ¬ ((m : Int) < 0) := by omega
  simp [Builtin.append_, run_underlying hu, run_underlying hu2, he.run_sizeOf, hti, asInt, asIntOf, hw, hnx, c5, c6, c7]
  have c8 : ¬ (281474976710656 < (m : Int) * (i.bytes : Int)) := by simpa using hbi
  rw [if_neg c8, if_neg (by omega), if_neg (by simp [Question.forced]), ← hnc]
  have hf : (Builtin.firstCells e.size 0 (.slice none 0 0)).run P c.w.drew = .ok #[] c.w.drew := rfl
  rw [hf]
  simp only [Result.andThen_ok]
  by_cases h0 : m * e.size = 0
  · have e1 : Builtin.zeroCells (zcells e).toArray m = #[] := Array.eq_empty_of_size_eq_zero (by rw [zero_cells (k := e.size) (by simp [hz.len])]; exact h0)
    rw [if_pos h0, e1]
    simp only [he.run_zero, Result.andThen_ok, pack_cells hz.len hz.one, newRow, Sem.run_bind, run_newObj, Sem.run_pure, Array.empty_append]
    rfl
  · rw [if_neg h0]
    simp only [he.run_zero, Result.andThen_ok, pack_cells hz.len hz.one, newRow, Sem.run_bind, run_newObj, Sem.run_pure, Array.empty_append]
    rfl
theorem appendZ_ok {tf : Nat → Option Ty} (hE : ∀ t ty, tf t = some ty → TyOk P tf t ty) (h : RelC c n sl w0 Jo a) {id0 : Nat} (hid : ¬ c.A id0) {t t2 rt : Nat} {e : Ty} {k j : IntKind} (ht : tf t = some (.slice e)) (ht2 : tf t2 = some (.int k)) (hpu : e.pure = true) {m : Nat} (hm : 0 < m) (hlim : m ≤ lim) :
    ∃ c' v, (Builtin.append_ #[t, t2] rt #[.slice none 0 0, .int j m]).run P c.w = .ok v c'.w ∧ c'.ob = up c.ob id0 (.slc true e (List.replicate m (dflt e))) ∧ RelC c' n sl w0 Jo a ∧ (∀ i, c'.A i → c.A i ∨ i = id0) ∧ SRepV c' (.own e id0) v := by
  obtain ⟨el, newCap, hge, hrun⟩ := run_appendZ (P := P) (c := c) (rt := rt) (j := j) hE ht ht2 hpu hm hlim
  have hz1 := zero_rep (w := c.w.drew) (F := ({ c with w := c.w.drew } : Cx).Fn true) (t := e) hpu
  have hlm : lim ≤ maxLen := by decide
  have hzc : ∀ q, (Builtin.zeroCells (zcells e).toArray q).toList = repl q (zcells e) := fun q => by
    have := range_repl (zcells e).toArray q
    simpa [Builtin.zeroCells] using this
  obtain ⟨c', k1, k2, k3, k4, k5, _⟩ := newSlc h.drew hid (nw := true) (t := e) (xs := List.replicate m (dflt e)) (arr := Builtin.zeroCells (zcells e).toArray m ++ Builtin.zeroCells (zcells e).toArray (newCap - m)) el (cap := newCap) (by simp; omega) (by simp; omega)
    (by
      rw [Array.size_append, zero_cells (k := e.size) (by simp [hz1.len]), zero_cells (k := e.size) (by simp [hz1.len]), ← Nat.add_mul]
      exact Nat.mul_le_mul_right _ (by omega)) (fun i hi => by
    simp only [List.length_replicate] at hi
    refine ⟨zcells e, hz1.len, fun q hq => ?_, ?_⟩
    · have hb : i * e.size + q < m * e.size := Nat.lt_of_lt_of_le (by rw [Nat.succ_mul]; omega : i * e.size + q < (i + 1) * e.size) (Nat.mul_le_mul_right _ (by omega))
      rw [← Array.getElem?_toList, Array.toList_append, hzc, hzc, List.getElem?_append_left (by rw [repl_len, hz1.len]; exact hb), repl_get, hz1.len, if_pos hb, Nat.mul_comm, Nat.mul_add_mod, Nat.mod_eq_of_lt hq]
    · have : (List.replicate m (dflt e)).getD i (dflt e) = dflt e := by simp [List.getD, hi]
      rw [this]; exact hz1)
  refine ⟨c', _, ?_, k2, k3, k4, k5⟩
  rw [hrun, k1]
  simp
end
end Go.Sx
