/- The symbolic executor's meaning: append, whole. -/
import Derived.Test.YteghkndbngddgaaGreatSxQ
set_option linter.unusedVariables false
namespace Go.Sx
open Go.RowKit
section
variable {c : Cx} {s : St} {w0 : World} {Jo : Io} {a : Act} {P : Program} {tf : Nat → Option Ty} {n : Nat} {sl : Nat → SV}
structure Dest (c : Cx) (id : Nat) (e : Ty) (nw : Bool) (ws : List (Val e)) (vx : Value) (base : Option Addr) (cap : Nat) : Prop where
  val : vx = .slice base ws.length cap
  len : ws.length ≤ cap
  mx : ws.length ≤ maxLen
  here : (base = none ∧ ws = [] ∧ cap = 0) ∨ ((Live c id ∧ isMine (c.ob id) = nw) ∧ ∃ (o : Nat) (arr : Array Value) (el : TypeId), base = some ⟨(c.β id).blk, o, none⟩ ∧ c.w.heap[(c.β id).blk]? = some (.cells arr el (0, 0)) ∧ o + cap * e.size ≤ arr.size ∧
    ∀ i, i < ws.length → ∃ ds : List Value, ds.length = e.size ∧ (∀ j, j < e.size → arr[o + i * e.size + j]? = ds[j]?) ∧ Rep c.w (c.Fn nw) e (ws.getD i (dflt e)) ds)
theorem dest_own (h : RelC c n sl w0 Jo a) {id : Nat} {t' e : Ty} {nw : Bool} {xs : List (Val e)} {vx : Value} (hx : SRepV c (.own t' id) vx) (hid : c.ob id = .slc nw e xs) : ∃ base cap, Dest c id e nw xs vx base cap := by
  have hok := h.objs id
  rw [hid] at hok
  cases hx with
  | one hx => cases hx with
    | ownGone _ hg => rw [hg] at hid; cases hid
    | own hA hg =>
      rw [hid] at hg; cases hg
      obtain ⟨k0, ⟨k1, k2, k3⟩ | ⟨k1, k2, arr, el, k3, k4, k5⟩⟩ := hok
      · subst k3
        exact ⟨none, 0, by simp [pack, Ty.isAgg, hdr, k1], by simp, by simp, .inl ⟨rfl, rfl, rfl⟩⟩
      · exact ⟨_, _, by simp [pack, Ty.isAgg, hdr, k1], k2, k0, .inr ⟨⟨⟨by rw [hid]; simp, k1⟩, by rw [hid]; rfl⟩, _, arr, el, rfl, k3, k4, k5⟩⟩
theorem dest_sub (h : RelC c n sl w0 Jo a) {id lo hi : Nat} {t' e : Ty} {nw : Bool} {xs : List (Val e)} {vx : Value} (hx : SRepV c (.sub t' id lo hi) vx) (hid : c.ob id = .slc nw e xs) :
    ∃ base cap, Dest c id e nw ((xs.take hi).drop lo) vx base cap := by
  have hok := h.objs id
  rw [hid] at hok
  cases hx with
  | one hx => cases hx with
    | subGone _ hg => rw [hg] at hid; cases hid
    | @sub _ _ _ _ _ ys b hA hg h1 h2 h3 =>
      rw [hid] at hg; cases hg
      have hlen : ((ys.take hi).drop lo).length = hi - lo := by simp; omega
      obtain ⟨k0, ⟨k1, k2, k3⟩ | ⟨k1, k2, arr, el, k3, k4, k5⟩⟩ := hok
      · subst k3
        simp at h2
        have hb : b = none := by rw [h3]; simp [subAddr, k1]
        subst hb
        refine ⟨none, 0, ?_, by simp, by simp, .inl ⟨rfl, by simp, rfl⟩⟩
        simp [pack, Ty.isAgg, k2]; omega
      · refine ⟨b, (c.β id).cap - lo, by simp only [pack, Ty.isAgg, List.headD_cons]; rw [hlen], by rw [hlen]; omega, by rw [hlen]; omega, .inr ⟨⟨⟨by rw [hid]; simp, k1⟩, by rw [hid]; rfl⟩, _, arr, el, by rw [h3]; simp only [subAddr, k1]; rfl, k3, ?_, fun i hi' => ?_⟩⟩
        · split
          · have : (c.β id).off ≤ arr.size := by omega
            rw [show (c.β id).cap - lo = 0 by omega]; simpa using this
          · have : lo * t'.size + ((c.β id).cap - lo) * t'.size = (c.β id).cap * t'.size := by rw [← Nat.add_mul]; congr 1; omega
            omega
        · rw [hlen] at hi'
          rw [if_neg (by omega)]
          obtain ⟨ds, m1, m2, m3⟩ := k5 (lo + i) (by omega)
          refine ⟨ds, m1, fun j hj => ?_, ?_⟩
          · rw [← m2 j hj, Nat.add_mul]; simp [Nat.add_assoc]
          · rw [getD_drop, getD_take _ _ _ _ (by omega)]; exact m3
theorem getD_append {α : Type} (xs ys : List α) (i : Nat) (d : α) : (xs ++ ys).getD i d = if i < xs.length then xs.getD i d else ys.getD (i - xs.length) d := by
  by_cases h : i < xs.length
  · rw [if_pos h]; simp [List.getD, List.getElem?_append_left h]
  · rw [if_neg h]; simp [List.getD, List.getElem?_append_right (Nat.le_of_not_lt h)]
theorem append_room (hE : ∀ t ty, tf t = some ty → TyOk P tf t ty) (h : RelC c n sl w0 Jo a) {id0 id : Nat} (hid0 : ¬ c.A id0) {t t2 rt : Nat} {e e2 : Ty} (ht : tf t = some (.slice e)) (ht2 : tf t2 = some (.slice e2)) (hpu : e.pure = true)
    {nw mw : Bool} {ws ys : List (Val e)} {vx vy : Value} {base : Option Addr} {cap : Nat} (hD : Dest c id e nw ws vx base cap) {yb : Option Addr} {ycap : Nat} {new : List Value} (hvy : vy = .slice yb ys.length ycap) (hnl : new.length = ys.length * e.size)
    (hn1 : ∀ v ∈ new, v.oneCell' = true) (hnew : ∀ w', (∀ j, j < c.w.heap.size → w'.heap[j]? = c.w.heap[j]?) → (Builtin.firstCells e.size ys.length vy).run P w' = .ok new.toArray w')
    (hrep : ∀ i, i < ys.length → Rep c.w (c.Fn mw) e (ys.getD i (dflt e)) ((new.drop (i * e.size)).take e.size)) (hlim : ws.length + ys.length ≤ lim) (hroom : ws.length + ys.length ≤ cap) :
    ∃ c' v, (Builtin.append_ #[t, t2] rt #[vx, vy]).run P c.w = .ok v c'.w ∧ c'.ob = up (up c.ob id0 (.slc (nw && mw) e (ws ++ ys))) id .gone ∧ RelC c' n sl w0 Jo a ∧ (∀ i, c'.A i → c.A i ∨ i = id0) ∧ SRepV c' (.own e id0) v := by
  have hra := (run_append (c := c) (rt := rt) hE ht ht2 hpu (base := base) (len := ws.length) (cap := cap) hvy hnew hlim hD.len).1 hroom
  have hmx : lim ≤ maxLen := by decide
  rw [hD.val]
  rcases hD.here with ⟨rfl, rfl, rfl⟩ | ⟨⟨hl, hmn⟩, o, arr, el, rfl, hblk, hsz, hel⟩
  · have hy0 : ys = [] := by apply List.eq_nil_of_length_eq_zero; simp at hroom; simp [hroom]
    subst hy0
    obtain ⟨he, hr⟩ := h.newNil hid0 (nw && mw) e _ rfl
    let c1 : Cx := { w := c.w, F := c.F, B := c.B, A := fun i => c.A i ∨ i = id0, β := up c.β id0 ⟨0, 0, 0, true⟩, ob := up (up c.ob id0 (.slc (nw && mw) e [])) id .gone }
    have hA1 : c1.A id0 := Or.inr rfl
    refine ⟨c1, _, hra c.w rfl, rfl, hr.kill id, fun i hi => hi, ?_⟩
    refine .one (t := .slice e) (cs := [.slice none 0 0]) ?_
    by_cases e0 : id0 = id
    · exact .ownGone hA1 (by subst e0; exact up_same _ _ _) rfl
    · have h3 := SRep.own (c := c1) (t := e) (id := id0) (nw := nw && mw) (xs := []) hA1
        (show up (up c.ob id0 (.slc (nw && mw) e [])) id .gone id0 = _ by rw [up_ne _ _ e0, up_same])
      have h4 : c1.β id0 = ⟨0, 0, 0, true⟩ := up_same _ _ _
      rw [h4] at h3
      exact h3
  · have hne : id0 ≠ id := by
      intro e0
      subst e0
      exact hl.1 (h.unalloc _ hid0)
    have hst := run_storeCells_at P (c.β id).blk (o + ws.length * e.size) el new 0 arr c.w hblk (by
      have : (ws.length + ys.length) * e.size ≤ cap * e.size := Nat.mul_le_mul_right _ hroom
      rw [Nat.add_mul] at this
      omega) hn1
    simp only [Nat.add_zero] at hst
    have hfit : o + ws.length * e.size + new.length ≤ arr.toList.length := by
      have : (ws.length + ys.length) * e.size ≤ cap * e.size := Nat.mul_le_mul_right _ hroom
      rw [Nat.add_mul] at this
      simp; omega
    let w1 := c.w.setRow (c.β id).blk (splice arr.toList (o + ws.length * e.size) new).toArray
    let k : Conc := ⟨(c.β id).blk, o, cap, false⟩
    let c' : Cx := { w := w1, F := c.F, B := c.B, A := fun i => c.A i ∨ i = id0, β := up c.β id0 k, ob := up (up c.ob id0 (.slc (nw && mw) e (ws ++ ys))) id .gone }
    have hβ : c'.β id0 = k := up_same _ _ _
    have hob0 : c'.ob id0 = .slc (nw && mw) e (ws ++ ys) := by
      show up (up c.ob id0 _) id .gone id0 = _
      rw [up_ne _ _ hne, up_same]
    refine ⟨c', .slice (some ⟨(c.β id).blk, o, none⟩) (ws.length + ys.length) cap, hra w1 ?_, rfl,
      h.renew hl hid0 w1 k rfl (.slc (nw && mw) e (ws ++ ys)) (fun hm => by rw [hmn]; simp only [isMine, Bool.and_eq_true] at hm; exact hm.1) (by simp [w1]) (fun b hb => setRow_other _ _ _ _ hb) rfl rfl rfl c' rfl (fun he => ?_), fun i hi => hi, ?_⟩
    · simp only [add_at]; exact hst
    · refine ⟨by simp; omega, .inr ⟨by rw [hβ], by rw [hβ]; simpa using hroom, _, el, by rw [hβ]; exact setRow_heap _ _ _ _ _ _ hblk, ?_, fun i hi => ?_⟩⟩
      · rw [hβ]
        simp only [List.size_toArray, splice_len hfit, Array.length_toList]
        exact hsz
      · have hg : ∀ j, (splice arr.toList (o + ws.length * e.size) new).toArray[j]? = if j < o + ws.length * e.size then arr[j]? else if j < o + ws.length * e.size + new.length then new[j - (o + ws.length * e.size)]? else arr[j]? := by
          intro j
          rw [List.getElem?_toArray, splice_get hfit]; simp
        rw [hβ, getD_append]
        simp only [List.length_append] at hi
        by_cases hlt : i < ws.length
        · rw [if_pos hlt]
          obtain ⟨ds, m1, m2, m3⟩ := hel i hlt
          refine ⟨ds, m1, fun j hj => ?_, he.rep (m3.wk (by simp; intro x _; exact x))⟩
          have := mul_chunk (s := e.size) hlt
          show (splice arr.toList (o + ws.length * e.size) new).toArray[o + i * e.size + j]? = _
          rw [hg, if_pos (by omega), ← m2 j hj]
        · rw [if_neg hlt]
          have hi2 : i - ws.length < ys.length := by omega
          have hr := hrep _ hi2
          refine ⟨_, hr.len, fun j hj => ?_, he.rep (hr.wk (by simp))⟩
          have h1 := mul_chunk (s := e.size) hi2
          have h2 : i * e.size = ws.length * e.size + (i - ws.length) * e.size := by rw [← Nat.add_mul]; congr 1; omega
          show (splice arr.toList (o + ws.length * e.size) new).toArray[o + i * e.size + j]? = _
          rw [hg, if_neg (by omega), if_pos (by omega), chunk_get, if_pos hj]
          congr 1; omega
    · have h3 := SRep.own (c := c') (t := e) (id := id0) (.inr rfl) hob0
      rw [hβ] at h3
      have h4 : hdr k (ws ++ ys).length = .slice (some ⟨(c.β id).blk, o, none⟩) (ws.length + ys.length) cap := by simp [hdr, k]
      rw [h4] at h3
      exact .one (t := .slice e) h3
theorem append_grow (hE : ∀ t ty, tf t = some ty → TyOk P tf t ty) (h : RelC c n sl w0 Jo a) {id0 : Nat} (hid0 : ¬ c.A id0) {t t2 rt : Nat} {e e2 : Ty} (ht : tf t = some (.slice e)) (ht2 : tf t2 = some (.slice e2)) (hpu : e.pure = true)
    {nw mw : Bool} {ws ys : List (Val e)} {vx vy : Value} {xb yb : Option Addr} {xcap ycap : Nat} {old new : List Value} (hvx : vx = .slice xb ws.length xcap) (hcap : ws.length ≤ xcap) (hol : old.length = ws.length * e.size)
    (hold : ∀ w', (∀ j, j < c.w.heap.size → w'.heap[j]? = c.w.heap[j]?) → (Builtin.firstCells e.size ws.length vx).run P w' = .ok old.toArray w')
    (hrepo : ∀ i, i < ws.length → Rep c.w (c.Fn nw) e (ws.getD i (dflt e)) ((old.drop (i * e.size)).take e.size))
    (hvy : vy = .slice yb ys.length ycap) (hnl : new.length = ys.length * e.size) (hnew : ∀ w', (∀ j, j < c.w.heap.size → w'.heap[j]? = c.w.heap[j]?) → (Builtin.firstCells e.size ys.length vy).run P w' = .ok new.toArray w')
    (hrep : ∀ i, i < ys.length → Rep c.w (c.Fn mw) e (ys.getD i (dflt e)) ((new.drop (i * e.size)).take e.size)) (hlim : ws.length + ys.length ≤ lim) (hroom : ¬ ws.length + ys.length ≤ xcap) :
    ∃ c' v, (Builtin.append_ #[t, t2] rt #[vx, vy]).run P c.w = .ok v c'.w ∧ c'.ob = up c.ob id0 (.slc (nw && mw) e (ws ++ ys)) ∧ RelC c' n sl w0 Jo a ∧ (∀ i, c'.A i → c.A i ∨ i = id0) ∧ SRepV c' (.own e id0) v := by
  have hmx : lim ≤ maxLen := by decide
  subst hvx
  obtain ⟨el, newCap, rest, hge, hrs, hrun⟩ := (run_append (c := c) (rt := rt) hE ht ht2 hpu (base := xb) (len := ws.length) (cap := xcap) hvy hnew hlim hcap).2 hroom old.toArray (hold _ (fun _ _ => rfl))
  have hd := h.drew
  obtain ⟨c', k1, k2, k3, k4, k5, _⟩ := newSlc (c := { c with w := c.w.drew }) hd hid0 (nw := nw && mw) (t := e) (xs := ws ++ ys) (arr := old.toArray ++ new.toArray ++ rest) el (cap := newCap) (by simp; omega) (by simpa using hge) (by
      simp only [Array.size_append, List.size_toArray, hol, hnl, hrs]
      rw [← Nat.add_mul, ← Nat.add_mul]
      exact Nat.mul_le_mul_right _ (by omega)) (fun i hi => by
    simp only [List.length_append] at hi
    rw [getD_append]
    have hg : ∀ j, j < old.length + new.length → (old.toArray ++ new.toArray ++ rest)[j]? = (old ++ new)[j]? := by
      intro j hj
      rw [Array.getElem?_append_left (by simp; exact hj)]
      simp
    by_cases hlt : i < ws.length
    · rw [if_pos hlt]
      have hr := hrepo i hlt
      refine ⟨_, hr.len, fun j hj => ?_, Rep.mono (w := c.w) (w' := c.w.drew) (F := c.Fn nw) (F' := c.Fn (nw && mw)) (fun b hb => ⟨hb.1, fun e1 => hb.2 (by simp at e1; exact e1.1)⟩) (fun _ _ => rfl) hr⟩
      have := mul_chunk (s := e.size) hlt
      rw [hg _ (by omega), chunk_get, if_pos hj, List.getElem?_append_left (by omega)]
    · rw [if_neg hlt]
      have hi2 : i - ws.length < ys.length := by omega
      have hr := hrep _ hi2
      refine ⟨_, hr.len, fun j hj => ?_, Rep.mono (w := c.w) (w' := c.w.drew) (F := c.Fn mw) (F' := c.Fn (nw && mw)) (fun b hb => ⟨hb.1, fun e1 => hb.2 (by simp at e1; exact e1.2)⟩) (fun _ _ => rfl) hr⟩
      have h1 := mul_chunk (s := e.size) hi2
      have h2 : i * e.size = ws.length * e.size + (i - ws.length) * e.size := by rw [← Nat.add_mul]; congr 1; omega
      rw [hg _ (by omega), chunk_get, if_pos hj, List.getElem?_append_right (by omega)]
      congr 1; omega)
  refine ⟨c', _, by rw [hrun, k1], k2, k3, k4, ?_⟩
  simpa using k5
theorem append_ok (hE : ∀ t ty, tf t = some ty → TyOk P tf t ty) (h : RelC c n sl w0 Jo a) (hob : c.ob = s.ob) {id0 : Nat} (hid0 : ¬ c.A id0) {t t2 rt : Nat} {e e2 : Ty} (ht : tf t = some (.slice e)) (ht2 : tf t2 = some (.slice e2)) (hpu : e.pure = true)
    {x y r : SV} {vx vy : Value} (hx : SRepV c x vx) (hy : SRepV c y vy) {obs : List (Nat × Obj)} (hs : (appendS s id0 e x y).val = some (r, obs)) :
    ∃ c' v, (Builtin.append_ #[t, t2] rt #[vx, vy]).run P c.w = .ok v c'.w ∧ c'.ob = ups s.ob obs ∧ RelC c' n sl w0 Jo a ∧ (∀ i, c'.A i → c.A i ∨ i = id0) ∧ SRepV c' r v := by
  unfold appendS at hs
  split at hs
  · rename_i mw ys e1
    obtain ⟨yb, ycap, new, hvy, _, hnl, hn1, hnew, hrep⟩ := src_ok (P := P) h hy (by rw [hob]; exact e1)
    have hrep := fun i hi => (hrep i hi).liftn
    clear e1
    generalize (mw || !e.heapy) = mw at hs hrep
    have big : ∀ {id : Nat} {nw : Bool} {ws : List (Val e)} {base : Option Addr} {cap : Nat}, Dest c id e nw ws vx base cap → toV c.ob (.slice e) x = some (nw, ws) → ws.length + ys.length ≤ lim →
        ∃ c' v, (Builtin.append_ #[t, t2] rt #[vx, vy]).run P c.w = .ok v c'.w ∧ c'.ob = up (up c.ob id0 (.slc (nw && mw) e (ws ++ ys))) id .gone ∧ RelC c' n sl w0 Jo a ∧ (∀ i, c'.A i → c.A i ∨ i = id0) ∧ (id0 ≠ id → SRepV c' (.own e id0) v) := by
      intro id nw ws base cap hD htv hlim
      by_cases hroom : ws.length + ys.length ≤ cap
      · obtain ⟨c', v, k1, k2, k3, k4, k5⟩ := append_room (rt := rt) hE h hid0 ht ht2 hpu hD hvy hnl hn1 hnew hrep hlim hroom
        exact ⟨c', v, k1, k2, k3, k4, fun _ => k5⟩
      · obtain ⟨xb, xcap, old, hvx, hxc, hol, ho1, hold, hrepo⟩ := src_ok (P := P) h hx htv
        have hcc : xcap = cap := by
          have := hD.val
          rw [hvx] at this
          simp at this
          exact this.2
        obtain ⟨c', v, k1, k2, k3, k4, k5⟩ := append_grow (rt := rt) hE h hid0 ht ht2 hpu hvx hxc hol hold hrepo hvy hnl hnew hrep hlim (by rw [hcc]; exact hroom)
        refine ⟨{ c' with ob := up c'.ob id .gone }, v, k1, by rw [← k2], k3.kill id, k4, fun hne => ?_⟩
        refine SRepV.ext (c := c') (c' := { c' with ob := up c'.ob id .gone }) ⟨rfl, fun _ hb => hb, fun _ _ => rfl, fun _ hi => hi, fun i hi => ?_⟩ k5
        show up c'.ob id .gone i = .gone ∨ _
        by_cases e0 : i = id
        · subst e0; exact .inl (up_same _ _ _)
        · rcases sameShape_self (c'.ob i) with e5 | e5
          · left; rw [up_ne _ _ e0, e5]
          · right
            refine ⟨?_, rfl⟩
            show sameShape (c'.ob i) (up c'.ob id .gone i)
            rw [up_ne _ _ e0]; exact e5
    cases x with
    | nils =>
      simp only at hs
      obtain ⟨hlim, hs⟩ := chk_some (p := .ret _) hs
      simp [PR.val] at hs
      obtain ⟨rfl, rfl⟩ := hs
      have hlim : ys.length ≤ lim := by simpa using hlim
      have hvx : vx = .slice none 0 0 := by
        cases hx with
        | one hx => cases hx with
          | nils => rfl
      by_cases h0 : ys.length = 0
      · have hy0 : ys = [] := List.eq_nil_of_length_eq_zero h0
        subst hy0
        obtain ⟨he, hr⟩ := h.newNil hid0 mw e _ rfl
        have hra := (run_append (c := c) (rt := rt) hE ht ht2 hpu (base := none) (len := 0) (cap := 0) hvy hnew (by simp) (by simp)).1 (by simp) c.w rfl
        refine ⟨_, _, by rw [hvx]; exact hra, by rw [← hob]; rfl, hr, fun i hi => hi, ?_⟩
        have h3 := SRep.own (c := { c with A := fun i => c.A i ∨ i = id0, β := up c.β id0 ⟨0, 0, 0, true⟩, ob := up c.ob id0 (.slc mw e []) }) (t := e) (id := id0) (nw := mw) (xs := []) (.inr rfl) (up_same _ _ _)
        refine .one (t := .slice e) (cs := [.slice none 0 0]) ?_
        simpa [up_same, hdr] using h3
      · obtain ⟨c', v, k1, k2, k3, k4, k5⟩ := append_grow (rt := rt) (nw := true) (ws := []) (old := []) (vx := vx) (xb := none) (xcap := 0) hE h hid0 ht ht2 hpu (by rw [hvx]; rfl) (by simp) (by simp) (fun w' _ => by rw [hvx]; simp [Builtin.firstCells]) (fun i hi => by simp at hi) hvy hnl hnew hrep (by simpa using hlim) (by simpa using h0)
        exact ⟨c', v, k1, by rw [← hob]; simpa [ups] using k2, k3, k4, k5⟩
    | own t' id =>
      simp only at hs
      split at hs
      · rename_i nw u xs e2
        split at hs
        · rename_i xs' e3
          obtain ⟨hlim, hs⟩ := chk_some (p := .ret _) hs
          simp [PR.val] at hs
          obtain ⟨rfl, rfl⟩ := hs
          obtain ⟨e4, e5⟩ := castV_eq e3
          simp at e4; subst e4
          simp at e5; subst e5
          obtain ⟨base, cap, hD⟩ := dest_own h hx (by rw [hob]; exact e2)
          obtain ⟨c', v, k1, k2, k3, k4, k5⟩ := big hD (by simp only [toV, hob, e2, e3]) (by simpa using hlim)
          refine ⟨c', v, k1, by rw [k2, hob]; rfl, k3, k4, k5 (fun e0 => ?_)⟩
          subst e0
          have := h.unalloc _ hid0
          rw [hob, e2] at this; cases this
        · cases hs
      · cases hs
    | sub t' id lo hi =>
      simp only at hs
      split at hs
      · rename_i nw u xs e2
        split at hs
        · rename_i xs' e3
          obtain ⟨hlim, hs⟩ := chk_some (p := .ret _) hs
          simp [PR.val] at hs
          obtain ⟨rfl, rfl⟩ := hs
          obtain ⟨e4, e5⟩ := castV_eq e3
          simp at e4; subst e4
          simp at e5; subst e5
          obtain ⟨base, cap, hD⟩ := dest_sub h hx (by rw [hob]; exact e2)
          obtain ⟨c', v, k1, k2, k3, k4, k5⟩ := big hD (by simp only [toV, hob, e2, e3]) (by simpa using hlim)
          refine ⟨c', v, k1, by rw [k2, hob]; rfl, k3, k4, k5 (fun e0 => ?_)⟩
          subst e0
          have := h.unalloc _ hid0
          rw [hob, e2] at this; cases this
        · cases hs
      · cases hs
    | _ => cases hs
  · cases hs
end
end Go.Sx
