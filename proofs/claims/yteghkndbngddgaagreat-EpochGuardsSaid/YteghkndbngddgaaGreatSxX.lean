/- The symbolic executor's meaning: regions whose order is open, whole. -/
import Derived.Test.YteghkndbngddgaaGreatSxW
set_option linter.unusedVariables false
namespace Go.Sx
open Go.RowKit
def Ord (ms : List Nat) (i j : Nat) : Prop := (i < j ∧ bitOf (ms.getD j 0) i = true) ∨ (j < i ∧ bitOf (ms.getD i 0) j = true)
theorem Ord.symm {ms : List Nat} {i j : Nat} (h : Ord ms i j) : Ord ms j i := Or.symm h
structure Trace (E : Env) (ops : List Oper) (ms : List Nat) (nx : Nat) (s : St) (us : List Upd) (Vs : List (Option (List Nat))) : Prop where
  len : us.length = ops.length
  upd : ∀ (j : Nat) (o : Oper) (u : Upd), ops[j]? = some o → us[j]? = some u → UpdV E ops (nx + j * quota) (view nx ms j (Vs.getD j none)) o ((us.take j).foldl St.apply s) u ∧
    keysOk o.dst u = true ∧ ∀ p ∈ u.ob, seesB nx ms j (Vs.getD j none) p.1 = true
  apart : ∀ (j : Nat) (u : Upd), us[j]? = some u → ∀ p ∈ u.ob, ∀ k, k ≠ j → k < ops.length → seesB nx ms k (Vs.getD k none) p.1 = true → Ord ms k j
theorem apartOk_spec {ms : List Nat} {nx i : Nat} {V : Option (List Nat)} {u : Upd} : ∀ {l : List (Option (List Nat) × List Nat)} {k : Nat}, apartOk ms nx i V u l k = true → ∀ m W T, l[m]? = some (W, T) →
    bitOf (ms.getD i 0) (k + m) = true ∨ ((∀ p ∈ u.ob, seesB nx ms (k + m) W p.1 = false) ∧ ∀ id ∈ T, seesB nx ms i V id = false)
  | [], k, _, m, W, T, hm => by simp at hm
  | (W', T') :: l, k, h, m, W, T, hm => by
    simp only [apartOk, Bool.and_eq_true] at h
    cases m with
    | zero =>
      simp at hm
      obtain ⟨rfl, rfl⟩ := hm
      simp only [Nat.add_zero]
      cases hb : bitOf (ms.getD i 0) k with
      | true => exact .inl rfl
      | false =>
        rw [hb, cond_false, Bool.and_eq_true, List.all_eq_true, List.all_eq_true] at h
        exact .inr ⟨fun p hp => by simpa using h.1.1 p hp, fun id hid => by simpa using h.1.2 id hid⟩
    | succ m =>
      have := apartOk_spec h.2 m W T (by simpa using hm)
      rw [show k + (m + 1) = k + 1 + m by omega]
      exact this
theorem stepsD_some {R : Type} {E : Env} {all : List Oper} {ms : List Nat} {nx n : Nat} {r : R} : ∀ (l : List Oper) (i : Nat) (lg : List (Option (List Nat) × List Nat)) (s : St) (k : St → Option R), lg.length = i → stepsD E all ms n nx l i lg s k = some r →
    ∃ (us : List Upd) (Vs : List (Option (List Nat))), us.length = l.length ∧ (∀ (j : Nat) (o : Oper) (u : Upd), l[j]? = some o → us[j]? = some u → UpdV E all (nx + (i + j) * quota) (view nx ms (i + j) (Vs.getD j none)) o ((us.take j).foldl St.apply s) u ∧
      keysOk o.dst u = true ∧ ∀ p ∈ u.ob, seesB nx ms (i + j) (Vs.getD j none) p.1 = true) ∧
      (∀ (j : Nat) (u : Upd), us[j]? = some u → ∀ p ∈ u.ob, ∀ k, k ≠ j → k < l.length → seesB nx ms (i + k) (Vs.getD k none) p.1 = true → Ord ms (i + k) (i + j)) ∧
      (∀ (m : Nat) W T, lg[m]? = some (W, T) → ∀ (j : Nat) (u : Upd), us[j]? = some u → Ord ms m (i + j) ∨ ((∀ p ∈ u.ob, seesB nx ms m W p.1 = false) ∧ ∀ id ∈ T, seesB nx ms (i + j) (Vs.getD j none) id = false)) ∧
      k (us.foldl St.apply s) = some r
  | [], i, lg, s, k, hl, h => ⟨[], [], rfl, by simp, by simp, by simp, h⟩
  | o :: l, i, lg, s, k, hl, h => by
    simp only [stepsD] at h
    generalize hV : reachO ms n s i o = V at h
    obtain ⟨u, hu, h⟩ := updOf_some h
    split at h
    · rename_i hc
      simp only [Bool.and_eq_true, List.all_eq_true] at hc
      obtain ⟨⟨c1, c2⟩, c3⟩ := hc
      obtain ⟨us, Vs, h1, h2, h3, h4, h5⟩ := stepsD_some l (i + 1) _ _ k (by simp [hl]) h
      have h6 := apartOk_spec c3
      refine ⟨u :: us, V :: Vs, by simp [h1], fun j o' u' ho hu' => ?_, fun j u' hu' p hp m hm hml hs => ?_, fun m W T hm j u' hu' => ?_, h5⟩
      · cases j with
        | zero =>
          simp at ho hu'
          subst ho hu'
          exact ⟨hu, c1, fun p hp => c2 p hp⟩
        | succ j =>
          have := h2 j o' u' (by simpa using ho) (by simpa using hu')
          rw [show i + (j + 1) = i + 1 + j by omega]
          simpa using this
      · cases j with
        | zero =>
          simp at hu'
          subst hu'
          cases m with
          | zero => exact absurd rfl hm
          | succ m =>
            simp only [List.length_cons] at hml
            obtain ⟨um, hum⟩ : ∃ um, us[m]? = some um := ⟨_, List.getElem?_eq_getElem (by omega)⟩
            have h7 := h4 i V (u.ob.map (·.1)) (by rw [List.getElem?_append_right (by omega), hl]; simp) m um hum
            rw [show i + (m + 1) = i + 1 + m by omega] at hs ⊢
            rcases h7 with h7 | ⟨_, h7⟩
            · exact h7.symm
            · have := h7 p.1 (List.mem_map_of_mem hp)
              simp only [List.getD_cons_succ] at hs
              rw [this] at hs; cases hs
        | succ j =>
          simp only [List.getElem?_cons_succ] at hu'
          rw [show i + (j + 1) = i + 1 + j by omega]
          cases m with
          | zero =>
            have h7 := h4 i V (u.ob.map (·.1)) (by rw [List.getElem?_append_right (by omega), hl]; simp) j u' hu'
            rcases h7 with h7 | ⟨h7, _⟩
            · exact h7
            · have := h7 p hp
              simp only [List.getD_cons_zero, Nat.add_zero] at hs
              rw [this] at hs; cases hs
          | succ m =>
            simp only [List.length_cons] at hml
            rw [show i + (m + 1) = i + 1 + m by omega] at hs ⊢
            exact h3 j u' hu' p hp m (by omega) (by omega) (by simpa using hs)
      · cases j with
        | zero =>
          simp at hu'
          subst hu'
          rcases h6 m W T hm with h7 | h7
          · left
            simp only [Nat.zero_add] at h7
            exact .inl ⟨by have := (List.getElem?_eq_some_iff.1 hm).1; omega, h7⟩
          · right
            simpa using h7
        | succ j =>
          simp only [List.getElem?_cons_succ] at hu'
          have := h4 m W T (by rw [List.getElem?_append_left (List.getElem?_eq_some_iff.1 hm).1]; exact hm) j u' hu'
          rw [show i + (j + 1) = i + 1 + j by omega]
          simpa using this
    · cases h
def stOf (D : Nat → Bool) (us : List Upd) (s : St) : St := ⟨s.n, s.nx, sel D (us.map (·.sl)) 0 s.sl, sel D (us.map (·.ob)) 0 s.ob⟩
theorem foldl_apply : ∀ (us : List Upd) (s : St), us.foldl St.apply s = ⟨s.n, s.nx, (us.map (·.sl)).foldl ups s.sl, (us.map (·.ob)).foldl ups s.ob⟩
  | [], s => rfl
  | u :: us, s => by
    simp only [List.foldl_cons, List.map_cons]
    rw [foldl_apply us]
    simp [apply_nil]
theorem stOf_lt (j : Nat) (us : List Upd) (s : St) : stOf (fun x => decide (x < j)) us s = (us.take j).foldl St.apply s := by
  rw [foldl_apply]
  have h1 := sel_lt (us.map (·.sl)) 0 j s.sl
  have h2 := sel_lt (us.map (·.ob)) 0 j s.ob
  simp only [Nat.zero_add] at h1 h2
  simp only [stOf, h1, h2, List.map_take]
theorem stOf_all {D : Nat → Bool} (us : List Upd) (s : St) (h : ∀ k, k < us.length → D k = true) : stOf D us s = us.foldl St.apply s := by
  rw [foldl_apply]
  simp only [stOf]
  rw [sel_all _ _ _ (fun k hk => by simpa using h k (by simpa using hk)), sel_all _ _ _ (fun k hk => by simpa using h k (by simpa using hk))]
section
variable {E : Env} {ops : List Oper} {ms : List Nat} {nx : Nat} {s : St} {us : List Upd} {Vs : List (Option (List Nat))}
theorem slots_ord (h : slotsOk ops ms ops.length = true) {i j : Nat} {oi oj : Oper} (hi : ops[i]? = some oi) (hj : ops[j]? = some oj) {d : Nat} (hd : oi.dst = some d) (hs : d ∈ slotsOf ops oj) (hne : i ≠ j) : Ord ms i j := by
  have hjl : j < ops.length := (List.getElem?_eq_some_iff.1 hj).1
  have hil : i < ops.length := (List.getElem?_eq_some_iff.1 hi).1
  have h1 := rangeAll_spec h j hjl
  rw [hj] at h1
  simp only [List.all_eq_true] at h1
  have h2 := rangeAll_spec (h1 d hs) i hil
  have hdi : dstOf ops i = some d := by simp [dstOf, hi, hd]
  rw [hdi] at h2
  simp only [show Nat.beq d d = true by simp, cond_true] at h2
  by_cases hlt : i < j
  · rw [show Nat.blt i j = true by simpa using hlt, cond_true] at h2
    exact .inl ⟨hlt, h2⟩
  · rw [show Nat.blt i j = false by rw [Bool.eq_false_iff]; simpa using hlt, cond_false, show Nat.beq i j = false by rw [Bool.eq_false_iff]; intro e; exact hne (Nat.eq_of_beq_eq_true e), cond_false] at h2
    exact .inr ⟨by omega, h2⟩
def Closed (ms : List Nat) (D : Nat → Bool) : Prop := ∀ j, D j = true → ∀ i, bitOf (ms.getD j 0) i = true → D i = true
theorem ord_same {D : Nat → Bool} (hD : Closed ms D) {j : Nat} (hj : D j = false) (hanc : ∀ i, bitOf (ms.getD j 0) i = true → D i = true) {k : Nat} (h : Ord ms k j) : D k = decide (k < j) := by
  rcases h with ⟨h1, h2⟩ | ⟨h1, h2⟩
  · rw [hanc k h2]; simp [h1]
  · rw [show decide (k < j) = false by simp; omega]
    rw [Bool.eq_false_iff]
    intro hk
    have := hD k hk j h2
    rw [hj] at this; cases this
theorem keys_dst {dst : Option Nat} {u : Upd} (h : keysOk dst u = true) {p : Nat × SV} (hp : p ∈ u.sl) : dst = some p.1 := by
  unfold keysOk at h
  have := List.all_eq_true.1 h p hp
  cases dst with
  | none => cases this
  | some d => rw [Nat.eq_of_beq_eq_true this]
theorem dst_slot (o : Oper) {d : Nat} (h : o.dst = some d) : d ∈ slotsOf ops o := by simp [slotsOf, h]
variable (hT : Trace E ops ms nx s us Vs) (hS : slotsOk ops ms ops.length = true)
include hT hS
theorem slot_same {D : Nat → Bool} (hD : Closed ms D) {j : Nat} {o : Oper} (ho : ops[j]? = some o) (hj : D j = false) (hanc : ∀ i, bitOf (ms.getD j 0) i = true → D i = true) {t : Nat} (ht : t ∈ slotsOf ops o) :
    (stOf D us s).sl t = ((us.take j).foldl St.apply s).sl t := by
  rw [← stOf_lt]
  refine sel_agree _ 0 (fun k l hk hp => ?_) rfl
  simp only [Nat.zero_add]
  rw [List.getElem?_map] at hk
  cases hu : us[k]? with
  | none => rw [hu] at hk; simp at hk
  | some u =>
    rw [hu] at hk
    simp at hk
    subst hk
    have hkl : k < ops.length := by rw [← hT.len]; exact (List.getElem?_eq_some_iff.1 hu).1
    obtain ⟨ok, hok⟩ : ∃ ok, ops[k]? = some ok := ⟨_, List.getElem?_eq_getElem hkl⟩
    obtain ⟨_, h2, _⟩ := hT.upd k ok u hok hu
    obtain ⟨p, hp, rfl⟩ := hp
    by_cases e : k = j
    · subst e
      rw [hj]; simp
    · exact ord_same hD hj hanc (slots_ord hS hok ho (keys_dst h2 hp) ht e)
theorem ob_le (hb : ∀ j i, bitOf (ms.getD j 0) i = true → i < j) {D : Nat → Bool} (hD : Closed ms D) {j : Nat} {o : Oper} (ho : ops[j]? = some o) (hj : D j = false) (hanc : ∀ i, bitOf (ms.getD j 0) i = true → D i = true) :
    ObLe (view nx ms j (Vs.getD j none) ((us.take j).foldl St.apply s).ob) (stOf D us s).ob := by
  have _ := hS
  have _ := hb
  intro id
  have hjl : j < ops.length := (List.getElem?_eq_some_iff.1 ho).1
  unfold view
  cases hs : seesB nx ms j (Vs.getD j none) id with
  | false => exact .inl rfl
  | true =>
    right
    rw [cond_true, ← stOf_lt]
    refine sel_agree _ 0 (fun k l hk hp => ?_) rfl
    simp only [Nat.zero_add]
    rw [List.getElem?_map] at hk
    cases hu : us[k]? with
    | none => rw [hu] at hk; simp at hk
    | some u =>
      rw [hu] at hk
      simp at hk
      subst hk
      obtain ⟨p, hp, rfl⟩ := hp
      by_cases e : k = j
      · subst e
        rw [hj]; simp
      · exact ord_same hD hj hanc (hT.apart k u hu p hp j (fun e' => e e'.symm) hjl hs).symm
theorem st_add {D D' : Nat → Bool} (hD : Closed ms D) {j : Nat} {o : Oper} {u : Upd} (ho : ops[j]? = some o) (hu : us[j]? = some u) (hj : D j = false) (hj' : D' j = true) (hne : ∀ i, i ≠ j → D' i = D i) :
    stOf D' us s = (stOf D us s).apply u := by
  have hjl : j < ops.length := (List.getElem?_eq_some_iff.1 ho).1
  obtain ⟨_, q1, q2⟩ := hT.upd j o u ho hu
  have later : ∀ {k : Nat}, j < k → D k = true → ¬ Ord ms j k := by
    intro k hjk hk h
    rcases h with ⟨_, h2⟩ | ⟨h1, _⟩
    · have := hD k hk j h2
      rw [hj] at this; cases this
    · omega
  simp only [stOf, apply_nil]
  congr 1
  · refine sel_add (by rw [List.getElem?_map, hu]; rfl) hj hj' hne (fun k l hk hl hDk p hp q hq e => ?_)
    rw [List.getElem?_map] at hl
    cases huk : us[k]? with
    | none => rw [huk] at hl; simp at hl
    | some uk =>
      rw [huk] at hl
      simp at hl
      subst hl
      have hkl : k < ops.length := by rw [← hT.len]; exact (List.getElem?_eq_some_iff.1 huk).1
      obtain ⟨ok, hok⟩ : ∃ ok, ops[k]? = some ok := ⟨_, List.getElem?_eq_getElem hkl⟩
      obtain ⟨_, h2, _⟩ := hT.upd k ok uk hok huk
      have hd1 := keys_dst h2 hp
      have hd2 := keys_dst q1 hq
      exact later hk hDk (slots_ord hS ho hok hd2 (by rw [← e]; exact dst_slot ok hd1) (by omega))
  · refine sel_add (by rw [List.getElem?_map, hu]; rfl) hj hj' hne (fun k l hk hl hDk p hp q hq e => ?_)
    rw [List.getElem?_map] at hl
    cases huk : us[k]? with
    | none => rw [huk] at hl; simp at hl
    | some uk =>
      rw [huk] at hl
      simp at hl
      subst hl
      have hkl : k < ops.length := by rw [← hT.len]; exact (List.getElem?_eq_some_iff.1 huk).1
      obtain ⟨ok, hok⟩ : ∃ ok, ops[k]? = some ok := ⟨_, List.getElem?_eq_getElem hkl⟩
      obtain ⟨_, _, h2⟩ := hT.upd k ok uk hok huk
      exact later hk hDk (hT.apart j u hu q hq k (by omega) hkl (by rw [← e]; exact h2 p hp)).symm
theorem upd_now (hE : ∀ f ct, E.fn f = some ct → ∀ args f g id0 r, ObLe f g → (ct args f id0).val = some r → (ct args g id0).val = some r) (hb : ∀ j i, bitOf (ms.getD j 0) i = true → i < j) {D : Nat → Bool} (hD : Closed ms D)
    {j : Nat} {o : Oper} {u : Upd} (ho : ops[j]? = some o) (hu : us[j]? = some u) (hj : D j = false) (hanc : ∀ i, bitOf (ms.getD j 0) i = true → D i = true) : UpdV E ops (nx + j * quota) (fun f => f) o (stOf D us s) u := by
  obtain ⟨h, _, _⟩ := hT.upd j o u ho hu
  have hsl : ∀ t ∈ slotsOf ops o, (stOf D us s).sl t = ((us.take j).foldl St.apply s).sl t := fun t ht => slot_same hT hS hD ho hj hanc ht
  have hw : wantS ops (stOf D us s).sl o = wantS ops ((us.take j).foldl St.apply s).sl o := by
    unfold wantS
    split
    · rfl
    · rename_i g want hg
      split
      · rename_i d hd
        rw [hsl d (by simp [slotsOf, hg, hd])]
      · rfl
  rcases h with ⟨h1, h2⟩ | ⟨h1, h2⟩
  · refine .inl ⟨by rw [hw]; exact h1, ?_⟩
    have e1 := plan_congr (E := E) (s := { (us.take j).foldl St.apply s with ob := view nx ms j (Vs.getD j none) ((us.take j).foldl St.apply s).ob }) (s' := { stOf D us s with ob := view nx ms j (Vs.getD j none) ((us.take j).foldl St.apply s).ob })
      (id0 := nx + j * quota) (o := o) (by rw [foldl_apply]; rfl) rfl (fun t ht => by
        refine (hsl t ?_).symm
        simp only [slotsOf, List.mem_append, List.mem_filterMap]
        exact .inr ⟨.tmp t, by simpa using ht, rfl⟩)
    rw [e1] at h2
    exact plan_mono (s := { stOf D us s with ob := view nx ms j (Vs.getD j none) ((us.take j).foldl St.apply s).ob }) (g := (stOf D us s).ob) (ob_le hT hS hb hD ho hj hanc) hE h2
  · exact .inr ⟨by rw [hw]; exact h1, h2⟩
end
section
variable {c : Cx} {s : St} {w0 : World} {Jo : Io} {a : Act} {P : Program} {E : Env} {Q : Exit → Act → World → Prop}
theorem countP_lt {p q : Nat → Bool} {j : Nat} : ∀ {l : List Nat}, j ∈ l → (∀ x, q x = true → p x = true) → p j = true → q j = false → l.countP q < l.countP p
  | [], h, _, _, _ => by simp at h
  | x :: l, h, h1, h2, h3 => by
    have hm : l.countP q ≤ l.countP p := List.countP_mono_left fun x _ => h1 x
    simp only [List.countP_cons]
    by_cases e : x = j
    · subst e; simp [h2, h3]; omega
    · have : j ∈ l := by simpa [show j ≠ x from fun h => e h.symm] using h
      have ih := countP_lt this h1 h2 h3
      cases hq : q x with
      | true => simp [h1 x hq]; omega
      | false => cases p x <;> simp <;> omega
theorem draw_ok (hE : EnvOk P E) {ops : Array Oper} {ms : List Nat} {nx : Nat} {us : List Upd} {Vs : List (Option (List Nat))} (hT : Trace E ops.toList ms nx s us Vs) (hS : slotsOk ops.toList ms ops.size = true) (hG : edgesOk ops.toList ops.size = true)
    (hb : ∀ j i, bitOf (ms.getD j 0) i = true → i < j) (hd : ∀ j o, ops[j]? = some o → ∀ i, bitOf (ms.getD j 0) i = true → ∃ e ∈ o.after, Region.binds .any e = true ∧ (i = e.on ∨ bitOf (ms.getD e.on 0) i = true))
    (hQ : ∀ a' c', RelC c' s.n (us.foldl St.apply s).sl w0 Jo a' → c'.ob = (us.foldl St.apply s).ob → (∀ j, nx + ops.size * quota ≤ j → ¬ c'.A j) → Q .normal a' c'.w) :
    ∀ (fuel : Nat) (listed : Array Bool) (c : Cx) (a : Act), listed.size = ops.size → Closed ms (fun i => listed.getD i false) → (List.range ops.size).countP (fun i => !listed.getD i false) ≤ fuel →
      RelC c s.n (stOf (fun i => listed.getD i false) us s).sl w0 Jo a → c.ob = (stOf (fun i => listed.getD i false) us s).ob → (∀ id, c.A id → id < nx ∨ ∃ k, k < ops.size ∧ listed.getD k false = true ∧ nx + k * quota ≤ id ∧ id < nx + k * quota + quota) →
      wpAny P .any ops Q fuel listed a c.w := by
  have hfn : ∀ f ct, E.fn f = some ct → ∀ args f g id0 r, ObLe f g → (ct args f id0).val = some r → (ct args g id0).val = some r := fun f ct h => (hE.fn f ct h).mono
  have hlen : us.length = ops.size := by rw [hT.len]; simp
  have done : ∀ (listed : Array Bool) (c : Cx) (a : Act), Region.ready .any ops listed = [] → listed.size = ops.size → RelC c s.n (stOf (fun i => listed.getD i false) us s).sl w0 Jo a → c.ob = (stOf (fun i => listed.getD i false) us s).ob →
      (∀ id, c.A id → id < nx ∨ ∃ k, k < ops.size ∧ listed.getD k false = true ∧ nx + k * quota ≤ id ∧ id < nx + k * quota + quota) → Q .normal a c.w := by
    intro listed c a hr hsz h hob hA
    have all : ∀ k, k < ops.size → listed.getD k false = true := by
      intro k
      induction k using Nat.strongRecOn with
      | _ k ih =>
        intro hk
        cases hlk : listed.getD k false with
        | true => rfl
        | false =>
          exfalso
          have : k ∈ Region.ready .any ops listed := by
            rw [mem_ready]
            refine ⟨?_, ops[k], Array.getElem?_eq_getElem hk, fun e he hbn => ?_⟩
            · rw [Array.getD_eq_getD_getElem?, Array.getElem?_eq_getElem (by omega)] at hlk ⊢
              exact hlk
            · have h1 := rangeAll_spec hG k hk
              rw [Array.getElem?_toList, Array.getElem?_eq_getElem hk] at h1
              simp only [List.all_eq_true] at h1
              have h2 := h1 e (by simpa using he)
              rw [hbn, cond_true] at h2
              have h3 : e.on < k := by simpa using h2
              exact ih _ h3 (by omega)
          rw [hr] at this
          simp at this
    have hall := stOf_all (D := fun i => listed.getD i false) us s (fun k hk => all k (by omega))
    rw [hall] at h hob
    refine hQ a c h hob (fun j hj hA' => ?_)
    have hq : quota = 16 := rfl
    rw [hq] at hj
    rcases hA j hA' with e | ⟨k, h1, _, h2, h3⟩
    · omega
    · rw [hq] at h2 h3; omega
  have ready_lt : ∀ {listed : Array Bool} {i : Nat}, i ∈ Region.ready .any ops listed → ∃ o, ops[i]? = some o ∧ listed.getD i true = false ∧ ∀ e ∈ o.after, Region.binds .any e = true → listed.getD e.on false = true := by
    intro listed i hi
    obtain ⟨h1, o, h2, h3⟩ := mem_ready.1 hi
    exact ⟨o, h2, h1, h3⟩
  intro fuel
  induction fuel with
  | zero =>
    intro listed c a hsz hC hcnt h hob hA
    have hr : Region.ready .any ops listed = [] := by
      apply List.eq_nil_iff_forall_not_mem.2
      intro i hi
      obtain ⟨o, h1, h2, _⟩ := ready_lt hi
      have hil : i < ops.size := (Array.getElem?_eq_some_iff.1 h1).1
      have := countP_lt (p := fun i => !listed.getD i false) (q := fun _ => false) (List.mem_range.2 hil) (by simp) (by
        rw [Array.getD_eq_getD_getElem?, Array.getElem?_eq_getElem (by omega)] at h2
        rw [Array.getD_eq_getD_getElem?, Array.getElem?_eq_getElem (by omega)]
        simpa using h2) rfl
      omega
    exact ⟨hr, done listed c a hr hsz h hob hA⟩
  | succ fuel ih =>
    intro listed c a hsz hC hcnt h hob hA
    refine ⟨fun hr => done listed c a hr hsz h hob hA, fun i hi => ?_⟩
    obtain ⟨o, h1, h2, h3⟩ := ready_lt hi
    have hil : i < ops.size := (Array.getElem?_eq_some_iff.1 h1).1
    have hlf : listed.getD i false = false := by
      rw [Array.getD_eq_getD_getElem?, Array.getElem?_eq_getElem (by omega)] at h2 ⊢
      exact h2
    have hanc : ∀ k, bitOf (ms.getD i 0) k = true → listed.getD k false = true := by
      intro k hk
      obtain ⟨e, he, hbn, h4 | h4⟩ := hd i o h1 k hk
      · rw [h4]; exact h3 e he hbn
      · exact hC _ (h3 e he hbn) k h4
    obtain ⟨u, hu⟩ : ∃ u, us[i]? = some u := ⟨_, List.getElem?_eq_getElem (by omega)⟩
    have ho : ops.toList[i]? = some o := by rw [Array.getElem?_toList]; exact h1
    have hset : ∀ k d, (listed.setIfInBounds i true).getD k d = if k = i then true else listed.getD k d := by
      intro k d
      rw [Array.getD_eq_getD_getElem?, Array.getElem?_setIfInBounds, Array.getD_eq_getD_getElem?]
      by_cases e : k = i
      · subst e; rw [if_pos rfl, if_pos rfl, if_pos (by omega)]; rfl
      · rw [if_neg (fun h => e h.symm), if_neg e]
    have hsz' : ops.toList.length = ops.size := by simp
    have hupd := upd_now (D := fun i => listed.getD i false) hT (by rw [hsz']; exact hS) hfn hb hC ho hu hlf hanc
    have hadd := st_add (D := fun i => listed.getD i false) (D' := fun k => (listed.setIfInBounds i true).getD k false) hT (by rw [hsz']; exact hS) hC ho hu hlf (by simp [hset]) (fun k hk => by simp only [hset, if_neg hk])
    have hq : quota = 16 := rfl
    refine wpOp_ok (s := stOf (fun i => listed.getD i false) us s) hE h1 h hob (id0 := nx + i * quota) (fun j hj1 hj2 hA' => ?_) hupd fun a' c' ⟨k1, k2, k3⟩ => ?_
    · rw [hq] at hj1 hj2
      rcases hA j hA' with e | ⟨k, e1, e2, e3, e4⟩
      · omega
      · rw [hq] at e3 e4
        have : k = i := by omega
        subst this
        rw [hlf] at e2; cases e2
    · rw [← hadd] at k1 k2
      refine ih (listed.setIfInBounds i true) c' a' (by simpa using hsz) (fun j hj k hk => ?_) ?_ k2 k1 (fun id hid => ?_)
      · simp only [hset] at hj ⊢
        by_cases e : k = i
        · rw [if_pos e]
        · rw [if_neg e]
          by_cases e2 : j = i
          · subst e2; exact hanc k hk
          · rw [if_neg e2] at hj; exact hC j hj k hk
      · have := countP_lt (p := fun k => !listed.getD k false) (q := fun k => !(listed.setIfInBounds i true).getD k false) (List.mem_range.2 hil) (fun k hk => by
          simp only [hset] at hk
          by_cases e : k = i
          · subst e; simp at hk
          · rw [if_neg e] at hk; exact hk) (by simp [hlf]) (by simp [hset])
        omega
      · rcases k3 id hid with e | e
        · rcases hA id e with e | ⟨k, e1, e2, e3, e4⟩
          · exact .inl e
          · exact .inr ⟨k, e1, by simp only [hset]; by_cases e5 : k = i; rw [if_pos e5]; rw [if_neg e5]; exact e2, e3, e4⟩
        · exact .inr ⟨i, hil, by simp [hset], e.1, e.2⟩
end
end Go.Sx
