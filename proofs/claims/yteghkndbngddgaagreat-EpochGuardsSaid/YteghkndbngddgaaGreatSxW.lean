/- The symbolic executor's meaning: regions whose order is open. -/
import Derived.Test.YteghkndbngddgaaGreatSxV
set_option linter.unusedVariables false
namespace Go.Sx
open Go.RowKit
section
variable {α : Type}
theorem ups_at : ∀ (l : List (Nat × α)) {f g : Nat → α} {t : Nat}, f t = g t → ups f l t = ups g l t
  | [], f, g, t, h => h
  | (k, v) :: l, f, g, t, h => by
    simp only [ups]
    apply ups_at l
    by_cases e : t = k
    · subst e; rw [up_same, up_same]
    · rw [up_ne _ _ e, up_ne _ _ e, h]
theorem ups_none : ∀ (l : List (Nat × α)) {f : Nat → α} {t : Nat}, (∀ p ∈ l, p.1 ≠ t) → ups f l t = f t
  | [], f, t, h => rfl
  | (k, v) :: l, f, t, h => by
    simp only [ups]
    rw [ups_none l (fun p hp => h p (by simp [hp])), up_ne _ _ (fun e => h (k, v) (by simp) e.symm)]
theorem ups_key : ∀ (l : List (Nat × α)) {f g : Nat → α} {t : Nat}, (∃ p ∈ l, p.1 = t) → ups f l t = ups g l t
  | [], f, g, t, h => by simp at h
  | (k, v) :: l, f, g, t, h => by
    simp only [ups]
    by_cases e : t = k
    · subst e; apply ups_at; rw [up_same, up_same]
    · obtain ⟨p, hp, rfl⟩ := h
      simp only [List.mem_cons] at hp
      rcases hp with rfl | hp
      · exact absurd rfl e
      · exact ups_key l ⟨p, hp, rfl⟩
def sel (D : Nat → Bool) : List (List (Nat × α)) → Nat → (Nat → α) → Nat → α
  | [], _, f => f
  | l :: ls, i, f => sel D ls (i + 1) (bif D i then ups f l else f)
theorem sel_agree {D D' : Nat → Bool} {t : Nat} : ∀ (ls : List (List (Nat × α))) (i : Nat) {f g : Nat → α}, (∀ k l, ls[k]? = some l → (∃ p ∈ l, p.1 = t) → D (i + k) = D' (i + k)) → f t = g t → sel D ls i f t = sel D' ls i g t
  | [], i, f, g, h, e => e
  | l :: ls, i, f, g, h, e => by
    simp only [sel]
    apply sel_agree ls (i + 1) (fun k l hk hp => by have := h (k + 1) l (by simpa using hk) hp; rw [show i + 1 + k = i + (k + 1) by omega]; exact this)
    by_cases hp : ∃ p ∈ l, p.1 = t
    · have := h 0 l rfl hp
      simp only [Nat.add_zero] at this
      rw [this]
      cases D' i
      · exact e
      · exact ups_at l e
    · have hn : ∀ p ∈ l, p.1 ≠ t := fun p hm he => hp ⟨p, hm, he⟩
      cases D i <;> cases D' i <;> simp only [cond_true, cond_false, ups_none l hn] <;> exact e
theorem sel_last {D : Nat → Bool} {t : Nat} {l0 : List (Nat × α)} (ht : ∃ p ∈ l0, p.1 = t) {f0 : Nat → α} : ∀ (ls : List (List (Nat × α))) (i k : Nat) {f : Nat → α}, ls[k]? = some l0 → D (i + k) = true →
    (∀ j l, k < j → ls[j]? = some l → D (i + j) = true → ∀ p ∈ l, p.1 ≠ t) → sel D ls i f t = ups f0 l0 t
  | [], i, k, f, h, _, _ => by simp at h
  | l :: ls, i, 0, f, h, hD, hl => by
    simp at h; subst h
    simp only [Nat.add_zero] at hD
    simp only [sel, hD, cond_true]
    have : ∀ (ls : List (List (Nat × α))) (i : Nat) (f : Nat → α), (∀ j l, ls[j]? = some l → D (i + j) = true → ∀ p ∈ l, p.1 ≠ t) → sel D ls i f t = f t := by
      intro ls
      induction ls with
      | nil => intro i f _; rfl
      | cons l ls ih =>
        intro i f h
        simp only [sel]
        rw [ih (i + 1) _ (fun j l hj hd => h (j + 1) l (by simpa using hj) (by rw [show i + (j + 1) = i + 1 + j by omega]; exact hd))]
        cases hd : D i with
        | false => rfl
        | true => exact ups_none l (h 0 l rfl (by simpa using hd))
    rw [this ls (i + 1) _ (fun j l hj hd => hl (j + 1) l (by omega) (by simpa using hj) (by rw [show i + (j + 1) = i + 1 + j by omega]; exact hd))]
    exact ups_key l ht
  | l :: ls, i, k + 1, f, h, hD, hl => by
    simp only [sel]
    exact sel_last ht ls (i + 1) k (by simpa using h) (by rw [show i + 1 + k = i + (k + 1) by omega]; exact hD)
      (fun j l hj hm hd => hl (j + 1) l (by omega) (by simpa using hm) (by rw [show i + (j + 1) = i + 1 + j by omega]; exact hd))
theorem sel_add {D D' : Nat → Bool} {k : Nat} {l0 : List (Nat × α)} {ls : List (List (Nat × α))} {f : Nat → α} (hk : ls[k]? = some l0) (h1 : D k = false) (h2 : D' k = true) (h3 : ∀ i, i ≠ k → D' i = D i)
    (h4 : ∀ j l, k < j → ls[j]? = some l → D j = true → ∀ p ∈ l, ∀ q ∈ l0, p.1 ≠ q.1) : sel D' ls 0 f = ups (sel D ls 0 f) l0 := by
  funext t
  by_cases ht : ∃ p ∈ l0, p.1 = t
  · refine sel_last ht ls 0 k hk (by simpa using h2) (fun j l hj hm hd p hp e => ?_)
    simp only [Nat.zero_add] at hd
    rw [h3 j (by omega)] at hd
    obtain ⟨q, hq, e2⟩ := ht
    exact h4 j l hj hm hd p hp q hq (by rw [e, e2])
  · rw [ups_none l0 (fun p hp e => ht ⟨p, hp, e⟩)]
    apply sel_agree ls 0 _ rfl
    intro j l hj hp
    simp only [Nat.zero_add]
    by_cases e : j = k
    · subst e
      rw [hk] at hj
      cases hj
      exact absurd hp ht
    · exact h3 j e
theorem sel_lt : ∀ (ls : List (List (Nat × α))) (i j : Nat) (f : Nat → α), sel (fun x => decide (x < i + j)) ls i f = (ls.take j).foldl ups f
  | [], i, j, f => by simp [sel]
  | l :: ls, i, 0, f => by
    have : ∀ (ls : List (List (Nat × α))) (m : Nat) (f : Nat → α), i ≤ m → sel (fun x => decide (x < i + 0)) ls m f = f := by
      intro ls
      induction ls with
      | nil => intro m f _; rfl
      | cons l ls ih =>
        intro m f hm
        simp only [sel]
        rw [ih (m + 1) _ (by omega), show decide (m < i + 0) = false by simp; omega]
        rfl
    rw [this _ _ _ (Nat.le_refl _)]
    simp
  | l :: ls, i, j + 1, f => by
    simp only [sel, List.take_succ_cons, List.foldl_cons]
    rw [show decide (i < i + (j + 1)) = true by simp, cond_true, ← sel_lt ls (i + 1) j]
    congr 1
    funext x
    congr 1
    apply propext
    omega
theorem sel_all {D : Nat → Bool} : ∀ (ls : List (List (Nat × α))) (i : Nat) (f : Nat → α), (∀ k, k < ls.length → D (i + k) = true) → sel D ls i f = ls.foldl ups f
  | [], i, f, _ => rfl
  | l :: ls, i, f, h => by
    simp only [sel, List.foldl_cons]
    rw [show D i = true by simpa using h 0 (by simp), cond_true, sel_all ls (i + 1) _ (fun k hk => by rw [show i + 1 + k = i + (k + 1) by omega]; exact h (k + 1) (by simpa using hk))]
end
theorem rangeAll_spec {p : Nat → Bool} : ∀ {n : Nat}, rangeAll p n = true → ∀ i, i < n → p i = true
  | 0, _, i, h => by omega
  | n + 1, h, i, hi => by
    simp only [rangeAll, Bool.and_eq_true] at h
    by_cases e : i = n
    · subst e; exact h.1
    · exact rangeAll_spec h.2 i (by omega)
theorem bitOf_eq (m i : Nat) : bitOf m i = m.testBit i := by
  unfold bitOf
  rw [Bool.eq_iff_iff]
  rw [Nat.testBit]
  simp only [Nat.beq_eq, bne_iff_ne, ne_eq]
  show (m >>> i) &&& 1 = 1 ↔ ¬ (1 &&& m >>> i = 0)
  rw [Nat.and_comm, Nat.one_and_eq_mod_two]
  omega
theorem bit_or (a b i : Nat) : bitOf (Nat.lor a b) i = (bitOf a i || bitOf b i) := by
  rw [bitOf_eq, bitOf_eq, bitOf_eq]; exact Nat.testBit_or a b i
theorem bit_one (k i : Nat) : bitOf (Nat.shiftLeft 1 k) i = decide (i = k) := by
  rw [bitOf_eq]
  show (1 <<< k).testBit i = _
  rw [Nat.one_shiftLeft, Nat.testBit_two_pow]
  rw [Bool.eq_iff_iff]; simp; exact eq_comm
theorem bit_zero (i : Nat) : bitOf 0 i = false := by rw [bitOf_eq]; exact Nat.zero_testBit i
theorem maskOf_bit (acc : List Nat) (i : Nat) : ∀ (l : List Edge) (m : Nat), bitOf (maskOf acc l m) i = true → bitOf m i = true ∨ ∃ e ∈ l, Region.binds .any e = true ∧ (i = e.on ∨ bitOf (acc.getD e.on 0) i = true)
  | [], m, h => .inl h
  | e :: l, m, h => by
    simp only [maskOf] at h
    rcases maskOf_bit acc i l _ h with h | ⟨e', h1, h2⟩
    · cases hb : Region.binds .any e with
      | false => rw [hb] at h; exact .inl h
      | true =>
        rw [hb, cond_true, bit_or, bit_or, bit_one] at h
        simp only [Bool.or_eq_true, decide_eq_true_eq] at h
        rcases h with h | h | h
        · exact .inl h
        · exact .inr ⟨e, by simp, hb, .inl h⟩
        · exact .inr ⟨e, by simp, hb, .inr h⟩
    · exact .inr ⟨e', by simp [h1], h2⟩
theorem masksOf_len : ∀ (l : List Oper) (acc : List Nat), (masksOf l acc).length = acc.length + l.length
  | [], acc => rfl
  | o :: l, acc => by simp only [masksOf]; rw [masksOf_len l]; simp; omega
theorem masksOf_pre : ∀ (l : List Oper) (acc : List Nat) (j : Nat), j < acc.length → (masksOf l acc).getD j 0 = acc.getD j 0
  | [], acc, j, _ => rfl
  | o :: l, acc, j, h => by
    simp only [masksOf]
    rw [masksOf_pre l _ j (by simp; omega)]
    simp [List.getD, List.getElem?_append_left h]
theorem masksOf_get : ∀ (l : List Oper) (acc : List Nat) (j : Nat) (o : Oper), l[j]? = some o → (∀ e ∈ o.after.toList, Region.binds .any e = true → e.on < acc.length + j) →
    (masksOf l acc).getD (acc.length + j) 0 = maskOf (masksOf l acc) o.after.toList 0
  | [], acc, j, o, h, _ => by simp at h
  | o' :: l, acc, 0, o, h, he => by
    simp at h; subst h
    simp only [masksOf, Nat.add_zero]
    rw [masksOf_pre l _ _ (by simp)]
    simp only [List.getD, List.getElem?_append_right (Nat.le_refl _), Nat.sub_self, List.getElem?_cons_zero, Option.getD_some]
    have : ∀ (es : List Edge) (m : Nat), (∀ e ∈ es, Region.binds .any e = true → e.on < acc.length) → maskOf acc es m = maskOf (masksOf l (acc ++ [maskOf acc o'.after.toList 0])) es m := by
      intro es
      induction es with
      | nil => intro m _; rfl
      | cons e es ih =>
        intro m h
        simp only [maskOf]
        cases hb : Region.binds .any e with
        | false => simp only [cond_false]; exact ih _ fun e' h' => h e' (by simp [h'])
        | true =>
          have := h e (by simp) hb
          simp only [cond_true]
          rw [masksOf_pre l _ _ (by simp; omega), show (acc ++ [maskOf acc o'.after.toList 0]).getD e.on 0 = acc.getD e.on 0 by simp [List.getD, List.getElem?_append_left this]]
          exact ih _ fun e' h' => h e' (by simp [h'])
    exact this _ _ (fun e h hb => by simpa using he e h hb)
  | o' :: l, acc, j + 1, o, h, he => by
    simp only [masksOf]
    have := masksOf_get l (acc ++ [maskOf acc o'.after.toList 0]) j o (by simpa using h) (fun e h hb => by have := he e h hb; simp; omega)
    simp only [List.length_append, List.length_singleton] at this
    rw [show acc.length + (j + 1) = acc.length + 1 + j by omega]
    exact this
end Go.Sx
