/- V1: printed by a program of this session: the functions of the seat as plain functions, and that the code comes to them. -/
import Derived.Test.YteghkndbngddgaaW1
import Derived.Test.YteghkndbngddgaaT24
import Derived.Test.YteghkndbngddgaaA4
/- Two ranges are exchanged; a list is rotated. -/
set_option linter.unusedVariables false
set_option linter.unusedSimpArgs false
namespace Go.Sx
open Go.RowKit
theorem getD_at (p : List Page) (u : Page) (r : List Page) (d : Page) {k : Nat} (hk : k = p.length) : (p ++ u :: r).getD k d = u := by subst hk; simp [List.getD]
theorem getD_at2 (p : List Page) (u : Page) (q : List Page) (v : Page) (r : List Page) (d : Page) {k : Nat} (hk : k = p.length + 1 + q.length) : (p ++ u :: (q ++ v :: r)).getD k d = v := by
  have e : p ++ u :: (q ++ v :: r) = (p ++ u :: q) ++ v :: r := by simp
  rw [e]
  exact getD_at _ _ _ _ (by simp; omega)

theorem set_at (p : List Page) (u v : Page) (r : List Page) {k : Nat} (hk : k = p.length) : (p ++ u :: r).set k v = p ++ v :: r := by subst hk; simp

theorem swap_at (p : List Page) (u : Page) (q : List Page) (v : Page) (r : List Page) {k j : Nat} (hk : k = p.length) (hj : j = p.length + 1 + q.length) : ((p ++ u :: (q ++ v :: r)).set k v).set j u = p ++ v :: (q ++ u :: r) := by
  rw [set_at p u v _ hk]
  have e : p ++ v :: (q ++ v :: r) = (p ++ v :: q) ++ v :: r := by simp
  rw [e, set_at _ v u r (by simp; omega)]
  simp

theorem swapRange_eq (X A M B Y : List Page) (hl : A.length = B.length) (hb : (X ++ A ++ M ++ B ++ Y).length ≤ 1000000) {a b n : Int} (ha : a = X.length) (hb2 : b = X.length + A.length + M.length) (hn : n = A.length) :
    slices_swapRangeCmpFunc_Page a b n (X ++ A ++ M ++ B ++ Y) = some (X ++ B ++ M ++ A ++ Y) := by
  subst ha hb2 hn
  simp only [List.length_append] at hb
  have key : slices_swapRangeCmpFunc_PageL1 (X.length : Int) ((X.length : Int) + A.length + M.length) (A.length : Int) (0 : Int) (X ++ A ++ M ++ B ++ Y) = some (X ++ B ++ M ++ A ++ Y) := by
    have st0 : X ++ A ++ M ++ B ++ Y = (X ++ B.take 0) ++ (A.drop 0 ++ (M ++ A.take 0) ++ (B.drop 0 ++ Y)) := by simp
    rw [st0]
    refine iter_for (body := slices_swapRangeCmpFunc_PageL1B) (fun i => ((X.length : Int), (X.length : Int) + A.length + M.length, (A.length : Int), (i : Int), (X ++ B.take i) ++ (A.drop i ++ (M ++ A.take i) ++ (B.drop i ++ Y)))) A.length _ (fun i hi => ?_) ?_ 0 (Nat.zero_le _)
    · show slices_swapRangeCmpFunc_PageL1b _ _ _ _ _ = _
      have hi2 : i < B.length := by omega
      have eA : A.drop i = A[i] :: A.drop (i + 1) := List.drop_eq_getElem_cons hi
      have eB : B.drop i = B[i] :: B.drop (i + 1) := List.drop_eq_getElem_cons hi2
      have st : (X ++ B.take i) ++ (A.drop i ++ (M ++ A.take i) ++ (B.drop i ++ Y)) = (X ++ B.take i) ++ A[i] :: ((A.drop (i + 1) ++ (M ++ A.take i)) ++ B[i] :: (B.drop (i + 1) ++ Y)) := by
        rw [eA, eB]; simp only [List.append_assoc, List.cons_append]
      have hlen : ((X ++ B.take i) ++ (A.drop i ++ (M ++ A.take i) ++ (B.drop i ++ Y))).length = X.length + A.length + M.length + B.length + Y.length := by simp; omega
      have w1 : IntKind.wrap .i64 ((X.length : Int) + A.length + M.length + (i : Int)) = ((X.length + A.length + M.length + i : Nat) : Int) := by rw [i64w (by omega) (by omega)]; omega
      have w2 : IntKind.wrap .i64 ((X.length : Int) + (i : Int)) = ((X.length + i : Nat) : Int) := by rw [i64w (by omega) (by omega)]; omega
      have w3 : IntKind.wrap .i64 ((i : Int) + 1) = ((i + 1 : Nat) : Int) := by rw [i64w (by omega) (by omega)]; omega
      have e1 : decide ((i : Int) < (A.length : Int)) = true := by simp; omega
      have g1 : ∀ d, List.getD ((X ++ B.take i) ++ (A.drop i ++ (M ++ A.take i) ++ (B.drop i ++ Y))) (X.length + i) d = A[i] := fun d => by
        rw [st]; exact getD_at _ _ _ _ (by simp; omega)
      have g2 : ∀ d, List.getD ((X ++ B.take i) ++ (A.drop i ++ (M ++ A.take i) ++ (B.drop i ++ Y))) (X.length + A.length + M.length + i) d = B[i] := fun d => by
        rw [st]; exact getD_at2 _ _ _ _ _ _ (by simp; omega)
      have r1 : inR ((X.length + A.length + M.length + i : Nat) : Int) ((X ++ B.take i) ++ (A.drop i ++ (M ++ A.take i) ++ (B.drop i ++ Y))).length = true := inR_nat (by omega)
      have r2 : inR ((X.length + i : Nat) : Int) ((X ++ B.take i) ++ (A.drop i ++ (M ++ A.take i) ++ (B.drop i ++ Y))).length = true := inR_nat (by omega)
      have r3 : inR ((X.length + A.length + M.length + i : Nat) : Int) (List.set ((X ++ B.take i) ++ (A.drop i ++ (M ++ A.take i) ++ (B.drop i ++ Y))) (X.length + i) B[i]).length = true := by rw [List.length_set]; exact r1
      have s1 : (((X ++ B.take i) ++ (A.drop i ++ (M ++ A.take i) ++ (B.drop i ++ Y))).set (X.length + i) B[i]).set (X.length + A.length + M.length + i) A[i] = (X ++ B.take (i + 1)) ++ (A.drop (i + 1) ++ (M ++ A.take (i + 1)) ++ (B.drop (i + 1) ++ Y)) := by
        have tA : A.take (i + 1) = A.take i ++ [A[i]] := by rw [List.take_add_one, List.getElem?_eq_getElem hi]; rfl
        have tB : B.take (i + 1) = B.take i ++ [B[i]] := by rw [List.take_add_one, List.getElem?_eq_getElem hi2]; rfl
        rw [st, swap_at _ _ _ _ _ (by simp; omega) (by simp; omega), tA, tB]
        simp only [List.append_assoc, List.cons_append, List.nil_append]
      unfold slices_swapRangeCmpFunc_PageL1b
      simp only [e1, w1, w2, w3, Int.toNat_natCast, r1, r2, g1, g2, r3, s1, cond_true]
    · show slices_swapRangeCmpFunc_PageL1b _ _ _ _ _ = _
      unfold slices_swapRangeCmpFunc_PageL1b
      have hA : A.drop A.length = [] := by simp
      have hA2 : A.take A.length = A := by simp
      have hB : B.drop A.length = [] := by rw [hl]; simp
      have hB2 : B.take A.length = B := by rw [hl]; simp
      rw [hA, hA2, hB, hB2]
      simp
  unfold slices_swapRangeCmpFunc_Page
  rw [key]; rfl

theorem rotateL1_eq : ∀ (s : Nat) (X A B Y : List Page) (m i j : Int), A.length + B.length = s → A ≠ [] → B ≠ [] → (X ++ A ++ B ++ Y).length ≤ 1000000 → m = X.length + A.length → i = A.length → j = B.length →
    ∃ X' A' B' Y', slices_rotateCmpFunc_PageL1 m i j (X ++ A ++ B ++ Y) = some (m, (A'.length : Int), X' ++ A' ++ B' ++ Y') ∧ A'.length = B'.length ∧ m = X'.length + A'.length ∧ X' ++ B' ++ A' ++ Y' = X ++ B ++ A ++ Y := by
  intro s
  induction s using Nat.strongRecOn with
  | _ s ih =>
    intro X A B Y m i j hs hA hB hb hm hi hj
    have a1 : 1 ≤ A.length := Nat.pos_of_ne_zero fun h => hA (List.eq_nil_of_length_eq_zero h)
    have b1 : 1 ≤ B.length := Nat.pos_of_ne_zero fun h => hB (List.eq_nil_of_length_eq_zero h)
    have hb' := hb
    simp only [List.length_append] at hb'
    by_cases he : A.length = B.length
    · refine ⟨X, A, B, Y, iter_done ?_, he, hm, rfl⟩
      show slices_rotateCmpFunc_PageL1b m i j (X ++ A ++ B ++ Y) = _
      unfold slices_rotateCmpFunc_PageL1b
      have : decide (i = j) = true := by simp; omega
      simp only [this, Bool.not_true, cond_false]
      rw [hi]
    · have d1 : decide (i = j) = false := by simp; omega
      by_cases hlt : B.length < A.length
      · have d2 : decide (j < i) = true := by simp; omega
        have hA12 : A = A.take B.length ++ A.drop B.length := (List.take_append_drop _ _).symm
        have l1 : (A.take B.length).length = B.length := by simp; omega
        have l2 : (A.drop B.length).length = A.length - B.length := by simp
        have w1 : IntKind.wrap .i64 (m - i) = m - i := i64w (by omega) (by omega)
        have w2 : IntKind.wrap .i64 (i - j) = i - j := i64w (by omega) (by omega)
        have st : X ++ A ++ B ++ Y = X ++ A.take B.length ++ A.drop B.length ++ B ++ Y := by
          conv => lhs; rw [hA12]
          simp
        have hsw := swapRange_eq X (A.take B.length) (A.drop B.length) B Y l1 (by rw [← st]; exact hb) (a := m - i) (b := m) (n := j) (by omega) (by rw [l1, l2]; omega) (by omega)
        rw [← st] at hsw
        have hst2 : X ++ B ++ A.drop B.length ++ A.take B.length ++ Y = (X ++ B) ++ A.drop B.length ++ A.take B.length ++ Y := by simp
        obtain ⟨X', A', B', Y', h1, h2, h3, h4⟩ := ih ((A.drop B.length).length + (A.take B.length).length) (by rw [l1, l2]; omega) (X ++ B) (A.drop B.length) (A.take B.length) Y m (i - j) j rfl (fun h => by rw [h] at l2; simp at l2; omega) (fun h => by rw [h] at l1; simp at l1; omega) (by simp only [List.length_append]; rw [l1, l2]; omega) (by rw [l2]; simp; omega) (by rw [l2]; omega) (by rw [l1]; omega)
        refine ⟨X', A', B', Y', (iter_step ?_).trans h1, h2, h3, ?_⟩
        · show slices_rotateCmpFunc_PageL1b m i j (X ++ A ++ B ++ Y) = _
          unfold slices_rotateCmpFunc_PageL1b
          simp only [d1, d2, Bool.not_false, cond_true, w1, w2, hsw, Option.bind_some]
        · rw [h4]
          conv => rhs; rw [hA12]
          simp
      · have d2 : decide (j < i) = false := by simp; omega
        have hB12 : B = B.take (B.length - A.length) ++ B.drop (B.length - A.length) := (List.take_append_drop _ _).symm
        have l1 : (B.take (B.length - A.length)).length = B.length - A.length := by simp
        have l2 : (B.drop (B.length - A.length)).length = A.length := by simp; omega
        have w1 : IntKind.wrap .i64 (m - i) = m - i := i64w (by omega) (by omega)
        have w2 : IntKind.wrap .i64 (j - i) = j - i := i64w (by omega) (by omega)
        have w3 : IntKind.wrap .i64 (m + j) = m + j := i64w (by omega) (by omega)
        have w4 : IntKind.wrap .i64 (m + j - i) = m + j - i := i64w (by omega) (by omega)
        have st : X ++ A ++ B ++ Y = X ++ A ++ B.take (B.length - A.length) ++ B.drop (B.length - A.length) ++ Y := by
          conv => lhs; rw [hB12]
          simp
        have hsw := swapRange_eq X A (B.take (B.length - A.length)) (B.drop (B.length - A.length)) Y l2.symm (by rw [← st]; exact hb) (a := m - i) (b := m + j - i) (n := i) (by omega) (by rw [l1]; omega) (by omega)
        rw [← st] at hsw
        obtain ⟨X', A', B', Y', h1, h2, h3, h4⟩ := ih ((B.drop (B.length - A.length)).length + (B.take (B.length - A.length)).length) (by rw [l1, l2]; omega) X (B.drop (B.length - A.length)) (B.take (B.length - A.length)) (A ++ Y) m i (j - i) rfl (fun h => by rw [h] at l2; simp at l2; omega) (fun h => by rw [h] at l1; simp at l1; omega) (by simp only [List.length_append]; rw [l1, l2]; omega) (by rw [l2]; omega) (by rw [l2]; omega) (by rw [l1]; omega)
        refine ⟨X', A', B', Y', (iter_step ?_).trans h1, h2, h3, ?_⟩
        · show slices_rotateCmpFunc_PageL1b m i j (X ++ A ++ B ++ Y) = _
          unfold slices_rotateCmpFunc_PageL1b
          simp only [d1, d2, Bool.not_false, cond_true, cond_false, w1, w2, w3, w4, hsw, Option.bind_some]
          show some (Sum.inl (m, i, j - i, X ++ B.drop (B.length - A.length) ++ B.take (B.length - A.length) ++ A ++ Y)) = some (Sum.inl (m, i, j - i, X ++ B.drop (B.length - A.length) ++ B.take (B.length - A.length) ++ (A ++ Y)))
          simp
        · rw [h4]
          conv => rhs; rw [hB12]
          simp

theorem rotate_eq (X A B Y : List Page) (hA : A ≠ []) (hB : B ≠ []) (hb : (X ++ A ++ B ++ Y).length ≤ 1000000) {a m b : Int} (ha : a = X.length) (hm : m = X.length + A.length) (hb2 : b = X.length + A.length + B.length) :
    slices_rotateCmpFunc_Page a m b (X ++ A ++ B ++ Y) = some (X ++ B ++ A ++ Y) := by
  have hb' := hb
  simp only [List.length_append] at hb'
  have w1 : IntKind.wrap .i64 (m - a) = (A.length : Int) := by rw [i64w (by omega) (by omega)]; omega
  have w2 : IntKind.wrap .i64 (b - m) = (B.length : Int) := by rw [i64w (by omega) (by omega)]; omega
  obtain ⟨X', A', B', Y', h1, h2, h3, h4⟩ := rotateL1_eq _ X A B Y m _ _ rfl hA hB hb hm rfl rfl
  have hlen : (X' ++ A' ++ B' ++ Y').length = (X ++ A ++ B ++ Y).length := by
    have := congrArg List.length h4
    simp only [List.length_append] at this ⊢
    omega
  have hl2 := hlen
  simp only [List.length_append] at hl2
  have w3 : IntKind.wrap .i64 (m - (A'.length : Int)) = (X'.length : Int) := by rw [i64w (by omega) (by omega)]; omega
  have hsw := swapRange_eq X' A' [] B' Y' h2 (by rw [List.append_nil, hlen]; exact hb) (a := X'.length) (b := m) (n := A'.length) rfl (by simp; omega) rfl
  rw [List.append_nil, List.append_nil] at hsw
  unfold slices_rotateCmpFunc_Page
  rw [w1, w2, h1]
  simp only [Option.bind_some, w3, hsw, h4]

end Go.Sx

/- Merging two sorted ranges in place: binary search, and ranges of one page. -/
set_option linter.unusedVariables false
set_option linter.unusedSimpArgs false
namespace Go.Sx
open Go.RowKit
/-- A binary search. -/
theorem bsearch {α β : Type} {body : α → Option (α ⊕ β)} (st : Nat → Nat → α) (out : Nat → β) (q : Nat → Bool) (lo hi : Nat) (hlh : lo ≤ hi)
    (hstep : ∀ s r, lo ≤ s → s < r → r ≤ hi → body (st s r) = some (.inl (if q ((s + r) / 2) = true then st ((s + r) / 2 + 1) r else st s ((s + r) / 2))))
    (hdone : ∀ s, lo ≤ s → s ≤ hi → body (st s s) = some (.inr (out s))) (mono : ∀ c c', lo ≤ c → c ≤ c' → c' < hi → q c' = true → q c = true) :
    ∃ s, lo ≤ s ∧ s ≤ hi ∧ iter body (st lo hi) = some (out s) ∧ (∀ c, lo ≤ c → c < s → q c = true) ∧ ∀ c, s ≤ c → c < hi → q c = false := by
  have key : ∀ (d s r : Nat), r - s ≤ d → lo ≤ s → s ≤ r → r ≤ hi → (∀ c, lo ≤ c → c < s → q c = true) → (∀ c, r ≤ c → c < hi → q c = false) →
      ∃ t, lo ≤ t ∧ t ≤ hi ∧ iter body (st s r) = some (out t) ∧ (∀ c, lo ≤ c → c < t → q c = true) ∧ ∀ c, t ≤ c → c < hi → q c = false := by
    intro d
    induction d with
    | zero =>
      intro s r h1 h2 h3 h4 h5 h6
      have : r = s := by omega
      subst this
      exact ⟨r, h2, h4, iter_done (hdone r h2 h4), h5, h6⟩
    | succ d ih =>
      intro s r h1 h2 h3 h4 h5 h6
      by_cases he : s = r
      · subst he
        exact ⟨s, h2, h4, iter_done (hdone s h2 h4), h5, h6⟩
      · have hs := hstep s r h2 (by omega) h4
        cases hq : q ((s + r) / 2) with
        | true =>
          rw [hq, if_pos rfl] at hs
          rw [iter_step hs]
          exact ih _ r (by omega) (by omega) (by omega) h4 (fun c c0 c1 => by
            by_cases hc : c < s
            · exact h5 c c0 hc
            · exact mono c ((s + r) / 2) c0 (by omega) (by omega) hq) h6
        | false =>
          rw [hq, if_neg (by decide)] at hs
          rw [iter_step hs]
          exact ih s _ (by omega) h2 (by omega) (by omega) h5 (fun c c0 c1 => by
            cases hqc : q c with
            | false => rfl
            | true => rw [mono ((s + r) / 2) c (by omega) c0 c1 hqc] at hq; cases hq)
  exact key (hi - lo) lo hi (by omega) (Nat.le_refl _) hlh (Nat.le_refl _) (fun c c0 c1 => by omega) (fun c c0 c1 => by omega)

theorem mid_eq (s r : Nat) (hs : s ≤ 1000000) (hr : r ≤ 1000000) : IntKind.wrap .i64 (shiftR .u64 (IntKind.wrap .u64 (IntKind.wrap .i64 ((s : Int) + (r : Int)))) (1 : Int)) = (((s + r) / 2 : Nat) : Int) := by
  rw [i64w (n := (s : Int) + r) (by omega) (by omega), u64w (by omega) (by omega)]
  have := shr_u64 (a := (s : Int) + r) 1 (by omega)
  have e : ((1 : Nat) : Int) = 1 := rfl
  rw [e] at this
  rw [this, i64w (by omega) (by omega)]
  omega

/-- The line at a place. -/
def ln (D : List Page) (c : Nat) : Int := (D.getD c noPage).1

theorem cmp_at (D : List Page) (i j : Nat) : ∃ r, segment_ascending_1 (D.getD i noPage) (D.getD j noPage) = some r ∧ decide (r < 0) = decide (ln D i < ln D j) := cmp_lt

theorem getD_no (D : List Page) {i : Nat} (hi : i < D.length) (d : Page) : D.getD i d = D.getD i noPage := by simp [List.getD, hi]

theorem ln_mid {X A R : List Page} {k : Nat} (hk : k < A.length) : ln (X ++ A ++ R) (X.length + k) = (A[k]).1 := by
  unfold ln
  have e : (X ++ A ++ R).getD (X.length + k) noPage = A[k] := by
    rw [List.getD_eq_getElem?_getD, List.getElem?_append_left (by simp; omega), List.getElem?_append_right (by omega)]
    simp [hk]
  rw [e]

theorem asc_get {A : List Page} (h : Asc A) {i j : Nat} (hj : j < A.length) (hij : i ≤ j) : (A[i]'(by omega)).1 ≤ (A[j]).1 := by
  by_cases e : i = j
  · subst e; exact Int.le_refl _
  · exact List.pairwise_iff_getElem.1 h i j (by omega) hj (by omega)

/-! One page on the left -/
theorem symL1_eq (X : List Page) (x : Page) (B Y : List Page) (hB : Asc B) (hb : (X ++ [x] ++ B ++ Y).length ≤ 1000000) {a m b : Int} (ha : a = X.length) (hm : m = X.length + 1) (hb2 : b = X.length + 1 + B.length) :
    ∃ s, s ≤ B.length ∧ slices_symMergeCmpFunc_PageL1 a m b (X ++ [x] ++ B ++ Y) = some (a, m + s, X ++ [x] ++ B ++ Y) ∧ (∀ k (hk : k < B.length), k < s → (B[k]).1 < x.1) ∧ ∀ k (hk : k < B.length), s ≤ k → x.1 ≤ (B[k]).1 := by
  have hb' := hb
  simp only [List.length_append, List.length_singleton] at hb'
  generalize hD : X ++ [x] ++ B ++ Y = D at hb
  have hDl : D.length = X.length + 1 + B.length + Y.length := by rw [← hD]; simp; omega
  have hx : ln D X.length = x.1 := by
    have := ln_mid (X := X) (A := [x]) (R := B ++ Y) (k := 0) (by simp)
    have e : X ++ [x] ++ (B ++ Y) = D := by rw [← hD]; simp
    rw [e] at this
    simpa using this
  have hBk : ∀ k (hk : k < B.length), ln D (X.length + 1 + k) = (B[k]).1 := fun k hk => by
    have := ln_mid (X := X ++ [x]) (A := B) (R := Y) hk
    rw [hD] at this
    simpa using this
  obtain ⟨s, h1, h2, h3, h4, h5⟩ := bsearch (body := slices_symMergeCmpFunc_PageL1B) (fun s r => ((X.length : Int), (s : Int), (r : Int), D)) (fun s => ((X.length : Int), (s : Int), D)) (fun c => decide (ln D c < ln D X.length)) (X.length + 1) (X.length + 1 + B.length) (by omega) (fun s r hs hr hrh => by
      show slices_symMergeCmpFunc_PageL1b _ _ _ _ = _
      unfold slices_symMergeCmpFunc_PageL1b
      have e1 : decide ((s : Int) < (r : Int)) = true := by simp; omega
      have e2 := mid_eq s r (by omega) (by omega)
      have r1 : inR (((s + r) / 2 : Nat) : Int) D.length = true := inR_nat (by omega)
      have r2 : inR ((X.length : Nat) : Int) D.length = true := inR_nat (by omega)
      obtain ⟨v, c1, c2⟩ := cmp_at D ((s + r) / 2) X.length
      have w1 : IntKind.wrap .i64 ((((s + r) / 2 : Nat) : Int) + 1) = (((s + r) / 2 + 1 : Nat) : Int) := by rw [i64w (by omega) (by omega)]; omega
      have g1 : ∀ d, List.getD D (Int.toNat (((s + r) / 2 : Nat) : Int)) d = D.getD ((s + r) / 2) noPage := fun d => by rw [Int.toNat_natCast]; exact getD_no D (by omega) d
      have g2 : ∀ d, List.getD D (Int.toNat ((X.length : Nat) : Int)) d = D.getD X.length noPage := fun d => by rw [Int.toNat_natCast]; exact getD_no D (by omega) d
      simp only [e1, cond_true, e2, r1, r2, g1, g2, c1, Option.bind_some, c2, w1]
      cases hq : decide (ln D ((s + r) / 2) < ln D X.length) <;> simp [hq]) (fun s hs hr => by
      show slices_symMergeCmpFunc_PageL1b _ _ _ _ = _
      unfold slices_symMergeCmpFunc_PageL1b
      simp) (fun c c' h1 h2 h3 hq => by
      simp only [decide_eq_true_eq] at hq ⊢
      have e1 := hBk (c - (X.length + 1)) (by omega)
      have e2 := hBk (c' - (X.length + 1)) (by omega)
      rw [show X.length + 1 + (c - (X.length + 1)) = c by omega] at e1
      rw [show X.length + 1 + (c' - (X.length + 1)) = c' by omega] at e2
      rw [e1]; rw [e2] at hq
      have := asc_get hB (i := c - (X.length + 1)) (j := c' - (X.length + 1)) (by omega) (by omega)
      omega)
  refine ⟨s - (X.length + 1), by omega, ?_, fun k hk hks => ?_, fun k hk hks => ?_⟩
  · subst ha hm hb2
    have e1 : ((X.length + 1 : Nat) : Int) = (X.length : Int) + 1 := by omega
    have e2 : ((X.length + 1 + B.length : Nat) : Int) = (X.length : Int) + 1 + B.length := by omega
    have e3 : (X.length : Int) + 1 + ((s - (X.length + 1) : Nat) : Int) = (s : Int) := by omega
    rw [e1, e2] at h3
    rw [e3]
    exact h3
  · have := h4 (X.length + 1 + k) (by omega) (by omega)
    simp only [decide_eq_true_eq] at this
    rw [hBk k hk, hx] at this
    exact this
  · have := h5 (X.length + 1 + k) (by omega) (by omega)
    simp only [decide_eq_false_iff_not] at this
    rw [hBk k hk, hx] at this
    omega

theorem symL2_eq (X : List Page) (x : Page) (B Y : List Page) (s : Nat) (hs : s ≤ B.length) (hb : (X ++ [x] ++ B ++ Y).length ≤ 1000000) {a i : Int} (ha : a = X.length) (hi : i = X.length + 1 + s) :
    slices_symMergeCmpFunc_PageL2 i a (X ++ [x] ++ B ++ Y) = some (X ++ (B.take s ++ x :: B.drop s) ++ Y) := by
  have hb' := hb
  simp only [List.length_append, List.length_singleton] at hb'
  subst ha hi
  have st0 : X ++ [x] ++ B ++ Y = X ++ (B.take 0 ++ x :: B.drop 0) ++ Y := by simp
  rw [st0]
  have h0 : (X.length : Int) = ((X.length + 0 : Nat) : Int) := by omega
  have key := iter_for (body := slices_symMergeCmpFunc_PageL2B) (fun k => ((X.length : Int) + 1 + (s : Int), ((X.length + k : Nat) : Int), X ++ (B.take k ++ x :: B.drop k) ++ Y)) s (X ++ (B.take s ++ x :: B.drop s) ++ Y) (fun k hk => ?_) ?_ 0 (Nat.zero_le _)
  · rw [show ((X.length + 0 : Nat) : Int) = (X.length : Int) by omega] at key
    exact key
  · show slices_symMergeCmpFunc_PageL2b _ _ _ = _
    have hkB : k < B.length := by omega
    have eB : B.drop k = B[k] :: B.drop (k + 1) := List.drop_eq_getElem_cons hkB
    have st : X ++ (B.take k ++ x :: B.drop k) ++ Y = (X ++ B.take k) ++ x :: ([] ++ B[k] :: (B.drop (k + 1) ++ Y)) := by
      rw [eB]; simp only [List.append_assoc, List.cons_append, List.nil_append]
    have hlen : (X ++ (B.take k ++ x :: B.drop k) ++ Y).length = X.length + 1 + B.length + Y.length := by simp; omega
    have w0 : IntKind.wrap .i64 ((X.length : Int) + 1 + (s : Int) - 1) = (X.length : Int) + s := by rw [i64w (by omega) (by omega)]; omega
    have e1 : decide (((X.length + k : Nat) : Int) < (X.length : Int) + s) = true := by simp; omega
    have w1 : IntKind.wrap .i64 (((X.length + k : Nat) : Int) + 1) = ((X.length + (k + 1) : Nat) : Int) := by rw [i64w (by omega) (by omega)]; omega
    have r1 : inR ((X.length + (k + 1) : Nat) : Int) (X ++ (B.take k ++ x :: B.drop k) ++ Y).length = true := inR_nat (by omega)
    have r2 : inR ((X.length + k : Nat) : Int) (X ++ (B.take k ++ x :: B.drop k) ++ Y).length = true := inR_nat (by omega)
    have g1 : ∀ d, List.getD (X ++ (B.take k ++ x :: B.drop k) ++ Y) (X.length + k) d = x := fun d => by rw [st]; exact getD_at _ _ _ _ (by simp; omega)
    have g2 : ∀ d, List.getD (X ++ (B.take k ++ x :: B.drop k) ++ Y) (X.length + (k + 1)) d = B[k] := fun d => by rw [st]; exact getD_at2 _ _ _ _ _ _ (by simp; omega)
    have r3 : inR ((X.length + (k + 1) : Nat) : Int) (List.set (X ++ (B.take k ++ x :: B.drop k) ++ Y) (X.length + k) B[k]).length = true := by rw [List.length_set]; exact r1
    have s1 : ((X ++ (B.take k ++ x :: B.drop k) ++ Y).set (X.length + k) B[k]).set (X.length + (k + 1)) x = X ++ (B.take (k + 1) ++ x :: B.drop (k + 1)) ++ Y := by
      have tB : B.take (k + 1) = B.take k ++ [B[k]] := by rw [List.take_add_one, List.getElem?_eq_getElem hkB]; rfl
      rw [st, swap_at _ _ _ _ _ (by simp; omega) (by simp; omega), tB]
      simp only [List.append_assoc, List.cons_append, List.nil_append]
    unfold slices_symMergeCmpFunc_PageL2b
    simp only [w0, e1, w1, Int.toNat_natCast, r1, r2, g1, g2, r3, s1, cond_true]
  · show slices_symMergeCmpFunc_PageL2b _ _ _ = _
    have w0 : IntKind.wrap .i64 ((X.length : Int) + 1 + (s : Int) - 1) = (X.length : Int) + s := by rw [i64w (by omega) (by omega)]; omega
    have e1 : decide (((X.length + s : Nat) : Int) < (X.length : Int) + s) = false := by simp
    unfold slices_symMergeCmpFunc_PageL2b
    simp only [w0, e1, cond_false]

/-! One page on the right -/
theorem symL3_eq (X A : List Page) (y : Page) (Y : List Page) (hA : Asc A) (hb : (X ++ A ++ [y] ++ Y).length ≤ 1000000) {a m : Int} (ha : a = X.length) (hm : m = X.length + A.length) :
    ∃ s, s ≤ A.length ∧ slices_symMergeCmpFunc_PageL3 m a m (X ++ A ++ [y] ++ Y) = some (m, a + s, X ++ A ++ [y] ++ Y) ∧ (∀ k (hk : k < A.length), k < s → (A[k]).1 ≤ y.1) ∧ ∀ k (hk : k < A.length), s ≤ k → y.1 < (A[k]).1 := by
  have hb' := hb
  simp only [List.length_append, List.length_singleton] at hb'
  generalize hD : X ++ A ++ [y] ++ Y = D at hb
  have hDl : D.length = X.length + A.length + 1 + Y.length := by rw [← hD]; simp; omega
  have hy : ln D (X.length + A.length) = y.1 := by
    have := ln_mid (X := X ++ A) (A := [y]) (R := Y) (k := 0) (by simp)
    rw [hD] at this
    simpa using this
  have hAk : ∀ k (hk : k < A.length), ln D (X.length + k) = (A[k]).1 := fun k hk => by
    have := ln_mid (X := X) (A := A) (R := [y] ++ Y) hk
    have e : X ++ A ++ ([y] ++ Y) = D := by rw [← hD]; simp
    rw [e] at this
    exact this
  obtain ⟨s, h1, h2, h3, h4, h5⟩ := bsearch (body := slices_symMergeCmpFunc_PageL3B) (fun s r => (((X.length + A.length : Nat) : Int), (s : Int), (r : Int), D)) (fun s => (((X.length + A.length : Nat) : Int), (s : Int), D)) (fun c => !decide (ln D (X.length + A.length) < ln D c)) X.length (X.length + A.length) (by omega) (fun s r hs hr hrh => by
      show slices_symMergeCmpFunc_PageL3b _ _ _ _ = _
      unfold slices_symMergeCmpFunc_PageL3b
      have e1 : decide ((s : Int) < (r : Int)) = true := by simp; omega
      have e2 := mid_eq s r (by omega) (by omega)
      have r1 : inR (((s + r) / 2 : Nat) : Int) D.length = true := inR_nat (by omega)
      have r2 : inR ((X.length + A.length : Nat) : Int) D.length = true := inR_nat (by omega)
      obtain ⟨v, c1, c2⟩ := cmp_at D (X.length + A.length) ((s + r) / 2)
      have w1 : IntKind.wrap .i64 ((((s + r) / 2 : Nat) : Int) + 1) = (((s + r) / 2 + 1 : Nat) : Int) := by rw [i64w (by omega) (by omega)]; omega
      have g1 : ∀ d, List.getD D (Int.toNat (((s + r) / 2 : Nat) : Int)) d = D.getD ((s + r) / 2) noPage := fun d => by rw [Int.toNat_natCast]; exact getD_no D (by omega) d
      have g2 : ∀ d, List.getD D (Int.toNat ((X.length + A.length : Nat) : Int)) d = D.getD (X.length + A.length) noPage := fun d => by rw [Int.toNat_natCast]; exact getD_no D (by omega) d
      simp only [e1, cond_true, e2, r1, r2, g1, g2, c1, Option.bind_some, c2, w1]
      cases hq : decide (ln D (X.length + A.length) < ln D ((s + r) / 2)) <;> simp [hq]) (fun s hs hr => by
      show slices_symMergeCmpFunc_PageL3b _ _ _ _ = _
      unfold slices_symMergeCmpFunc_PageL3b
      simp) (fun c c' h1 h2 h3 hq => by
      simp only [Bool.not_eq_true', decide_eq_false_iff_not] at hq ⊢
      have e1 := hAk (c - X.length) (by omega)
      have e2 := hAk (c' - X.length) (by omega)
      rw [show X.length + (c - X.length) = c by omega] at e1
      rw [show X.length + (c' - X.length) = c' by omega] at e2
      rw [e1]; rw [e2] at hq
      have := asc_get hA (i := c - X.length) (j := c' - X.length) (by omega) (by omega)
      omega)
  refine ⟨s - X.length, by omega, ?_, fun k hk hks => ?_, fun k hk hks => ?_⟩
  · subst ha hm
    have e1 : ((X.length + A.length : Nat) : Int) = (X.length : Int) + A.length := by omega
    have e3 : (X.length : Int) + ((s - X.length : Nat) : Int) = (s : Int) := by omega
    rw [e1] at h3
    rw [e3]
    exact h3
  · have := h4 (X.length + k) (by omega) (by omega)
    simp only [Bool.not_eq_true', decide_eq_false_iff_not] at this
    rw [hAk k hk, hy] at this
    omega
  · have := h5 (X.length + k) (by omega) (by omega)
    simp only [Bool.not_eq_false', decide_eq_true_eq] at this
    rw [hAk k hk, hy] at this
    omega

theorem symL4_eq (X A : List Page) (y : Page) (Y : List Page) (s : Nat) (hs : s ≤ A.length) (hb : (X ++ A ++ [y] ++ Y).length ≤ 1000000) {m i : Int} (hm : m = X.length + A.length) (hi : i = X.length + s) :
    slices_symMergeCmpFunc_PageL4 i m (X ++ A ++ [y] ++ Y) = some (X ++ (A.take s ++ y :: A.drop s) ++ Y) := by
  have hb' := hb
  simp only [List.length_append, List.length_singleton] at hb'
  subst hm hi
  have st0 : X ++ A ++ [y] ++ Y = X ++ (A.take (A.length - 0) ++ y :: A.drop (A.length - 0)) ++ Y := by simp
  rw [st0]
  have key := iter_for (body := slices_symMergeCmpFunc_PageL4B) (fun k => ((X.length : Int) + (s : Int), ((X.length + (A.length - k) : Nat) : Int), X ++ (A.take (A.length - k) ++ y :: A.drop (A.length - k)) ++ Y)) (A.length - s) (X ++ (A.take s ++ y :: A.drop s) ++ Y) (fun k hk => ?_) ?_ 0 (Nat.zero_le _)
  · rw [show ((X.length + (A.length - 0) : Nat) : Int) = (X.length : Int) + A.length by omega] at key
    exact key
  · show slices_symMergeCmpFunc_PageL4b _ _ _ = _
    obtain ⟨j, hj⟩ : ∃ j, A.length - k = j + 1 := ⟨A.length - k - 1, by omega⟩
    have hj2 : A.length - (k + 1) = j := by omega
    rw [hj, hj2]
    have hjA : j < A.length := by omega
    have eA : A.drop j = A[j] :: A.drop (j + 1) := List.drop_eq_getElem_cons hjA
    have tA : A.take (j + 1) = A.take j ++ [A[j]] := by rw [List.take_add_one, List.getElem?_eq_getElem hjA]; rfl
    have st : X ++ (A.take (j + 1) ++ y :: A.drop (j + 1)) ++ Y = (X ++ A.take j) ++ A[j] :: ([] ++ y :: (A.drop (j + 1) ++ Y)) := by
      rw [tA]; simp only [List.append_assoc, List.cons_append, List.nil_append]
    have hlen : (X ++ (A.take (j + 1) ++ y :: A.drop (j + 1)) ++ Y).length = X.length + 1 + A.length + Y.length := by simp; omega
    have e1 : decide ((X.length : Int) + s < ((X.length + (j + 1) : Nat) : Int)) = true := by simp; omega
    have w1 : IntKind.wrap .i64 (((X.length + (j + 1) : Nat) : Int) - 1) = ((X.length + j : Nat) : Int) := by rw [i64w (by omega) (by omega)]; omega
    have r1 : inR ((X.length + (j + 1) : Nat) : Int) (X ++ (A.take (j + 1) ++ y :: A.drop (j + 1)) ++ Y).length = true := inR_nat (by omega)
    have r2 : inR ((X.length + j : Nat) : Int) (X ++ (A.take (j + 1) ++ y :: A.drop (j + 1)) ++ Y).length = true := inR_nat (by omega)
    have g1 : ∀ d, List.getD (X ++ (A.take (j + 1) ++ y :: A.drop (j + 1)) ++ Y) (X.length + j) d = A[j] := fun d => by rw [st]; exact getD_at _ _ _ _ (by simp; omega)
    have g2 : ∀ d, List.getD (X ++ (A.take (j + 1) ++ y :: A.drop (j + 1)) ++ Y) (X.length + (j + 1)) d = y := fun d => by rw [st]; exact getD_at2 _ _ _ _ _ _ (by simp; omega)
    have r3 : inR ((X.length + j : Nat) : Int) (List.set (X ++ (A.take (j + 1) ++ y :: A.drop (j + 1)) ++ Y) (X.length + (j + 1)) A[j]).length = true := by rw [List.length_set]; exact r2
    have s1 : ((X ++ (A.take (j + 1) ++ y :: A.drop (j + 1)) ++ Y).set (X.length + (j + 1)) A[j]).set (X.length + j) y = X ++ (A.take j ++ y :: A.drop j) ++ Y := by
      rw [List.set_comm _ _ (by omega), st, swap_at _ _ _ _ _ (by simp; omega) (by simp; omega), eA]
      simp only [List.append_assoc, List.cons_append, List.nil_append]
    unfold slices_symMergeCmpFunc_PageL4b
    simp only [e1, w1, Int.toNat_natCast, r1, r2, g1, g2, r3, s1, cond_true]
  · show slices_symMergeCmpFunc_PageL4b _ _ _ = _
    rw [show A.length - (A.length - s) = s by omega]
    have e1 : decide ((X.length : Int) + s < ((X.length + s : Nat) : Int)) = false := by simp
    unfold slices_symMergeCmpFunc_PageL4b
    simp only [e1, cond_false]

end Go.Sx

/- Merging two sorted ranges in place. -/
set_option linter.unusedVariables false
set_option linter.unusedSimpArgs false
namespace Go.Sx
open Go.RowKit
def smTail (b1 b2 b3 b4 b5 b6 : Bool) (rot : Option (List Page)) (d : List Page) (ra rb : List Page → Option (List Page)) : Option (List Page) :=
  (bif b1 && b2 then rot else some d).bind fun d1 => (bif b3 && b4 then ra d1 else some d1).bind fun d2 => bif b5 && b6 then rb d2 else some d2

theorem tail_eq (b1 b2 b3 b4 b5 b6 : Bool) (rot : Option (List Page)) (d : List Page) (ra rb : List Page → Option (List Page)) : (
    bif b1 then (
      bif b2 then (
        (rot).bind fun r6 =>
        bif b3 then (
          bif b4 then (
            (ra r6).bind fun r7 =>
            bif b5 then (
              bif b6 then (
                (rb r7).bind fun r8 =>
                some r8)
              else (
                some r7))
            else (
              some r7))
          else (
            bif b5 then (
              bif b6 then (
                (rb r6).bind fun r9 =>
                some r9)
              else (
                some r6))
            else (
              some r6)))
        else (
          bif b5 then (
            bif b6 then (
              (rb r6).bind fun r10 =>
              some r10)
            else (
              some r6))
          else (
            some r6)))
      else (
        bif b3 then (
          bif b4 then (
            (ra d).bind fun r11 =>
            bif b5 then (
              bif b6 then (
                (rb r11).bind fun r12 =>
                some r12)
              else (
                some r11))
            else (
              some r11))
          else (
            bif b5 then (
              bif b6 then (
                (rb d).bind fun r13 =>
                some r13)
              else (
                some d))
            else (
              some d)))
        else (
          bif b5 then (
            bif b6 then (
              (rb d).bind fun r14 =>
              some r14)
            else (
              some d))
          else (
            some d))))
    else (
      bif b3 then (
        bif b4 then (
          (ra d).bind fun r15 =>
          bif b5 then (
            bif b6 then (
              (rb r15).bind fun r16 =>
              some r16)
            else (
              some r15))
          else (
            some r15))
        else (
          bif b5 then (
            bif b6 then (
              (rb d).bind fun r17 =>
              some r17)
            else (
              some d))
          else (
            some d)))
      else (
        bif b5 then (
          bif b6 then (
            (rb d).bind fun r18 =>
            some r18)
          else (
            some d))
        else (
          some d)))) = smTail b1 b2 b3 b4 b5 b6 rot d ra rb := by
  unfold smTail
  cases b1 <;> cases b2 <;> cases b3 <;> cases b4 <;> cases b5 <;> cases b6 <;> simp

theorem symL5_eq (X A B Y : List Page) (hA : Asc A) (hB : Asc B) (hb : (X ++ A ++ B ++ Y).length ≤ 1000000) (lo hi mid : Nat) (h0 : X.length ≤ lo) (h1 : lo ≤ hi) (h2 : hi ≤ X.length + A.length) (h3 : hi ≤ mid) (h4 : mid ≤ lo + B.length) (h5 : mid ≤ 1000000) {a m b md nn p l r : Int}
    (hl : l = lo) (hr : r = hi) (hp : p = ((mid + X.length + A.length : Nat) : Int) - 1) :
    ∃ s, lo ≤ s ∧ s ≤ hi ∧ slices_symMergeCmpFunc_PageL5 a m b md nn l r p (X ++ A ++ B ++ Y) = some (a, m, b, md, nn, (s : Int), X ++ A ++ B ++ Y) ∧ (∀ c (i j : Nat) (hi : i < A.length) (hj : j < B.length), lo ≤ c → c < s → c = X.length + i → j + 1 + c = mid → (A[i]).1 ≤ (B[j]).1) ∧
      ∀ c (i j : Nat) (hi2 : i < A.length) (hj : j < B.length), s ≤ c → c < hi → c = X.length + i → j + 1 + c = mid → (B[j]).1 < (A[i]).1 := by
  have hb' := hb
  simp only [List.length_append] at hb'
  generalize hD : X ++ A ++ B ++ Y = D at hb
  have hDl : D.length = X.length + A.length + B.length + Y.length := by rw [← hD]; simp; omega
  have hAk : ∀ k (hk : k < A.length), ln D (X.length + k) = (A[k]).1 := fun k hk => by
    have := ln_mid (X := X) (A := A) (R := B ++ Y) hk
    have e : X ++ A ++ (B ++ Y) = D := by rw [← hD]; simp
    rw [e] at this
    exact this
  have hBk : ∀ k (hk : k < B.length), ln D (X.length + A.length + k) = (B[k]).1 := fun k hk => by
    have := ln_mid (X := X ++ A) (A := B) (R := Y) hk
    rw [hD] at this
    simpa using this
  subst hl hr hp
  obtain ⟨s, q1, q2, q3, q4, q5⟩ := bsearch (body := slices_symMergeCmpFunc_PageL5B) (fun s r => (a, m, b, md, nn, (s : Int), (r : Int), ((mid + X.length + A.length : Nat) : Int) - 1, D)) (fun s => (a, m, b, md, nn, (s : Int), D)) (fun c => !decide (ln D (mid + X.length + A.length - 1 - c) < ln D c)) lo hi h1 (fun s r hs hr hrh => by
      show slices_symMergeCmpFunc_PageL5b _ _ _ _ _ _ _ _ _ = _
      unfold slices_symMergeCmpFunc_PageL5b
      have e1 : decide ((s : Int) < (r : Int)) = true := by simp; omega
      have e2 := mid_eq s r (by omega) (by omega)
      have w2 : IntKind.wrap .i64 (((mid + X.length + A.length : Nat) : Int) - 1 - (((s + r) / 2 : Nat) : Int)) = ((mid + X.length + A.length - 1 - (s + r) / 2 : Nat) : Int) := by rw [i64w (by omega) (by omega)]; omega
      have r1 : inR (((s + r) / 2 : Nat) : Int) D.length = true := inR_nat (by omega)
      have r2 : inR ((mid + X.length + A.length - 1 - (s + r) / 2 : Nat) : Int) D.length = true := inR_nat (by omega)
      obtain ⟨v, c1, c2⟩ := cmp_at D (mid + X.length + A.length - 1 - (s + r) / 2) ((s + r) / 2)
      have w1 : IntKind.wrap .i64 ((((s + r) / 2 : Nat) : Int) + 1) = (((s + r) / 2 + 1 : Nat) : Int) := by rw [i64w (by omega) (by omega)]; omega
      have g1 : ∀ d, List.getD D (Int.toNat (((s + r) / 2 : Nat) : Int)) d = D.getD ((s + r) / 2) noPage := fun d => by rw [Int.toNat_natCast]; exact getD_no D (by omega) d
      have g2 : ∀ d, List.getD D (Int.toNat ((mid + X.length + A.length - 1 - (s + r) / 2 : Nat) : Int)) d = D.getD (mid + X.length + A.length - 1 - (s + r) / 2) noPage := fun d => by rw [Int.toNat_natCast]; exact getD_no D (by omega) d
      simp only [e1, cond_true, e2, w2, r1, r2, g1, g2, c1, Option.bind_some, c2, w1]
      cases hq : decide (ln D (mid + X.length + A.length - 1 - (s + r) / 2) < ln D ((s + r) / 2)) <;> simp [hq]) (fun s hs hr => by
      show slices_symMergeCmpFunc_PageL5b _ _ _ _ _ _ _ _ _ = _
      unfold slices_symMergeCmpFunc_PageL5b
      simp) (fun c c' k1 k2 k3 hq => by
      simp only [Bool.not_eq_true', decide_eq_false_iff_not] at hq ⊢
      have e1 := hAk (c - X.length) (by omega)
      have e2 := hAk (c' - X.length) (by omega)
      have e3 := hBk (mid - 1 - c) (by omega)
      have e4 := hBk (mid - 1 - c') (by omega)
      rw [show X.length + (c - X.length) = c by omega] at e1
      rw [show X.length + (c' - X.length) = c' by omega] at e2
      rw [show X.length + A.length + (mid - 1 - c) = mid + X.length + A.length - 1 - c by omega] at e3
      rw [show X.length + A.length + (mid - 1 - c') = mid + X.length + A.length - 1 - c' by omega] at e4
      rw [e1, e3]; rw [e2, e4] at hq
      have f1 := asc_get hA (i := c - X.length) (j := c' - X.length) (by omega) (by omega)
      have f2 := asc_get hB (i := mid - 1 - c') (j := mid - 1 - c) (by omega) (by omega)
      omega)
  refine ⟨s, q1, q2, q3, fun c i j hi hj k1 k2 k3 k4 => ?_, fun c i j hi hj k1 k2 k3 k4 => ?_⟩
  · have := q4 c k1 k2
    simp only [Bool.not_eq_true', decide_eq_false_iff_not] at this
    have e1 := hAk i hi
    have e3 := hBk j hj
    rw [show X.length + i = c by omega] at e1
    rw [show X.length + A.length + j = mid + X.length + A.length - 1 - c by omega] at e3
    rw [e1, e3] at this
    omega
  · have := q5 c k1 k2
    simp only [Bool.not_eq_false', decide_eq_true_eq] at this
    have e1 := hAk i hi
    have e3 := hBk j hj
    rw [show X.length + i = c by omega] at e1
    rw [show X.length + A.length + j = mid + X.length + A.length - 1 - c by omega] at e3
    rw [e1, e3] at this
    exact this

theorem asc_take_get {A : List Page} (h : Asc A) {i : Nat} {x : Page} (hx : x ∈ A.take i) (hi : i ≤ A.length) (h0 : 0 < i) : x.1 ≤ (A[i - 1]'(by omega)).1 := by
  obtain ⟨j, hj, rfl⟩ := List.mem_take_iff_getElem.1 hx
  exact asc_get h (by omega) (by omega)

theorem asc_drop_get {A : List Page} (h : Asc A) {i : Nat} {x : Page} (hx : x ∈ A.drop i) (hi : i < A.length) : (A[i]).1 ≤ x.1 := by
  obtain ⟨j, hj, rfl⟩ := List.mem_drop_iff_getElem.1 hx
  exact asc_get h (by omega) (by omega)

theorem asc_parts {A : List Page} (h : Asc A) (i : Nat) : Asc (A.take i) ∧ Asc (A.drop i) ∧ ∀ x ∈ A.take i, ∀ y ∈ A.drop i, x.1 ≤ y.1 := by
  have h2 : Asc (A.take i ++ A.drop i) := by rw [List.take_append_drop]; exact h
  exact List.pairwise_append.1 h2

theorem symMerge_fine : ∀ (f : Nat) (X A B Y : List Page), A ≠ [] → B ≠ [] → A.length + B.length ≤ f → (X ++ A ++ B ++ Y).length ≤ 1000 → Asc A → Asc B → ∀ a m b : Int, a = X.length → m = X.length + A.length → b = X.length + A.length + B.length →
    ∃ L, slices_symMergeCmpFunc_Page f a m b (X ++ A ++ B ++ Y) = some (X ++ L ++ Y) ∧ Asc L ∧ L.Perm (A ++ B) := by
  intro f
  induction f with
  | zero =>
    intro X A B Y hA hB hf
    exact absurd (List.eq_nil_of_length_eq_zero (by omega)) hA
  | succ f ih =>
    intro X A B Y hAn hBn hf hb hA hB a m b ha hm hb2
    have a1 : 1 ≤ A.length := Nat.pos_of_ne_zero fun h => hAn (List.eq_nil_of_length_eq_zero h)
    have b1 : 1 ≤ B.length := Nat.pos_of_ne_zero fun h => hBn (List.eq_nil_of_length_eq_zero h)
    have hb' := hb
    simp only [List.length_append] at hb'
    have w1 : IntKind.wrap .i64 (m - a) = (A.length : Int) := by rw [i64w (by omega) (by omega)]; omega
    have w2 : IntKind.wrap .i64 (b - m) = (B.length : Int) := by rw [i64w (by omega) (by omega)]; omega
    show ∃ L, slices_symMergeCmpFunc_Pageb (slices_symMergeCmpFunc_Page f) a m b (X ++ A ++ B ++ Y) = some (X ++ L ++ Y) ∧ _
    by_cases hA1 : A.length = 1
    · obtain ⟨x, rfl⟩ := List.length_eq_one_iff.1 hA1
      have e1 : decide ((([x] : List Page).length : Int) = 1) = true := by simp
      obtain ⟨s, s1, s2, s3, s4⟩ := symL1_eq X x B Y hB (by omega) ha (m := m) (b := b) (by rw [hm]; simp) (by rw [hb2]; simp)
      have hL2 := symL2_eq X x B Y s s1 (by omega) ha (i := m + s) (by rw [hm]; simp)
      refine ⟨B.take s ++ x :: B.drop s, ?_, ?_, ?_⟩
      · unfold slices_symMergeCmpFunc_Pageb
        simp only [w1, e1, cond_true, s2, Option.bind_some, hL2]
      · obtain ⟨t1, t2, t3⟩ := asc_parts hB s
        refine List.pairwise_append.2 ⟨t1, List.pairwise_cons.2 ⟨fun y hy => ?_, t2⟩, fun y hy z hz => ?_⟩
        · obtain ⟨k, hk, rfl⟩ := List.mem_drop_iff_getElem.1 hy
          exact s4 _ (by omega) (by omega)
        · rcases List.mem_cons.1 hz with rfl | hz
          · obtain ⟨k, hk, rfl⟩ := List.mem_take_iff_getElem.1 hy
            have := s3 k (by omega) (by omega)
            omega
          · exact t3 y hy z hz
      · have : ([x] ++ B : List Page) = x :: (B.take s ++ B.drop s) := by simp
        rw [this]
        exact List.perm_middle
    · have e1 : decide ((A.length : Int) = 1) = false := by simp; omega
      by_cases hB1 : B.length = 1
      · obtain ⟨y, rfl⟩ := List.length_eq_one_iff.1 hB1
        have e2 : decide ((([y] : List Page).length : Int) = 1) = true := by simp
        obtain ⟨s, s1, s2, s3, s4⟩ := symL3_eq X A y Y hA (by omega) ha (m := m) (by rw [hm])
        have hL4 := symL4_eq X A y Y s s1 (by omega) (m := m) (by rw [hm]) (i := a + s) (by rw [ha])
        refine ⟨A.take s ++ y :: A.drop s, ?_, ?_, ?_⟩
        · unfold slices_symMergeCmpFunc_Pageb
          simp only [w1, w2, e1, e2, cond_true, cond_false, s2, Option.bind_some, hL4]
        · obtain ⟨t1, t2, t3⟩ := asc_parts hA s
          refine List.pairwise_append.2 ⟨t1, List.pairwise_cons.2 ⟨fun z hz => ?_, t2⟩, fun z hz u hu => ?_⟩
          · obtain ⟨k, hk, rfl⟩ := List.mem_drop_iff_getElem.1 hz
            have := s4 _ (show s + k < A.length by omega) (by omega)
            omega
          · rcases List.mem_cons.1 hu with rfl | hu
            · obtain ⟨k, hk, rfl⟩ := List.mem_take_iff_getElem.1 hz
              exact s3 k (by omega) (by omega)
            · exact t3 z hz u hu
        · have h1 : (A.take s ++ y :: A.drop s).Perm (y :: (A.take s ++ A.drop s)) := List.perm_middle
          rw [List.take_append_drop] at h1
          exact h1.trans (List.perm_append_singleton y A).symm
      · have e2 : decide ((B.length : Int) = 1) = false := by simp; omega
        obtain ⟨mid, hmid⟩ : ∃ mid : Nat, mid = (X.length + (X.length + A.length + B.length)) / 2 := ⟨_, rfl⟩
        have wm : IntKind.wrap .i64 (shiftR .u64 (IntKind.wrap .u64 (IntKind.wrap .i64 (a + b))) (1 : Int)) = (mid : Int) := by
          have := mid_eq X.length (X.length + A.length + B.length) (by omega) (by omega)
          rw [ha, hb2, hmid, ← this]
          congr 4
        have wn : IntKind.wrap .i64 ((mid : Int) + m) = ((mid + X.length + A.length : Nat) : Int) := by rw [i64w (by omega) (by omega)]; omega
        have wp : IntKind.wrap .i64 (((mid + X.length + A.length : Nat) : Int) - 1) = ((mid + X.length + A.length : Nat) : Int) - 1 := i64w (by omega) (by omega)
        have wb : IntKind.wrap .i64 (((mid + X.length + A.length : Nat) : Int) - b) = (mid : Int) - B.length := by rw [i64w (by omega) (by omega)]; omega
        -- behind the search
        have rest : ∀ (lo hi s : Nat), X.length ≤ lo → lo ≤ s → s ≤ hi → hi ≤ X.length + A.length → hi ≤ mid → mid ≤ lo + B.length → (lo = X.length ∨ lo + B.length = mid) → (hi = X.length + A.length ∨ hi = mid) →
            (∀ c (i j : Nat) (hi : i < A.length) (hj : j < B.length), lo ≤ c → c < s → c = X.length + i → j + 1 + c = mid → (A[i]).1 ≤ (B[j]).1) →
            (∀ c (i j : Nat) (hi2 : i < A.length) (hj : j < B.length), s ≤ c → c < hi → c = X.length + i → j + 1 + c = mid → (B[j]).1 < (A[i]).1) →
            ∃ L, smTail (decide ((s : Int) < m)) (decide (m < IntKind.wrap .i64 (((mid + X.length + A.length : Nat) : Int) - (s : Int)))) (decide (a < (s : Int))) (decide ((s : Int) < (mid : Int))) (decide ((mid : Int) < IntKind.wrap .i64 (((mid + X.length + A.length : Nat) : Int) - (s : Int)))) (decide (IntKind.wrap .i64 (((mid + X.length + A.length : Nat) : Int) - (s : Int)) < b))
              (slices_rotateCmpFunc_Page (s : Int) m (IntKind.wrap .i64 (((mid + X.length + A.length : Nat) : Int) - (s : Int))) (X ++ A ++ B ++ Y)) (X ++ A ++ B ++ Y) (slices_symMergeCmpFunc_Page f a (s : Int) (mid : Int)) (slices_symMergeCmpFunc_Page f (mid : Int) (IntKind.wrap .i64 (((mid + X.length + A.length : Nat) : Int) - (s : Int))) b) = some (X ++ L ++ Y) ∧ Asc L ∧ L.Perm (A ++ B) := by
          intro lo hi s g0 g1 g2 g3 g4 g5 g6 g7 g8 g9
          obtain ⟨i, hi1⟩ : ∃ i, s = X.length + i := ⟨s - X.length, by omega⟩
          obtain ⟨e, he1⟩ : ∃ e, mid = s + e := ⟨mid - s, by omega⟩
          have hiA : i ≤ A.length := by omega
          have heB : e ≤ B.length := by omega
          have we : IntKind.wrap .i64 (((mid + X.length + A.length : Nat) : Int) - (s : Int)) = m + e := by rw [i64w (by omega) (by omega)]; omega
          rw [we]
          have lA1 : (A.take i).length = i := by simp; omega
          have lA2 : (A.drop i).length = A.length - i := by simp
          have lB1 : (B.take e).length = e := by simp; omega
          have lB2 : (B.drop e).length = B.length - e := by simp
          have hAs : A.take i ++ A.drop i = A := List.take_append_drop _ _
          have hBs : B.take e ++ B.drop e = B := List.take_append_drop _ _
          obtain ⟨p1, p2, p3⟩ := asc_parts hA i
          obtain ⟨r1, r2, r3⟩ := asc_parts hB e
          have st : X ++ A ++ B ++ Y = (X ++ A.take i) ++ A.drop i ++ B.take e ++ (B.drop e ++ Y) := by
            conv => lhs; rw [← hAs, ← hBs]
            simp only [List.append_assoc]
          have d1 : (bif decide ((s : Int) < m) && decide (m < m + (e : Int)) then slices_rotateCmpFunc_Page (s : Int) m (m + e) (X ++ A ++ B ++ Y) else some (X ++ A ++ B ++ Y)) = some (X ++ A.take i ++ B.take e ++ (A.drop i ++ B.drop e ++ Y)) := by
            by_cases h1 : i < A.length
            · by_cases h2 : 0 < e
              · have q1 : decide ((s : Int) < m) = true := by simp; omega
                have q2 : decide (m < m + (e : Int)) = true := by simp; omega
                have hr := rotate_eq (X ++ A.take i) (A.drop i) (B.take e) (B.drop e ++ Y) (fun h => by rw [h] at lA2; simp at lA2; omega) (fun h => by rw [h] at lB1; simp at lB1; omega) (by rw [← st]; omega) (a := s) (m := m) (b := m + e) (by simp [lA1]; omega) (by simp [lA1]; omega) (by simp [lA1, lB1]; omega)
                rw [← st] at hr
                rw [q1, q2, Bool.and_self, cond_true, hr]
                simp only [List.append_assoc]
              · have q2 : decide (m < m + (e : Int)) = false := by simp; omega
                have e0 : e = 0 := by omega
                rw [q2, Bool.and_false, cond_false, e0]
                simp only [List.take_zero, List.drop_zero, List.append_nil, List.append_assoc]
                rw [← List.append_assoc (A.take i) (A.drop i), hAs]
            · have q1 : decide ((s : Int) < m) = false := by simp; omega
              rw [q1, Bool.false_and, cond_false, st]
              have : A.drop i = [] := List.drop_eq_nil_of_le (by omega)
              rw [this]
              simp
          have d2 : ∃ L1, (bif decide (a < (s : Int)) && decide ((s : Int) < (mid : Int)) then slices_symMergeCmpFunc_Page f a (s : Int) (mid : Int) (X ++ A.take i ++ B.take e ++ (A.drop i ++ B.drop e ++ Y)) else some (X ++ A.take i ++ B.take e ++ (A.drop i ++ B.drop e ++ Y))) = some (X ++ L1 ++ (A.drop i ++ B.drop e ++ Y)) ∧ Asc L1 ∧ L1.Perm (A.take i ++ B.take e) := by
            by_cases h1 : 0 < i
            · by_cases h2 : 0 < e
              · have q1 : decide (a < (s : Int)) = true := by simp; omega
                have q2 : decide ((s : Int) < (mid : Int)) = true := by simp; omega
                rw [q1, q2, Bool.and_self, cond_true]
                exact ih X (A.take i) (B.take e) (A.drop i ++ B.drop e ++ Y) (fun h => by rw [h] at lA1; simp at lA1; omega) (fun h => by rw [h] at lB1; simp at lB1; omega) (by rw [lA1, lB1]; omega) (by simp only [List.length_append]; rw [lA1, lB1, lA2, lB2]; omega) p1 r1 _ _ _ ha (by rw [lA1]; omega) (by rw [lA1, lB1]; omega)
              · have q2 : decide ((s : Int) < (mid : Int)) = false := by simp; omega
                have e0 : e = 0 := by omega
                refine ⟨A.take i, ?_, p1, ?_⟩
                · rw [q2, Bool.and_false, cond_false, e0]; simp
                · rw [e0]; simp
            · have q1 : decide (a < (s : Int)) = false := by simp; omega
              have i0 : i = 0 := by omega
              refine ⟨B.take e, ?_, r1, ?_⟩
              · rw [q1, Bool.false_and, cond_false, i0]; simp
              · rw [i0]; simp
          obtain ⟨L1, d2, c1, c2⟩ := d2
          have hL1 : L1.length = i + e := by rw [c2.length_eq]; simp [lA1, lB1]
          have st2 : X ++ L1 ++ (A.drop i ++ B.drop e ++ Y) = (X ++ L1) ++ A.drop i ++ B.drop e ++ Y := by simp only [List.append_assoc]
          have d3 : ∃ L2, (bif decide ((mid : Int) < m + (e : Int)) && decide (m + (e : Int) < b) then slices_symMergeCmpFunc_Page f (mid : Int) (m + e) b (X ++ L1 ++ (A.drop i ++ B.drop e ++ Y)) else some (X ++ L1 ++ (A.drop i ++ B.drop e ++ Y))) = some (X ++ L1 ++ L2 ++ Y) ∧ Asc L2 ∧ L2.Perm (A.drop i ++ B.drop e) := by
            by_cases h1 : i < A.length
            · by_cases h2 : e < B.length
              · have q1 : decide ((mid : Int) < m + (e : Int)) = true := by simp; omega
                have q2 : decide (m + (e : Int) < b) = true := by simp; omega
                rw [q1, q2, Bool.and_self, cond_true, st2]
                exact ih (X ++ L1) (A.drop i) (B.drop e) Y (fun h => by rw [h] at lA2; simp at lA2; omega) (fun h => by rw [h] at lB2; simp at lB2; omega) (by rw [lA2, lB2]; omega) (by simp only [List.length_append]; rw [lA2, lB2]; omega) p2 r2 _ _ _ (by simp; omega) (by simp; omega) (by simp; omega)
              · have q2 : decide (m + (e : Int) < b) = false := by simp; omega
                have : B.drop e = [] := List.drop_eq_nil_of_le (by omega)
                refine ⟨A.drop i, ?_, p2, ?_⟩
                · rw [q2, Bool.and_false, cond_false, this]; simp
                · rw [this]; simp
            · have q1 : decide ((mid : Int) < m + (e : Int)) = false := by simp; omega
              have : A.drop i = [] := List.drop_eq_nil_of_le (by omega)
              refine ⟨B.drop e, ?_, r2, ?_⟩
              · rw [q1, Bool.false_and, cond_false, this]; simp
              · rw [this]; simp
          obtain ⟨L2, d3, c3, c4⟩ := d3
          refine ⟨L1 ++ L2, ?_, ?_, ?_⟩
          · unfold smTail
            rw [d1, Option.bind_some, d2, Option.bind_some, d3]
            simp only [List.append_assoc]
          · refine List.pairwise_append.2 ⟨c1, c3, fun x hx y hy => ?_⟩
            rcases List.mem_append.1 (c2.mem_iff.1 hx) with hx | hx
            · rcases List.mem_append.1 (c4.mem_iff.1 hy) with hy | hy
              · exact p3 x hx y hy
              · -- A1 against B2
                have hi0 : 0 < i := Nat.pos_of_ne_zero fun h => by rw [h] at hx; simp at hx
                have heB2 : e < B.length := by
                  have := List.length_pos_of_mem hy
                  omega
                have hlo : lo < s := by omega
                have k1 := g8 (s - 1) (i - 1) e (by omega) heB2 (by omega) (by omega) (by omega) (by omega)
                have k2 := asc_take_get hA hx hiA hi0
                have k3 := asc_drop_get hB hy heB2
                omega
            · rcases List.mem_append.1 (c4.mem_iff.1 hy) with hy | hy
              · -- B1 against A2
                have he0 : 0 < e := Nat.pos_of_ne_zero fun h => by rw [h] at hx; simp at hx
                have hiA2 : i < A.length := by
                  have := List.length_pos_of_mem hy
                  omega
                have k1 := g9 s i (e - 1) hiA2 (by omega) (Nat.le_refl _) (by omega) hi1 (by omega)
                have k2 := asc_take_get hB hx heB he0
                have k3 := asc_drop_get hA hy hiA2
                omega
              · exact r3 x hx y hy
          · refine (c2.append c4).trans ?_
            have h1 : (A.take i ++ B.take e ++ (A.drop i ++ B.drop e)).Perm (A.take i ++ (A.drop i ++ (B.take e ++ B.drop e))) := by
              rw [List.append_assoc]
              refine List.Perm.append_left _ ?_
              rw [← List.append_assoc, ← List.append_assoc]
              exact List.Perm.append_right _ List.perm_append_comm
            rw [hBs, ← List.append_assoc (A.take i) (A.drop i) B, hAs] at h1
            exact h1
        unfold slices_symMergeCmpFunc_Pageb
        simp only [w1, w2, e1, e2, cond_false, wm, wn, wp, wb]
        by_cases hmm : mid < X.length + A.length
        · have q1 : decide ((mid : Int) < m) = true := by simp; omega
          obtain ⟨s, s1, s2, s3, s4, s5⟩ := symL5_eq X A B Y hA hB (by omega) (mid - B.length) mid mid (by omega) (by omega) (by omega) (Nat.le_refl _) (by omega) (by omega) (a := a) (m := m) (b := b) (md := mid) (nn := ((mid + X.length + A.length : Nat) : Int)) (l := (mid : Int) - B.length) (r := mid) (by omega) rfl rfl
          obtain ⟨L, hL, h2, h3⟩ := rest (mid - B.length) mid s (by omega) s1 s2 (by omega) (Nat.le_refl _) (by omega) (.inr (by omega)) (.inr rfl) s4 s5
          refine ⟨L, ?_, h2, h3⟩
          rw [q1, cond_true, s3, Option.bind_some]
          exact (tail_eq _ _ _ _ _ _ _ _ _ _).trans hL
        · have q1 : decide ((mid : Int) < m) = false := by simp; omega
          obtain ⟨s, s1, s2, s3, s4, s5⟩ := symL5_eq X A B Y hA hB (by omega) X.length (X.length + A.length) mid (Nat.le_refl _) (by omega) (Nat.le_refl _) (by omega) (by omega) (by omega) (a := a) (m := m) (b := b) (md := mid) (nn := ((mid + X.length + A.length : Nat) : Int)) (l := a) (r := m) ha (by omega) rfl
          obtain ⟨L, hL, h2, h3⟩ := rest X.length (X.length + A.length) s (Nat.le_refl _) s1 s2 (Nat.le_refl _) (by omega) (by omega) (.inl rfl) (.inl rfl) s4 s5
          refine ⟨L, ?_, h2, h3⟩
          rw [q1, cond_false, s3, Option.bind_some]
          exact (tail_eq _ _ _ _ _ _ _ _ _ _).trans hL

end Go.Sx

/- Pages sorted by line: the stable sort of up to forty pages. -/
set_option linter.unusedVariables false
set_option linter.unusedSimpArgs false
namespace Go.Sx
open Go.RowKit
theorem insert_at (X : List Page) (n i : Int) (x : Page) {a : Int} (ha : a = X.length) (hX : X.length ≤ 1000) : ∀ (k : Nat) (pre mid : List Page), pre.length = k → k ≤ 1000 → Asc pre →
    slices_insertionSortCmpFunc_PageL1 a n i ((X.length + k : Nat) : Int) (X ++ (pre ++ x :: mid)) = some (a, n, i, X ++ (insR x pre ++ mid)) := by
  subst ha
  intro k
  induction k with
  | zero =>
    intro pre mid hk _ _
    have : pre = [] := List.eq_nil_of_length_eq_zero hk
    subst this
    refine iter_done ?_
    show slices_insertionSortCmpFunc_PageL1b (X.length : Int) n i ((X.length + 0 : Nat) : Int) _ = _
    unfold slices_insertionSortCmpFunc_PageL1b
    simp [insR]
  | succ k ih =>
    intro pre mid hk hk2 hs
    obtain ⟨pre', y, rfl⟩ : ∃ p y, pre = p ++ [y] := by
      rcases List.eq_nil_or_concat pre with h | ⟨p, y, h⟩
      · rw [h] at hk; cases hk
      · exact ⟨p, y, by rw [h, List.concat_eq_append]⟩
    have hk' : pre'.length = k := by simpa using hk
    have hs' : Asc pre' := (List.pairwise_append.1 hs).1
    have hy : ∀ p ∈ pre', p.1 ≤ y.1 := fun p hp => (List.pairwise_append.1 hs).2.2 p hp y (by simp)
    have hl : X ++ (pre' ++ [y] ++ x :: mid) = (X ++ pre') ++ y :: x :: mid := by simp
    rw [hl]
    have hlp : (X ++ pre').length = X.length + k := by simp [hk']
    have e1 : decide ((X.length : Int) < ((X.length + (k + 1) : Nat) : Int)) = true := by simp; omega
    have e2 : IntKind.wrap .i64 (((X.length + (k + 1) : Nat) : Int) - 1) = ((X.length + k : Nat) : Int) := by rw [i64w (by omega) (by omega)]; omega
    have e3 : inR ((X.length + (k + 1) : Nat) : Int) ((X ++ pre') ++ y :: x :: mid).length = true := inR_nat (by simp; omega)
    have e4 : inR ((X.length + k : Nat) : Int) ((X ++ pre') ++ y :: x :: mid).length = true := inR_nat (by simp; omega)
    have g1 : ∀ d, List.getD ((X ++ pre') ++ y :: x :: mid) (X.length + (k + 1)) d = x := fun d => by rw [show X.length + (k + 1) = (X ++ pre').length + 1 by omega]; exact getD_mid1 (X ++ pre') y x mid d
    have g2 : ∀ d, List.getD ((X ++ pre') ++ y :: x :: mid) (X.length + k) d = y := fun d => by rw [← hlp]; exact getD_mid (X ++ pre') y (x :: mid) d
    obtain ⟨r, hr, hd⟩ := cmp_lt (a := x) (b := y)
    by_cases hc : x.1 < y.1
    · have e5 : decide (r < 0) = true := by rw [hd]; simpa using hc
      have e6 : inR ((X.length + k : Nat) : Int) (((X ++ pre') ++ y :: x :: mid).set (X.length + (k + 1)) y).length = true := by rw [List.length_set]; exact e4
      have e7 : (((X ++ pre') ++ y :: x :: mid).set (X.length + (k + 1)) y).set (X.length + k) x = X ++ (pre' ++ x :: y :: mid) := by
        rw [show X.length + (k + 1) = (X ++ pre').length + 1 by omega, ← hlp, swap_two (X ++ pre') y x mid]; simp
      have step : slices_insertionSortCmpFunc_PageL1b (X.length : Int) n i ((X.length + (k + 1) : Nat) : Int) ((X ++ pre') ++ y :: x :: mid) = some (.inl ((X.length : Int), n, i, ((X.length + k : Nat) : Int), X ++ (pre' ++ x :: y :: mid))) := by
        unfold slices_insertionSortCmpFunc_PageL1b
        simp only [e1, e2, e3, e4, cond_true, Int.toNat_natCast, g1, g2, hr, Option.bind_some, e5, e6, e7]
      refine (iter_step step).trans ((ih pre' (y :: mid) hk' (by omega) hs').trans ?_)
      have hny : decide (y.1 ≤ x.1) = false := by simp; omega
      have hT : (pre' ++ [y]).takeWhile (fun p => decide (p.1 ≤ x.1)) = pre'.takeWhile (fun p => decide (p.1 ≤ x.1)) := by
        rw [List.takeWhile_append]
        split
        · rename_i h
          have h1 : pre'.takeWhile (fun p => decide (p.1 ≤ x.1)) = pre' := (List.takeWhile_prefix (p := fun p : Page => decide (p.1 ≤ x.1)) (l := pre')).eq_of_length h
          rw [h1]; simp [hny]
        · rfl
      have hD : (pre' ++ [y]).dropWhile (fun p => decide (p.1 ≤ x.1)) = pre'.dropWhile (fun p => decide (p.1 ≤ x.1)) ++ [y] := by
        rw [List.dropWhile_append]
        split
        · rename_i h
          have h1 : pre'.dropWhile (fun p => decide (p.1 ≤ x.1)) = [] := by simpa using h
          rw [h1]; simp [hny]
        · rfl
      unfold insR
      rw [hT, hD]
      simp
    · have e5 : decide (r < 0) = false := by rw [hd]; simpa using hc
      have step : slices_insertionSortCmpFunc_PageL1b (X.length : Int) n i ((X.length + (k + 1) : Nat) : Int) ((X ++ pre') ++ y :: x :: mid) = some (.inr ((X.length : Int), n, i, (X ++ pre') ++ y :: x :: mid)) := by
        unfold slices_insertionSortCmpFunc_PageL1b
        simp only [e1, e2, e3, e4, cond_true, Int.toNat_natCast, g1, g2, hr, Option.bind_some, e5, cond_false]
      refine (iter_done step).trans ?_
      have hall : ∀ p ∈ pre' ++ [y], (fun p : Page => decide (p.1 ≤ x.1)) p = true := fun p hp => by
        simp only [List.mem_append, List.mem_singleton] at hp
        simp only [decide_eq_true_eq]
        rcases hp with hp | rfl
        · have := hy p hp; omega
        · omega
      unfold insR
      rw [tw_all hall, dw_all hall]
      simp

theorem insertion_at (X A Y : List Page) (hl : (X ++ (A ++ Y)).length ≤ 1000) {a b : Int} (ha : a = X.length) (hb : b = X.length + A.length) : slices_insertionSortCmpFunc_Page a b (X ++ (A ++ Y)) = some (X ++ (isort A ++ Y)) := by
  simp only [List.length_append] at hl
  subst ha hb
  unfold slices_insertionSortCmpFunc_Page
  have e : IntKind.wrap .i64 ((X.length : Int) + 1) = (X.length : Int) + 1 := i64w (by omega) (by omega)
  rw [e]
  have key : slices_insertionSortCmpFunc_PageL2 (X.length : Int) ((X.length : Int) + A.length) ((X.length : Int) + 1) (X ++ (A ++ Y)) = some (X ++ (isort A ++ Y)) := by
    by_cases h0 : A.length = 0
    · have : A = [] := List.eq_nil_of_length_eq_zero h0
      subst this
      refine iter_done ?_
      show slices_insertionSortCmpFunc_PageL2b (X.length : Int) ((X.length : Int) + ((0 : Nat) : Int)) ((X.length : Int) + 1) _ = _
      unfold slices_insertionSortCmpFunc_PageL2b
      have : decide ((X.length : Int) + 1 < (X.length : Int) + ((0 : Nat) : Int)) = false := decide_eq_false (by omega)
      simp only [this, cond_false]
      rfl
    · have h1 : isort (A.take 1) = A.take 1 := by
        cases A with
        | nil => rfl
        | cons a l => simp [isort, insR]
      have := iter_for (body := slices_insertionSortCmpFunc_PageL2B) (fun i : Nat => ((X.length : Int), (X.length : Int) + A.length, ((X.length + i : Nat) : Int), X ++ (isort (A.take i) ++ (A.drop i ++ Y)))) A.length (X ++ (isort A ++ Y)) (fun i hi => ?_) ?_ 1 (by omega)
      · have st' : ((X.length : Int), (X.length : Int) + A.length, ((X.length + 1 : Nat) : Int), X ++ (isort (A.take 1) ++ (A.drop 1 ++ Y))) = ((X.length : Int), (X.length : Int) + A.length, (X.length : Int) + 1, X ++ (A ++ Y)) := by
          rw [h1, ← List.append_assoc (A.take 1), List.take_append_drop]; rfl
        rw [st'] at this
        exact this
      · show slices_insertionSortCmpFunc_PageL2b _ _ _ _ = _
        have hp := isort_asc (A.take i)
        have hlen : (isort (A.take i)).length = i := by rw [hp.2]; simp; omega
        have e1 : decide (((X.length + i : Nat) : Int) < (X.length : Int) + A.length) = true := by simp; omega
        have e4 : IntKind.wrap .i64 (((X.length + i : Nat) : Int) + 1) = ((X.length + (i + 1) : Nat) : Int) := by rw [i64w (by omega) (by omega)]; omega
        have hins := insert_at X ((X.length : Int) + A.length) ((X.length + i : Nat) : Int) A[i] (a := (X.length : Int)) rfl (by omega) i (isort (A.take i)) (A.drop (i + 1) ++ Y) hlen (by omega) hp.1
        rw [List.drop_eq_getElem_cons hi, List.cons_append]
        unfold slices_insertionSortCmpFunc_PageL2b
        simp only [e1, cond_true, hins, Option.bind_some, e4]
        rw [isort_take hi]
      · show slices_insertionSortCmpFunc_PageL2b _ _ _ _ = _
        unfold slices_insertionSortCmpFunc_PageL2b
        have e1 : decide (((X.length + A.length : Nat) : Int) < (X.length : Int) + A.length) = false := by simp
        simp only [e1, cond_false]
        simp
  rw [key]; rfl

theorem insR_perm (x : Page) (acc : List Page) : (insR x acc).Perm (x :: acc) := by
  unfold insR
  have := List.takeWhile_append_dropWhile (p := fun p : Page => decide (p.1 ≤ x.1)) (l := acc)
  conv => rhs; rw [← this]
  exact List.perm_middle

theorem isort_perm (l : List Page) : (isort l).Perm l := by
  have key : ∀ i, i ≤ l.length → (isort (l.take i)).Perm (l.take i) := by
    intro i
    induction i with
    | zero => intro _; exact List.Perm.refl _
    | succ i ih =>
      intro hi
      have h1 : l.take (i + 1) = l.take i ++ [l[i]] := by rw [List.take_add_one, List.getElem?_eq_getElem (by omega)]; rfl
      rw [isort_take (by omega), h1]
      refine (insR_perm _ _).trans ?_
      exact ((ih (by omega)).cons _).trans (List.perm_append_singleton _ _).symm
  have := key l.length (Nat.le_refl _)
  rwa [List.take_length] at this

/-- The stable sort of up to forty pages. -/
theorem ascending_fine (l : List Page) (hl : l.length ≤ 40) : ∃ r, segment_ascending l = some r ∧ Asc r ∧ r.Perm l := by
  by_cases h20 : l.length < 20
  · exact ⟨isort l, ascending_eq l h20, (isort_asc l).1, isort_perm l⟩
  · have hs : l.take 20 ++ l.drop 20 = l := List.take_append_drop _ _
    have l1 : (l.take 20).length = 20 := by simp; omega
    have l2 : (l.drop 20).length = l.length - 20 := by simp
    have s1 : (isort (l.take 20)).length = 20 := by rw [(isort_asc _).2, l1]
    have s2 : (isort (l.drop 20)).length = l.length - 20 := by rw [(isort_asc _).2, l2]
    have hperm : (isort (l.take 20) ++ isort (l.drop 20)).Perm l := by
      have := (isort_perm (l.take 20)).append (isort_perm (l.drop 20))
      rwa [hs] at this
    -- the blocks
    have hins1 : slices_insertionSortCmpFunc_Page 0 20 l = some (isort (l.take 20) ++ l.drop 20) := by
      have := insertion_at [] (l.take 20) (l.drop 20) (by simp; omega) (a := 0) (b := 20) rfl (by rw [l1]; rfl)
      rw [List.nil_append, hs, List.nil_append] at this
      exact this
    have hins2 : ∀ b : Int, b = (l.length : Int) → slices_insertionSortCmpFunc_Page 20 b (isort (l.take 20) ++ l.drop 20) = some (isort (l.take 20) ++ isort (l.drop 20)) := fun b hb => by
      have := insertion_at (isort (l.take 20)) (l.drop 20) [] (by simp [s1]; omega) (a := 20) (b := b) (by rw [s1]; rfl) (by rw [s1, l2, hb]; omega)
      simpa using this
    have hL1 : ∃ a D, slices_stableCmpFunc_PageL1 (l.length : Int) 20 0 20 l = some ((l.length : Int), 20, a, D) ∧ slices_insertionSortCmpFunc_Page a (l.length : Int) D = some (isort (l.take 20) ++ isort (l.drop 20)) := by
      have step : slices_stableCmpFunc_PageL1b (l.length : Int) 20 0 20 l = some (.inl ((l.length : Int), 20, 20, 40, isort (l.take 20) ++ l.drop 20)) := by
        unfold slices_stableCmpFunc_PageL1b
        have e1 : decide ((20 : Int) ≤ (l.length : Int)) = true := by simp; omega
        have e2 : IntKind.wrap .i64 ((20 : Int) + 20) = 40 := i64w (by omega) (by omega)
        simp only [e1, cond_true, hins1, Option.bind_some, e2]
      by_cases h40 : l.length = 40
      · have step2 : slices_stableCmpFunc_PageL1b (l.length : Int) 20 20 40 (isort (l.take 20) ++ l.drop 20) = some (.inl ((l.length : Int), 20, 40, 60, isort (l.take 20) ++ isort (l.drop 20))) := by
          unfold slices_stableCmpFunc_PageL1b
          have e1 : decide ((40 : Int) ≤ (l.length : Int)) = true := by simp; omega
          have e2 : IntKind.wrap .i64 ((40 : Int) + 20) = 60 := i64w (by omega) (by omega)
          simp only [e1, cond_true, hins2 40 (by omega), Option.bind_some, e2]
        have step3 : slices_stableCmpFunc_PageL1b (l.length : Int) 20 40 60 (isort (l.take 20) ++ isort (l.drop 20)) = some (.inr ((l.length : Int), 20, 40, isort (l.take 20) ++ isort (l.drop 20))) := by
          unfold slices_stableCmpFunc_PageL1b
          have e1 : decide ((60 : Int) ≤ (l.length : Int)) = false := by simp; omega
          simp only [e1, cond_false]
        refine ⟨40, _, (iter_step step).trans ((iter_step (x := ((l.length : Int), (20 : Int), (20 : Int), (40 : Int), isort (l.take 20) ++ l.drop 20)) step2).trans (iter_done (x := ((l.length : Int), (20 : Int), (40 : Int), (60 : Int), isort (l.take 20) ++ isort (l.drop 20))) step3)), ?_⟩
        have := insertion_at (isort (l.take 20) ++ isort (l.drop 20)) [] [] (by simp [s1, s2]; omega) (a := 40) (b := (l.length : Int)) (by simp [s1, s2]; omega) (by simp [s1, s2]; omega)
        simpa [isort] using this
      · have step2 : slices_stableCmpFunc_PageL1b (l.length : Int) 20 20 40 (isort (l.take 20) ++ l.drop 20) = some (.inr ((l.length : Int), 20, 20, isort (l.take 20) ++ l.drop 20)) := by
          unfold slices_stableCmpFunc_PageL1b
          have e1 : decide ((40 : Int) ≤ (l.length : Int)) = false := by simp; omega
          simp only [e1, cond_false]
        exact ⟨20, _, (iter_step step).trans (iter_done (x := ((l.length : Int), (20 : Int), (20 : Int), (40 : Int), isort (l.take 20) ++ l.drop 20)) step2), hins2 _ rfl⟩
    obtain ⟨a, D, hL1, hins⟩ := hL1
    by_cases he : l.length = 20
    · have hd : l.drop 20 = [] := List.drop_eq_nil_of_le (by omega)
      have h3 : slices_stableCmpFunc_PageL3 (l.length : Int) 20 (isort (l.take 20) ++ isort (l.drop 20)) = some (isort (l.take 20) ++ isort (l.drop 20)) := by
        refine iter_done ?_
        show slices_stableCmpFunc_PageL3b _ _ _ = _
        unfold slices_stableCmpFunc_PageL3b
        have : decide ((20 : Int) < (l.length : Int)) = false := by simp; omega
        simp only [this, cond_false]
      refine ⟨isort (l.take 20) ++ isort (l.drop 20), ?_, ?_, hperm⟩
      · unfold segment_ascending slices_SortStableFunc_Page slices_stableCmpFunc_Page
        rw [hL1]
        simp only [Option.bind_some]
        rw [hins]
        simp only [Option.bind_some]
        rw [h3]; rfl
      · rw [hd]
        have : isort ([] : List Page) = [] := rfl
        rw [this, List.append_nil]
        exact (isort_asc _).1
    · obtain ⟨L, hL, c1, c2⟩ := symMerge_fine 40 [] (isort (l.take 20)) (isort (l.drop 20)) [] (fun h => by rw [h] at s1; simp at s1) (fun h => by rw [h] at s2; simp at s2; omega) (by rw [s1, s2]; omega) (by simp [s1, s2]; omega) (isort_asc _).1 (isort_asc _).1 0 20 (l.length : Int) rfl (by simp [s1]) (by simp [s1, s2]; omega)
      simp only [List.nil_append, List.append_nil] at hL
      have h3 : slices_stableCmpFunc_PageL3 (l.length : Int) 20 (isort (l.take 20) ++ isort (l.drop 20)) = some L := by
        have e1 : decide ((20 : Int) < (l.length : Int)) = true := by simp; omega
        have e2 : IntKind.wrap .i64 ((2 : Int) * 20) = 40 := i64w (by omega) (by omega)
        have e3 : IntKind.wrap .i64 ((0 : Int) + 20) = 20 := i64w (by omega) (by omega)
        have e4 : IntKind.wrap .i64 ((20 : Int) * 2) = 40 := i64w (by omega) (by omega)
        have fin : slices_stableCmpFunc_PageL3b (l.length : Int) 40 L = some (.inr L) := by
          unfold slices_stableCmpFunc_PageL3b
          have : decide ((40 : Int) < (l.length : Int)) = false := by simp; omega
          simp only [this, cond_false]
        have step : slices_stableCmpFunc_PageL3b (l.length : Int) 20 (isort (l.take 20) ++ isort (l.drop 20)) = some (.inl ((l.length : Int), 40, L)) := by
          unfold slices_stableCmpFunc_PageL3b
          by_cases h40 : l.length = 40
          · have st1 : slices_stableCmpFunc_PageL2b (l.length : Int) 20 0 40 (isort (l.take 20) ++ isort (l.drop 20)) = some (.inl ((l.length : Int), 20, 40, 80, L)) := by
              unfold slices_stableCmpFunc_PageL2b
              have f1 : decide ((40 : Int) ≤ (l.length : Int)) = true := by simp; omega
              have f2 : IntKind.wrap .i64 ((40 : Int) + 40) = 80 := i64w (by omega) (by omega)
              have hL' : slices_symMergeCmpFunc_Page 40 0 20 40 (isort (l.take 20) ++ isort (l.drop 20)) = some L := by rw [← hL, h40]; rfl
              simp only [f1, cond_true, e3, hL', Option.bind_some, e2, f2]
            have st2 : slices_stableCmpFunc_PageL2b (l.length : Int) 20 40 80 L = some (.inr ((l.length : Int), 20, 40, L)) := by
              unfold slices_stableCmpFunc_PageL2b
              have f1 : decide ((80 : Int) ≤ (l.length : Int)) = false := by simp; omega
              simp only [f1, cond_false]
            have h2 : slices_stableCmpFunc_PageL2 (l.length : Int) 20 0 40 (isort (l.take 20) ++ isort (l.drop 20)) = _ := (iter_step st1).trans (iter_done (x := ((l.length : Int), (20 : Int), (40 : Int), (80 : Int), L)) st2)
            have f3 : IntKind.wrap .i64 ((40 : Int) + 20) = 60 := i64w (by omega) (by omega)
            have f4 : decide ((60 : Int) < (l.length : Int)) = false := by simp; omega
            simp only [e1, cond_true, e2, h2, Option.bind_some, f3, f4, cond_false, e4]
          · have st1 : slices_stableCmpFunc_PageL2b (l.length : Int) 20 0 40 (isort (l.take 20) ++ isort (l.drop 20)) = some (.inr ((l.length : Int), 20, 0, isort (l.take 20) ++ isort (l.drop 20))) := by
              unfold slices_stableCmpFunc_PageL2b
              have f1 : decide ((40 : Int) ≤ (l.length : Int)) = false := by simp; omega
              simp only [f1, cond_false]
            have h2 : slices_stableCmpFunc_PageL2 (l.length : Int) 20 0 40 (isort (l.take 20) ++ isort (l.drop 20)) = _ := iter_done st1
            simp only [e1, cond_true, e2, h2, Option.bind_some, e3, hL, e4]
        exact (iter_step step).trans (iter_done (x := ((l.length : Int), (40 : Int), L)) fin)
      refine ⟨L, ?_, c1, c2.trans hperm⟩
      unfold segment_ascending slices_SortStableFunc_Page slices_stableCmpFunc_Page
      rw [hL1]
      simp only [Option.bind_some]
      rw [hins]
      simp only [Option.bind_some]
      rw [h3]; rfl

end Go.Sx

/- SegmentMerges: the union of two lists of pages. -/
set_option linter.unusedVariables false
set_option linter.unusedSimpArgs false
namespace Go.Sx
open Go.RowKit
/-- Strictly ascending. -/
def SAsc (l : List Page) : Prop := l.Pairwise fun p q => p.1 < q.1

theorem sasc_ext : ∀ {r R : List Page}, SAsc r → SAsc R → (∀ q, q ∈ r ↔ q ∈ R) → r = R
  | [], [], _, _, _ => rfl
  | [], b :: R, _, _, h => absurd ((h b).2 (by simp)) (by simp)
  | a :: r, [], _, _, h => absurd ((h a).1 (by simp)) (by simp)
  | a :: r, b :: R, h1, h2, h => by
    obtain ⟨h1a, h1b⟩ := List.pairwise_cons.1 h1
    obtain ⟨h2a, h2b⟩ := List.pairwise_cons.1 h2
    have hab : a = b := by
      rcases List.mem_cons.1 ((h a).1 (by simp)) with e | e
      · exact e
      · rcases List.mem_cons.1 ((h b).2 (by simp)) with e2 | e2
        · exact e2.symm
        · have := h2a a e; have := h1a b e2; omega
    subst hab
    congr 1
    refine sasc_ext h1b h2b fun q => ⟨fun hq => ?_, fun hq => ?_⟩
    · rcases List.mem_cons.1 ((h q).1 (by simp [hq])) with e | e
      · subst e; have := h1a q hq; omega
      · exact e
    · rcases List.mem_cons.1 ((h q).2 (by simp [hq])) with e | e
      · subst e; have := h2a q hq; omega
      · exact e

/-- The last page of each line, as a map. -/
def lastOf (l : List Page) : List (Int × Page) := l.foldl (fun es p => upsV es p.1 p) []

theorem upsV_len {α : Type} : ∀ (es : List (Int × α)) (k : Int) (v : α), (upsV es k v).length ≤ es.length + 1
  | [], k, v => by simp [upsV]
  | (m, y) :: es, k, v => by
    by_cases h : k = m
    · simp [upsV, h]
    · have := upsV_len es k v
      simp [upsV, h]; omega

structure MapOk (es : List (Int × Page)) : Prop where
  nd : (es.map (·.1)).Nodup
  key : ∀ e ∈ es, e.1 = e.2.1

theorem mem_upsV {es : List (Int × Page)} (h : MapOk es) (p : Page) (q : Page) : (q.1, q) ∈ upsV es p.1 p ↔ q = p ∨ ((q.1, q) ∈ es ∧ q.1 ≠ p.1) := by
  obtain ⟨hn, hk⟩ := h
  induction es with
  | nil =>
    simp only [upsV, List.mem_singleton, List.not_mem_nil, false_and, or_false]
    exact ⟨fun h => (Prod.mk.inj h).2, fun h => by rw [h]⟩
  | cons e es ih =>
    obtain ⟨m, y⟩ := e
    rw [List.map_cons, List.nodup_cons] at hn
    have hy : m = y.1 := hk (m, y) (by simp)
    by_cases h : p.1 = m
    · have e1 : upsV ((m, y) :: es) p.1 p = (p.1, p) :: es := by simp [upsV, h]
      rw [e1]
      constructor
      · intro hq
        rcases List.mem_cons.1 hq with hq | hq
        · exact .inl (Prod.mk.inj hq).2
        · refine .inr ⟨List.mem_cons_of_mem _ hq, fun e2 => hn.1 ?_⟩
          show m ∈ _
          rw [← h, ← e2]; exact List.mem_map.2 ⟨(q.1, q), hq, rfl⟩
      · rintro (rfl | ⟨hq, hne⟩)
        · simp
        · rcases List.mem_cons.1 hq with hq | hq
          · exact absurd ((Prod.mk.inj hq).1.trans h.symm) hne
          · exact List.mem_cons_of_mem _ hq
    · have e1 : upsV ((m, y) :: es) p.1 p = (m, y) :: upsV es p.1 p := by simp [upsV, h]
      rw [e1, List.mem_cons, ih hn.2 (fun e he => hk e (by simp [he]))]
      constructor
      · rintro (hq | rfl | ⟨hq, hne⟩)
        · exact .inr ⟨by simp [hq], by rw [(Prod.mk.inj hq).1]; exact fun e => h e.symm⟩
        · exact .inl rfl
        · exact .inr ⟨List.mem_cons_of_mem _ hq, hne⟩
      · rintro (rfl | ⟨hq, hne⟩)
        · exact .inr (.inl rfl)
        · rcases List.mem_cons.1 hq with hq | hq
          · exact .inl hq
          · exact .inr (.inr ⟨hq, hne⟩)

theorem keys_upsV (es : List (Int × Page)) (k : Int) (v : Page) : (upsV es k v).map (·.1) = es.map (·.1) ∨ ((upsV es k v).map (·.1) = es.map (·.1) ++ [k] ∧ k ∉ es.map (·.1)) := by
  induction es with
  | nil => exact .inr ⟨rfl, by simp⟩
  | cons e es ih =>
    obtain ⟨m, y⟩ := e
    by_cases h : k = m
    · left; simp [upsV, h]
    · rcases ih with ih | ⟨ih, hk⟩
      · left; simp [upsV, h, ih]
      · right; exact ⟨by simp [upsV, h, ih], by simp [h]; simpa using hk⟩

theorem MapOk.ups {es : List (Int × Page)} (h : MapOk es) (p : Page) : MapOk (upsV es p.1 p) := by
  refine ⟨?_, fun e he => ?_⟩
  · rcases keys_upsV es p.1 p with e | ⟨e, hk⟩
    · rw [e]; exact h.nd
    · rw [e, List.nodup_append]
      exact ⟨h.nd, by simp, fun a ha b hb => by simp at hb; subst hb; exact fun e => hk (e ▸ ha)⟩
  · have : ∀ (es : List (Int × Page)), (∀ e ∈ es, e.1 = e.2.1) → ∀ e ∈ upsV es p.1 p, e.1 = e.2.1 := by
      intro es
      induction es with
      | nil => intro _ e he; simp [upsV] at he; subst he; rfl
      | cons x es ih =>
        intro hx e he
        obtain ⟨m, y⟩ := x
        by_cases hc : p.1 = m
        · simp only [upsV, hc, decide_true, cond_true, List.mem_cons] at he
          rcases he with rfl | he
          · exact hc.symm
          · exact hx e (by simp [he])
        · simp only [upsV, hc, decide_false, cond_false, List.mem_cons] at he
          rcases he with rfl | he
          · exact hx _ (by simp)
          · exact ih (fun e he => hx e (by simp [he])) e he
    exact this es h.key e he

theorem lastOf_take {l : List Page} {i : Nat} (hi : i < l.length) : lastOf (l.take (i + 1)) = upsV (lastOf (l.take i)) (l[i]).1 l[i] := by
  unfold lastOf
  rw [List.take_add_one, List.getElem?_eq_getElem hi, List.foldl_append]; rfl

theorem lastOf_ok (l : List Page) : MapOk (lastOf l) ∧ (lastOf l).length ≤ l.length := by
  have key : ∀ i, i ≤ l.length → MapOk (lastOf (l.take i)) ∧ (lastOf (l.take i)).length ≤ i := by
    intro i
    induction i with
    | zero => intro _; exact ⟨⟨by simp [lastOf], by simp [lastOf]⟩, by simp [lastOf]⟩
    | succ i ih =>
      intro hi
      obtain ⟨h1, h2⟩ := ih (by omega)
      rw [lastOf_take (by omega)]
      exact ⟨h1.ups _, by have := upsV_len (lastOf (l.take i)) (l[i]).1 l[i]; omega⟩
  have := key l.length (Nat.le_refl _)
  rwa [List.take_length] at this

/-! The program's union -/
theorem concat_eq (a b : List Page) (h : a.length + b.length ≤ 1000) : slices_Concat_Page [a, b] = some (a ++ b) := by
  have hm : lim = 2147483648 := rfl
  have s0 : slices_Concat_PageL1 [a, b] (0 : Int) [a, b] ((([a, b] : List (List Page)).length : Nat) : Int) (0 : Int) = some ([a, b], ((a.length + b.length : Nat) : Int)) := by
    refine iter_for (body := slices_Concat_PageL1B) (fun i => ([a, b], (match i with | 0 => (0 : Int) | 1 => (a.length : Int) | _ => ((a.length + b.length : Nat) : Int)), [a, b], (2 : Int), (i : Int))) 2 _ (fun i hi => ?_) ?_ 0 (Nat.zero_le _)
    · match i, hi with
      | 0, _ =>
        show slices_Concat_PageL1b [a, b] 0 [a, b] 2 0 = _
        unfold slices_Concat_PageL1b
        have w : IntKind.wrap .i64 ((0 : Int) + (a.length : Int)) = (a.length : Int) := by rw [i64w (by omega) (by omega)]; omega
        have w2 : IntKind.wrap .i64 ((0 : Int) + 1) = 1 := i64w (by omega) (by omega)
        have g : List.getD ([a, b] : List (List Page)) (Int.toNat 0) [] = a := rfl
        have d : decide ((a.length : Int) < 0) = false := by simp
        have d1 : decide ((0 : Int) < 2) = true := by decide
        have d2 : inR 0 ([a, b] : List (List Page)).length = true := by simp [inR]
        simp only [d1, d2, g, w, d, w2, cond_true, cond_false]
        rfl
      | 1, _ =>
        show slices_Concat_PageL1b [a, b] (a.length : Int) [a, b] 2 1 = _
        unfold slices_Concat_PageL1b
        have w : IntKind.wrap .i64 ((a.length : Int) + (b.length : Int)) = ((a.length + b.length : Nat) : Int) := by rw [i64w (by omega) (by omega)]; omega
        have w2 : IntKind.wrap .i64 ((1 : Int) + 1) = 2 := i64w (by omega) (by omega)
        have g : List.getD ([a, b] : List (List Page)) (Int.toNat 1) [] = b := rfl
        have d : decide (((a.length + b.length : Nat) : Int) < 0) = false := by simp; omega
        have d1 : decide ((1 : Int) < 2) = true := by decide
        have d2 : inR 1 ([a, b] : List (List Page)).length = true := by simp [inR]
        simp only [d1, d2, g, w, d, w2, cond_true, cond_false]
        rfl
    · show slices_Concat_PageL1b [a, b] ((a.length + b.length : Nat) : Int) [a, b] 2 2 = _
      unfold slices_Concat_PageL1b
      rfl
  have s1 : ∃ R, slices_Grow_Page ((a.length + b.length : Nat) : Int) = some (0, 0, R) := by
    unfold slices_Grow_Page
    have d : decide (((a.length + b.length : Nat) : Int) < 0) = false := by simp; omega
    have w : IntKind.wrap .i64 (((a.length + b.length : Nat) : Int) - 0) = ((a.length + b.length : Nat) : Int) := by rw [i64w (by omega) (by omega)]; omega
    by_cases hz : a.length + b.length = 0
    · have d1 : decide ((0 : Int) < ((a.length + b.length : Nat) : Int)) = false := by simp; omega
      exact ⟨[], by simp only [d, w, d1, cond_false]⟩
    · have d1 : decide ((0 : Int) < ((a.length + b.length : Nat) : Int)) = true := by simp; omega
      have d2 : decide (((a.length + b.length : Nat) : Int) ≤ (lim : Int)) = true := by rw [hm]; simp; omega
      refine ⟨List.replicate (Int.toNat ((a.length + b.length : Nat) : Int)) ((0 : Int), ((0 : Int), ((List.replicate 7 (0 : Int)), ()))), ?_⟩
      have d3 : decide ((0 : Int) ≤ (((List.replicate (Int.toNat ((a.length + b.length : Nat) : Int)) ((0 : Int), ((0 : Int), ((List.replicate 7 (0 : Int)), ())))).length : Nat) : Int)) = true := decide_eq_true (by omega)
      simp only [d, w, d1, d2, cond_false, cond_true, Bool.and_self, d3]
  obtain ⟨R, s1⟩ := s1
  have s2 : slices_Concat_PageL2 0 0 [a, b] ((([a, b] : List (List Page)).length : Nat) : Int) (0 : Int) R = some (0, a.length + b.length, a ++ b) := by
    have k1 : slices_Concat_PageL2B (0, 0, [a, b], (2 : Int), (0 : Int), R) = some (.inl (0, a.length, [a, b], (2 : Int), (1 : Int), a)) := by
      show slices_Concat_PageL2b 0 0 [a, b] 2 0 R = _
      unfold slices_Concat_PageL2b
      have w2 : IntKind.wrap .i64 ((0 : Int) + 1) = 1 := i64w (by omega) (by omega)
      have g : List.getD ([a, b] : List (List Page)) (Int.toNat 0) [] = a := rfl
      have d1 : decide ((0 : Int) < 2) = true := by decide
      have d2 : inR 0 ([a, b] : List (List Page)).length = true := by simp [inR]
      have d3 : decide ((List.drop 0 (List.take 0 R)).length + a.length ≤ lim) = true := by simp; omega
      simp only [d1, d2, g, d3, w2, cond_true]
      simp
    have k2 : slices_Concat_PageL2B (0, a.length, [a, b], (2 : Int), (1 : Int), a) = some (.inl (0, a.length + b.length, [a, b], (2 : Int), (2 : Int), a ++ b)) := by
      show slices_Concat_PageL2b 0 a.length [a, b] 2 1 a = _
      unfold slices_Concat_PageL2b
      have w2 : IntKind.wrap .i64 ((1 : Int) + 1) = 2 := i64w (by omega) (by omega)
      have g : List.getD ([a, b] : List (List Page)) (Int.toNat 1) [] = b := rfl
      have d1 : decide ((1 : Int) < 2) = true := by decide
      have d2 : inR 1 ([a, b] : List (List Page)).length = true := by simp [inR]
      have d3 : decide ((List.drop 0 (List.take a.length a)).length + b.length ≤ lim) = true := by simp; omega
      simp only [d1, d2, g, d3, w2, cond_true]
      simp
    have k3 : slices_Concat_PageL2B (0, a.length + b.length, [a, b], (2 : Int), (2 : Int), a ++ b) = some (.inr (0, a.length + b.length, a ++ b)) := by
      show slices_Concat_PageL2b 0 (a.length + b.length) [a, b] 2 2 (a ++ b) = _
      unfold slices_Concat_PageL2b
      rfl
    exact (iter_step k1).trans ((iter_step k2).trans (iter_done k3))
  unfold slices_Concat_Page
  simp only [s0, Option.bind_some, s1, s2]
  rw [List.drop_zero, List.take_of_length_le (by simp)]

theorem mergeL1_eq (l : List Page) (h : l.length ≤ 1000) : segment_MergeL1 l ((l.length : Nat) : Int) (0 : Int) [] = some (lastOf l) := by
  refine iter_for (body := segment_MergeL1B) (fun i => (l, (l.length : Int), (i : Int), lastOf (l.take i))) l.length (lastOf l) (fun i hi => ?_) ?_ 0 (Nat.zero_le _)
  · show segment_MergeL1b l (l.length : Int) i (lastOf (l.take i)) = _
    unfold segment_MergeL1b
    have e1 : decide ((i : Int) < (l.length : Int)) = true := by simp; omega
    have e4 : IntKind.wrap .i64 ((i : Int) + 1) = ((i + 1 : Nat) : Int) := by rw [i64w (by omega) (by omega)]; simp
    have e6 : ∀ d : Page, List.getD l (Int.toNat (i : Int)) d = l[i] := fun d => by simp [List.getD, hi]
    simp only [e1, inR_nat hi, e4, e6, cond_true]
    rw [lastOf_take hi]
  · show segment_MergeL1b l (l.length : Int) l.length (lastOf (l.take l.length)) = _
    unfold segment_MergeL1b
    simp

theorem mergeL2_eq (es : List (Int × Page)) (hes : es.length ≤ 1000) : ∀ (ρ : List Int) (acc : List Page) (seen : List Int), (∀ i ∈ ρ, 0 ≤ i ∧ i < es.length) → acc.length + ρ.length ≤ 2000 →
    ∃ s, rfold (fun y => (segment_MergeL2_es y).length) segment_MergeL2_n segment_MergeL2_seen segment_MergeL2B (acc, ((((es.length : Nat) : Int), seen), es)) ρ = some (acc ++ ρ.map fun i => (es.getD i.toNat (0, noPage)).2, ((((es.length : Nat) : Int), s), es))
  | [], acc, seen, _, _ => ⟨seen, by simp [rfold]⟩
  | i :: ρ, acc, seen, h, hl => by
    obtain ⟨h0, h1⟩ := h i (by simp)
    have hm : lim = 2147483648 := rfl
    obtain ⟨k, rfl⟩ : ∃ k : Nat, i = k := ⟨i.toNat, by omega⟩
    have hk : k < es.length := by omega
    have hb : segment_MergeL2B (acc, ((((es.length : Nat) : Int), seen), es)) (k : Int) = some (acc ++ [(es[k]).2], ((((es.length : Nat) : Int), (k : Int) :: seen), es)) := by
      show segment_MergeL2b _ _ _ _ = _
      unfold segment_MergeL2b
      have e1 : decide (acc.length + 1 ≤ lim) = true := by simp only [List.length_cons] at hl; simp; omega
      simp only [decide_true, cond_true, Int.toNat_natCast, List.getElem?_eq_getElem hk, Option.bind_some, e1]
    obtain ⟨s, ih⟩ := mergeL2_eq es hes ρ (acc ++ [(es[k]).2]) ((k : Int) :: seen) (fun j hj => h j (by simp [hj])) (by simp at hl ⊢; omega)
    refine ⟨s, ?_⟩
    simp only [rfold, hb, Option.bind_some]
    have q1 : segment_MergeL2_n (acc ++ [(es[k]).2], ((((es.length : Nat) : Int), (k : Int) :: seen), es)) = segment_MergeL2_n (acc, ((((es.length : Nat) : Int), seen), es)) := rfl
    have q2 : segment_MergeL2_seen (acc ++ [(es[k]).2], ((((es.length : Nat) : Int), (k : Int) :: seen), es)) = (k : Int) :: segment_MergeL2_seen (acc, ((((es.length : Nat) : Int), seen), es)) := rfl
    have q3 : (segment_MergeL2_es (acc ++ [(es[k]).2], ((((es.length : Nat) : Int), (k : Int) :: seen), es))).length = (segment_MergeL2_es (acc, ((((es.length : Nat) : Int), seen), es))).length := rfl
    simp only [q1, q2, q3, decide_true, Bool.and_self, cond_true, ih]
    simp [List.getD, hk]

theorem idx_map (es : List (Int × Page)) : (idx es.length).map (fun i => (es.getD i.toNat (0, noPage)).2) = es.map (·.2) := by
  unfold idx
  rw [List.map_map]
  refine List.ext_getElem (by simp) fun i h1 h2 => ?_
  simp only [List.length_map, List.length_range] at h1
  simp [List.getD, h1]

theorem segMerge_fine (a b : List Page) (h : a.length + b.length ≤ 40) : ∃ r, segment_Merge a b = some r ∧ SAsc r ∧ ∀ q, q ∈ r ↔ (q.1, q) ∈ lastOf (a ++ b) := by
  have hl : (a ++ b).length ≤ 40 := by simp; omega
  obtain ⟨ok, hle⟩ := lastOf_ok (a ++ b)
  generalize hes : lastOf (a ++ b) = es at ok hle
  -- what the sorted list of the map's pages is
  have key : ∀ vals : List Page, vals.Perm (es.map (·.2)) → ∃ r, segment_ascending vals = some r ∧ SAsc r ∧ ∀ q, q ∈ r ↔ (q.1, q) ∈ es := by
    intro vals hv
    obtain ⟨r, r1, r2, r3⟩ := ascending_fine vals (by rw [hv.length_eq]; simp; omega)
    have hp : r.Perm (es.map (·.2)) := r3.trans hv
    refine ⟨r, r1, ?_, fun q => ?_⟩
    · have hkeys : es.map (fun e => e.2.1) = es.map (·.1) := List.map_congr_left fun e he => (ok.key e he).symm
      have hn : (r.map (·.1)).Nodup := by
        have h1 : (r.map (·.1)).Perm ((es.map (·.2)).map (·.1)) := hp.map _
        rw [List.map_map] at h1
        have h2 : es.map ((fun p : Page => p.1) ∘ fun e : Int × Page => e.2) = es.map (·.1) := hkeys
        rw [h2] at h1
        exact h1.nodup_iff.2 ok.nd
      have hne : r.Pairwise fun p q => p.1 ≠ q.1 := List.pairwise_map.1 hn
      exact (List.Pairwise.and r2 hne).imp fun {p q} h => Int.lt_iff_le_and_ne.2 h
    · rw [hp.mem_iff, List.mem_map]
      constructor
      · rintro ⟨e, he, rfl⟩
        have := ok.key e he
        rw [← this]; exact he
      · intro hq; exact ⟨_, hq, rfl⟩
  -- the answer does not hang on the order
  have hvals : ∀ p : List Int, p.Perm (idx es.length) → (p.map fun i => (es.getD i.toNat (0, noPage)).2).Perm (es.map (·.2)) := fun p hp => by
    have := hp.map (fun i => (es.getD i.toNat (0, noPage)).2)
    rwa [idx_map] at this
  obtain ⟨r, r1, r2, r3⟩ := key (es.map (·.2)) (List.Perm.refl _)
  refine ⟨r, ?_, r2, by rw [hes] at *; exact r3⟩
  unfold segment_Merge
  rw [concat_eq a b (by omega)]
  simp only [Option.bind_some, mergeL1_eq (a ++ b) (by omega), hes]
  refine demO_of ⟨_, List.Perm.refl _⟩ fun p hp => ?_
  obtain ⟨s, hs⟩ := mergeL2_eq es (by omega) p [] [] (fun i hi => mem_idx.1 (hp.mem_iff.1 hi)) (by rw [hp.length_eq]; simp [idx]; omega)
  obtain ⟨r', q1, q2, q3⟩ := key _ (hvals p hp)
  have : r' = r := sasc_ext q2 r2 fun q => by rw [q3, r3]
  subst this
  simp only [decide_true, List.isEmpty_nil, Bool.and_self, cond_true, hs, Option.bind_some, List.nil_append, q1]

/-! The reference's union -/
def putAt (out : List Page) (p : Page) : Nat := (out.takeWhile fun q => decide (q.1 < p.1)).length
def put (out : List Page) (p : Page) : List Page :=
  if h : putAt out p < out.length then (if (out[putAt out p]).1 = p.1 then out.set (putAt out p) p else out.take (putAt out p) ++ (p :: out.drop (putAt out p))) else out.take (putAt out p) ++ (p :: out.drop (putAt out p))

theorem putAt_le (out : List Page) (p : Page) : putAt out p ≤ out.length := by
  unfold putAt
  exact (List.takeWhile_prefix _).length_le

theorem take_putAt (out : List Page) (p : Page) : out.take (putAt out p) = out.takeWhile fun q => decide (q.1 < p.1) := by
  exact (List.prefix_iff_eq_take.1 (List.takeWhile_prefix _)).symm

theorem drop_putAt (out : List Page) (p : Page) : out.drop (putAt out p) = out.dropWhile fun q => decide (q.1 < p.1) := by
  have h := List.drop_left (l₁ := out.takeWhile fun q => decide (q.1 < p.1)) (l₂ := out.dropWhile fun q => decide (q.1 < p.1))
  rw [List.takeWhile_append_dropWhile] at h
  exact h

theorem dw_head {f : Page → Bool} : ∀ {out : List Page} {x : Page} {l : List Page}, out.dropWhile f = x :: l → f x = false
  | [], x, l, h => by simp at h
  | a :: out, x, l, h => by
    rw [List.dropWhile_cons] at h
    cases hf : f a with
    | true => rw [hf, if_pos rfl] at h; exact dw_head h
    | false => rw [hf, if_neg (by decide)] at h; rw [← (List.cons.inj h).1]; exact hf

theorem tw_lt {x : Page} : ∀ {acc : List Page}, ∀ p ∈ acc.takeWhile (fun q => decide (q.1 < x.1)), p.1 < x.1
  | [], p, hp => by simp at hp
  | a :: l, p, hp => by
    rw [List.takeWhile_cons] at hp
    by_cases hc : a.1 < x.1
    · rw [if_pos (by simpa using hc)] at hp
      rcases List.mem_cons.1 hp with rfl | hp
      · exact hc
      · exact tw_lt p hp
    · rw [if_neg (by simpa using hc)] at hp
      cases hp

theorem dw_ge {x : Page} : ∀ {acc : List Page}, SAsc acc → ∀ p ∈ acc.dropWhile (fun q => decide (q.1 < x.1)), x.1 ≤ p.1
  | [], _, p, hp => by simp at hp
  | a :: l, h, p, hp => by
    rw [List.dropWhile_cons] at hp
    obtain ⟨h1, h2⟩ := List.pairwise_cons.1 h
    by_cases hc : a.1 < x.1
    · rw [if_pos (by simpa using hc)] at hp
      exact dw_ge h2 p hp
    · rw [if_neg (by simpa using hc)] at hp
      rcases List.mem_cons.1 hp with rfl | hp
      · omega
      · have := h1 p hp; omega

theorem put_fine {out : List Page} (h : SAsc out) (p : Page) : SAsc (put out p) ∧ (∀ q, q ∈ put out p ↔ q = p ∨ (q ∈ out ∧ q.1 ≠ p.1)) ∧ (put out p).length ≤ out.length + 1 := by
  have hsplit : out.take (putAt out p) ++ out.drop (putAt out p) = out := List.take_append_drop _ _
  have ht : ∀ q ∈ out.take (putAt out p), q.1 < p.1 := fun q hq => by rw [take_putAt] at hq; exact tw_lt q hq
  have hd : ∀ q ∈ out.drop (putAt out p), p.1 ≤ q.1 := fun q hq => by rw [drop_putAt] at hq; exact dw_ge h q hq
  have hs : SAsc (out.take (putAt out p) ++ out.drop (putAt out p)) := by rw [hsplit]; exact h
  obtain ⟨s1, s2, s3⟩ := List.pairwise_append.1 hs
  have hmem : ∀ q, q ∈ out ↔ q ∈ out.take (putAt out p) ∨ q ∈ out.drop (putAt out p) := fun q => by rw [← List.mem_append, hsplit]
  by_cases hlt : putAt out p < out.length
  · have hdc : out.drop (putAt out p) = out[putAt out p] :: out.drop (putAt out p + 1) := List.drop_eq_getElem_cons hlt
    rw [hdc] at s2 s3 hd hmem
    obtain ⟨s4, s5⟩ := List.pairwise_cons.1 s2
    by_cases he : (out[putAt out p]).1 = p.1
    · have hset : put out p = out.take (putAt out p) ++ p :: out.drop (putAt out p + 1) := by
        unfold put
        rw [dif_pos hlt, if_pos he, List.set_eq_take_append_cons_drop, if_pos hlt]
      rw [hset]
      refine ⟨List.pairwise_append.2 ⟨s1, List.pairwise_cons.2 ⟨fun q hq => by rw [← he]; exact s4 q hq, s5⟩, fun x hx y hy => ?_⟩, fun q => ?_, by simp; omega⟩
      · rcases List.mem_cons.1 hy with rfl | hy
        · exact ht x hx
        · exact s3 x hx y (List.mem_cons_of_mem _ hy)
      · rw [List.mem_append, List.mem_cons, hmem]
        constructor
        · rintro (hq | rfl | hq)
          · exact .inr ⟨.inl hq, by have := ht q hq; omega⟩
          · exact .inl rfl
          · exact .inr ⟨.inr (List.mem_cons_of_mem _ hq), by have := s4 q hq; omega⟩
        · rintro (rfl | ⟨hq | hq, hne⟩)
          · exact .inr (.inl rfl)
          · exact .inl hq
          · rcases List.mem_cons.1 hq with rfl | hq
            · exact absurd he hne
            · exact .inr (.inr hq)
    · have hput : put out p = out.take (putAt out p) ++ p :: out.drop (putAt out p) := by
        unfold put
        rw [dif_pos hlt, if_neg he]
      rw [hput, hdc]
      have hlt2 : p.1 < (out[putAt out p]).1 := by have := hd _ (List.mem_cons_self); omega
      refine ⟨List.pairwise_append.2 ⟨s1, List.pairwise_cons.2 ⟨fun q hq => ?_, s2⟩, fun x hx y hy => ?_⟩, fun q => ?_, by simp; omega⟩
      · rcases List.mem_cons.1 hq with rfl | hq
        · exact hlt2
        · have := s4 q hq; omega
      · rcases List.mem_cons.1 hy with rfl | hy
        · exact ht x hx
        · exact s3 x hx y hy
      · rw [List.mem_append, List.mem_cons, hmem]
        constructor
        · rintro (hq | rfl | hq)
          · exact .inr ⟨.inl hq, by have := ht q hq; omega⟩
          · exact .inl rfl
          · refine .inr ⟨.inr hq, ?_⟩
            rcases List.mem_cons.1 hq with rfl | hq
            · omega
            · have := s4 q hq; omega
        · rintro (rfl | ⟨hq | hq, hne⟩)
          · exact .inr (.inl rfl)
          · exact .inl hq
          · exact .inr (.inr hq)
  · have hput : put out p = out.take (putAt out p) ++ p :: out.drop (putAt out p) := by
      unfold put
      rw [dif_neg hlt]
    have hnil : out.drop (putAt out p) = [] := List.drop_eq_nil_of_le (by omega)
    rw [hput, hnil]
    rw [hnil] at hmem
    refine ⟨List.pairwise_append.2 ⟨s1, List.pairwise_singleton _ _, fun x hx y hy => by simp at hy; subst hy; exact ht x hx⟩, fun q => ?_, by simp; omega⟩
    rw [List.mem_append, hmem]
    constructor
    · rintro (hq | hq)
      · exact .inr ⟨.inl hq, by have := ht q hq; omega⟩
      · exact .inl (by simpa using hq)
    · rintro (rfl | ⟨hq | hq, hne⟩)
      · exact .inr (by simp)
      · exact .inl hq
      · cases hq

theorem refL1_eq (all out : List Page) (i : Nat) (hi : i < all.length) (ho : out.length ≤ 1000) : ref19_MergeL1 (i : Int) (0 : Int) out all = some ((i : Int), ((putAt out all[i] : Nat) : Int), out, all) := by
  have hg : ∀ d : Page, List.getD all (Int.toNat (i : Int)) d = all[i] := fun d => by simp [List.getD, hi]
  have key : ∀ d k, k + d = putAt out all[i] → ref19_MergeL1 (i : Int) (k : Int) out all = some ((i : Int), ((putAt out all[i] : Nat) : Int), out, all) := by
    intro d
    induction d with
    | zero =>
      intro k hk
      refine iter_done ?_
      show ref19_MergeL1b (i : Int) (k : Int) out all = _
      unfold ref19_MergeL1b
      by_cases hlt : k < out.length
      · have e1 : decide ((k : Int) < ((out.length : Nat) : Int)) = true := by simp; omega
        have g : ∀ d : Page, List.getD out (Int.toNat (k : Int)) d = out[k] := fun d => by simp [List.getD, hlt]
        have hnot : ¬ (out[k]).1 < (all[i]).1 := by
          intro hc
          have h1 : out.drop (putAt out all[i]) = out.dropWhile (fun q => decide (q.1 < (all[i]).1)) := drop_putAt _ _
          have hk' : putAt out all[i] = k := by omega
          rw [hk', List.drop_eq_getElem_cons hlt] at h1
          have h2 := dw_head h1.symm
          simp only [decide_eq_false_iff_not] at h2
          exact h2 hc
        have e2 : decide ((out[k]).1 < (all[i]).1) = false := by simpa using hnot
        simp only [e1, inR_nat hlt, inR_nat hi, g, hg, e2, cond_true, cond_false]
        rw [show putAt out all[i] = k by omega]
      · have e1 : decide ((k : Int) < ((out.length : Nat) : Int)) = false := by simp; omega
        simp only [e1, cond_false]
        rw [show putAt out all[i] = k by omega]
    | succ d ih =>
      intro k hk
      have hle := putAt_le out all[i]
      have hlt : k < out.length := by omega
      have e1 : decide ((k : Int) < ((out.length : Nat) : Int)) = true := by simp; omega
      have g : ∀ d : Page, List.getD out (Int.toNat (k : Int)) d = out[k] := fun d => by simp [List.getD, hlt]
      have e4 : IntKind.wrap .i64 ((k : Int) + 1) = ((k + 1 : Nat) : Int) := by rw [i64w (by omega) (by omega)]; simp
      have hc : (out[k]).1 < (all[i]).1 := by
        have hk2 : k < min (putAt out all[i]) out.length := by omega
        have : out[k] ∈ out.take (putAt out all[i]) := List.mem_take_iff_getElem.2 ⟨k, hk2, rfl⟩
        rw [take_putAt] at this
        exact tw_lt _ this
      have e2 : decide ((out[k]).1 < (all[i]).1) = true := by simpa using hc
      have step : ref19_MergeL1b (i : Int) (k : Int) out all = some (.inl ((i : Int), ((k + 1 : Nat) : Int), out, all)) := by
        unfold ref19_MergeL1b
        simp only [e1, inR_nat hlt, inR_nat hi, g, hg, e2, cond_true, e4]
      exact (iter_step step).trans (ih (k + 1) (by omega))
  exact key (putAt out all[i]) 0 (by omega)

def putAll (l : List Page) : List Page := l.foldl put []

theorem putAll_take {l : List Page} {i : Nat} (hi : i < l.length) : putAll (l.take (i + 1)) = put (putAll (l.take i)) l[i] := by
  unfold putAll
  rw [List.take_add_one, List.getElem?_eq_getElem hi, List.foldl_append]; rfl

theorem putAll_fine (l : List Page) : ∀ i, i ≤ l.length → SAsc (putAll (l.take i)) ∧ (∀ q, q ∈ putAll (l.take i) ↔ (q.1, q) ∈ lastOf (l.take i)) ∧ (putAll (l.take i)).length ≤ i := by
  intro i
  induction i with
  | zero => intro _; exact ⟨List.Pairwise.nil, fun q => by simp [putAll, lastOf], by simp [putAll]⟩
  | succ i ih =>
    intro hi
    obtain ⟨h1, h2, h3⟩ := ih (by omega)
    rw [putAll_take (by omega), lastOf_take (by omega)]
    obtain ⟨p1, p2, p3⟩ := put_fine h1 l[i]
    refine ⟨p1, fun q => ?_, by omega⟩
    rw [p2, mem_upsV (lastOf_ok _).1, h2]

theorem refMerge_eq (a b : List Page) (h : a.length + b.length ≤ 1000) : ref19_Merge a b = some (putAll (a ++ b)) := by
  have hm : lim = 2147483648 := rfl
  have key : ref19_MergeL2 (0 : Int) [] (a ++ b) = some (putAll (a ++ b)) := by
    generalize hall : a ++ b = all
    have hlen : all.length ≤ 1000 := by rw [← hall]; simp; omega
    refine iter_for (body := ref19_MergeL2B) (fun i => ((i : Int), putAll (all.take i), all)) all.length (putAll all) (fun i hi => ?_) ?_ 0 (Nat.zero_le _)
    · show ref19_MergeL2b (i : Int) (putAll (all.take i)) all = _
      obtain ⟨f1, f2, f3⟩ := putAll_fine all i (by omega)
      rw [putAll_take hi]
      generalize putAll (all.take i) = out at f1 f3
      have hg : ∀ d : Page, List.getD all i d = all[i] := fun d => by simp [List.getD, hi]
      have e1 : decide ((i : Int) < ((all.length : Nat) : Int)) = true := by simp; omega
      have e4 : IntKind.wrap .i64 ((i : Int) + 1) = ((i + 1 : Nat) : Int) := by rw [i64w (by omega) (by omega)]; simp
      have hle := putAt_le out all[i]
      have e5 := refL1_eq all out i hi (by omega)
      have a1 : (decide ((0 : Int) ≤ ((putAt out all[i] : Nat) : Int)) && decide (((putAt out all[i] : Nat) : Int) ≤ ((out.length : Nat) : Int))) = true := by simp; omega
      have a2 : decide (((out.length : Nat) : Int) ≤ ((out.length : Nat) : Int)) = true := by simp
      have a3 : decide (1 + (List.drop (putAt out all[i]) (List.take out.length out)).length ≤ lim) = true := by simp; omega
      have a4 : decide ((List.drop 0 (List.take (putAt out all[i]) out)).length + ([all[i]] ++ List.drop (putAt out all[i]) (List.take out.length out)).length ≤ lim) = true := by simp; omega
      have a5 : List.drop 0 (List.take (putAt out all[i]) out) ++ ([all[i]] ++ List.drop (putAt out all[i]) (List.take out.length out)) = out.take (putAt out all[i]) ++ (all[i] :: out.drop (putAt out all[i])) := by simp
      unfold ref19_MergeL2b
      by_cases hlt : putAt out all[i] < out.length
      · have d1 : decide (((putAt out all[i] : Nat) : Int) < ((out.length : Nat) : Int)) = true := by simp; omega
        have g : ∀ d : Page, List.getD out (putAt out all[i]) d = out[putAt out all[i]] := fun d => by simp [List.getD, hlt]
        by_cases he : (out[putAt out all[i]]).1 = (all[i]).1
        · have d2 : decide ((out[putAt out all[i]]).1 = (all[i]).1) = true := by simpa using he
          have hput : put out all[i] = out.set (putAt out all[i]) all[i] := by unfold put; rw [dif_pos hlt, if_pos he]
          simp only [e1, e5, Option.bind_some, d1, inR_nat hlt, inR_nat hi, hg, Int.toNat_natCast, g, d2, cond_true, e4, hput]
        · have d2 : decide ((out[putAt out all[i]]).1 = (all[i]).1) = false := by simpa using he
          have hput : put out all[i] = out.take (putAt out all[i]) ++ (all[i] :: out.drop (putAt out all[i])) := by unfold put; rw [dif_pos hlt, if_neg he]
          simp only [e1, e5, Option.bind_some, d1, inR_nat hlt, inR_nat hi, hg, Int.toNat_natCast, g, d2, cond_true, cond_false, e4, a1, a2, Bool.and_self, a3, a4, a5, hput]
      · have d1 : decide (((putAt out all[i] : Nat) : Int) < ((out.length : Nat) : Int)) = false := by simp; omega
        have hput : put out all[i] = out.take (putAt out all[i]) ++ (all[i] :: out.drop (putAt out all[i])) := by unfold put; rw [dif_neg hlt]
        simp only [e1, e5, Option.bind_some, d1, inR_nat hi, hg, Int.toNat_natCast, cond_true, cond_false, e4, a1, a2, Bool.and_self, a3, a4, a5, hput]
    · show ref19_MergeL2b (all.length : Int) (putAll (all.take all.length)) all = _
      unfold ref19_MergeL2b
      simp
  unfold ref19_Merge
  have d1 : decide (0 + a.length ≤ lim) = true := by simp; omega
  have d2 : decide (a.length + b.length ≤ lim) = true := by simp; omega
  simp only [d1, d2, cond_true, List.nil_append, key, Option.bind_some]

theorem merges_same (a b : List Page) (h : a.length + b.length ≤ 40) : ∃ r, segment_Merge a b = some r ∧ ref19_Merge a b = some r ∧ r.length ≤ 40 := by
  obtain ⟨r, r1, r2, r3⟩ := segMerge_fine a b h
  have hp := putAll_fine (a ++ b) (a ++ b).length (Nat.le_refl _)
  rw [List.take_length] at hp
  have : r = putAll (a ++ b) := sasc_ext r2 hp.1 fun q => by rw [r3, hp.2.1]
  refine ⟨r, r1, by rw [this]; exact refMerge_eq a b (by omega), by rw [this]; have := hp.2.2; simp at this; omega⟩

theorem mergesL1_fine (near : Bool) (x y : List Page) (hx : x.length ≤ 20) : ∃ x', law20_SegmentMergesL1 near (0 : Int) x y = some (near, x', y) ∧ x'.length = x.length := by
  obtain ⟨r, h1, h2⟩ := iter_inv (body := law20_SegmentMergesL1B) (fun s => s.1 = near ∧ 0 ≤ s.2.1 ∧ s.2.2.1.length = x.length ∧ s.2.2.2 = y) (fun r => r.1 = near ∧ r.2.1.length = x.length ∧ r.2.2 = y) (fun s => (x.length - s.2.1).toNat) (fun s hs => by
    obtain ⟨n, i, u, v⟩ := s
    obtain ⟨h1, h2, h3, h4⟩ := hs
    simp only at h1 h2 h3 h4
    subst h1 h4
    show (∃ y', law20_SegmentMergesL1b n i u v = _ ∧ _) ∨ ∃ r, law20_SegmentMergesL1b n i u v = _ ∧ _
    unfold law20_SegmentMergesL1b
    by_cases hi : i < ((u.length : Nat) : Int)
    · cases hn : n with
      | false => exact .inr ⟨(false, u, v), by simp only [decide_eq_true hi, cond_true, cond_false], rfl, h3, rfl⟩
      | true =>
        obtain ⟨k, rfl⟩ : ∃ k : Nat, i = k := ⟨i.toNat, by omega⟩
        have hk : k < u.length := by omega
        have e4 : IntKind.wrap .i64 ((k : Int) + 1) = ((k + 1 : Nat) : Int) := by rw [i64w (by omega) (by omega)]; simp
        left
        refine ⟨(true, ((k + 1 : Nat) : Int), List.set u k ((List.getD u k ((0 : Int), ((0 : Int), ((List.replicate 7 (0 : Int)), ())))).1 % 9, (List.getD u k ((0 : Int), ((0 : Int), ((List.replicate 7 (0 : Int)), ())))).2), v), ?_, ?_, ?_⟩
        · simp only [decide_eq_true hi, cond_true, inR_nat hk, hand_Pick_eq _ 9 (by omega) (by omega), Option.bind_some, e4, Int.toNat_natCast]
        · exact ⟨rfl, (by show (0 : Int) ≤ ((k + 1 : Nat) : Int); omega), by simp [h3], rfl⟩
        · show (((x.length : Nat) : Int) - ((k + 1 : Nat) : Int)).toNat < (((x.length : Nat) : Int) - (k : Int)).toNat
          omega
    · exact .inr ⟨(n, u, v), by simp only [decide_eq_false hi, cond_false], rfl, h3, rfl⟩) (near, (0 : Int), x, y) ⟨rfl, by simp, rfl, rfl⟩
  obtain ⟨n, u, v⟩ := r
  obtain ⟨e1, e2, e3⟩ := h2
  simp only at e1 e2 e3
  subst e1 e3
  exact ⟨u, h1, e2⟩

theorem mergesL2_fine (near : Bool) (x y : List Page) (hy : y.length ≤ 20) : ∃ y', law20_SegmentMergesL2 near (0 : Int) x y = some (x, y') ∧ y'.length = y.length := by
  obtain ⟨r, h1, h2⟩ := iter_inv (body := law20_SegmentMergesL2B) (fun s => s.1 = near ∧ 0 ≤ s.2.1 ∧ s.2.2.2.length = y.length ∧ s.2.2.1 = x) (fun r => r.2.length = y.length ∧ r.1 = x) (fun s => (y.length - s.2.1).toNat) (fun s hs => by
    obtain ⟨n, i, u, v⟩ := s
    obtain ⟨h1, h2, h3, h4⟩ := hs
    simp only at h1 h2 h3 h4
    subst h1 h4
    show (∃ y', law20_SegmentMergesL2b n i u v = _ ∧ _) ∨ ∃ r, law20_SegmentMergesL2b n i u v = _ ∧ _
    unfold law20_SegmentMergesL2b
    by_cases hi : i < ((v.length : Nat) : Int)
    · cases hn : n with
      | false => exact .inr ⟨(u, v), by simp only [decide_eq_true hi, cond_true, cond_false], h3, rfl⟩
      | true =>
        obtain ⟨k, rfl⟩ : ∃ k : Nat, i = k := ⟨i.toNat, by omega⟩
        have hk : k < v.length := by omega
        have e4 : IntKind.wrap .i64 ((k : Int) + 1) = ((k + 1 : Nat) : Int) := by rw [i64w (by omega) (by omega)]; simp
        left
        refine ⟨(true, ((k + 1 : Nat) : Int), u, List.set v k ((List.getD v k ((0 : Int), ((0 : Int), ((List.replicate 7 (0 : Int)), ())))).1 % 9, (List.getD v k ((0 : Int), ((0 : Int), ((List.replicate 7 (0 : Int)), ())))).2)), ?_, ?_, ?_⟩
        · simp only [decide_eq_true hi, cond_true, inR_nat hk, hand_Pick_eq _ 9 (by omega) (by omega), Option.bind_some, e4, Int.toNat_natCast]
        · exact ⟨rfl, (by show (0 : Int) ≤ ((k + 1 : Nat) : Int); omega), by simp [h3], rfl⟩
        · show (((y.length : Nat) : Int) - ((k + 1 : Nat) : Int)).toNat < (((y.length : Nat) : Int) - (k : Int)).toNat
          omega
    · exact .inr ⟨(u, v), by simp only [decide_eq_false hi, cond_false], h3, rfl⟩) (near, (0 : Int), x, y) ⟨rfl, by simp, rfl, rfl⟩
  obtain ⟨u, v⟩ := r
  obtain ⟨e2, e3⟩ := h2
  simp only at e2 e3
  subst e3
  exact ⟨v, h1, e2⟩

theorem segmentMerges_pure (a b : List Page) (near : Bool) (h0 : Wf (.slice TPage) a) (h1 : Wf (.slice TPage) b) (h2 : Wf .bool near) : law20_SegmentMerges a b near = some true := by
  have hm : lim = 2147483648 := rfl
  unfold law20_SegmentMerges
  by_cases ha : (20 : Int) < ((a.length : Nat) : Int)
  · simp only [decide_eq_true ha, cond_true]
  · by_cases hb : (20 : Int) < ((b.length : Nat) : Int)
    · simp only [decide_eq_false ha, decide_eq_true hb, cond_true, cond_false]
    · have d1 : decide (0 + a.length ≤ lim) = true := by simp; omega
      have d2 : decide (0 + b.length ≤ lim) = true := by simp; omega
      obtain ⟨x, hx, hxl⟩ := mergesL1_fine near a b (by omega)
      obtain ⟨y, hy, hyl⟩ := mergesL2_fine near x b (by omega)
      obtain ⟨r, r1, r2, r3⟩ := merges_same x y (by omega)
      have e := heap_SamePages_self r (by have : maxLen = 9223372036854775807 := by decide
                                          omega)
      simp only [decide_eq_false ha, decide_eq_false hb, cond_false, d1, d2, cond_true, List.nil_append, hx, hy, Option.bind_some, awake20, r1, r2, e]

end Go.Sx

