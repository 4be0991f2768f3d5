/- W1: printed by a program of this session: the functions of the seat as plain functions, and that the code comes to them. -/
import Derived.Test.YteghkndbngddgaaA0
import Derived.Test.YteghkndbngddgaaQ2
import Derived.Test.YteghkndbngddgaaA4
/- Known pages, plainly: the latest of a line, node pages, header pages, segments of a bitmap, what is missing. -/
set_option linter.unusedVariables false
set_option linter.unusedSimpArgs false
namespace Go.Sx
open Go.RowKit
end Go.Sx

/- Tags of pages; allocating and releasing a page; what a commit does to a heap's pages. -/
set_option linter.unusedVariables false
set_option linter.unusedSimpArgs false
namespace Go.Sx
open Go.RowKit
end Go.Sx

/- Allocation of pages, plainly: the loops of Allocate on known pages that are in order. -/
set_option linter.unusedVariables false
set_option linter.unusedSimpArgs false
namespace Go.Sx
open Go.RowKit
/-! Maps as lists -/
section
variable {α : Type}
end
/-! Bits -/
/-! One segment -/
end Go.Sx

/- Allocation of pages, plainly: all segments of a compute node. -/
set_option linter.unusedVariables false
set_option linter.unusedSimpArgs false
namespace Go.Sx
open Go.RowKit
end Go.Sx

/- Allocation of pages, plainly: reading and writing of headers, the choice of segments, the whole. -/
set_option linter.unusedVariables false
set_option linter.unusedSimpArgs false
namespace Go.Sx
open Go.RowKit
/-! How many bits are set -/
/-! The headers are read -/
/-! The headers are written -/
end Go.Sx

/- Allocation of pages, plainly: the whole function on known pages that are in order. -/
set_option linter.unusedVariables false
set_option linter.unusedSimpArgs false
namespace Go.Sx
open Go.RowKit
end Go.Sx

/- Pages sorted by line: the stable sort of up to twenty pages is insertion. -/
set_option linter.unusedVariables false
set_option linter.unusedSimpArgs false
namespace Go.Sx
open Go.RowKit
/-- Insertion behind all that is not greater. -/
def insR (x : Page) (acc : List Page) : List Page := acc.takeWhile (fun p => decide (p.1 ≤ x.1)) ++ x :: acc.dropWhile (fun p => decide (p.1 ≤ x.1))
def isort (l : List Page) : List Page := l.foldl (fun acc x => insR x acc) []
def Asc (l : List Page) : Prop := l.Pairwise fun p q => p.1 ≤ q.1

theorem cmp_lines (a b : Page) : (segment_ascending_1 a b).bind (fun r => some (decide (r < 0))) = some (decide (a.1 < b.1)) := by
  unfold segment_ascending_1 cmp_Compare_int cmp_isNaN_int
  simp only [decide_true, Bool.not_true, Option.bind_some, cond_false]
  by_cases h1 : a.1 < b.1
  · simp [h1]
  · by_cases h2 : b.1 < a.1 <;> simp [h1, h2]

theorem cmp_lt {a b : Page} : ∃ r, segment_ascending_1 a b = some r ∧ decide (r < 0) = decide (a.1 < b.1) := by
  have h := cmp_lines a b
  cases hr : segment_ascending_1 a b with
  | none => rw [hr] at h; simp at h
  | some r => rw [hr] at h; simp at h; exact ⟨r, rfl, by simpa using h⟩

theorem swap_two (l : List Page) (y x : Page) (r : List Page) : ((l ++ y :: x :: r).set (l.length + 1) y).set l.length x = l ++ x :: y :: r := by
  induction l with
  | nil => rfl
  | cons a l ih => simp only [List.cons_append, List.length_cons, List.set_cons_succ]; rw [ih]

theorem getD_mid (l : List Page) (y : Page) (r : List Page) (d : Page) : (l ++ y :: r).getD l.length d = y := by simp [List.getD]
theorem getD_mid1 (l : List Page) (y x : Page) (r : List Page) (d : Page) : (l ++ y :: x :: r).getD (l.length + 1) d = x := by simp [List.getD]

theorem tw_all {f : Page → Bool} : ∀ {l : List Page}, (∀ p ∈ l, f p = true) → l.takeWhile f = l
  | [], _ => rfl
  | a :: l, h => by rw [List.takeWhile_cons, h a (by simp)]; simp [tw_all (l := l) fun p hp => h p (by simp [hp])]

theorem dw_all {f : Page → Bool} : ∀ {l : List Page}, (∀ p ∈ l, f p = true) → l.dropWhile f = []
  | [], _ => rfl
  | a :: l, h => by rw [List.dropWhile_cons, h a (by simp)]; simp [dw_all (l := l) fun p hp => h p (by simp [hp])]

theorem insert_eq (n i : Int) (x : Page) : ∀ (k : Nat) (pre mid : List Page), pre.length = k → k ≤ 1000 → Asc pre →
    slices_insertionSortCmpFunc_PageL1 0 n i (k : Int) (pre ++ x :: mid) = some (0, n, i, pre.takeWhile (fun p => decide (p.1 ≤ x.1)) ++ x :: (pre.dropWhile (fun p => decide (p.1 ≤ x.1)) ++ mid)) := by
  intro k
  induction k with
  | zero =>
    intro pre mid hk _ _
    have : pre = [] := List.eq_nil_of_length_eq_zero hk
    subst this
    refine iter_done ?_
    show slices_insertionSortCmpFunc_PageL1b 0 n i ((0 : Nat) : Int) _ = _
    unfold slices_insertionSortCmpFunc_PageL1b
    simp
  | succ k ih =>
    intro pre mid hk hk2 hs
    obtain ⟨pre', y, rfl⟩ : ∃ p y, pre = p ++ [y] := by
      rcases List.eq_nil_or_concat pre with h | ⟨p, y, h⟩
      · rw [h] at hk; cases hk
      · exact ⟨p, y, by rw [h, List.concat_eq_append]⟩
    have hk' : pre'.length = k := by simpa using hk
    have hs' : Asc pre' := (List.pairwise_append.1 hs).1
    have hy : ∀ p ∈ pre', p.1 ≤ y.1 := fun p hp => (List.pairwise_append.1 hs).2.2 p hp y (by simp)
    have hl : pre' ++ [y] ++ x :: mid = pre' ++ y :: x :: mid := by simp
    rw [hl]
    have e1 : decide ((0 : Int) < ((k + 1 : Nat) : Int)) = true := by simp
    have e2 : IntKind.wrap .i64 (((k + 1 : Nat) : Int) - 1) = (k : Int) := by rw [i64w (by omega) (by omega)]; omega
    have e3 : inR ((k + 1 : Nat) : Int) (pre' ++ y :: x :: mid).length = true := inR_nat (by simp; omega)
    have e4 : inR (k : Int) (pre' ++ y :: x :: mid).length = true := inR_nat (by simp; omega)
    have g1 : ∀ d, List.getD (pre' ++ y :: x :: mid) (k + 1) d = x := fun d => by rw [← hk']; exact getD_mid1 pre' y x mid d
    have g2 : ∀ d, List.getD (pre' ++ y :: x :: mid) k d = y := fun d => by rw [← hk']; exact getD_mid pre' y (x :: mid) d
    obtain ⟨r, hr, hd⟩ := cmp_lt (a := x) (b := y)
    by_cases hc : x.1 < y.1
    · have e5 : decide (r < 0) = true := by rw [hd]; simpa using hc
      have e6 : inR (k : Int) ((pre' ++ y :: x :: mid).set (k + 1) y).length = true := by rw [List.length_set]; exact e4
      have e7 : ((pre' ++ y :: x :: mid).set (k + 1) y).set k x = pre' ++ x :: y :: mid := by rw [← hk']; exact swap_two pre' y x mid
      have step : slices_insertionSortCmpFunc_PageL1b 0 n i ((k + 1 : Nat) : Int) (pre' ++ y :: x :: mid) = some (.inl (0, n, i, (k : Int), pre' ++ x :: y :: mid)) := by
        unfold slices_insertionSortCmpFunc_PageL1b
        simp only [e1, e2, e3, e4, cond_true, Int.toNat_natCast, g1, g2, hr, Option.bind_some, e5, e6, e7]
      refine (iter_step step).trans ((ih pre' (y :: mid) hk' (by omega) hs').trans ?_)
      have hny : decide (y.1 ≤ x.1) = false := by simp; omega
      have hT : (pre' ++ [y]).takeWhile (fun p => decide (p.1 ≤ x.1)) = pre'.takeWhile (fun p => decide (p.1 ≤ x.1)) := by
        rw [List.takeWhile_append]
        split
        · rename_i h
          have h1 : pre'.takeWhile (fun p => decide (p.1 ≤ x.1)) = pre' := (List.takeWhile_prefix (p := fun p : Page => decide (p.1 ≤ x.1)) (l := pre')).eq_of_length h
          rw [h1]; simp [hny]
        · rfl
      have hD : (pre' ++ [y]).dropWhile (fun p => decide (p.1 ≤ x.1)) = pre'.dropWhile (fun p => decide (p.1 ≤ x.1)) ++ [y] := by
        rw [List.dropWhile_append]
        split
        · rename_i h
          have h1 : pre'.dropWhile (fun p => decide (p.1 ≤ x.1)) = [] := by simpa using h
          rw [h1]; simp [hny]
        · rfl
      rw [hT, hD]
      simp
    · have e5 : decide (r < 0) = false := by rw [hd]; simpa using hc
      have step : slices_insertionSortCmpFunc_PageL1b 0 n i ((k + 1 : Nat) : Int) (pre' ++ y :: x :: mid) = some (.inr (0, n, i, pre' ++ y :: x :: mid)) := by
        unfold slices_insertionSortCmpFunc_PageL1b
        simp only [e1, e2, e3, e4, cond_true, Int.toNat_natCast, g1, g2, hr, Option.bind_some, e5, cond_false]
      refine (iter_done step).trans ?_
      have hall : ∀ p ∈ pre' ++ [y], (fun p : Page => decide (p.1 ≤ x.1)) p = true := fun p hp => by
        simp only [List.mem_append, List.mem_singleton] at hp
        simp only [decide_eq_true_eq]
        rcases hp with hp | rfl
        · have := hy p hp; omega
        · omega
      rw [tw_all hall, dw_all hall]
      simp

theorem dw_gt {x : Page} : ∀ {acc : List Page}, Asc acc → ∀ p ∈ acc.dropWhile (fun p => decide (p.1 ≤ x.1)), x.1 < p.1
  | [], _, p, hp => by simp at hp
  | a :: l, h, p, hp => by
    rw [List.dropWhile_cons] at hp
    obtain ⟨h1, h2⟩ := List.pairwise_cons.1 h
    by_cases hc : a.1 ≤ x.1
    · rw [if_pos (by simpa using hc)] at hp
      exact dw_gt h2 p hp
    · rw [if_neg (by simpa using hc)] at hp
      rcases List.mem_cons.1 hp with rfl | hp
      · omega
      · have := h1 p hp; omega

theorem tw_le {x : Page} : ∀ {acc : List Page}, ∀ p ∈ acc.takeWhile (fun p => decide (p.1 ≤ x.1)), p.1 ≤ x.1
  | [], p, hp => by simp at hp
  | a :: l, p, hp => by
    rw [List.takeWhile_cons] at hp
    by_cases hc : a.1 ≤ x.1
    · rw [if_pos (by simpa using hc)] at hp
      rcases List.mem_cons.1 hp with rfl | hp
      · exact hc
      · exact tw_le p hp
    · rw [if_neg (by simpa using hc)] at hp
      cases hp

theorem asc_insR {x : Page} {acc : List Page} (h : Asc acc) : Asc (insR x acc) := by
  unfold insR Asc
  have hs : Asc (acc.takeWhile (fun p => decide (p.1 ≤ x.1)) ++ acc.dropWhile (fun p => decide (p.1 ≤ x.1))) := by rw [List.takeWhile_append_dropWhile]; exact h
  obtain ⟨h1, h2, h3⟩ := List.pairwise_append.1 hs
  refine List.pairwise_append.2 ⟨h1, List.pairwise_cons.2 ⟨fun p hp => Int.le_of_lt (dw_gt h p hp), h2⟩, fun p hp q hq => ?_⟩
  rcases List.mem_cons.1 hq with rfl | hq
  · exact tw_le p hp
  · exact h3 p hp q hq

theorem len_insR (x : Page) (acc : List Page) : (insR x acc).length = acc.length + 1 := by
  have := congrArg List.length (List.takeWhile_append_dropWhile (p := fun p : Page => decide (p.1 ≤ x.1)) (l := acc))
  simp only [List.length_append] at this
  simp only [insR, List.length_append, List.length_cons]
  omega

theorem isort_take {l : List Page} {i : Nat} (hi : i < l.length) : isort (l.take (i + 1)) = insR l[i] (isort (l.take i)) := by
  unfold isort
  rw [List.take_add_one, List.getElem?_eq_getElem hi, List.foldl_append]; rfl

theorem isort_asc (l : List Page) : Asc (isort l) ∧ (isort l).length = l.length := by
  have key : ∀ i, i ≤ l.length → Asc (isort (l.take i)) ∧ (isort (l.take i)).length = i := by
    intro i
    induction i with
    | zero => intro _; exact ⟨List.Pairwise.nil, rfl⟩
    | succ i ih =>
      intro hi
      obtain ⟨h1, h2⟩ := ih (by omega)
      rw [isort_take (by omega)]
      exact ⟨asc_insR h1, by rw [len_insR, h2]⟩
  have := key l.length (Nat.le_refl _)
  rwa [List.take_length] at this

theorem insertion_eq (l : List Page) (hl : l.length ≤ 900) : slices_insertionSortCmpFunc_Page 0 (l.length : Int) l = some (isort l) := by
  unfold slices_insertionSortCmpFunc_Page
  have e : IntKind.wrap .i64 ((0 : Int) + 1) = 1 := i64w (by omega) (by omega)
  rw [e]
  have key : slices_insertionSortCmpFunc_PageL2 0 (l.length : Int) 1 l = some (isort l) := by
    by_cases h0 : l.length = 0
    · have : l = [] := List.eq_nil_of_length_eq_zero h0
      subst this
      refine iter_done ?_
      show slices_insertionSortCmpFunc_PageL2b 0 ((0 : Nat) : Int) 1 [] = _
      unfold slices_insertionSortCmpFunc_PageL2b
      rfl
    · have st : (fun i : Nat => ((0 : Int), (l.length : Int), (i : Int), isort (l.take i) ++ l.drop i)) 1 = (0, (l.length : Int), 1, l) := by
        have h1 : isort (l.take 1) = l.take 1 := by
          cases l with
          | nil => rfl
          | cons a l => simp [isort, insR]
        show ((0 : Int), (l.length : Int), ((1 : Nat) : Int), isort (l.take 1) ++ l.drop 1) = _
        rw [h1, List.take_append_drop]; rfl
      have := iter_for (body := slices_insertionSortCmpFunc_PageL2B) (fun i : Nat => ((0 : Int), (l.length : Int), (i : Int), isort (l.take i) ++ l.drop i)) l.length (isort l) (fun i hi => ?_) ?_ 1 (by omega)
      · have st' : ((0 : Int), (l.length : Int), ((1 : Nat) : Int), isort (l.take 1) ++ l.drop 1) = (0, (l.length : Int), 1, l) := st
        rw [st'] at this
        exact this
      · show slices_insertionSortCmpFunc_PageL2b 0 (l.length : Int) i (isort (l.take i) ++ l.drop i) = _
        have hp := isort_asc (l.take i)
        have hlen : (isort (l.take i)).length = i := by rw [hp.2]; simp; omega
        have e1 : decide ((i : Int) < (l.length : Int)) = true := by simp; omega
        have e4 : IntKind.wrap .i64 ((i : Int) + 1) = ((i + 1 : Nat) : Int) := by rw [i64w (by omega) (by omega)]; simp
        have hins := insert_eq (l.length : Int) (i : Int) l[i] i (isort (l.take i)) (l.drop (i + 1)) hlen (by omega) hp.1
        rw [List.drop_eq_getElem_cons hi]
        unfold slices_insertionSortCmpFunc_PageL2b
        simp only [e1, cond_true, hins, Option.bind_some, e4]
        rw [isort_take hi]
        simp only [insR, List.append_assoc, List.cons_append]
      · show slices_insertionSortCmpFunc_PageL2b 0 (l.length : Int) l.length (isort (l.take l.length) ++ l.drop l.length) = _
        unfold slices_insertionSortCmpFunc_PageL2b
        simp
  rw [key]; rfl

theorem ascending_eq (l : List Page) (hl : l.length < 20) : segment_ascending l = some (isort l) := by
  have h1 : slices_stableCmpFunc_PageL1 (l.length : Int) 20 0 20 l = some ((l.length : Int), 20, 0, l) := by
    refine iter_done ?_
    show slices_stableCmpFunc_PageL1b (l.length : Int) 20 0 20 l = _
    unfold slices_stableCmpFunc_PageL1b
    have : decide ((20 : Int) ≤ (l.length : Int)) = false := by simp; omega
    simp only [this, cond_false]
  have h3 : slices_stableCmpFunc_PageL3 (l.length : Int) 20 (isort l) = some (isort l) := by
    refine iter_done ?_
    show slices_stableCmpFunc_PageL3b (l.length : Int) 20 (isort l) = _
    unfold slices_stableCmpFunc_PageL3b
    have : decide ((20 : Int) < (l.length : Int)) = false := by simp; omega
    simp only [this, cond_false]
  unfold segment_ascending slices_SortStableFunc_Page slices_stableCmpFunc_Page
  rw [h1]
  simp only [Option.bind_some]
  rw [insertion_eq l (by omega)]
  simp only [Option.bind_some]
  rw [h3]; rfl

end Go.Sx

