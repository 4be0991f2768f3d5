/- E3: printed by a program of this session: the functions of the seat as plain functions, and that the code comes to them. -/
import Derived.Test.YteghkndbngddgaaGreatV5
/- Epochs, plainly: what an operation reads; sorting what is sorted. -/
set_option linter.unusedVariables false
set_option linter.unusedSimpArgs false
namespace Go.Sx
open Go.RowKit
theorem cmp_ge2 {a b : Page} (h : b.1 ≤ a.1) : ∃ r, qf71 a b = some r ∧ decide (r < 0) = false := by
  have h1 : ¬ a.1 < b.1 := by omega
  unfold qf71 qf40 qf10
  simp only [decide_true, Bool.not_true, Option.bind_some, cond_false]
  by_cases h2 : b.1 < a.1 <;> simp [h1, h2]
theorem bitsLen_small : ∀ n : Nat, n ≤ 6 → ∃ r, qf9 (n : Int) = some r
  | 0, _ => ⟨_, (by kernel_rfl : qf9 ((0 : Nat) : Int) = some 0)⟩
  | 1, _ => ⟨_, (by kernel_rfl : qf9 ((1 : Nat) : Int) = some 1)⟩
  | 2, _ => ⟨_, (by kernel_rfl : qf9 ((2 : Nat) : Int) = some 2)⟩
  | 3, _ => ⟨_, (by kernel_rfl : qf9 ((3 : Nat) : Int) = some 2)⟩
  | 4, _ => ⟨_, (by kernel_rfl : qf9 ((4 : Nat) : Int) = some 3)⟩
  | 5, _ => ⟨_, (by kernel_rfl : qf9 ((5 : Nat) : Int) = some 3)⟩
  | 6, _ => ⟨_, (by kernel_rfl : qf9 ((6 : Nat) : Int) = some 3)⟩
  | n + 7, h => by omega
theorem sort_asc (l : List Page) (h : Asc l) (hl : l.length ≤ 6) : qf74 l = some l := by
  have hi : ∀ i : Nat, 1 ≤ i → i < l.length → qf72L1 0 (l.length : Int) (i : Int) (i : Int) l = some (0, (l.length : Int), (i : Int), l) := by
    intro i h1 h2
    refine iter_done ?_
    show qf72L1b 0 (l.length : Int) (i : Int) (i : Int) l = _
    unfold qf72L1b
    have e1 : decide ((0 : Int) < (i : Int)) = true := by simp; omega
    have e2 : IntKind.wrap .i64 ((i : Int) - 1) = ((i - 1 : Nat) : Int) := by rw [i64w (by omega) (by omega)]; omega
    have h3 : i - 1 < l.length := by omega
    have g1 : ∀ d, List.getD l i d = l[i] := fun d => by simp [List.getD, h2]
    have g2 : ∀ d, List.getD l (i - 1) d = l[i - 1] := fun d => by simp [List.getD, h3]
    obtain ⟨r, hr, hd⟩ := cmp_ge2 (asc_get h (i := i - 1) (j := i) h2 (by omega))
    simp only [e1, cond_true, inR_nat h2, e2, inR_nat h3, Int.toNat_natCast, g1, g2, hr, Option.bind_some, hd, cond_false]
  have e0 : IntKind.wrap .i64 ((0 : Int) + 1) = 1 := i64w (by omega) (by omega)
  have hL2 : qf72L2 0 (l.length : Int) 1 l = some l := by
    by_cases h0 : l.length = 0
    · refine iter_done ?_
      show qf72L2b 0 (l.length : Int) 1 l = _
      unfold qf72L2b
      have : decide ((1 : Int) < (l.length : Int)) = false := by simp; omega
      simp only [this, cond_false]
    · have := iter_for (body := qf72L2B) (fun i : Nat => ((0 : Int), (l.length : Int), (i : Int), l)) l.length l (fun i hil => ?_) ?_ 1 (by omega)
      · exact this
      · show qf72L2b 0 (l.length : Int) (i : Int) l = _
        unfold qf72L2b
        have e1 : decide ((i : Int) < (l.length : Int)) = true := by simp; omega
        have e4 : IntKind.wrap .i64 ((i : Int) + 1) = ((i + 1 : Nat) : Int) := by rw [i64w (by omega) (by omega)]; simp
        by_cases hz : i = 0
        · subst hz
          have hL1 : qf72L1 0 (l.length : Int) ((0 : Nat) : Int) ((0 : Nat) : Int) l = some (0, (l.length : Int), ((0 : Nat) : Int), l) := by
            refine iter_done ?_
            show qf72L1b 0 (l.length : Int) ((0 : Nat) : Int) ((0 : Nat) : Int) l = _
            unfold qf72L1b
            simp
          simp only [e1, cond_true, hL1, Option.bind_some, e4]
        · simp only [e1, cond_true, hi i (by omega) hil, Option.bind_some, e4]
      · show qf72L2b 0 (l.length : Int) (l.length : Int) l = _
        unfold qf72L2b
        simp
  have hpd : ∀ r : Int, qf73L1 0 (l.length : Int) r true true l = some l := fun r => by
    refine iter_done ?_
    show qf73L1b 0 (l.length : Int) r true true l = _
    unfold qf73L1b qf72
    have e1 : IntKind.wrap .i64 ((l.length : Int) - 0) = (l.length : Int) := by rw [i64w (by omega) (by omega)]; omega
    have e2 : decide ((l.length : Int) ≤ 12) = true := by simp; omega
    simp only [e1, e2, cond_true, e0, hL2, Option.bind_some]
  obtain ⟨r, hr⟩ := bitsLen_small l.length hl
  unfold qf74 qf73
  rw [u64w (by omega) (by omega), hr]
  simp only [Option.bind_some, hpd]
structure EHeap (n : Nat) (P : List Page) (g : Int) (ns : Nat → Node) : Prop where
  hp : Heap n P
  n0 : 1 ≤ n
  n1 : n ≤ 5
  ep : epochOf (pAt P 1) = (g, 0)
  g0 : 0 ≤ g
  g1 : g ≤ 1000000
  nd : ∀ c : Nat, c ≤ 5 → readNode (pAt P (2 + c)) = (ns c, 0)
abbrev Op6 : Type := Val TOp
section
variable {n : Nat} {P : List Page} {g : Int} {ns : Nat → Node}
theorem EHeap.lat (E : EHeap n P g ns) {i : Nat} (hi : i < 8) {l : Int} (hl : l = 96 + (i : Int)) : qf7 P l = some (pAt P i, true) ∧ Wf TPage (pAt P i) ∧ lockedB (pAt P i) = false ∧ (pAt P i).1 = 96 + (i : Int) := by
  have h1 := E.hp.len; have h2 := E.n1
  have hlt : i < P.length := by omega
  have hm : maxLen = 9223372036854775807 := by decide
  rw [qf7_eq P l (by omega), E.hp.latest hlt hl, pAt_get hlt]
  exact ⟨rfl, E.hp.wf _ (List.getElem_mem _), E.hp.free _ (List.getElem_mem _), E.hp.line _ _⟩
theorem readL1_eq (E : EHeap n P g ns) (ls : List Int) (hls : ls.length ≤ 100) (hk : ∀ l ∈ ls, ∃ i : Nat, i < 8 ∧ l = 96 + (i : Int)) (op : Op6) (ep : Page) (e : Int) (pm : List (Int × Page)) (nm : List (Int × Node)) :
    qf68L1 P ls ((ls.length : Nat) : Int) (0 : Int) op ep e [] pm nm = some (P, op, ep, e, [], pm, nm) := by
  refine iter_for (body := qf68L1B) (fun i => (P, ls, ((ls.length : Nat) : Int), (i : Int), op, ep, e, [], pm, nm)) ls.length _ (fun i hi => ?_) ?_ 0 (Nat.zero_le _)
  · show qf68L1b _ _ _ _ _ _ _ _ _ _ = _
    unfold qf68L1b
    have e1 : decide ((i : Int) < ((ls.length : Nat) : Int)) = true := by simp; omega
    have e4 : IntKind.wrap .i64 ((i : Int) + 1) = ((i + 1 : Nat) : Int) := by rw [i64w (by omega) (by omega)]; simp
    have e6 : ∀ d, List.getD ls (Int.toNat (i : Int)) d = ls[i] := fun d => by simp [List.getD, hi]
    obtain ⟨j, hj, hl⟩ := hk _ (List.getElem_mem hi)
    simp only [e1, cond_true, inR_nat hi, e6, (E.lat hj hl).1, Option.bind_some, Bool.not_true, cond_false, e4]
  · show qf68L1b _ _ _ _ _ _ _ _ _ _ = _
    unfold qf68L1b
    simp
theorem readL2_ep (E : EHeap n P g ns) (ls : List Int) (i : Nat) (hi : i < ls.length) (hls : ls.length ≤ 100) (hl : ls[i] = 97) (op : Op6) (ep : Page) (e : Int) (pm : List (Int × Page)) (nm : List (Int × Node)) :
    qf68L2b P ls ((ls.length : Nat) : Int) (i : Int) op ep e pm nm = some (.inl (P, ls, ((ls.length : Nat) : Int), ((i + 1 : Nat) : Int), op, pAt P 1, g, pm, nm)) := by
  obtain ⟨f1, f2, f3, f4⟩ := E.lat (i := 1) (l := 97) (by omega) (by omega)
  unfold qf68L2b
  have e1 : decide ((i : Int) < ((ls.length : Nat) : Int)) = true := by simp; omega
  have e4 : IntKind.wrap .i64 ((i : Int) + 1) = ((i + 1 : Nat) : Int) := by rw [i64w (by omega) (by omega)]; simp
  have e6 : ∀ d, List.getD ls (Int.toNat (i : Int)) d = 97 := fun d => by rw [← hl]; simp [List.getD, hi]
  have e7 := qf67_eq _ f2
  rw [E.ep] at e7
  have e8 := qf17_eq _ f2
  rw [f3] at e8
  simp only [e1, cond_true, inR_nat hi, e6, f1, e8, e7, Option.bind_some, decide_true, Bool.not_true, cond_false, e4]
theorem readL2_nd (E : EHeap n P g ns) (ls : List Int) (i : Nat) (hi : i < ls.length) (hls : ls.length ≤ 100) (c : Nat) (hc : c ≤ 5) (hl : ls[i] = 98 + (c : Int)) (op : Op6) (ep : Page) (e : Int) (pm : List (Int × Page)) (nm : List (Int × Node)) :
    qf68L2b P ls ((ls.length : Nat) : Int) (i : Int) op ep e pm nm = some (.inl (P, ls, ((ls.length : Nat) : Int), ((i + 1 : Nat) : Int), op, ep, e, upsV pm (c : Int) (pAt P (2 + c)), upsV nm (c : Int) (ns c))) := by
  obtain ⟨f1, f2, f3, f4⟩ := E.lat (i := 2 + c) (l := 98 + (c : Int)) (by omega) (by omega)
  unfold qf68L2b
  have e1 : decide ((i : Int) < ((ls.length : Nat) : Int)) = true := by simp; omega
  have e4 : IntKind.wrap .i64 ((i : Int) + 1) = ((i + 1 : Nat) : Int) := by rw [i64w (by omega) (by omega)]; simp
  have e6 : ∀ d, List.getD ls (Int.toNat (i : Int)) d = 98 + (c : Int) := fun d => by rw [← hl]; simp [List.getD, hi]
  have e7 := qf23_eq _ f2
  rw [E.nd c hc] at e7
  have e8 := qf17_eq _ f2
  rw [f3] at e8
  have e9 : decide ((98 : Int) + (c : Int) = 97) = false := by simp; omega
  have e10 : IntKind.wrap .i64 ((98 : Int) + (c : Int) - 98) = (c : Int) := by rw [i64w (by omega) (by omega)]; omega
  simp only [e1, cond_true, inR_nat hi, e6, f1, e8, e7, Option.bind_some, decide_true, Bool.not_true, cond_false, e4, e9, e10]
theorem linesL1_eq (cs : List Int) (hcs : cs.length ≤ 100) (h : ∀ c ∈ cs, 0 ≤ c ∧ c ≤ 5) (acc : List Int) (ha : acc.length ≤ 100) : qf66L1 cs ((cs.length : Nat) : Int) (0 : Int) acc = some (acc ++ cs.map fun c => 98 + c) := by
  have hm : lim = 2147483648 := rfl
  have st0 : acc = acc ++ (cs.take 0).map (fun c : Int => 98 + c) := by simp
  conv => lhs; rw [st0]
  refine iter_for (body := qf66L1B) (fun i => (cs, ((cs.length : Nat) : Int), (i : Int), acc ++ (cs.take i).map (fun c : Int => 98 + c))) cs.length _ (fun i hi => ?_) ?_ 0 (Nat.zero_le _)
  · show qf66L1b _ _ _ _ = _
    unfold qf66L1b
    have e1 : decide ((i : Int) < ((cs.length : Nat) : Int)) = true := by simp; omega
    have e4 : IntKind.wrap .i64 ((i : Int) + 1) = ((i + 1 : Nat) : Int) := by rw [i64w (by omega) (by omega)]; simp
    have e6 : ∀ d, List.getD cs (Int.toNat (i : Int)) d = cs[i] := fun d => by simp [List.getD, hi]
    have hb := h _ (List.getElem_mem hi)
    have e7 : IntKind.wrap .i64 (98 + cs[i]) = 98 + cs[i] := i64w (by omega) (by omega)
    have e8 : decide ((acc ++ (cs.take i).map (fun c : Int => 98 + c)).length + 1 ≤ lim) = true := by simp; omega
    have e9 : (cs.take (i + 1)).map (fun c : Int => 98 + c) = (cs.take i).map (fun c : Int => 98 + c) ++ [98 + cs[i]] := by rw [List.take_add_one, List.getElem?_eq_getElem hi, List.map_append]; rfl
    simp only [e1, cond_true, inR_nat hi, e6, e7, e8, e4, e9, List.append_assoc]
  · show qf66L1b _ _ _ _ = _
    unfold qf66L1b
    simp
theorem read_one (E : EHeap n P g ns) (op : Op6) (c : Nat) (hc : c ≤ 5) (hn : qf65 op = some [(c : Int)]) (h2 : op.1 ≠ 2) (h6 : op.1 ≠ 6) :
    qf68 op P = some (pAt P 1, g, [], -1, 0, [((c : Int), pAt P (2 + c))], [((c : Int), ns c)]) := by
  have d2 : decide (op.1 = 2) = false := by simp [h2]
  have d6 : decide (op.1 = 6) = false := by simp [h6]
  have hl := linesL1_eq [(c : Int)] (by simp) (fun x hx => by simp at hx; omega) [97] (by simp)
  have hlines : qf66 op = some [97, 98 + (c : Int)] := by
    unfold qf66
    simp only [d2, d6, Bool.not_false, cond_true, hn, Option.bind_some]
    rw [hl]; rfl
  have h1 := readL1_eq E [97, 98 + (c : Int)] (by simp) (fun l hl => by
    simp at hl
    rcases hl with rfl | rfl
    · exact ⟨1, by omega, by omega⟩
    · exact ⟨2 + c, by omega, by omega⟩) op noPage 0 [] []
  have s1 := readL2_ep E [97, 98 + (c : Int)] 0 (by simp) (by simp) rfl op noPage 0 [] []
  have s2 := readL2_nd E [97, 98 + (c : Int)] 1 (by simp) (by simp) c hc rfl op (pAt P 1) g [] []
  have s3 : qf68L2b P [97, 98 + (c : Int)] ((([97, 98 + (c : Int)] : List Int).length : Nat) : Int) ((2 : Nat) : Int) op (pAt P 1) g [((c : Int), pAt P (2 + c))] [((c : Int), ns c)] = some (.inr (.inl (pAt P 1, g, [((c : Int), pAt P (2 + c))], [((c : Int), ns c)]))) := by
    unfold qf68L2b
    simp
  have hL2 : qf68L2 P [97, 98 + (c : Int)] ((([97, 98 + (c : Int)] : List Int).length : Nat) : Int) (0 : Int) op noPage 0 [] [] = some (.inl (pAt P 1, g, [((c : Int), pAt P (2 + c))], [((c : Int), ns c)])) :=
    (iter_step (body := qf68L2B) (x := (P, [97, 98 + (c : Int)], ((([97, 98 + (c : Int)] : List Int).length : Nat) : Int), ((0 : Nat) : Int), op, noPage, 0, [], [])) s1).trans ((iter_step (body := qf68L2B) (x := (P, [97, 98 + (c : Int)], ((([97, 98 + (c : Int)] : List Int).length : Nat) : Int), ((1 : Nat) : Int), op, pAt P 1, g, [], [])) s2).trans (iter_done (body := qf68L2B) (x := (P, [97, 98 + (c : Int)], ((([97, 98 + (c : Int)] : List Int).length : Nat) : Int), ((2 : Nat) : Int), op, pAt P 1, g, [((c : Int), pAt P (2 + c))], [((c : Int), ns c)])) s3))
  have z0 : decide ((0 : Int) < ((([] : List Int).length : Nat) : Int)) = false := by decide
  unfold qf68
  rw [hlines]
  simp only [Option.bind_some]
  have h1' : qf68L1 P [97, 98 + (c : Int)] ((([97, 98 + (c : Int)] : List Int).length : Nat) : Int) (0 : Int) op ((0 : Int), ((0 : Int), ((List.replicate 7 (0 : Int)), ()))) 0 [] [] [] = _ := h1
  rw [h1']
  simp only [Option.bind_some, z0, cond_false, hlines]
  rw [hL2]
  rfl
theorem read_bare (E : EHeap n P g ns) (op : Op6) (c : Nat) (hc : c ≤ 5) (hn : qf65 op = some [(c : Int)]) (h2 : op.1 = 2 ∨ op.1 = 6) :
    qf68 op P = some (noPage, 0, [], -1, 0, [((c : Int), pAt P (2 + c))], [((c : Int), ns c)]) := by
  have hl := linesL1_eq [(c : Int)] (by simp) (fun x hx => by simp at hx; omega) [] (by simp)
  have hlines : qf66 op = some [98 + (c : Int)] := by
    unfold qf66
    rcases h2 with h | h
    · have d2 : decide (op.1 = 2) = true := by simp [h]
      simp only [d2, Bool.not_true, cond_false, hn, Option.bind_some]
      rw [hl]; rfl
    · have d2 : decide (op.1 = 2) = false := by simp [h]
      have d6 : decide (op.1 = 6) = true := by simp [h]
      simp only [d2, d6, Bool.not_true, Bool.not_false, cond_true, cond_false, hn, Option.bind_some]
      rw [hl]; rfl
  have h1 := readL1_eq E [98 + (c : Int)] (by simp) (fun l hl => by
    simp at hl
    subst hl
    exact ⟨2 + c, by omega, by omega⟩) op noPage 0 [] []
  have s2 := readL2_nd E [98 + (c : Int)] 0 (by simp) (by simp) c hc rfl op noPage 0 [] []
  have s3 : qf68L2b P [98 + (c : Int)] ((([98 + (c : Int)] : List Int).length : Nat) : Int) ((1 : Nat) : Int) op noPage 0 [((c : Int), pAt P (2 + c))] [((c : Int), ns c)] = some (.inr (.inl (noPage, 0, [((c : Int), pAt P (2 + c))], [((c : Int), ns c)]))) := by
    unfold qf68L2b
    simp
  have hL2 : qf68L2 P [98 + (c : Int)] ((([98 + (c : Int)] : List Int).length : Nat) : Int) (0 : Int) op noPage 0 [] [] = some (.inl (noPage, 0, [((c : Int), pAt P (2 + c))], [((c : Int), ns c)])) :=
    (iter_step (body := qf68L2B) (x := (P, [98 + (c : Int)], ((([98 + (c : Int)] : List Int).length : Nat) : Int), ((0 : Nat) : Int), op, noPage, 0, [], [])) s2).trans (iter_done (body := qf68L2B) (x := (P, [98 + (c : Int)], ((([98 + (c : Int)] : List Int).length : Nat) : Int), ((1 : Nat) : Int), op, noPage, 0, [((c : Int), pAt P (2 + c))], [((c : Int), ns c)])) s3)
  have z0 : decide ((0 : Int) < ((([] : List Int).length : Nat) : Int)) = false := by decide
  unfold qf68
  rw [hlines]
  simp only [Option.bind_some]
  have h1' : qf68L1 P [98 + (c : Int)] ((([98 + (c : Int)] : List Int).length : Nat) : Int) (0 : Int) op ((0 : Int), ((0 : Int), ((List.replicate 7 (0 : Int)), ()))) 0 [] [] [] = _ := h1
  rw [h1']
  simp only [Option.bind_some, z0, cond_false, hlines]
  rw [hL2]
  rfl
def allPm (P : List Page) (m : Nat) : List (Int × Page) := (List.range m).map fun c : Nat => ((c : Int), pAt P (2 + c))
def allNm (ns : Nat → Node) (m : Nat) : List (Int × Node) := (List.range m).map fun c : Nat => ((c : Int), ns c)
def epI (P : List Page) : Nat → Page
  | 0 => noPage
  | _ + 1 => pAt P 1
def gI (g : Int) : Nat → Int
  | 0 => 0
  | _ + 1 => g
theorem nodes_all (op : Op6) (h : op.1 = 3) : qf65 op = some [0, 1, 2, 3, 4, 5] := by
  have hm : lim = 2147483648 := rfl
  have key : qf65L1 (0 : Int) [] = some [0, 1, 2, 3, 4, 5] := by
    have := iter_for (body := qf65L1B) (fun i => ((i : Int), (List.range i).map Int.ofNat)) 6 ([0, 1, 2, 3, 4, 5] : List Int) (fun i hi => ?_) ?_ 0 (Nat.zero_le _)
    · exact this
    · show qf65L1b _ _ = _
      unfold qf65L1b
      have e1 : decide ((i : Int) < 6) = true := by simp; omega
      have e4 : IntKind.wrap .i64 ((i : Int) + 1) = ((i + 1 : Nat) : Int) := by rw [i64w (by omega) (by omega)]; simp
      have e8 : decide (((List.range i).map Int.ofNat).length + 1 ≤ lim) = true := by simp; omega
      simp only [e1, cond_true, e8, e4, List.range_succ, List.map_append, List.map_cons, List.map_nil]
      rfl
    · show qf65L1b _ _ = _
      unfold qf65L1b
      have e1 : decide (((6 : Nat) : Int) < 6) = false := by decide
      simp only [e1, cond_false]
      rfl
  unfold qf65
  have d6 : decide (op.1 = 6) = false := by simp [h]
  have d5 : decide (op.1 = 5) = false := by simp [h]
  have d3 : decide (op.1 = 3) = true := by simp [h]
  simp only [d6, d5, d3, cond_true, cond_false, key, Option.bind_some]
theorem lines_all (op : Op6) (h : op.1 = 3) : qf66 op = some [97, 98, 99, 100, 101, 102, 103] := by
  have hl := linesL1_eq [0, 1, 2, 3, 4, 5] (by simp) (fun x hx => by simp at hx; omega) [97] (by simp)
  have d2 : decide (op.1 = 2) = false := by simp [h]
  have d6 : decide (op.1 = 6) = false := by simp [h]
  unfold qf66
  simp only [d2, d6, Bool.not_false, cond_true, nodes_all op h, Option.bind_some]
  rw [hl]; rfl
theorem read_all (E : EHeap n P g ns) (op : Op6) (h : op.1 = 3) : qf68 op P = some (pAt P 1, g, [], -1, 0, allPm P 6, allNm ns 6) := by
  have hlines := lines_all op h
  generalize hls : ([97, 98, 99, 100, 101, 102, 103] : List Int) = ls at hlines
  have hlen : ls.length = 7 := by rw [← hls]; rfl
  have hat : ∀ i (hi : i < ls.length), 1 ≤ i → ls[i] = 98 + ((i - 1 : Nat) : Int) := fun i hi h1 => by
    subst hls
    have : i < 7 := by simpa using hi
    match i, this, h1 with
    | 1, _, _ => rfl
    | 2, _, _ => rfl
    | 3, _, _ => rfl
    | 4, _, _ => rfl
    | 5, _, _ => rfl
    | 6, _, _ => rfl
    | i + 7, h, _ => omega
  have h1 := readL1_eq E ls (by omega) (fun l hl => by
    obtain ⟨i, hi, rfl⟩ := List.mem_iff_getElem.1 hl
    by_cases h0 : i = 0
    · subst h0; subst hls; exact ⟨1, by omega, rfl⟩
    · rw [hat i hi (by omega)]
      exact ⟨1 + i, by omega, by omega⟩) op noPage 0 [] []
  have hL2 : qf68L2 P ls ((ls.length : Nat) : Int) (0 : Int) op noPage 0 [] [] = some (.inl (pAt P 1, g, allPm P 6, allNm ns 6)) := by
    have := iter_for (body := qf68L2B) (fun i => (P, ls, ((ls.length : Nat) : Int), (i : Int), op, epI P i, gI g i, allPm P (i - 1), allNm ns (i - 1))) ls.length (.inl (pAt P 1, g, allPm P 6, allNm ns 6)) (fun i hi => ?_) ?_ 0 (Nat.zero_le _)
    · exact this
    · show qf68L2b _ _ _ _ _ _ _ _ _ = _
      by_cases h0 : i = 0
      · subst h0
        have := readL2_ep E ls 0 hi (by omega) (by subst hls; rfl) op noPage 0 [] []
        exact this
      · have h9 := readL2_nd E ls i hi (by omega) (i - 1) (by omega) (hat i hi (by omega)) op (pAt P 1) g (allPm P (i - 1)) (allNm ns (i - 1))
        obtain ⟨j, rfl⟩ : ∃ j, i = j + 1 := ⟨i - 1, by omega⟩
        have h9' : qf68L2b P ls ((ls.length : Nat) : Int) ((j + 1 : Nat) : Int) op (epI P (j + 1)) (gI g (j + 1)) (allPm P (j + 1 - 1)) (allNm ns (j + 1 - 1)) = _ := h9
        refine h9'.trans ?_
        have e1 : upsV (allPm P (j + 1 - 1)) ((j + 1 - 1 : Nat) : Int) (pAt P (2 + (j + 1 - 1))) = allPm P (j + 1 + 1 - 1) := by
          rw [upsV_new (fun e he => by
            unfold allPm at he
            obtain ⟨c, hc, rfl⟩ := List.mem_map.1 he
            have := List.mem_range.1 hc
            simp; omega)]
          unfold allPm
          simp [List.range_succ]
        have e2 : upsV (allNm ns (j + 1 - 1)) ((j + 1 - 1 : Nat) : Int) (ns (j + 1 - 1)) = allNm ns (j + 1 + 1 - 1) := by
          rw [upsV_new (fun e he => by
            unfold allNm at he
            obtain ⟨c, hc, rfl⟩ := List.mem_map.1 he
            have := List.mem_range.1 hc
            simp; omega)]
          unfold allNm
          simp [List.range_succ]
        rw [e1, e2]
        rfl
    · show qf68L2b _ _ _ _ _ _ _ _ _ = _
      unfold qf68L2b
      rw [hlen]
      simp
      exact ⟨rfl, rfl⟩
  have z0 : decide ((0 : Int) < ((([] : List Int).length : Nat) : Int)) = false := by decide
  unfold qf68
  rw [hlines]
  simp only [Option.bind_some]
  have h1' : qf68L1 P ls ((ls.length : Nat) : Int) (0 : Int) op ((0 : Int), ((0 : Int), ((List.replicate 7 (0 : Int)), ()))) 0 [] [] [] = _ := h1
  rw [h1']
  simp only [Option.bind_some, z0, cond_false, hlines]
  rw [hL2]
  rfl
end
end Go.Sx

/- Epochs, plainly: what each operation answers. -/
set_option linter.unusedVariables false
set_option linter.unusedSimpArgs false
namespace Go.Sx
open Go.RowKit
theorem isClient_eq {c : Nat} (hc : c ≤ 5) : qf60 (c : Int) = some true := by
  unfold qf60
  have h1 : decide ((0 : Int) ≤ (c : Int)) = true := by simp
  have h2 : decide ((c : Int) < 6) = true := by simp; omega
  simp only [h1, h2, cond_true]
theorem look1 {α : Type} (c : Int) (v : α) : lookV [(c, v)] c = some v := by simp [lookV]
theorem z0L {α : Type} : decide ((0 : Int) < ((([] : List α).length : Nat) : Int)) = false := by simp
section
variable {n : Nat} {P : List Page} {g : Int} {ns : Nat → Node}
theorem asc_one (p : Page) : Asc [p] := List.pairwise_singleton _ _
def wn (P : List Page) (c : Nat) (nd : Node) : Page := (writeNode (pAt P (2 + c)) nd).1
theorem write_eq (P : List Page) (c : Nat) (nd : Node) (hw : Wf TNode nd) (x0 : Page) (x1 : Int) (pm : List (Int × Page)) (nm : List (Int × Node)) (h : lookV pm (c : Int) = some (pAt P (2 + c))) : qf69 x0 x1 (c : Int) nd pm nm = some (pm, nm, [wn P c nd]) := by
  unfold qf69
  rw [h]
  simp only [Option.getD_some, qf38_eq _ nd hw, Option.bind_some]
  rfl
def opPin (c : Nat) : Op6 := (1, (c : Int), 1, 0, 0, [], ())
def opUnpin (c : Nat) : Op6 := (2, (c : Int), 1, 0, 0, [], ())
def opEvict (o c : Nat) : Op6 := (6, (o : Int), 2, 0, (c : Int), [], ())
def opAdv (c : Nat) : Op6 := (3, (c : Int), 0, 0, 0, [], ())
def opRet (c : Nat) (p : Ptr) : Op6 := (4, (c : Int), 0, 0, 0, [p], ())
def opCol (c d : Nat) (lines : Int) : Op6 := (5, (c : Int), 0, lines, (d : Int), [], ())
theorem next_pin (E : EHeap n P g ns) {c : Nat} (hc : c ≤ 5) (hw : Wf TNode (true, g, (ns c).2.2.1, 1, (ns c).2.2.2.2)) :
    qf89 (opPin c) P = some (if (ns c).1 = true ∧ (ns c).2.2.2.1 = 1 then ([], [], (17, 0, -1, [], [], ()), true) else ([], [wn P c (true, g, (ns c).2.2.1, 1, (ns c).2.2.2.2)], (0, g, -1, [], [97], ()), true)) := by
  have hv : qf64 (opPin c) = some true := by
    unfold qf64 opPin
    simp [isClient_eq hc]
  have hn : qf65 (opPin c) = some [(c : Int)] := by unfold qf65 opPin; simp
  have hr := read_one E (opPin c) c hc hn (by unfold opPin; simp) (by unfold opPin; simp)
  have hwr := write_eq P c (true, g, (ns c).2.2.1, 1, (ns c).2.2.2.2) hw (pAt P 1) g [((c : Int), pAt P (2 + c))] [((c : Int), ns c)] (look1 _ _)
  have k1 : decide ((opPin c).1 = 1) = true := rfl
  have k3 : decide ((opPin c).1 = 3) = false := rfl
  have s0 := sort_asc [] List.Pairwise.nil (by simp)
  have s1 := sort_asc [wn P c (true, g, (ns c).2.2.1, 1, (ns c).2.2.2.2)] (asc_one _) (by simp)
  unfold qf89
  simp only [hv, hr, Option.bind_some, Bool.not_true, cond_false, z0L, decide_true, k1, k3, cond_true]
  unfold qf70
  have hcl : (opPin c).2.1 = (c : Int) := rfl
  have hinc : (opPin c).2.2.1 = 1 := rfl
  simp only [hcl, hinc, look1, Option.getD_some, hwr, Option.bind_some]
  cases hp : (ns c).1 with
  | false => simp only [cond_false, s1, Option.bind_some, Bool.false_eq_true, false_and, if_false]
  | true =>
    by_cases hi : (ns c).2.2.2.1 = 1
    · simp only [cond_true, decide_eq_true hi, decide_true, s0, Option.bind_some, hi, and_self, if_true]
    · simp only [cond_true, decide_eq_false hi, decide_false, cond_false, s1, Option.bind_some, hi, and_false, if_false]
theorem next_unpin (E : EHeap n P g ns) {c : Nat} (hc : c ≤ 5) (hw : Wf TNode (false, 0, (ns c).2.2)) :
    qf89 (opUnpin c) P = some (if (ns c).1 = true ∧ (ns c).2.2.2.1 = 1 then ([], [wn P c (false, 0, (ns c).2.2)], (0, (ns c).2.1, -1, [], [], ()), true) else ([], [], (16, 0, -1, [], [], ()), true)) := by
  have hv : qf64 (opUnpin c) = some true := by
    unfold qf64 opUnpin
    simp [isClient_eq hc]
  have hn : qf65 (opUnpin c) = some [(c : Int)] := by unfold qf65 opUnpin; simp
  have hr := read_bare E (opUnpin c) c hc hn (by unfold opUnpin; simp)
  have hwr := write_eq P c (false, 0, (ns c).2.2) hw noPage 0 [((c : Int), pAt P (2 + c))] [((c : Int), ns c)] (look1 _ _)
  have k1 : decide ((opUnpin c).1 = 1) = false := rfl
  have k2 : decide ((opUnpin c).1 = 2) = true := rfl
  have k3 : decide ((opUnpin c).1 = 3) = false := rfl
  have s0 := sort_asc [] List.Pairwise.nil (by simp)
  have s1 := sort_asc [wn P c (false, 0, (ns c).2.2)] (asc_one _) (by simp)
  have hcl : (opUnpin c).2.1 = (c : Int) := rfl
  have hinc : (opUnpin c).2.2.1 = 1 := rfl
  unfold qf89
  simp only [hv, hr, Option.bind_some, Bool.not_true, cond_false, z0L, decide_true, k1, k2, k3, cond_true, hcl, hinc, look1, Option.getD_some]
  unfold qf75
  simp only [look1, Option.getD_some, hwr, Option.bind_some]
  cases hp : (ns c).1 with
  | false => simp only [Bool.not_false, cond_true, s0, Option.bind_some, Bool.false_eq_true, false_and, if_false]
  | true =>
    by_cases hi : (ns c).2.2.2.1 = 1
    · simp only [Bool.not_true, cond_false, decide_eq_true hi, decide_true, s1, Option.bind_some, hi, and_self, if_true]
    · simp only [Bool.not_true, cond_false, decide_eq_false hi, decide_false, Bool.not_false, cond_true, s0, Option.bind_some, hi, and_false, if_false]
theorem next_evict (E : EHeap n P g ns) {o c : Nat} (ho : o ≤ 5) (hc : c ≤ 5) (hw : Wf TNode (false, 0, (ns c).2.2)) :
    qf89 (opEvict o c) P = some (if (ns c).1 = true ∧ (ns c).2.2.2.1 ≤ 2 then ([], [wn P c (false, 0, (ns c).2.2)], (0, (ns c).2.1, -1, [], [], ()), true) else ([], [], (16, 0, -1, [], [], ()), true)) := by
  have hv : qf64 (opEvict o c) = some true := by
    unfold qf64 opEvict
    simp [isClient_eq ho, isClient_eq hc]
  have hn : qf65 (opEvict o c) = some [(c : Int)] := by unfold qf65 opEvict; simp
  have hr := read_bare E (opEvict o c) c hc hn (by unfold opEvict; simp)
  have hwr := write_eq P c (false, 0, (ns c).2.2) hw noPage 0 [((c : Int), pAt P (2 + c))] [((c : Int), ns c)] (look1 _ _)
  have k1 : decide ((opEvict o c).1 = 1) = false := rfl
  have k2 : decide ((opEvict o c).1 = 2) = false := rfl
  have k3 : decide ((opEvict o c).1 = 3) = false := rfl
  have k6 : decide ((opEvict o c).1 = 6) = true := rfl
  have s0 := sort_asc [] List.Pairwise.nil (by simp)
  have s1 := sort_asc [wn P c (false, 0, (ns c).2.2)] (asc_one _) (by simp)
  have hcl : (opEvict o c).2.2.2.2.1 = (c : Int) := rfl
  have hinc : (opEvict o c).2.2.1 = 2 := rfl
  unfold qf89
  simp only [hv, hr, Option.bind_some, Bool.not_true, cond_false, z0L, decide_true, k1, k2, k3, k6, cond_true, hcl, hinc, look1, Option.getD_some]
  unfold qf75
  simp only [look1, Option.getD_some, hwr, Option.bind_some]
  cases hp : (ns c).1 with
  | false => simp only [Bool.not_false, cond_true, s0, Option.bind_some, Bool.false_eq_true, false_and, if_false]
  | true =>
    by_cases hi : (ns c).2.2.2.1 ≤ 2
    · simp only [Bool.not_true, cond_false, decide_eq_true hi, decide_true, s1, Option.bind_some, hi, and_self, if_true]
    · simp only [Bool.not_true, cond_false, decide_eq_false hi, decide_false, Bool.not_false, cond_true, s0, Option.bind_some, hi, and_false, if_false]
def blocker (g : Int) (ns : Nat → Node) : Option Nat := (List.range' 0 6).find? fun c => (ns c).1 && !decide ((ns c).2.1 = g)
theorem look_all (P : List Page) (ns : Nat → Node) {c : Nat} (hc : c < 6) : lookV (allNm ns 6) (c : Int) = some (ns c) := by
  unfold allNm
  match c, hc with
  | 0, _ => simp [lookV, List.range_succ]
  | 1, _ => simp [lookV, List.range_succ]
  | 2, _ => simp [lookV, List.range_succ]
  | 3, _ => simp [lookV, List.range_succ]
  | 4, _ => simp [lookV, List.range_succ]
  | 5, _ => simp [lookV, List.range_succ]
  | c + 6, h => omega
def we (P : List Page) (g : Int) : Page := ((pAt P 1).1, (pAt P 1).2.1, [g, 0, 0, 0, 0, 0, 0], ())
theorem next_adv (E : EHeap n P g ns) {c : Nat} (hc : c ≤ 5) :
    qf89 (opAdv c) P = some (match blocker g ns with | some b => ([], [], (3, 0, (b : Int), [], [], ()), true) | none => ([], [we P (g + 1)], (0, g + 1, -1, [], [98, 99, 100, 101, 102, 103], ()), true)) := by
  have hg0 := E.g0; have hg1 := E.g1
  have hv : qf64 (opAdv c) = some true := by
    unfold qf64 opAdv
    simp [isClient_eq hc]
  have h3 : (opAdv c).1 = 3 := rfl
  have hr := read_all E (opAdv c) h3
  have k1 : decide ((opAdv c).1 = 1) = false := rfl
  have k2 : decide ((opAdv c).1 = 2) = false := rfl
  have k3 : decide ((opAdv c).1 = 3) = true := rfl
  have k6 : decide ((opAdv c).1 = 6) = false := rfl
  have s0 := sort_asc [] List.Pairwise.nil (by simp)
  have s1 := sort_asc [we P (g + 1)] (asc_one _) (by simp)
  obtain ⟨f1, f2, f3, f4⟩ := E.lat (i := 1) (l := 97) (by omega) (by omega)
  have hL1 : qf77L1 [0, 1, 2, 3, 4, 5] ((([0, 1, 2, 3, 4, 5] : List Int).length : Nat) : Int) (0 : Int) (allPm P 6) (allNm ns 6) (pAt P 1) g (opAdv c) 0 0 0 = some (match blocker g ns with | some b => .inr (allPm P 6, allNm ns 6, 3, 0, (b : Int)) | none => .inl (allPm P 6, allNm ns 6, pAt P 1, g, opAdv c, 0, 0, 0)) := by
    have hat : ∀ i : Nat, i < 6 → ∀ d, List.getD ([0, 1, 2, 3, 4, 5] : List Int) (Int.toNat (i : Int)) d = (i : Int) := fun i hi d => by
      match i, hi with
      | 0, _ => rfl
      | 1, _ => rfl
      | 2, _ => rfl
      | 3, _ => rfl
      | 4, _ => rfl
      | 5, _ => rfl
      | i + 6, h => omega
    have hlen : (([0, 1, 2, 3, 4, 5] : List Int).length) = 6 := rfl
    have := iter_scan (body := qf77L1B) (fun i => (([0, 1, 2, 3, 4, 5] : List Int), ((([0, 1, 2, 3, 4, 5] : List Int).length : Nat) : Int), (i : Int), allPm P 6, allNm ns 6, pAt P 1, g, opAdv c, (0 : Int), (0 : Int), (0 : Int))) 6 (fun b => (ns b).1 && !decide ((ns b).2.1 = g)) (fun b => .inr (allPm P 6, allNm ns 6, 3, 0, (b : Int))) (.inl (allPm P 6, allNm ns 6, pAt P 1, g, opAdv c, 0, 0, 0)) (fun i hi hb => ?_) (fun i hi hb => ?_) ?_ 0 (Nat.zero_le _)
    · have this' : qf77L1 [0, 1, 2, 3, 4, 5] ((([0, 1, 2, 3, 4, 5] : List Int).length : Nat) : Int) (0 : Int) (allPm P 6) (allNm ns 6) (pAt P 1) g (opAdv c) 0 0 0 = _ := this
      rw [this']
      unfold blocker
      cases (List.range' 0 6).find? (fun b => (ns b).1 && !decide ((ns b).2.1 = g)) <;> rfl
    · show qf77L1b _ _ _ _ _ _ _ _ _ _ _ = _
      unfold qf77L1b
      have e1 : decide ((i : Int) < ((([0, 1, 2, 3, 4, 5] : List Int).length : Nat) : Int)) = true := by rw [hlen]; simp; omega
      have e2 : inR (i : Int) ([0, 1, 2, 3, 4, 5] : List Int).length = true := inR_nat (by rw [hlen]; exact hi)
      have e4 : IntKind.wrap .i64 ((i : Int) + 1) = ((i + 1 : Nat) : Int) := by rw [i64w (by omega) (by omega)]; simp
      simp only [e1, e2, cond_true, hat i hi, look_all P ns hi, Option.getD_some, e4]
      cases hp : (ns i).1 with
      | false => simp only [cond_false]
      | true =>
        rw [hp, Bool.true_and] at hb
        simp only [cond_true, hb, cond_false]
    · show qf77L1b _ _ _ _ _ _ _ _ _ _ _ = _
      unfold qf77L1b
      have e1 : decide ((i : Int) < ((([0, 1, 2, 3, 4, 5] : List Int).length : Nat) : Int)) = true := by rw [hlen]; simp; omega
      have e2 : inR (i : Int) ([0, 1, 2, 3, 4, 5] : List Int).length = true := inR_nat (by rw [hlen]; exact hi)
      simp only [Bool.and_eq_true] at hb
      simp only [e1, e2, cond_true, hat i hi, look_all P ns hi, Option.getD_some, hb.1, hb.2]
    · show qf77L1b _ _ _ _ _ _ _ _ _ _ _ = _
      unfold qf77L1b
      simp
  unfold qf89
  simp only [hv, hr, Option.bind_some, Bool.not_true, cond_false, z0L, decide_true, k1, k2, k3, k6, cond_true]
  unfold qf77
  simp only [nodes_all (opAdv c) h3, Option.bind_some, hL1]
  cases hb : blocker g ns with
  | some b =>
    simp only [Option.bind_some, decide_true, Bool.not_true, cond_false, s0]
  | none =>
    have e1 : decide (g = 4294967295) = false := by simp; omega
    have e2 : IntKind.wrap .u32 (g + 1) = g + 1 := u32w (by omega) (by omega)
    have e3 := qf76_eq (pAt P 1) (g + 1) (wf_u32_mk (by omega) (by omega))
    have e4 : decide ((pAt P 1).1 = 97) = true := by simp [f4]
    rw [e4, Bool.not_true, cond_false] at e3
    have e5 : (decide ((1 : Int) ≤ ((([97, 98, 99, 100, 101, 102, 103] : List Int).length : Nat) : Int)) && decide (((([97, 98, 99, 100, 101, 102, 103] : List Int).length : Nat) : Int) ≤ ((([97, 98, 99, 100, 101, 102, 103] : List Int).length : Nat) : Int))) = true := by decide
    have e6 : List.drop 1 (List.take ([97, 98, 99, 100, 101, 102, 103] : List Int).length [97, 98, 99, 100, 101, 102, 103]) = ([98, 99, 100, 101, 102, 103] : List Int) := rfl
    have d03 : decide ((0 : Int) = 3) = false := by decide
    have s1' : qf74 [((pAt P 1).1, (pAt P 1).2.1, [g + 1, 0, 0, 0, 0, 0, 0], ())] = _ := s1
    simp only [Option.bind_some, e1, cond_false, e2, e3, lines_all (opAdv c) h3, e5, e6, cond_true, d03, Bool.not_false, s1']
theorem contains_one (p q : Val TPtr) : qf62 [p] q = some (decide (q = p)) := by
  have key : qf61L1 [p] ((([p] : List Ptr).length : Nat) : Int) (0 : Int) q = some (if q = p then .inr 0 else .inl ()) := by
    have e1 : decide ((0 : Int) < ((([p] : List Ptr).length : Nat) : Int)) = true := by simp
    have e2 : inR 0 ([p] : List Ptr).length = true := by simp [inR]
    have e3 : ∀ d, List.getD [p] (Int.toNat 0) d = p := fun d => rfl
    have e4 : IntKind.wrap .i64 ((0 : Int) + 1) = 1 := i64w (by omega) (by omega)
    by_cases h : q = p
    · subst h
      refine iter_done ?_
      show qf61L1b [q] _ 0 q = _
      unfold qf61L1b
      have := eqV_self (t := TPtr) rfl q
      simp only [e1, e2, e3, cond_true, this, if_true]
    · have hne : eqV TPtr q p = false := by
        cases hv : eqV TPtr q p with
        | false => rfl
        | true => exact absurd ((eqV_iff (t := TPtr) rfl).1 hv) h
      have st : qf61L1B ([p], ((([p] : List Ptr).length : Nat) : Int), 0, q) = some (.inl ([p], ((([p] : List Ptr).length : Nat) : Int), 1, q)) := by
        show qf61L1b [p] _ 0 q = _
        unfold qf61L1b
        simp only [e1, e2, e3, cond_true, hne, cond_false, e4]
      have st2 : qf61L1B ([p], ((([p] : List Ptr).length : Nat) : Int), 1, q) = some (.inr (.inl ())) := by
        show qf61L1b [p] _ 1 q = _
        unfold qf61L1b
        simp
      rw [if_neg h]
      exact (iter_step st).trans (iter_done st2)
  unfold qf62 qf61
  rw [key]
  by_cases h : q = p
  · simp [h]
  · simp [h]
def freeN (rs : List Ret4) : Nat := (rs.filter fun r => decide (r = noRet)).length
def firstN (rs : List Ret4) : Nat := rs.findIdx fun r => decide (r = noRet)
theorem noRet_eq : eqV TRet = fun r s => decide (r = s) := by funext r s; exact eqV_ret r s
theorem next_ret (E : EHeap n P g ns) {c : Nat} (hc : c ≤ 5) (p : Ptr) (hp : validP p = true) (rs : List Ret4) (hrs : (ns c).2.2.2.2.1 = rs) (hl : rs.length = 4) (hno : ∀ r ∈ rs, r ≠ noRet → r.1 ≠ p)
    (hw : ∀ k, k < 4 → Wf TNode ((ns c).1, (ns c).2.1, (ns c).2.2.1, (ns c).2.2.2.1, rs.set k (p, g, ()), (ns c).2.2.2.2.2)) :
    qf89 (opRet c p) P = some (if freeN rs = 0 then ([], [], (12, 0, -1, [], [], ()), true) else ([], [wn P c ((ns c).1, (ns c).2.1, (ns c).2.2.1, (ns c).2.2.2.1, rs.set (firstN rs) (p, g, ()), (ns c).2.2.2.2.2)], (0, g, -1, [], [97], ()), true)) := by
  have hlm : lim = 2147483648 := rfl
  have hl1 : qf63 [p] = some true := by
    have hL : qf63L1 [p] [p] ((([p] : List Ptr).length : Nat) : Int) (0 : Int) = some (.inl ()) := by
      have st : qf63L1B ([p], [p], ((([p] : List Ptr).length : Nat) : Int), 0) = some (.inl ([p], [p], ((([p] : List Ptr).length : Nat) : Int), 1)) := by
        show qf63L1b [p] [p] _ 0 = _
        unfold qf63L1b
        have e1 : decide ((0 : Int) < ((([p] : List Ptr).length : Nat) : Int)) = true := by simp
        have e2 : inR 0 ([p] : List Ptr).length = true := by simp [inR]
        have e3 : ∀ d, List.getD [p] (Int.toNat 0) d = p := fun d => rfl
        have e4 : IntKind.wrap .i64 ((0 : Int) + 1) = 1 := i64w (by omega) (by omega)
        have e5 : (decide ((0 : Int) ≤ 0) && decide ((0 : Int) ≤ ((([p] : List Ptr).length : Nat) : Int))) = true := by simp
        have e6 : qf62 (List.drop 0 (List.take (Int.toNat 0) [p])) p = some false := by
          unfold qf62 qf61
          have : qf61L1 (List.drop 0 (List.take (Int.toNat 0) [p])) (((List.drop 0 (List.take (Int.toNat 0) [p])).length : Nat) : Int) (0 : Int) p = some (.inl ()) := iter_done (by
            show qf61L1b _ _ 0 p = _
            unfold qf61L1b
            simp)
          rw [this]; rfl
        simp only [e1, e2, e3, cond_true, qf21_eq, hp, Option.bind_some, Bool.not_true, cond_false, e5, e6, e4]
      have st2 : qf63L1B ([p], [p], ((([p] : List Ptr).length : Nat) : Int), 1) = some (.inr (.inl ())) := by
        show qf63L1b [p] [p] _ 1 = _
        unfold qf63L1b
        simp
      exact (iter_step st).trans (iter_done st2)
    unfold qf63
    rw [hL]
    simp
  have hv : qf64 (opRet c p) = some true := by
    unfold qf64 opRet
    simp [isClient_eq hc, hl1]
  have hn : qf65 (opRet c p) = some [(c : Int)] := by unfold qf65 opRet; simp
  have hr := read_one E (opRet c p) c hc hn (by unfold opRet; simp) (by unfold opRet; simp)
  have k1 : decide ((opRet c p).1 = 1) = false := rfl
  have k2 : decide ((opRet c p).1 = 2) = false := rfl
  have k3 : decide ((opRet c p).1 = 3) = false := rfl
  have k4 : decide ((opRet c p).1 = 4) = true := rfl
  have k6 : decide ((opRet c p).1 = 6) = false := rfl
  have hcl : (opRet c p).2.1 = (c : Int) := rfl
  have hls : (opRet c p).2.2.2.2.2.1 = [p] := rfl
  have s0 := sort_asc [] List.Pairwise.nil (by simp)
  have hnr : ((((0 : Int), ((0 : Int), ())), ((0 : Int), ())) : Ret4) = noRet := rfl
  have hget : ∀ (i : Nat) (hi : i < 4), ∀ d, List.getD rs (Int.toNat (i : Int)) d = rs[i]'(by omega) := fun i hi d => by simp [List.getD, show i < rs.length by omega]
  have hL1 : qf78L1 (0 : Int) rs (0 : Int) [((c : Int), pAt P (2 + c))] [((c : Int), ns c)] (pAt P 1) g (opRet c p) 0 0 0 (ns c) = some (.inl ((freeN rs : Int), [((c : Int), pAt P (2 + c))], [((c : Int), ns c)], pAt P 1, g, opRet c p, 0, 0, 0, ns c)) := by
    have := iter_for (body := qf78L1B) (fun i => ((freeN (rs.take i) : Int), rs, (i : Int), [((c : Int), pAt P (2 + c))], [((c : Int), ns c)], pAt P 1, g, opRet c p, (0 : Int), (0 : Int), (0 : Int), ns c)) 4 (.inl ((freeN rs : Int), [((c : Int), pAt P (2 + c))], [((c : Int), ns c)], pAt P 1, g, opRet c p, 0, 0, 0, ns c)) (fun i hi => ?_) ?_ 0 (Nat.zero_le _)
    · exact this
    · show qf78L1b _ _ _ _ _ _ _ _ _ _ _ _ = _
      have hir : i < rs.length := by omega
      have e1 : decide ((i : Int) < 4) = true := by simp; omega
      have e2 : inR (i : Int) 4 = true := inR_nat hi
      have e4 : IntKind.wrap .i64 ((i : Int) + 1) = ((i + 1 : Nat) : Int) := by rw [i64w (by omega) (by omega)]; simp
      have tk : rs.take (i + 1) = rs.take i ++ [rs[i]] := by rw [List.take_add_one, List.getElem?_eq_getElem hir]; rfl
      have hfle : freeN (rs.take i) ≤ i := by
        unfold freeN
        exact Nat.le_trans (List.length_filter_le _ _) (by simp; omega)
      have e5 : IntKind.wrap .i64 ((freeN (rs.take i) : Int) + 1) = ((freeN (rs.take i) + 1 : Nat) : Int) := by rw [i64w (by omega) (by omega)]; simp
      unfold qf78L1b
      simp only [e1, e2, cond_true, hget i hi, noRet_eq, hnr, e4, hls]
      by_cases hz : rs[i] = noRet
      · have : freeN (rs.take (i + 1)) = freeN (rs.take i) + 1 := by rw [tk]; unfold freeN; rw [List.filter_append]; simp [hz]
        simp only [decide_eq_true hz, cond_true, e5, this]
      · have : freeN (rs.take (i + 1)) = freeN (rs.take i) := by rw [tk]; unfold freeN; rw [List.filter_append]; simp [hz]
        have hne := hno _ (List.getElem_mem hir) hz
        have hcc : qf62 [p] (rs[i]).1 = some false := by rw [contains_one]; rw [decide_eq_false hne]
        simp only [decide_eq_false hz, cond_false, this]
        first | rw [hcc] | erw [hcc]
        rfl
    · show qf78L1b _ _ _ _ _ _ _ _ _ _ _ _ = _
      unfold qf78L1b
      have : rs.take 4 = rs := by rw [List.take_of_length_le (by omega)]
      simp [this]
  unfold qf89
  simp only [hv, hr, Option.bind_some, Bool.not_true, cond_false, z0L, decide_true, k1, k2, k3, k4, k6, cond_true]
  unfold qf78
  simp only [hcl, look1, Option.getD_some, hrs, hL1, Option.bind_some, hls]
  by_cases hf : freeN rs = 0
  · have d1 : decide (((0 : Nat) : Int) < ((([p] : List Ptr).length : Nat) : Int)) = true := by simp
    rw [hf]
    simp only [d1, cond_true, Option.bind_some, s0, hf, if_true]
  · have d1 : decide (((freeN rs : Nat) : Int) < ((([p] : List Ptr).length : Nat) : Int)) = false := by simp; omega
    have hfz : firstN rs < rs.length := by
      unfold firstN
      refine List.findIdx_lt_length_of_exists ?_
      unfold freeN at hf
      obtain ⟨r, hr⟩ := List.exists_mem_of_length_pos (Nat.pos_of_ne_zero hf)
      exact ⟨r, (List.mem_filter.1 hr).1, (List.mem_filter.1 hr).2⟩
    have hat : rs[firstN rs] = noRet := by
      have := List.findIdx_getElem (xs := rs) (p := fun r => decide (r = noRet)) (w := hfz)
      exact of_decide_eq_true this
    have hbefore : ∀ i (hi : i < rs.length), i < firstN rs → rs[i] ≠ noRet := fun i hi hlt => by
      have := List.not_of_lt_findIdx (xs := rs) (p := fun r => decide (r = noRet)) hlt
      exact of_decide_eq_false (by simpa using this)
    have hwn := hw (firstN rs) (by omega)
    generalize hfn : firstN rs = z at hfz hat hbefore hwn
    have hL2 : qf78L2 [p] rs (0 : Int) [((c : Int), pAt P (2 + c))] [((c : Int), ns c)] (pAt P 1) g (opRet c p) 0 0 0 (ns c) = some ([((c : Int), pAt P (2 + c))], [((c : Int), ns c)], pAt P 1, g, opRet c p, 0, 0, 0, ((ns c).1, (ns c).2.1, (ns c).2.2.1, (ns c).2.2.2.1, rs.set z (p, g, ()), (ns c).2.2.2.2.2)) := by
      have := iter_for (body := qf78L2B) (fun i => ((if i ≤ z then [p] else []), rs, (i : Int), [((c : Int), pAt P (2 + c))], [((c : Int), ns c)], pAt P 1, g, opRet c p, (0 : Int), (0 : Int), (0 : Int), (if i ≤ z then ns c else ((ns c).1, (ns c).2.1, (ns c).2.2.1, (ns c).2.2.2.1, rs.set z (p, g, ()), (ns c).2.2.2.2.2)))) 4 ([((c : Int), pAt P (2 + c))], [((c : Int), ns c)], pAt P 1, g, opRet c p, 0, 0, 0, ((ns c).1, (ns c).2.1, (ns c).2.2.1, (ns c).2.2.2.1, rs.set z (p, g, ()), (ns c).2.2.2.2.2)) (fun i hi => ?_) ?_ 0 (Nat.zero_le _)
      · rw [if_pos (Nat.zero_le _), if_pos (Nat.zero_le _)] at this
        exact this
      · show qf78L2b _ _ _ _ _ _ _ _ _ _ _ _ = _
        have hir : i < rs.length := by omega
        have e1 : decide ((i : Int) < 4) = true := by simp; omega
        have e2 : inR (i : Int) 4 = true := inR_nat hi
        have e4 : IntKind.wrap .i64 ((i : Int) + 1) = ((i + 1 : Nat) : Int) := by rw [i64w (by omega) (by omega)]; simp
        unfold qf78L2b
        simp only [e1, e2, cond_true, hget i hi, noRet_eq, hnr, e4]
        rcases Nat.lt_trichotomy i z with h | h | h
        · have hz := hbefore i hir h
          have h1 : i ≤ z := by omega
          have h2 : i + 1 ≤ z := by omega
          simp only [decide_eq_false hz, cond_false, if_pos h1, if_pos h2]
        · subst h
          have h2 : ¬ i + 1 ≤ i := by omega
          have b1 : decide ((0 : Int) < ((([p] : List Ptr).length : Nat) : Int)) = true := by simp
          have b2 : inR 0 ([p] : List Ptr).length = true := by simp [inR]
          have b3 : (decide ((1 : Int) ≤ ((([p] : List Ptr).length : Nat) : Int)) && decide (((([p] : List Ptr).length : Nat) : Int) ≤ ((([p] : List Ptr).length : Nat) : Int))) = true := by simp
          have b4 : List.drop 1 (List.take ([p] : List Ptr).length [p]) = [] := rfl
          have b5 : ∀ d, List.getD [p] 0 d = p := fun d => rfl
          simp only [decide_eq_true hat, cond_true, if_pos (Nat.le_refl i), if_neg h2, b1, b2, b3, b4, b5, Int.toNat_natCast, hrs]
        · have h1 : ¬ i ≤ z := by omega
          have h2 : ¬ i + 1 ≤ z := by omega
          have b1 : decide ((0 : Int) < ((([] : List Ptr).length : Nat) : Int)) = false := by simp
          by_cases hz : rs[i] = noRet
          · simp only [decide_eq_true hz, cond_true, if_neg h1, if_neg h2, b1, cond_false]
          · simp only [decide_eq_false hz, cond_false, if_neg h1, if_neg h2]
      · show qf78L2b _ _ _ _ _ _ _ _ _ _ _ _ = _
        unfold qf78L2b
        have : ¬ 4 ≤ z := by omega
        simp only [if_neg this]
        simp
    have hwr := write_eq P c ((ns c).1, (ns c).2.1, (ns c).2.2.1, (ns c).2.2.2.1, rs.set z (p, g, ()), (ns c).2.2.2.2.2) hwn (pAt P 1) g [((c : Int), pAt P (2 + c))] [((c : Int), ns c)] (look1 _ _)
    have s1 := sort_asc [wn P c ((ns c).1, (ns c).2.1, (ns c).2.2.1, (ns c).2.2.2.1, rs.set z (p, g, ()), (ns c).2.2.2.2.2)] (asc_one _) (by simp)
    simp only [d1, cond_false, hL2, Option.bind_some, hcl, hwr, s1, hf, if_false]
end
end Go.Sx

/- Epochs, plainly: Collect; what a commit makes of a heap. -/
set_option linter.unusedVariables false
set_option linter.unusedSimpArgs false
namespace Go.Sx
open Go.RowKit
theorem commitAll_heap {n : Nat} : ∀ (ws P : List Page), Heap n P → (∀ w ∈ ws, ∃ j : Nat, j < P.length ∧ w.1 = 96 + (j : Int) ∧ Wf TPage w) → Heap n (commitAll P ws)
  | [], P, h, _ => h
  | w :: ws, P, h, hw => by
    obtain ⟨j, h1, h2, h3⟩ := hw w (by simp)
    have e : commitAll P (w :: ws) = commitAll (commit1 P w) ws := rfl
    rw [e]
    exact commitAll_heap ws _ (h.commit h1 h2 h3) fun x hx => by
      obtain ⟨k, k1, k2, k3⟩ := hw x (by simp [hx])
      exact ⟨k, by rw [commit1_len]; exact k1, k2, k3⟩
theorem commitAll_at : ∀ (ws P : List Page), (ws.Pairwise fun a b => a.1 ≠ b.1) → (∀ w ∈ ws, 96 ≤ w.1) → ∀ w ∈ ws, ∀ j : Nat, j < P.length → w.1 = 96 + (j : Int) → ∃ b, pAt (commitAll P ws) j = reHead w b
  | [], P, _, _, w, hw => by cases hw
  | v :: ws, P, hp, h96, w, hw => by
    intro j hj hl
    obtain ⟨hp1, hp2⟩ := List.pairwise_cons.1 hp
    have e : commitAll P (v :: ws) = commitAll (commit1 P v) ws := rfl
    rw [e]
    rcases List.mem_cons.1 hw with rfl | hw
    · refine ⟨bump (pAt P j).2.1, ?_⟩
      rw [pAt_commitAll_ne ws (commit1 P w) (by rw [commit1_len]; exact hj) fun x hx => ⟨h96 x (by simp [hx]), fun e => hp1 x hx (by rw [hl, e])⟩, pAt_commit P w hj hl hj, if_pos rfl]
    · exact commitAll_at ws (commit1 P v) hp2 (fun x hx => h96 x (by simp [hx])) w hw j (by rw [commit1_len]; exact hj) hl
theorem lastOf_mem (l : List Page) (h : l.Pairwise fun a b => a.1 ≠ b.1) (q : Page) : (q.1, q) ∈ lastOf l ↔ q ∈ l := by
  have key : ∀ i, i ≤ l.length → ((q.1, q) ∈ lastOf (l.take i) ↔ q ∈ l.take i) := by
    intro i
    induction i with
    | zero => intro _; simp [lastOf]
    | succ i ih =>
      intro hi
      have hlt : i < l.length := by omega
      have tk : l.take (i + 1) = l.take i ++ [l[i]] := by rw [List.take_add_one, List.getElem?_eq_getElem hlt]; rfl
      rw [lastOf_take hlt, mem_upsV (lastOf_ok _).1, ih (by omega), tk, List.mem_append, List.mem_singleton]
      constructor
      · rintro (rfl | ⟨hq, _⟩)
        · exact .inr rfl
        · exact .inl hq
      · rintro (hq | rfl)
        · refine .inr ⟨hq, ?_⟩
          obtain ⟨a, ha, rfl⟩ := List.mem_take_iff_getElem.1 hq
          exact List.pairwise_iff_getElem.1 h a i (by omega) hlt (by omega)
        · exact .inl rfl
  have := key l.length (Nat.le_refl _)
  rwa [List.take_length] at this
def colS (g : Int) (rs : List Ret4) : Nat → List Ret4 × List Ptr
  | 0 => (rs, [])
  | i + 1 => if rs.getD i noRet ≠ noRet ∧ (rs.getD i noRet).2.1 + 2 ≤ g ∧ (colS g rs i).2.length < 2 then ((colS g rs i).1.set i noRet, (colS g rs i).2 ++ [(rs.getD i noRet).1]) else colS g rs i
theorem colS_len (g : Int) (rs : List Ret4) : ∀ i, (colS g rs i).2.length ≤ 2 ∧ (colS g rs i).1.length = rs.length
  | 0 => ⟨by simp [colS], rfl⟩
  | i + 1 => by
    obtain ⟨h1, h2⟩ := colS_len g rs i
    unfold colS
    split
    · rename_i h
      exact ⟨by simp; omega, by simp [h2]⟩
    · exact ⟨h1, h2⟩
section
variable {n : Nat} {P : List Page} {g : Int} {ns : Nat → Node}
theorem next_col (E : EHeap n P g ns) {c d : Nat} (hc : c ≤ 5) (hd : d ≤ 5) (rs : List Ret4) (hrs : (ns d).2.2.2.2.1 = rs) (hl : rs.length = 4) (hep : ∀ r ∈ rs, 0 ≤ r.2.1 ∧ r.2.1 ≤ 4294967295)
    {u : Nat} (ks : List Nat) (hks : (colS g rs 4).2 = ks.map (ptrOf P 0)) (F : ks ≠ [] → FreeOk n P 0 0 u ks)
    (hw : Wf TNode ((ns d).1, (ns d).2.1, (ns d).2.2.1, (ns d).2.2.2.1, (colS g rs 4).1, (ns d).2.2.2.2.2))
    (hln : (wn P d ((ns d).1, (ns d).2.1, (ns d).2.2.1, (ns d).2.2.2.1, (colS g rs 4).1, (ns d).2.2.2.2.2)).1 = 98 + (d : Int)) :
    (ks = [] ∧ qf89 (opCol c d (104 + 16 * (n : Int))) P = some ([], [], (16, 0, -1, [], [], ()), true)) ∨
    (ks ≠ [] ∧ ∃ ws : List Page, qf89 (opCol c d (104 + 16 * (n : Int))) P = some ([], ws, (0, g, -1, ks.map (ptrOf P 0), [97], ()), true) ∧ SAsc ws ∧ ws.length ≤ 4 ∧
      ∀ q, q ∈ ws ↔ q ∈ ks.map (relOf P 0) ++ [hdrOf P 0 0 (clrS u ks), wn P d ((ns d).1, (ns d).2.1, (ns d).2.2.1, (ns d).2.2.2.1, (colS g rs 4).1, (ns d).2.2.2.2.2)]) := by
  have hn5 := E.n1; have hn0 := E.n0; have hg0 := E.g0; have hg1 := E.g1
  have hlm : lim = 2147483648 := rfl
  have hk2 : ks.length ≤ 2 := by have := (colS_len g rs 4).1; rw [hks] at this; simpa using this
  generalize hop : opCol c d (104 + 16 * (n : Int)) = op
  have hv : qf64 op = some true := by
    rw [← hop]
    have e1 : (104 : Int) ≤ 104 + 16 * (n : Int) := by omega
    have e2 : 104 + 16 * (n : Int) ≤ 256 := by omega
    unfold qf64 opCol
    simp [isClient_eq hc, isClient_eq hd, e1, e2]
  have hn : qf65 op = some [(d : Int)] := by rw [← hop]; unfold qf65 opCol; simp
  have hr := read_one E op d hd hn (by rw [← hop]; unfold opCol; simp) (by rw [← hop]; unfold opCol; simp)
  have k1 : decide (op.1 = 1) = false := by rw [← hop]; rfl
  have k2 : decide (op.1 = 2) = false := by rw [← hop]; rfl
  have k3 : decide (op.1 = 3) = false := by rw [← hop]; rfl
  have k4 : decide (op.1 = 4) = false := by rw [← hop]; rfl
  have k5 : decide (op.1 = 5) = true := by rw [← hop]; rfl
  have k6 : decide (op.1 = 6) = false := by rw [← hop]; rfl
  have hcl : op.2.2.2.2.1 = (d : Int) := by rw [← hop]; rfl
  have hli : op.2.2.2.1 = 104 + 16 * (n : Int) := by rw [← hop]; rfl
  have hnr : ((((0 : Int), ((0 : Int), ())), ((0 : Int), ())) : Ret4) = noRet := rfl
  have hget : ∀ (i : Nat) (hi : i < 4), ∀ x, List.getD rs (Int.toNat (i : Int)) x = rs.getD i noRet := fun i hi x => by simp [List.getD, show i < rs.length by omega]
  have hL1 : qf88L1 P rs (0 : Int) [((d : Int), pAt P (2 + d))] [((d : Int), ns d)] (pAt P 1) g op 0 0 0 (ns d) [] = some (P, [((d : Int), pAt P (2 + d))], [((d : Int), ns d)], pAt P 1, g, op, 0, 0, 0, ((ns d).1, (ns d).2.1, (ns d).2.2.1, (ns d).2.2.2.1, (colS g rs 4).1, (ns d).2.2.2.2.2), (colS g rs 4).2) := by
    have := iter_for (body := qf88L1B) (fun i => (P, rs, (i : Int), [((d : Int), pAt P (2 + d))], [((d : Int), ns d)], pAt P 1, g, op, (0 : Int), (0 : Int), (0 : Int), ((ns d).1, (ns d).2.1, (ns d).2.2.1, (ns d).2.2.2.1, (colS g rs i).1, (ns d).2.2.2.2.2), (colS g rs i).2)) 4 (P, [((d : Int), pAt P (2 + d))], [((d : Int), ns d)], pAt P 1, g, op, 0, 0, 0, ((ns d).1, (ns d).2.1, (ns d).2.2.1, (ns d).2.2.2.1, (colS g rs 4).1, (ns d).2.2.2.2.2), (colS g rs 4).2) (fun i hi => ?_) ?_ 0 (Nat.zero_le _)
    · have e0 : ((ns d).1, (ns d).2.1, (ns d).2.2.1, (ns d).2.2.2.1, (colS g rs 0).1, (ns d).2.2.2.2.2) = ns d := by
        show ((ns d).1, (ns d).2.1, (ns d).2.2.1, (ns d).2.2.2.1, rs, (ns d).2.2.2.2.2) = ns d
        rw [← hrs]
      rw [e0] at this
      exact this
    · show qf88L1b _ _ _ _ _ _ _ _ _ _ _ _ _ = _
      have hir : i < rs.length := by omega
      have e1 : decide ((i : Int) < 4) = true := by simp; omega
      have e2 : inR (i : Int) 4 = true := inR_nat hi
      have e4 : IntKind.wrap .i64 ((i : Int) + 1) = ((i + 1 : Nat) : Int) := by rw [i64w (by omega) (by omega)]; simp
      have hgt : rs.getD i noRet ∈ rs := by
        have : rs.getD i noRet = rs[i] := by simp [List.getD, hir]
        rw [this]; exact List.getElem_mem _
      obtain ⟨b0, b1⟩ := hep _ hgt
      have e5 : qf0 g (rs.getD i noRet).2.1 = some (decide ((rs.getD i noRet).2.1 + 2 ≤ g)) := by
        unfold qf0
        rw [u64w (n := (rs.getD i noRet).2.1) (by omega) (by omega), u64w (n := g) (by omega) (by omega), u64w (by omega) (by omega)]
      obtain ⟨c1, c2⟩ := colS_len g rs i
      have e6 : decide ((colS g rs i).2.length + 1 ≤ lim) = true := by simp; omega
      unfold qf88L1b
      simp only [e1, e2, cond_true, hget i hi, noRet_eq, hnr, e4, e5, Option.bind_some, e6, Int.toNat_natCast]
      by_cases h1 : rs.getD i noRet = noRet
      · have hs : colS g rs (i + 1) = colS g rs i := by
          conv => lhs; unfold colS
          rw [if_neg (fun h => h.1 h1)]
        simp only [decide_eq_true h1, Bool.not_true, cond_false, hs]
      · by_cases h2 : (rs.getD i noRet).2.1 + 2 ≤ g
        · by_cases h3 : (colS g rs i).2.length < 2
          · have hs : colS g rs (i + 1) = ((colS g rs i).1.set i noRet, (colS g rs i).2 ++ [(rs.getD i noRet).1]) := by
              conv => lhs; unfold colS
              rw [if_pos ⟨h1, h2, h3⟩]
            have d3 : decide ((((colS g rs i).2.length : Nat) : Int) < 2) = true := by simp; omega
            simp only [decide_eq_false h1, Bool.not_false, cond_true, decide_eq_true h2, d3, hs]
          · have hs : colS g rs (i + 1) = colS g rs i := by
              conv => lhs; unfold colS
              rw [if_neg (fun h => h3 h.2.2)]
            have d3 : decide ((((colS g rs i).2.length : Nat) : Int) < 2) = false := by simp; omega
            simp only [decide_eq_false h1, Bool.not_false, cond_true, cond_false, decide_eq_true h2, d3, hs]
        · have hs : colS g rs (i + 1) = colS g rs i := by
            conv => lhs; unfold colS
            rw [if_neg (fun h => h2 h.2.1)]
          simp only [decide_eq_false h1, Bool.not_false, cond_true, cond_false, decide_eq_false h2, hs]
    · show qf88L1b _ _ _ _ _ _ _ _ _ _ _ _ _ = _
      unfold qf88L1b
      simp
  by_cases hk : ks = []
  · left
    refine ⟨hk, ?_⟩
    have s0 := sort_asc [] List.Pairwise.nil (by simp)
    rw [hk, List.map_nil] at hks
    have d0 : decide (((([] : List Ptr).length : Nat) : Int) = 0) = true := rfl
    unfold qf89
    simp only [hv, hr, Option.bind_some, Bool.not_true, cond_false, z0L, decide_true, k1, k2, k3, k4, k5, k6, cond_true]
    unfold qf88
    simp only [hcl, look1, Option.getD_some, hrs, hL1, Option.bind_some, hks, d0, cond_true, s0]
  · right
    have F := F hk
    refine ⟨hk, ?_⟩
    have hkl : 1 ≤ ks.length := Nat.pos_of_ne_zero fun h => hk (List.eq_nil_of_length_eq_zero h)
    have hfr := free_eq F
    have hrel : ∀ k ∈ ks, (relOf P 0 k).1 = 104 + (k : Int) := fun k hkm => by
      obtain ⟨h0, h1, _⟩ := F.hk k hkm
      have hPl := F.hp.len
      show (pAt P (8 + 16 * 0 + k)).1 = _
      rw [pAt_get (by omega), F.hp.line _ _]; omega
    have hhdr : (hdrOf P 0 0 (clrS u ks)).1 = 104 := by
      have hcl := clrS_lt ks u F.hu
      have hb0 : (clrS u ks).testBit 0 = false := by rw [testBit_clrS ks u 0 F.hu (fun k hk => (F.hk k hk).2.1), F.u0]; rfl
      have hPl := F.hp.len
      have hl8 : (pAt P (8 + 16 * 0)).1 = 104 := by rw [pAt_get (by omega), F.hp.line _ _]; rfl
      have := (head_again (pAt P (8 + 16 * 0)) ((0 : Int), (clrS u ks : Int), ()) (wf_headv (by omega) (by omega) hcl) (head_code (by unfold isHdr; rw [hl8]; rfl) (by omega) (by omega) hcl hb0)).2.1
      unfold hdrOf
      rw [this, hl8]
    generalize hnd : ((ns d).1, (ns d).2.1, (ns d).2.2.1, (ns d).2.2.2.1, (colS g rs 4).1, (ns d).2.2.2.2.2) = nd at hw hln hL1
    have hwr := write_eq P d nd hw (pAt P 1) g [((d : Int), pAt P (2 + d))] [((d : Int), ns d)] (look1 _ _)
    have hil := (isort_asc (ks.map (relOf P 0) ++ [hdrOf P 0 0 (clrS u ks)])).2
    simp only [List.length_append, List.length_map, List.length_singleton] at hil
    obtain ⟨r, m1, m2, m3, m4⟩ := segMerge_fine (isort (ks.map (relOf P 0) ++ [hdrOf P 0 0 (clrS u ks)])) [wn P d nd] (by rw [hil]; simp; omega)
    rw [hil] at m4
    have hpm := isort_perm (ks.map (relOf P 0) ++ [hdrOf P 0 0 (clrS u ks)])
    have hdist0 : (ks.map (relOf P 0) ++ [hdrOf P 0 0 (clrS u ks)]).Pairwise fun a b => a.1 ≠ b.1 := by
      rw [List.pairwise_append]
      refine ⟨List.pairwise_map.2 ((List.Pairwise.imp_of_mem (fun {a b} ha hb hne => ?_) F.nd)), List.pairwise_singleton _ _, fun x hx y hy => ?_⟩
      · rw [hrel a ha, hrel b hb]; omega
      · obtain ⟨k, hkm, rfl⟩ := List.mem_map.1 hx
        simp only [List.mem_singleton] at hy
        subst hy
        have := (F.hk k hkm).1
        rw [hrel k hkm, hhdr]; omega
    have hmem : ∀ q, q ∈ r ↔ q ∈ ks.map (relOf P 0) ++ [hdrOf P 0 0 (clrS u ks), wn P d nd] := fun q => by
      rw [m3, lastOf_mem]
      · rw [List.mem_append, hpm.mem_iff]
        simp only [List.mem_append, List.mem_cons, List.not_mem_nil, or_false, or_assoc]
      · rw [List.pairwise_append]
        refine ⟨(hpm.pairwise_iff (fun {a b} h => Ne.symm h)).2 hdist0, List.pairwise_singleton _ _, fun x hx y hy => ?_⟩
        simp only [List.mem_singleton] at hy
        subst hy
        rw [hln]
        rcases List.mem_append.1 (hpm.mem_iff.1 hx) with hx | hx
        · obtain ⟨k, hkm, rfl⟩ := List.mem_map.1 hx
          rw [hrel k hkm]; omega
        · simp only [List.mem_singleton] at hx
          subst hx
          rw [hhdr]; omega
    have hasc : Asc r := m2.imp fun {a b} h => Int.le_of_lt h
    have s1 := sort_asc r hasc (by simp at m4; omega)
    refine ⟨r, ?_, m2, by simp at m4; omega, hmem⟩
    have d0 : decide ((((ks.map (ptrOf P 0)).length : Nat) : Int) = 0) = false := by simp; omega
    have d1 : decide ((0 : Int) = 1) = false := by decide
    unfold qf89
    simp only [hv, hr, Option.bind_some, Bool.not_true, cond_false, z0L, decide_true, k1, k2, k3, k4, k5, k6, cond_true]
    unfold qf88
    simp only [hcl, look1, Option.getD_some, hrs, hL1, Option.bind_some, hks, d0, cond_false, hli, hfr, Bool.not_true, d1, decide_true, hwr, m1, cond_true, s1]
end
end Go.Sx

