/- E6: printed by a program of this session: the functions of the seat as plain functions, and that the code comes to them. -/
import Derived.Test.YteghkndbngddgaaGreatE3
/- Worlds: a heap whose pages compute nodes retire. -/
set_option linter.unusedVariables false
set_option linter.unusedSimpArgs false
namespace Go.Sx
open Go.RowKit
def goodR (l : List Ret4) : Prop := l.length = 4 ∧ ∀ r ∈ l, Wf TRet r ∧ retBad r = false
section
variable {n : Nat} {P : List Page} {g : Int} {ns : Nat → Node}
theorem wn_ok (E : EHeap n P g ns) {c : Nat} (hc : c ≤ 5) (b : Bool) (e s i : Int) (l : List Ret4) (hb : b = false → e = 0) (e0 : 0 ≤ e) (e1 : e ≤ 4294967295) (s0 : 0 ≤ s) (s1 : s ≤ 511) (i0 : 0 ≤ i) (i1 : i ≤ 59) (hl : goodR l) :
    Wf TNode (b, e, s, i, l, ()) ∧ readNode (wn P c (b, e, s, i, l, ())) = ((b, e, s, i, l, ()), 0) ∧ (wn P c (b, e, s, i, l, ())).1 = 98 + (c : Int) ∧ Wf TPage (wn P c (b, e, s, i, l, ())) := by
  obtain ⟨f1, f2, f3, f4⟩ := E.lat (i := 2 + c) (l := 98 + (c : Int)) (by omega) (by omega)
  have hw : Wf TNode (b, e, s, i, l, ()) := ⟨trivial, wf_u32_mk e0 e1, wf_u32_mk (n := s) s0 (by omega), wf_i64_mk (n := i) (by omega) (by omega), ⟨hl.1, fun r hr => (hl.2 r hr).1⟩, trivial⟩
  have hcode : (writeNode (pAt P (2 + c)) (b, e, s, i, l, ())).2 = 0 := by
    unfold writeNode
    have h1 : isOwnL (pAt P (2 + c)).1 = true := by unfold isOwnL; simp; omega
    have h2 : l.any retBad = false := by
      cases h : l.any retBad with
      | false => rfl
      | true =>
        obtain ⟨r, hr, hb⟩ := List.any_eq_true.1 h
        rw [(hl.2 r hr).2] at hb; cases hb
    rw [if_neg]
    simp only [h1, h2, Bool.true_eq_false, false_or, Bool.false_eq_true, or_false]
    rintro (⟨h, h3⟩ | h | h | h)
    · exact h3 (hb h)
    · omega
    · omega
    · omega
  obtain ⟨a1, a2, a3⟩ := node_again (pAt P (2 + c)) (b, e, s, i, l, ()) hw hcode
  exact ⟨hw, a1, by unfold wn; rw [a2, f4]; omega, wf_node_written _ _ f2 hw⟩
theorem EHeap.congr (E : EHeap n P g ns) {ns' : Nat → Node} (h : ∀ c : Nat, c ≤ 5 → ns c = ns' c) : EHeap n P g ns' :=
  ⟨E.hp, E.n0, E.n1, E.ep, E.g0, E.g1, fun c hc => by rw [← h c hc]; exact E.nd c hc⟩
theorem EHeap.setNode (E : EHeap n P g ns) {c : Nat} (hc : c ≤ 5) {w : Page} {nd : Node} (hr : readNode w = (nd, 0)) (hl : w.1 = 98 + (c : Int)) (hw : Wf TPage w) :
    EHeap n (commitAll P [w]) g (fun d => if d = c then nd else ns d) ∧ ∀ j : Nat, 8 ≤ j → j < P.length → pAt (commitAll P [w]) j = pAt P j := by
  have hPl := E.hp.len; have hn := E.n0
  have e : commitAll P [w] = commit1 P w := rfl
  have hl' : w.1 = 96 + ((2 + c : Nat) : Int) := by rw [hl]; omega
  rw [e]
  refine ⟨⟨E.hp.commit (j := 2 + c) (by omega) hl' hw, E.n0, E.n1, ?_, E.g0, E.g1, fun d hd => ?_⟩, fun j h8 hj => ?_⟩
  · rw [pAt_commit P w (j := 2 + c) (by omega) hl' (by omega), if_neg (by omega)]; exact E.ep
  · rw [pAt_commit P w (j := 2 + c) (by omega) hl' (by omega)]
    by_cases h : d = c
    · subst h; rw [if_pos rfl, readNode_re, hr]; simp
    · rw [if_neg (by omega), E.nd d hd]; simp [h]
  · rw [pAt_commit P w (j := 2 + c) (by omega) hl' hj, if_neg (by omega)]
theorem EHeap.setEp (E : EHeap n P g ns) (hg : g + 1 ≤ 1000000) : EHeap n (commitAll P [we P (g + 1)]) (g + 1) ns ∧ (∀ j : Nat, 8 ≤ j → j < P.length → pAt (commitAll P [we P (g + 1)]) j = pAt P j) ∧ (we P (g + 1)).1 = 97 := by
  have hPl := E.hp.len; have hn := E.n0; have hg0 := E.g0
  obtain ⟨f1, f2, f3, f4⟩ := E.lat (i := 1) (l := 97) (by omega) (by omega)
  have e : commitAll P [we P (g + 1)] = commit1 P (we P (g + 1)) := rfl
  have hl' : (we P (g + 1)).1 = 96 + ((1 : Nat) : Int) := f4
  have hw : Wf TPage (we P (g + 1)) := by
    refine ⟨f2.1, f2.2.1, ⟨rfl, fun y hy => ?_⟩, trivial⟩
    simp only [we, List.mem_cons, List.not_mem_nil, or_false] at hy
    rcases hy with rfl | rfl | rfl | rfl | rfl | rfl | rfl
    · exact wf_u64_mk (n := g + 1) (by omega) (by omega)
    all_goals exact wf_u64_mk (n := 0) (by omega) (by omega)
  rw [e]
  refine ⟨⟨E.hp.commit (j := 1) (by omega) hl' hw, E.n0, E.n1, ?_, by omega, hg, fun d hd => ?_⟩, fun j h8 hj => ?_, by rw [hl']; rfl⟩
  · rw [pAt_commit P _ (j := 1) (by omega) hl' (by omega), if_pos rfl]
    have h97 : (we P (g + 1)).1 = 97 := by rw [hl']; rfl
    have hx : ¬ (4294967295 < g + 1) := by omega
    unfold epochOf reHead
    simp only [h97, decide_true, Bool.not_true, cond_false]
    simp [we, hx]
  · rw [pAt_commit P _ (j := 1) (by omega) hl' (by omega), if_neg (by omega)]; exact E.nd d hd
  · rw [pAt_commit P _ (j := 1) (by omega) hl' hj, if_neg (by omega)]
end
def toP (k : Nat) : Ptr := (105 + (k : Int), 1, ())
def toL : List Ptr := (List.range 12).map toP
def nodeW (pins : List Int) (inc : Nat → Int) (rs : Nat → List Ret4) (c : Nat) : Node :=
  (decide (0 < pins.getD c 0), (if 0 < pins.getD c 0 then pins.getD c 0 - 1 else 0), (if c = 0 then 1 else 0), inc c, rs c, ())
structure WI (n : Nat) (P : List Page) (pins : List Int) (g : Int) (ret : List Int) (fr : List Bool) (rs : Nat → List Ret4) (inc : Nat → Int) (u : Nat) : Prop where
  E : EHeap n P g (nodeW pins inc rs)
  pl : pins.length = 6
  pb : ∀ c : Nat, c < 6 → pins.getD c 0 = 0 ∨ (1 ≤ pins.getD c 0 ∧ g ≤ pins.getD c 0 ∧ pins.getD c 0 ≤ g + 1)
  ic : ∀ c : Nat, c < 6 → 0 ≤ inc c ∧ inc c ≤ 1 ∧ (0 < pins.getD c 0 → inc c = 1)
  rl : ret.length = 12
  fl : fr.length = 12
  rb : ∀ k : Nat, k < 12 → -1 ≤ ret.getD k 0 ∧ ret.getD k 0 ≤ g
  ff : ∀ k : Nat, k < 12 → fr.getD k false = true → 0 ≤ ret.getD k 0 ∧ ret.getD k 0 + 2 ≤ g
  rsl : ∀ c : Nat, c < 6 → (rs c).length = 4
  r1 : ∀ c j : Nat, c < 6 → j < 4 → (rs c).getD j noRet = noRet ∨ ∃ k : Nat, k < 12 ∧ (rs c).getD j noRet = (toP k, ret.getD k 0, ()) ∧ 0 ≤ ret.getD k 0 ∧ fr.getD k false = false
  r2 : ∀ c j c' j' : Nat, c < 6 → j < 4 → c' < 6 → j' < 4 → (rs c).getD j noRet ≠ noRet → ((rs c).getD j noRet).1 = ((rs c').getD j' noRet).1 → c = c' ∧ j = j'
  r3 : ∀ k : Nat, k < 12 → 0 ≤ ret.getD k 0 → fr.getD k false = false → ∃ c j : Nat, c < 6 ∧ j < 4 ∧ (rs c).getD j noRet = (toP k, ret.getD k 0, ())
  hu : u < 65536
  u0 : u.testBit 0 = false
  hd : readHead (pAt P 8) = ((0, (u : Int), ()), 0)
  ub : ∀ k : Nat, k < 12 → u.testBit (k + 1) = !fr.getD k false
  pg : ∀ k : Nat, k < 12 → ptag (pAt P (9 + k)) = ((if fr.getD k false then 0 else 1), 1, 0, ())
section
variable {n : Nat} {P : List Page} {pins : List Int} {g : Int} {ret : List Int} {fr : List Bool} {rs : Nat → List Ret4} {inc : Nat → Int} {u : Nat}
theorem toP_valid {k : Nat} (hk : k < 12) : validP (toP k) = true := by unfold validP toP; simp; omega
theorem WI.good (W : WI n P pins g ret fr rs inc u) {c : Nat} (hc : c < 6) : goodR (rs c) := by
  refine ⟨W.rsl c hc, fun r hr => ?_⟩
  obtain ⟨j, hj, rfl⟩ := List.mem_iff_getElem.1 hr
  have hj4 : j < 4 := by rw [W.rsl c hc] at hj; exact hj
  have e : (rs c).getD j noRet = (rs c)[j] := by simp [List.getD, hj]
  rw [← e]
  rcases W.r1 c j hc hj4 with h | ⟨k, hk, h, h0, _⟩
  · rw [h]
    exact ⟨⟨⟨wf_i64_mk (n := 0) (by omega) (by omega), wf_i64_mk (n := 0) (by omega) (by omega), trivial⟩, wf_u32_mk (n := 0) (by omega) (by omega), trivial⟩, by decide⟩
  · rw [h]
    have hb := (W.rb k hk).2
    have := W.E.g1
    refine ⟨⟨⟨wf_i64_mk (n := 105 + (k : Int)) (by omega) (by omega), wf_i64_mk (n := 1) (by omega) (by omega), trivial⟩, wf_u32_mk (n := ret.getD k 0) h0 (by omega), trivial⟩, ?_⟩
    unfold retBad
    rw [toP_valid hk]; simp
theorem run_eq (W : WI n P pins g ret fr rs inc u) (op : Op6) (ws : List Page) (out : Val TOut) (seq : Int) (cur : Val (.pair (.int .i64) THead)) (to : List Ptr) (hn : qf89 op P = some ([], ws, out, true)) (hz : out.1 ≠ 0 → ws = []) (hl : ws.length ≤ 100) (hw : ∀ w ∈ ws, 96 ≤ w.1 ∧ w.1 < 96 + P.length) :
    qf90 op pins g (104 + 16 * (n : Int)) seq cur P ret to fr = some (out, true, pins, g, 104 + 16 * (n : Int), seq, cur, commitAll P ws, ret, to, fr) := by
  have hPl := W.E.hp.len; have hn5 := W.E.n1
  have hcom := heap_Commit_eq ws P (104 + 16 * (n : Int)) seq cur (by omega) (by omega) hw (fun p hp => wf_u64 (W.E.hp.wf p hp).2.1)
  have z0 : decide ((0 : Int) < ((([] : List Int).length : Nat) : Int)) = false := by decide
  have z1 : decide ((0 : Int) < ((([] : List Page).length : Nat) : Int)) = false := by decide
  unfold qf90
  rw [hn]
  by_cases h : out.1 = 0
  · simp only [Option.bind_some, Bool.not_true, cond_false, z0, decide_eq_true h, hcom]
  · have := hz h
    subst this
    simp only [Option.bind_some, Bool.not_true, Bool.not_false, cond_false, cond_true, z0, z1, decide_eq_false h, hcom]
theorem getD_set_self {α : Type} (l : List α) (i : Nat) (x d : α) (h : i < l.length) : (l.set i x).getD i d = x := by simp [List.getD, h]
theorem getD_set_ne {α : Type} (l : List α) (i j : Nat) (x d : α) (h : i ≠ j) : (l.set i x).getD j d = l.getD j d := by
  simp only [List.getD_eq_getElem?_getD, List.getElem?_set_ne h]
theorem WI.node (W : WI n P pins g ret fr rs inc u) {c : Nat} (hc : c ≤ 5) (p : Int) (i : Int) (hp : p = 0 ∨ (1 ≤ p ∧ g ≤ p ∧ p ≤ g + 1)) (hi : 0 ≤ i ∧ i ≤ 1 ∧ (0 < p → i = 1)) :
    let nd : Node := (decide (0 < p), (if 0 < p then p - 1 else 0), (if c = 0 then 1 else 0), i, rs c, ())
    (wn P c nd).1 = 98 + (c : Int) ∧ Wf TNode nd ∧ WI n (commitAll P [wn P c nd]) (pins.set c p) g ret fr rs (fun d => if d = c then i else inc d) u := by
  intro nd
  have hg1 := W.E.g1; have hg0 := W.E.g0; have hPl := W.E.hp.len; have hn0 := W.E.n0
  obtain ⟨a1, a2, a3, a4⟩ := wn_ok W.E hc (decide (0 < p)) (if 0 < p then p - 1 else 0) (if c = 0 then 1 else 0) i (rs c) (fun h => by simp at h; rw [if_neg (by omega)]) (by split <;> omega) (by split <;> omega) (by split <;> omega) (by split <;> omega) hi.1 (by omega) (W.good (by omega))
  obtain ⟨b1, b2⟩ := W.E.setNode hc a2 a3 a4
  refine ⟨a3, a1, ?_⟩
  refine { W with E := b1.congr fun d hd => ?_, pl := by rw [List.length_set]; exact W.pl, pb := fun d hd => ?_, ic := fun d hd => ?_, hd := by rw [b2 8 (by omega) (by omega)]; exact W.hd, pg := fun k hk => by rw [b2 (9 + k) (by omega) (by omega)]; exact W.pg k hk }
  · by_cases h : d = c
    · subst h
      rw [if_pos rfl]
      unfold nodeW
      rw [getD_set_self _ _ _ _ (by rw [W.pl]; omega)]
      simp
    · rw [if_neg h]
      unfold nodeW
      rw [getD_set_ne _ _ _ _ _ (fun e => h e.symm)]
      simp [h]
  · by_cases h : d = c
    · subst h; rw [getD_set_self _ _ _ _ (by rw [W.pl]; omega)]; exact hp
    · rw [getD_set_ne _ _ _ _ _ (fun e => h e.symm)]; exact W.pb d hd
  · by_cases h : d = c
    · subst h; rw [getD_set_self _ _ _ _ (by rw [W.pl]; omega), if_pos rfl]; exact hi
    · rw [getD_set_ne _ _ _ _ _ (fun e => h e.symm), if_neg h]; exact W.ic d hd
end
end Go.Sx

/- Worlds: what a move does: pins, unpins, advances, retirements. -/
set_option linter.unusedVariables false
set_option linter.unusedSimpArgs false
namespace Go.Sx
open Go.RowKit
abbrev MvE : Type := Int × Int × Int × Unit
abbrev Cu : Type := Val (.pair (.int .i64) THead)
section
variable {n : Nat} {P : List Page} {pins : List Int} {g : Int} {ret : List Int} {fr : List Bool} {rs : Nat → List Ret4} {inc : Nat → Int} {u : Nat}
theorem pick6 (x : Int) (c : Nat) (h : x % 6 = c) : qf2 x 6 = some (c : Int) := by rw [qf2_eq x 6 (by omega) (by omega), h]
theorem nodeW_pin (pins : List Int) (inc : Nat → Int) (rs : Nat → List Ret4) (c : Nat) (hp : 0 < pins.getD c 0) : (nodeW pins inc rs c).1 = true ∧ (nodeW pins inc rs c).2.1 = pins.getD c 0 - 1 := ⟨decide_eq_true hp, if_pos hp⟩
theorem nodeW_un (pins : List Int) (inc : Nat → Int) (rs : Nat → List Ret4) (c : Nat) (hp : pins.getD c 0 = 0) : (nodeW pins inc rs c).1 = false := decide_eq_false (by omega)
theorem do_pin (W : WI n P pins g ret fr rs inc u) (m : MvE) (hk : m.1 % 8 = 0) (c d : Nat) (hc : m.2.1 % 6 = c) (hd : m.2.2.1 % 6 = d) (at_ seq : Int) (cur : Cu) (to : List Ptr) :
    ∃ P' pins' inc', qf91 m at_ pins g (104 + 16 * (n : Int)) seq cur P ret to fr = some (true, pins', g, 104 + 16 * (n : Int), seq, cur, P', ret, to, fr) ∧ WI n P' pins' g ret fr rs inc' u ∧ (pins' = pins ∨ (pins' = pins.set c (g + 1) ∧ pins.getD c 0 = 0)) := by
  have hc6 : c < 6 := by omega
  have hg0 := W.E.g0; have hg1 := W.E.g1; have hPl := W.E.hp.len; have hn0 := W.E.n0
  have e1 := pick6 _ _ hc
  have e2 := pick6 _ _ hd
  have e3 : qf2 m.1 8 = some 0 := by rw [qf2_eq _ 8 (by omega) (by omega), hk]
  have r6 : inR ((c : Nat) : Int) 6 = true := inR_nat hc6
  have t0 : Int.toNat ((c : Nat) : Int) = c := Int.toNat_natCast c
  rcases W.pb c hc6 with h | h
  · obtain ⟨a1, a2, a3⟩ := W.node (c := c) (by omega) (g + 1) 1 (.inr ⟨by omega, by omega, by omega⟩) ⟨by omega, by omega, fun _ => rfl⟩
    have hnd : ((decide (0 < g + 1), (if 0 < g + 1 then g + 1 - 1 else 0), (if c = 0 then 1 else 0), 1, rs c, ()) : Node) = (true, g, (if c = 0 then 1 else 0), 1, rs c, ()) := by
      have hg2 : 0 < g + 1 := by omega
      rw [if_pos hg2, decide_eq_true hg2]
      congr 2
      omega
    rw [hnd] at a1 a2 a3
    have hnx := next_pin W.E (c := c) (by omega) a2
    rw [nodeW_un _ _ _ _ h] at hnx
    simp only [Bool.false_eq_true, false_and, if_false] at hnx
    have hrun : qf90 (1, (c : Int), 1, 0, 0, [], ()) pins g (104 + 16 * (n : Int)) seq cur P ret to fr = _ := run_eq W (opPin c) _ _ seq cur to hnx (fun hh => absurd rfl hh) (by simp) (fun w hw => by
      simp only [List.mem_singleton] at hw
      subst hw
      have : (wn P c (true, g, (if c = 0 then 1 else 0), 1, rs c, ())).1 = 98 + (c : Int) := a1
      show 96 ≤ (wn P c (true, g, (if c = 0 then 1 else 0), 1, rs c, ())).1 ∧ (wn P c (true, g, (if c = 0 then 1 else 0), 1, rs c, ())).1 < _
      rw [this]; omega)
    refine ⟨_, _, _, ?_, a3, .inr ⟨rfl, h⟩⟩
    have d1 : decide ((0 : Int) < pins.getD c 0) = false := by rw [h]; rfl
    have w1 : IntKind.wrap .i64 g = g := i64w (by omega) (by omega)
    have w2 : IntKind.wrap .i64 (g + 1) = g + 1 := i64w (by omega) (by omega)
    unfold qf91
    simp only [e1, e2, e3, Option.bind_some, decide_true, cond_true, hrun, r6, t0, d1, cond_false, w1, w2]
    rfl
  · have hp : 0 < pins.getD c 0 := by omega
    have hnx := next_pin W.E (c := c) (by omega) (wn_ok W.E (c := c) (by omega) true g (nodeW pins inc rs c).2.2.1 1 (rs c) (fun h => by cases h) hg0 (by omega) (by unfold nodeW; simp only; split <;> omega) (by unfold nodeW; simp only; split <;> omega) (by omega) (by omega) (W.good hc6)).1
    have hi := (W.ic c hc6).2.2 hp
    have hi' : (nodeW pins inc rs c).2.2.2.1 = 1 := hi
    rw [(nodeW_pin _ _ _ _ hp).1, hi'] at hnx
    simp only [and_self, if_true] at hnx
    have hrun : qf90 (1, (c : Int), 1, 0, 0, [], ()) pins g (104 + 16 * (n : Int)) seq cur P ret to fr = _ := run_eq W (opPin c) _ _ seq cur to hnx (fun _ => rfl) (by simp) (fun w hw => by cases hw)
    refine ⟨P, pins, inc, ?_, W, .inl rfl⟩
    have d1 : decide ((0 : Int) < pins.getD c 0) = true := decide_eq_true hp
    have hz : commitAll P [] = P := rfl
    unfold qf91
    simp only [e1, e2, e3, Option.bind_some, decide_true, cond_true, hrun, r6, t0, d1, hz]
theorem do_unpin (W : WI n P pins g ret fr rs inc u) (m : MvE) (hk : m.1 % 8 = 1 ∨ m.1 % 8 = 7) (c d : Nat) (hc : m.2.1 % 6 = c) (hd : m.2.2.1 % 6 = d) (at_ seq : Int) (cur : Cu) (to : List Ptr) :
    ∃ P' inc', qf91 m at_ pins g (104 + 16 * (n : Int)) seq cur P ret to fr = some (true, pins.set c 0, g, 104 + 16 * (n : Int), seq, cur, P', ret, to, fr) ∧ WI n P' (pins.set c 0) g ret fr rs inc' u := by
  have hc6 : c < 6 := by omega
  have hg0 := W.E.g0; have hg1 := W.E.g1; have hPl := W.E.hp.len; have hn0 := W.E.n0
  have e1 := pick6 _ _ hc
  have e2 := pick6 _ _ hd
  have r6 : inR ((c : Nat) : Int) 6 = true := inR_nat hc6
  have t0 : Int.toNat ((c : Nat) : Int) = c := Int.toNat_natCast c
  have hic := W.ic c hc6
  obtain ⟨a1, a2, a3⟩ := W.node (c := c) (by omega) 0 (inc c) (.inl rfl) ⟨hic.1, hic.2.1, fun h => by omega⟩
  have hnd : ((decide ((0 : Int) < 0), (if (0 : Int) < 0 then (0 : Int) - 1 else 0), (if c = 0 then 1 else 0), inc c, rs c, ()) : Node) = (false, 0, (if c = 0 then 1 else 0), inc c, rs c, ()) := rfl
  rw [hnd] at a1 a2 a3
  have hwl : ∀ w ∈ [wn P c (false, 0, (nodeW pins inc rs c).2.2)], 96 ≤ w.1 ∧ w.1 < 96 + (P.length : Int) := fun w hw => by
    simp only [List.mem_singleton] at hw
    subst hw
    have : (wn P c (false, 0, (nodeW pins inc rs c).2.2)).1 = 98 + (c : Int) := a1
    rw [this]; omega
  rcases W.pb c hc6 with h | h
  · have hset : pins.set c 0 = pins := by
      refine List.ext_getElem (by simp) fun j h1 h2 => ?_
      by_cases e : c = j
      · subst e
        have : pins.getD c 0 = pins[c] := by simp [List.getD, h2]
        rw [List.getElem_set_self, ← this, h]
      · rw [List.getElem_set_ne e]
    rw [hset]
    have d1 : decide (pins.getD c 0 = 0) = true := by rw [h]; rfl
    have hz : commitAll P [] = P := rfl
    rcases hk with hk | hk
    · have e3 : qf2 m.1 8 = some 1 := by rw [qf2_eq _ 8 (by omega) (by omega), hk]
      have hnx := next_unpin W.E (c := c) (by omega) a2
      rw [nodeW_un _ _ _ _ h] at hnx
      simp only [Bool.false_eq_true, false_and, if_false] at hnx
      have hrun : qf90 (2, (c : Int), 1, 0, 0, [], ()) pins g (104 + 16 * (n : Int)) seq cur P ret to fr = _ := run_eq W (opUnpin c) _ _ seq cur to hnx (fun _ => rfl) (by simp) (fun w hw => by cases hw)
      refine ⟨P, inc, ?_, W⟩
      have k1 : decide ((1 : Int) = 0) = false := by decide
      have k2 : decide ((1 : Int) = 7) = false := by decide
      unfold qf91
      simp only [e1, e2, e3, Option.bind_some, decide_true, cond_true, cond_false, k1, k2, hrun, r6, t0, d1, hz]
    · have e3 : qf2 m.1 8 = some 7 := by rw [qf2_eq _ 8 (by omega) (by omega), hk]
      have hnx := next_evict W.E (o := d) (c := c) (by omega) (by omega) a2
      rw [nodeW_un _ _ _ _ h] at hnx
      simp only [Bool.false_eq_true, false_and, if_false] at hnx
      have hrun : qf90 (6, (d : Int), 2, 0, (c : Int), [], ()) pins g (104 + 16 * (n : Int)) seq cur P ret to fr = _ := run_eq W (opEvict d c) _ _ seq cur to hnx (fun _ => rfl) (by simp) (fun w hw => by cases hw)
      refine ⟨P, inc, ?_, W⟩
      have k1 : decide ((7 : Int) = 0) = false := by decide
      have k2 : decide ((7 : Int) = 1) = false := by decide
      unfold qf91
      simp only [e1, e2, e3, Option.bind_some, decide_true, cond_true, cond_false, k1, k2, hrun, r6, t0, d1, hz]
  · have hp : 0 < pins.getD c 0 := by omega
    have hi : inc c = 1 := hic.2.2 hp
    have hi' : (nodeW pins inc rs c).2.2.2.1 = 1 := hi
    have d1 : decide (pins.getD c 0 = 0) = false := decide_eq_false (by omega)
    have w2 : IntKind.wrap .i64 (pins.getD c 0 - 1) = pins.getD c 0 - 1 := i64w (by omega) (by omega)
    have hep := (nodeW_pin pins inc rs c hp).2
    rcases hk with hk | hk
    · have e3 : qf2 m.1 8 = some 1 := by rw [qf2_eq _ 8 (by omega) (by omega), hk]
      have hnx := next_unpin W.E (c := c) (by omega) a2
      rw [(nodeW_pin _ _ _ _ hp).1, hi', hep] at hnx
      simp only [and_self, if_true] at hnx
      have hrun : qf90 (2, (c : Int), 1, 0, 0, [], ()) pins g (104 + 16 * (n : Int)) seq cur P ret to fr = _ := run_eq W (opUnpin c) _ _ seq cur to hnx (fun hh => absurd rfl hh) (by simp) hwl
      refine ⟨_, _, ?_, a3⟩
      have k1 : decide ((1 : Int) = 0) = false := by decide
      have k2 : decide ((1 : Int) = 7) = false := by decide
      unfold qf91
      simp only [e1, e2, e3, Option.bind_some, decide_true, cond_true, cond_false, k1, k2, hrun, r6, t0, d1, w2]
      rfl
    · have e3 : qf2 m.1 8 = some 7 := by rw [qf2_eq _ 8 (by omega) (by omega), hk]
      have hnx := next_evict W.E (o := d) (c := c) (by omega) (by omega) a2
      rw [(nodeW_pin _ _ _ _ hp).1, hi', hep] at hnx
      have h12 : (1 : Int) ≤ 2 := by omega
      simp only [h12, and_self, if_true] at hnx
      have hrun : qf90 (6, (d : Int), 2, 0, (c : Int), [], ()) pins g (104 + 16 * (n : Int)) seq cur P ret to fr = _ := run_eq W (opEvict d c) _ _ seq cur to hnx (fun hh => absurd rfl hh) (by simp) hwl
      refine ⟨_, _, ?_, a3⟩
      have k1 : decide ((7 : Int) = 0) = false := by decide
      have k2 : decide ((7 : Int) = 1) = false := by decide
      unfold qf91
      simp only [e1, e2, e3, Option.bind_some, decide_true, cond_true, cond_false, k1, k2, hrun, r6, t0, d1, w2]
      rfl
def heldB (pins : List Int) (g : Int) (c : Nat) : Bool := decide (0 < pins.getD c 0) && !decide (pins.getD c 0 - 1 = g)
theorem blocker_eq (pins : List Int) (g : Int) (inc : Nat → Int) (rs : Nat → List Ret4) : blocker g (nodeW pins inc rs) = (List.range' 0 6).find? (heldB pins g) := by
  unfold blocker
  congr 1
  funext c
  unfold heldB nodeW
  by_cases h : 0 < pins.getD c 0
  · simp only [if_pos h]
  · simp only [decide_eq_false h, Bool.false_and]
theorem doL1_eq (pins : List Int) (hpl : pins.length = 6) (hpb : ∀ c : Nat, c < 6 → 0 ≤ pins.getD c 0 ∧ pins.getD c 0 ≤ 2000000) (g : Int) (x4 x5 : Int) (x6 : Cu) (P' : List Page) (ret : List Int) (to : List Ptr) (fr : List Bool) (out : Val TOut) :
    qf91L1 true (0 : Int) pins g x4 x5 x6 P' ret to fr out = some (match (List.range' 0 6).find? (heldB pins g) with
      | some b => .inr (if out.1 = 3 then decide (out.2.2.1 = (b : Int)) else false, pins, g, x4, x5, x6, P', ret, to, fr)
      | none => .inl (true, pins, g, x4, x5, x6, P', ret, to, fr, out)) := by
  have := iter_scan (body := qf91L1B) (fun i => (true, (i : Int), pins, g, x4, x5, x6, P', ret, to, fr, out)) 6 (heldB pins g) (fun b => .inr (if out.1 = 3 then decide (out.2.2.1 = (b : Int)) else false, pins, g, x4, x5, x6, P', ret, to, fr)) (.inl (true, pins, g, x4, x5, x6, P', ret, to, fr, out)) (fun i hi hb => ?_) (fun i hi hb => ?_) ?_ 0 (Nat.zero_le _)
  · have this' : qf91L1 true (0 : Int) pins g x4 x5 x6 P' ret to fr out = _ := this
    rw [this']
    cases (List.range' 0 6).find? (heldB pins g) <;> rfl
  · show qf91L1b _ _ _ _ _ _ _ _ _ _ _ _ = _
    have e1 : decide ((i : Int) < 6) = true := by simp; omega
    have e2 : inR (i : Int) 6 = true := inR_nat hi
    have e4 : IntKind.wrap .i64 ((i : Int) + 1) = ((i + 1 : Nat) : Int) := by rw [i64w (by omega) (by omega)]; simp
    have hp := hpb i hi
    have e5 : IntKind.wrap .i64 (pins.getD i 0 - 1) = pins.getD i 0 - 1 := i64w (by omega) (by omega)
    unfold heldB at hb
    unfold qf91L1b
    simp only [e1, e2, cond_true, Int.toNat_natCast, e4, e5]
    by_cases h : 0 < pins.getD i 0
    · have hd : decide (0 < pins.getD i 0) = true := by simpa using h
      rw [hd, Bool.true_and] at hb
      simp only [hd, cond_true, hb, cond_false]
    · have hd : decide (0 < pins.getD i 0) = false := by simpa using h
      simp only [hd, cond_false]
  · show qf91L1b _ _ _ _ _ _ _ _ _ _ _ _ = _
    have e1 : decide ((i : Int) < 6) = true := by simp; omega
    have e2 : inR (i : Int) 6 = true := inR_nat hi
    have hp := hpb i hi
    have e5 : IntKind.wrap .i64 (pins.getD i 0 - 1) = pins.getD i 0 - 1 := i64w (by omega) (by omega)
    unfold heldB at hb
    rw [Bool.and_eq_true] at hb
    unfold qf91L1b
    simp only [e1, e2, cond_true, Int.toNat_natCast, e5, hb.1, hb.2]
    by_cases h3 : out.1 = 3
    · simp only [decide_eq_true h3, cond_true, if_pos h3]
    · simp only [decide_eq_false h3, cond_false, if_neg h3]
  · show qf91L1b _ _ _ _ _ _ _ _ _ _ _ _ = _
    unfold qf91L1b
    simp
theorem do_adv (W : WI n P pins g ret fr rs inc u) (hgs : g + 1 ≤ 1000000) (m : MvE) (hk : m.1 % 8 = 2 ∨ m.1 % 8 = 3) (c d : Nat) (hc : m.2.1 % 6 = c) (hd : m.2.2.1 % 6 = d) (at_ seq : Int) (cur : Cu) (to : List Ptr) :
    ∃ P' g', qf91 m at_ pins g (104 + 16 * (n : Int)) seq cur P ret to fr = some (true, pins, g', 104 + 16 * (n : Int), seq, cur, P', ret, to, fr) ∧ WI n P' pins g' ret fr rs inc u ∧ g ≤ g' ∧ g' ≤ g + 1 ∧ ((∀ c : Nat, c < 6 → pins.getD c 0 = 0) → g' = g + 1) := by
  have hc6 : c < 6 := by omega
  have hg0 := W.E.g0; have hg1 := W.E.g1; have hPl := W.E.hp.len; have hn0 := W.E.n0
  have e1 := pick6 _ _ hc
  have e2 := pick6 _ _ hd
  have hpb : ∀ c : Nat, c < 6 → 0 ≤ pins.getD c 0 ∧ pins.getD c 0 ≤ 2000000 := fun c hc => by rcases W.pb c hc with h | h <;> omega
  have hnx := next_adv W.E (c := c) (by omega)
  rw [blocker_eq] at hnx
  have w1 : IntKind.wrap .i64 (g + 1) = g + 1 := i64w (by omega) (by omega)
  cases hf : (List.range' 0 6).find? (heldB pins g) with
  | some b =>
    rw [hf] at hnx
    have hnx' : qf89 (opAdv c) P = some ([], [], (3, 0, (b : Int), [], [], ()), true) := hnx
    have hrun : qf90 (3, (c : Int), 0, 0, 0, [], ()) pins g (104 + 16 * (n : Int)) seq cur P ret to fr = _ := run_eq W (opAdv c) _ _ seq cur to hnx' (fun _ => rfl) (by simp) (fun w hw => by cases hw)
    have hL1 := doL1_eq pins W.pl hpb g (104 + 16 * (n : Int)) seq cur (commitAll P []) ret to fr (3, 0, (b : Int), [], [], ())
    rw [hf] at hL1
    have hz : commitAll P [] = P := rfl
    rw [hz] at hrun hL1
    have hbad : heldB pins g b = true := List.find?_some hf
    have hb6 : b < 6 := by
      have := List.mem_of_find?_eq_some hf
      simp [List.mem_range'] at this
      omega
    refine ⟨P, g, ?_, W, by omega, by omega, fun hall => ?_⟩
    · unfold qf91
      rcases hk with hk | hk
      · have e3 : qf2 m.1 8 = some 2 := by rw [qf2_eq _ 8 (by omega) (by omega), hk]
        have k1 : decide ((2 : Int) = 0) = false := by decide
        have k2 : decide ((2 : Int) = 1) = false := by decide
        have k3 : decide ((2 : Int) = 7) = false := by decide
        simp only [e1, e2, e3, Option.bind_some, decide_true, cond_true, cond_false, k1, k2, k3, hrun, hL1, if_true]
      · have e3 : qf2 m.1 8 = some 3 := by rw [qf2_eq _ 8 (by omega) (by omega), hk]
        have k1 : decide ((3 : Int) = 0) = false := by decide
        have k2 : decide ((3 : Int) = 1) = false := by decide
        have k3 : decide ((3 : Int) = 7) = false := by decide
        have k4 : decide ((3 : Int) = 2) = false := by decide
        have k5 : decide ((3 : Int) = 4) = false := by decide
        have k6 : decide ((3 : Int) = 5) = false := by decide
        simp only [e1, e2, e3, Option.bind_some, decide_true, cond_true, cond_false, k1, k2, k3, k4, k5, k6, hrun, hL1, if_true]
    · unfold heldB at hbad
      rw [hall b hb6] at hbad
      cases hbad
  | none =>
    rw [hf] at hnx
    have hnx' : qf89 (opAdv c) P = some ([], [we P (g + 1)], (0, g + 1, -1, [], [98, 99, 100, 101, 102, 103], ()), true) := hnx
    obtain ⟨a1, a2, a3⟩ := W.E.setEp hgs
    have hrun : qf90 (3, (c : Int), 0, 0, 0, [], ()) pins g (104 + 16 * (n : Int)) seq cur P ret to fr = _ := run_eq W (opAdv c) _ _ seq cur to hnx' (fun hh => absurd rfl hh) (by simp) (fun w hw => by
      simp only [List.mem_singleton] at hw
      subst hw
      rw [a3]; omega)
    have hL1 := doL1_eq pins W.pl hpb g (104 + 16 * (n : Int)) seq cur (commitAll P [we P (g + 1)]) ret to fr (0, g + 1, -1, [], [98, 99, 100, 101, 102, 103], ())
    rw [hf] at hL1
    have hno : ∀ c : Nat, c < 6 → heldB pins g c = false := fun c hc => by
      have := List.find?_eq_none.1 hf c (by simp [List.mem_range']; omega)
      simpa using this
    refine ⟨_, g + 1, ?_, { W with E := a1, pb := fun c hc => ?_, rb := fun k hk => ?_, ff := fun k hk h => ?_, hd := by rw [a2 8 (by omega) (by omega)]; exact W.hd, pg := fun k hk => by rw [a2 (9 + k) (by omega) (by omega)]; exact W.pg k hk }, by omega, by omega, fun _ => rfl⟩
    · unfold qf91
      rcases hk with hk | hk
      · have e3 : qf2 m.1 8 = some 2 := by rw [qf2_eq _ 8 (by omega) (by omega), hk]
        have k1 : decide ((2 : Int) = 0) = false := by decide
        have k2 : decide ((2 : Int) = 1) = false := by decide
        have k3 : decide ((2 : Int) = 7) = false := by decide
        simp only [e1, e2, e3, Option.bind_some, decide_true, cond_true, cond_false, k1, k2, k3, hrun, hL1, w1]
      · have e3 : qf2 m.1 8 = some 3 := by rw [qf2_eq _ 8 (by omega) (by omega), hk]
        have k1 : decide ((3 : Int) = 0) = false := by decide
        have k2 : decide ((3 : Int) = 1) = false := by decide
        have k3 : decide ((3 : Int) = 7) = false := by decide
        have k4 : decide ((3 : Int) = 2) = false := by decide
        have k5 : decide ((3 : Int) = 4) = false := by decide
        have k6 : decide ((3 : Int) = 5) = false := by decide
        simp only [e1, e2, e3, Option.bind_some, decide_true, cond_true, cond_false, k1, k2, k3, k4, k5, k6, hrun, hL1, w1]
    · have h1 := hno c hc
      unfold heldB at h1
      rcases W.pb c hc with h | h
      · exact .inl h
      · have hd : decide (0 < pins.getD c 0) = true := decide_eq_true (by omega)
        rw [hd, Bool.true_and] at h1
        have h2 : pins.getD c 0 - 1 = g := by simpa only [Bool.not_eq_false', decide_eq_true_eq] using h1
        right; omega
    · have := W.rb k hk; omega
    · have := W.ff k hk h; omega
end
end Go.Sx

/- Worlds: what a move does: retiring and collecting. -/
set_option linter.unusedVariables false
set_option linter.unusedSimpArgs false
namespace Go.Sx
open Go.RowKit
section
variable {n : Nat} {P : List Page} {pins : List Int} {g : Int} {ret : List Int} {fr : List Bool} {rs : Nat → List Ret4} {inc : Nat → Int} {u : Nat}
theorem toP_inj {a b : Nat} (h : toP a = toP b) : a = b := by
  have := congrArg (fun p : Ptr => p.1) h
  simp [toP] at this
  omega
theorem toP_no (k : Nat) : toP k ≠ noRet.1 := fun h => by
  have := congrArg (fun p : Ptr => p.1) h
  simp [toP, noRet] at this
  omega
theorem toL_get (k : Nat) (hk : k < 12) (d : Ptr) : toL.getD k d = toP k := by
  unfold toL
  rw [List.getD_eq_getElem?_getD, List.getElem?_map, List.getElem?_range hk]; rfl
theorem toL_len : toL.length = 12 := by simp [toL]
theorem do_ret (W : WI n P pins g ret fr rs inc u) (m : MvE) (hk : m.1 % 8 = 4 ∨ m.1 % 8 = 5) (c d : Nat) (hc : m.2.1 % 6 = c) (hd : m.2.2.1 % 6 = d) (at_ : Nat) (seq : Int) (cur : Cu) :
    ∃ P' ret' rs', qf91 m (at_ : Int) pins g (104 + 16 * (n : Int)) seq cur P ret toL fr = some (true, pins, g, 104 + 16 * (n : Int), seq, cur, P', ret', toL, fr) ∧ WI n P' pins g ret' fr rs' inc u ∧ (ret' = ret ∨ ∃ k : Nat, k < 12 ∧ ret.getD k 0 < 0 ∧ ret' = ret.set k g) := by
  have hc6 : c < 6 := by omega
  have hg0 := W.E.g0; have hg1 := W.E.g1; have hPl := W.E.hp.len; have hn0 := W.E.n0
  have e1 := pick6 _ _ hc
  have e2 := pick6 _ _ hd
  obtain ⟨k, hkk⟩ : ∃ k : Nat, at_ % 12 = k := ⟨_, rfl⟩
  have hk12 : k < 12 := by omega
  have el : ((toL.length : Nat) : Int) = 12 := by rw [toL_len]; rfl
  have em : Int.tmod (at_ : Int) 12 = (k : Int) := by rw [Int.tmod_eq_emod_of_nonneg (by omega)]; omega
  have t0 : Int.toNat ((k : Nat) : Int) = k := Int.toNat_natCast k
  have n0 : (!decide ((12 : Int) = 0)) = true := by decide
  have q1 : inR ((k : Nat) : Int) ret.length = true := inR_nat (by rw [W.rl]; exact hk12)
  have q2 : inR ((k : Nat) : Int) fr.length = true := inR_nat (by rw [W.fl]; exact hk12)
  have q3 : inR ((k : Nat) : Int) toL.length = true := inR_nat (by rw [toL_len]; exact hk12)
  have disp : ∀ R, (bif decide ((0 : Int) ≤ ret.getD k 0) then some (true, pins, g, 104 + 16 * (n : Int), seq, cur, P, ret, toL, fr) else bif fr.getD k false then some (true, pins, g, 104 + 16 * (n : Int), seq, cur, P, ret, toL, fr) else
      (qf90 (4, (c : Int), 0, 0, 0, [toP k], ()) pins g (104 + 16 * (n : Int)) seq cur P ret toL fr).bind fun r =>
        bif r.2.1 then bif decide (r.1.1 = 0) then bif inR (k : Int) r.2.2.2.2.2.2.2.2.1.length then some (true, r.2.2.1, r.2.2.2.1, r.2.2.2.2.1, r.2.2.2.2.2.1, r.2.2.2.2.2.2.1, r.2.2.2.2.2.2.2.1, r.2.2.2.2.2.2.2.2.1.set k r.2.2.2.1, r.2.2.2.2.2.2.2.2.2.1, r.2.2.2.2.2.2.2.2.2.2) else none
          else some (decide (r.1.1 = 12), r.2.2.1, r.2.2.2.1, r.2.2.2.2.1, r.2.2.2.2.2.1, r.2.2.2.2.2.2.1, r.2.2.2.2.2.2.2.1, r.2.2.2.2.2.2.2.2.1, r.2.2.2.2.2.2.2.2.2.1, r.2.2.2.2.2.2.2.2.2.2)
        else some (false, r.2.2.1, r.2.2.2.1, r.2.2.2.2.1, r.2.2.2.2.2.1, r.2.2.2.2.2.2.1, r.2.2.2.2.2.2.2.1, r.2.2.2.2.2.2.2.2.1, r.2.2.2.2.2.2.2.2.2.1, r.2.2.2.2.2.2.2.2.2.2)) = R →
      qf91 m (at_ : Int) pins g (104 + 16 * (n : Int)) seq cur P ret toL fr = R := by
    intro R hR
    rw [← hR]
    unfold qf91
    rcases hk with hk | hk
    · have e3 : qf2 m.1 8 = some 4 := by rw [qf2_eq _ 8 (by omega) (by omega), hk]
      have k1 : decide ((4 : Int) = 0) = false := by decide
      have k2 : decide ((4 : Int) = 1) = false := by decide
      have k3 : decide ((4 : Int) = 7) = false := by decide
      have k4 : decide ((4 : Int) = 2) = false := by decide
      have k5 : decide ((4 : Int) = 3) = false := by decide
      simp only [e1, e2, e3, Option.bind_some, decide_true, cond_true, cond_false, k1, k2, k3, k4, k5, el, em, n0, q1, q2, q3, t0, toL_get k hk12]
      cases decide ((0 : Int) ≤ ret.getD k 0) with
      | true => rfl
      | false =>
        cases fr.getD k false with
        | true => rfl
        | false =>
          simp only [cond_false]
          congr 1
          funext r
          cases r.2.1 <;> cases decide (r.1.1 = 0) <;> rfl
    · have e3 : qf2 m.1 8 = some 5 := by rw [qf2_eq _ 8 (by omega) (by omega), hk]
      have k1 : decide ((5 : Int) = 0) = false := by decide
      have k2 : decide ((5 : Int) = 1) = false := by decide
      have k3 : decide ((5 : Int) = 7) = false := by decide
      have k4 : decide ((5 : Int) = 2) = false := by decide
      have k5 : decide ((5 : Int) = 3) = false := by decide
      have k6 : decide ((5 : Int) = 4) = false := by decide
      simp only [e1, e2, e3, Option.bind_some, decide_true, cond_true, cond_false, k1, k2, k3, k4, k5, k6, el, em, n0, q1, q2, q3, t0, toL_get k hk12]
      cases decide ((0 : Int) ≤ ret.getD k 0) with
      | true => rfl
      | false =>
        cases fr.getD k false with
        | true => rfl
        | false =>
          simp only [cond_false]
          congr 1
          funext r
          cases r.2.1 <;> cases decide (r.1.1 = 0) <;> rfl
  by_cases hr0 : 0 ≤ ret.getD k 0
  · refine ⟨P, ret, rs, disp _ ?_, W, .inl rfl⟩
    rw [decide_eq_true hr0, cond_true]
  · have hf : fr.getD k false = false := by
      cases h : fr.getD k false with
      | false => rfl
      | true => exact absurd (W.ff k hk12 h).1 hr0
    have hgood := W.good hc6
    have hval := toP_valid hk12
    have hmem : ∀ r ∈ rs c, r ≠ noRet → r.1 ≠ toP k := fun r hr hne he => by
      obtain ⟨j, hj, rfl⟩ := List.mem_iff_getElem.1 hr
      have hj4 : j < 4 := by rw [W.rsl c hc6] at hj; exact hj
      have e : (rs c).getD j noRet = (rs c)[j] := by simp [List.getD, hj]
      rw [← e] at hne he
      rcases W.r1 c j hc6 hj4 with h | ⟨k', hk', h, h0, _⟩
      · exact hne h
      · rw [h] at he
        have := toP_inj he
        subst this
        exact hr0 h0
    have hwr4 : ∀ z, z < 4 → goodR ((rs c).set z (toP k, g, ())) := fun z hz => by
      refine ⟨by rw [List.length_set]; exact hgood.1, fun r hr => ?_⟩
      rcases List.mem_or_eq_of_mem_set hr with hr | rfl
      · exact hgood.2 r hr
      · refine ⟨⟨⟨wf_i64_mk (n := 105 + (k : Int)) (by omega) (by omega), wf_i64_mk (n := 1) (by omega) (by omega), trivial⟩, wf_u32_mk (n := g) hg0 (by omega), trivial⟩, ?_⟩
        unfold retBad
        rw [hval]; simp
    have hic := W.ic c hc6
    have hnb : (if 0 < pins.getD c 0 then pins.getD c 0 - 1 else 0) ≤ 4294967295 ∧ 0 ≤ (if 0 < pins.getD c 0 then pins.getD c 0 - 1 else 0) := by
      rcases W.pb c hc6 with h | h <;> split <;> omega
    have hok := fun z (hz : z < 4) => wn_ok W.E (c := c) (by omega) (decide (0 < pins.getD c 0)) (if 0 < pins.getD c 0 then pins.getD c 0 - 1 else 0) (if c = 0 then 1 else 0) (inc c) ((rs c).set z (toP k, g, ())) (fun h => if_neg (of_decide_eq_false h)) hnb.2 hnb.1 (by split <;> omega) (by split <;> omega) hic.1 (by omega) (hwr4 z hz)
    have hnx := next_ret W.E (c := c) (by omega) (toP k) hval (rs c) rfl hgood.1 hmem (fun z hz => (hok z hz).1)
    by_cases hfull : freeN (rs c) = 0
    · rw [if_pos hfull] at hnx
      have hrun : qf90 (4, (c : Int), 0, 0, 0, [toP k], ()) pins g (104 + 16 * (n : Int)) seq cur P ret toL fr = _ := run_eq W (opRet c (toP k)) _ _ seq cur toL hnx (fun _ => rfl) (by simp) (fun w hw => by cases hw)
      refine ⟨P, ret, rs, disp _ ?_, W, .inl rfl⟩
      rw [decide_eq_false hr0, hf, hrun]
      rfl
    · rw [if_neg hfull] at hnx
      have hfz : firstN (rs c) < (rs c).length := by
        unfold firstN
        refine List.findIdx_lt_length_of_exists ?_
        unfold freeN at hfull
        obtain ⟨r, hr⟩ := List.exists_mem_of_length_pos (Nat.pos_of_ne_zero hfull)
        exact ⟨r, (List.mem_filter.1 hr).1, (List.mem_filter.1 hr).2⟩
      have hatz : (rs c)[firstN (rs c)] = noRet := by
        have := List.findIdx_getElem (xs := rs c) (p := fun r => decide (r = noRet)) (w := hfz)
        exact of_decide_eq_true this
      generalize hz : firstN (rs c) = z at hnx hfz hatz
      have hz4 : z < 4 := by rw [hgood.1] at hfz; exact hfz
      obtain ⟨a1, a2, a3, a4⟩ := hok z hz4
      have hwnd : ((nodeW pins inc rs c).1, (nodeW pins inc rs c).2.1, (nodeW pins inc rs c).2.2.1, (nodeW pins inc rs c).2.2.2.1, (rs c).set z (toP k, g, ()), (nodeW pins inc rs c).2.2.2.2.2) = ((decide (0 < pins.getD c 0), (if 0 < pins.getD c 0 then pins.getD c 0 - 1 else 0), (if c = 0 then 1 else 0), inc c, (rs c).set z (toP k, g, ()), ()) : Node) := rfl
      rw [hwnd] at hnx
      obtain ⟨b1, b2⟩ := W.E.setNode (c := c) (by omega) a2 a3 a4
      have hrun : qf90 (4, (c : Int), 0, 0, 0, [toP k], ()) pins g (104 + 16 * (n : Int)) seq cur P ret toL fr = _ := run_eq W (opRet c (toP k)) _ _ seq cur toL hnx (fun hh => absurd rfl hh) (by simp) (fun w hw => by
        simp only [List.mem_singleton] at hw
        subst hw
        rw [a3]; omega)
      have hatD : (rs c).getD z noRet = noRet := by simp [List.getD, hfz, hatz]
      have hgs : ∀ k' : Nat, (ret.set k g).getD k' 0 = if k' = k then g else ret.getD k' 0 := fun k' => by
        by_cases h : k' = k
        · subst h; rw [if_pos rfl, getD_set_self _ _ _ _ (by rw [W.rl]; exact hk12)]
        · rw [if_neg h, getD_set_ne _ _ _ _ _ (fun e => h e.symm)]
      have hrs : ∀ c' j : Nat, ((if c' = c then (rs c).set z (toP k, g, ()) else rs c') : List Ret4).getD j noRet = if c' = c ∧ j = z then (toP k, g, ()) else (rs c').getD j noRet := fun c' j => by
        by_cases h : c' = c
        · subst h
          rw [if_pos rfl]
          by_cases hj : j = z
          · subst hj; rw [if_pos ⟨rfl, rfl⟩, getD_set_self _ _ _ _ hfz]
          · rw [if_neg (fun h => hj h.2), getD_set_ne _ _ _ _ _ (fun e => hj e.symm)]
        · rw [if_neg h, if_neg (fun h2 => h h2.1)]
      refine ⟨_, ret.set k g, (fun d => if d = c then (rs c).set z (toP k, g, ()) else rs d), disp _ ?_, { W with E := b1.congr fun d hd => ?_, rl := by rw [List.length_set]; exact W.rl, rb := fun k' hk' => ?_, ff := fun k' hk' h => ?_, rsl := fun d hd => ?_, r1 := fun c' j hc' hj => ?_, r2 := fun c' j c'' j' h1 h2 h3 h4 h5 h6 => ?_, r3 := fun k' hk' h0 hf' => ?_, hd := by rw [b2 8 (by omega) (by omega)]; exact W.hd, pg := fun k' hk' => by rw [b2 (9 + k') (by omega) (by omega)]; exact W.pg k' hk' }, .inr ⟨k, hk12, by omega, rfl⟩⟩
      · rw [decide_eq_false hr0, hf, hrun]
        simp only [cond_false, Option.bind_some, cond_true, decide_true, q1]
      · by_cases h : d = c
        · subst h; rw [if_pos rfl]; unfold nodeW; simp
        · rw [if_neg h]; unfold nodeW; simp [h]
      · rw [hgs]
        split
        · omega
        · exact W.rb k' hk'
      · rw [hgs]
        have hne : k' ≠ k := fun e => by rw [e, hf] at h; cases h
        rw [if_neg hne]
        exact W.ff k' hk' h
      · by_cases h : d = c
        · simp only [h, if_true, List.length_set]; exact hgood.1
        · simp only [h, if_false]; exact W.rsl d hd
      · rw [hrs]
        by_cases h : c' = c ∧ j = z
        · rw [if_pos h]
          right
          exact ⟨k, hk12, by rw [hgs, if_pos rfl], by rw [hgs, if_pos rfl]; exact hg0, hf⟩
        · rw [if_neg h]
          rcases W.r1 c' j hc' hj with h1 | ⟨k', hk', h1, h0, hf'⟩
          · exact .inl h1
          · have hne : k' ≠ k := fun e => by subst e; exact hr0 h0
            exact .inr ⟨k', hk', by rw [hgs, if_neg hne]; exact h1, by rw [hgs, if_neg hne]; exact h0, hf'⟩
      · rw [hrs] at h5 h6
        rw [hrs] at h6
        have hnew : ∀ c' j : Nat, c' < 6 → j < 4 → ((rs c').getD j noRet).1 ≠ toP k := fun c' j hc' hj he => by
          rcases W.r1 c' j hc' hj with h1 | ⟨k', hk', h1, h0, hf'⟩
          · rw [h1] at he; exact toP_no k he.symm
          · rw [h1] at he
            have := toP_inj he
            subst this
            exact hr0 h0
        by_cases hA : c' = c ∧ j = z
        · by_cases hB : c'' = c ∧ j' = z
          · exact ⟨hA.1.trans hB.1.symm, hA.2.trans hB.2.symm⟩
          · rw [if_pos hA, if_neg hB] at h6
            exact absurd h6.symm (hnew c'' j' h3 h4)
        · rw [if_neg hA] at h5 h6
          by_cases hB : c'' = c ∧ j' = z
          · rw [if_pos hB] at h6
            exact absurd h6 (hnew c' j h1 h2)
          · rw [if_neg hB] at h6
            exact W.r2 c' j c'' j' h1 h2 h3 h4 h5 h6
      · rw [hgs] at h0 ⊢
        by_cases h : k' = k
        · subst h
          rw [if_pos rfl]
          exact ⟨c, z, hc6, hz4, by rw [hrs, if_pos ⟨rfl, rfl⟩]⟩
        · rw [if_neg h] at h0 ⊢
          obtain ⟨c', j, hc', hj, he⟩ := W.r3 k' hk' h0 hf'
          refine ⟨c', j, hc', hj, ?_⟩
          rw [hrs, if_neg, he]
          rintro ⟨rfl, rfl⟩
          rw [hatD] at he
          exact toP_no k' (congrArg (fun r : Ret4 => r.1) he).symm
theorem colS_spec (W : WI n P pins g ret fr rs inc u) {d : Nat} (hd : d < 6) : ∀ i, i ≤ 4 → ∃ kk : List Nat, (colS g (rs d) i).2 = kk.map toP ∧ kk.Nodup ∧
    (∀ k ∈ kk, k < 12 ∧ 0 ≤ ret.getD k 0 ∧ ret.getD k 0 + 2 ≤ g ∧ fr.getD k false = false ∧ ∃ j : Nat, j < i ∧ (rs d).getD j noRet = (toP k, ret.getD k 0, ()) ∧ (colS g (rs d) i).1.getD j noRet = noRet) ∧
    (∀ j : Nat, j < 4 → (colS g (rs d) i).1.getD j noRet = (rs d).getD j noRet ∨ ((colS g (rs d) i).1.getD j noRet = noRet ∧ j < i ∧ ∃ k ∈ kk, (rs d).getD j noRet = (toP k, ret.getD k 0, ()))) := by
  intro i
  induction i with
  | zero => intro _; exact ⟨[], rfl, List.nodup_nil, fun k hk => (by cases hk), fun j hj => .inl rfl⟩
  | succ i ih =>
    intro hi
    obtain ⟨kk, h1, h2, h3, h4⟩ := ih (by omega)
    have hlen := (colS_len g (rs d) i).2
    rw [W.rsl d hd] at hlen
    by_cases hc : (rs d).getD i noRet ≠ noRet ∧ ((rs d).getD i noRet).2.1 + 2 ≤ g ∧ (colS g (rs d) i).2.length < 2
    · have hs : colS g (rs d) (i + 1) = ((colS g (rs d) i).1.set i noRet, (colS g (rs d) i).2 ++ [((rs d).getD i noRet).1]) := by
        conv => lhs; unfold colS
        rw [if_pos hc]
      rcases W.r1 d i hd (by omega) with h | ⟨k, hk, h, h0, hf⟩
      · exact absurd h hc.1
      · have hepk : ret.getD k 0 + 2 ≤ g := by have := hc.2.1; rw [h] at this; exact this
        have hkn : k ∉ kk := fun hkm => by
          obtain ⟨_, _, _, _, j, hj, hje, _⟩ := h3 k hkm
          have := (W.r2 d j d i hd (by omega) hd (by omega) (by rw [hje]; exact fun e => toP_no k (congrArg (fun r : Ret4 => r.1) e)) (by rw [hje, h])).2
          omega
        refine ⟨kk ++ [k], ?_, ?_, fun k' hk' => ?_, fun j hj => ?_⟩
        · rw [hs, h1, h]; simp
        · rw [List.nodup_append]
          exact ⟨h2, by simp, fun a ha b hb => by simp at hb; subst hb; exact fun e => hkn (e ▸ ha)⟩
        · rw [hs]
          rcases List.mem_append.1 hk' with hk' | hk'
          · obtain ⟨b1, b2, b3, b4, j, hj, hje, hjn⟩ := h3 k' hk'
            refine ⟨b1, b2, b3, b4, j, by omega, hje, ?_⟩
            show ((colS g (rs d) i).1.set i noRet).getD j noRet = noRet
            rw [getD_set_ne _ _ _ _ _ (by omega)]; exact hjn
          · simp only [List.mem_singleton] at hk'
            subst hk'
            refine ⟨hk, h0, hepk, hf, i, by omega, h, ?_⟩
            show ((colS g (rs d) i).1.set i noRet).getD i noRet = noRet
            rw [getD_set_self _ _ _ _ (by omega)]
        · rw [hs]
          show ((colS g (rs d) i).1.set i noRet).getD j noRet = _ ∨ (((colS g (rs d) i).1.set i noRet).getD j noRet = noRet ∧ _)
          by_cases e : j = i
          · subst e
            right
            exact ⟨by rw [getD_set_self _ _ _ _ (by omega)], by omega, k, by simp, h⟩
          · rw [getD_set_ne _ _ _ _ _ (fun e2 => e e2.symm)]
            rcases h4 j hj with h5 | ⟨h5, h6, k', hk', h7⟩
            · exact .inl h5
            · exact .inr ⟨h5, by omega, k', by simp [hk'], h7⟩
    · have hs : colS g (rs d) (i + 1) = colS g (rs d) i := by
        conv => lhs; unfold colS
        rw [if_neg hc]
      rw [hs]
      refine ⟨kk, h1, h2, fun k hk => ?_, fun j hj => ?_⟩
      · obtain ⟨b1, b2, b3, b4, j, hj, hje, hjn⟩ := h3 k hk
        exact ⟨b1, b2, b3, b4, j, by omega, hje, hjn⟩
      · rcases h4 j hj with h5 | ⟨h5, h6, h7⟩
        · exact .inl h5
        · exact .inr ⟨h5, by omega, h7⟩
end
end Go.Sx

