/- W2: printed by a program of this session: the functions of the seat as plain functions, and that the code comes to them. -/
import Derived.Test.YteghkndbngddgaaGreatW1
import Derived.Test.YteghkndbngddgaaGreatQ2
/- Heaps in order whose nodes and headers say who owns what; taking a segment keeps them so. -/
set_option linter.unusedVariables false
set_option linter.unusedSimpArgs false
namespace Go.Sx
open Go.RowKit
def pAt (P : List Page) (k : Nat) : Page := P.getD k noPage
theorem pAt_get {P : List Page} {k : Nat} (h : k < P.length) : pAt P k = P[k] := by simp [pAt, List.getD, h]
theorem pAt_commit (P : List Page) (w : Page) {j : Nat} (hj : j < P.length) (hw : w.1 = 96 + (j : Int)) {i : Nat} (hi : i < P.length) : pAt (commit1 P w) i = if i = j then reHead w (bump (pAt P j).2.1) else pAt P i := by
  have hi' : i < (commit1 P w).length := by rw [commit1_len]; exact hi
  rw [pAt_get hi', commit1_get P w j hj hw i hi', pAt_get hi, pAt_get hj]
def nodeV (B inc : Int) : Node := (false, 0, B, inc, List.replicate 4 noRet, ())
structure Inv (n : Nat) (P : List Page) (own : Nat → Int) (U : Nat → Nat) (G : Int) : Prop where
  hp : Heap n P
  n0 : 1 ≤ n
  n1 : n ≤ 5
  ownr : ∀ s, s < n → own s = -1 ∨ (0 ≤ own s ∧ own s ≤ 5)
  ub : ∀ s, s < n → U s < 65536 ∧ (U s).testBit 0 = false
  hdr : ∀ s, s < n → readHead (pAt P (8 + 16 * s)) = ((own s, (U s : Int), ()), 0)
  node : ∀ c : Nat, c ≤ 5 → ∃ inc, 0 ≤ inc ∧ inc ≤ 59 ∧ readNode (pAt P (2 + c)) = (nodeV (bm own c n) inc, 0)
  page : ∀ s, s < n → ∀ i, 1 ≤ i → i < 16 → (U s).testBit i = false → (ptag (pAt P (8 + 16 * s + i))).1 = 0
  gen : ∀ s, s < n → ∀ i, 1 ≤ i → i < 16 → (ptag (pAt P (8 + 16 * s + i))).2.1 ≤ G
section
variable {n : Nat} {P : List Page} {own : Nat → Int} {U : Nat → Nat} {G : Int}
theorem wf_nodeV {B : Nat} {inc : Int} (hB : B < 512) (i0 : 0 ≤ inc) (i1 : inc ≤ 59) : Wf TNode (nodeV (B : Int) inc) := by
  have hr : Wf TRet noRet := ⟨⟨wf_i64_mk (n := 0) (by omega) (by omega), wf_i64_mk (n := 0) (by omega) (by omega), trivial⟩, wf_u32_mk (n := 0) (by omega) (by omega), trivial⟩
  refine ⟨trivial, wf_u32_mk (n := 0) (by omega) (by omega), wf_u32_mk (n := (B : Int)) (by omega) (by omega), wf_i64_mk (n := inc) (by omega) (by omega), ⟨by simp [nodeV], fun x hx => ?_⟩, trivial⟩
  have := List.eq_of_mem_replicate hx
  subst this; exact hr
theorem node_code {p : Page} {B : Nat} {inc : Int} (hp : isOwnL p.1 = true) (hB : B < 512) (i0 : 0 ≤ inc) (i1 : inc ≤ 59) : (writeNode p (nodeV (B : Int) inc)).2 = 0 := by
  unfold writeNode
  have hr : (List.replicate 4 noRet).any retBad = false := by decide
  rw [if_neg]
  simp only [nodeV, hp, hr, Bool.true_eq_false, false_or, true_and, Bool.false_eq_true, or_false]
  omega
theorem head_code {p : Page} {c : Int} {u : Nat} (hp : isHdr p.1 = true) (c0 : -1 ≤ c) (c1 : c ≤ 5) (hu : u < 65536) (h0 : u.testBit 0 = false) : (writeHead p (c, (u : Int), ())).2 = 0 := by
  unfold writeHead
  have he : u % 2 = 0 := by
    have h1 : ¬ ((u : Int) / 2 ^ 0 % 2 = 1) := fun h => by rw [(bit_nat u 0).1 h] at h0; cases h0
    simp at h1
    omega
  rw [if_neg]
  simp only [hp, Bool.true_eq_false, false_or]
  omega
theorem bm_lt9 (hn : n ≤ 5) (c : Int) : bm own c n < 512 := by
  have h := bm_lt own c n
  have : 2 ^ n ≤ 2 ^ 9 := Nat.pow_le_pow_right (by omega) (by omega)
  have h9 : (2 : Nat) ^ 9 = 512 := by decide
  omega
theorem or_lt9 {B s : Nat} (hB : B < 512) (hs : s < 9) : B ||| 2 ^ s < 512 := by
  have h2 : 2 ^ s < 2 ^ 9 := Nat.pow_lt_pow_right (by omega) hs
  have h9 : (2 : Nat) ^ 9 = 512 := by decide
  have := Nat.or_lt_two_pow (x := B) (y := 2 ^ s) (n := 9) (by omega) h2
  omega
def takeN (n : Nat) (P : List Page) (own : Nat → Int) (c s : Nat) : Page := (writeNode (pAt P (2 + c)) (nodeV ((bm own c n ||| 2 ^ s : Nat) : Int) 1)).1
def takeH (P : List Page) (U : Nat → Nat) (c s : Nat) : Page := (writeHead (pAt P (8 + 16 * s)) ((c : Int), (U s : Int), ())).1
theorem Inv.acquire (I : Inv n P own U G) {c : Nat} (hc : c ≤ 5) : qf48 ((c : Int), 1, 104 + 16 * (n : Int), -1, ()) P = some (match firstFree own c n with
    | none => ([], [], 0, 12, true)
    | some s => ([], [takeN n P own c s, takeH P U c s], (s : Int), 0, true)) := by
  have hn5 := I.n1
  have hn0 := I.n0
  have hlen := I.hp.len
  obtain ⟨inc, i0, i1, hnd⟩ := I.node c hc
  have hm : maxLen = 9223372036854775807 := by decide
  have hcnt : cnt (104 + 16 * (n : Int)) = (n : Int) := by unfold cnt; rw [if_pos (by omega)]; omega
  have hnode := I.hp.node hc (by omega)
  rw [← pAt_get (by omega : 2 + c < P.length), hnd] at hnode
  have hh : ∀ s, s < n → headerS P (s : Int) = (pAt P (8 + 16 * s), (own s, (U s : Int), ()), true, 0) := fun s hs => by
    have := I.hp.header hs (by omega) (by omega)
    rw [← pAt_get (by omega : 8 + 16 * s < P.length), I.hdr s hs] at this
    exact this
  have key := acquire_eq P I.hp.wf (by omega) c n 1 (104 + 16 * (n : Int)) hc (by omega) (by omega) (by omega) (by omega) hcnt hn0 (pAt P (2 + c)) (nodeV (bm own c n) inc) hnode (bm own c n) (bm_lt9 hn5 _) rfl (fun s => pAt P (8 + 16 * s)) own U (fun s hs => (I.ub s hs).1) hh
    (fun s hs => wf_nodeV (or_lt9 (bm_lt9 hn5 _) (by omega)) (by omega) (by omega))
  rw [key]
  cases hf : firstFree own c n with
  | none => rfl
  | some s =>
    obtain ⟨hs, hown⟩ := firstFree_some hn0 hf
    have l1 : (pAt P (2 + c)).1 = 96 + ((2 + c : Nat) : Int) := by rw [pAt_get (by omega)]; exact I.hp.line _ _
    have l2 : (pAt P (8 + 16 * s)).1 = 96 + ((8 + 16 * s : Nat) : Int) := by rw [pAt_get (by omega)]; exact I.hp.line _ _
    have hB := or_lt9 (s := s) (bm_lt9 (own := own) hn5 (c : Int)) (by omega)
    have a1 := (node_again (pAt P (2 + c)) (nodeV ((bm own c n ||| 2 ^ s : Nat) : Int) 1) (wf_nodeV hB (by omega) (by omega)) (node_code (by unfold isOwnL; simp; omega) hB (by omega) (by omega))).2.1
    have a2 := (head_again (pAt P (8 + 16 * s)) ((c : Int), (U s : Int), ()) (wf_headv (by omega) (by omega) (I.ub s hs).1) (head_code (by unfold isHdr; simp; omega) (by omega) (by omega) (I.ub s hs).1 (I.ub s hs).2)).2.1
    have hsort : isort [takeN n P own c s, takeH P U c s] = [takeN n P own c s, takeH P U c s] := isort_of_asc (by
      refine List.pairwise_cons.2 ⟨fun q hq => ?_, List.pairwise_cons.2 ⟨fun q hq => (by cases hq), List.Pairwise.nil⟩⟩
      simp only [List.mem_singleton] at hq
      subst hq
      unfold takeN takeH
      rw [a1, a2, l1, l2]; omega)
    have : isort [(writeNode (pAt P (2 + c)) ((nodeV (bm own c n) inc).1, (nodeV (bm own c n) inc).2.1, ((bm own c n ||| 2 ^ s : Nat) : Int), 1, (nodeV (bm own c n) inc).2.2.2.2)).1, (writeHead (pAt P (8 + 16 * s)) ((c : Int), (U s : Int), ())).1] = [takeN n P own c s, takeH P U c s] := hsort
    simp only [this]
theorem pAt_two (P : List Page) (w1 w2 : Page) {j1 j2 : Nat} (h1 : j1 < P.length) (h2 : j2 < P.length) (hw1 : w1.1 = 96 + (j1 : Int)) (hw2 : w2.1 = 96 + (j2 : Int)) (hne : j1 ≠ j2) :
    ∃ b1 b2 : Int, ∀ i, i < P.length → pAt (commitAll P [w1, w2]) i = if i = j2 then reHead w2 b2 else if i = j1 then reHead w1 b1 else pAt P i := by
  refine ⟨bump (pAt P j1).2.1, bump (pAt P j2).2.1, fun i hi => ?_⟩
  have e : commitAll P [w1, w2] = commit1 (commit1 P w1) w2 := rfl
  rw [e, pAt_commit (commit1 P w1) w2 (by rw [commit1_len]; exact h2) hw2 (by rw [commit1_len]; exact hi), pAt_commit P w1 h1 hw1 h2, pAt_commit P w1 h1 hw1 hi, if_neg (show ¬ j2 = j1 from fun e => hne e.symm)]
theorem Inv.taken (I : Inv n P own U G) {c s : Nat} (hc : c ≤ 5) (hs : s < n) (hown : own s = -1) : Inv n (commitAll P [takeN n P own c s, takeH P U c s]) (upd own s c) U G := by
  have hn5 := I.n1
  have hlen := I.hp.len
  have l1 : (pAt P (2 + c)).1 = 96 + ((2 + c : Nat) : Int) := by rw [pAt_get (by omega)]; exact I.hp.line _ _
  have l2 : (pAt P (8 + 16 * s)).1 = 96 + ((8 + 16 * s : Nat) : Int) := by rw [pAt_get (by omega)]; exact I.hp.line _ _
  have hB := or_lt9 (s := s) (bm_lt9 (own := own) hn5 (c : Int)) (by omega)
  have hwn := wf_nodeV (inc := 1) hB (by omega) (by omega)
  have hwh := wf_headv (c := (c : Int)) (u := U s) (by omega) (by omega) (I.ub s hs).1
  obtain ⟨a1, a2, a3⟩ := node_again (pAt P (2 + c)) (nodeV ((bm own c n ||| 2 ^ s : Nat) : Int) 1) hwn (node_code (by unfold isOwnL; simp; omega) hB (by omega) (by omega))
  obtain ⟨b1, b2, b3⟩ := head_again (pAt P (8 + 16 * s)) ((c : Int), (U s : Int), ()) hwh (head_code (by unfold isHdr; simp; omega) (by omega) (by omega) (I.ub s hs).1 (I.ub s hs).2)
  have wp1 : Wf TPage (pAt P (2 + c)) := by rw [pAt_get (by omega)]; exact I.hp.wf _ (List.getElem_mem _)
  have wp2 : Wf TPage (pAt P (8 + 16 * s)) := by rw [pAt_get (by omega)]; exact I.hp.wf _ (List.getElem_mem _)
  have w1 : Wf TPage (takeN n P own c s) := wf_node_written _ _ wp1 hwn
  have w2 : Wf TPage (takeH P U c s) := wf_head_written _ _ wp2 hwh
  have k1 : (takeN n P own c s).1 = 96 + ((2 + c : Nat) : Int) := a2.trans l1
  have k2 : (takeH P U c s).1 = 96 + ((8 + 16 * s : Nat) : Int) := b2.trans l2
  obtain ⟨x1, x2, hget⟩ := pAt_two P (takeN n P own c s) (takeH P U c s) (j1 := 2 + c) (j2 := 8 + 16 * s) (by omega) (by omega) k1 k2 (by omega)
  have hheap : Heap n (commitAll P [takeN n P own c s, takeH P U c s]) := (I.hp.commit (by omega) k1 w1).commit (j := 8 + 16 * s) (by rw [commit1_len]; omega) k2 w2
  refine ⟨hheap, I.n0, I.n1, fun t ht => ?_, I.ub, fun t ht => ?_, fun d hd => ?_, fun t ht i i0 i1 hb => ?_, fun t ht i i0 i1 => ?_⟩
  · unfold upd
    split
    · right; omega
    · exact I.ownr t ht
  · rw [hget _ (by omega)]
    unfold upd
    by_cases h : t = s
    · subst h
      rw [if_pos rfl, if_pos rfl, readHead_re]; exact b1
    · rw [if_neg (by omega), if_neg (by omega), if_neg h]; exact I.hdr t ht
  · rw [hget _ (by omega), if_neg (by omega)]
    by_cases h : d = c
    · subst h
      rw [if_pos rfl, readNode_re, bm_upd_same hs]
      exact ⟨1, by omega, by omega, a1⟩
    · rw [if_neg (by omega), bm_upd_other (c := (c : Int)) (d := (d : Int)) (by omega) (by rw [hown]; omega)]
      exact I.node d hd
  · rw [hget _ (by omega), if_neg (by omega), if_neg (by omega)]
    exact I.page t ht i i0 i1 hb
  · rw [hget _ (by omega), if_neg (by omega), if_neg (by omega)]
    exact I.gen t ht i i0 i1
end
end Go.Sx

/- The new heap is in order. -/
set_option linter.unusedVariables false
set_option linter.unusedSimpArgs false
namespace Go.Sx
open Go.RowKit
def newPage (i : Nat) : Page := (96 + (i : Int), 256, List.replicate 7 0, ())
def newPages (m : Nat) : List Page := (List.range m).map newPage
abbrev Cur : Type := Int × Int × Int × Unit
def cur0 : Cur := (1, 0, 1, ())
theorem qf4_eq (m : Nat) (hm : m ≤ 900) : qf4 (96 + (m : Int)) = some (96 + (m : Int), 0, cur0, newPages m) := by
  unfold qf4
  have key : qf4L1 (96 + (m : Int)) 96 (96 + (m : Int)) 0 cur0 [] = some (96 + (m : Int), 0, cur0, newPages m) := by
    refine iter_for (body := qf4L1B) (fun i => (96 + (m : Int), 96 + (i : Int), 96 + (m : Int), (0 : Int), cur0, newPages i)) m _ (fun i hi => ?_) ?_ 0 (Nat.zero_le _)
    · show qf4L1b (96 + (m : Int)) (96 + (i : Int)) (96 + (m : Int)) 0 cur0 (newPages i) = _
      unfold qf4L1b
      have e1 : decide (96 + (i : Int) < 96 + (m : Int)) = true := by simp; omega
      have e2 : decide ((newPages i).length + 1 ≤ lim) = true := by
        have hl : lim = 2147483648 := rfl
        simp [newPages]; omega
      have e3 : IntKind.wrap .i64 (96 + (i : Int) + 1) = 96 + ((i + 1 : Nat) : Int) := by rw [i64w (by omega) (by omega)]; omega
      have e4 : newPages (i + 1) = newPages i ++ [(96 + (i : Int), 256, List.replicate 7 0, ())] := by
        unfold newPages
        rw [List.range_succ, List.map_append]; rfl
      simp only [e1, e2, e3, cond_true]
      rw [e4]
    · show qf4L1b (96 + (m : Int)) (96 + (m : Int)) (96 + (m : Int)) 0 cur0 (newPages m) = _
      unfold qf4L1b
      simp
  have key' : qf4L1 (96 + (m : Int)) (96 : Int) (96 + (m : Int)) (0 : Int) ((1 : Int), ((0 : Int), ((1 : Int), ()))) [] = _ := key
  rw [key']; rfl
theorem newPages_len (m : Nat) : (newPages m).length = m := by simp [newPages]
theorem newPages_at {m i : Nat} (h : i < m) : pAt (newPages m) i = newPage i := by
  rw [pAt_get (by rw [newPages_len]; exact h)]
  simp [newPages]
theorem bm_none (c : Nat) : ∀ n, bm (fun _ => -1) (c : Int) n = 0
  | 0 => rfl
  | n + 1 => by
    unfold bm
    rw [if_neg (by omega)]
    exact bm_none c n
theorem inv_new (n : Nat) (n0 : 1 ≤ n) (n1 : n ≤ 5) : Inv n (newPages (8 + 16 * n)) (fun _ => -1) (fun _ => 0) 0 := by
  have hl := newPages_len (8 + 16 * n)
  refine ⟨⟨hl, fun i hi => ?_, fun p hp => ?_, fun p hp => ?_⟩, n0, n1, fun s _ => .inl rfl, fun s _ => ⟨by omega, by simp⟩, fun s hs => ?_, fun c hc => ⟨0, by omega, by omega, ?_⟩, fun s hs i i0 i1 _ => ?_, fun s hs i i0 i1 => ?_⟩
  · simp [newPages, newPage]
  · obtain ⟨i, hi, rfl⟩ := List.mem_map.1 hp
    have := List.mem_range.1 hi
    refine ⟨wf_i64_mk (n := 96 + (i : Int)) (by omega) (by omega), wf_u64_mk (n := 256) (by omega) (by omega), ⟨by simp [newPage], fun x hx => ?_⟩, trivial⟩
    have := List.eq_of_mem_replicate hx
    subst this
    exact wf_u64_mk (n := 0) (by omega) (by omega)
  · obtain ⟨i, hi, rfl⟩ := List.mem_map.1 hp
    rfl
  · rw [newPages_at (by omega)]
    unfold readHead newPage
    have : isHdr (96 + ((8 + 16 * s : Nat) : Int)) = true := by unfold isHdr; simp; omega
    simp only [this]
    rfl
  · rw [newPages_at (by omega), bm_none]
    unfold readNode newPage
    have : isOwnL (96 + ((2 + c : Nat) : Int)) = true := by unfold isOwnL; simp; omega
    simp only [this]
    rfl
  · rw [newPages_at (by omega)]; rfl
  · rw [newPages_at (by omega)]; exact Int.le_refl 0
end Go.Sx

/- Allocation on heaps in order. -/
set_option linter.unusedVariables false
set_option linter.unusedSimpArgs false
namespace Go.Sx
open Go.RowKit
section
variable {n : Nat} {P : List Page} {own : Nat → Int} {U : Nat → Nat} {G : Int}
def Ui (U : Nat → Nat) (s : Int) : Nat := U s.toNat
def pgOf (P : List Page) (s : Int) (i : Nat) : Page := pAt P (8 + 16 * s.toNat + i)
def hpOf (P : List Page) (s : Int) : Page := pAt P (8 + 16 * s.toNat)
def srcOf (n : Nat) (own : Nat → Int) (U : Nat → Nat) (c count : Nat) : List Int := sources count (Ui U) (ownedL (bm own c n : Nat) n)
def dataOf (n : Nat) (own : Nat → Int) (U : Nat → Nat) (c count : Nat) : List (Int × List Nat × Nat) := fillAll count (Ui U) (srcOf n own U c count) 0
theorem owned_bm {c : Nat} {s : Int} : s ∈ ownedL (bm own c n : Nat) n ↔ ∃ t : Nat, s = t ∧ t < n ∧ own t = c := by
  rw [owned_mem]
  constructor
  · rintro ⟨h0, h1, h2⟩
    refine ⟨s.toNat, by omega, by omega, ?_⟩
    have := (bit_nat (bm own c n) s.toNat).1 h2
    rw [bm_bit] at this
    simp at this
    exact this.2
  · rintro ⟨t, rfl, h1, h2⟩
    refine ⟨by omega, by omega, ?_⟩
    rw [Int.toNat_natCast]
    refine (bit_nat (bm own c n) t).2 ?_
    rw [bm_bit]
    simp [h1, h2]
theorem Inv.alloc (I : Inv n P own U G) (hG : G < 16777215) {c count : Nat} (hc : c ≤ 5) (k0 : 1 ≤ count) (k1 : count ≤ 12) :
    qf53 ((c : Int), 104 + 16 * (n : Int), (count : Int), ()) P = some (if total (dataOf n own U c count) < count then ([], [], [], 12, true)
      else ([], pagesOf (pgOf P) (dataOf n own U c count), writesOf (hpOf P) c (dataOf n own U c count), 0, true)) := by
  have hn5 := I.n1
  have hlen := I.hp.len
  have hm : maxLen = 9223372036854775807 := by decide
  obtain ⟨inc, i0, i1, hnd⟩ := I.node c hc
  have hcnt : cnt (104 + 16 * (n : Int)) = (n : Int) := by have := I.n0; unfold cnt; rw [if_pos (by omega)]; omega
  have hnode := I.hp.node hc (by omega)
  rw [← pAt_get (by omega : 2 + c < P.length), hnd] at hnode
  have hB := bm_lt9 (own := own) hn5 (c : Int)
  exact allocate_eq P I.hp.wf (by omega) (c : Int) (104 + 16 * (n : Int)) count (by omega) (by omega) (by omega) (by omega) k0 k1 (pAt P (2 + c)) (nodeV (bm own c n) inc) hnode (by show (0 : Int) ≤ ((bm own c n : Nat) : Int); omega) (by show ((bm own c n : Nat) : Int) ≤ _; omega) n hcnt (Ui U) (hpOf P) (pgOf P)
    (fun s hs => by
      obtain ⟨t, rfl, ht, ho⟩ := owned_bm.1 hs
      have hh := I.hp.header ht (by omega) (by omega)
      rw [← pAt_get (by omega : 8 + 16 * t < P.length), I.hdr t ht, ho] at hh
      refine ⟨by simpa [Ui] using (I.ub t ht).1, by simpa [Ui, hpOf] using hh, fun i j0 j1 hb => ?_⟩
      have hb : (U t).testBit i = false := by simpa [Ui] using hb
      have hlt : 8 + 16 * t + i < P.length := by omega
      have hl : hdr20 (t : Int) + (i : Int) = 96 + ((8 + 16 * t + i : Nat) : Int) := by unfold hdr20; rw [if_pos (by omega)]; omega
      have e : pgOf P (t : Int) i = P[8 + 16 * t + i] := by unfold pgOf; rw [Int.toNat_natCast, pAt_get hlt]
      refine ⟨by rw [I.hp.latest hlt hl, e], ?_⟩
      have e2 : pgOf P (t : Int) i = pAt P (8 + 16 * t + i) := by unfold pgOf; rw [Int.toNat_natCast]
      refine ⟨?_, ?_, ?_, ?_⟩
      · rw [e]; exact I.hp.wf _ (List.getElem_mem _)
      · rw [e]; exact I.hp.free _ (List.getElem_mem _)
      · rw [e2]; exact I.page t ht i j0 j1 hb
      · rw [e2]; have := I.gen t ht i j0 j1; omega)
end
end Go.Sx

/- SegmentWhole: all segments are taken. -/
set_option linter.unusedVariables false
set_option linter.unusedSimpArgs false
namespace Go.Sx
open Go.RowKit
end Go.Sx

/- Heaps in order stay so: a header or a page is written. -/
set_option linter.unusedVariables false
set_option linter.unusedSimpArgs false
namespace Go.Sx
open Go.RowKit
section
variable {n : Nat} {P : List Page} {own : Nat → Int} {U : Nat → Nat} {G : Int}
theorem Inv.mono (I : Inv n P own U G) {G' : Int} (h : G ≤ G') : Inv n P own U G' :=
  { I with gen := fun s hs i i0 i1 => by have := I.gen s hs i i0 i1; omega }
end
end Go.Sx

/- Heaps in order stay so: the headers of an allocation are written. -/
set_option linter.unusedVariables false
set_option linter.unusedSimpArgs false
namespace Go.Sx
open Go.RowKit
end Go.Sx

/- SegmentWhole: the pages that were found are allocated. -/
set_option linter.unusedVariables false
set_option linter.unusedSimpArgs false
namespace Go.Sx
open Go.RowKit
theorem wf_withTag {p : Page} (h : Wf TPage p) {k g x : Int} (hk0 : 0 ≤ k) (hk1 : k ≤ 255) (hg0 : 0 ≤ g) (hg1 : g ≤ 16777215) (hx0 : 0 ≤ x) (hx1 : x ≤ 4294967295) : Wf TPage (withTag p k g x) := by
  refine ⟨h.1, h.2.1, ⟨rfl, fun y hy => ?_⟩, trivial⟩
  simp only [withTag, List.mem_cons, List.not_mem_nil, or_false] at hy
  rcases hy with rfl | rfl | rfl | rfl | rfl | rfl | rfl
  · exact wf_u64_mk (n := k + 256 * g + 4294967296 * x) (by omega) (by omega)
  all_goals exact wf_u64_mk (n := 0) (by omega) (by omega)
end Go.Sx

/- SegmentWhole: counting. -/
set_option linter.unusedVariables false
set_option linter.unusedSimpArgs false
namespace Go.Sx
open Go.RowKit
end Go.Sx

/- SegmentWhole: counting over all segments. -/
set_option linter.unusedVariables false
set_option linter.unusedSimpArgs false
namespace Go.Sx
open Go.RowKit
end Go.Sx

/- SegmentWhole: one round of allocation. -/
set_option linter.unusedVariables false
set_option linter.unusedSimpArgs false
namespace Go.Sx
open Go.RowKit
section
variable {n : Nat} {P : List Page} {own : Nat → Int} {U : Nat → Nat} {G : Int} {c count : Nat}
end
end Go.Sx

/- SegmentWhole: the pages that a round finds. -/
set_option linter.unusedVariables false
set_option linter.unusedSimpArgs false
namespace Go.Sx
open Go.RowKit
end Go.Sx

