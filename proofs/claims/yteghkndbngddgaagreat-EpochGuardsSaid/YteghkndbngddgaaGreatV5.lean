/- V5: printed by a program of this session: the functions of the seat as plain functions, and that the code comes to them. -/
import Derived.Test.YteghkndbngddgaaGreatW2
import Derived.Test.YteghkndbngddgaaGreatA2
import Derived.Test.YteghkndbngddgaaGreatW1
import Derived.Test.YteghkndbngddgaaGreatT24
/- Freeing pages of one segment, plainly. -/
set_option linter.unusedVariables false
set_option linter.unusedSimpArgs false
namespace Go.Sx
open Go.RowKit
def clrB (u i : Nat) : Nat := u &&& (2 ^ 32 - 1 - 2 ^ i)
def clrS (u : Nat) (ks : List Nat) : Nat := ks.foldl clrB u
theorem pow16 {i : Nat} (hi : i < 16) : 2 ^ i < 65536 := by
  have : 2 ^ i < 2 ^ 16 := Nat.pow_lt_pow_right (by omega) hi
  have h2 : (2 : Nat) ^ 16 = 65536 := by decide
  omega
theorem clrB_le (u i : Nat) : clrB u i ≤ u := Nat.and_le_left
theorem testBit_clrB (u i j : Nat) (hu : u < 65536) (hi : i < 16) : (clrB u i).testBit j = (u.testBit j && !decide (i = j)) := by
  have h16 := pow16 hi
  unfold clrB
  rw [Nat.testBit_and]
  by_cases hj : j < 32
  · have e : 2 ^ 32 - 1 - 2 ^ i = 2 ^ 32 - (2 ^ i + 1) := by omega
    rw [e, Nat.testBit_two_pow_sub_succ (by have : (2 : Nat) ^ 32 = 4294967296 := by decide
                                            omega), Nat.testBit_two_pow]
    simp [hj]
  · have : u.testBit j = false := Nat.testBit_lt_two_pow (by
      have : 2 ^ 16 ≤ 2 ^ j := Nat.pow_le_pow_right (by omega) (by omega)
      have h2 : (2 : Nat) ^ 16 = 65536 := by decide
      omega)
    simp [this]
theorem clear_bit (u i : Nat) (hu : u < 65536) (hi : i < 16) : IntKind.wrap .u32 ((BitVec.ofInt (IntKind.bits .u32) (u : Int) &&& ~~~ BitVec.ofInt (IntKind.bits .u32) (shiftL .u32 (1 : Int) (i : Int))).toNat : Int) = ((clrB u i : Nat) : Int) := by
  have hb : IntKind.bits .u32 = 32 := rfl
  have h16 := pow16 hi
  have hle := clrB_le u i
  have e : shiftL .u32 (1 : Int) (i : Int) = ((2 ^ i : Nat) : Int) := by
    have e1 : shiftL .u32 (1 : Int) (i : Int) = IntKind.wrap .u32 (1 * 2 ^ i) := by
      unfold shiftL
      rw [show min (Int.toNat (i : Int)) (IntKind.bits .u32) = i by simp [IntKind.bits]; omega]
    have e2 : (2 : Int) ^ i = ((2 ^ i : Nat) : Int) := by simp
    rw [e1, Int.one_mul, e2]
    generalize 2 ^ i = q at h16
    exact u32w (by omega) (by omega)
  unfold clrB at hle ⊢
  rw [e]
  generalize 2 ^ i = q at h16 hle
  rw [hb, bits_andNot (by omega) (by omega) (by omega) (by omega), Int.toNat_natCast, Int.toNat_natCast]
  exact u32w (by omega) (by omega)
theorem clrS_lt : ∀ (ks : List Nat) (u : Nat), u < 65536 → clrS u ks < 65536
  | [], u, h => h
  | k :: ks, u, h => by
    have := clrB_le u k
    exact clrS_lt ks (clrB u k) (by omega)
theorem testBit_clrS : ∀ (ks : List Nat) (u j : Nat), u < 65536 → (∀ k ∈ ks, k < 16) → (clrS u ks).testBit j = (u.testBit j && !decide (j ∈ ks))
  | [], u, j, h, _ => by simp [clrS]
  | k :: ks, u, j, h, hk => by
    have h1 := clrB_le u k
    have ih := testBit_clrS ks (clrB u k) j (by omega) fun x hx => hk x (by simp [hx])
    have e : clrS u (k :: ks) = clrS (clrB u k) ks := rfl
    rw [e, ih, testBit_clrB u k j h (hk k (by simp))]
    by_cases e1 : k = j
    · subst e1; simp
    · have e2 : ¬ j = k := fun e => e1 e.symm
      simp [e1, e2]
theorem indexFunc_none (l : List Ptr) (p : Ptr) (hl : l.length ≤ 1000) (h : ∀ q ∈ l, q.1 ≠ p.1) : qf82 l p = some (false, p) := by
  have key : qf81L1 l (l.length : Int) (0 : Int) p = some (.inl p) := by
    refine iter_for (body := qf81L1B) (fun i => (l, (l.length : Int), (i : Int), p)) l.length (.inl p) (fun i hi => ?_) ?_ 0 (Nat.zero_le _)
    · show qf81L1b l l.length i p = _
      unfold qf81L1b qf80
      have e1 : decide ((i : Int) < (l.length : Int)) = true := by simp; omega
      have e4 : IntKind.wrap .i64 ((i : Int) + 1) = ((i + 1 : Nat) : Int) := by rw [i64w (by omega) (by omega)]; simp
      have e6 : ∀ d, List.getD l (Int.toNat (i : Int)) d = l[i] := fun d => by simp [List.getD, hi]
      have e7 : decide ((l[i]).1 = p.1) = false := by simpa using h _ (List.getElem_mem hi)
      simp only [e1, inR_nat hi, e4, e6, cond_true, Option.bind_some, e7, cond_false]
    · show qf81L1b l l.length l.length p = _
      unfold qf81L1b
      simp
  unfold qf82 qf81
  rw [key]
  rfl
def ptrOf (P : List Page) (t k : Nat) : Ptr := (104 + 16 * (t : Int) + k, (ptag (pAt P (8 + 16 * t + k))).2.1, ())
def relOf (P : List Page) (t k : Nat) : Page := withTag (pAt P (8 + 16 * t + k)) 0 (ptag (pAt P (8 + 16 * t + k))).2.1 0
def hdrOf (P : List Page) (t : Nat) (o : Int) (u : Nat) : Page := (writeHead (pAt P (8 + 16 * t)) (o, (u : Int), ())).1
structure FreeOk (n : Nat) (P : List Page) (t : Nat) (o : Int) (u : Nat) (ks : List Nat) : Prop where
  hp : Heap n P
  n0 : 1 ≤ n
  n1 : n ≤ 5
  ht : t < n
  o0 : 0 ≤ o
  o1 : o ≤ 5
  hu : u < 65536
  u0 : u.testBit 0 = false
  hd : readHead (pAt P (8 + 16 * t)) = ((o, (u : Int), ()), 0)
  k0 : 1 ≤ ks.length
  k1 : ks.length ≤ 3
  nd : ks.Nodup
  hk : ∀ k ∈ ks, 1 ≤ k ∧ k < 16 ∧ u.testBit k = true ∧ (ptag (pAt P (8 + 16 * t + k))).1 ≠ 0 ∧ 1 ≤ (ptag (pAt P (8 + 16 * t + k))).2.1
section
variable {n : Nat} {P : List Page} {t : Nat} {o : Int} {u : Nat} {ks : List Nat}
theorem loc_at (F : FreeOk n P t o u ks) {k : Nat} (hk : k ∈ ks) : qf79 (104 + 16 * (n : Int)) (104 + 16 * (t : Int) + k) = some ((t : Int), (k : Int), true) := by
  obtain ⟨h0, h1, _⟩ := F.hk k hk
  have := F.n1; have := F.ht
  have hcnt : cnt (104 + 16 * (n : Int)) = (n : Int) := by unfold cnt; rw [if_pos (by omega)]; omega
  rw [qf79_eq _ _ (by omega)]
  unfold loc
  rw [hcnt, if_pos (by omega)]
  have e1 : (104 + 16 * (t : Int) + k - 104) / 16 = t := by omega
  have e2 : (104 + 16 * (t : Int) + k - 104) % 16 = k := by omega
  rw [e1, e2]
theorem valid_at (F : FreeOk n P t o u ks) {k : Nat} (hk : k ∈ ks) : validP (ptrOf P t k) = true := by
  obtain ⟨h0, h1, _, _, h4⟩ := F.hk k hk
  have := F.n1; have := F.ht
  unfold validP ptrOf
  have hg : (ptag (pAt P (8 + 16 * t + k))).2.1 ≤ 16777215 := by unfold ptag tagOf; simp only; omega
  simp only [decide_eq_true_eq]
  omega
theorem lat_at (F : FreeOk n P t o u ks) {k : Nat} (hk : k < 16) : latest P (104 + 16 * (t : Int) + k) = some (pAt P (8 + 16 * t + k)) := by
  have := F.n1; have := F.ht; have hl := F.hp.len
  have hlt : 8 + 16 * t + k < P.length := by omega
  rw [F.hp.latest hlt (by omega), pAt_get hlt]
theorem free_L1 (F : FreeOk n P t o u ks) : qf84L1 (104 + 16 * (n : Int)) (ks.map (ptrOf P t)) P (ks.map (ptrOf P t)) (((ks.map (ptrOf P t)).length : Nat) : Int) (0 : Int) [] =
    some (.inl (104 + 16 * (n : Int), ks.map (ptrOf P t), P, ks.flatMap fun k : Nat => [104 + 16 * (t : Int) + (k : Int), 104 + 16 * (t : Int)])) := by
  have hn := F.n1; have ht := F.ht; have k1 := F.k1
  have hlen : (ks.map (ptrOf P t)).length = ks.length := by simp
  have hl2 : ∀ l : List Nat, (l.flatMap fun k : Nat => [104 + 16 * (t : Int) + (k : Int), 104 + 16 * (t : Int)]).length = 2 * l.length := by
    intro l
    induction l with
    | nil => rfl
    | cons a l ih => simp only [List.flatMap_cons, List.length_append, ih, List.length_cons, List.length_nil]; omega
  refine iter_for (body := qf84L1B) (fun i => (104 + 16 * (n : Int), ks.map (ptrOf P t), P, ks.map (ptrOf P t), (((ks.map (ptrOf P t)).length : Nat) : Int), (i : Int), (ks.take i).flatMap fun k : Nat => [104 + 16 * (t : Int) + (k : Int), 104 + 16 * (t : Int)])) (ks.map (ptrOf P t)).length _ (fun i hi => ?_) ?_ 0 (Nat.zero_le _)
  · show qf84L1b _ _ _ _ _ _ _ = _
    have hi' : i < ks.length := by simpa using hi
    have hm := List.getElem_mem hi'
    unfold qf84L1b
    have e1 : decide ((i : Int) < (((ks.map (ptrOf P t)).length : Nat) : Int)) = true := by simp; omega
    have e4 : IntKind.wrap .i64 ((i : Int) + 1) = ((i + 1 : Nat) : Int) := by rw [i64w (by omega) (by omega)]; simp
    have e6 : ∀ d, List.getD (ks.map (ptrOf P t)) (Int.toNat (i : Int)) d = ptrOf P t ks[i] := fun d => by simp [List.getD, hi']
    have e7 : (ptrOf P t ks[i]).1 = 104 + 16 * (t : Int) + ((ks[i] : Nat) : Int) := rfl
    have e8 : (decide ((0 : Int) ≤ (i : Int)) && decide ((i : Int) ≤ (((ks.map (ptrOf P t)).length : Nat) : Int))) = true := by simp; omega
    have e9 : qf82 (List.drop 0 (List.take (Int.toNat (i : Int)) (ks.map (ptrOf P t)))) (ptrOf P t ks[i]) = some (false, ptrOf P t ks[i]) := by
      rw [List.drop_zero, Int.toNat_natCast]
      refine indexFunc_none _ _ (by simp; omega) fun q hq => ?_
      rw [← List.map_take] at hq
      obtain ⟨k, hk, rfl⟩ := List.mem_map.1 hq
      have hne : k ≠ ks[i] := fun e => by
        obtain ⟨j, hj, rfl⟩ := List.mem_take_iff_getElem.1 hk
        exact List.pairwise_iff_getElem.1 F.nd j i (by omega) hi' (by omega) e
      unfold ptrOf
      simp only [ne_eq]
      omega
    have e10 : qf27 ((t : Nat) : Int) = some (104 + 16 * (t : Int)) := by
      rw [qf27_eq]; unfold hdr20; rw [if_pos (by omega)]
    have e11 : decide ((((ks.take i).flatMap fun k : Nat => [104 + 16 * (t : Int) + (k : Int), 104 + 16 * (t : Int)]).length) + 2 ≤ lim) = true := by
      have hlm : lim = 2147483648 := rfl
      rw [hl2]; simp; omega
    have e12 : (ks.take (i + 1)).flatMap (fun k : Nat => [104 + 16 * (t : Int) + (k : Int), 104 + 16 * (t : Int)]) = (ks.take i).flatMap (fun k : Nat => [104 + 16 * (t : Int) + (k : Int), 104 + 16 * (t : Int)]) ++ [104 + 16 * (t : Int) + ((ks[i] : Nat) : Int), 104 + 16 * (t : Int)] := by
      rw [List.take_add_one, List.getElem?_eq_getElem hi', List.flatMap_append]; rfl
    simp only [e1, inR_nat hi, e4, e6, e7, loc_at F hm, e8, e9, qf21_eq, valid_at F hm, e10, e11, e12, cond_true, cond_false, Bool.not_true, Option.bind_some]
    try rfl
  · show qf84L1b _ _ _ _ _ _ _ = _
    unfold qf84L1b
    have : ks.take (ks.map (ptrOf P t)).length = ks := by simp
    simp
def pmOf (P : List Page) (t : Nat) (ks : List Nat) : List (Int × Page) := if ks.isEmpty then [] else [((t : Int), pAt P (8 + 16 * t))]
def hmOf (t : Nat) (o : Int) (u : Nat) (ks : List Nat) : List (Int × Head) := if ks.isEmpty then [] else [((t : Int), (o, (clrS u ks : Int), ()))]
theorem take_isEmpty {ks : List Nat} {i : Nat} (hi : i < ks.length) : (ks.take i).isEmpty = decide (i = 0) := by
  cases i with
  | zero => rfl
  | succ i =>
    cases ks with
    | nil => simp at hi
    | cons a l => simp
theorem clrS_take {ks : List Nat} {u i : Nat} (hi : i < ks.length) : clrS u (ks.take (i + 1)) = clrB (clrS u (ks.take i)) ks[i] := by
  rw [List.take_add_one, List.getElem?_eq_getElem hi]
  unfold clrS
  rw [List.foldl_append]; rfl
theorem free_L2 (F : FreeOk n P t o u ks) : qf84L2 (104 + 16 * (n : Int)) P (ks.map (ptrOf P t)) (((ks.map (ptrOf P t)).length : Nat) : Int) (0 : Int) [] [] [] =
    some (.inl (ks.map (relOf P t), pmOf P t ks, hmOf t o u ks)) := by
  have hn := F.n1; have ht := F.ht; have k1 := F.k1; have hPl := F.hp.len; have hn0 := F.n0
  have hm : maxLen = 9223372036854775807 := by decide
  refine iter_for (body := qf84L2B) (fun i => (104 + 16 * (n : Int), P, ks.map (ptrOf P t), (((ks.map (ptrOf P t)).length : Nat) : Int), (i : Int), (ks.take i).map (relOf P t), pmOf P t (ks.take i), hmOf t o u (ks.take i))) (ks.map (ptrOf P t)).length _ (fun i hi => ?_) ?_ 0 (Nat.zero_le _)
  · show qf84L2b _ _ _ _ _ _ _ _ = _
    have hi' : i < ks.length := by simpa using hi
    have hm' := List.getElem_mem hi'
    obtain ⟨h0, h1, h2, h3, h4⟩ := F.hk _ hm'
    have hlt : 8 + 16 * t + ks[i] < P.length := by omega
    have hwf : Wf TPage (pAt P (8 + 16 * t + ks[i])) := by rw [pAt_get hlt]; exact F.hp.wf _ (List.getElem_mem _)
    have hlk : lockedB (pAt P (8 + 16 * t + ks[i])) = false := by rw [pAt_get hlt]; exact F.hp.free _ (List.getElem_mem _)
    have hln : (pAt P (8 + 16 * t + ks[i])).1 = 96 + ((8 + 16 * t + ks[i] : Nat) : Int) := by rw [pAt_get hlt]; exact F.hp.line _ _
    unfold qf84L2b
    have e1 : decide ((i : Int) < (((ks.map (ptrOf P t)).length : Nat) : Int)) = true := by simp; omega
    have e4 : IntKind.wrap .i64 ((i : Int) + 1) = ((i + 1 : Nat) : Int) := by rw [i64w (by omega) (by omega)]; simp
    have e6 : ∀ d, List.getD (ks.map (ptrOf P t)) (Int.toNat (i : Int)) d = ptrOf P t ks[i] := fun d => by simp [List.getD, hi']
    have e7 : (ptrOf P t ks[i]).1 = 104 + 16 * (t : Int) + ((ks[i] : Nat) : Int) := rfl
    have e7b : (ptrOf P t ks[i]).2.1 = (ptag (pAt P (8 + 16 * t + ks[i]))).2.1 := rfl
    have e8 : qf7 P (104 + 16 * (t : Int) + ((ks[i] : Nat) : Int)) = some (pAt P (8 + 16 * t + ks[i]), true) := by
      rw [qf7_eq P _ (by omega), lat_at F h1]; rfl
    have w0 := wf_word hwf 0
    have e9 : qf52 (List.getD (pAt P (8 + 16 * t + ks[i])).2.2.1 0 (0 : Int)) = some (ptag (pAt P (8 + 16 * t + ks[i]))) := qf52_eq _ w0.1 w0.2
    have e10 := qf17_eq _ hwf
    rw [hlk] at e10
    have e11 : decide ((ptag (pAt P (8 + 16 * t + ks[i]))).1 = 0) = false := by simpa using h3
    have e12 : qf35 P (t : Int) = some (pAt P (8 + 16 * t), (o, (u : Int), ()), true, 0) := by
      have := F.hp.header ht (by omega) (by omega)
      rw [qf35_eq P F.hp.wf (by omega), this, ← pAt_get (by omega : 8 + 16 * t < P.length), F.hd]
    have u1 : IntKind.wrap .u64 ((ks[i] : Nat) : Int) = ((ks[i] : Nat) : Int) := u64w (by omega) (by omega)
    have u2 : decide ((0 : Int) ≤ ((ks[i] : Nat) : Int)) = true := by simp
    have hu := F.hu
    have u3 := bit_u32 (b := (u : Int)) (by omega) (by omega) ks[i] (by omega)
    have u4 : decide ((u : Int) / 2 ^ ks[i] % 2 = 0) = false := by
      have := (bit_nat u ks[i]).2 h2
      rw [this]; rfl
    have e13 := qf83_eq _ hwf (by omega) (by omega) hlk h3
    have hlm : lim = 2147483648 := rfl
    have e14 : decide (((ks.take i).map (relOf P t)).length + 1 ≤ lim) = true := by simp; omega
    have e15 : (ks.take (i + 1)).map (relOf P t) = (ks.take i).map (relOf P t) ++ [withTag (pAt P (8 + 16 * t + ks[i])) 0 (ptag (pAt P (8 + 16 * t + ks[i]))).2.1 0] := by
      rw [List.take_add_one, List.getElem?_eq_getElem hi', List.map_append]; rfl
    have hcl := clrS_lt (ks.take i) u hu
    have e16 := clear_bit (clrS u (ks.take i)) ks[i] hcl h1
    have e16b := clear_bit u ks[i] hu h1
    have hne : (ks.take (i + 1)).isEmpty = false := by
      cases hk : ks.take (i + 1) with
      | nil => simp at hk; rw [hk] at hi'; simp at hi'
      | cons => rfl
    simp only [e1, inR_nat hi, e4, e6, e7, e7b, loc_at F hm', e8, e9, e10, e11, decide_true, e12, u1, u2, u3, u4, cond_true, cond_false, Bool.not_true, Option.bind_some, e13, e14, e15]
    by_cases hz : i = 0
    · subst hz
      have a1 : pmOf P t (ks.take 0) = [] := rfl
      have a2 : hmOf t o u (ks.take 0) = [] := rfl
      have a3 : pmOf P t (ks.take (0 + 1)) = [((t : Int), pAt P (8 + 16 * t))] := by unfold pmOf; rw [hne]; rfl
      have a4 : hmOf t o u (ks.take (0 + 1)) = [((t : Int), (o, ((clrB u ks[0] : Nat) : Int), ()))] := by unfold hmOf; rw [hne, clrS_take hi']; rfl
      rw [a1, a2, a3, a4]
      simp only [lookV, Option.isSome_none, cond_false, e16b, upsV]
    · have hne2 : (ks.take i).isEmpty = false := by rw [take_isEmpty hi']; simpa using hz
      have a1 : pmOf P t (ks.take i) = [((t : Int), pAt P (8 + 16 * t))] := by unfold pmOf; rw [hne2]; rfl
      have a2 : hmOf t o u (ks.take i) = [((t : Int), (o, ((clrS u (ks.take i) : Nat) : Int), ()))] := by unfold hmOf; rw [hne2]; rfl
      have a3 : pmOf P t (ks.take (i + 1)) = [((t : Int), pAt P (8 + 16 * t))] := by unfold pmOf; rw [hne]; rfl
      have a4 : hmOf t o u (ks.take (i + 1)) = [((t : Int), (o, ((clrB (clrS u (ks.take i)) ks[i] : Nat) : Int), ()))] := by unfold hmOf; rw [hne, clrS_take hi']; rfl
      rw [a1, a2, a3, a4]
      have q1 : ∀ {α : Type} (v : α), lookV [((t : Int), v)] (t : Int) = some v := fun v => by simp [lookV]
      have q2 : ∀ {α : Type} (v w : α), upsV [((t : Int), v)] (t : Int) w = [((t : Int), w)] := fun v w => by simp [upsV]
      simp only [q1, q2, Option.isSome_some, Option.getD_some, cond_true, e16]
  · show qf84L2b _ _ _ _ _ _ _ _ = _
    unfold qf84L2b
    have : ks.take (ks.map (ptrOf P t)).length = ks := by simp
    simp
theorem free_eq (F : FreeOk n P t o u ks) : qf84 (104 + 16 * (n : Int)) (ks.map (ptrOf P t)) P = some ([], isort (ks.map (relOf P t) ++ [hdrOf P t o (clrS u ks)]), 0, true) := by
  have hn := F.n1; have ht := F.ht; have k1 := F.k1; have hPl := F.hp.len; have hn0 := F.n0; have k0 := F.k0
  have hm : maxLen = 9223372036854775807 := by decide
  have e1 : qf6 (104 + 16 * (n : Int)) = some true := by rw [qf6_eq]; simp; omega
  have e2 : decide ((((ks.map (ptrOf P t)).length : Nat) : Int) < 1) = false := by simp; omega
  have e3 : decide ((3 : Int) < (((ks.map (ptrOf P t)).length : Nat) : Int)) = false := by simp; omega
  have hl2 : ∀ l : List Nat, (l.flatMap fun k : Nat => [104 + 16 * (t : Int) + (k : Int), 104 + 16 * (t : Int)]).length = 2 * l.length := by
    intro l
    induction l with
    | nil => rfl
    | cons a l ih => simp only [List.flatMap_cons, List.length_append, ih, List.length_cons, List.length_nil]; omega
  have e4 : qf16 P (ks.flatMap fun k : Nat => [104 + 16 * (t : Int) + (k : Int), 104 + 16 * (t : Int)]) = some [] := qf16_none P (by omega) _ (by rw [hl2]; omega) fun l hl => by
    obtain ⟨k, hk, hl⟩ := List.mem_flatMap.1 hl
    obtain ⟨h0, h1, _⟩ := F.hk k hk
    simp only [List.mem_cons, List.not_mem_nil, or_false] at hl
    rcases hl with rfl | rfl
    · rw [lat_at F h1]; rfl
    · have := lat_at F (k := 0) (by omega)
      simp only [Int.natCast_zero, Int.add_zero, Int.ofNat_zero] at this
      have h2 : latest P (104 + 16 * (t : Int)) = _ := this
      rw [h2]; rfl
  have e5 : decide ((0 : Int) < ((([] : List Int).length : Nat) : Int)) = false := by decide
  have hne : ks.isEmpty = false := by
    cases hk : ks with
    | nil => rw [hk] at k0; simp at k0
    | cons => rfl
  have a1 : pmOf P t ks = [((t : Int), pAt P (8 + 16 * t))] := by unfold pmOf; rw [hne]; rfl
  have a2 : hmOf t o u ks = [((t : Int), (o, (clrS u ks : Int), ()))] := by unfold hmOf; rw [hne]; rfl
  have hcl := clrS_lt ks u F.hu
  have e6 := qf39_eq (pAt P (8 + 16 * t)) (o, (clrS u ks : Int), ()) (wf_headv F.o0 F.o1 hcl)
  have hlm : lim = 2147483648 := rfl
  have e7 : decide ((ks.map (relOf P t)).length + 1 ≤ lim) = true := by simp; omega
  have e8 : rfold (fun y => (qf84L3_es y).length) qf84L3_n qf84L3_seen qf84L3B (ks.map (relOf P t), pmOf P t ks, ((((hmOf t o u ks).length : Nat) : Int), ([] : List Int)), hmOf t o u ks) [0] =
      some (ks.map (relOf P t) ++ [hdrOf P t o (clrS u ks)], pmOf P t ks, ((((hmOf t o u ks).length : Nat) : Int), [0]), hmOf t o u ks) := by
    have hb : qf84L3B (ks.map (relOf P t), pmOf P t ks, ((((hmOf t o u ks).length : Nat) : Int), ([] : List Int)), hmOf t o u ks) 0 = some (ks.map (relOf P t) ++ [hdrOf P t o (clrS u ks)], pmOf P t ks, ((((hmOf t o u ks).length : Nat) : Int), [0]), hmOf t o u ks) := by
      show qf84L3b _ _ _ _ 0 = _
      unfold qf84L3b
      rw [a1, a2]
      simp only [decide_true, cond_true, Int.toNat_zero, List.getElem?_cons_zero, Option.bind_some, lookV, if_true, Option.getD_some, e6, e7]
      rfl
    simp only [rfold, hb, Option.bind_some]
    simp [qf84L3_n, qf84L3_seen, qf84L3_es]
  have e9 := ascending_eq (ks.map (relOf P t) ++ [hdrOf P t o (clrS u ks)]) (by simp; omega)
  unfold qf84
  simp only [e1, e2, e3, Option.bind_some, Bool.not_true, cond_false, free_L1 F, e4, e5, free_L2 F]
  refine demO_of ⟨_, List.Perm.refl _⟩ fun p hp => ?_
  have hidx : p = [0] := by
    have : idx (hmOf t o u ks).length = [0] := by rw [a2]; rfl
    rw [this] at hp
    exact List.perm_singleton.1 hp
  subst hidx
  simp only [decide_true, List.isEmpty_nil, Bool.and_self, cond_true, e8, Option.bind_some, e9]
end
end Go.Sx

/- SegmentOnce: pages that are out, and what keeps them so. -/
set_option linter.unusedVariables false
set_option linter.unusedSimpArgs false
namespace Go.Sx
open Go.RowKit
theorem pAt_commit_ne (P : List Page) (w : Page) {i : Nat} (hi : i < P.length) (hw : 96 ≤ w.1) (hne : w.1 ≠ 96 + (i : Int)) : pAt (commit1 P w) i = pAt P i := by
  unfold commit1 pAt
  have h : (w.1 - 96).toNat ≠ i := by omega
  simp only [List.getD_eq_getElem?_getD, List.getElem?_set_ne h]
theorem pAt_commitAll_ne : ∀ (ws P : List Page) {i : Nat}, i < P.length → (∀ w ∈ ws, 96 ≤ w.1 ∧ w.1 ≠ 96 + (i : Int)) → pAt (commitAll P ws) i = pAt P i
  | [], P, i, _, _ => rfl
  | w :: ws, P, i, hi, h => by
    have e : commitAll P (w :: ws) = commitAll (commit1 P w) ws := rfl
    obtain ⟨h1, h2⟩ := h w (by simp)
    rw [e, pAt_commitAll_ne ws (commit1 P w) (by rw [commit1_len]; exact hi) fun x hx => h x (by simp [hx]), pAt_commit_ne P w hi h1 h2]
section
variable {n : Nat} {P : List Page} {own : Nat → Int} {U : Nat → Nat} {G : Int}
abbrev Given : Type := Ptr × Unit
def OutOne (n : Nat) (P : List Page) (own : Nat → Int) (U : Nat → Nat) (q : Given) : Prop := ∃ t k : Nat, t < n ∧ 1 ≤ k ∧ k < 16 ∧ q.1 = ptrOf P t k ∧ (U t).testBit k = true ∧ 0 ≤ own t ∧ (ptag (pAt P (8 + 16 * t + k))).1 ≠ 0 ∧ 1 ≤ (ptag (pAt P (8 + 16 * t + k))).2.1
theorem OutOne.line {q : Given} (h : OutOne n P own U q) : ∃ t k : Nat, t < n ∧ 1 ≤ k ∧ k < 16 ∧ q.1.1 = 104 + 16 * (t : Int) + k ∧ (U t).testBit k = true := by
  obtain ⟨t, k, h1, h2, h3, h4, h5, h6⟩ := h
  exact ⟨t, k, h1, h2, h3, by rw [h4]; rfl, h5⟩
end
end Go.Sx

/- Two ranges are exchanged; a list is rotated. -/
set_option linter.unusedVariables false
set_option linter.unusedSimpArgs false
namespace Go.Sx
open Go.RowKit
end Go.Sx

/- Merging two sorted ranges in place: binary search, and ranges of one page. -/
set_option linter.unusedVariables false
set_option linter.unusedSimpArgs false
namespace Go.Sx
open Go.RowKit
def ln (D : List Page) (c : Nat) : Int := (D.getD c noPage).1
theorem asc_get {A : List Page} (h : Asc A) {i j : Nat} (hj : j < A.length) (hij : i ≤ j) : (A[i]'(by omega)).1 ≤ (A[j]).1 := by
  by_cases e : i = j
  · subst e; exact Int.le_refl _
  · exact List.pairwise_iff_getElem.1 h i j (by omega) hj (by omega)
end Go.Sx

/- Merging two sorted ranges in place. -/
set_option linter.unusedVariables false
set_option linter.unusedSimpArgs false
namespace Go.Sx
open Go.RowKit
end Go.Sx

/- Pages sorted by line: the stable sort of up to forty pages. -/
set_option linter.unusedVariables false
set_option linter.unusedSimpArgs false
namespace Go.Sx
open Go.RowKit
theorem insR_perm (x : Page) (acc : List Page) : (insR x acc).Perm (x :: acc) := by
  unfold insR
  have := List.takeWhile_append_dropWhile (p := fun p : Page => decide (p.1 ≤ x.1)) (l := acc)
  conv => rhs; rw [← this]
  exact List.perm_middle
theorem isort_perm (l : List Page) : (isort l).Perm l := by
  have key : ∀ i, i ≤ l.length → (isort (l.take i)).Perm (l.take i) := by
    intro i
    induction i with
    | zero => intro _; exact List.Perm.refl _
    | succ i ih =>
      intro hi
      have h1 : l.take (i + 1) = l.take i ++ [l[i]] := by rw [List.take_add_one, List.getElem?_eq_getElem (by omega)]; rfl
      rw [isort_take (by omega), h1]
      refine (insR_perm _ _).trans ?_
      exact ((ih (by omega)).cons _).trans (List.perm_append_singleton _ _).symm
  have := key l.length (Nat.le_refl _)
  rwa [List.take_length] at this
end Go.Sx

/- SegmentMerges: the union of two lists of pages. -/
set_option linter.unusedVariables false
set_option linter.unusedSimpArgs false
namespace Go.Sx
open Go.RowKit
def SAsc (l : List Page) : Prop := l.Pairwise fun p q => p.1 < q.1
theorem sasc_ext : ∀ {r R : List Page}, SAsc r → SAsc R → (∀ q, q ∈ r ↔ q ∈ R) → r = R
  | [], [], _, _, _ => rfl
  | [], b :: R, _, _, h => absurd ((h b).2 (by simp)) (by simp)
  | a :: r, [], _, _, h => absurd ((h a).1 (by simp)) (by simp)
  | a :: r, b :: R, h1, h2, h => by
    obtain ⟨h1a, h1b⟩ := List.pairwise_cons.1 h1
    obtain ⟨h2a, h2b⟩ := List.pairwise_cons.1 h2
    have hab : a = b := by
      rcases List.mem_cons.1 ((h a).1 (by simp)) with e | e
      · exact e
      · rcases List.mem_cons.1 ((h b).2 (by simp)) with e2 | e2
        · exact e2.symm
        · have := h2a a e; have := h1a b e2; omega
    subst hab
    congr 1
    refine sasc_ext h1b h2b fun q => ⟨fun hq => ?_, fun hq => ?_⟩
    · rcases List.mem_cons.1 ((h q).1 (by simp [hq])) with e | e
      · subst e; have := h1a q hq; omega
      · exact e
    · rcases List.mem_cons.1 ((h q).2 (by simp [hq])) with e | e
      · subst e; have := h2a q hq; omega
      · exact e
def lastOf (l : List Page) : List (Int × Page) := l.foldl (fun es p => upsV es p.1 p) []
theorem upsV_len {α : Type} : ∀ (es : List (Int × α)) (k : Int) (v : α), (upsV es k v).length ≤ es.length + 1
  | [], k, v => by simp [upsV]
  | (m, y) :: es, k, v => by
    by_cases h : k = m
    · simp [upsV, h]
    · have := upsV_len es k v
      simp [upsV, h]; omega
structure MapOk (es : List (Int × Page)) : Prop where
  nd : (es.map (·.1)).Nodup
  key : ∀ e ∈ es, e.1 = e.2.1
theorem mem_upsV {es : List (Int × Page)} (h : MapOk es) (p : Page) (q : Page) : (q.1, q) ∈ upsV es p.1 p ↔ q = p ∨ ((q.1, q) ∈ es ∧ q.1 ≠ p.1) := by
  obtain ⟨hn, hk⟩ := h
  induction es with
  | nil =>
    simp only [upsV, List.mem_singleton, List.not_mem_nil, false_and, or_false]
    exact ⟨fun h => (Prod.mk.inj h).2, fun h => by rw [h]⟩
  | cons e es ih =>
    obtain ⟨m, y⟩ := e
    rw [List.map_cons, List.nodup_cons] at hn
    have hy : m = y.1 := hk (m, y) (by simp)
    by_cases h : p.1 = m
    · have e1 : upsV ((m, y) :: es) p.1 p = (p.1, p) :: es := by simp [upsV, h]
      rw [e1]
      constructor
      · intro hq
        rcases List.mem_cons.1 hq with hq | hq
        · exact .inl (Prod.mk.inj hq).2
        · refine .inr ⟨List.mem_cons_of_mem _ hq, fun e2 => hn.1 ?_⟩
          show m ∈ _
          rw [← h, ← e2]; exact List.mem_map.2 ⟨(q.1, q), hq, rfl⟩
      · rintro (rfl | ⟨hq, hne⟩)
        · simp
        · rcases List.mem_cons.1 hq with hq | hq
          · exact absurd ((Prod.mk.inj hq).1.trans h.symm) hne
          · exact List.mem_cons_of_mem _ hq
    · have e1 : upsV ((m, y) :: es) p.1 p = (m, y) :: upsV es p.1 p := by simp [upsV, h]
      rw [e1, List.mem_cons, ih hn.2 (fun e he => hk e (by simp [he]))]
      constructor
      · rintro (hq | rfl | ⟨hq, hne⟩)
        · exact .inr ⟨by simp [hq], by rw [(Prod.mk.inj hq).1]; exact fun e => h e.symm⟩
        · exact .inl rfl
        · exact .inr ⟨List.mem_cons_of_mem _ hq, hne⟩
      · rintro (rfl | ⟨hq, hne⟩)
        · exact .inr (.inl rfl)
        · rcases List.mem_cons.1 hq with hq | hq
          · exact .inl hq
          · exact .inr (.inr ⟨hq, hne⟩)
theorem keys_upsV (es : List (Int × Page)) (k : Int) (v : Page) : (upsV es k v).map (·.1) = es.map (·.1) ∨ ((upsV es k v).map (·.1) = es.map (·.1) ++ [k] ∧ k ∉ es.map (·.1)) := by
  induction es with
  | nil => exact .inr ⟨rfl, by simp⟩
  | cons e es ih =>
    obtain ⟨m, y⟩ := e
    by_cases h : k = m
    · left; simp [upsV, h]
    · rcases ih with ih | ⟨ih, hk⟩
      · left; simp [upsV, h, ih]
      · right; exact ⟨by simp [upsV, h, ih], by simp [h]; simpa using hk⟩
theorem MapOk.ups {es : List (Int × Page)} (h : MapOk es) (p : Page) : MapOk (upsV es p.1 p) := by
  refine ⟨?_, fun e he => ?_⟩
  · rcases keys_upsV es p.1 p with e | ⟨e, hk⟩
    · rw [e]; exact h.nd
    · rw [e, List.nodup_append]
      exact ⟨h.nd, by simp, fun a ha b hb => by simp at hb; subst hb; exact fun e => hk (e ▸ ha)⟩
  · have : ∀ (es : List (Int × Page)), (∀ e ∈ es, e.1 = e.2.1) → ∀ e ∈ upsV es p.1 p, e.1 = e.2.1 := by
      intro es
      induction es with
      | nil => intro _ e he; simp [upsV] at he; subst he; rfl
      | cons x es ih =>
        intro hx e he
        obtain ⟨m, y⟩ := x
        by_cases hc : p.1 = m
        · simp only [upsV, hc, decide_true, cond_true, List.mem_cons] at he
          rcases he with rfl | he
          · exact hc.symm
          · exact hx e (by simp [he])
        · simp only [upsV, hc, decide_false, cond_false, List.mem_cons] at he
          rcases he with rfl | he
          · exact hx _ (by simp)
          · exact ih (fun e he => hx e (by simp [he])) e he
    exact this es h.key e he
theorem lastOf_take {l : List Page} {i : Nat} (hi : i < l.length) : lastOf (l.take (i + 1)) = upsV (lastOf (l.take i)) (l[i]).1 l[i] := by
  unfold lastOf
  rw [List.take_add_one, List.getElem?_eq_getElem hi, List.foldl_append]; rfl
theorem lastOf_ok (l : List Page) : MapOk (lastOf l) ∧ (lastOf l).length ≤ l.length := by
  have key : ∀ i, i ≤ l.length → MapOk (lastOf (l.take i)) ∧ (lastOf (l.take i)).length ≤ i := by
    intro i
    induction i with
    | zero => intro _; exact ⟨⟨by simp [lastOf], by simp [lastOf]⟩, by simp [lastOf]⟩
    | succ i ih =>
      intro hi
      obtain ⟨h1, h2⟩ := ih (by omega)
      rw [lastOf_take (by omega)]
      exact ⟨h1.ups _, by have := upsV_len (lastOf (l.take i)) (l[i]).1 l[i]; omega⟩
  have := key l.length (Nat.le_refl _)
  rwa [List.take_length] at this
theorem concat_eq (a b : List Page) (h : a.length + b.length ≤ 1000) : qf86 [a, b] = some (a ++ b) := by
  have hm : lim = 2147483648 := rfl
  have s0 : qf86L1 [a, b] (0 : Int) [a, b] ((([a, b] : List (List Page)).length : Nat) : Int) (0 : Int) = some ([a, b], ((a.length + b.length : Nat) : Int)) := by
    refine iter_for (body := qf86L1B) (fun i => ([a, b], (match i with | 0 => (0 : Int) | 1 => (a.length : Int) | _ => ((a.length + b.length : Nat) : Int)), [a, b], (2 : Int), (i : Int))) 2 _ (fun i hi => ?_) ?_ 0 (Nat.zero_le _)
    · match i, hi with
      | 0, _ =>
        show qf86L1b [a, b] 0 [a, b] 2 0 = _
        unfold qf86L1b
        have w : IntKind.wrap .i64 ((0 : Int) + (a.length : Int)) = (a.length : Int) := by rw [i64w (by omega) (by omega)]; omega
        have w2 : IntKind.wrap .i64 ((0 : Int) + 1) = 1 := i64w (by omega) (by omega)
        have g : List.getD ([a, b] : List (List Page)) (Int.toNat 0) [] = a := rfl
        have d : decide ((a.length : Int) < 0) = false := by simp
        have d1 : decide ((0 : Int) < 2) = true := by decide
        have d2 : inR 0 ([a, b] : List (List Page)).length = true := by simp [inR]
        simp only [d1, d2, g, w, d, w2, cond_true, cond_false]
        rfl
      | 1, _ =>
        show qf86L1b [a, b] (a.length : Int) [a, b] 2 1 = _
        unfold qf86L1b
        have w : IntKind.wrap .i64 ((a.length : Int) + (b.length : Int)) = ((a.length + b.length : Nat) : Int) := by rw [i64w (by omega) (by omega)]; omega
        have w2 : IntKind.wrap .i64 ((1 : Int) + 1) = 2 := i64w (by omega) (by omega)
        have g : List.getD ([a, b] : List (List Page)) (Int.toNat 1) [] = b := rfl
        have d : decide (((a.length + b.length : Nat) : Int) < 0) = false := by simp; omega
        have d1 : decide ((1 : Int) < 2) = true := by decide
        have d2 : inR 1 ([a, b] : List (List Page)).length = true := by simp [inR]
        simp only [d1, d2, g, w, d, w2, cond_true, cond_false]
        rfl
    · show qf86L1b [a, b] ((a.length + b.length : Nat) : Int) [a, b] 2 2 = _
      unfold qf86L1b
      rfl
  have s1 : ∃ R, qf85 ((a.length + b.length : Nat) : Int) = some (0, 0, R) := by
    unfold qf85
    have d : decide (((a.length + b.length : Nat) : Int) < 0) = false := by simp; omega
    have w : IntKind.wrap .i64 (((a.length + b.length : Nat) : Int) - 0) = ((a.length + b.length : Nat) : Int) := by rw [i64w (by omega) (by omega)]; omega
    by_cases hz : a.length + b.length = 0
    · have d1 : decide ((0 : Int) < ((a.length + b.length : Nat) : Int)) = false := by simp; omega
      exact ⟨[], by simp only [d, w, d1, cond_false]⟩
    · have d1 : decide ((0 : Int) < ((a.length + b.length : Nat) : Int)) = true := by simp; omega
      have d2 : decide (((a.length + b.length : Nat) : Int) ≤ (lim : Int)) = true := by rw [hm]; simp; omega
      refine ⟨List.replicate (Int.toNat ((a.length + b.length : Nat) : Int)) ((0 : Int), ((0 : Int), ((List.replicate 7 (0 : Int)), ()))), ?_⟩
      have d3 : decide ((0 : Int) ≤ (((List.replicate (Int.toNat ((a.length + b.length : Nat) : Int)) ((0 : Int), ((0 : Int), ((List.replicate 7 (0 : Int)), ())))).length : Nat) : Int)) = true := decide_eq_true (by omega)
      simp only [d, w, d1, d2, cond_false, cond_true, Bool.and_self, d3]
  obtain ⟨R, s1⟩ := s1
  have s2 : qf86L2 0 0 [a, b] ((([a, b] : List (List Page)).length : Nat) : Int) (0 : Int) R = some (0, a.length + b.length, a ++ b) := by
    have k1 : qf86L2B (0, 0, [a, b], (2 : Int), (0 : Int), R) = some (.inl (0, a.length, [a, b], (2 : Int), (1 : Int), a)) := by
      show qf86L2b 0 0 [a, b] 2 0 R = _
      unfold qf86L2b
      have w2 : IntKind.wrap .i64 ((0 : Int) + 1) = 1 := i64w (by omega) (by omega)
      have g : List.getD ([a, b] : List (List Page)) (Int.toNat 0) [] = a := rfl
      have d1 : decide ((0 : Int) < 2) = true := by decide
      have d2 : inR 0 ([a, b] : List (List Page)).length = true := by simp [inR]
      have d3 : decide ((List.drop 0 (List.take 0 R)).length + a.length ≤ lim) = true := by simp; omega
      simp only [d1, d2, g, d3, w2, cond_true]
      simp
    have k2 : qf86L2B (0, a.length, [a, b], (2 : Int), (1 : Int), a) = some (.inl (0, a.length + b.length, [a, b], (2 : Int), (2 : Int), a ++ b)) := by
      show qf86L2b 0 a.length [a, b] 2 1 a = _
      unfold qf86L2b
      have w2 : IntKind.wrap .i64 ((1 : Int) + 1) = 2 := i64w (by omega) (by omega)
      have g : List.getD ([a, b] : List (List Page)) (Int.toNat 1) [] = b := rfl
      have d1 : decide ((1 : Int) < 2) = true := by decide
      have d2 : inR 1 ([a, b] : List (List Page)).length = true := by simp [inR]
      have d3 : decide ((List.drop 0 (List.take a.length a)).length + b.length ≤ lim) = true := by simp; omega
      simp only [d1, d2, g, d3, w2, cond_true]
      simp
    have k3 : qf86L2B (0, a.length + b.length, [a, b], (2 : Int), (2 : Int), a ++ b) = some (.inr (0, a.length + b.length, a ++ b)) := by
      show qf86L2b 0 (a.length + b.length) [a, b] 2 2 (a ++ b) = _
      unfold qf86L2b
      rfl
    exact (iter_step k1).trans ((iter_step k2).trans (iter_done k3))
  unfold qf86
  simp only [s0, Option.bind_some, s1, s2]
  rw [List.drop_zero, List.take_of_length_le (by simp)]
theorem mergeL1_eq (l : List Page) (h : l.length ≤ 1000) : qf87L1 l ((l.length : Nat) : Int) (0 : Int) [] = some (lastOf l) := by
  refine iter_for (body := qf87L1B) (fun i => (l, (l.length : Int), (i : Int), lastOf (l.take i))) l.length (lastOf l) (fun i hi => ?_) ?_ 0 (Nat.zero_le _)
  · show qf87L1b l (l.length : Int) i (lastOf (l.take i)) = _
    unfold qf87L1b
    have e1 : decide ((i : Int) < (l.length : Int)) = true := by simp; omega
    have e4 : IntKind.wrap .i64 ((i : Int) + 1) = ((i + 1 : Nat) : Int) := by rw [i64w (by omega) (by omega)]; simp
    have e6 : ∀ d : Page, List.getD l (Int.toNat (i : Int)) d = l[i] := fun d => by simp [List.getD, hi]
    simp only [e1, inR_nat hi, e4, e6, cond_true]
    rw [lastOf_take hi]
  · show qf87L1b l (l.length : Int) l.length (lastOf (l.take l.length)) = _
    unfold qf87L1b
    simp
theorem mergeL2_eq (es : List (Int × Page)) (hes : es.length ≤ 1000) : ∀ (ρ : List Int) (acc : List Page) (seen : List Int), (∀ i ∈ ρ, 0 ≤ i ∧ i < es.length) → acc.length + ρ.length ≤ 2000 →
    ∃ s, rfold (fun y => (qf87L2_es y).length) qf87L2_n qf87L2_seen qf87L2B (acc, ((((es.length : Nat) : Int), seen), es)) ρ = some (acc ++ ρ.map fun i => (es.getD i.toNat (0, noPage)).2, ((((es.length : Nat) : Int), s), es))
  | [], acc, seen, _, _ => ⟨seen, by simp [rfold]⟩
  | i :: ρ, acc, seen, h, hl => by
    obtain ⟨h0, h1⟩ := h i (by simp)
    have hm : lim = 2147483648 := rfl
    obtain ⟨k, rfl⟩ : ∃ k : Nat, i = k := ⟨i.toNat, by omega⟩
    have hk : k < es.length := by omega
    have hb : qf87L2B (acc, ((((es.length : Nat) : Int), seen), es)) (k : Int) = some (acc ++ [(es[k]).2], ((((es.length : Nat) : Int), (k : Int) :: seen), es)) := by
      show qf87L2b _ _ _ _ = _
      unfold qf87L2b
      have e1 : decide (acc.length + 1 ≤ lim) = true := by simp only [List.length_cons] at hl; simp; omega
      simp only [decide_true, cond_true, Int.toNat_natCast, List.getElem?_eq_getElem hk, Option.bind_some, e1]
    obtain ⟨s, ih⟩ := mergeL2_eq es hes ρ (acc ++ [(es[k]).2]) ((k : Int) :: seen) (fun j hj => h j (by simp [hj])) (by simp at hl ⊢; omega)
    refine ⟨s, ?_⟩
    simp only [rfold, hb, Option.bind_some]
    have q1 : qf87L2_n (acc ++ [(es[k]).2], ((((es.length : Nat) : Int), (k : Int) :: seen), es)) = qf87L2_n (acc, ((((es.length : Nat) : Int), seen), es)) := rfl
    have q2 : qf87L2_seen (acc ++ [(es[k]).2], ((((es.length : Nat) : Int), (k : Int) :: seen), es)) = (k : Int) :: qf87L2_seen (acc, ((((es.length : Nat) : Int), seen), es)) := rfl
    have q3 : (qf87L2_es (acc ++ [(es[k]).2], ((((es.length : Nat) : Int), (k : Int) :: seen), es))).length = (qf87L2_es (acc, ((((es.length : Nat) : Int), seen), es))).length := rfl
    simp only [q1, q2, q3, decide_true, Bool.and_self, cond_true, ih]
    simp [List.getD, hk]
theorem idx_map (es : List (Int × Page)) : (idx es.length).map (fun i => (es.getD i.toNat (0, noPage)).2) = es.map (·.2) := by
  unfold idx
  rw [List.map_map]
  refine List.ext_getElem (by simp) fun i h1 h2 => ?_
  simp only [List.length_map, List.length_range] at h1
  simp [List.getD, h1]
theorem segMerge_fine (a b : List Page) (h : a.length + b.length < 20) : ∃ r, qf87 a b = some r ∧ SAsc r ∧ (∀ q, q ∈ r ↔ (q.1, q) ∈ lastOf (a ++ b)) ∧ r.length ≤ a.length + b.length := by
  have hl : (a ++ b).length < 20 := by simp; omega
  obtain ⟨ok, hle⟩ := lastOf_ok (a ++ b)
  generalize hes : lastOf (a ++ b) = es at ok hle
  have key : ∀ vals : List Page, vals.Perm (es.map (·.2)) → ∃ r, qf47 vals = some r ∧ SAsc r ∧ (∀ q, q ∈ r ↔ (q.1, q) ∈ es) ∧ r.length = es.length := by
    intro vals hv
    obtain ⟨r, r1, r2, r3⟩ := (⟨isort vals, ascending_eq vals (by rw [hv.length_eq]; simp; omega), (isort_asc vals).1, isort_perm vals⟩ : ∃ r, qf47 vals = some r ∧ Asc r ∧ r.Perm vals)
    have hp : r.Perm (es.map (·.2)) := r3.trans hv
    refine ⟨r, r1, ?_, fun q => ?_, by rw [hp.length_eq]; simp⟩
    · have hkeys : es.map (fun e => e.2.1) = es.map (·.1) := List.map_congr_left fun e he => (ok.key e he).symm
      have hn : (r.map (·.1)).Nodup := by
        have h1 : (r.map (·.1)).Perm ((es.map (·.2)).map (·.1)) := hp.map _
        rw [List.map_map] at h1
        have h2 : es.map ((fun p : Page => p.1) ∘ fun e : Int × Page => e.2) = es.map (·.1) := hkeys
        rw [h2] at h1
        exact h1.nodup_iff.2 ok.nd
      have hne : r.Pairwise fun p q => p.1 ≠ q.1 := List.pairwise_map.1 hn
      exact (List.Pairwise.and r2 hne).imp fun {p q} h => Int.lt_iff_le_and_ne.2 h
    · rw [hp.mem_iff, List.mem_map]
      constructor
      · rintro ⟨e, he, rfl⟩
        have := ok.key e he
        rw [← this]; exact he
      · intro hq; exact ⟨_, hq, rfl⟩
  have hvals : ∀ p : List Int, p.Perm (idx es.length) → (p.map fun i => (es.getD i.toNat (0, noPage)).2).Perm (es.map (·.2)) := fun p hp => by
    have := hp.map (fun i => (es.getD i.toNat (0, noPage)).2)
    rwa [idx_map] at this
  obtain ⟨r, r1, r2, r3, r4⟩ := key (es.map (·.2)) (List.Perm.refl _)
  refine ⟨r, ?_, r2, by rw [hes] at *; exact r3, by rw [r4]; simp at hle; omega⟩
  unfold qf87
  rw [concat_eq a b (by omega)]
  simp only [Option.bind_some, mergeL1_eq (a ++ b) (by omega), hes]
  refine demO_of ⟨_, List.Perm.refl _⟩ fun p hp => ?_
  obtain ⟨s, hs⟩ := mergeL2_eq es (by omega) p [] [] (fun i hi => mem_idx.1 (hp.mem_iff.1 hi)) (by rw [hp.length_eq]; simp [idx]; omega)
  obtain ⟨r', q1, q2, q3, _⟩ := key _ (hvals p hp)
  have : r' = r := sasc_ext q2 r2 fun q => by rw [q3, r3]
  subst this
  simp only [decide_true, List.isEmpty_nil, Bool.and_self, cond_true, hs, Option.bind_some, List.nil_append, q1]
end Go.Sx

