/- U4: printed by a program of this session: the functions of the seat as plain functions, and that the code comes to them. -/
import Derived.Test.YteghkndbngddgaaW2
import Derived.Test.YteghkndbngddgaaA4
/- Freeing pages of one segment, plainly. -/
set_option linter.unusedVariables false
set_option linter.unusedSimpArgs false
namespace Go.Sx
open Go.RowKit
/-! Bits are taken away -/
def clrB (u i : Nat) : Nat := u &&& (2 ^ 32 - 1 - 2 ^ i)
def clrS (u : Nat) (ks : List Nat) : Nat := ks.foldl clrB u

theorem pow16 {i : Nat} (hi : i < 16) : 2 ^ i < 65536 := by
  have : 2 ^ i < 2 ^ 16 := Nat.pow_lt_pow_right (by omega) hi
  have h2 : (2 : Nat) ^ 16 = 65536 := by decide
  omega

theorem clrB_le (u i : Nat) : clrB u i ≤ u := Nat.and_le_left

theorem testBit_clrB (u i j : Nat) (hu : u < 65536) (hi : i < 16) : (clrB u i).testBit j = (u.testBit j && !decide (i = j)) := by
  have h16 := pow16 hi
  unfold clrB
  rw [Nat.testBit_and]
  by_cases hj : j < 32
  · have e : 2 ^ 32 - 1 - 2 ^ i = 2 ^ 32 - (2 ^ i + 1) := by omega
    rw [e, Nat.testBit_two_pow_sub_succ (by have : (2 : Nat) ^ 32 = 4294967296 := by decide
                                            omega), Nat.testBit_two_pow]
    simp [hj]
  · have : u.testBit j = false := Nat.testBit_lt_two_pow (by
      have : 2 ^ 16 ≤ 2 ^ j := Nat.pow_le_pow_right (by omega) (by omega)
      have h2 : (2 : Nat) ^ 16 = 65536 := by decide
      omega)
    simp [this]

theorem clear_bit (u i : Nat) (hu : u < 65536) (hi : i < 16) : IntKind.wrap .u32 ((BitVec.ofInt (IntKind.bits .u32) (u : Int) &&& ~~~ BitVec.ofInt (IntKind.bits .u32) (shiftL .u32 (1 : Int) (i : Int))).toNat : Int) = ((clrB u i : Nat) : Int) := by
  have hb : IntKind.bits .u32 = 32 := rfl
  have h16 := pow16 hi
  have hle := clrB_le u i
  have e : shiftL .u32 (1 : Int) (i : Int) = ((2 ^ i : Nat) : Int) := by
    have e1 : shiftL .u32 (1 : Int) (i : Int) = IntKind.wrap .u32 (1 * 2 ^ i) := by
      unfold shiftL
      rw [show min (Int.toNat (i : Int)) (IntKind.bits .u32) = i by simp [IntKind.bits]; omega]
    have e2 : (2 : Int) ^ i = ((2 ^ i : Nat) : Int) := by simp
    rw [e1, Int.one_mul, e2]
    generalize 2 ^ i = q at h16
    exact u32w (by omega) (by omega)
  unfold clrB at hle ⊢
  rw [e]
  generalize 2 ^ i = q at h16 hle
  rw [hb, bits_andNot (by omega) (by omega) (by omega) (by omega), Int.toNat_natCast, Int.toNat_natCast]
  exact u32w (by omega) (by omega)

theorem clrS_lt : ∀ (ks : List Nat) (u : Nat), u < 65536 → clrS u ks < 65536
  | [], u, h => h
  | k :: ks, u, h => by
    have := clrB_le u k
    exact clrS_lt ks (clrB u k) (by omega)

/-! The prefix -/
theorem indexFunc_none (l : List Ptr) (p : Ptr) (hl : l.length ≤ 1000) (h : ∀ q ∈ l, q.1 ≠ p.1) : slices_ContainsFunc_Pointer l p = some (false, p) := by
  have key : slices_IndexFunc_PointerL1 l (l.length : Int) (0 : Int) p = some (.inl p) := by
    refine iter_for (body := slices_IndexFunc_PointerL1B) (fun i => (l, (l.length : Int), (i : Int), p)) l.length (.inl p) (fun i hi => ?_) ?_ 0 (Nat.zero_le _)
    · show slices_IndexFunc_PointerL1b l l.length i p = _
      unfold slices_IndexFunc_PointerL1b segment_Free_1
      have e1 : decide ((i : Int) < (l.length : Int)) = true := by simp; omega
      have e4 : IntKind.wrap .i64 ((i : Int) + 1) = ((i + 1 : Nat) : Int) := by rw [i64w (by omega) (by omega)]; simp
      have e6 : ∀ d, List.getD l (Int.toNat (i : Int)) d = l[i] := fun d => by simp [List.getD, hi]
      have e7 : decide ((l[i]).1 = p.1) = false := by simpa using h _ (List.getElem_mem hi)
      simp only [e1, inR_nat hi, e4, e6, cond_true, Option.bind_some, e7, cond_false]
    · show slices_IndexFunc_PointerL1b l l.length l.length p = _
      unfold slices_IndexFunc_PointerL1b
      simp
  unfold slices_ContainsFunc_Pointer slices_IndexFunc_Pointer
  rw [key]
  rfl

/-! One segment -/
def ptrOf (P : List Page) (t k : Nat) : Ptr := (104 + 16 * (t : Int) + k, (ptag (pAt P (8 + 16 * t + k))).2.1, ())
def relOf (P : List Page) (t k : Nat) : Page := withTag (pAt P (8 + 16 * t + k)) 0 (ptag (pAt P (8 + 16 * t + k))).2.1 0
def hdrOf (P : List Page) (t : Nat) (o : Int) (u : Nat) : Page := (writeHead (pAt P (8 + 16 * t)) (o, (u : Int), ())).1

structure FreeOk (n : Nat) (P : List Page) (t : Nat) (o : Int) (u : Nat) (ks : List Nat) : Prop where
  hp : Heap n P
  n0 : 1 ≤ n
  n1 : n ≤ 5
  ht : t < n
  o0 : 0 ≤ o
  o1 : o ≤ 5
  hu : u < 65536
  u0 : u.testBit 0 = false
  hd : readHead (pAt P (8 + 16 * t)) = ((o, (u : Int), ()), 0)
  k0 : 1 ≤ ks.length
  k1 : ks.length ≤ 3
  nd : ks.Nodup
  hk : ∀ k ∈ ks, 1 ≤ k ∧ k < 16 ∧ u.testBit k = true ∧ (ptag (pAt P (8 + 16 * t + k))).1 ≠ 0 ∧ 1 ≤ (ptag (pAt P (8 + 16 * t + k))).2.1

section
variable {n : Nat} {P : List Page} {t : Nat} {o : Int} {u : Nat} {ks : List Nat}
theorem loc_at (F : FreeOk n P t o u ks) {k : Nat} (hk : k ∈ ks) : segment_Locate (104 + 16 * (n : Int)) (104 + 16 * (t : Int) + k) = some ((t : Int), (k : Int), true) := by
  obtain ⟨h0, h1, _⟩ := F.hk k hk
  have := F.n1; have := F.ht
  have hcnt : cnt (104 + 16 * (n : Int)) = (n : Int) := by unfold cnt; rw [if_pos (by omega)]; omega
  rw [segment_Locate_eq _ _ (by omega)]
  unfold loc
  rw [hcnt, if_pos (by omega)]
  have e1 : (104 + 16 * (t : Int) + k - 104) / 16 = t := by omega
  have e2 : (104 + 16 * (t : Int) + k - 104) % 16 = k := by omega
  rw [e1, e2]

theorem valid_at (F : FreeOk n P t o u ks) {k : Nat} (hk : k ∈ ks) : validP (ptrOf P t k) = true := by
  obtain ⟨h0, h1, _, _, h4⟩ := F.hk k hk
  have := F.n1; have := F.ht
  unfold validP ptrOf
  have hg : (ptag (pAt P (8 + 16 * t + k))).2.1 ≤ 16777215 := by unfold ptag tagOf; simp only; omega
  simp only [decide_eq_true_eq]
  omega

theorem lat_at (F : FreeOk n P t o u ks) {k : Nat} (hk : k < 16) : latest P (104 + 16 * (t : Int) + k) = some (pAt P (8 + 16 * t + k)) := by
  have := F.n1; have := F.ht; have hl := F.hp.len
  have hlt : 8 + 16 * t + k < P.length := by omega
  rw [F.hp.latest hlt (by omega), pAt_get hlt]

theorem free_L1 (F : FreeOk n P t o u ks) : segment_FreeL1 (104 + 16 * (n : Int)) (ks.map (ptrOf P t)) P (ks.map (ptrOf P t)) (((ks.map (ptrOf P t)).length : Nat) : Int) (0 : Int) [] =
    some (.inl (104 + 16 * (n : Int), ks.map (ptrOf P t), P, ks.flatMap fun k : Nat => [104 + 16 * (t : Int) + (k : Int), 104 + 16 * (t : Int)])) := by
  have hn := F.n1; have ht := F.ht; have k1 := F.k1
  have hlen : (ks.map (ptrOf P t)).length = ks.length := by simp
  have hl2 : ∀ l : List Nat, (l.flatMap fun k : Nat => [104 + 16 * (t : Int) + (k : Int), 104 + 16 * (t : Int)]).length = 2 * l.length := by
    intro l
    induction l with
    | nil => rfl
    | cons a l ih => simp only [List.flatMap_cons, List.length_append, ih, List.length_cons, List.length_nil]; omega
  refine iter_for (body := segment_FreeL1B) (fun i => (104 + 16 * (n : Int), ks.map (ptrOf P t), P, ks.map (ptrOf P t), (((ks.map (ptrOf P t)).length : Nat) : Int), (i : Int), (ks.take i).flatMap fun k : Nat => [104 + 16 * (t : Int) + (k : Int), 104 + 16 * (t : Int)])) (ks.map (ptrOf P t)).length _ (fun i hi => ?_) ?_ 0 (Nat.zero_le _)
  · show segment_FreeL1b _ _ _ _ _ _ _ = _
    have hi' : i < ks.length := by simpa using hi
    have hm := List.getElem_mem hi'
    unfold segment_FreeL1b
    have e1 : decide ((i : Int) < (((ks.map (ptrOf P t)).length : Nat) : Int)) = true := by simp; omega
    have e4 : IntKind.wrap .i64 ((i : Int) + 1) = ((i + 1 : Nat) : Int) := by rw [i64w (by omega) (by omega)]; simp
    have e6 : ∀ d, List.getD (ks.map (ptrOf P t)) (Int.toNat (i : Int)) d = ptrOf P t ks[i] := fun d => by simp [List.getD, hi']
    have e7 : (ptrOf P t ks[i]).1 = 104 + 16 * (t : Int) + ((ks[i] : Nat) : Int) := rfl
    have e8 : (decide ((0 : Int) ≤ (i : Int)) && decide ((i : Int) ≤ (((ks.map (ptrOf P t)).length : Nat) : Int))) = true := by simp; omega
    have e9 : slices_ContainsFunc_Pointer (List.drop 0 (List.take (Int.toNat (i : Int)) (ks.map (ptrOf P t)))) (ptrOf P t ks[i]) = some (false, ptrOf P t ks[i]) := by
      rw [List.drop_zero, Int.toNat_natCast]
      refine indexFunc_none _ _ (by simp; omega) fun q hq => ?_
      rw [← List.map_take] at hq
      obtain ⟨k, hk, rfl⟩ := List.mem_map.1 hq
      have hne : k ≠ ks[i] := fun e => by
        obtain ⟨j, hj, rfl⟩ := List.mem_take_iff_getElem.1 hk
        exact List.pairwise_iff_getElem.1 F.nd j i (by omega) hi' (by omega) e
      unfold ptrOf
      simp only [ne_eq]
      omega
    have e10 : segment_HeaderLine ((t : Nat) : Int) = some (104 + 16 * (t : Int)) := by
      rw [segment_HeaderLine_eq]; unfold hdr20; rw [if_pos (by omega)]
    have e11 : decide ((((ks.take i).flatMap fun k : Nat => [104 + 16 * (t : Int) + (k : Int), 104 + 16 * (t : Int)]).length) + 2 ≤ lim) = true := by
      have hlm : lim = 2147483648 := rfl
      rw [hl2]; simp; omega
    have e12 : (ks.take (i + 1)).flatMap (fun k : Nat => [104 + 16 * (t : Int) + (k : Int), 104 + 16 * (t : Int)]) = (ks.take i).flatMap (fun k : Nat => [104 + 16 * (t : Int) + (k : Int), 104 + 16 * (t : Int)]) ++ [104 + 16 * (t : Int) + ((ks[i] : Nat) : Int), 104 + 16 * (t : Int)] := by
      rw [List.take_add_one, List.getElem?_eq_getElem hi', List.flatMap_append]; rfl
    simp only [e1, inR_nat hi, e4, e6, e7, loc_at F hm, e8, e9, pointer_Valid_eq, valid_at F hm, e10, e11, e12, cond_true, cond_false, Bool.not_true, Option.bind_some]
    try rfl
  · show segment_FreeL1b _ _ _ _ _ _ _ = _
    unfold segment_FreeL1b
    have : ks.take (ks.map (ptrOf P t)).length = ks := by simp
    simp

/-- The header pages and the headers behind the first pages. -/
def pmOf (P : List Page) (t : Nat) (ks : List Nat) : List (Int × Page) := if ks.isEmpty then [] else [((t : Int), pAt P (8 + 16 * t))]
def hmOf (t : Nat) (o : Int) (u : Nat) (ks : List Nat) : List (Int × Head) := if ks.isEmpty then [] else [((t : Int), (o, (clrS u ks : Int), ()))]

theorem take_isEmpty {ks : List Nat} {i : Nat} (hi : i < ks.length) : (ks.take i).isEmpty = decide (i = 0) := by
  cases i with
  | zero => rfl
  | succ i =>
    cases ks with
    | nil => simp at hi
    | cons a l => simp

theorem clrS_take {ks : List Nat} {u i : Nat} (hi : i < ks.length) : clrS u (ks.take (i + 1)) = clrB (clrS u (ks.take i)) ks[i] := by
  rw [List.take_add_one, List.getElem?_eq_getElem hi]
  unfold clrS
  rw [List.foldl_append]; rfl

theorem free_L2 (F : FreeOk n P t o u ks) : segment_FreeL2 (104 + 16 * (n : Int)) P (ks.map (ptrOf P t)) (((ks.map (ptrOf P t)).length : Nat) : Int) (0 : Int) [] [] [] =
    some (.inl (ks.map (relOf P t), pmOf P t ks, hmOf t o u ks)) := by
  have hn := F.n1; have ht := F.ht; have k1 := F.k1; have hPl := F.hp.len; have hn0 := F.n0
  have hm : maxLen = 9223372036854775807 := by decide
  refine iter_for (body := segment_FreeL2B) (fun i => (104 + 16 * (n : Int), P, ks.map (ptrOf P t), (((ks.map (ptrOf P t)).length : Nat) : Int), (i : Int), (ks.take i).map (relOf P t), pmOf P t (ks.take i), hmOf t o u (ks.take i))) (ks.map (ptrOf P t)).length _ (fun i hi => ?_) ?_ 0 (Nat.zero_le _)
  · show segment_FreeL2b _ _ _ _ _ _ _ _ = _
    have hi' : i < ks.length := by simpa using hi
    have hm' := List.getElem_mem hi'
    obtain ⟨h0, h1, h2, h3, h4⟩ := F.hk _ hm'
    have hlt : 8 + 16 * t + ks[i] < P.length := by omega
    have hwf : Wf TPage (pAt P (8 + 16 * t + ks[i])) := by rw [pAt_get hlt]; exact F.hp.wf _ (List.getElem_mem _)
    have hlk : lockedB (pAt P (8 + 16 * t + ks[i])) = false := by rw [pAt_get hlt]; exact F.hp.free _ (List.getElem_mem _)
    have hln : (pAt P (8 + 16 * t + ks[i])).1 = 96 + ((8 + 16 * t + ks[i] : Nat) : Int) := by rw [pAt_get hlt]; exact F.hp.line _ _
    unfold segment_FreeL2b
    have e1 : decide ((i : Int) < (((ks.map (ptrOf P t)).length : Nat) : Int)) = true := by simp; omega
    have e4 : IntKind.wrap .i64 ((i : Int) + 1) = ((i + 1 : Nat) : Int) := by rw [i64w (by omega) (by omega)]; simp
    have e6 : ∀ d, List.getD (ks.map (ptrOf P t)) (Int.toNat (i : Int)) d = ptrOf P t ks[i] := fun d => by simp [List.getD, hi']
    have e7 : (ptrOf P t ks[i]).1 = 104 + 16 * (t : Int) + ((ks[i] : Nat) : Int) := rfl
    have e7b : (ptrOf P t ks[i]).2.1 = (ptag (pAt P (8 + 16 * t + ks[i]))).2.1 := rfl
    have e8 : pointer_Latest P (104 + 16 * (t : Int) + ((ks[i] : Nat) : Int)) = some (pAt P (8 + 16 * t + ks[i]), true) := by
      rw [pointer_Latest_eq P _ (by omega), lat_at F h1]; rfl
    have w0 := wf_word hwf 0
    have e9 : pointer_UnpackTag (List.getD (pAt P (8 + 16 * t + ks[i])).2.2.1 0 (0 : Int)) = some (ptag (pAt P (8 + 16 * t + ks[i]))) := pointer_UnpackTag_eq _ w0.1 w0.2
    have e10 := pointer_Locked_eq _ hwf
    rw [hlk] at e10
    have e11 : decide ((ptag (pAt P (8 + 16 * t + ks[i]))).1 = 0) = false := by simpa using h3
    have e12 : segment_header P (t : Int) = some (pAt P (8 + 16 * t), (o, (u : Int), ()), true, 0) := by
      have := F.hp.header ht (by omega) (by omega)
      rw [segment_header_eq P F.hp.wf (by omega), this, ← pAt_get (by omega : 8 + 16 * t < P.length), F.hd]
    have u1 : IntKind.wrap .u64 ((ks[i] : Nat) : Int) = ((ks[i] : Nat) : Int) := u64w (by omega) (by omega)
    have u2 : decide ((0 : Int) ≤ ((ks[i] : Nat) : Int)) = true := by simp
    have hu := F.hu
    have u3 := bit_u32 (b := (u : Int)) (by omega) (by omega) ks[i] (by omega)
    have u4 : decide ((u : Int) / 2 ^ ks[i] % 2 = 0) = false := by
      have := (bit_nat u ks[i]).2 h2
      rw [this]; rfl
    have e13 := pointer_Release_eq _ hwf (by omega) (by omega) hlk h3
    have hlm : lim = 2147483648 := rfl
    have e14 : decide (((ks.take i).map (relOf P t)).length + 1 ≤ lim) = true := by simp; omega
    have e15 : (ks.take (i + 1)).map (relOf P t) = (ks.take i).map (relOf P t) ++ [withTag (pAt P (8 + 16 * t + ks[i])) 0 (ptag (pAt P (8 + 16 * t + ks[i]))).2.1 0] := by
      rw [List.take_add_one, List.getElem?_eq_getElem hi', List.map_append]; rfl
    have hcl := clrS_lt (ks.take i) u hu
    have e16 := clear_bit (clrS u (ks.take i)) ks[i] hcl h1
    have e16b := clear_bit u ks[i] hu h1
    have hne : (ks.take (i + 1)).isEmpty = false := by
      cases hk : ks.take (i + 1) with
      | nil => simp at hk; rw [hk] at hi'; simp at hi'
      | cons => rfl
    simp only [e1, inR_nat hi, e4, e6, e7, e7b, loc_at F hm', e8, e9, e10, e11, decide_true, e12, u1, u2, u3, u4, cond_true, cond_false, Bool.not_true, Option.bind_some, e13, e14, e15]
    by_cases hz : i = 0
    · subst hz
      have a1 : pmOf P t (ks.take 0) = [] := rfl
      have a2 : hmOf t o u (ks.take 0) = [] := rfl
      have a3 : pmOf P t (ks.take (0 + 1)) = [((t : Int), pAt P (8 + 16 * t))] := by unfold pmOf; rw [hne]; rfl
      have a4 : hmOf t o u (ks.take (0 + 1)) = [((t : Int), (o, ((clrB u ks[0] : Nat) : Int), ()))] := by unfold hmOf; rw [hne, clrS_take hi']; rfl
      rw [a1, a2, a3, a4]
      simp only [lookV, Option.isSome_none, cond_false, e16b, upsV]
    · have hne2 : (ks.take i).isEmpty = false := by rw [take_isEmpty hi']; simpa using hz
      have a1 : pmOf P t (ks.take i) = [((t : Int), pAt P (8 + 16 * t))] := by unfold pmOf; rw [hne2]; rfl
      have a2 : hmOf t o u (ks.take i) = [((t : Int), (o, ((clrS u (ks.take i) : Nat) : Int), ()))] := by unfold hmOf; rw [hne2]; rfl
      have a3 : pmOf P t (ks.take (i + 1)) = [((t : Int), pAt P (8 + 16 * t))] := by unfold pmOf; rw [hne]; rfl
      have a4 : hmOf t o u (ks.take (i + 1)) = [((t : Int), (o, ((clrB (clrS u (ks.take i)) ks[i] : Nat) : Int), ()))] := by unfold hmOf; rw [hne, clrS_take hi']; rfl
      rw [a1, a2, a3, a4]
      have q1 : ∀ {α : Type} (v : α), lookV [((t : Int), v)] (t : Int) = some v := fun v => by simp [lookV]
      have q2 : ∀ {α : Type} (v w : α), upsV [((t : Int), v)] (t : Int) w = [((t : Int), w)] := fun v w => by simp [upsV]
      simp only [q1, q2, Option.isSome_some, Option.getD_some, cond_true, e16]
  · show segment_FreeL2b _ _ _ _ _ _ _ _ = _
    unfold segment_FreeL2b
    have : ks.take (ks.map (ptrOf P t)).length = ks := by simp
    simp

theorem free_eq (F : FreeOk n P t o u ks) : segment_Free (104 + 16 * (n : Int)) (ks.map (ptrOf P t)) P = some ([], isort (ks.map (relOf P t) ++ [hdrOf P t o (clrS u ks)]), 0, true) := by
  have hn := F.n1; have ht := F.ht; have k1 := F.k1; have hPl := F.hp.len; have hn0 := F.n0; have k0 := F.k0
  have hm : maxLen = 9223372036854775807 := by decide
  have e1 : segment_isSize (104 + 16 * (n : Int)) = some true := by rw [segment_isSize_eq]; simp; omega
  have e2 : decide ((((ks.map (ptrOf P t)).length : Nat) : Int) < 1) = false := by simp; omega
  have e3 : decide ((3 : Int) < (((ks.map (ptrOf P t)).length : Nat) : Int)) = false := by simp; omega
  have hl2 : ∀ l : List Nat, (l.flatMap fun k : Nat => [104 + 16 * (t : Int) + (k : Int), 104 + 16 * (t : Int)]).length = 2 * l.length := by
    intro l
    induction l with
    | nil => rfl
    | cons a l ih => simp only [List.flatMap_cons, List.length_append, ih, List.length_cons, List.length_nil]; omega
  have e4 : segment_missing P (ks.flatMap fun k : Nat => [104 + 16 * (t : Int) + (k : Int), 104 + 16 * (t : Int)]) = some [] := segment_missing_none P (by omega) _ (by rw [hl2]; omega) fun l hl => by
    obtain ⟨k, hk, hl⟩ := List.mem_flatMap.1 hl
    obtain ⟨h0, h1, _⟩ := F.hk k hk
    simp only [List.mem_cons, List.not_mem_nil, or_false] at hl
    rcases hl with rfl | rfl
    · rw [lat_at F h1]; rfl
    · have := lat_at F (k := 0) (by omega)
      simp only [Int.natCast_zero, Int.add_zero, Int.ofNat_zero] at this
      have h2 : latest P (104 + 16 * (t : Int)) = _ := this
      rw [h2]; rfl
  have e5 : decide ((0 : Int) < ((([] : List Int).length : Nat) : Int)) = false := by decide
  have hne : ks.isEmpty = false := by
    cases hk : ks with
    | nil => rw [hk] at k0; simp at k0
    | cons => rfl
  have a1 : pmOf P t ks = [((t : Int), pAt P (8 + 16 * t))] := by unfold pmOf; rw [hne]; rfl
  have a2 : hmOf t o u ks = [((t : Int), (o, (clrS u ks : Int), ()))] := by unfold hmOf; rw [hne]; rfl
  have hcl := clrS_lt ks u F.hu
  have e6 := segment_WriteHeader_eq (pAt P (8 + 16 * t)) (o, (clrS u ks : Int), ()) (wf_headv F.o0 F.o1 hcl)
  have hlm : lim = 2147483648 := rfl
  have e7 : decide ((ks.map (relOf P t)).length + 1 ≤ lim) = true := by simp; omega
  have e8 : rfold (fun y => (segment_FreeL3_es y).length) segment_FreeL3_n segment_FreeL3_seen segment_FreeL3B (ks.map (relOf P t), pmOf P t ks, ((((hmOf t o u ks).length : Nat) : Int), ([] : List Int)), hmOf t o u ks) [0] =
      some (ks.map (relOf P t) ++ [hdrOf P t o (clrS u ks)], pmOf P t ks, ((((hmOf t o u ks).length : Nat) : Int), [0]), hmOf t o u ks) := by
    have hb : segment_FreeL3B (ks.map (relOf P t), pmOf P t ks, ((((hmOf t o u ks).length : Nat) : Int), ([] : List Int)), hmOf t o u ks) 0 = some (ks.map (relOf P t) ++ [hdrOf P t o (clrS u ks)], pmOf P t ks, ((((hmOf t o u ks).length : Nat) : Int), [0]), hmOf t o u ks) := by
      show segment_FreeL3b _ _ _ _ 0 = _
      unfold segment_FreeL3b
      rw [a1, a2]
      simp only [decide_true, cond_true, Int.toNat_zero, List.getElem?_cons_zero, Option.bind_some, lookV, if_true, Option.getD_some, e6, e7]
      rfl
    simp only [rfold, hb, Option.bind_some]
    simp [segment_FreeL3_n, segment_FreeL3_seen, segment_FreeL3_es]
  have e9 := ascending_eq (ks.map (relOf P t) ++ [hdrOf P t o (clrS u ks)]) (by simp; omega)
  unfold segment_Free
  simp only [e1, e2, e3, Option.bind_some, Bool.not_true, cond_false, free_L1 F, e4, e5, free_L2 F]
  refine demO_of ⟨_, List.Perm.refl _⟩ fun p hp => ?_
  have hidx : p = [0] := by
    have : idx (hmOf t o u ks).length = [0] := by rw [a2]; rfl
    rw [this] at hp
    exact List.perm_singleton.1 hp
  subst hidx
  simp only [decide_true, List.isEmpty_nil, Bool.and_self, cond_true, e8, Option.bind_some, e9]

end
end Go.Sx

/- SegmentOnce: pages that are out, and what keeps them so. -/
set_option linter.unusedVariables false
set_option linter.unusedSimpArgs false
namespace Go.Sx
open Go.RowKit
theorem commit1_comm (P : List Page) (a b : Page) (h : (a.1 - 96).toNat ≠ (b.1 - 96).toNat) : commit1 (commit1 P a) b = commit1 (commit1 P b) a := by
  unfold commit1
  have h2 : (b.1 - 96).toNat ≠ (a.1 - 96).toNat := fun e => h e.symm
  have g1 : ∀ x : Page, (P.set (a.1 - 96).toNat x).getD (b.1 - 96).toNat noPage = P.getD (b.1 - 96).toNat noPage := fun x => by
    simp only [List.getD_eq_getElem?_getD, List.getElem?_set_ne h]
  have g2 : ∀ x : Page, (P.set (b.1 - 96).toNat x).getD (a.1 - 96).toNat noPage = P.getD (a.1 - 96).toNat noPage := fun x => by
    simp only [List.getD_eq_getElem?_getD, List.getElem?_set_ne h2]
  rw [g1, g2, List.set_comm _ _ h]

theorem pAt_commit_ne (P : List Page) (w : Page) {i : Nat} (hi : i < P.length) (hw : 96 ≤ w.1) (hne : w.1 ≠ 96 + (i : Int)) : pAt (commit1 P w) i = pAt P i := by
  unfold commit1 pAt
  have h : (w.1 - 96).toNat ≠ i := by omega
  simp only [List.getD_eq_getElem?_getD, List.getElem?_set_ne h]

theorem pAt_commitAll_ne : ∀ (ws P : List Page) {i : Nat}, i < P.length → (∀ w ∈ ws, 96 ≤ w.1 ∧ w.1 ≠ 96 + (i : Int)) → pAt (commitAll P ws) i = pAt P i
  | [], P, i, _, _ => rfl
  | w :: ws, P, i, hi, h => by
    have e : commitAll P (w :: ws) = commitAll (commit1 P w) ws := rfl
    obtain ⟨h1, h2⟩ := h w (by simp)
    rw [e, pAt_commitAll_ne ws (commit1 P w) (by rw [commit1_len]; exact hi) fun x hx => h x (by simp [hx]), pAt_commit_ne P w hi h1 h2]

theorem isort_two {a b : Page} (h : b.1 < a.1) : isort [a, b] = [b, a] := by
  have h2 : ¬ a.1 ≤ b.1 := by omega
  simp [isort, insR, h2]

section
variable {n : Nat} {P : List Page} {own : Nat → Int} {U : Nat → Nat} {G : Int}
/-- A page is freed. -/
theorem Inv.freed (I : Inv n P own U G) {t k : Nat} (ht : t < n) (k0 : 1 ≤ k) (k1 : k < 16) (ho : 0 ≤ own t) (hb : (U t).testBit k = true) (hkd : (ptag (pAt P (8 + 16 * t + k))).1 ≠ 0) (hg : 1 ≤ (ptag (pAt P (8 + 16 * t + k))).2.1) :
    segment_Free (104 + 16 * (n : Int)) [ptrOf P t k] P = some ([], [hdrOf P t (own t) (clrB (U t) k), relOf P t k], 0, true) ∧ Inv n (commitAll P [hdrOf P t (own t) (clrB (U t) k), relOf P t k]) own (updU U t (clrB (U t) k)) G ∧
    (hdrOf P t (own t) (clrB (U t) k)).1 = 104 + 16 * (t : Int) ∧ (relOf P t k).1 = 104 + 16 * (t : Int) + k := by
  have hn5 := I.n1; have hPl := I.hp.len
  have o1 : own t ≤ 5 := by rcases I.ownr t ht with h | h <;> omega
  obtain ⟨hu, hu0⟩ := I.ub t ht
  have F : FreeOk n P t (own t) (U t) [k] := ⟨I.hp, I.n0, I.n1, ht, ho, o1, hu, hu0, I.hdr t ht, by simp, by simp, by simp, fun j hj => by
    simp only [List.mem_singleton] at hj
    subst hj
    exact ⟨k0, k1, hb, hkd, hg⟩⟩
  have h := free_eq F
  have hlt : 8 + 16 * t + k < P.length := by omega
  have hlt2 : 8 + 16 * t < P.length := by omega
  have wp1 : Wf TPage (pAt P (8 + 16 * t + k)) := by rw [pAt_get hlt]; exact I.hp.wf _ (List.getElem_mem _)
  have wp2 : Wf TPage (pAt P (8 + 16 * t)) := by rw [pAt_get hlt2]; exact I.hp.wf _ (List.getElem_mem _)
  have l1 : (relOf P t k).1 = 96 + ((8 + 16 * t + k : Nat) : Int) := by
    show (pAt P (8 + 16 * t + k)).1 = _
    rw [pAt_get hlt]; exact I.hp.line _ _
  have l2' : (pAt P (8 + 16 * t)).1 = 96 + ((8 + 16 * t : Nat) : Int) := by rw [pAt_get hlt2]; exact I.hp.line _ _
  have hle := clrB_le (U t) k
  have hu' : clrB (U t) k < 65536 := by omega
  have hb0 : (clrB (U t) k).testBit 0 = false := by rw [testBit_clrB _ _ _ hu k1, hu0]; rfl
  have hwh := wf_headv (c := own t) (u := clrB (U t) k) ho o1 hu'
  obtain ⟨b1, b2, b3⟩ := head_again (pAt P (8 + 16 * t)) (own t, ((clrB (U t) k : Nat) : Int), ()) hwh (head_code (by unfold isHdr; simp; omega) (by omega) o1 hu' hb0)
  have l2 : (hdrOf P t (own t) (clrB (U t) k)).1 = 96 + ((8 + 16 * t : Nat) : Int) := b2.trans l2'
  have gb : (ptag (pAt P (8 + 16 * t + k))).2.1 ≤ 16777215 := by unfold ptag tagOf; simp only; omega
  have htag : ptag (relOf P t k) = (0, (ptag (pAt P (8 + 16 * t + k))).2.1, 0, ()) := tag_again _ _ _ _ (by omega) (by omega) (by omega) gb (by omega) (by omega)
  have I1 : Inv n (commit1 P (relOf P t k)) own U G := I.setPage ht k0 k1 (w := relOf P t k) l1 (wf_withTag wp1 (by omega) (by omega) (by omega) gb (by omega) (by omega)) (fun _ => by rw [htag]) (by rw [htag]; exact I.gen t ht k k0 k1)
  have I2 := I1.setHdr ht (w := hdrOf P t (own t) (clrB (U t) k)) l2 (wf_head_written _ _ wp2 hwh) (u := clrB (U t) k) b1 ⟨hu', hb0⟩ (fun i i0 i1 hbi => by
    rw [testBit_clrB _ _ _ hu k1] at hbi
    by_cases e : k = i
    · subst e
      rw [pAt_commit P _ hlt l1 hlt, if_pos rfl, ptag_re, htag]
    · have hbi' : (U t).testBit i = false := by simpa [e] using hbi
      exact I1.page t ht i i0 i1 hbi')
  refine ⟨?_, ?_, by rw [l2]; omega, by rw [l1]; omega⟩
  · have e : isort ([k].map (relOf P t) ++ [hdrOf P t (own t) (clrS (U t) [k])]) = [hdrOf P t (own t) (clrB (U t) k), relOf P t k] := isort_two (by
      show (hdrOf P t (own t) (clrB (U t) k)).1 < (relOf P t k).1
      rw [l1, l2]; omega)
    rw [e] at h
    exact h
  · have e : commitAll P [hdrOf P t (own t) (clrB (U t) k), relOf P t k] = commit1 (commit1 P (relOf P t k)) (hdrOf P t (own t) (clrB (U t) k)) := commit1_comm P _ _ (by rw [l1, l2]; omega)
    rw [e]; exact I2

/-- The pages that are out. -/
abbrev Given : Type := Ptr × Unit
def OutOne (n : Nat) (P : List Page) (own : Nat → Int) (U : Nat → Nat) (q : Given) : Prop := ∃ t k : Nat, t < n ∧ 1 ≤ k ∧ k < 16 ∧ q.1 = ptrOf P t k ∧ (U t).testBit k = true ∧ 0 ≤ own t ∧ (ptag (pAt P (8 + 16 * t + k))).1 ≠ 0 ∧ 1 ≤ (ptag (pAt P (8 + 16 * t + k))).2.1

theorem OutOne.line {q : Given} (h : OutOne n P own U q) : ∃ t k : Nat, t < n ∧ 1 ≤ k ∧ k < 16 ∧ q.1.1 = 104 + 16 * (t : Int) + k ∧ (U t).testBit k = true := by
  obtain ⟨t, k, h1, h2, h3, h4, h5, h6⟩ := h
  exact ⟨t, k, h1, h2, h3, by rw [h4]; rfl, h5⟩

theorem OutOne.keep {q : Given} (h : OutOne n P own U q) {P' : List Page} {own' : Nat → Int} {U' : Nat → Nat} (hp : ∀ t k : Nat, t < n → 1 ≤ k → k < 16 → q.1.1 = 104 + 16 * (t : Int) + k → pAt P' (8 + 16 * t + k) = pAt P (8 + 16 * t + k) ∨ ptag (pAt P' (8 + 16 * t + k)) = ptag (pAt P (8 + 16 * t + k)))
    (ho : ∀ t, t < n → 0 ≤ own t → 0 ≤ own' t) (hU : ∀ t k : Nat, t < n → q.1.1 = 104 + 16 * (t : Int) + k → (U t).testBit k = true → (U' t).testBit k = true) : OutOne n P' own' U' q := by
  obtain ⟨t, k, h1, h2, h3, h4, h5, h6, h7, h8⟩ := h
  have hl : q.1.1 = 104 + 16 * (t : Int) + k := by rw [h4]; rfl
  have ht : ptag (pAt P' (8 + 16 * t + k)) = ptag (pAt P (8 + 16 * t + k)) := by
    rcases hp t k h1 h2 h3 hl with e | e
    · rw [e]
    · exact e
  refine ⟨t, k, h1, h2, h3, ?_, hU t k h1 hl h5, ho t h1 h6, by rw [ht]; exact h7, by rw [ht]; exact h8⟩
  rw [h4]; unfold ptrOf; rw [ht]

end
end Go.Sx

/- SegmentOnce: the pages of a round, and how they go out. -/
set_option linter.unusedVariables false
set_option linter.unusedSimpArgs false
namespace Go.Sx
open Go.RowKit
theorem fill_sub {count : Nat} : ∀ {l : List Nat} {ch u : Nat}, (fill count l ch u).1.Sublist l
  | [], ch, u => by simp [fill]
  | i :: l, ch, u => by
    by_cases hc : ch < count
    · by_cases ht : u.testBit i = true
      · simp only [fill, hc, ht, if_true]
        exact fill_sub.cons _
      · simp only [fill, hc, ht, if_true, if_false, Bool.false_eq_true]
        exact fill_sub.cons_cons _
    · simp [fill, hc]

theorem fillAll_sub {count : Nat} {U : Int → Nat} : ∀ {l : List Int} {ch : Nat}, ∀ x ∈ fillAll count U l ch, x.2.1.Nodup
  | [], ch, x, hx => by cases hx
  | s :: l, ch, x, hx => by
    simp only [fillAll, List.mem_cons] at hx
    rcases hx with rfl | hx
    · exact (range1_nodup).sublist fill_sub
    · exact fillAll_sub x hx

theorem pagesOf_apart (pg : Int → Nat → Page) : ∀ (l : List (Int × List Nat × Nat)), (l.map (·.1)).Nodup → (∀ x ∈ l, x.2.1.Nodup ∧ ∀ k ∈ x.2.1, 1 ≤ k ∧ k < 16 ∧ (pg x.1 k).1 = 104 + 16 * x.1 + k) → (pagesOf pg l).Pairwise fun p q => p.1 ≠ q.1
  | [], _, _ => List.Pairwise.nil
  | x :: l, hn, h => by
    rw [List.map_cons, List.nodup_cons] at hn
    have e : pagesOf pg (x :: l) = x.2.1.map (pg x.1) ++ pagesOf pg l := by simp [pagesOf]
    obtain ⟨h1, h2⟩ := h x (by simp)
    rw [e, List.pairwise_append]
    refine ⟨List.pairwise_map.2 (h1.imp_of_mem fun {a b} ha hb hne => ?_), pagesOf_apart pg l hn.2 fun y hy => h y (by simp [hy]), fun p hp q hq => ?_⟩
    · rw [(h2 a ha).2.2, (h2 b hb).2.2]; omega
    · obtain ⟨a, ha, rfl⟩ := List.mem_map.1 hp
      unfold pagesOf at hq
      obtain ⟨y, hy, hq⟩ := List.mem_flatMap.1 hq
      obtain ⟨b, hb, rfl⟩ := List.mem_map.1 hq
      obtain ⟨a0, a1, ae⟩ := h2 a ha
      obtain ⟨b0, b1, be⟩ := (h y (by simp [hy])).2 b hb
      have hne : x.1 ≠ y.1 := fun e => hn.1 (by rw [e]; exact List.mem_map.2 ⟨y, hy, rfl⟩)
      rw [ae, be]; omega

/-- A page that was found in a segment of c, at a place whose bit is new. -/
def Found2 (n : Nat) (own : Nat → Int) (U U' : Nat → Nat) (c : Int) (G : Int) (p : Page) : Prop := ∃ t i : Nat, t < n ∧ 1 ≤ i ∧ i < 16 ∧ p.1 = 96 + ((8 + 16 * t + i : Nat) : Int) ∧ Wf TPage p ∧ lockedB p = false ∧ (ptag p).1 = 0 ∧ (ptag p).2.1 ≤ G ∧ own t = c ∧ (U t).testBit i = false ∧ (U' t).testBit i = true

theorem round_found2 {n : Nat} {P : List Page} {own : Nat → Int} {U : Nat → Nat} {G : Int} {c count : Nat} (I : Inv n P own U G) :
    (∀ p ∈ pagesOf (pgOf P) (dataOf n own U c count), Found2 n own U (afterU U (dataOf n own U c count)) c G p) ∧ (pagesOf (pgOf P) (dataOf n own U c count)).Pairwise fun p q => p.1 ≠ q.1 := by
  have hn5 := I.n1
  have hPl := I.hp.len
  constructor
  · intro p hp
    unfold pagesOf at hp
    obtain ⟨x, hx, hp⟩ := List.mem_flatMap.1 hp
    obtain ⟨i, hi, rfl⟩ := List.mem_map.1 hp
    obtain ⟨t, q1, q2, q3, q4, q5, q6, q7, q8⟩ := data_mem hx
    obtain ⟨i0, i1⟩ := q8 i hi
    obtain ⟨f1, f2⟩ := fillAll_in (count := count) (U := Ui U) (l := srcOf n own U c count) (ch := 0) x hx i hi
    have e : Ui U x.1 = U t := by unfold Ui; rw [q1, Int.toNat_natCast]
    rw [e] at f2
    have hlt : 8 + 16 * t + i < P.length := by omega
    have e2 : pgOf P x.1 i = pAt P (8 + 16 * t + i) := by unfold pgOf; rw [q1, Int.toNat_natCast]
    have e3 := pAt_get hlt
    refine ⟨t, i, q2, i0, i1, ?_, ?_, ?_, ?_, ?_, q3, f2, ?_⟩
    · rw [e2, e3]; exact I.hp.line _ _
    · rw [e2, e3]; exact I.hp.wf _ (List.getElem_mem _)
    · rw [e2, e3]; exact I.hp.free _ (List.getElem_mem _)
    · rw [e2]; exact I.page t q2 i i0 i1 f2
    · rw [e2]; exact I.gen t q2 i i0 i1
    · rw [afterU_at _ U data_nodup (fun y hy => by obtain ⟨r, hr, _⟩ := data_mem hy; exact ⟨r, hr⟩) x hx t q1 (fun h => by rw [h] at hi; cases hi)]
      exact f1
  · refine pagesOf_apart _ _ data_nodup fun x hx => ⟨fillAll_sub x hx, fun k hk => ?_⟩
    obtain ⟨t, q1, q2, q3, q4, q5, q6, q7, q8⟩ := data_mem hx
    obtain ⟨i0, i1⟩ := q8 k hk
    have hlt : 8 + 16 * t + k < P.length := by omega
    have e2 : pgOf P x.1 k = pAt P (8 + 16 * t + k) := by unfold pgOf; rw [q1, Int.toNat_natCast]
    refine ⟨i0, i1, ?_⟩
    rw [e2, pAt_get hlt, I.hp.line _ _, q1]; omega

theorem afterU_mono {n : Nat} {own : Nat → Int} {c count : Nat} : ∀ (data : List (Int × List Nat × Nat)) (U : Nat → Nat), (data.map (·.1)).Nodup → (∀ x ∈ data, ∃ t : Nat, x.1 = t ∧ ∀ k, (U t).testBit k = true → x.2.2.testBit k = true) → ∀ t k, (U t).testBit k = true → (afterU U data t).testBit k = true := by
  intro data
  induction data with
  | nil => intro U _ _ t k h; exact h
  | cons x l ih =>
    intro U hnd hx t k hb
    rw [List.map_cons, List.nodup_cons] at hnd
    obtain ⟨r, hr, hm⟩ := hx x (by simp)
    by_cases he : x.2.1.isEmpty = true
    · have h1 : afterU U (x :: l) = afterU U l := by simp [afterU, he]
      rw [h1]
      exact ih U hnd.2 (fun y hy => hx y (by simp [hy])) t k hb
    · have h1 : afterU U (x :: l) = afterU (updU U r x.2.2) l := by simp [afterU, he, hr]
      rw [h1]
      refine ih _ hnd.2 (fun y hy => ?_) t k ?_
      · obtain ⟨r', hr', hm'⟩ := hx y (by simp [hy])
        refine ⟨r', hr', fun j hj => hm' j ?_⟩
        have hne : r' ≠ r := fun e => hnd.1 (by rw [hr, ← e, ← hr']; exact List.mem_map.2 ⟨y, hy, rfl⟩)
        unfold updU at hj
        rw [if_neg hne] at hj
        exact hj
      · unfold updU
        by_cases e : t = r
        · subst e; rw [if_pos rfl]; exact hm k hb
        · rw [if_neg e]; exact hb

abbrev Mv : Type := Int × Int × Bool × Int × Unit

theorem onceL1 (l : List Mv) (x1 x2 : Int) (fr : List Page) (x4 x6 x7 : Int) (cur : Val (.pair (.int .i64) THead)) (out : List Given) (ow : List Int) (p : Page) (P : List Page) (hl : out.length ≤ 1000) (h : ∀ q ∈ out, q.1.1 ≠ p.1) :
    law20_SegmentOnceL1 l x1 x2 fr x4 (0 : Int) x6 x7 cur out ow p P = some (.inl (l, x1, x2, fr, x4, x6, x7, cur, out, ow, p, P)) := by
  refine iter_for (body := law20_SegmentOnceL1B) (fun i => (l, x1, x2, fr, x4, (i : Int), x6, x7, cur, out, ow, p, P)) out.length _ (fun i hi => ?_) ?_ 0 (Nat.zero_le _)
  · show law20_SegmentOnceL1b _ _ _ _ _ _ _ _ _ _ _ _ _ = _
    unfold law20_SegmentOnceL1b
    have e1 : decide ((i : Int) < (out.length : Int)) = true := by simp; omega
    have e4 : IntKind.wrap .i64 ((i : Int) + 1) = ((i + 1 : Nat) : Int) := by rw [i64w (by omega) (by omega)]; simp
    have e6 : ∀ d, List.getD out (Int.toNat (i : Int)) d = out[i] := fun d => by simp [List.getD, hi]
    have e7 : decide ((out[i]).1.1 = p.1) = false := by simpa using h _ (List.getElem_mem hi)
    simp only [e1, inR_nat hi, e4, e6, e7, cond_true, cond_false]
  · show law20_SegmentOnceL1b _ _ _ _ _ _ _ _ _ _ _ _ _ = _
    unfold law20_SegmentOnceL1b
    simp

def Lines (out : List Given) : Prop := out.Pairwise fun p q => p.1.1 ≠ q.1.1

theorem onceL2 {n : Nat} {own : Nat → Int} {U0 U : Nat → Nat} {G : Int} {c : Nat} (hc : c ≤ 5) (hG : G + 1 < 16777215) (l : List Mv) (x1 seq : Int) (cur : Val (.pair (.int .i64) THead)) (ow : List Int) (hol : ow.length = 12) (how : ∀ s, s < n → ow.getD s 0 = own s + 1)
    (fr : List Page) (hlen : fr.length ≤ 900) (hfr : ∀ p ∈ fr, Found2 n own U0 U c G p) (hap : fr.Pairwise fun p q => p.1 ≠ q.1) :
    ∀ (d k : Nat), k + d = fr.length → ∀ (P : List Page) (out : List Given), Inv n P own U (G + 1) → (∀ q ∈ out, OutOne n P own U q) → Lines out → (∀ j (hj : j < fr.length), k ≤ j → ∀ q ∈ out, q.1.1 ≠ (fr[j]).1) → out.length + d ≤ 1000 →
    ∃ P' out', law20_SegmentOnceL2 l x1 (c : Int) fr (k : Int) (104 + 16 * (n : Int)) seq cur out ow P = some (.inl (l, x1, 104 + 16 * (n : Int), seq, cur, out', ow, P')) ∧ Inv n P' own U (G + 1) ∧ (∀ q ∈ out', OutOne n P' own U q) ∧ Lines out' ∧ out'.length = out.length + d := by
  intro d
  induction d with
  | zero =>
    intro k hk P out I ho hap2 hj hol2
    refine ⟨P, out, iter_done ?_, I, ho, hap2, by omega⟩
    show law20_SegmentOnceL2b _ _ _ _ _ _ _ _ _ _ _ = _
    unfold law20_SegmentOnceL2b
    have e1 : decide ((k : Int) < ((fr.length : Nat) : Int)) = false := by simp; omega
    simp only [e1, cond_false]
  | succ d ih =>
    intro k hk P out I ho hap2 hj hol2
    have hlt : k < fr.length := by omega
    obtain ⟨t, i, ht, i0, i1, hl, hw, hlk, hkd, hg, hoc, hb0, hb⟩ := hfr fr[k] (List.getElem_mem hlt)
    have hn5 := I.n1; have hn0 := I.n0
    have hPl := I.hp.len
    have hg0 : 0 ≤ (ptag fr[k]).2.1 := by unfold ptag tagOf; simp only; omega
    have e1 : decide ((k : Int) < ((fr.length : Nat) : Int)) = true := by simp; omega
    have e4 : IntKind.wrap .i64 ((k : Int) + 1) = ((k + 1 : Nat) : Int) := by rw [i64w (by omega) (by omega)]; simp
    have e5 : IntKind.wrap .i64 ((c : Int) + 1) = (c : Int) + 1 := i64w (by omega) (by omega)
    have e6 : ∀ d : Page, List.getD fr (Int.toNat (k : Int)) d = fr[k] := fun d => by simp [List.getD, hlt]
    have e7 := pointer_Allocate_eq fr[k] hw 1 (by omega) (by omega) (by omega) (by omega) hlk hkd (by omega)
    have e8 : segment_Locate (104 + 16 * (n : Int)) (fr[k]).1 = some ((t : Int), (i : Int), true) := by
      have hcnt : cnt (104 + 16 * (n : Int)) = (n : Int) := by unfold cnt; rw [if_pos (by omega)]; omega
      rw [segment_Locate_eq _ _ (by omega), hl]
      unfold loc
      rw [hcnt, if_pos (by omega)]
      have f1 : (96 + ((8 + 16 * t + i : Nat) : Int) - 104) / 16 = t := by omega
      have f2 : (96 + ((8 + 16 * t + i : Nat) : Int) - 104) % 16 = i := by omega
      rw [f1, f2]
    have e9 : inR ((t : Nat) : Int) ow.length = true := inR_nat (by omega)
    have e10 : decide (List.getD ow (Int.toNat ((t : Nat) : Int)) (0 : Int) = (c : Int) + 1) = true := by
      rw [Int.toNat_natCast, how t ht, hoc]; simp
    have wq : Wf TPage (withTag fr[k] 1 ((ptag fr[k]).2.1 + 1) 0) := wf_withTag hw (by omega) (by omega) (by omega) (by omega) (by omega) (by omega)
    have e11 := onceL1 l x1 (c : Int) fr (k : Int) (104 + 16 * (n : Int)) seq cur out ow (withTag fr[k] 1 ((ptag fr[k]).2.1 + 1) 0) P (by omega) (fun q hq => hj k hlt (Nat.le_refl _) q hq)
    have htag := tag_again fr[k] 1 ((ptag fr[k]).2.1 + 1) 0 (by omega) (by omega) (by omega) (by omega) (by omega) (by omega)
    have e12 := pointer_At_eq _ wq
    rw [htag] at e12
    have e13 : decide (out.length + 1 ≤ lim) = true := by
      have hlm : lim = 2147483648 := rfl
      simp; omega
    have hcom := heap_Commit_eq [withTag fr[k] 1 ((ptag fr[k]).2.1 + 1) 0] P (104 + 16 * (n : Int)) seq cur (by simp) (by omega) (fun w hw => by
      simp only [List.mem_singleton] at hw
      subst hw
      show 96 ≤ fr[k].1 ∧ fr[k].1 < _
      omega) (fun p hp => wf_u64 (I.hp.wf p hp).2.1)
    have step : law20_SegmentOnceL2b l x1 (c : Int) fr (k : Int) (104 + 16 * (n : Int)) seq cur out ow P = some (.inl (l, x1, (c : Int), fr, ((k + 1 : Nat) : Int), 104 + 16 * (n : Int), seq, cur, out ++ [(((fr[k]).1, (ptag fr[k]).2.1 + 1, ()), ())], ow, commitAll P [withTag fr[k] 1 ((ptag fr[k]).2.1 + 1) 0])) := by
      unfold law20_SegmentOnceL2b
      simp only [e1, inR_nat hlt, cond_true, e6, e7, e8, Option.bind_some, decide_true, Bool.not_true, cond_false, e9, e5, e10, e11, e12, e13, hcom, e4]
      rfl
    have hj1 : 8 + 16 * t + i < P.length := by omega
    have hlw : (withTag fr[k] 1 ((ptag fr[k]).2.1 + 1) 0).1 = 96 + ((8 + 16 * t + i : Nat) : Int) := hl
    have I' : Inv n (commitAll P [withTag fr[k] 1 ((ptag fr[k]).2.1 + 1) 0]) own U (G + 1) := I.setPage ht i0 i1 (w := withTag fr[k] 1 ((ptag fr[k]).2.1 + 1) 0) hl wq (fun h => by rw [hb] at h; cases h) (by rw [htag]; show (ptag fr[k]).2.1 + 1 ≤ G + 1; omega)
    have hat : ptag (pAt (commitAll P [withTag fr[k] 1 ((ptag fr[k]).2.1 + 1) 0]) (8 + 16 * t + i)) = (1, (ptag fr[k]).2.1 + 1, 0, ()) := by
      have : commitAll P [withTag fr[k] 1 ((ptag fr[k]).2.1 + 1) 0] = commit1 P (withTag fr[k] 1 ((ptag fr[k]).2.1 + 1) 0) := rfl
      rw [this, pAt_commit P _ hj1 hlw hj1, if_pos rfl, ptag_re, htag]
    have hnew : OutOne n (commitAll P [withTag fr[k] 1 ((ptag fr[k]).2.1 + 1) 0]) own U ((((fr[k]).1, (ptag fr[k]).2.1 + 1, ()), ()) : Given) := by
      refine ⟨t, i, ht, i0, i1, ?_, hb, by rw [hoc]; omega, by rw [hat]; show (1 : Int) ≠ 0; omega, by rw [hat]; show 1 ≤ (ptag fr[k]).2.1 + 1; omega⟩
      unfold ptrOf
      rw [hat, hl]
      show (96 + ((8 + 16 * t + i : Nat) : Int), (ptag fr[k]).2.1 + 1, ()) = (104 + 16 * (t : Int) + i, (ptag fr[k]).2.1 + 1, ())
      congr 1
      omega
    obtain ⟨P', out', h1, h2, h3, h4, h5⟩ := ih (k + 1) (by omega) _ (out ++ [(((fr[k]).1, (ptag fr[k]).2.1 + 1, ()), ())]) I' (fun q hq => by
      rcases List.mem_append.1 hq with hq | hq
      · refine (ho q hq).keep (fun t' k' a1 a2 a3 a4 => .inl ?_) (fun _ _ h => h) (fun _ _ _ _ h => h)
        have hne := hj k hlt (Nat.le_refl _) q hq
        refine pAt_commitAll_ne _ P (by omega) fun w hw => ?_
        simp only [List.mem_singleton] at hw
        subst hw
        rw [hlw]
        rw [hl, a4] at hne
        omega
      · simp only [List.mem_singleton] at hq
        subst hq
        exact hnew) (by
      unfold Lines
      rw [List.pairwise_append]
      refine ⟨hap2, List.pairwise_singleton _ _, fun q hq r hr => ?_⟩
      simp only [List.mem_singleton] at hr
      subst hr
      exact hj k hlt (Nat.le_refl _) q hq) (fun j hj2 hkj q hq => by
      rcases List.mem_append.1 hq with hq | hq
      · exact hj j hj2 (by omega) q hq
      · simp only [List.mem_singleton] at hq
        subst hq
        exact List.pairwise_iff_getElem.1 hap k j hlt hj2 (by omega)) (by simp; omega)
    refine ⟨P', out', (iter_step step).trans h1, h2, h3, h4, ?_⟩
    rw [h5]; simp; omega

end Go.Sx

/- SegmentOnce: the law. -/
set_option linter.unusedVariables false
set_option linter.unusedSimpArgs false
namespace Go.Sx
open Go.RowKit
/-- What stands between two moves. -/
structure OnceI (n : Nat) (P : List Page) (own : Nat → Int) (U : Nat → Nat) (i : Nat) (out : List Given) (ow : List Int) : Prop where
  inv : Inv n P own U (i : Int)
  out1 : ∀ q ∈ out, OutOne n P own U q
  lines : Lines out
  len : out.length ≤ 4 * i
  ol : ow.length = 12
  ow : ∀ s, s < n → ow.getD s 0 = own s + 1

section
variable {n : Nat} {P : List Page} {own : Nat → Int} {U : Nat → Nat} {i : Nat} {out : List Given} {ow : List Int}
theorem OnceI.next (O : OnceI n P own U i out ow) : OnceI n P own U (i + 1) out ow :=
  ⟨O.inv.mono (by omega), O.out1, O.lines, by have := O.len; omega, O.ol, O.ow⟩

theorem OnceI.acquired (O : OnceI n P own U i out ow) {c s : Nat} (hc : c ≤ 5) (hs : s < n) (hown : own s = -1) : OnceI n (commitAll P [takeN n P own c s, takeH P U c s]) (upd own s c) U (i + 1) out (ow.set s ((c : Int) + 1)) := by
  have hn5 := O.inv.n1
  have hPl := O.inv.hp.len
  have l1 : (takeN n P own c s).1 = 96 + ((2 + c : Nat) : Int) := by
    have hB := or_lt9 (s := s) (bm_lt9 (own := own) hn5 (c : Int)) (by omega)
    have l1 : (pAt P (2 + c)).1 = 96 + ((2 + c : Nat) : Int) := by rw [pAt_get (by omega)]; exact O.inv.hp.line _ _
    exact ((node_again (pAt P (2 + c)) (nodeV ((bm own c n ||| 2 ^ s : Nat) : Int) 1) (wf_nodeV hB (by omega) (by omega)) (node_code (by unfold isOwnL; simp; omega) hB (by omega) (by omega))).2.1).trans l1
  have l2 : (takeH P U c s).1 = 96 + ((8 + 16 * s : Nat) : Int) := by
    have l2 : (pAt P (8 + 16 * s)).1 = 96 + ((8 + 16 * s : Nat) : Int) := by rw [pAt_get (by omega)]; exact O.inv.hp.line _ _
    exact ((head_again (pAt P (8 + 16 * s)) ((c : Int), (U s : Int), ()) (wf_headv (by omega) (by omega) (O.inv.ub s hs).1) (head_code (by unfold isHdr; simp; omega) (by omega) (by omega) (O.inv.ub s hs).1 (O.inv.ub s hs).2)).2.1).trans l2
  refine ⟨(O.inv.taken hc hs hown).mono (by omega), fun q hq => (O.out1 q hq).keep (fun t k h1 h2 h3 h4 => .inl ?_) (fun t ht h => ?_) (fun _ _ _ _ h => h), O.lines, by have := O.len; omega, by rw [List.length_set]; exact O.ol, fun t ht => ?_⟩
  · refine pAt_commitAll_ne _ P (by omega) fun w hw => ?_
    simp only [List.mem_cons, List.not_mem_nil, or_false] at hw
    rcases hw with rfl | rfl
    · rw [l1]; omega
    · rw [l2]; omega
  · unfold upd
    split
    · omega
    · exact h
  · unfold upd
    have := O.ol
    by_cases e : t = s
    · subst e
      simp [List.getD, show t < ow.length by omega]
    · have e2 : s ≠ t := fun h => e h.symm
      rw [if_neg e, ← O.ow t ht]
      simp only [List.getD_eq_getElem?_getD, List.getElem?_set_ne e2]

theorem OnceI.freed (O : OnceI n P own U i out ow) {k : Nat} (hk : k < out.length) : ∃ ws P' U', segment_Free (104 + 16 * (n : Int)) [(out[k]).1] P = some ([], ws, 0, true) ∧ (∀ seq cur, heap_Heap_Commit ws (104 + 16 * (n : Int)) seq cur P = some (104 + 16 * (n : Int), seq, cur, P')) ∧ OnceI n P' own U' (i + 1) (out.take k ++ out.drop (k + 1)) ow := by
  have hn5 := O.inv.n1
  have hPl := O.inv.hp.len
  obtain ⟨t, j, h1, h2, h3, h4, h5, h6, h7, h8⟩ := O.out1 _ (List.getElem_mem hk)
  obtain ⟨f1, f2, f3, f4⟩ := O.inv.freed h1 h2 h3 h6 h5 h7 h8
  rw [← h4] at f1
  have hlq : (out[k]).1.1 = 104 + 16 * (t : Int) + j := by rw [h4]; rfl
  have hcom : ∀ seq cur, heap_Heap_Commit [hdrOf P t (own t) (clrB (U t) j), relOf P t j] (104 + 16 * (n : Int)) seq cur P = _ := fun seq cur => heap_Commit_eq [hdrOf P t (own t) (clrB (U t) j), relOf P t j] P (104 + 16 * (n : Int)) seq cur (by simp) (by omega) (fun w hw => by
    simp only [List.mem_cons, List.not_mem_nil, or_false] at hw
    rcases hw with rfl | rfl
    · rw [f3]; omega
    · rw [f4]; omega) (fun p hp => wf_u64 (O.inv.hp.wf p hp).2.1)
  have hsub : (out.take k ++ out.drop (k + 1)).Sublist out := by
    have : out = out.take k ++ out.drop k := (List.take_append_drop k out).symm
    conv => rhs; rw [this]
    refine List.Sublist.append (List.Sublist.refl _) ?_
    rw [List.drop_eq_getElem_cons hk]
    exact (List.Sublist.refl _).cons _
  have hu := O.inv.ub t h1
  refine ⟨_, _, _, f1, hcom, f2.mono (by omega), fun q hq => ?_, O.lines.sublist hsub, ?_, O.ol, O.ow⟩
  · have hq2 := hsub.subset hq
    have hne : q.1.1 ≠ (out[k]).1.1 := by
      have hp := O.lines
      unfold Lines at hp
      rcases List.mem_append.1 hq with h | h
      · obtain ⟨a, ha, rfl⟩ := List.mem_take_iff_getElem.1 h
        exact List.pairwise_iff_getElem.1 hp a k (by omega) hk (by omega)
      · obtain ⟨a, ha, rfl⟩ := List.mem_drop_iff_getElem.1 h
        exact fun e => List.pairwise_iff_getElem.1 hp k (k + 1 + a) hk (by omega) (by omega) e.symm
    refine (O.out1 q hq2).keep (fun t' k' a1 a2 a3 a4 => .inl ?_) (fun _ _ h => h) (fun t' k' a1 a2 a3 => ?_)
    · refine pAt_commitAll_ne _ P (by omega) fun w hw => ?_
      simp only [List.mem_cons, List.not_mem_nil, or_false] at hw
      rw [hlq, a4] at hne
      rcases hw with rfl | rfl
      · rw [f3]; omega
      · rw [f4]; omega
    · unfold updU
      by_cases e : t' = t
      · subst e
        rw [if_pos rfl, testBit_clrB _ _ _ hu.1 h3, a3]
        have : j ≠ k' := fun e => hne (by rw [hlq, a2, e])
        simp [this]
      · rw [if_neg e]; exact a3
  · have h9 := O.len
    simp only [List.length_append, List.length_take, List.length_drop]
    omega

set_option maxRecDepth 100000 in
set_option maxHeartbeats 1000000 in
theorem onceL3 {n : Nat} (l : List Mv) (hl : l.length ≤ 40) (seq : Int) (cur : Val (.pair (.int .i64) THead)) : ∀ (d i : Nat), i + d = l.length → ∀ (P : List Page) (own : Nat → Int) (U : Nat → Nat) (out : List Given) (ow : List Int), OnceI n P own U i out ow →
    law20_SegmentOnceL3 l (i : Int) (104 + 16 * (n : Int)) seq cur out ow P = some (.inl ()) := by
  intro d
  induction d with
  | zero =>
    intro i hi P own U out ow O
    refine iter_done ?_
    show law20_SegmentOnceL3b _ _ _ _ _ _ _ _ = _
    unfold law20_SegmentOnceL3b
    have e1 : decide ((i : Int) < (l.length : Int)) = false := by simp; omega
    simp only [e1, cond_false]
  | succ d ih =>
    intro i hi P own U out ow O
    have hlt : i < l.length := by omega
    have hn5 := O.inv.n1; have hn0 := O.inv.n0
    have hPl := O.inv.hp.len
    have hol := O.len
    have hlm : lim = 2147483648 := rfl
    have e1 : decide ((i : Int) < (l.length : Int)) = true := by simp; omega
    have e4 : IntKind.wrap .i64 ((i : Int) + 1) = ((i + 1 : Nat) : Int) := by rw [i64w (by omega) (by omega)]; simp
    have e6 : ∀ d : Mv, List.getD l (Int.toNat (i : Int)) d = l[i] := fun d => by simp [List.getD, hlt]
    obtain ⟨c, hc⟩ : ∃ c : Nat, (l[i]).1 % 3 = c := ⟨((l[i]).1 % 3).toNat, by omega⟩
    have hc3 : c ≤ 2 := by omega
    have e7 : hand_Pick (l[i]).1 3 = some (c : Int) := by rw [hand_Pick_eq _ 3 (by omega) (by omega), hc]
    by_cases hf : (l[i]).2.2.1 = true ∧ 0 < out.length
    · obtain ⟨hf1, hf2⟩ := hf
      have e8 : decide ((0 : Int) < ((out.length : Nat) : Int)) = true := by simp; omega
      obtain ⟨k, hk⟩ : ∃ k : Nat, (l[i]).2.2.2.1 % ((out.length : Nat) : Int) = k := ⟨((l[i]).2.2.2.1 % ((out.length : Nat) : Int)).toNat, by
        have := Int.emod_nonneg (l[i]).2.2.2.1 (show ((out.length : Nat) : Int) ≠ 0 by omega); omega⟩
      have hko : k < out.length := by
        have := Int.emod_lt_of_pos (l[i]).2.2.2.1 (show 0 < ((out.length : Nat) : Int) by omega); omega
      have e9 : hand_Pick (l[i]).2.2.2.1 ((out.length : Nat) : Int) = some (k : Int) := by rw [hand_Pick_eq _ _ (by omega) (by omega), hk]
      have e10 : ∀ d : Given, List.getD out (Int.toNat (k : Int)) d = out[k] := fun d => by simp [List.getD, hko]
      obtain ⟨ws, P', U', f1, f2, f3⟩ := O.freed hko
      have e11 : (decide ((0 : Int) ≤ (k : Int)) && decide ((k : Int) ≤ ((out.length : Nat) : Int))) = true := by simp; omega
      have e12 : decide (0 + (List.drop 0 (List.take (Int.toNat (k : Int)) out)).length ≤ lim) = true := by simp; omega
      have e13 : IntKind.wrap .i64 ((k : Int) + 1) = ((k + 1 : Nat) : Int) := by rw [i64w (by omega) (by omega)]; simp
      have e14 : ((decide ((0 : Int) ≤ ((k + 1 : Nat) : Int)) && decide (((k + 1 : Nat) : Int) ≤ ((out.length : Nat) : Int))) && decide (((out.length : Nat) : Int) ≤ ((out.length : Nat) : Int))) = true := by simp; omega
      have e15 : decide ((([] : List Given) ++ (List.drop 0 (List.take (Int.toNat (k : Int)) out))).length + (List.drop (Int.toNat ((k + 1 : Nat) : Int)) (List.take out.length out)).length ≤ lim) = true := by simp; omega
      have e16 : (([] : List Given) ++ (List.drop 0 (List.take (Int.toNat (k : Int)) out))) ++ (List.drop (Int.toNat ((k + 1 : Nat) : Int)) (List.take out.length out)) = out.take k ++ out.drop (k + 1) := by simp
      have step : law20_SegmentOnceL3b l (i : Int) (104 + 16 * (n : Int)) seq cur out ow P = some (.inl (l, ((i + 1 : Nat) : Int), 104 + 16 * (n : Int), seq, cur, out.take k ++ out.drop (k + 1), ow, P')) := by
        unfold law20_SegmentOnceL3b
        simp only [e1, inR_nat hlt, e6, e7, Option.bind_some, cond_true, hf1, e8, e9, inR_nat hko, e10, f1, f2, Bool.not_true, cond_false, decide_true, e11, e12, e13, e14, e15, e16, e4]
      exact (iter_step step).trans (ih (i + 1) (by omega) _ _ _ _ _ f3)
    · have hnf : (l[i]).2.2.1 = false ∨ ((l[i]).2.2.1 = true ∧ decide ((0 : Int) < ((out.length : Nat) : Int)) = false) := by
        cases hb : (l[i]).2.2.1 with
        | false => exact .inl rfl
        | true => exact .inr ⟨rfl, decide_eq_false fun h => hf ⟨hb, by omega⟩⟩
      obtain ⟨m, hm⟩ : ∃ m : Nat, (l[i]).2.1 % 4 = m := ⟨((l[i]).2.1 % 4).toNat, by omega⟩
      have hm4 : m < 4 := by omega
      have e8 : hand_Pick (l[i]).2.1 4 = some (m : Int) := by rw [hand_Pick_eq _ 4 (by omega) (by omega), hm]
      have e9 : IntKind.wrap .i64 (1 + (m : Int)) = ((m + 1 : Nat) : Int) := by rw [i64w (by omega) (by omega)]; omega
      have hal := O.inv.alloc (c := c) (count := m + 1) (by omega) (by omega) (by omega) (by omega)
      by_cases hfull : total (dataOf n own U c (m + 1)) < m + 1
      · rw [if_pos hfull] at hal
        have d12 : decide ((12 : Int) = 12) = true := by decide
        have d0 : decide ((12 : Int) = 0) = false := by decide
        have hacq := O.inv.acquire (c := c) (by omega)
        cases hfr : firstFree own c n with
        | none =>
          rw [hfr] at hacq
          have hacq' : segment_Acquire ((c : Int), 1, 104 + 16 * (n : Int), -1, ()) P = some ([], [], 0, 12, true) := hacq
          have step : law20_SegmentOnceL3b l (i : Int) (104 + 16 * (n : Int)) seq cur out ow P = some (.inl (l, ((i + 1 : Nat) : Int), 104 + 16 * (n : Int), seq, cur, out, ow, P)) := by
            unfold law20_SegmentOnceL3b
            rcases hnf with h | ⟨h, h2⟩
            · simp only [e1, inR_nat hlt, e6, e7, Option.bind_some, cond_true, h, cond_false, e8, e9, hal, d12, hacq', Bool.not_true, d0, Bool.not_false, decide_true, e4]
            · simp only [e1, inR_nat hlt, e6, e7, Option.bind_some, cond_true, h, h2, cond_false, e8, e9, hal, d12, hacq', Bool.not_true, d0, Bool.not_false, decide_true, e4]
          exact (iter_step step).trans (ih (i + 1) (by omega) _ _ _ _ _ O.next)
        | some s =>
          rw [hfr] at hacq
          have hacq' : segment_Acquire ((c : Int), 1, 104 + 16 * (n : Int), -1, ()) P = some ([], [takeN n P own c s, takeH P U c s], (s : Int), 0, true) := hacq
          obtain ⟨hs, hown⟩ := firstFree_some hn0 hfr
          have O' := O.acquired (c := c) (by omega) hs hown
          have g1 : decide ((s : Int) < 0) = false := by simp
          have g2 : segment_Count (104 + 16 * (n : Int)) = some (n : Int) := by
            rw [segment_Count_eq]; unfold cnt; rw [if_pos (by omega)]; congr 1; omega
          have g3 : decide ((n : Int) ≤ (s : Int)) = false := by simp; omega
          have g4 : inR (s : Int) ow.length = true := inR_nat (by rw [O.ol]; omega)
          have g5 : decide (List.getD ow s (0 : Int) = 0) = true := by
            rw [O.ow s hs, hown]; rfl
          have g6 : IntKind.wrap .i64 ((c : Int) + 1) = (c : Int) + 1 := i64w (by omega) (by omega)
          have hB := or_lt9 (s := s) (bm_lt9 (own := own) hn5 (c : Int)) (by omega)
          have l1 : (pAt P (2 + c)).1 = 96 + ((2 + c : Nat) : Int) := by rw [pAt_get (by omega)]; exact O.inv.hp.line _ _
          have l2 : (pAt P (8 + 16 * s)).1 = 96 + ((8 + 16 * s : Nat) : Int) := by rw [pAt_get (by omega)]; exact O.inv.hp.line _ _
          have a2 := (node_again (pAt P (2 + c)) (nodeV ((bm own c n ||| 2 ^ s : Nat) : Int) 1) (wf_nodeV hB (by omega) (by omega)) (node_code (by unfold isOwnL; simp; omega) hB (by omega) (by omega))).2.1
          have b2 := (head_again (pAt P (8 + 16 * s)) ((c : Int), (U s : Int), ()) (wf_headv (by omega) (by omega) (O.inv.ub s hs).1) (head_code (by unfold isHdr; simp; omega) (by omega) (by omega) (O.inv.ub s hs).1 (O.inv.ub s hs).2)).2.1
          have hcom := heap_Commit_eq [takeN n P own c s, takeH P U c s] P (104 + 16 * (n : Int)) seq cur (by simp) (by omega) (fun w hw => by
            simp only [List.mem_cons, List.not_mem_nil, or_false] at hw
            rcases hw with rfl | rfl
            · unfold takeN; rw [a2, l1]; omega
            · unfold takeH; rw [b2, l2]; omega) (fun p hp => wf_u64 (O.inv.hp.wf p hp).2.1)
          have step : law20_SegmentOnceL3b l (i : Int) (104 + 16 * (n : Int)) seq cur out ow P = some (.inl (l, ((i + 1 : Nat) : Int), 104 + 16 * (n : Int), seq, cur, out, ow.set s ((c : Int) + 1), commitAll P [takeN n P own c s, takeH P U c s])) := by
            have t0 : Int.toNat (s : Int) = s := Int.toNat_natCast s
            unfold law20_SegmentOnceL3b
            rcases hnf with h | ⟨h, h2⟩
            · simp only [e1, inR_nat hlt, e6, e7, Option.bind_some, cond_true, h, cond_false, e8, e9, hal, d12, hacq', Bool.not_true, decide_true, g1, g2, g3, g4, g5, g6, hcom, e4, t0]
            · simp only [e1, inR_nat hlt, e6, e7, Option.bind_some, cond_true, h, h2, cond_false, e8, e9, hal, d12, hacq', Bool.not_true, decide_true, g1, g2, g3, g4, g5, g6, hcom, e4, t0]
          exact (iter_step step).trans (ih (i + 1) (by omega) _ _ _ _ _ O')
      · rw [if_neg hfull] at hal
        obtain ⟨r1, r2, r3⟩ := round_ok O.inv (c := c) (count := m + 1) (by omega) hfull
        obtain ⟨r4, r5⟩ := round_found2 O.inv (c := c) (count := m + 1)
        generalize hfrsh : pagesOf (pgOf P) (dataOf n own U c (m + 1)) = fr at hal r1 r4 r5
        have hwl : ∀ w ∈ writesOf (hpOf P) c (dataOf n own U c (m + 1)), ∃ t : Nat, t < n ∧ w.1 = 104 + 16 * (t : Int) := by
          intro w hw
          unfold writesOf at hw
          obtain ⟨x, hx, rfl⟩ := List.mem_map.1 hw
          obtain ⟨t, q1, q2, q3, q4, q5, q6, q7, q8⟩ := data_mem (List.mem_filter.1 hx).1
          have e3 : hpOf P x.1 = pAt P (8 + 16 * t) := by unfold hpOf; rw [q1, Int.toNat_natCast]
          have l2 : (pAt P (8 + 16 * t)).1 = 96 + ((8 + 16 * t : Nat) : Int) := by rw [pAt_get (by omega)]; exact O.inv.hp.line _ _
          refine ⟨t, q2, ?_⟩
          rw [e3]
          unfold writeHead
          split
          · have hu : x.2.2 < 65536 := by
              refine fillAll_bd (count := m + 1) (U := Ui U) (l := srcOf n own U c (m + 1)) (ch := 0) (fun s hs => ?_) x (List.mem_filter.1 hx).1
              obtain ⟨t', rfl, h2, _⟩ := owned_bm.1 (sources_sub.1 _ hs)
              have : Ui U (t' : Int) = U t' := by unfold Ui; rw [Int.toNat_natCast]
              rw [this]; exact (O.inv.ub t' h2).1
            have hb0 : x.2.2.testBit 0 = false := by
              cases hb : x.2.2.testBit 0 with
              | false => rfl
              | true =>
                rcases q7 0 hb with h | h
                · rw [(O.inv.ub t q2).2] at h; cases h
                · have := (q8 0 h).1; omega
            have hcode := head_code (p := pAt P (8 + 16 * t)) (c := (c : Int)) (u := x.2.2) (by unfold isHdr; simp; omega) (by omega) (by omega) hu hb0
            unfold writeHead at hcode
            rename_i hif
            rw [if_pos hif] at hcode
            exact absurd hcode (by decide)
          · show (pAt P (8 + 16 * t)).1 = _
            rw [l2]; omega
        have hlenw : (writesOf (hpOf P) c (dataOf n own U c (m + 1))).length ≤ 1000 := by
          unfold writesOf
          rw [List.length_map]
          refine Nat.le_trans (List.length_filter_le _ _) ?_
          have h1 : (dataOf n own U c (m + 1)).length = (srcOf n own U c (m + 1)).length := by
            have : ((dataOf n own U c (m + 1)).map (·.1)).length = (srcOf n own U c (m + 1)).length := by unfold dataOf; rw [fillAll_fst]
            rw [List.length_map] at this
            exact this
          have h2 := (sources_sub (count := m + 1) (U := Ui U) (segs := ownedL (bm own c n : Nat) n)).2.2 (by have := owned_len (bm own c n : Nat) n; omega)
          have h3 : (srcOf n own U c (m + 1)).length ≤ 9 := h2
          omega
        have hcom := heap_Commit_eq (writesOf (hpOf P) c (dataOf n own U c (m + 1))) P (104 + 16 * (n : Int)) seq cur hlenw (by omega) (fun w hw => by
          obtain ⟨t, ht, hw⟩ := hwl w hw
          rw [hw]; omega) (fun p hp => wf_u64 (O.inv.hp.wf p hp).2.1)
        have hmono := afterU_mono (n := n) (own := own) (c := c) (count := m + 1) (dataOf n own U c (m + 1)) U data_nodup (fun x hx => by
          obtain ⟨t, q1, q2, q3, q4, q5, q6, _⟩ := data_mem hx
          exact ⟨t, q1, q6⟩)
        have hout1 : ∀ q ∈ out, OutOne n (commitAll P (writesOf (hpOf P) c (dataOf n own U c (m + 1)))) own (afterU U (dataOf n own U c (m + 1))) q := fun q hq =>
          (O.out1 q hq).keep (fun t k h1 h2 h3 h4 => .inl (pAt_commitAll_ne _ P (by omega) fun w hw => by
            obtain ⟨t', ht', hw⟩ := hwl w hw
            rw [hw]; omega)) (fun _ _ h => h) (fun t k _ _ h => hmono t k h)
        obtain ⟨P', out', s1, s2, s3, s4, s5⟩ := onceL2 (G := (i : Int)) (c := c) (by omega) (by omega) l (i : Int) seq cur ow O.ol O.ow fr (by omega) r4 r5 (m + 1) 0 (by omega) _ out (r2.mono (by omega)) hout1 O.lines (fun j hj _ q hq => by
          obtain ⟨t, k, a1, a2, a3, a4, a5⟩ := (O.out1 q hq).line
          obtain ⟨t', k', b1, b2, b3, b4, _, _, _, _, _, b5, _⟩ := r4 _ (List.getElem_mem hj)
          intro e
          rw [a4, b4] at e
          have e1 : t = t' := by omega
          have e2 : k = k' := by omega
          subst e1 e2
          rw [a5] at b5
          cases b5) (by omega)
        have g0 : ((0 : Nat) : Int) = 0 := rfl
        rw [g0] at s1
        have d12 : decide ((0 : Int) = 12) = false := by decide
        have g1 : decide (((fr.length : Nat) : Int) = ((m + 1 : Nat) : Int)) = true := by simp; omega
        have step : law20_SegmentOnceL3b l (i : Int) (104 + 16 * (n : Int)) seq cur out ow P = some (.inl (l, ((i + 1 : Nat) : Int), 104 + 16 * (n : Int), seq, cur, out', ow, P')) := by
          unfold law20_SegmentOnceL3b
          rcases hnf with h | ⟨h, h2⟩
          · simp only [e1, inR_nat hlt, e6, e7, Option.bind_some, cond_true, h, cond_false, e8, e9, hal, d12, Bool.not_true, decide_true, g1, hcom, s1, e4]
          · simp only [e1, inR_nat hlt, e6, e7, Option.bind_some, cond_true, h, h2, cond_false, e8, e9, hal, d12, Bool.not_true, decide_true, g1, hcom, s1, e4]
        refine (iter_step step).trans (ih (i + 1) (by omega) _ _ _ _ _ ⟨s2.mono (by omega), s3, s4, by omega, O.ol, O.ow⟩)

theorem segmentOnce_pure (size : Int) (l : List Mv) (h0 : Wf (.int .i64) size) (h1 : Wf (.slice (.pair (.int .i64) (.pair (.int .i64) (.pair .bool (.pair (.int .i64) .unit))))) l) : law20_SegmentOnce size l = some true := by
  unfold law20_SegmentOnce
  by_cases hl : (40 : Int) < ((l.length : Nat) : Int)
  · simp only [decide_eq_true hl, cond_true]
  · obtain ⟨s, hs⟩ : ∃ s : Nat, size % 5 = s := ⟨(size % 5).toNat, by omega⟩
    have hs5 : s < 5 := by omega
    have e1 : heap_Size size = some (104 + 16 * ((s + 1 : Nat) : Int)) := by
      unfold heap_Size
      rw [hand_Pick_eq size 5 (by omega) (by omega), hs]
      simp only [Option.bind_some]
      rw [i64w (n := 1 + (s : Int)) (by omega) (by omega), i64w (n := 16 * (1 + (s : Int))) (by omega) (by omega), i64w (by omega) (by omega)]
      congr 1
      omega
    have e2 : heap_New (104 + 16 * ((s + 1 : Nat) : Int)) = some (104 + 16 * ((s + 1 : Nat) : Int), 0, cur0, newPages (8 + 16 * (s + 1))) := by
      have := heap_New_eq (8 + 16 * (s + 1)) (by omega)
      have e : 96 + ((8 + 16 * (s + 1) : Nat) : Int) = 104 + 16 * ((s + 1 : Nat) : Int) := by omega
      rw [e] at this
      exact this
    have I := inv_new (s + 1) (by omega) (by omega)
    have O : OnceI (s + 1) (newPages (8 + 16 * (s + 1))) (fun _ => -1) (fun _ => 0) 0 [] (List.replicate 12 (0 : Int)) := ⟨I, fun q hq => (by cases hq), List.Pairwise.nil, by simp, by simp, fun t ht => by
      have ht12 : t < 12 := by omega
      rw [List.getD_eq_getElem?_getD, List.getElem?_replicate, if_pos ht12]; rfl⟩
    have key := onceL3 l (by omega) 0 cur0 l.length 0 (by omega) _ _ _ _ _ O
    have key' : law20_SegmentOnceL3 l (0 : Int) (104 + 16 * ((s + 1 : Nat) : Int)) 0 cur0 [] (List.replicate 12 (0 : Int)) (newPages (8 + 16 * (s + 1))) = some (.inl ()) := key
    have e3 : law20_awake = some true := awake20
    simp only [decide_eq_false hl, cond_false, e3, Option.bind_some, Bool.not_true, e1, e2, key']

end
end Go.Sx

