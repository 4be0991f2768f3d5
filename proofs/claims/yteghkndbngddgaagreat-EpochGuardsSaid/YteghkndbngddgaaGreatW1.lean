/- W1: printed by a program of this session: the functions of the seat as plain functions, and that the code comes to them. -/
import Derived.Test.YteghkndbngddgaaGreatA2
import Derived.Test.YteghkndbngddgaaGreatQ2
/- Known pages, plainly: the latest of a line, node pages, header pages, segments of a bitmap, what is missing. -/
set_option linter.unusedVariables false
set_option linter.unusedSimpArgs false
namespace Go.Sx
open Go.RowKit
def latest (known : List Page) (line : Int) : Option Page := known.reverse.find? fun p => decide (p.1 = line)
theorem latest_upto (known : List Page) (line : Int) (hl : known.length ≤ maxLen) : ∀ k, k ≤ known.length →
    qf7L1 known line ((k : Int) - 1) noPage = some (match (known.take k).reverse.find? fun p => decide (p.1 = line) with
      | none => .inl noPage
      | some p => .inr (true, p)) := by
  have hm : maxLen = 9223372036854775807 := by decide
  intro k
  induction k with
  | zero =>
    intro _
    refine iter_done ?_
    show qf7L1b known line ((0 : Nat) - 1 : Int) noPage = _
    unfold qf7L1b
    simp
  | succ k ih =>
    intro hk
    have e : ((k + 1 : Nat) : Int) - 1 = (k : Int) := by omega
    rw [e]
    have hlt : k < known.length := by omega
    have hg : ∀ d : Page, List.getD known k d = known[k] := fun d => by simp [List.getD, hlt]
    have ht : (known.take (k + 1)).reverse = known[k] :: (known.take k).reverse := by
      rw [List.take_add_one, List.getElem?_eq_getElem hlt]; simp
    rw [ht, List.find?_cons]
    have hb : qf7L1b known line (k : Int) noPage = bif decide (known[k].1 = line) then some (.inr (.inr (true, known[k]))) else some (.inl (known, line, (k : Int) - 1, noPage)) := by
      unfold qf7L1b
      have h0 : decide ((0 : Int) ≤ (k : Int)) = true := by simp
      have h1 : inR (k : Int) known.length = true := inR_nat hlt
      have h2 : IntKind.wrap .i64 ((k : Int) - 1) = (k : Int) - 1 := i64w (by omega) (by omega)
      simp only [h0, h1, h2, Int.toNat_natCast, hg, cond_true]
    by_cases hc : known[k].1 = line
    · rw [decide_eq_true hc]
      rw [decide_eq_true hc, cond_true] at hb
      exact iter_done hb
    · rw [decide_eq_false hc]
      rw [decide_eq_false hc, cond_false] at hb
      exact (iter_step hb).trans (ih (by omega))
theorem qf7_eq (known : List Page) (line : Int) (hl : known.length ≤ maxLen) : qf7 known line = some ((latest known line).getD noPage, (latest known line).isSome) := by
  have hm : maxLen = 9223372036854775807 := by decide
  have h := latest_upto known line hl known.length (Nat.le_refl _)
  rw [List.take_length] at h
  have hw : IntKind.wrap .i64 ((known.length : Int) - 1) = (known.length : Int) - 1 := i64w (by omega) (by omega)
  unfold qf7
  rw [hw]
  have h' : qf7L1 known line ((known.length : Int) - 1) ((0 : Int), ((0 : Int), ((List.replicate 7 (0 : Int)), ()))) = _ := h
  rw [h']
  unfold latest
  cases (known.reverse.find? fun p => decide (p.1 = line)) <;> rfl
def ownedL (b : Int) (n : Nat) : List Int := ((List.range n).filter fun s => decide (b / 2 ^ s % 2 = 1)).map Int.ofNat
theorem bit_u32 {b : Int} (h0 : 0 ≤ b) (h1 : b ≤ 4294967295) (s : Nat) (hs : s ≤ 32) : IntKind.wrap .u32 ((BitVec.ofInt (IntKind.bits .u32) (shiftR .u32 b (s : Int)) &&& BitVec.ofInt (IntKind.bits .u32) (1 : Int)).toNat : Int) = b / 2 ^ s % 2 := by
  have e : shiftR .u32 b (s : Int) = b / 2 ^ s := shr_u32 s hs
  have p : (0 : Int) < 2 ^ s := Int.pow_pos (by omega)
  have q0 : 0 ≤ b / 2 ^ s := Int.ediv_nonneg h0 (by omega)
  have q1 : b / 2 ^ s ≤ b := Int.ediv_le_self _ h0
  have hb : IntKind.bits .u32 = 32 := rfl
  rw [e, hb, bits_and q0 (by omega) (by omega) (by omega)]
  have : (b / 2 ^ s).toNat &&& Int.toNat 1 = (b / 2 ^ s).toNat % 2 := by
    exact and_mask (b / 2 ^ s).toNat 1
  rw [this, u32w (by omega) (by omega)]
  omega
theorem qf26_eq (b : Int) (h0 : 0 ≤ b) (h1 : b ≤ 4294967295) (n : Nat) (hn : n ≤ 9) : qf26 b (n : Int) = some (ownedL b n) := by
  unfold qf26
  have : qf26L1 b (n : Int) (0 : Int) [] = some (ownedL b n) := by
    refine iter_for (fun i => (b, (n : Int), (i : Int), ownedL b i)) n (ownedL b n) (fun i hi => ?_) ?_ 0 (Nat.zero_le _)
    · show qf26L1b b n i (ownedL b i) = _
      unfold qf26L1b
      have e1 : decide ((i : Int) < (n : Int)) = true := by simp; omega
      have e2 : IntKind.wrap .u64 (i : Int) = i := u64w (by omega) (by omega)
      have e3 : decide ((0 : Int) ≤ (i : Int)) = true := by simp
      have e4 : IntKind.wrap .i64 ((i : Int) + 1) = ((i + 1 : Nat) : Int) := by rw [i64w (by omega) (by omega)]; simp
      have e5 : decide ((ownedL b i).length + 1 ≤ lim) = true := by
        have : (ownedL b i).length ≤ i := by
          unfold ownedL
          rw [List.length_map]
          exact Nat.le_trans (List.length_filter_le _ _) (by simp)
        have hl : lim = 2147483648 := rfl
        simp; omega
      simp only [e1, e2, e3, e4, e5, cond_true, bit_u32 h0 h1 i (by omega)]
      have e6 : ownedL b (i + 1) = if b / 2 ^ i % 2 = 1 then ownedL b i ++ [(i : Int)] else ownedL b i := by
        unfold ownedL
        rw [List.range_succ, List.filter_append, List.map_append]
        by_cases hc : b / 2 ^ i % 2 = 1 <;> simp [hc]
      rw [e6]
      by_cases hc : b / 2 ^ i % 2 = 1 <;> simp [hc]
    · show qf26L1b b n n (ownedL b n) = _
      unfold qf26L1b
      simp
  rw [this]; rfl
def lockedB (p : Page) : Bool := !decide (p.2.1 % 256 = 0)
theorem qf17_eq (p : Page) (h : Wf TPage p) : qf17 p = some (lockedB p) := by
  obtain ⟨h0, h1⟩ := wf_u64 h.2.1
  unfold qf17 lockedB
  have hb : IntKind.bits .u64 = 64 := rfl
  rw [hb, and255 h0 (by omega) (by decide), u64w (by omega) (by omega)]
theorem latest_wf {known : List Page} (h : ∀ p ∈ known, Wf TPage p) {line : Int} {p : Page} (hp : latest known line = some p) : Wf TPage p ∧ p.1 = line := by
  unfold latest at hp
  have h1 := List.mem_of_find?_eq_some hp
  have h2 := List.find?_some hp
  exact ⟨h p (by simpa using h1), by simpa using h2⟩
def nodeS (known : List Page) (c : Int) : Page × Node × Bool × Int := match latest known (98 + c) with
  | none => (noPage, noNode, false, 0)
  | some p => if lockedB p = true then (noPage, noNode, true, 3) else (p, (readNode p).1, true, (readNode p).2)
theorem qf24_eq (known : List Page) (hk : ∀ p ∈ known, Wf TPage p) (hl : known.length ≤ maxLen) (c : Int) (h0 : 0 ≤ c) (h1 : c ≤ 5) : qf24 known c = some (nodeS known c) := by
  unfold qf24 nodeS
  rw [i64w (by omega) (by omega), qf7_eq known _ hl]
  cases hp : latest known (98 + c) with
  | none => rfl
  | some p =>
    have hw := latest_wf hk hp
    simp only [Option.bind_some, Option.isSome_some, Bool.not_true, cond_false, Option.getD_some, qf17_eq p hw.1]
    cases hb : lockedB p with
    | true => simp only [cond_true, if_true]; rfl
    | false =>
      simp only [cond_false, Bool.false_eq_true, if_false, qf23_eq p hw.1, Option.bind_some]
def headerS (known : List Page) (s : Int) : Page × Head × Bool × Int := match latest known (hdr20 s) with
  | none => (noPage, noHead, false, 0)
  | some p => if lockedB p = true then (noPage, noHead, true, 3) else (p, (readHead p).1, true, (readHead p).2)
theorem qf35_eq (known : List Page) (hk : ∀ p ∈ known, Wf TPage p) (hl : known.length ≤ maxLen) (s : Int) : qf35 known s = some (headerS known s) := by
  unfold qf35 headerS
  rw [qf27_eq]
  simp only [Option.bind_some]
  rw [qf7_eq known _ hl]
  cases hp : latest known (hdr20 s) with
  | none => rfl
  | some p =>
    have hw := latest_wf hk hp
    simp only [Option.bind_some, Option.isSome_some, Bool.not_true, cond_false, Option.getD_some, qf17_eq p hw.1]
    cases hb : lockedB p with
    | true => simp only [cond_true, if_true]; rfl
    | false =>
      simp only [cond_false, Bool.false_eq_true, if_false, qf34_eq p hw.1, Option.bind_some]
theorem qf28_eq (l : List Int) (hl : l.length ≤ 1000) : qf28 l = some (l.map hdr20) := by
  unfold qf28
  have : qf28L1 l (l.length : Int) (0 : Int) [] = some (l.map hdr20) := by
    refine iter_for (fun i => (l, (l.length : Int), (i : Int), (l.take i).map hdr20)) l.length (l.map hdr20) (fun i hi => ?_) ?_ 0 (Nat.zero_le _)
    · show qf28L1b l l.length i ((l.take i).map hdr20) = _
      unfold qf28L1b
      have e1 : decide ((i : Int) < (l.length : Int)) = true := by simp; omega
      have e4 : IntKind.wrap .i64 ((i : Int) + 1) = ((i + 1 : Nat) : Int) := by rw [i64w (by omega) (by omega)]; simp
      have e5 : decide ((((l.take i).map hdr20).length) + 1 ≤ lim) = true := by
        have hl : lim = 2147483648 := rfl
        simp; omega
      have e6 : List.getD l (Int.toNat (i : Int)) 0 = l[i] := by simp [List.getD, hi]
      simp only [e1, inR_nat hi, e4, e6, cond_true, qf27_eq, Option.bind_some, e5]
      have e7 : (l.take (i + 1)).map hdr20 = (l.take i).map hdr20 ++ [hdr20 l[i]] := by
        rw [List.take_add_one, List.getElem?_eq_getElem hi, List.map_append]; rfl
      rw [e7]
    · show qf28L1b l l.length l.length ((l.take l.length).map hdr20) = _
      unfold qf28L1b
      simp
  rw [this]; rfl
theorem sort_nil : qf14 [] = some [] := by
  have h1 : qf12L2 0 0 1 [] = some [] := iter_done (by rfl)
  have h2 : qf13L1 0 0 0 true true [] = some [] := by
    refine iter_done ?_
    show qf13L1b 0 0 0 true true [] = _
    unfold qf13L1b qf12
    have e : IntKind.wrap .i64 ((0 : Int) - 0) = 0 := i64w (by omega) (by omega)
    have e2 : IntKind.wrap .i64 ((0 : Int) + 1) = 1 := i64w (by omega) (by omega)
    simp only [e, e2, h1, Option.bind_some]
    rfl
  have h3 : qf9 0 = some 0 := by kernel_rfl
  unfold qf14 qf13
  have e : IntKind.wrap .u64 (((([] : List Int).length) : Nat) : Int) = 0 := u64w (by simp) (by simp)
  rw [e, h3]
  simp only [Option.bind_some, List.length_nil]
  have h2' : qf13L1 0 ((0 : Nat) : Int) 0 true true [] = some [] := h2
  rw [h2']; rfl
theorem qf16_none (known : List Page) (hl : known.length ≤ maxLen) (lines : List Int) (hn : lines.length ≤ 1000) (h : ∀ l ∈ lines, (latest known l).isSome = true) : qf16 known lines = some [] := by
  unfold qf16
  have : qf16L1 known lines (lines.length : Int) (0 : Int) [] = some [] := by
    refine iter_for (fun i => (known, lines, (lines.length : Int), (i : Int), ([] : List Int))) lines.length [] (fun i hi => ?_) ?_ 0 (Nat.zero_le _)
    · show qf16L1b known lines lines.length i [] = _
      unfold qf16L1b
      have e1 : decide ((i : Int) < (lines.length : Int)) = true := by simp; omega
      have e4 : IntKind.wrap .i64 ((i : Int) + 1) = ((i + 1 : Nat) : Int) := by rw [i64w (by omega) (by omega)]; simp
      have e6 : List.getD lines (Int.toNat (i : Int)) 0 = lines[i] := by simp [List.getD, hi]
      simp only [e1, inR_nat hi, e4, e6, cond_true, qf7_eq known _ hl, Option.bind_some, h _ (List.getElem_mem hi), Bool.not_true, cond_false]
    · show qf16L1b known lines lines.length lines.length [] = _
      unfold qf16L1b
      simp
  rw [this]
  have h1 : qf15 [] = some [] := by
    unfold qf15
    simp
  rw [Option.bind_some, sort_nil, Option.bind_some, h1]
  rfl
end Go.Sx

/- Tags of pages; allocating and releasing a page; what a commit does to a heap's pages. -/
set_option linter.unusedVariables false
set_option linter.unusedSimpArgs false
namespace Go.Sx
open Go.RowKit
abbrev Tag : Type := Int × Int × Int × Unit
def tagOf (w : Int) : Tag := (w % 256, w / 256 % 16777216, w / 4294967296, ())
theorem and_maskI {n k : Nat} {a : Int} (h0 : 0 ≤ a) (h1 : a < (2 : Int) ^ n) (m : Int) (hm : m = 2 ^ k - 1) (hk : (m : Int) < (2 : Int) ^ n) : (((BitVec.ofInt n a &&& BitVec.ofInt n m).toNat : Nat) : Int) = a % 2 ^ k := by
  have hp : (0 : Int) < 2 ^ k := Int.pow_pos (by decide)
  rw [bits_and h0 h1 (by omega) hk]
  have e : m.toNat = 2 ^ k - 1 := by
    subst hm
    have h2 : (2 : Int) ^ k = ((2 ^ k : Nat) : Int) := by simp
    have : 0 < 2 ^ k := Nat.two_pow_pos k
    omega
  rw [e, and_mask]
  have h2 : (2 : Int) ^ k = ((2 ^ k : Nat) : Int) := by simp
  rw [h2]
  obtain ⟨A, rfl⟩ : ∃ A : Nat, a = A := ⟨a.toNat, by omega⟩
  simp
theorem qf52_eq (w : Int) (h0 : 0 ≤ w) (h1 : w ≤ 18446744073709551615) : qf52 w = some (tagOf w) := by
  unfold qf52 tagOf
  have hb : IntKind.bits .u64 = 64 := rfl
  have e8 : shiftR .u64 w 8 = w / 256 := by have := shr_u64 (a := w) 8 (by omega); simpa using this
  have e32 : shiftR .u64 w 32 = w / 4294967296 := by have := shr_u64 (a := w) 32 (by omega); simpa using this
  rw [hb, e8, e32, and255 h0 (by omega) (by decide)]
  have e24 := and_maskI (n := 64) (k := 24) (a := w / 256) (by omega) (by omega) 16777215 (by decide) (by decide)
  rw [e24]
  have hq : w / 256 % 2 ^ 24 = w / 256 % 16777216 := rfl
  rw [hq, u64w (by omega) (by omega), u64w (by omega) (by omega), i64w (by omega) (by omega), i64w (by omega) (by omega), u32w (by omega) (by omega)]
theorem or8 (K G : Nat) (hK : K ≤ 255) (hG : G ≤ 16777215) : ((BitVec.ofInt 64 (K : Int) ||| BitVec.ofInt 64 ((G : Int) * 256)).toNat : Int) = (K : Int) + 256 * G := by
  rw [bits_or (by omega) (by omega) (by omega) (by omega)]
  have hp : (2 : Nat) ^ 8 = 256 := by decide
  have h := or_low G K 8 (by omega)
  rw [hp, Nat.or_comm] at h
  have e1 : ((G : Int) * 256).toNat = G * 256 := by omega
  rw [e1, Int.toNat_natCast, h]
  omega
theorem or32 (K X : Nat) (hK : K ≤ 4294967295) (hX : X ≤ 4294967295) : ((BitVec.ofInt 64 (K : Int) ||| BitVec.ofInt 64 ((X : Int) * 4294967296)).toNat : Int) = (K : Int) + 4294967296 * X := by
  rw [bits_or (by omega) (by omega) (by omega) (by omega)]
  have hp : (2 : Nat) ^ 32 = 4294967296 := by decide
  have h := or_low X K 32 (by omega)
  rw [hp, Nat.or_comm] at h
  have e1 : ((X : Int) * 4294967296).toNat = X * 4294967296 := by omega
  rw [e1, Int.toNat_natCast, h]
  omega
theorem pack_tag (k g x : Int) (hk0 : 0 ≤ k) (hk1 : k ≤ 255) (hg0 : 0 ≤ g) (hg1 : g ≤ 16777215) (hx0 : 0 ≤ x) (hx1 : x ≤ 4294967295) : qf55 (k, g, x, ()) = some (k + 256 * g + 4294967296 * x) := by
  unfold qf55
  have hb : IntKind.bits .u64 = 64 := rfl
  simp only
  rw [hb, u64w (n := k) hk0 (by omega), u64w (n := g) hg0 (by omega), u64w (n := x) hx0 (by omega), and255 hk0 (by omega) (by decide)]
  have e24 := and_maskI (n := 64) (k := 24) (a := g) hg0 (by omega) 16777215 (by decide) (by decide)
  rw [e24]
  have e1 : k % 256 = k := by omega
  have e2 : g % 2 ^ 24 = g := by
    have : (2 : Int) ^ 24 = 16777216 := by decide
    rw [this]; omega
  rw [e1, e2, u64w (n := k) hk0 (by omega), u64w (n := g) hg0 (by omega)]
  have s8 : shiftL .u64 g 8 = g * 256 := by
    have : shiftL .u64 g 8 = IntKind.wrap .u64 (g * 256) := by simp [shiftL, IntKind.bits]
    rw [this, u64w (by omega) (by omega)]
  have s32 : shiftL .u64 x 32 = x * 4294967296 := shl_u64 x hx0 hx1
  rw [s8, s32]
  obtain ⟨K, rfl⟩ : ∃ K : Nat, k = K := ⟨k.toNat, by omega⟩
  obtain ⟨G, rfl⟩ : ∃ G : Nat, g = G := ⟨g.toNat, by omega⟩
  obtain ⟨X, rfl⟩ : ∃ X : Nat, x = X := ⟨x.toNat, by omega⟩
  rw [or8 K G (by omega) (by omega), u64w (n := (K : Int) + 256 * G) (by omega) (by omega)]
  have p2 := or32 (K + 256 * G) X (by omega) (by omega)
  have e3 : ((K + 256 * G : Nat) : Int) = (K : Int) + 256 * G := by omega
  rw [e3] at p2
  rw [p2]
  first | rw [u64w (by omega) (by omega)] | rfl
def ptag (p : Page) : Tag := tagOf (p.2.2.1.getD 0 0)
theorem wf_word {p : Page} (h : Wf TPage p) (i : Nat) : 0 ≤ p.2.2.1.getD i 0 ∧ p.2.2.1.getD i 0 ≤ 18446744073709551615 := by
  by_cases hi : i < 7
  · have := wf_getD (t := .int .u64) (i := i) (d := (0 : Int)) h.2.2.1 hi
    exact wf_u64 this
  · have hl : p.2.2.1.length = 7 := h.2.2.1.1
    have : p.2.2.1.getD i 0 = 0 := by simp [List.getD, List.getElem?_eq_none (show p.2.2.1.length ≤ i by omega)]
    rw [this]; omega
theorem qf54_eq (p : Page) (h : Wf TPage p) : qf54 p = some (ptag p) := by
  unfold qf54 ptag
  obtain ⟨h0, h1⟩ := wf_word h 0
  rw [qf52_eq _ h0 h1]; rfl
def withTag (p : Page) (k g x : Int) : Page := (p.1, p.2.1, [k + 256 * g + 4294967296 * x, 0, 0, 0, 0, 0, 0], ())
theorem qf57_eq (p : Page) (h : Wf TPage p) (k : Int) (hk0 : 1 ≤ k) (hk1 : k ≤ 4) (hl0 : 104 ≤ p.1) (hl1 : p.1 < 256) (hlk : lockedB p = false) (hf : (ptag p).1 = 0) (hg : (ptag p).2.1 < 16777215) :
    qf57 p k 0 = some (withTag p k ((ptag p).2.1 + 1) 0, 0) := by
  have hg0 : 0 ≤ (ptag p).2.1 := by unfold ptag tagOf; simp only; omega
  have hh : qf20 p.1 = some true := by
    unfold qf20
    simp [hl0, hl1]
  unfold qf57
  rw [qf54_eq p h, hh, qf17_eq p h, hlk]
  have d1 : decide (k < 1) = false := by simp; omega
  have d2 : decide ((4 : Int) < k) = false := by simp; omega
  have d3 : decide ((ptag p).1 = 0) = true := by simp [hf]
  have d4 : decide ((ptag p).2.1 = 16777215) = false := by simp; omega
  simp only [Option.bind_some, Bool.not_true, cond_false, d1, d2, d3, d4]
  unfold qf56
  rw [i64w (by omega) (by omega), pack_tag k ((ptag p).2.1 + 1) 0 (by omega) (by omega) (by omega) (by omega) (by omega) (by omega)]
  rfl
theorem qf83_eq (p : Page) (h : Wf TPage p) (hl0 : 104 ≤ p.1) (hl1 : p.1 < 256) (hlk : lockedB p = false) (hf : (ptag p).1 ≠ 0) :
    qf83 p = some (withTag p 0 (ptag p).2.1 0, 0) := by
  have hg0 : 0 ≤ (ptag p).2.1 ∧ (ptag p).2.1 ≤ 16777215 := by unfold ptag tagOf; simp only; omega
  have hh : qf20 p.1 = some true := by
    unfold qf20
    simp [hl0, hl1]
  unfold qf83
  rw [qf54_eq p h, hh, qf17_eq p h, hlk]
  have d3 : decide ((ptag p).1 = 0) = false := by simp [hf]
  simp only [Option.bind_some, Bool.not_true, cond_false, d3]
  unfold qf56
  rw [pack_tag 0 (ptag p).2.1 0 (by omega) (by omega) (by omega) (by omega) (by omega) (by omega)]
  rfl
theorem qf58_eq (p : Page) (h : Wf TPage p) : qf58 p = some (p.1, (ptag p).2.1, ()) := by
  unfold qf58
  rw [qf54_eq p h]; rfl
theorem tag_again (p : Page) (k g x : Int) (hk0 : 0 ≤ k) (hk1 : k ≤ 255) (hg0 : 0 ≤ g) (hg1 : g ≤ 16777215) (hx0 : 0 ≤ x) (hx1 : x ≤ 4294967295) : ptag (withTag p k g x) = (k, g, x, ()) := by
  unfold ptag withTag tagOf
  simp only [List.getD_cons_zero]
  ext <;> simp only <;> omega
def bump (h : Int) : Int := (h / 256 + 1) * 256 % 18446744073709551616
theorem bump_bd (h : Int) : 0 ≤ bump h ∧ bump h ≤ 18446744073709551615 ∧ bump h % 256 = 0 := by
  unfold bump; omega
theorem bump_eq (h : Int) (h0 : 0 ≤ h) (h1 : h ≤ 18446744073709551615) : IntKind.wrap .u64 ((IntKind.wrap .u64 ((IntKind.wrap .u64 (Int.tdiv h (256 : Int))) + (1 : Int))) * (256 : Int)) = bump h := by
  have e : Int.tdiv h 256 = h / 256 := Int.tdiv_eq_ediv_of_nonneg h0
  rw [e, u64w (n := h / 256) (by omega) (by omega), u64w (n := h / 256 + 1) (by omega) (by omega)]
  unfold bump
  rfl
def commit1 (P : List Page) (w : Page) : List Page := P.set (w.1 - 96).toNat (w.1, bump ((P.getD (w.1 - 96).toNat noPage).2.1), w.2.2)
def commitAll (P ws : List Page) : List Page := ws.foldl commit1 P
theorem commit1_len (P : List Page) (w : Page) : (commit1 P w).length = P.length := by simp [commit1]
theorem commitAll_len (ws : List Page) : ∀ P, (commitAll P ws).length = P.length := by
  induction ws with
  | nil => intro P; rfl
  | cons w ws ih => intro P; exact (ih _).trans (commit1_len P w)
theorem heap_Commit_eq (ws P : List Page) (a1 a2 : Int) (a3 : Val (.pair (.int .i64) THead)) (hn : ws.length ≤ 1000) (hl : P.length ≤ 1000) (hw : ∀ w ∈ ws, 96 ≤ w.1 ∧ w.1 < 96 + P.length) (hp : ∀ p ∈ P, 0 ≤ p.2.1 ∧ p.2.1 ≤ 18446744073709551615) :
    qf49 ws a1 a2 a3 P = some (a1, a2, a3, commitAll P ws) := by
  unfold qf49
  have key : qf49L1 ws (0 : Int) a1 a2 a3 P = some (a1, a2, a3, commitAll P ws) := by
    have good : ∀ i, i ≤ ws.length → ∀ p ∈ commitAll P (ws.take i), 0 ≤ p.2.1 ∧ p.2.1 ≤ 18446744073709551615 := by
      intro i
      induction i with
      | zero => intro _ p hpp; exact hp p (by simpa [commitAll] using hpp)
      | succ i ih =>
        intro hi p hpp
        have hlt : i < ws.length := by omega
        have e : commitAll P (ws.take (i + 1)) = commit1 (commitAll P (ws.take i)) ws[i] := by
          unfold commitAll
          rw [List.take_add_one, List.getElem?_eq_getElem hlt, List.foldl_append]; rfl
        rw [e] at hpp
        unfold commit1 at hpp
        rcases List.mem_or_eq_of_mem_set hpp with h | h
        · exact ih (by omega) p h
        · subst h
          have := bump_bd ((List.getD (commitAll P (ws.take i)) (ws[i].1 - 96).toNat noPage).2.1)
          exact ⟨this.1, this.2.1⟩
    refine iter_for (fun i => (ws, (i : Int), a1, a2, a3, commitAll P (ws.take i))) ws.length _ (fun i hi => ?_) ?_ 0 (Nat.zero_le _)
    · show qf49L1b ws i a1 a2 a3 (commitAll P (ws.take i)) = _
      have hw := hw ws[i] (List.getElem_mem hi)
      have hP := commitAll_len (ws.take i) P
      have e1 : decide ((i : Int) < ((ws.length : Nat) : Int)) = true := by simp; omega
      have e4 : IntKind.wrap .i64 ((i : Int) + 1) = ((i + 1 : Nat) : Int) := by rw [i64w (by omega) (by omega)]; simp
      have e6 : ∀ d : Page, List.getD ws (Int.toNat (i : Int)) d = ws[i] := fun d => by simp [List.getD, hi]
      have e7 : IntKind.wrap .i64 (ws[i].1 - 96) = ws[i].1 - 96 := i64w (by omega) (by omega)
      have e8 : decide ((0 : Int) ≤ ws[i].1 - 96) = true := by simp; omega
      have e9 : decide (ws[i].1 - 96 < (((commitAll P (ws.take i)).length : Nat) : Int)) = true := by rw [hP]; simp; omega
      have e10 : inR (ws[i].1 - 96) (commitAll P (ws.take i)).length = true := by rw [hP]; simp [inR]; omega
      have e : commitAll P (ws.take (i + 1)) = commit1 (commitAll P (ws.take i)) ws[i] := by
        unfold commitAll
        rw [List.take_add_one, List.getElem?_eq_getElem hi, List.foldl_append]; rfl
      have hlt : (ws[i].1 - 96).toNat < (commitAll P (ws.take i)).length := by rw [hP]; omega
      have hg : ∀ d : Page, List.getD (commitAll P (ws.take i)) (ws[i].1 - 96).toNat d = (commitAll P (ws.take i))[(ws[i].1 - 96).toNat] := fun d => by simp [List.getD, hlt]
      have hb := good i (by omega) _ (List.getElem_mem hlt)
      have hbe := bump_eq _ hb.1 hb.2
      rw [e]
      unfold qf49L1b commit1
      simp only [e1, inR_nat hi, e4, e6, e7, e8, e9, e10, cond_true, hg, hbe]
    · show qf49L1b ws ws.length a1 a2 a3 (commitAll P (ws.take ws.length)) = _
      unfold qf49L1b
      simp
  rw [key]; rfl
end Go.Sx

/- Allocation of pages, plainly: the loops of Allocate on known pages that are in order. -/
set_option linter.unusedVariables false
set_option linter.unusedSimpArgs false
namespace Go.Sx
open Go.RowKit
section
variable {α : Type}
theorem upsV_new : ∀ {es : List (Int × α)} {k : Int} {v : α}, (∀ e ∈ es, e.1 ≠ k) → upsV es k v = es ++ [(k, v)]
  | [], k, v, _ => rfl
  | (m, y) :: es, k, v, h => by
    have h1 : ¬ k = m := fun e => h (m, y) (by simp) e.symm
    simp [upsV, h1, upsV_new (es := es) (k := k) (v := v) fun e he => h e (by simp [he])]
theorem upsV_twice : ∀ {es : List (Int × α)} {k : Int} {v w : α}, upsV (upsV es k v) k w = upsV es k w
  | [], k, v, w => by simp [upsV]
  | (m, y) :: es, k, v, w => by
    by_cases h : k = m
    · subst h; simp [upsV]
    · simp [upsV, h, upsV_twice (es := es)]
theorem lookV_map {f : Int → α} : ∀ {l : List Int} {j : Int}, lookV (l.map fun s => (s, f s)) j = if j ∈ l then some (f j) else none
  | [], j => by simp [lookV]
  | s :: l, j => by
    by_cases h : j = s
    · subst h; simp [lookV]
    · simp [lookV, h, lookV_map (l := l)]
end
theorem bit_nat (u i : Nat) : ((u : Int) / 2 ^ i % 2 = 1) ↔ u.testBit i = true := by
  have e : ((u : Int) / 2 ^ i) = ((u / 2 ^ i : Nat) : Int) := by simp
  rw [e, Nat.testBit_eq_decide_div_mod_eq]
  simp only [decide_eq_true_eq]
  omega
theorem set_bit (u i : Nat) (hu : u < 65536) (hi : i < 16) : IntKind.wrap .u32 ((BitVec.ofInt (IntKind.bits .u32) (u : Int) ||| BitVec.ofInt (IntKind.bits .u32) (shiftL .u32 (1 : Int) (i : Int))).toNat : Int) = ((u ||| 2 ^ i : Nat) : Int) := by
  have hb : IntKind.bits .u32 = 32 := rfl
  have h16 : 2 ^ i < 65536 := by
    have : 2 ^ i < 2 ^ 16 := Nat.pow_lt_pow_right (by omega) hi
    have h2 : (2 : Nat) ^ 16 = 65536 := by decide
    omega
  have e : shiftL .u32 (1 : Int) (i : Int) = ((2 ^ i : Nat) : Int) := by
    have e1 : shiftL .u32 (1 : Int) (i : Int) = IntKind.wrap .u32 (1 * 2 ^ i) := by
      unfold shiftL
      rw [show min (Int.toNat (i : Int)) (IntKind.bits .u32) = i by simp [IntKind.bits]; omega]
    have e2 : (2 : Int) ^ i = ((2 ^ i : Nat) : Int) := by simp
    rw [e1, Int.one_mul, e2]
    generalize 2 ^ i = q at h16
    exact u32w (by omega) (by omega)
  have hlt : u ||| 2 ^ i < 2 ^ 16 := by
    have h2 : (2 : Nat) ^ 16 = 65536 := by decide
    exact Nat.or_lt_two_pow (by omega) (by omega)
  have h2 : (2 : Nat) ^ 16 = 65536 := by decide
  rw [h2] at hlt
  rw [e]
  generalize 2 ^ i = q at h16 hlt
  rw [hb, bits_or (by omega) (by omega) (by omega) (by omega), Int.toNat_natCast, Int.toNat_natCast]
  generalize u ||| q = z at hlt
  exact u32w (by omega) (by omega)
theorem testBit_set (u i j : Nat) : (u ||| 2 ^ i).testBit j = (u.testBit j || decide (i = j)) := by
  rw [Nat.testBit_or, Nat.testBit_two_pow]
def fill (count : Nat) : List Nat → Nat → Nat → List Nat × Nat
  | [], _, u => ([], u)
  | i :: is, ch, u => if ch < count then (if u.testBit i then fill count is ch u else (i :: (fill count is (ch + 1) (u ||| 2 ^ i)).1, (fill count is (ch + 1) (u ||| 2 ^ i)).2)) else ([], u)
theorem fill_nil {count : Nat} : ∀ {l : List Nat} {ch u : Nat}, (fill count l ch u).1 = [] → (fill count l ch u).2 = u
  | [], ch, u, _ => rfl
  | i :: l, ch, u, h => by
    by_cases hc : ch < count
    · by_cases ht : u.testBit i = true
      · simp only [fill, hc, ht, if_true] at h ⊢
        exact fill_nil h
      · simp [fill, hc, ht] at h
    · simp [fill, hc]
def Fresh (p : Page) : Prop := Wf TPage p ∧ lockedB p = false ∧ (ptag p).1 = 0 ∧ (ptag p).2.1 < 16777215
abbrev Req : Type := Int × Int × Int × Unit
theorem allocateL3_eq (known : List Page) (hl : known.length ≤ maxLen) (pg : Nat → Page) (s : Int) (hs0 : 0 ≤ s) (hs1 : s ≤ 8) (c : Int) (count : Nat) (hc : count ≤ 12) (segs src need : List Int) (n idx : Int) (req : Req) (hreq : req.2.2.1 = count)
    (pm : List (Int × Page)) (hm : List (Int × Head)) : ∀ (d k : Nat), k + d = 16 → ∀ (ch u : Nat) (fr : List Page) (chg : List (Int × Head)), u < 65536 → fr.length + d ≤ 1000 → ch + d ≤ 1000 →
    (∀ i, k ≤ i → i < 16 → u.testBit i = false → latest known (hdr20 s + i) = some (pg i) ∧ Fresh (pg i)) →
    qf53L3 known segs ch s k src n idx req need fr pm hm chg (c, (u : Int), ()) =
      some (.inl (known, segs, (ch + (fill count (List.range' k d) ch u).1.length : Nat), src, n, idx, req, need, fr ++ (fill count (List.range' k d) ch u).1.map pg, pm, hm,
        (if (fill count (List.range' k d) ch u).1 = [] then chg else upsV chg s (c, ((fill count (List.range' k d) ch u).2 : Int), ())))) := by
  have hlim : lim = 2147483648 := rfl
  have hh : hdr20 s = 104 + 16 * s := by unfold hdr20; rw [if_pos (by omega)]
  intro d
  induction d with
  | zero =>
    intro k hk ch u fr chg hu hfr hch hg
    refine iter_done ?_
    show qf53L3b known segs ch s k src n idx req need fr pm hm chg (c, (u : Int), ()) = _
    unfold qf53L3b
    have e1 : decide ((k : Int) < 16) = false := by simp; omega
    simp only [e1, cond_false, List.range'_zero, fill, List.length_nil, Nat.add_zero, List.map_nil, List.append_nil, if_true]
  | succ d ih =>
    intro k hk ch u fr chg hu hfr hch hg
    have e1 : decide ((k : Int) < 16) = true := by simp; omega
    have e2 : IntKind.wrap .u64 (k : Int) = k := u64w (by omega) (by omega)
    have e3 : decide ((0 : Int) ≤ (k : Int)) = true := by simp
    have e4 : IntKind.wrap .i64 ((k : Int) + 1) = ((k + 1 : Nat) : Int) := by rw [i64w (by omega) (by omega)]; simp
    have e5 : IntKind.wrap .i64 ((ch : Int) + 1) = ((ch + 1 : Nat) : Int) := by rw [i64w (by omega) (by omega)]; simp
    rw [List.range'_succ]
    by_cases hcc : ch < count
    · have e6 : decide ((ch : Int) < req.2.2.1) = true := by rw [hreq]; simp; omega
      have hb := bit_u32 (b := (u : Int)) (by omega) (by omega) k (by omega)
      by_cases htb : u.testBit k = true
      · have e7 : decide ((u : Int) / 2 ^ k % 2 = 1) = true := by simpa using (bit_nat u k).2 htb
        have step : qf53L3b known segs ch s k src n idx req need fr pm hm chg (c, (u : Int), ()) = some (.inl (known, segs, (ch : Int), s, ((k + 1 : Nat) : Int), src, n, idx, req, need, fr, pm, hm, chg, (c, (u : Int), ()))) := by
          unfold qf53L3b
          simp only [e1, e2, e3, e6, cond_true, hb, e7, e4]
        have hf : fill count (k :: List.range' (k + 1) d) ch u = fill count (List.range' (k + 1) d) ch u := by simp [fill, hcc, htb]
        rw [hf]
        exact (iter_step step).trans (ih (k + 1) (by omega) ch u fr chg hu (by omega) (by omega) fun i h1 h2 h3 => hg i (by omega) h2 h3)
      · have htb : u.testBit k = false := by simpa using htb
        have e7 : decide ((u : Int) / 2 ^ k % 2 = 1) = false := by
          rw [decide_eq_false_iff_not]
          intro h
          rw [(bit_nat u k).1 h] at htb; cases htb
        obtain ⟨hp, hw, hlk, hkd, hgn⟩ := hg k (Nat.le_refl _) (by omega) htb
        have e8 : IntKind.wrap .i64 (hdr20 s + (k : Int)) = hdr20 s + k := i64w (by omega) (by omega)
        obtain ⟨w0, w1⟩ := wf_word hw 0
        have e9 : qf52 (List.getD (pg k).2.2.1 0 0) = some (ptag (pg k)) := qf52_eq _ w0 w1
        have e10 : decide ((ptag (pg k)).1 = 0) = true := by simpa using hkd
        have e11 : decide ((ptag (pg k)).2.1 = 16777215) = false := by simp; omega
        have e12 : decide (fr.length + 1 ≤ lim) = true := by simp; omega
        have e13 := set_bit u k hu (by omega)
        have step : qf53L3b known segs ch s k src n idx req need fr pm hm chg (c, (u : Int), ()) = some (.inl (known, segs, ((ch + 1 : Nat) : Int), s, ((k + 1 : Nat) : Int), src, n, idx, req, need, fr ++ [pg k], pm, hm, upsV chg s (c, ((u ||| 2 ^ k : Nat) : Int), ()), (c, ((u ||| 2 ^ k : Nat) : Int), ()))) := by
          unfold qf53L3b
          simp only [e1, e2, e3, e6, cond_true, hb, e7, cond_false, qf27_eq, Option.bind_some, e8, qf7_eq known _ hl, hp, Option.getD_some, e9, Option.isSome_some, Bool.not_true, qf17_eq _ hw, hlk, e10, e11, e12, e4, e5, e13]
        have hu' : u ||| 2 ^ k < 65536 := by
          have h16 : 2 ^ k < 2 ^ 16 := Nat.pow_lt_pow_right (by omega) (by omega)
          have h2 : (2 : Nat) ^ 16 = 65536 := by decide
          have := Nat.or_lt_two_pow (x := u) (y := 2 ^ k) (n := 16) (by omega) (by omega)
          omega
        have hf : fill count (k :: List.range' (k + 1) d) ch u = (k :: (fill count (List.range' (k + 1) d) (ch + 1) (u ||| 2 ^ k)).1, (fill count (List.range' (k + 1) d) (ch + 1) (u ||| 2 ^ k)).2) := by simp [fill, hcc, htb]
        rw [hf]
        have hi := ih (k + 1) (by omega) (ch + 1) (u ||| 2 ^ k) (fr ++ [pg k]) (upsV chg s (c, ((u ||| 2 ^ k : Nat) : Int), ())) hu' (by simp; omega) (by omega) (fun i h1 h2 h3 => hg i (by omega) h2 (by
          rw [testBit_set] at h3
          simpa using (Bool.or_eq_false_iff.1 h3).1))
        refine (iter_step step).trans (hi.trans ?_)
        congr 2
        simp only [List.length_cons, List.map_cons, List.append_assoc, List.singleton_append, reduceCtorEq, if_false]
        have hnil := fill_nil (count := count) (l := List.range' (k + 1) d) (ch := ch + 1) (u := u ||| 2 ^ k)
        generalize fill count (List.range' (k + 1) d) (ch + 1) (u ||| 2 ^ k) = r at hnil
        have a1 : ((ch + 1 + r.1.length : Nat) : Int) = ((ch + (r.1.length + 1) : Nat) : Int) := by omega
        rw [a1]
        by_cases hr : r.1 = []
        · rw [if_pos hr, hnil hr]
        · rw [if_neg hr, upsV_twice]
    · have e6 : decide ((ch : Int) < req.2.2.1) = false := by rw [hreq]; simp; omega
      have hf : fill count (k :: List.range' (k + 1) d) ch u = ([], u) := by simp [fill, hcc]
      rw [hf]
      refine iter_done ?_
      show qf53L3b known segs ch s k src n idx req need fr pm hm chg (c, (u : Int), ()) = _
      unfold qf53L3b
      simp only [e1, e6, cond_true, cond_false, List.length_nil, Nat.add_zero, List.map_nil, List.append_nil, if_true]
end Go.Sx

/- Allocation of pages, plainly: all segments of a compute node. -/
set_option linter.unusedVariables false
set_option linter.unusedSimpArgs false
namespace Go.Sx
open Go.RowKit
def fillAll (count : Nat) (U : Int → Nat) : List Int → Nat → List (Int × List Nat × Nat)
  | [], _ => []
  | s :: l, ch => (s, (fill count (List.range' 1 15) ch (U s)).1, (fill count (List.range' 1 15) ch (U s)).2) :: fillAll count U l (ch + (fill count (List.range' 1 15) ch (U s)).1.length)
def total (l : List (Int × List Nat × Nat)) : Nat := (l.map fun x => x.2.1.length).sum
def pagesOf (pg : Int → Nat → Page) (l : List (Int × List Nat × Nat)) : List Page := l.flatMap fun x => x.2.1.map (pg x.1)
def chgOf (c : Int) (l : List (Int × List Nat × Nat)) : List (Int × Head) := (l.filter fun x => !x.2.1.isEmpty).map fun x => (x.1, (c, (x.2.2 : Int), ()))
theorem fill_len {count : Nat} : ∀ {l : List Nat} {ch u : Nat}, (fill count l ch u).1.length ≤ l.length
  | [], ch, u => by simp [fill]
  | i :: l, ch, u => by
    by_cases hc : ch < count
    · by_cases ht : u.testBit i = true
      · simp only [fill, hc, ht, if_true]
        exact Nat.le_trans (fill_len (l := l)) (by simp)
      · simp only [fill, hc, ht, if_true, if_false, Bool.false_eq_true, List.length_cons]
        exact Nat.succ_le_succ (fill_len (l := l))
    · simp [fill, hc]
theorem allocateL4_eq (known : List Page) (hl : known.length ≤ maxLen) (pg : Int → Nat → Page) (U : Int → Nat) (c : Int) (count : Nat) (hc : count ≤ 12) (segs src need : List Int) (req : Req) (hreq : req.2.2.1 = count)
    (pm : List (Int × Page)) (hm : List (Int × Head)) (hn : src.length ≤ 9) (hnd : src.Nodup) (hs : ∀ s ∈ src, 0 ≤ s ∧ s ≤ 8 ∧ U s < 65536 ∧ lookV hm s = some (c, (U s : Int), ()) ∧
      ∀ i, 1 ≤ i → i < 16 → (U s).testBit i = false → latest known (hdr20 s + i) = some (pg s i) ∧ Fresh (pg s i)) :
    ∀ (d k : Nat), k + d = src.length → ∀ (ch : Nat) (fr : List Page) (chg : List (Int × Head)), fr.length + 15 * d ≤ 900 → ch + 15 * d ≤ 900 → (∀ e ∈ chg, e.1 ∉ src.drop k) →
    qf53L4 known segs ch src src.length k req need fr pm hm chg =
      some (.inl (segs, (ch + total (fillAll count U (src.drop k) ch) : Nat), req, need, fr ++ pagesOf pg (fillAll count U (src.drop k) ch), pm, chg ++ chgOf c (fillAll count U (src.drop k) ch))) := by
  intro d
  induction d with
  | zero =>
    intro k hk ch fr chg hfr hch hck
    refine iter_done ?_
    show qf53L4b known segs ch src src.length k req need fr pm hm chg = _
    unfold qf53L4b
    have e1 : decide ((k : Int) < (src.length : Int)) = false := by simp; omega
    have e2 : src.drop k = [] := List.drop_eq_nil_of_le (by omega)
    simp only [e1, cond_false, e2, fillAll, total, pagesOf, chgOf, List.map_nil, List.sum_nil, Nat.add_zero, List.flatMap_nil, List.append_nil, List.filter_nil]
  | succ d ih =>
    intro k hk ch fr chg hfr hch hck
    have hlt : k < src.length := by omega
    have hd : src.drop k = src[k] :: src.drop (k + 1) := List.drop_eq_getElem_cons hlt
    obtain ⟨q0, q1, q2, q3, q4⟩ := hs src[k] (List.getElem_mem hlt)
    have e1 : decide ((k : Int) < (src.length : Int)) = true := by simp; omega
    have e4 : IntKind.wrap .i64 ((k : Int) + 1) = ((k + 1 : Nat) : Int) := by rw [i64w (by omega) (by omega)]; simp
    have e6 : List.getD src (Int.toNat (k : Int)) 0 = src[k] := by simp [List.getD, hlt]
    have hL3 := allocateL3_eq known hl (pg src[k]) src[k] q0 q1 c count hc segs src need (src.length : Int) (k : Int) req hreq pm hm 15 1 (by omega) ch (U src[k]) fr chg q2 (by omega) (by omega) q4
    have step : qf53L4b known segs ch src src.length k req need fr pm hm chg = some (.inl (known, segs, ((ch + (fill count (List.range' 1 15) ch (U src[k])).1.length : Nat) : Int), src, (src.length : Int), ((k + 1 : Nat) : Int), req, need, fr ++ (fill count (List.range' 1 15) ch (U src[k])).1.map (pg src[k]), pm, hm,
        (if (fill count (List.range' 1 15) ch (U src[k])).1 = [] then chg else upsV chg src[k] (c, ((fill count (List.range' 1 15) ch (U src[k])).2 : Int), ())))) := by
      unfold qf53L4b
      simp only [e1, inR_nat hlt, cond_true, e6, q3, Option.getD_some]
      have hL3' : qf53L3 known segs (ch : Int) src[k] 1 src (src.length : Int) (k : Int) req need fr pm hm chg (c, ((U src[k] : Nat) : Int), ()) = _ := hL3
      rw [hL3']
      simp only [Option.bind_some, e4]
    have hfl := fill_len (count := count) (l := List.range' 1 15) (ch := ch) (u := U src[k])
    have hnil := fill_nil (count := count) (l := List.range' 1 15) (ch := ch) (u := U src[k])
    rw [hd]
    simp only [fillAll]
    generalize fill count (List.range' 1 15) ch (U src[k]) = r at step hfl hnil
    simp only [List.length_range'] at hfl
    have hnotin : src[k] ∉ src.drop (k + 1) := by
      have := hnd.sublist (List.drop_sublist k src)
      rw [hd] at this
      exact (List.nodup_cons.1 this).1
    have hck' : ∀ e ∈ (if r.1 = [] then chg else upsV chg src[k] (c, (r.2 : Int), ())), e.1 ∉ src.drop (k + 1) := by
      intro e he
      split at he
      · have := hck e he
        rw [hd] at this
        exact fun h => this (List.mem_cons_of_mem _ h)
      · rw [upsV_new (fun e he => by
          have := hck e he
          rw [hd] at this
          exact fun h => this (by rw [h]; exact List.mem_cons_self)) ] at he
        rcases List.mem_append.1 he with he | he
        · have := hck e he
          rw [hd] at this
          exact fun h => this (List.mem_cons_of_mem _ h)
        · simp only [List.mem_singleton] at he
          subst he; exact hnotin
    have hi := ih (k + 1) (by omega) (ch + r.1.length) (fr ++ r.1.map (pg src[k])) _ (by simp; omega) (by omega) hck'
    refine (iter_step step).trans (hi.trans ?_)
    congr 2
    have a1 : ch + r.1.length + total (fillAll count U (src.drop (k + 1)) (ch + r.1.length)) = ch + total ((src[k], r.1, r.2) :: fillAll count U (src.drop (k + 1)) (ch + r.1.length)) := by
      simp only [total, List.map_cons, List.sum_cons]; omega
    have a2 : fr ++ r.1.map (pg src[k]) ++ pagesOf pg (fillAll count U (src.drop (k + 1)) (ch + r.1.length)) = fr ++ pagesOf pg ((src[k], r.1, r.2) :: fillAll count U (src.drop (k + 1)) (ch + r.1.length)) := by
      simp only [pagesOf, List.flatMap_cons, List.append_assoc]
    have a3 : (if r.1 = [] then chg else upsV chg src[k] (c, (r.2 : Int), ())) ++ chgOf c (fillAll count U (src.drop (k + 1)) (ch + r.1.length)) = chg ++ chgOf c ((src[k], r.1, r.2) :: fillAll count U (src.drop (k + 1)) (ch + r.1.length)) := by
      by_cases hr : r.1 = []
      · rw [if_pos hr]
        simp [chgOf, hr]
      · rw [if_neg hr, upsV_new (fun e he => by
          have := hck e he
          rw [hd] at this
          exact fun h => this (by rw [h]; exact List.mem_cons_self))]
        have : (!r.1.isEmpty) = true := by simpa using hr
        simp [chgOf, this]
    rw [a1, a2, a3]
end Go.Sx

/- Allocation of pages, plainly: reading and writing of headers, the choice of segments, the whole. -/
set_option linter.unusedVariables false
set_option linter.unusedSimpArgs false
namespace Go.Sx
open Go.RowKit
def pc8 (b : Nat) : Nat := ((List.range 8).filter fun i => b.testBit i).length
def popc (u : Nat) : Nat := pc8 (u / 256 % 256) + pc8 (u % 256)
theorem str2_size : ByteArray.size str2 = 256 := by kernel_rfl
theorem str2_all : ((List.range 256).all fun b => Nat.beq (UInt8.toNat (Array.getD (ByteArray.data str2) b 0)) (pc8 b)) = true := by kernel_rfl
theorem str2_at (b : Nat) (hb : b < 256) : UInt8.toNat (Array.getD (ByteArray.data str2) b 0) = pc8 b := by
  have := List.all_eq_true.1 str2_all b (by simpa using hb)
  exact Nat.eq_of_beq_eq_true this
theorem pc8_le (b : Nat) : pc8 b ≤ 8 := by
  unfold pc8
  exact Nat.le_trans (List.length_filter_le _ _) (by simp)
theorem onesCount_eq (u : Nat) (hu : u < 65536) : qf50 (u : Int) = some (popc u : Int) := by
  unfold qf50
  have hb : IntKind.bits .u32 = 32 := rfl
  have s24 : shiftR .u32 (u : Int) 24 = 0 := by have := shr_u32 (a := (u : Int)) 24 (by omega); simp at this; rw [this]; omega
  have s16 : shiftR .u32 (u : Int) 16 = 0 := by have := shr_u32 (a := (u : Int)) 16 (by omega); simp at this; rw [this]; omega
  have s8 : shiftR .u32 (u : Int) 8 = ((u / 256 : Nat) : Int) := by have := shr_u32 (a := (u : Int)) 8 (by omega); simp at this; rw [this]; omega
  rw [hb, s24, s16, s8, and255 (by omega) (by omega) (by decide), and255 (by omega) (by omega) (by decide), and255 (by omega) (by omega) (by decide)]
  have m0 : (0 : Int) % 256 = 0 := rfl
  have m1 : ((u / 256 : Nat) : Int) % 256 = ((u / 256 % 256 : Nat) : Int) := by omega
  have m2 : (u : Int) % 256 = ((u % 256 : Nat) : Int) := by omega
  rw [m0, m1, m2, u32w (n := 0) (by omega) (by omega), u32w (n := ((u / 256 % 256 : Nat) : Int)) (by omega) (by omega), u32w (n := ((u % 256 : Nat) : Int)) (by omega) (by omega), str2_size]
  have r0 : inR 0 256 = true := by decide
  have r1 : inR ((u / 256 % 256 : Nat) : Int) 256 = true := inR_nat (by omega)
  have r2 : inR ((u % 256 : Nat) : Int) 256 = true := inR_nat (by omega)
  simp only [r0, r1, r2, cond_true, Int.toNat_natCast, Int.toNat_zero]
  rw [str2_at 0 (by omega), str2_at (u / 256 % 256) (by omega), str2_at (u % 256) (by omega)]
  have z0 : pc8 0 = 0 := by decide
  have l1 := pc8_le (u / 256 % 256)
  have l2 := pc8_le (u % 256)
  rw [z0]
  unfold popc
  generalize pc8 (u / 256 % 256) = A at l1
  generalize pc8 (u % 256) = B at l2
  have w : ∀ x : Int, 0 ≤ x → x ≤ 255 → IntKind.wrap .u8 x = x := fun x h0 h1 => IntWalk.u8_in x ⟨h0, h1⟩
  rw [w (((0 : Nat) : Int) + ((0 : Nat) : Int)) (by omega) (by omega), w (((0 : Nat) : Int) + ((0 : Nat) : Int) + (A : Int)) (by omega) (by omega), w (((0 : Nat) : Int) + ((0 : Nat) : Int) + (A : Int) + (B : Int)) (by omega) (by omega), i64w (by omega) (by omega)]
  have : ((0 : Nat) : Int) + ((0 : Nat) : Int) + (A : Int) + (B : Int) = ((A + B : Nat) : Int) := by omega
  rw [this]
theorem popc_le (u : Nat) : popc u ≤ 16 := by
  have l1 := pc8_le (u / 256 % 256)
  have l2 := pc8_le (u % 256)
  unfold popc; omega
theorem vacant_eq (c : Int) (u : Nat) (hu : u < 65536) : qf51 (c, (u : Int), ()) = some (15 - (popc u : Int)) := by
  unfold qf51
  have := popc_le u
  simp only [onesCount_eq u hu, Option.bind_some]
  rw [i64w (by omega) (by omega)]
theorem allocateL1_eq (known : List Page) (hk : ∀ p ∈ known, Wf TPage p) (hl : known.length ≤ maxLen) (segs : List Int) (hn : segs.length ≤ 9) (hnd : segs.Nodup) (req : Req) (need : List Int) (hp : Int → Page) (hd : Int → Head)
    (h : ∀ s ∈ segs, headerS known s = (hp s, hd s, true, 0) ∧ (hd s).1 = req.1) :
    qf53L1 known segs segs segs.length (0 : Int) req need [] [] = some (.inl (known, segs, req, need, segs.map fun s => (s, hp s), segs.map fun s => (s, hd s))) := by
  have e0 : ∀ {α : Type} (f : Int → α), (segs.take segs.length).map f = segs.map f := fun f => by rw [List.take_length]
  refine iter_for (fun i => (known, segs, segs, (segs.length : Int), (i : Int), req, need, (segs.take i).map fun s => (s, hp s), (segs.take i).map fun s => (s, hd s))) segs.length _ (fun i hi => ?_) ?_ 0 (Nat.zero_le _)
  · show qf53L1b known segs segs segs.length i req need ((segs.take i).map fun s => (s, hp s)) ((segs.take i).map fun s => (s, hd s)) = _
    obtain ⟨h1, h2⟩ := h segs[i] (List.getElem_mem hi)
    have e1 : decide ((i : Int) < (segs.length : Int)) = true := by simp; omega
    have e4 : IntKind.wrap .i64 ((i : Int) + 1) = ((i + 1 : Nat) : Int) := by rw [i64w (by omega) (by omega)]; simp
    have e6 : List.getD segs (Int.toNat (i : Int)) 0 = segs[i] := by simp [List.getD, hi]
    have e7 : decide ((0 : Int) = 0) = true := by decide
    have e8 : decide ((hd segs[i]).1 = req.1) = true := by simpa using h2
    have hnot : segs[i] ∉ segs.take i := by
      have := hnd
      rw [← List.take_append_drop i segs, List.drop_eq_getElem_cons hi] at this
      have := List.nodup_append.1 this
      exact fun hm => this.2.2 _ hm _ List.mem_cons_self rfl
    have u1 : ∀ {α : Type} (f : Int → α), upsV ((segs.take i).map fun s => (s, f s)) segs[i] (f segs[i]) = (segs.take (i + 1)).map fun s => (s, f s) := fun f => by
      rw [upsV_new (fun e he => by
        obtain ⟨s, hs, rfl⟩ := List.mem_map.1 he
        exact fun h => hnot (h ▸ hs))]
      rw [List.take_add_one, List.getElem?_eq_getElem hi, List.map_append]; rfl
    unfold qf53L1b
    simp only [e1, inR_nat hi, e6, cond_true, qf35_eq known hk hl, h1, Option.bind_some, decide_true, Bool.not_true, cond_false, e8, e4]
    rw [u1 hp, u1 hd]
  · show qf53L1b known segs segs segs.length segs.length req need _ _ = _
    unfold qf53L1b
    simp only [e0]
    simp
def sources (count : Nat) (U : Int → Nat) (segs : List Int) : List Int := match segs.find? fun s => decide ((count : Int) ≤ 15 - (popc (U s) : Int)) with
  | some s => [s]
  | none => segs
theorem range_find {α : Type} (l : List α) (p : α → Bool) (d : α) : (match (List.range' 0 l.length).find? (fun j => p (l.getD j d)) with | some j => some (l.getD j d) | none => none) = l.find? p := by
  have key : ∀ (m : List α) (k : Nat), l.drop k = m → (match (List.range' k m.length).find? (fun j => p (l.getD j d)) with | some j => some (l.getD j d) | none => none) = m.find? p := by
    intro m
    induction m with
    | nil => intro k _; rfl
    | cons x m ih =>
      intro k hk
      have hlt : k < l.length := by
        rcases Nat.lt_or_ge k l.length with h | h
        · exact h
        · rw [List.drop_eq_nil_of_le h] at hk; cases hk
      rw [List.drop_eq_getElem_cons hlt] at hk
      obtain ⟨h1, h2⟩ := List.cons.inj hk
      have hg : l.getD k d = x := by simp [List.getD, hlt, h1]
      rw [List.length_cons, List.range'_succ, List.find?_cons, List.find?_cons, hg]
      cases hp : p x with
      | true => show some (l.getD k d) = some x; rw [hg]
      | false => exact ih (k + 1) h2
  exact key l 0 rfl
theorem allocateL2_eq (known : List Page) (segs : List Int) (hn : segs.length ≤ 9) (req : Req) (count : Nat) (hreq : req.2.2.1 = count) (need : List Int) (pm : List (Int × Page)) (hm : List (Int × Head)) (c : Int) (U : Int → Nat)
    (h : ∀ s ∈ segs, U s < 65536 ∧ lookV hm s = some (c, (U s : Int), ())) :
    qf53L2 known segs segs segs.length (0 : Int) req need pm hm = some (known, sources count U segs, req, need, pm, hm) := by
  have rd : ∀ i (hi : i < segs.length), U segs[i] < 65536 ∧ lookV hm segs[i] = some (c, (U segs[i] : Int), ()) := fun i hi => h _ (List.getElem_mem hi)
  have body : ∀ i, i < segs.length → qf53L2b known segs segs segs.length i req need pm hm = bif decide ((count : Int) ≤ 15 - (popc (U (segs.getD i 0)) : Int)) then some (.inr (known, [segs.getD i 0], req, need, pm, hm)) else some (.inl (known, segs, segs, (segs.length : Int), ((i + 1 : Nat) : Int), req, need, pm, hm)) := by
    intro i hi
    obtain ⟨r1, r2⟩ := rd i hi
    have e1 : decide ((i : Int) < (segs.length : Int)) = true := by simp; omega
    have e4 : IntKind.wrap .i64 ((i : Int) + 1) = ((i + 1 : Nat) : Int) := by rw [i64w (by omega) (by omega)]; simp
    have e6 : List.getD segs (Int.toNat (i : Int)) 0 = segs[i] := by simp [List.getD, hi]
    have e7 : List.getD segs i 0 = segs[i] := by simp [List.getD, hi]
    unfold qf53L2b
    simp only [e1, inR_nat hi, cond_true, e6, e7, r2, Option.getD_some, vacant_eq c _ r1, Option.bind_some, hreq, e4]
  have key := iter_scan (body := qf53L2B) (fun i => (known, segs, segs, (segs.length : Int), (i : Int), req, need, pm, hm)) segs.length (fun j => decide ((count : Int) ≤ 15 - (popc (U (segs.getD j 0)) : Int)))
    (fun j => (known, [segs.getD j 0], req, need, pm, hm)) (known, segs, req, need, pm, hm) (fun i hi hb => by
      show qf53L2b known segs segs segs.length i req need pm hm = _
      rw [body i hi, hb]; rfl) (fun i hi hb => by
      show qf53L2b known segs segs segs.length i req need pm hm = _
      rw [body i hi, hb]; rfl) (by
      show qf53L2b known segs segs segs.length segs.length req need pm hm = _
      unfold qf53L2b
      simp) 0 (Nat.zero_le _)
  refine key.trans ?_
  have := range_find segs (fun s => decide ((count : Int) ≤ 15 - (popc (U s) : Int))) 0
  unfold sources
  rw [Nat.sub_zero]
  rw [← this]
  cases (List.range' 0 segs.length).find? (fun j => decide ((count : Int) ≤ 15 - (popc (U (segs.getD j 0)) : Int))) <;> rfl
theorem allocateL5_eq (src : List Int) (hn : src.length ≤ 9) (fr : List Page) (pm : List (Int × Page)) (chg : List (Int × Head)) (hw : ∀ s h, lookV chg s = some h → Wf THead h) :
    qf53L5 src src.length (0 : Int) fr [] pm chg = some (fr, (src.filter fun s => (lookV chg s).isSome).map fun s => (writeHead ((lookV pm s).getD noPage) ((lookV chg s).getD (0, 0, ()))).1) := by
  let W : List Int → List Page := fun l => (l.filter fun s => (lookV chg s).isSome).map fun s => (writeHead ((lookV pm s).getD noPage) ((lookV chg s).getD (0, 0, ()))).1
  have hlen : ∀ l, (W l).length ≤ l.length := fun l => by simp only [W, List.length_map]; exact List.length_filter_le _ _
  have e0 : W (src.take src.length) = W src := by rw [List.take_length]
  refine iter_for (fun i => (src, (src.length : Int), (i : Int), fr, W (src.take i), pm, chg)) src.length _ (fun i hi => ?_) ?_ 0 (Nat.zero_le _)
  · show qf53L5b src src.length i fr (W (src.take i)) pm chg = _
    have e1 : decide ((i : Int) < (src.length : Int)) = true := by simp; omega
    have e4 : IntKind.wrap .i64 ((i : Int) + 1) = ((i + 1 : Nat) : Int) := by rw [i64w (by omega) (by omega)]; simp
    have e6 : List.getD src (Int.toNat (i : Int)) 0 = src[i] := by simp [List.getD, hi]
    have e5 : decide ((W (src.take i)).length + 1 ≤ lim) = true := by
      have := hlen (src.take i)
      have hl : lim = 2147483648 := rfl
      simp at this ⊢; omega
    have e7 : W (src.take (i + 1)) = if (lookV chg src[i]).isSome then W (src.take i) ++ [(writeHead ((lookV pm src[i]).getD noPage) ((lookV chg src[i]).getD (0, 0, ()))).1] else W (src.take i) := by
      simp only [W]
      rw [List.take_add_one, List.getElem?_eq_getElem hi, List.filter_append, List.map_append]
      cases hc : (lookV chg src[i]).isSome <;> simp [hc]
    rw [e7]
    unfold qf53L5b
    simp only [e1, inR_nat hi, cond_true, e6]
    cases hc : lookV chg src[i] with
    | none => simp only [Option.isSome_none, cond_false, e4, Bool.false_eq_true, if_false]
    | some hd =>
      have hwf := hw _ _ hc
      have e9 := qf39_eq ((lookV pm src[i]).getD noPage) hd hwf
      simp only [Option.isSome_some, cond_true, Option.getD_some, if_true, e4]
      have e9' : qf39 ((lookV pm src[i]).getD ((0 : Int), ((0 : Int), ((List.replicate 7 (0 : Int)), ())))) hd = _ := e9
      rw [e9']
      simp only [Option.bind_some, e5, cond_true]
  · show qf53L5b src src.length src.length fr (W (src.take src.length)) pm chg = _
    unfold qf53L5b
    rw [e0]
    simp [W]
end Go.Sx

/- Allocation of pages, plainly: the whole function on known pages that are in order. -/
set_option linter.unusedVariables false
set_option linter.unusedSimpArgs false
namespace Go.Sx
open Go.RowKit
theorem owned_mem {b : Int} {n : Nat} {s : Int} : s ∈ ownedL b n ↔ 0 ≤ s ∧ s < n ∧ b / 2 ^ s.toNat % 2 = 1 := by
  unfold ownedL
  simp only [List.mem_map, List.mem_filter, List.mem_range, decide_eq_true_eq]
  constructor
  · rintro ⟨j, ⟨h1, h2⟩, rfl⟩
    simp only [Int.ofNat_eq_natCast, Int.toNat_natCast]
    exact ⟨by omega, by omega, h2⟩
  · rintro ⟨h0, h1, h2⟩
    exact ⟨s.toNat, ⟨by omega, h2⟩, by simp only [Int.ofNat_eq_natCast]; omega⟩
theorem owned_nodup (b : Int) (n : Nat) : (ownedL b n).Nodup := by
  unfold ownedL
  rw [List.nodup_iff_pairwise_ne, List.pairwise_map]
  exact ((List.nodup_iff_pairwise_ne.1 (List.nodup_range (n := n))).filter _).imp fun h e => h (Int.ofNat.inj e)
theorem owned_len (b : Int) (n : Nat) : (ownedL b n).length ≤ n := by
  unfold ownedL
  rw [List.length_map]
  exact Nat.le_trans (List.length_filter_le _ _) (by simp)
theorem sources_sub {count : Nat} {U : Int → Nat} {segs : List Int} : (∀ s ∈ sources count U segs, s ∈ segs) ∧ (segs.Nodup → (sources count U segs).Nodup) ∧ (segs.length ≤ 9 → (sources count U segs).length ≤ 9) := by
  unfold sources
  cases h : segs.find? fun s => decide ((count : Int) ≤ 15 - (popc (U s) : Int)) with
  | none => exact ⟨fun s hs => hs, fun h => h, fun h => h⟩
  | some s =>
    refine ⟨fun t ht => ?_, fun _ => by simp, fun _ => by simp⟩
    simp only [List.mem_singleton] at ht
    subst ht
    exact List.mem_of_find?_eq_some h
theorem fillAll_fst {count : Nat} {U : Int → Nat} : ∀ {l : List Int} {ch : Nat}, (fillAll count U l ch).map (·.1) = l
  | [], _ => rfl
  | s :: l, ch => by simp [fillAll, fillAll_fst (l := l)]
theorem fill_bd {count : Nat} : ∀ {l : List Nat} {ch u : Nat}, (∀ i ∈ l, i < 16) → u < 65536 → (fill count l ch u).2 < 65536
  | [], ch, u, _, h => h
  | i :: l, ch, u, hl, h => by
    by_cases hc : ch < count
    · by_cases ht : u.testBit i = true
      · simp only [fill, hc, ht, if_true]
        exact fill_bd (fun j hj => hl j (by simp [hj])) h
      · simp only [fill, hc, ht, if_true, if_false, Bool.false_eq_true]
        refine fill_bd (fun j hj => hl j (by simp [hj])) ?_
        have hi := hl i (by simp)
        have h16 : 2 ^ i < 2 ^ 16 := Nat.pow_lt_pow_right (by omega) hi
        have h2 : (2 : Nat) ^ 16 = 65536 := by decide
        have := Nat.or_lt_two_pow (x := u) (y := 2 ^ i) (n := 16) (by omega) (by omega)
        omega
    · simp [fill, hc, h]
theorem fillAll_bd {count : Nat} {U : Int → Nat} : ∀ {l : List Int} {ch : Nat}, (∀ s ∈ l, U s < 65536) → ∀ x ∈ fillAll count U l ch, x.2.2 < 65536
  | [], _, _, x, hx => by cases hx
  | s :: l, ch, h, x, hx => by
    simp only [fillAll, List.mem_cons] at hx
    rcases hx with rfl | hx
    · exact fill_bd (fun i hi => by simp [List.mem_range'] at hi; omega) (h s (by simp))
    · exact fillAll_bd (fun t ht => h t (by simp [ht])) x hx
theorem wf_headv {c : Int} (h0 : 0 ≤ c) (h1 : c ≤ 5) {u : Nat} (hu : u < 65536) : Wf THead (c, (u : Int), ()) :=
  ⟨wf_i64_mk (by omega) (by omega), wf_u32_mk (n := (u : Int)) (by omega) (by omega), trivial⟩
theorem lookV_mem {α : Type} : ∀ {es : List (Int × α)} {k : Int} {v : α}, lookV es k = some v → (k, v) ∈ es
  | [], k, v, h => by simp [lookV] at h
  | (m, y) :: es, k, v, h => by
    by_cases e : k = m
    · subst e; simp [lookV] at h; subst h; simp
    · simp [lookV, e] at h
      exact List.mem_cons_of_mem _ (lookV_mem h)
theorem lookV_none {α : Type} : ∀ {es : List (Int × α)} {k : Int}, (∀ e ∈ es, e.1 ≠ k) → lookV es k = none
  | [], k, _ => rfl
  | (m, y) :: es, k, h => by
    have h1 : ¬ k = m := fun e => h (m, y) (by simp) e.symm
    simp [lookV, h1, lookV_none (es := es) fun e he => h e (by simp [he])]
def writesOf (hp : Int → Page) (c : Int) (l : List (Int × List Nat × Nat)) : List Page := (l.filter fun x => !x.2.1.isEmpty).map fun x => (writeHead (hp x.1) (c, (x.2.2 : Int), ())).1
theorem writes_eq {hp : Int → Page} {c : Int} {segs : List Int} : ∀ (l : List (Int × List Nat × Nat)), (l.map (·.1)).Nodup → (∀ x ∈ l, x.1 ∈ segs) →
    ((l.map (·.1)).filter fun s => (lookV (chgOf c l) s).isSome).map (fun s => (writeHead ((lookV (segs.map fun s => (s, hp s)) s).getD noPage) ((lookV (chgOf c l) s).getD (0, 0, ()))).1) = writesOf hp c l := by
  intro l hnd hm
  have key : ∀ x ∈ l, lookV (chgOf c l) x.1 = if x.2.1.isEmpty then none else some (c, (x.2.2 : Int), ()) := by
    clear hm
    induction l with
    | nil => intro x hx; cases hx
    | cons y l ih =>
      intro x hx
      rw [List.map_cons, List.nodup_cons] at hnd
      have hy : ∀ e ∈ chgOf c l, e.1 ≠ y.1 := fun e he h => by
        obtain ⟨z, hz, rfl⟩ := List.mem_map.1 he
        exact hnd.1 (h ▸ List.mem_map.2 ⟨z, (List.mem_filter.1 hz).1, rfl⟩)
      rcases List.mem_cons.1 hx with rfl | hx
      · by_cases he : x.2.1.isEmpty = true
        · have : chgOf c (x :: l) = chgOf c l := by simp [chgOf, he]
          rw [this, if_pos he]
          exact lookV_none hy
        · have : chgOf c (x :: l) = (x.1, (c, (x.2.2 : Int), ())) :: chgOf c l := by simp [chgOf, he]
          rw [this, if_neg he]
          simp [lookV]
      · have hne : ¬ x.1 = y.1 := fun e => hnd.1 (e ▸ List.mem_map.2 ⟨x, hx, rfl⟩)
        have := ih hnd.2 x hx
        by_cases he : y.2.1.isEmpty = true
        · have e1 : chgOf c (y :: l) = chgOf c l := by simp [chgOf, he]
          rw [e1]; exact this
        · have e1 : chgOf c (y :: l) = (y.1, (c, (y.2.2 : Int), ())) :: chgOf c l := by simp [chgOf, he]
          rw [e1]
          simp only [lookV, hne, decide_false, cond_false]
          exact this
  unfold writesOf
  generalize chgOf c l = chg at key
  clear hnd
  induction l with
  | nil => rfl
  | cons y l ih =>
    have hy := key y (by simp)
    have hr := ih (fun x hx => hm x (by simp [hx])) (fun x hx => key x (by simp [hx]))
    have hmy := hm y (by simp)
    by_cases he : y.2.1.isEmpty = true
    · rw [if_pos he] at hy
      simp only [List.map_cons, List.filter_cons, hy, Option.isSome_none, Bool.false_eq_true, if_false, he, Bool.not_true]
      exact hr
    · rw [if_neg he] at hy
      have he' : (!y.2.1.isEmpty) = true := by simpa using he
      simp only [List.map_cons, List.filter_cons, hy, Option.isSome_some, if_true, he', Option.getD_some, lookV_map, hmy]
      simp only [lookV_map] at hr
      rw [hr]
theorem allocate_eq (known : List Page) (hk : ∀ p ∈ known, Wf TPage p) (hl : known.length ≤ maxLen) (c lines : Int) (count : Nat) (c0 : 0 ≤ c) (c1 : c ≤ 5) (l0 : 104 ≤ lines) (l1 : lines ≤ 256) (n0 : 1 ≤ count) (n1 : count ≤ 12)
    (np : Page) (nd : Node) (hnode : nodeS known c = (np, nd, true, 0)) (b0 : 0 ≤ nd.2.2.1) (b1 : nd.2.2.1 ≤ 4294967295) (n : Nat) (hn : cnt lines = n) (U : Int → Nat) (hp : Int → Page) (pg : Int → Nat → Page)
    (hs : ∀ s ∈ ownedL nd.2.2.1 n, U s < 65536 ∧ headerS known s = (hp s, (c, (U s : Int), ()), true, 0) ∧ ∀ i, 1 ≤ i → i < 16 → (U s).testBit i = false → latest known (hdr20 s + i) = some (pg s i) ∧ Fresh (pg s i)) :
    qf53 (c, lines, (count : Int), ()) known = some (if total (fillAll count U (sources count U (ownedL nd.2.2.1 n)) 0) < count then ([], [], [], 12, true)
      else ([], pagesOf pg (fillAll count U (sources count U (ownedL nd.2.2.1 n)) 0), writesOf hp c (fillAll count U (sources count U (ownedL nd.2.2.1 n)) 0), 0, true)) := by
  have hn9 : n ≤ 9 := by have := cnt_bd lines; omega
  have e1 : qf5 c = some true := by
    unfold qf5
    have : decide (0 ≤ c) = true := by simpa using c0
    have h2 : decide (c < 6) = true := by simp; omega
    simp only [this, h2, cond_true]
  have e2 : qf6 lines = some true := by rw [qf6_eq]; simp [l0, l1]
  have e3 : decide ((count : Int) < 1) = false := by simp; omega
  have e4 : decide ((12 : Int) < (count : Int)) = false := by simp; omega
  have e5 := qf24_eq known hk hl c c0 c1
  have e6 : qf25 lines = some (n : Int) := by rw [qf25_eq, hn]
  have e7 := qf26_eq nd.2.2.1 b0 b1 n hn9
  generalize hsegs : ownedL nd.2.2.1 n = segs at hs e7
  have hnd : segs.Nodup := hsegs ▸ owned_nodup _ _
  have hlen : segs.length ≤ 9 := Nat.le_trans (hsegs ▸ owned_len _ _) hn9
  have hrange : ∀ s ∈ segs, 0 ≤ s ∧ s ≤ 8 := fun s h => by
    have := owned_mem.1 (hsegs ▸ h)
    omega
  have e8 := qf28_eq segs (by omega)
  have e9 : qf16 known (segs.map hdr20) = some [] := qf16_none known hl _ (by simp; omega) fun l h => by
    obtain ⟨s, h1, rfl⟩ := List.mem_map.1 h
    have := (hs s h1).2.1
    unfold headerS at this
    cases hq : latest known (hdr20 s) with
    | none => rw [hq] at this; simp at this
    | some p => rfl
  have e10 := allocateL1_eq known hk hl segs hlen hnd (c, lines, (count : Int), ()) [] hp (fun s => (c, (U s : Int), ())) (fun s h => ⟨(hs s h).2.1, rfl⟩)
  have hlook : ∀ s ∈ segs, lookV (segs.map fun s => (s, ((c, (U s : Int), ()) : Head))) s = some (c, (U s : Int), ()) := fun s h => by rw [lookV_map (f := fun s => ((c, (U s : Int), ()) : Head)), if_pos h]
  have e11 := allocateL2_eq known segs hlen (c, lines, (count : Int), ()) count rfl [] (segs.map fun s => (s, hp s)) (segs.map fun s => (s, ((c, (U s : Int), ()) : Head))) c U (fun s h => ⟨(hs s h).1, hlook s h⟩)
  obtain ⟨q1, q2, q3⟩ := sources_sub (count := count) (U := U) (segs := segs)
  have hsrc9 := q3 hlen
  have hsrcnd := q2 hnd
  generalize hsrc : sources count U segs = src at *
  have e12 := allocateL4_eq known hl pg U c count n1 src src [] (c, lines, (count : Int), ()) rfl (segs.map fun s => (s, hp s)) (segs.map fun s => (s, ((c, (U s : Int), ()) : Head))) hsrc9 hsrcnd
    (fun s h => ⟨(hrange s (q1 s h)).1, (hrange s (q1 s h)).2, (hs s (q1 s h)).1, hlook s (q1 s h), (hs s (q1 s h)).2.2⟩) src.length 0 (by omega) 0 [] [] (by simp; omega) (by omega) (by simp)
  simp only [List.drop_zero, Nat.zero_add, List.nil_append] at e12
  have hbd := fillAll_bd (count := count) (U := U) (l := src) (ch := 0) (fun s h => (hs s (q1 s h)).1)
  have hfst := fillAll_fst (count := count) (U := U) (l := src) (ch := 0)
  generalize fillAll count U src 0 = data at e12 hbd hfst
  have e13 := allocateL5_eq src hsrc9 (pagesOf pg data) (segs.map fun s => (s, hp s)) (chgOf c data) (fun s h he => by
    have := lookV_mem he
    obtain ⟨x, hx, hxe⟩ := List.mem_map.1 this
    cases hxe
    exact wf_headv c0 c1 (hbd x (List.mem_filter.1 hx).1))
  have e14 := writes_eq (hp := hp) (c := c) (segs := segs) data (hfst ▸ hsrcnd) (fun x hx => q1 _ (hfst ▸ List.mem_map.2 ⟨x, hx, rfl⟩))
  rw [hfst] at e14
  rw [e14] at e13
  unfold qf53
  have z0 : decide ((0 : Int) < ((([] : List Int).length : Nat) : Int)) = false := by decide
  have z1 : decide ((0 : Int) = 0) = true := by decide
  have e12' : qf53L4 known src 0 src src.length 0 (c, lines, (count : Int), ()) [] [] (segs.map fun s => (s, hp s)) (segs.map fun s => (s, ((c, (U s : Int), ()) : Head))) [] = _ := e12
  simp only [e1, e2, e3, e4, Option.bind_some, Bool.not_true, cond_false, e5, hnode, decide_true, e6, e7, e8, e9, z0, e10, e11, e12']
  by_cases ht : total data < count
  · have : decide (((total data : Nat) : Int) < (count : Int)) = true := by simp; omega
    simp only [this, cond_true]
    rw [if_pos ht]
  · have : decide (((total data : Nat) : Int) < (count : Int)) = false := by simp; omega
    simp only [this, cond_false, e13, Option.bind_some]
    rw [if_neg ht]
end Go.Sx

/- Pages sorted by line: the stable sort of up to twenty pages is insertion. -/
set_option linter.unusedVariables false
set_option linter.unusedSimpArgs false
namespace Go.Sx
open Go.RowKit
def insR (x : Page) (acc : List Page) : List Page := acc.takeWhile (fun p => decide (p.1 ≤ x.1)) ++ x :: acc.dropWhile (fun p => decide (p.1 ≤ x.1))
def isort (l : List Page) : List Page := l.foldl (fun acc x => insR x acc) []
def Asc (l : List Page) : Prop := l.Pairwise fun p q => p.1 ≤ q.1
theorem cmp_lines (a b : Page) : (qf41 a b).bind (fun r => some (decide (r < 0))) = some (decide (a.1 < b.1)) := by
  unfold qf41 qf40 qf10
  simp only [decide_true, Bool.not_true, Option.bind_some, cond_false]
  by_cases h1 : a.1 < b.1
  · simp [h1]
  · by_cases h2 : b.1 < a.1 <;> simp [h1, h2]
theorem cmp_lt {a b : Page} : ∃ r, qf41 a b = some r ∧ decide (r < 0) = decide (a.1 < b.1) := by
  have h := cmp_lines a b
  cases hr : qf41 a b with
  | none => rw [hr] at h; simp at h
  | some r => rw [hr] at h; simp at h; exact ⟨r, rfl, by simpa using h⟩
theorem swap_two (l : List Page) (y x : Page) (r : List Page) : ((l ++ y :: x :: r).set (l.length + 1) y).set l.length x = l ++ x :: y :: r := by
  induction l with
  | nil => rfl
  | cons a l ih => simp only [List.cons_append, List.length_cons, List.set_cons_succ]; rw [ih]
theorem getD_mid (l : List Page) (y : Page) (r : List Page) (d : Page) : (l ++ y :: r).getD l.length d = y := by simp [List.getD]
theorem getD_mid1 (l : List Page) (y x : Page) (r : List Page) (d : Page) : (l ++ y :: x :: r).getD (l.length + 1) d = x := by simp [List.getD]
theorem tw_all {f : Page → Bool} : ∀ {l : List Page}, (∀ p ∈ l, f p = true) → l.takeWhile f = l
  | [], _ => rfl
  | a :: l, h => by rw [List.takeWhile_cons, h a (by simp)]; simp [tw_all (l := l) fun p hp => h p (by simp [hp])]
theorem dw_all {f : Page → Bool} : ∀ {l : List Page}, (∀ p ∈ l, f p = true) → l.dropWhile f = []
  | [], _ => rfl
  | a :: l, h => by rw [List.dropWhile_cons, h a (by simp)]; simp [dw_all (l := l) fun p hp => h p (by simp [hp])]
theorem insert_eq (n i : Int) (x : Page) : ∀ (k : Nat) (pre mid : List Page), pre.length = k → k ≤ 1000 → Asc pre →
    qf42L1 0 n i (k : Int) (pre ++ x :: mid) = some (0, n, i, pre.takeWhile (fun p => decide (p.1 ≤ x.1)) ++ x :: (pre.dropWhile (fun p => decide (p.1 ≤ x.1)) ++ mid)) := by
  intro k
  induction k with
  | zero =>
    intro pre mid hk _ _
    have : pre = [] := List.eq_nil_of_length_eq_zero hk
    subst this
    refine iter_done ?_
    show qf42L1b 0 n i ((0 : Nat) : Int) _ = _
    unfold qf42L1b
    simp
  | succ k ih =>
    intro pre mid hk hk2 hs
    obtain ⟨pre', y, rfl⟩ : ∃ p y, pre = p ++ [y] := by
      rcases List.eq_nil_or_concat pre with h | ⟨p, y, h⟩
      · rw [h] at hk; cases hk
      · exact ⟨p, y, by rw [h, List.concat_eq_append]⟩
    have hk' : pre'.length = k := by simpa using hk
    have hs' : Asc pre' := (List.pairwise_append.1 hs).1
    have hy : ∀ p ∈ pre', p.1 ≤ y.1 := fun p hp => (List.pairwise_append.1 hs).2.2 p hp y (by simp)
    have hl : pre' ++ [y] ++ x :: mid = pre' ++ y :: x :: mid := by simp
    rw [hl]
    have e1 : decide ((0 : Int) < ((k + 1 : Nat) : Int)) = true := by simp
    have e2 : IntKind.wrap .i64 (((k + 1 : Nat) : Int) - 1) = (k : Int) := by rw [i64w (by omega) (by omega)]; omega
    have e3 : inR ((k + 1 : Nat) : Int) (pre' ++ y :: x :: mid).length = true := inR_nat (by simp; omega)
    have e4 : inR (k : Int) (pre' ++ y :: x :: mid).length = true := inR_nat (by simp; omega)
    have g1 : ∀ d, List.getD (pre' ++ y :: x :: mid) (k + 1) d = x := fun d => by rw [← hk']; exact getD_mid1 pre' y x mid d
    have g2 : ∀ d, List.getD (pre' ++ y :: x :: mid) k d = y := fun d => by rw [← hk']; exact getD_mid pre' y (x :: mid) d
    obtain ⟨r, hr, hd⟩ := cmp_lt (a := x) (b := y)
    by_cases hc : x.1 < y.1
    · have e5 : decide (r < 0) = true := by rw [hd]; simpa using hc
      have e6 : inR (k : Int) ((pre' ++ y :: x :: mid).set (k + 1) y).length = true := by rw [List.length_set]; exact e4
      have e7 : ((pre' ++ y :: x :: mid).set (k + 1) y).set k x = pre' ++ x :: y :: mid := by rw [← hk']; exact swap_two pre' y x mid
      have step : qf42L1b 0 n i ((k + 1 : Nat) : Int) (pre' ++ y :: x :: mid) = some (.inl (0, n, i, (k : Int), pre' ++ x :: y :: mid)) := by
        unfold qf42L1b
        simp only [e1, e2, e3, e4, cond_true, Int.toNat_natCast, g1, g2, hr, Option.bind_some, e5, e6, e7]
      refine (iter_step step).trans ((ih pre' (y :: mid) hk' (by omega) hs').trans ?_)
      have hny : decide (y.1 ≤ x.1) = false := by simp; omega
      have hT : (pre' ++ [y]).takeWhile (fun p => decide (p.1 ≤ x.1)) = pre'.takeWhile (fun p => decide (p.1 ≤ x.1)) := by
        rw [List.takeWhile_append]
        split
        · rename_i h
          have h1 : pre'.takeWhile (fun p => decide (p.1 ≤ x.1)) = pre' := (List.takeWhile_prefix (p := fun p : Page => decide (p.1 ≤ x.1)) (l := pre')).eq_of_length h
          rw [h1]; simp [hny]
        · rfl
      have hD : (pre' ++ [y]).dropWhile (fun p => decide (p.1 ≤ x.1)) = pre'.dropWhile (fun p => decide (p.1 ≤ x.1)) ++ [y] := by
        rw [List.dropWhile_append]
        split
        · rename_i h
          have h1 : pre'.dropWhile (fun p => decide (p.1 ≤ x.1)) = [] := by simpa using h
          rw [h1]; simp [hny]
        · rfl
      rw [hT, hD]
      simp
    · have e5 : decide (r < 0) = false := by rw [hd]; simpa using hc
      have step : qf42L1b 0 n i ((k + 1 : Nat) : Int) (pre' ++ y :: x :: mid) = some (.inr (0, n, i, pre' ++ y :: x :: mid)) := by
        unfold qf42L1b
        simp only [e1, e2, e3, e4, cond_true, Int.toNat_natCast, g1, g2, hr, Option.bind_some, e5, cond_false]
      refine (iter_done step).trans ?_
      have hall : ∀ p ∈ pre' ++ [y], (fun p : Page => decide (p.1 ≤ x.1)) p = true := fun p hp => by
        simp only [List.mem_append, List.mem_singleton] at hp
        simp only [decide_eq_true_eq]
        rcases hp with hp | rfl
        · have := hy p hp; omega
        · omega
      rw [tw_all hall, dw_all hall]
      simp
theorem dw_gt {x : Page} : ∀ {acc : List Page}, Asc acc → ∀ p ∈ acc.dropWhile (fun p => decide (p.1 ≤ x.1)), x.1 < p.1
  | [], _, p, hp => by simp at hp
  | a :: l, h, p, hp => by
    rw [List.dropWhile_cons] at hp
    obtain ⟨h1, h2⟩ := List.pairwise_cons.1 h
    by_cases hc : a.1 ≤ x.1
    · rw [if_pos (by simpa using hc)] at hp
      exact dw_gt h2 p hp
    · rw [if_neg (by simpa using hc)] at hp
      rcases List.mem_cons.1 hp with rfl | hp
      · omega
      · have := h1 p hp; omega
theorem tw_le {x : Page} : ∀ {acc : List Page}, ∀ p ∈ acc.takeWhile (fun p => decide (p.1 ≤ x.1)), p.1 ≤ x.1
  | [], p, hp => by simp at hp
  | a :: l, p, hp => by
    rw [List.takeWhile_cons] at hp
    by_cases hc : a.1 ≤ x.1
    · rw [if_pos (by simpa using hc)] at hp
      rcases List.mem_cons.1 hp with rfl | hp
      · exact hc
      · exact tw_le p hp
    · rw [if_neg (by simpa using hc)] at hp
      cases hp
theorem asc_insR {x : Page} {acc : List Page} (h : Asc acc) : Asc (insR x acc) := by
  unfold insR Asc
  have hs : Asc (acc.takeWhile (fun p => decide (p.1 ≤ x.1)) ++ acc.dropWhile (fun p => decide (p.1 ≤ x.1))) := by rw [List.takeWhile_append_dropWhile]; exact h
  obtain ⟨h1, h2, h3⟩ := List.pairwise_append.1 hs
  refine List.pairwise_append.2 ⟨h1, List.pairwise_cons.2 ⟨fun p hp => Int.le_of_lt (dw_gt h p hp), h2⟩, fun p hp q hq => ?_⟩
  rcases List.mem_cons.1 hq with rfl | hq
  · exact tw_le p hp
  · exact h3 p hp q hq
theorem len_insR (x : Page) (acc : List Page) : (insR x acc).length = acc.length + 1 := by
  have := congrArg List.length (List.takeWhile_append_dropWhile (p := fun p : Page => decide (p.1 ≤ x.1)) (l := acc))
  simp only [List.length_append] at this
  simp only [insR, List.length_append, List.length_cons]
  omega
theorem isort_take {l : List Page} {i : Nat} (hi : i < l.length) : isort (l.take (i + 1)) = insR l[i] (isort (l.take i)) := by
  unfold isort
  rw [List.take_add_one, List.getElem?_eq_getElem hi, List.foldl_append]; rfl
theorem isort_asc (l : List Page) : Asc (isort l) ∧ (isort l).length = l.length := by
  have key : ∀ i, i ≤ l.length → Asc (isort (l.take i)) ∧ (isort (l.take i)).length = i := by
    intro i
    induction i with
    | zero => intro _; exact ⟨List.Pairwise.nil, rfl⟩
    | succ i ih =>
      intro hi
      obtain ⟨h1, h2⟩ := ih (by omega)
      rw [isort_take (by omega)]
      exact ⟨asc_insR h1, by rw [len_insR, h2]⟩
  have := key l.length (Nat.le_refl _)
  rwa [List.take_length] at this
theorem insertion_eq (l : List Page) (hl : l.length ≤ 900) : qf42 0 (l.length : Int) l = some (isort l) := by
  unfold qf42
  have e : IntKind.wrap .i64 ((0 : Int) + 1) = 1 := i64w (by omega) (by omega)
  rw [e]
  have key : qf42L2 0 (l.length : Int) 1 l = some (isort l) := by
    by_cases h0 : l.length = 0
    · have : l = [] := List.eq_nil_of_length_eq_zero h0
      subst this
      refine iter_done ?_
      show qf42L2b 0 ((0 : Nat) : Int) 1 [] = _
      unfold qf42L2b
      rfl
    · have st : (fun i : Nat => ((0 : Int), (l.length : Int), (i : Int), isort (l.take i) ++ l.drop i)) 1 = (0, (l.length : Int), 1, l) := by
        have h1 : isort (l.take 1) = l.take 1 := by
          cases l with
          | nil => rfl
          | cons a l => simp [isort, insR]
        show ((0 : Int), (l.length : Int), ((1 : Nat) : Int), isort (l.take 1) ++ l.drop 1) = _
        rw [h1, List.take_append_drop]; rfl
      have := iter_for (body := qf42L2B) (fun i : Nat => ((0 : Int), (l.length : Int), (i : Int), isort (l.take i) ++ l.drop i)) l.length (isort l) (fun i hi => ?_) ?_ 1 (by omega)
      · have st' : ((0 : Int), (l.length : Int), ((1 : Nat) : Int), isort (l.take 1) ++ l.drop 1) = (0, (l.length : Int), 1, l) := st
        rw [st'] at this
        exact this
      · show qf42L2b 0 (l.length : Int) i (isort (l.take i) ++ l.drop i) = _
        have hp := isort_asc (l.take i)
        have hlen : (isort (l.take i)).length = i := by rw [hp.2]; simp; omega
        have e1 : decide ((i : Int) < (l.length : Int)) = true := by simp; omega
        have e4 : IntKind.wrap .i64 ((i : Int) + 1) = ((i + 1 : Nat) : Int) := by rw [i64w (by omega) (by omega)]; simp
        have hins := insert_eq (l.length : Int) (i : Int) l[i] i (isort (l.take i)) (l.drop (i + 1)) hlen (by omega) hp.1
        rw [List.drop_eq_getElem_cons hi]
        unfold qf42L2b
        simp only [e1, cond_true, hins, Option.bind_some, e4]
        rw [isort_take hi]
        simp only [insR, List.append_assoc, List.cons_append]
      · show qf42L2b 0 (l.length : Int) l.length (isort (l.take l.length) ++ l.drop l.length) = _
        unfold qf42L2b
        simp
  rw [key]; rfl
theorem ascending_eq (l : List Page) (hl : l.length < 20) : qf47 l = some (isort l) := by
  have h1 : qf45L1 (l.length : Int) 20 0 20 l = some ((l.length : Int), 20, 0, l) := by
    refine iter_done ?_
    show qf45L1b (l.length : Int) 20 0 20 l = _
    unfold qf45L1b
    have : decide ((20 : Int) ≤ (l.length : Int)) = false := by simp; omega
    simp only [this, cond_false]
  have h3 : qf45L3 (l.length : Int) 20 (isort l) = some (isort l) := by
    refine iter_done ?_
    show qf45L3b (l.length : Int) 20 (isort l) = _
    unfold qf45L3b
    have : decide ((20 : Int) < (l.length : Int)) = false := by simp; omega
    simp only [this, cond_false]
  unfold qf47 qf46 qf45
  rw [h1]
  simp only [Option.bind_some]
  rw [insertion_eq l (by omega)]
  simp only [Option.bind_some]
  rw [h3]; rfl
theorem isort_of_asc {l : List Page} (h : Asc l) : isort l = l := by
  have key : ∀ i, i ≤ l.length → isort (l.take i) = l.take i := by
    intro i
    induction i with
    | zero => intro _; rfl
    | succ i ih =>
      intro hi
      rw [isort_take (by omega), ih (by omega)]
      have hlt : i < l.length := by omega
      have hall : ∀ p ∈ l.take i, (fun p : Page => decide (p.1 ≤ l[i].1)) p = true := fun p hp => by
        have h2 : Asc (l.take i ++ l.drop i) := by rw [List.take_append_drop]; exact h
        have := (List.pairwise_append.1 h2).2.2 p hp l[i] (by rw [List.drop_eq_getElem_cons hlt]; exact List.mem_cons_self)
        simpa using this
      unfold insR
      rw [tw_all hall, dw_all hall, List.take_add_one, List.getElem?_eq_getElem hlt]; rfl
  have := key l.length (Nat.le_refl _)
  rwa [List.take_length] at this
end Go.Sx

/- Taking a segment without an owner, plainly. -/
set_option linter.unusedVariables false
set_option linter.unusedSimpArgs false
namespace Go.Sx
open Go.RowKit
def firstFree (own : Nat → Int) (c n : Nat) : Option Nat := ((List.range' 0 n).find? fun i => decide (own ((c + i) % n) = -1)).map fun i => (c + i) % n
theorem unowned_eq (known : List Page) (hk : ∀ p ∈ known, Wf TPage p) (hl : known.length ≤ maxLen) (c n : Nat) (c1 : c ≤ 5) (n0 : 1 ≤ n) (n1 : n ≤ 9) (hp : Nat → Page) (own : Nat → Int) (U : Nat → Nat)
    (hh : ∀ s, s < n → headerS known (s : Int) = (hp s, (own s, (U s : Int), ()), true, 0)) :
    qf36 known (c : Int) (n : Int) = some (match firstFree own c n with | some s => ((s : Int), true) | none => (0, false)) := by
  have body : ∀ i, i < n → qf36L1b known c n i = bif decide (own ((c + i) % n) = -1) then some (.inr (.inr ((((c + i) % n : Nat) : Int), true))) else some (.inl (known, (c : Int), (n : Int), ((i + 1 : Nat) : Int))) := by
    intro i hi
    have e1 : decide ((i : Int) < (n : Int)) = true := by simp; omega
    have e2 : (!decide ((n : Int) = 0)) = true := by simp; omega
    have e3 : IntKind.wrap .i64 ((c : Int) + (i : Int)) = ((c + i : Nat) : Int) := by rw [i64w (by omega) (by omega)]; simp
    have e4 : Int.tmod ((c + i : Nat) : Int) (n : Int) = (((c + i) % n : Nat) : Int) := by rw [tmodn (by omega)]; simp
    have e5 : IntKind.wrap .i64 ((i : Int) + 1) = ((i + 1 : Nat) : Int) := by rw [i64w (by omega) (by omega)]; simp
    have hm : (c + i) % n < n := Nat.mod_lt _ (by omega)
    unfold qf36L1b
    simp only [e1, e2, e3, e4, cond_true, qf35_eq known hk hl, hh _ hm, Option.bind_some, decide_true, e5]
  have key := iter_scan (body := qf36L1B) (fun i => (known, (c : Int), (n : Int), (i : Int))) n (fun i => decide (own ((c + i) % n) = -1)) (fun i => .inr ((((c + i) % n : Nat) : Int), true)) (.inl ()) (fun i hi hb => by
      show qf36L1b known c n i = _
      rw [body i hi, hb]; rfl) (fun i hi hb => by
      show qf36L1b known c n i = _
      rw [body i hi, hb]; rfl) (by
      show qf36L1b known c n n = _
      unfold qf36L1b
      simp) 0 (Nat.zero_le _)
  have key' : qf36L1 known (c : Int) (n : Int) 0 = _ := key
  unfold qf36 firstFree
  rw [key', Nat.sub_zero]
  cases (List.range' 0 n).find? (fun i => decide (own ((c + i) % n) = -1)) <;> rfl
theorem firstFree_some {own : Nat → Int} {c n s : Nat} (n0 : 1 ≤ n) (h : firstFree own c n = some s) : s < n ∧ own s = -1 := by
  unfold firstFree at h
  obtain ⟨i, h1, rfl⟩ := Option.map_eq_some_iff.1 h
  exact ⟨Nat.mod_lt _ (by omega), by simpa using List.find?_some h1⟩
theorem bits_511 (s : Nat) (hs : s < 9) : (511 : Int) / 2 ^ s % 2 = 1 := by
  have : ∀ s : Fin 9, (511 : Int) / 2 ^ s.1 % 2 = 1 := by decide
  exact this ⟨s, hs⟩
theorem owned_all (n : Nat) (hn : n ≤ 9) : ownedL 511 n = (List.range n).map Int.ofNat := by
  unfold ownedL
  congr 1
  refine List.filter_eq_self.2 fun s hs => ?_
  have := List.mem_range.1 hs
  simpa using bits_511 s (by omega)
theorem set_bit9 (B s : Nat) (hB : B < 512) (hs : s < 9) : IntKind.wrap .u32 ((BitVec.ofInt (IntKind.bits .u32) (B : Int) ||| BitVec.ofInt (IntKind.bits .u32) (shiftL .u32 (1 : Int) (s : Int))).toNat : Int) = ((B ||| 2 ^ s : Nat) : Int) := set_bit B s (by omega) (by omega)
theorem acquire_eq (known : List Page) (hk : ∀ p ∈ known, Wf TPage p) (hl : known.length ≤ maxLen) (c n : Nat) (inc lines : Int) (c1 : c ≤ 5) (i0 : 1 ≤ inc) (i1 : inc ≤ 59) (l0 : 104 ≤ lines) (l1 : lines ≤ 256) (hn : cnt lines = n) (n0 : 1 ≤ n)
    (np : Page) (nd : Node) (hnode : nodeS known c = (np, nd, true, 0)) (B : Nat) (hB : B < 512) (hBn : nd.2.2.1 = B) (hp : Nat → Page) (own : Nat → Int) (U : Nat → Nat) (hU : ∀ s, s < n → U s < 65536)
    (hh : ∀ s, s < n → headerS known (s : Int) = (hp s, (own s, (U s : Int), ()), true, 0)) (hw : ∀ s, s < n → Wf TNode (nd.1, nd.2.1, ((B ||| 2 ^ s : Nat) : Int), inc, nd.2.2.2.2)) :
    qf48 ((c : Int), inc, lines, -1, ()) known = some (match firstFree own c n with
      | none => ([], [], 0, 12, true)
      | some s => ([], isort [(writeNode np (nd.1, nd.2.1, ((B ||| 2 ^ s : Nat) : Int), inc, nd.2.2.2.2)).1, (writeHead (hp s) ((c : Int), (U s : Int), ())).1], (s : Int), 0, true)) := by
  have hn9 : n ≤ 9 := by have := cnt_bd lines; omega
  have e1 : qf5 (c : Int) = some true := by
    unfold qf5
    have : decide ((0 : Int) ≤ (c : Int)) = true := by simp
    have h2 : decide ((c : Int) < 6) = true := by simp; omega
    simp only [this, h2, cond_true]
  have e2 : qf6 lines = some true := by rw [qf6_eq]; simp [l0, l1]
  have d1 : decide (inc < 1) = false := by simp; omega
  have d2 : decide ((59 : Int) < inc) = false := by simp; omega
  have d3 : decide ((-1 : Int) < -1) = false := by decide
  have d4 : decide ((6 : Int) ≤ -1) = false := by decide
  have d5 : decide ((-1 : Int) = (c : Int)) = false := by simp
  have d6 : (!decide ((-1 : Int) = -1)) = false := by decide
  have d7 : decide ((-1 : Int) = -1) = true := by decide
  have e5 := qf24_eq known hk hl (c : Int) (by omega) (by omega)
  have e98 : IntKind.wrap .i64 (98 + (c : Int)) = 98 + (c : Int) := i64w (by omega) (by omega)
  have hlat : (latest known (98 + (c : Int))).isSome = true := by
    unfold nodeS at hnode
    cases hq : latest known (98 + (c : Int)) with
    | none => rw [hq] at hnode; simp at hnode
    | some p => rfl
  have e3 : qf16 known [98 + (c : Int)] = some [] := qf16_none known hl _ (by simp) (fun l h => by simp at h; rw [h]; exact hlat)
  have e6 : qf25 lines = some (n : Int) := by rw [qf25_eq, hn]
  have e7 : qf26 511 (n : Int) = some ((List.range n).map Int.ofNat) := by rw [qf26_eq 511 (by omega) (by omega) n hn9, owned_all n hn9]
  have e8 := qf28_eq ((List.range n).map Int.ofNat) (by simp; omega)
  have e9 : qf16 known (((List.range n).map Int.ofNat).map hdr20) = some [] := qf16_none known hl _ (by simp; omega) fun l h => by
    obtain ⟨s, h1, rfl⟩ := List.mem_map.1 h
    obtain ⟨j, h2, rfl⟩ := List.mem_map.1 h1
    have := hh j (List.mem_range.1 h2)
    unfold headerS at this
    have ej : Int.ofNat j = (j : Int) := rfl
    rw [ej]
    cases hq : latest known (hdr20 (j : Int)) with
    | none => rw [hq] at this; simp at this
    | some p => rfl
  have e10 := unowned_eq known hk hl c n c1 n0 hn9 hp own U hh
  have z0 : decide ((0 : Int) < ((([] : List Int).length : Nat) : Int)) = false := by decide
  unfold qf48
  simp only [e1, Option.bind_some, Bool.not_true, cond_false, cond_true, d1, d2, e2, d3, d4, d5, d6, d7, e98, e3, z0, e5, hnode, decide_true, e6, e7, e8, e9, e10]
  cases hf : firstFree own c n with
  | none => simp only [Bool.not_false, cond_true]
  | some s =>
    obtain ⟨hs, hown⟩ := firstFree_some n0 hf
    have u1 : IntKind.wrap .u64 (s : Int) = s := u64w (by omega) (by omega)
    have u2 : decide ((0 : Int) ≤ (s : Int)) = true := by simp
    have u3 : decide (own s = -1) = true := by simpa using hown
    have u4 := set_bit9 B s hB (by omega)
    have u5 := qf38_eq np (nd.1, nd.2.1, ((B ||| 2 ^ s : Nat) : Int), inc, nd.2.2.2.2) (hw s hs)
    have u6 := qf39_eq (hp s) ((c : Int), (U s : Int), ()) (wf_headv (by omega) (by omega) (hU s hs))
    simp only [Bool.not_true, cond_false, qf35_eq known hk hl, hh s hs, Option.bind_some, decide_true, u3, u1, u2, cond_true, hBn, u4, u5, u6]
    rw [ascending_eq _ (by simp)]
    rfl
end Go.Sx

/- Heaps in order: every line has its page, nothing is locked; what a commit makes of them. -/
set_option linter.unusedVariables false
set_option linter.unusedSimpArgs false
namespace Go.Sx
open Go.RowKit
structure Heap (n : Nat) (P : List Page) : Prop where
  len : P.length = 8 + 16 * n
  line : ∀ i (h : i < P.length), (P[i]).1 = 96 + (i : Int)
  wf : ∀ p ∈ P, Wf TPage p
  free : ∀ p ∈ P, lockedB p = false
section
variable {n : Nat} {P : List Page}
theorem Heap.latest (h : Heap n P) {i : Nat} (hi : i < P.length) {l : Int} (hl : l = 96 + (i : Int)) : latest P l = some P[i] := by
  subst hl
  unfold Go.Sx.latest
  cases hf : P.reverse.find? fun p => decide (p.1 = 96 + (i : Int)) with
  | none =>
    have := List.find?_eq_none.1 hf P[i] (by simp)
    simp [h.line i hi] at this
  | some p =>
    have h1 := List.mem_of_find?_eq_some hf
    have h2 : p.1 = 96 + (i : Int) := by simpa using List.find?_some hf
    obtain ⟨j, hj, rfl⟩ := List.mem_iff_getElem.1 (List.mem_reverse.1 h1)
    rw [h.line j hj] at h2
    have : j = i := by omega
    subst this; rfl
theorem Heap.node (h : Heap n P) {c : Nat} (hc : c ≤ 5) (hi : 2 + c < P.length) : nodeS P (c : Int) = (P[2 + c], (readNode P[2 + c]).1, true, (readNode P[2 + c]).2) := by
  unfold nodeS
  rw [h.latest hi (by omega)]
  simp only [h.free _ (List.getElem_mem hi), Bool.false_eq_true, if_false]
theorem Heap.header (h : Heap n P) {s : Nat} (hs : s < n) (hn : n ≤ 9) (hi : 8 + 16 * s < P.length) : headerS P (s : Int) = (P[8 + 16 * s], (readHead P[8 + 16 * s]).1, true, (readHead P[8 + 16 * s]).2) := by
  unfold headerS
  have : hdr20 (s : Int) = 96 + ((8 + 16 * s : Nat) : Int) := by unfold hdr20; rw [if_pos (by omega)]; omega
  rw [h.latest hi this]
  simp only [h.free _ (List.getElem_mem hi), Bool.false_eq_true, if_false]
def reHead (p : Page) (h : Int) : Page := (p.1, h, p.2.2)
theorem readHead_re (p : Page) (h : Int) : readHead (reHead p h) = readHead p := rfl
theorem readNode_re (p : Page) (h : Int) : readNode (reHead p h) = readNode p := rfl
theorem ptag_re (p : Page) (h : Int) : ptag (reHead p h) = ptag p := rfl
theorem commit1_get (P : List Page) (w : Page) (j : Nat) (hj : j < P.length) (hw : w.1 = 96 + (j : Int)) (i : Nat) (hi : i < (commit1 P w).length) : (commit1 P w)[i] = if i = j then reHead w (bump (P[j].2.1)) else P[i]'(by rw [commit1_len] at hi; exact hi) := by
  have e : (w.1 - 96).toNat = j := by omega
  unfold commit1
  simp only [e, List.getElem_set]
  by_cases h : i = j
  · subst h
    simp [List.getD, hj, reHead]
  · rw [if_neg (fun h2 => h h2.symm), if_neg h]
theorem Heap.commit (h : Heap n P) {w : Page} {j : Nat} (hj : j < P.length) (hw : w.1 = 96 + (j : Int)) (hwf : Wf TPage w) : Heap n (commit1 P w) := by
  have hb := bump_bd (P[j].2.1)
  refine ⟨by rw [commit1_len]; exact h.len, fun i hi => ?_, fun p hp => ?_, fun p hp => ?_⟩
  · rw [commit1_get P w j hj hw i hi]
    split
    · rename_i e; subst e; exact hw
    · exact h.line i _
  · obtain ⟨i, hi, rfl⟩ := List.mem_iff_getElem.1 hp
    rw [commit1_get P w j hj hw i hi]
    split
    · exact ⟨hwf.1, wf_u64_mk (n := bump (P[j].2.1)) hb.1 hb.2.1, hwf.2.2⟩
    · exact h.wf _ (List.getElem_mem _)
  · obtain ⟨i, hi, rfl⟩ := List.mem_iff_getElem.1 hp
    rw [commit1_get P w j hj hw i hi]
    split
    · unfold lockedB reHead
      simp only [hb.2.2, decide_true, Bool.not_true]
    · exact h.free _ (List.getElem_mem _)
end
def bm (own : Nat → Int) (c : Int) : Nat → Nat
  | 0 => 0
  | n + 1 => if own n = c then bm own c n ||| 2 ^ n else bm own c n
theorem bm_bit (own : Nat → Int) (c : Int) : ∀ (n s : Nat), (bm own c n).testBit s = (decide (s < n) && decide (own s = c))
  | 0, s => by simp [bm]
  | n + 1, s => by
    by_cases h : own n = c
    · simp only [bm, h, if_true, testBit_set, bm_bit own c n s]
      by_cases e : n = s
      · subst e; simp [h]
      · have : decide (s < n + 1) = decide (s < n) := by
          rw [decide_eq_decide]; omega
        simp [e, this]
    · simp only [bm, h, if_false, bm_bit own c n s]
      by_cases e : s = n
      · subst e; simp [h]
      · have : decide (s < n + 1) = decide (s < n) := by
          rw [decide_eq_decide]; omega
        simp [this]
theorem bm_lt (own : Nat → Int) (c : Int) : ∀ (n : Nat), bm own c n < 2 ^ n
  | 0 => by simp [bm]
  | n + 1 => by
    have h := bm_lt own c n
    have hp : 2 ^ n < 2 ^ (n + 1) := Nat.pow_lt_pow_right (by omega) (by omega)
    unfold bm
    split
    · exact Nat.or_lt_two_pow (by omega) hp
    · omega
def upd (own : Nat → Int) (s : Nat) (c : Int) : Nat → Int := fun t => if t = s then c else own t
theorem bm_upd_same {own : Nat → Int} {s n : Nat} {c : Int} (hs : s < n) : bm (upd own s c) c n = bm own c n ||| 2 ^ s := by
  apply Nat.eq_of_testBit_eq
  intro i
  rw [testBit_set, bm_bit, bm_bit]
  unfold upd
  by_cases h : i = s
  · subst h; simp [hs]
  · have : ¬ s = i := fun e => h e.symm
    simp [h, this]
theorem bm_upd_other {own : Nat → Int} {s n : Nat} {c d : Int} (hcd : d ≠ c) (ho : own s ≠ d) : bm (upd own s c) d n = bm own d n := by
  apply Nat.eq_of_testBit_eq
  intro i
  rw [bm_bit, bm_bit]
  unfold upd
  by_cases h : i = s
  · subst h
    have : ¬ c = d := fun e => hcd e.symm
    simp [ho, this]
  · simp [h]
end Go.Sx

