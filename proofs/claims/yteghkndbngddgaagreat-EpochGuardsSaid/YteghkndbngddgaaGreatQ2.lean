/- Q2: printed by a program of this session: the functions of the seat as plain functions, and that the code comes to them. -/
import Derived.Test.YteghkndbngddgaaGreatA2
import Derived.Test.YteghkndbngddgaaGreatT24
import Derived.Test.YteghkndbngddgaaGreatPuA
/- Plain laws: header pages and node pages are read and written. -/
set_option linter.unusedVariables false
set_option linter.unusedSimpArgs false
namespace Go.Sx
open Go.RowKit
abbrev Ptr : Type := Int × Int × Unit
abbrev Ret4 : Type := Ptr × Int × Unit
abbrev Node : Type := Bool × Int × Int × Int × List Ret4 × Unit
abbrev Head : Type := Int × Int × Unit
def noRet : Ret4 := ((0, 0, ()), 0, ())
def noNode : Node := (false, 0, 0, 0, List.replicate 4 noRet, ())
def noPage : Page := (0, 0, List.replicate 7 0, ())
def noHead : Head := (0, 0, ())
def isHdr (line : Int) : Bool := decide (104 ≤ line ∧ line < 248 ∧ (line - 104) % 16 = 0)
def isOwnL (line : Int) : Bool := decide (98 ≤ line ∧ line < 104)
def validP (p : Ptr) : Bool := decide (104 ≤ p.1 ∧ p.1 < 256 ∧ 1 ≤ p.2.1 ∧ p.2.1 ≤ 16777215)
theorem qf29_eq (line : Int) : qf29 line = some (isHdr line) := by
  unfold qf29 isHdr
  by_cases h1 : 104 ≤ line
  · by_cases h2 : line < 248
    · simp only [h1, h2, decide_true, cond_true]
      rw [i64w (by omega) (by omega), tmodn (by omega)]
      simp
    · simp [h1, h2]
  · simp [h1]
def allZ (l : List Int) : Bool := l.all fun w => decide (w = 0)
theorem qf33_eq (l : List Int) (h : l.length ≤ maxLen) : qf33 l = some (allZ l) := by
  have hm : l.length ≤ 9223372036854775807 := by unfold maxLen at h; omega
  have hl := iter_scan (body := qf31L1B) (fun i => (l, (l.length : Int), (i : Int))) l.length (fun i : Nat => !decide (l.getD i 0 = 0)) (fun i => .inr (i : Int)) (.inl ()) (fun i hi hb => ?_) (fun i hi hb => ?_) ?_ 0 (Nat.zero_le _)
  · unfold qf33 qf32 qf31 qf31L1
    rw [show ((0 : Int)) = ((0 : Nat) : Int) from rfl, hl]
    cases hf : (List.range' 0 (l.length - 0)).find? (fun i : Nat => !decide (l.getD i 0 = 0)) with
    | none =>
      have : allZ l = true := by
        unfold allZ
        rw [List.all_eq_true]
        intro x hx
        obtain ⟨i, hi, rfl⟩ := List.mem_iff_getElem.1 hx
        have h1 := List.find?_eq_none.1 hf i (by simp [List.mem_range'_1, hi])
        simpa [List.getD, List.getElem?_eq_getElem hi] using h1
      rw [this]; rfl
    | some j =>
      have h1 := List.find?_some hf
      have h2 := List.mem_of_find?_eq_some hf
      simp only [List.mem_range'_1] at h2
      have : allZ l = false := by
        unfold allZ
        rw [List.all_eq_false]
        refine ⟨l.getD j 0, ?_, by simpa using h1⟩
        rw [List.getD, List.getElem?_eq_getElem (by omega)]
        exact List.getElem_mem _
      rw [this]
      simp only [Option.bind_some]
      have h3 : ((0 : Nat) : Int) ≤ (j : Int) := by omega
      simp [h3]
  · simp only [Bool.not_eq_false', decide_eq_true_eq] at hb
    have e0 : (i : Int) < l.length := by omega
    have e1 : inR (i : Int) l.length = true := by simp [inR]; omega
    simp only [qf31L1B, qf31L1b, qf30, Option.bind_some, e0, e1, hb, Int.toNat_natCast, decide_true, cond_true, Bool.not_true, cond_false]
    rw [i64w (by omega) (by omega)]
    rfl
  · simp only [Bool.not_eq_true', decide_eq_false_iff_not] at hb
    have e0 : (i : Int) < l.length := by omega
    have e1 : inR (i : Int) l.length = true := by simp [inR]; omega
    simp only [qf31L1B, qf31L1b, qf30, Option.bind_some, e0, e1, hb, Int.toNat_natCast, decide_true, decide_false, cond_true, Bool.not_false]
  · have e0 : ¬ ((l.length : Int) < l.length) := by omega
    simp only [qf31L1B, qf31L1b, e0, decide_false, cond_false]
def extra64 (x : Int) : Int := IntKind.wrap .u64 ((BitVec.ofInt (IntKind.bits .u64) x &&& ~~~ BitVec.ofInt (IntKind.bits .u64) (65534 : Int)).toNat : Int)
def extra32 (x : Int) : Int := IntKind.wrap .u32 ((BitVec.ofInt (IntKind.bits .u32) x &&& ~~~ BitVec.ofInt (IntKind.bits .u32) (65534 : Int)).toNat : Int)
theorem extra64_iff {x : Int} (h0 : 0 ≤ x) (h1 : x ≤ 18446744073709551615) : extra64 x = 0 ↔ x < 65536 ∧ x % 2 = 0 := by
  unfold extra64
  rw [bits_andNot h0 (by simp only [IntKind.bits]; omega) (by decide) (by simp [IntKind.bits])]
  have hl : x.toNat &&& (2 ^ IntKind.bits .u64 - 1 - (65534 : Int).toNat) ≤ x.toNat := Nat.and_le_left
  rw [u64w (by omega) (by omega)]
  have := extra_iff 64 x.toNat (by decide) (by omega)
  rw [show (65534 : Int).toNat = 65534 from rfl, show IntKind.bits .u64 = 64 from rfl]
  omega
theorem extra32_iff {x : Int} (h0 : 0 ≤ x) (h1 : x ≤ 4294967295) : extra32 x = 0 ↔ x < 65536 ∧ x % 2 = 0 := by
  unfold extra32
  rw [bits_andNot h0 (by simp only [IntKind.bits]; omega) (by decide) (by simp [IntKind.bits])]
  have hl : x.toNat &&& (2 ^ IntKind.bits .u32 - 1 - (65534 : Int).toNat) ≤ x.toNat := Nat.and_le_left
  rw [u32w (by omega) (by omega)]
  have := extra_iff 32 x.toNat (by decide) (by omega)
  rw [show (65534 : Int).toNat = 65534 from rfl, show IntKind.bits .u32 = 32 from rfl]
  omega
def readHead (p : Page) : Head × Int :=
  if isHdr p.1 = false then (noHead, 1) else
  if 6 < p.2.2.1.getD 0 0 ∨ ¬ (p.2.2.1.getD 1 0 < 65536 ∧ p.2.2.1.getD 1 0 % 2 = 0) ∨ allZ (p.2.2.1.drop 2) = false then (noHead, 14) else
  ((p.2.2.1.getD 0 0 - 1, p.2.2.1.getD 1 0, ()), 0)
theorem qf34_eq (p : Page) (h : Wf TPage p) : qf34 p = some (readHead p) := by
  obtain ⟨ln, hd, dt, _⟩ := p
  obtain ⟨_, _, ⟨h7, hw⟩, _⟩ := h
  obtain ⟨a, b, c, d, e, f, g, rfl⟩ := len7 (α := Int) h7
  have ha := wf_u64 (hw a (by simp))
  have hb := wf_u64 (hw b (by simp))
  have hx := extra64_iff hb.1 hb.2
  unfold extra64 at hx
  unfold qf34 readHead
  simp only [qf29_eq, Option.bind_some, List.getD_cons_zero, List.getD_cons_succ]
  cases hl : isHdr ln with
  | false => simp [noHead]
  | true =>
    simp only [Bool.not_true, cond_false]
    rw [qf33_eq _ (by simp [maxLen])]
    by_cases h1 : 6 < a
    · simp [h1, noHead]
    · by_cases h2 : b < 65536 ∧ b % 2 = 0
      · have h2' := hx.2 h2
        simp only [h1, h2', decide_true, decide_false, Bool.not_true, cond_false, Option.bind_some]
        have e1 : List.drop 2 (List.take 7 [a, b, c, d, e, f, g]) = [c, d, e, f, g] := rfl
        have e2 : List.drop 2 [a, b, c, d, e, f, g] = [c, d, e, f, g] := rfl
        rw [e1, e2]
        have e3 : IntKind.wrap .i64 a = a := i64w (by omega) (by omega)
        rw [e3, i64w (by omega) (by omega), u32w (by omega) (by omega)]
        cases h3 : allZ [c, d, e, f, g] with
        | false => simp [noHead]
        | true => simp [h1, h2]
      · have h2' : ¬ _ := fun h => h2 (hx.1 h)
        simp only [h1, h2', decide_true, decide_false, Bool.not_false, cond_false, cond_true]
        rw [if_neg (by simp), if_pos (.inr (.inl h2))]
        rfl
def writeHead (p : Page) (h : Head) : Page × Int :=
  if isHdr p.1 = false ∨ h.1 < -1 ∨ 6 ≤ h.1 ∨ ¬ (h.2.1 < 65536 ∧ h.2.1 % 2 = 0) then (noPage, 1) else ((p.1, p.2.1, [h.1 + 1, h.2.1, 0, 0, 0, 0, 0], ()), 0)
theorem qf39_eq (p : Page) (h : Head) (hh : Wf THead h) : qf39 p h = some (writeHead p h) := by
  obtain ⟨o, u, _⟩ := h
  obtain ⟨ho, hu, _⟩ := hh
  have ho : -9223372036854775808 ≤ o ∧ o ≤ 9223372036854775807 := wf_i64 ho
  have hu : 0 ≤ u ∧ u ≤ 4294967295 := wf_u32 hu
  have hx := extra32_iff (x := u) hu.1 hu.2
  unfold extra32 at hx
  unfold qf39 writeHead
  simp only [qf29_eq, Option.bind_some]
  cases hl : isHdr p.1 with
  | false => simp [noPage]
  | true =>
    by_cases h1 : o < -1
    · simp [h1, noPage]
    · by_cases h2 : 6 ≤ o
      · simp [h1, h2, noPage]
      · by_cases h3 : u < 65536 ∧ u % 2 = 0
        · have h3' := hx.2 h3
          have e1 : IntKind.wrap .i64 (o + 1) = o + 1 := i64w (by omega) (by omega)
          have e2 : IntKind.wrap .u64 (o + 1) = o + 1 := u64w (by omega) (by omega)
          have e3 : IntKind.wrap .u64 u = u := u64w (by omega) (by omega)
          simp only [h1, h2, h3', e1, e2, e3, decide_true, decide_false, Bool.not_true, cond_false]
          rw [if_neg (by simp [h3])]
        · have h3' : ¬ _ := fun h => h3 (hx.1 h)
          simp only [h1, h2, h3', decide_false, Bool.not_true, Bool.not_false, cond_false, cond_true]
          rw [if_pos (.inr (.inr (.inr h3)))]
          rfl
def retOf (w : Int) : Ret4 := if w = 0 then noRet else ((w % 256, w % 4294967296 / 256, ()), w / 4294967296, ())
def retOk (w : Int) : Bool := decide (w = 0) || validP (retOf w).1
theorem qf21_eq (p : Ptr) : qf21 p = some (validP p) := by
  unfold qf21 qf20 validP
  by_cases h1 : 104 ≤ p.1 <;> by_cases h2 : p.1 < 256 <;> by_cases h3 : 1 ≤ p.2.1 <;> by_cases h4 : p.2.1 ≤ 16777215 <;> simp [h1, h2, h3, h4]
theorem qf19_eq (w : Int) (h0 : 0 ≤ w) (h1 : w ≤ 4294967295) : qf19 w = some (w % 256, w / 256, ()) := by
  unfold qf19
  rw [and255 h0 (by simp only [IntKind.bits]; omega) (by simp [IntKind.bits])]
  have := shr_u32 (a := w) 8 (by decide)
  rw [show ((8 : Int)) = ((8 : Nat) : Int) from rfl, this]
  rw [u32w (by omega) (by omega), i64w (by omega) (by omega), i64w (by omega) (by omega)]
  rfl
theorem wrap_u32_mod (w : Int) : IntKind.wrap .u32 w = w % 4294967296 := IntKind.wrap_u32 w
theorem qf22_eq (w : Int) (h0 : 0 ≤ w) (h1 : w ≤ 18446744073709551615) : qf22 w = some (retOf w, retOk w) := by
  unfold qf22 retOk retOf
  by_cases h : w = 0
  · simp [h, noRet]
  · have := shr_u64 (a := w) 32 (by decide)
    simp only [h, decide_false, cond_false, if_false, Bool.false_or]
    rw [wrap_u32_mod, qf19_eq _ (by omega) (by omega), show ((32 : Int)) = ((32 : Nat) : Int) from rfl, this]
    simp only [Option.bind_some, qf21_eq]
    rw [u32w (n := w / 2 ^ 32) (by omega) (by omega)]
    have e : w % 4294967296 % 256 = w % 256 := by omega
    rw [e]
    rfl
def readNode (p : Page) : Node × Int :=
  if isOwnL p.1 = false then (noNode, 1) else
  if 4294967296 < p.2.2.1.getD 0 0 ∨ 512 ≤ p.2.2.1.getD 1 0 ∨ 59 < p.2.2.1.getD 2 0 ∨ ((p.2.2.1.drop 3).all retOk) = false then (noNode, 14) else
  ((decide (0 < p.2.2.1.getD 0 0), if 0 < p.2.2.1.getD 0 0 then p.2.2.1.getD 0 0 - 1 else 0, p.2.2.1.getD 1 0, p.2.2.1.getD 2 0, (p.2.2.1.drop 3).map retOf, ()), 0)
theorem qf18_eq (line : Int) : qf18 line = some (isOwnL line) := by
  unfold qf18 isOwnL
  by_cases h1 : 98 ≤ line <;> by_cases h2 : line < 104 <;> simp [h1, h2]
def retsUpto (ws : List Int) (i : Nat) : List Ret4 := (ws.map retOf).take i ++ List.replicate (4 - i) noRet
theorem rets_set (w0 w1 w2 w3 : Int) (i : Nat) (hi : i < 4) : (retsUpto [w0, w1, w2, w3] i).set i (retOf ([w0, w1, w2, w3].getD i 0)) = retsUpto [w0, w1, w2, w3] (i + 1) := by
  match i, hi with
  | 0, _ => rfl
  | 1, _ => rfl
  | 2, _ => rfl
  | 3, _ => rfl
theorem getD_words (a b c w0 w1 w2 w3 : Int) (i : Nat) (hi : i < 4) : [a, b, c, w0, w1, w2, w3].getD (3 + i) 0 = [w0, w1, w2, w3].getD i 0 := by
  match i, hi with
  | 0, _ => rfl
  | 1, _ => rfl
  | 2, _ => rfl
  | 3, _ => rfl
theorem all_find (w0 w1 w2 w3 : Int) : ((List.range' 0 4).find? (fun j : Nat => !(retOk ([w0, w1, w2, w3].getD j 0)))).isNone = [w0, w1, w2, w3].all retOk := by
  simp only [List.range', List.find?_cons, List.getD_cons_zero, List.getD_cons_succ, List.all_cons, List.all_nil, List.find?_nil]
  cases retOk w0 <;> cases retOk w1 <;> cases retOk w2 <;> cases retOk w3 <;> rfl
theorem inR_nat {i n : Nat} (h : i < n) : inR (i : Int) n = true := by simp [inR]; omega
theorem qf23L1_eq (ln hd a b c w0 w1 w2 w3 : Int) (u : Unit) (x y : Node) (hw : ∀ w ∈ [w0, w1, w2, w3], 0 ≤ w ∧ w ≤ 18446744073709551615) (hy : y.2.2.2.2.1 = List.replicate 4 noRet) :
    qf23L1 0 (ln, hd, [a, b, c, w0, w1, w2, w3], u) x y = some (if [w0, w1, w2, w3].all retOk then .inl (x, (y.1, y.2.1, y.2.2.1, y.2.2.2.1, [w0, w1, w2, w3].map retOf, y.2.2.2.2.2)) else .inr (14, noNode)) := by
  have := iter_scan (body := qf23L1B) (fun i => ((i : Int), (ln, hd, [a, b, c, w0, w1, w2, w3], u), x, (y.1, y.2.1, y.2.2.1, y.2.2.2.1, retsUpto [w0, w1, w2, w3] i, y.2.2.2.2.2))) 4 (fun j : Nat => !(retOk ([w0, w1, w2, w3].getD j 0))) (fun _ => .inr (14, noNode))
    (.inl (x, (y.1, y.2.1, y.2.2.1, y.2.2.2.1, [w0, w1, w2, w3].map retOf, y.2.2.2.2.2))) (fun j hj hb => ?_) (fun j hj hb => ?_) ?_ 0 (by decide)
  · unfold qf23L1
    have e : retsUpto [w0, w1, w2, w3] 0 = y.2.2.2.2.1 := by rw [hy]; rfl
    rw [show (4 - 0 : Nat) = 4 from rfl] at this
    rw [e] at this
    rw [show ((0 : Int)) = ((0 : Nat) : Int) from rfl]
    rw [show ((((0 : Nat) : Int), (ln, hd, [a, b, c, w0, w1, w2, w3], u), x, y) : Int × Page × Node × Node) = (((0 : Nat) : Int), (ln, hd, [a, b, c, w0, w1, w2, w3], u), x, (y.1, y.2.1, y.2.2.1, y.2.2.2.1, y.2.2.2.2.1, y.2.2.2.2.2)) from rfl, this]
    congr 1
    rw [← all_find]
    cases (List.range' 0 4).find? (fun j : Nat => !(retOk ([w0, w1, w2, w3].getD j 0))) <;> rfl
  · simp only [Bool.not_eq_false'] at hb
    have e0 : (j : Int) < 4 := by omega
    have e1 : IntKind.wrap .i64 (3 + (j : Int)) = ((3 + j : Nat) : Int) := by rw [i64w (by omega) (by omega)]; omega
    have e2 : IntKind.wrap .i64 ((j : Int) + 1) = ((j + 1 : Nat) : Int) := by rw [i64w (by omega) (by omega)]; omega
    have hwj := hw ([w0, w1, w2, w3].getD j 0) (by rw [List.getD, List.getElem?_eq_getElem (by simp; omega)]; exact List.getElem_mem _)
    simp only [qf23L1B, qf23L1b, e0, e1, e2, inR_nat (show 3 + j < 7 by omega), inR_nat hj, decide_true, cond_true, Int.toNat_natCast, getD_words _ _ _ _ _ _ _ _ hj]
    rw [qf22_eq _ hwj.1 hwj.2]
    simp only [Option.bind_some, hb, Bool.not_true, cond_false]
    rw [rets_set _ _ _ _ _ hj]
  · simp only [Bool.not_eq_true'] at hb
    have e0 : (j : Int) < 4 := by omega
    have e1 : IntKind.wrap .i64 (3 + (j : Int)) = ((3 + j : Nat) : Int) := by rw [i64w (by omega) (by omega)]; omega
    have hwj := hw ([w0, w1, w2, w3].getD j 0) (by rw [List.getD, List.getElem?_eq_getElem (by simp; omega)]; exact List.getElem_mem _)
    simp only [qf23L1B, qf23L1b, e0, e1, inR_nat (show 3 + j < 7 by omega), decide_true, cond_true, Int.toNat_natCast, getD_words _ _ _ _ _ _ _ _ hj]
    rw [qf22_eq _ hwj.1 hwj.2]
    simp only [Option.bind_some, hb, Bool.not_false, cond_true]
    rfl
  · rfl
theorem qf23_eq (p : Page) (h : Wf TPage p) : qf23 p = some (readNode p) := by
  obtain ⟨ln, hd, dt, u⟩ := p
  obtain ⟨_, _, ⟨h7, hw⟩, _⟩ := h
  obtain ⟨a, b, c, d, e, f, g, rfl⟩ := len7 (α := Int) h7
  have ha := wf_u64 (hw a (by simp))
  have hb := wf_u64 (hw b (by simp))
  have hc := wf_u64 (hw c (by simp))
  have hws : ∀ w ∈ [d, e, f, g], 0 ≤ w ∧ w ≤ 18446744073709551615 := fun w hm => wf_u64 (hw w (List.mem_cons_of_mem _ (List.mem_cons_of_mem _ (List.mem_cons_of_mem _ hm))))
  unfold qf23 readNode
  simp only [qf18_eq, Option.bind_some, List.getD_cons_zero, List.getD_cons_succ]
  have e2 : List.drop 3 [a, b, c, d, e, f, g] = [d, e, f, g] := rfl
  rw [e2]
  cases hl : isOwnL ln with
  | false => simp [noNode, noRet]
  | true =>
    by_cases h1 : 4294967296 < a
    · simp [h1, noNode, noRet]
    · by_cases h2 : 512 ≤ b
      · simp [h1, h2, noNode, noRet]
      · by_cases h3 : 59 < c
        · simp [h1, h2, h3, noNode, noRet]
        · have e3 : IntKind.wrap .u32 b = b := u32w (by omega) (by omega)
          have e4 : IntKind.wrap .i64 c = c := i64w (by omega) (by omega)
          simp only [h1, h2, h3, decide_false, Bool.not_true, cond_false, e3, e4]
          by_cases h4 : 0 < a
          · have e5 : IntKind.wrap .u64 (a - 1) = a - 1 := u64w (by omega) (by omega)
            have e6 : IntKind.wrap .u32 (a - 1) = a - 1 := u32w (by omega) (by omega)
            simp only [h4, decide_true, cond_true, e5, e6, if_true]
            rw [qf23L1_eq ln hd a b c d e f g u _ _ hws rfl]
            cases h5 : [d, e, f, g].all retOk <;> simp [noNode]
          · simp only [h4, decide_false, cond_false, if_false]
            rw [qf23L1_eq ln hd a b c d e f g u _ _ hws rfl]
            cases h5 : [d, e, f, g].all retOk <;> simp [noNode]
def retBad (r : Ret4) : Bool := !(decide (r = noRet)) && !(validP r.1)
def retWord (r : Ret4) : Int := if r = noRet then 0 else r.1.1 + 256 * r.1.2.1 + r.2.1 * 4294967296
def writeNode (p : Page) (n : Node) : Page × Int :=
  if isOwnL p.1 = false ∨ (n.1 = false ∧ n.2.1 ≠ 0) ∨ 512 ≤ n.2.2.1 ∨ n.2.2.2.1 < 0 ∨ 59 < n.2.2.2.1 ∨ n.2.2.2.2.1.any retBad = true then (noPage, 1) else
  ((p.1, p.2.1, [if n.1 then n.2.1 + 1 else 0, n.2.2.1, n.2.2.2.1] ++ n.2.2.2.2.1.map retWord, ()), 0)
theorem eqV_ret (r s : Ret4) : eqV TRet r s = decide (r = s) := by
  rw [Bool.eq_iff_iff, eqV_iff rfl, decide_eq_true_eq]
theorem qf37_eq (p : Ptr) (h : validP p = true) : qf37 p = some (p.1 + 256 * p.2.1) := by
  unfold qf37
  rw [qf21_eq, h]
  unfold validP at h
  simp only [decide_eq_true_eq] at h
  simp only [Option.bind_some, Bool.not_true, cond_false]
  rw [u32w (n := p.2.1) (by omega) (by omega), u32w (n := p.1) (by omega) (by omega)]
  have e1 : shiftL .u32 p.2.1 8 = p.2.1 * 256 := by
    unfold shiftL
    rw [show min (Int.toNat 8) (IntKind.bits .u32) = 8 by simp [IntKind.bits], u32w (by omega) (by omega)]
    rfl
  rw [e1, bits_or (by omega) (by simp only [IntKind.bits]; omega) (by omega) (by simp only [IntKind.bits]; omega)]
  have := or_low p.2.1.toNat p.1.toNat 8 (by omega)
  have e2 : (p.2.1 * 256).toNat = p.2.1.toNat * 2 ^ 8 := by omega
  rw [e2, this, u32w (by omega) (by omega)]
  congr 1
  omega
theorem shl_u64 (e : Int) (h0 : 0 ≤ e) (h1 : e ≤ 4294967295) : shiftL .u64 e 32 = e * 4294967296 := by
  unfold shiftL
  rw [show min (Int.toNat 32) (IntKind.bits .u64) = 32 by simp [IntKind.bits], u64w (by omega) (by omega)]
  rfl
def wordsUpto (a b c : Int) (rs : List Ret4) (i : Nat) : List Int := [a, b, c] ++ ((rs.map retWord).take i ++ List.replicate (4 - i) 0)
theorem words_set (a b c : Int) (r0 r1 r2 r3 : Ret4) (i : Nat) (hi : i < 4) : (wordsUpto a b c [r0, r1, r2, r3] i).set (3 + i) (retWord ([r0, r1, r2, r3].getD i noRet)) = wordsUpto a b c [r0, r1, r2, r3] (i + 1) := by
  match i, hi with
  | 0, _ => rfl
  | 1, _ => rfl
  | 2, _ => rfl
  | 3, _ => rfl
theorem words_zero (a b c : Int) (r0 r1 r2 r3 : Ret4) (i : Nat) (hi : i < 4) : (wordsUpto a b c [r0, r1, r2, r3] i).set (3 + i) 0 = wordsUpto a b c [r0, r1, r2, r3] i := by
  match i, hi with
  | 0, _ => rfl
  | 1, _ => rfl
  | 2, _ => rfl
  | 3, _ => rfl
theorem any_find (r0 r1 r2 r3 : Ret4) : ((List.range' 0 4).find? (fun j : Nat => retBad ([r0, r1, r2, r3].getD j noRet))).isSome = [r0, r1, r2, r3].any retBad := by
  simp only [List.range', List.find?_cons, List.getD_cons_zero, List.getD_cons_succ, List.any_cons, List.any_nil, List.find?_nil]
  cases retBad r0 <;> cases retBad r1 <;> cases retBad r2 <;> cases retBad r3 <;> rfl
theorem wf_ret {r : Ret4} (h : Wf TRet r) : (0 ≤ r.2.1 ∧ r.2.1 ≤ 4294967295) := wf_u32 h.2.1
theorem len4 {α : Type} {l : List α} (h : l.length = 4) : ∃ a b c d, l = [a, b, c, d] := by
  match l, h with
  | [a, b, c, d], _ => exact ⟨a, b, c, d, rfl⟩
theorem getD_ret (r0 r1 r2 r3 : Ret4) (j : Nat) (d : Ret4) (hj : j < 4) : [r0, r1, r2, r3].getD j d = [r0, r1, r2, r3].getD j noRet := by
  match j, hj with
  | 0, _ => rfl
  | 1, _ => rfl
  | 2, _ => rfl
  | 3, _ => rfl
theorem qf38L1_eq (r0 r1 r2 r3 : Ret4) (a b c ln hd : Int) (u : Unit) (q : Page) (hw : ∀ r ∈ [r0, r1, r2, r3], Wf TRet r) :
    qf38L1 [r0, r1, r2, r3] 0 (ln, hd, [a, b, c, 0, 0, 0, 0], u) q = some (if [r0, r1, r2, r3].any retBad then .inr (1, noPage) else .inl ((ln, hd, [a, b, c] ++ [r0, r1, r2, r3].map retWord, u), q)) := by
  have := iter_scan (body := qf38L1B) (fun i => ([r0, r1, r2, r3], (i : Int), (ln, hd, wordsUpto a b c [r0, r1, r2, r3] i, u), q)) 4 (fun j : Nat => retBad ([r0, r1, r2, r3].getD j noRet)) (fun _ => .inr (1, noPage))
    (.inl ((ln, hd, [a, b, c] ++ [r0, r1, r2, r3].map retWord, u), q)) (fun j hj hb => ?_) (fun j hj hb => ?_) ?_ 0 (by decide)
  · unfold qf38L1
    rw [show ((0 : Int)) = ((0 : Nat) : Int) from rfl]
    rw [show (4 - 0 : Nat) = 4 from rfl] at this
    rw [show wordsUpto a b c [r0, r1, r2, r3] 0 = [a, b, c, ((0 : Nat) : Int), ((0 : Nat) : Int), ((0 : Nat) : Int), ((0 : Nat) : Int)] from rfl] at this
    rw [this]
    congr 1
    rw [← any_find]
    cases (List.range' 0 4).find? (fun j : Nat => retBad ([r0, r1, r2, r3].getD j noRet)) <;> rfl
  · have e0 : (j : Int) < 4 := by omega
    have e1 : IntKind.wrap .i64 (3 + (j : Int)) = ((3 + j : Nat) : Int) := by rw [i64w (by omega) (by omega)]; omega
    have e2 : IntKind.wrap .i64 ((j : Int) + 1) = ((j + 1 : Nat) : Int) := by rw [i64w (by omega) (by omega)]; omega
    have hwj := hw ([r0, r1, r2, r3].getD j noRet) (by rw [List.getD, List.getElem?_eq_getElem (by simp; omega)]; exact List.getElem_mem _)
    have hset := words_set a b c r0 r1 r2 r3 j hj
    simp only [qf38L1B, qf38L1b, e0, e1, e2, inR_nat (show 3 + j < 7 by omega), inR_nat hj, decide_true, cond_true, Int.toNat_natCast, eqV_ret, getD_ret r0 r1 r2 r3 j _ hj]
    generalize [r0, r1, r2, r3].getD j noRet = r at *
    unfold retBad at hb
    by_cases h : r = noRet
    · have h' : r = (((0 : Int), (0 : Int), ()), (0 : Int), ()) := h
      simp only [h', decide_true, cond_true]
      rw [← hset, h]
      rw [show retWord noRet = 0 from rfl, words_zero _ _ _ _ _ _ _ _ hj]
    · have h' : ¬ r = (((0 : Int), (0 : Int), ()), (0 : Int), ()) := h
      simp only [h, decide_false, Bool.not_false, Bool.true_and, Bool.not_eq_false'] at hb
      simp only [h', decide_false, cond_false, qf21_eq, hb, Option.bind_some, cond_true, qf37_eq _ hb]
      have hv := hb
      unfold validP at hv
      simp only [decide_eq_true_eq] at hv
      have he := wf_ret hwj
      rw [u64w (n := r.1.1 + 256 * r.1.2.1) (by omega) (by omega), u64w (n := r.2.1) (by omega) (by omega), shl_u64 _ he.1 he.2, bits_or (by omega) (by simp only [IntKind.bits]; omega) (by omega) (by simp only [IntKind.bits]; omega)]
      have h3 := or_low r.2.1.toNat (r.1.1 + 256 * r.1.2.1).toNat 32 (by omega)
      have e3 : (r.2.1 * 4294967296).toNat = r.2.1.toNat * 2 ^ 32 := by omega
      rw [e3, Nat.or_comm, h3, u64w (by omega) (by omega)]
      have e4 : (((r.2.1.toNat * 2 ^ 32 + (r.1.1 + 256 * r.1.2.1).toNat : Nat)) : Int) = retWord r := by
        unfold retWord
        rw [if_neg h]
        omega
      rw [e4, hset]
  · have e0 : (j : Int) < 4 := by omega
    simp only [qf38L1B, qf38L1b, e0, inR_nat hj, decide_true, cond_true, Int.toNat_natCast, eqV_ret, getD_ret r0 r1 r2 r3 j _ hj]
    generalize [r0, r1, r2, r3].getD j noRet = r at *
    unfold retBad at hb
    simp only [Bool.and_eq_true, Bool.not_eq_true', decide_eq_false_iff_not] at hb
    have h' : ¬ r = (((0 : Int), (0 : Int), ()), (0 : Int), ()) := hb.1
    simp only [h', decide_false, cond_false, qf21_eq, hb.2, Option.bind_some]
    rfl
  · rfl
theorem qf38_eq (p : Page) (n : Node) (hn : Wf TNode n) : qf38 p n = some (writeNode p n) := by
  obtain ⟨pin, ep, seg, inc, rs, _⟩ := n
  obtain ⟨_, h1, h2, h3, ⟨h4, h5⟩, _⟩ := hn
  have h1 : 0 ≤ ep ∧ ep ≤ 4294967295 := wf_u32 h1
  have h2 : 0 ≤ seg ∧ seg ≤ 4294967295 := wf_u32 h2
  have h3 : -9223372036854775808 ≤ inc ∧ inc ≤ 9223372036854775807 := wf_i64 h3
  obtain ⟨r0, r1, r2, r3, rfl⟩ := len4 (α := Ret4) h4
  have e1 : IntKind.wrap .u64 ep = ep := u64w (by omega) (by omega)
  have e2 : IntKind.wrap .u64 (ep + 1) = ep + 1 := u64w (by omega) (by omega)
  have e3 : IntKind.wrap .u64 seg = seg := u64w (by omega) (by omega)
  unfold qf38 writeNode
  simp only [qf18_eq, Option.bind_some]
  cases hl : isOwnL p.1 with
  | false => simp [noPage]
  | true =>
    simp only [Bool.not_true, cond_false, e1, e2, e3]
    by_cases k1 : 512 ≤ seg
    · cases pin with
      | true => simp [k1, noPage]
      | false => by_cases k0 : ep = 0 <;> simp [k0, k1, noPage]
    · by_cases k2 : inc < 0
      · cases pin with
        | true => simp [k1, k2, noPage]
        | false => by_cases k0 : ep = 0 <;> simp [k0, k1, k2, noPage]
      · by_cases k3 : 59 < inc
        · cases pin with
          | true => simp [k1, k2, k3, noPage]
          | false => by_cases k0 : ep = 0 <;> simp [k0, k1, k2, k3, noPage]
        · have e4 : IntKind.wrap .u64 inc = inc := u64w (by omega) (by omega)
          cases pin with
          | true =>
            simp only [k1, k2, k3, e4, decide_false, Bool.not_true, cond_false, cond_true, List.set_cons_zero]
            rw [qf38L1_eq r0 r1 r2 r3 _ _ _ _ _ _ _ h5]
            cases k4 : [r0, r1, r2, r3].any retBad <;> simp [noPage]
          | false =>
            by_cases k0 : ep = 0
            · simp only [k0, k1, k2, k3, e4, decide_true, decide_false, Bool.not_true, Bool.not_false, cond_false, cond_true]
              rw [qf38L1_eq r0 r1 r2 r3 _ _ _ _ _ _ _ h5]
              cases k4 : [r0, r1, r2, r3].any retBad <;> simp [noPage]
            · simp [k0, noPage]
end Go.Sx

/- What has been written is read again: the plain law. -/
set_option linter.unusedVariables false
set_option linter.unusedSimpArgs false
namespace Go.Sx
open Go.RowKit
theorem wf_head_written (p : Page) (h : Head) (hp : Wf TPage p) (hh : Wf THead h) : Wf TPage (writeHead p h).1 := by
  unfold writeHead
  obtain ⟨k1, k2, k3, k4⟩ := hp
  have hz : Wf TPage noPage := ⟨wf_i64_mk (n := 0) (by decide) (by decide), wf_u64_mk (n := 0) (by decide) (by decide), ⟨rfl, fun x hx => by
    rw [List.eq_of_mem_replicate hx]; exact wf_u64_mk (by decide) (by decide)⟩, trivial⟩
  have hu := wf_u32 hh.2.1
  split
  · exact hz
  · rename_i hc
    simp only [not_or] at hc
    refine ⟨k1, k2, ⟨rfl, fun x hx => ?_⟩, trivial⟩
    simp only [List.mem_cons, List.not_mem_nil, or_false] at hx
    rcases hx with rfl | rfl | rfl | rfl | rfl | rfl | rfl
    · exact wf_u64_mk (by omega) (by omega)
    · exact wf_u64_mk (by omega) (by omega)
    all_goals exact wf_u64_mk (by decide) (by decide)
theorem head_again (p : Page) (h : Head) (hh : Wf THead h) (hc : (writeHead p h).2 = 0) : readHead (writeHead p h).1 = (h, 0) ∧ (writeHead p h).1.1 = p.1 ∧ (writeHead p h).1.2.1 = p.2.1 := by
  unfold writeHead at hc ⊢
  have hu := wf_u32 hh.2.1
  split
  · rename_i hx; rw [if_pos hx] at hc; cases hc
  · rename_i hx
    simp only [not_or, Bool.not_eq_false, Classical.not_not] at hx
    refine ⟨?_, rfl, rfl⟩
    unfold readHead
    rw [if_neg (by rw [hx.1]; simp)]
    rw [if_neg (by
      simp only [List.getD_cons_zero, List.getD_cons_succ, not_or]
      exact ⟨by omega, by simp only [Classical.not_not]; exact hx.2.2.2, by simp [allZ]⟩)]
    obtain ⟨o, u, _⟩ := h
    simp only [List.getD_cons_zero, List.getD_cons_succ]
    rw [show o + 1 - 1 = o by omega]
theorem wf_node_written (p : Page) (n : Node) (hp : Wf TPage p) (hn : Wf TNode n) : Wf TPage (writeNode p n).1 := by
  unfold writeNode
  obtain ⟨k1, k2, k3, k4⟩ := hp
  have hz : Wf TPage noPage := ⟨wf_i64_mk (n := 0) (by decide) (by decide), wf_u64_mk (n := 0) (by decide) (by decide), ⟨rfl, fun x hx => by
    rw [List.eq_of_mem_replicate hx]; exact wf_u64_mk (by decide) (by decide)⟩, trivial⟩
  obtain ⟨m1, m2, m3, m4, ⟨m5, m6⟩, m7⟩ := hn
  have m2 := wf_u32 m2
  have m3 := wf_u32 m3
  split
  · exact hz
  · rename_i hc
    simp only [not_or] at hc
    refine ⟨k1, k2, ⟨by simp [m5], fun x hx => ?_⟩, trivial⟩
    simp only [List.mem_append, List.mem_cons, List.not_mem_nil, or_false, List.mem_map] at hx
    rcases hx with (rfl | rfl | rfl) | ⟨r, hr, rfl⟩
    · split <;> exact wf_u64_mk (by omega) (by omega)
    · exact wf_u64_mk (by omega) (by omega)
    · exact wf_u64_mk (by omega) (by omega)
    · have h1 := m6 r hr
      have h2 := wf_ret h1
      have h3 : retBad r = false := by
        cases e : retBad r with
        | false => rfl
        | true => exact absurd (List.any_eq_true.2 ⟨r, hr, e⟩) hc.2.2.2.2.2
      unfold retWord
      split
      · exact wf_u64_mk (by decide) (by decide)
      · rename_i h4
        unfold retBad validP at h3
        simp only [h4, decide_false, Bool.not_false, Bool.true_and, Bool.not_eq_false', decide_eq_true_eq] at h3
        exact wf_u64_mk (by omega) (by omega)
theorem ret_again (r : Ret4) (hr : Wf TRet r) (hb : retBad r = false) : retOf (retWord r) = r ∧ retOk (retWord r) = true := by
  have he := wf_ret hr
  unfold retWord
  by_cases h : r = noRet
  · rw [if_pos h, h]; exact ⟨rfl, rfl⟩
  · rw [if_neg h]
    unfold retBad at hb
    simp only [h, decide_false, Bool.not_false, Bool.true_and, Bool.not_eq_false'] at hb
    have hv := hb
    unfold validP at hv
    simp only [decide_eq_true_eq] at hv
    have e1 : retOf (r.1.1 + 256 * r.1.2.1 + r.2.1 * 4294967296) = r := by
      unfold retOf
      rw [if_neg (by omega)]
      obtain ⟨⟨l, g, _⟩, e, _⟩ := r
      simp only at hv he ⊢
      congr 1
      · congr 1
        · omega
        · congr 1; omega
      · congr 1; omega
    refine ⟨e1, ?_⟩
    unfold retOk
    rw [e1, hb]; simp
theorem node_again (p : Page) (n : Node) (hn : Wf TNode n) (hc : (writeNode p n).2 = 0) : readNode (writeNode p n).1 = (n, 0) ∧ (writeNode p n).1.1 = p.1 ∧ (writeNode p n).1.2.1 = p.2.1 := by
  unfold writeNode at hc ⊢
  obtain ⟨m1, m2, m3, m4, ⟨m5, m6⟩, m7⟩ := hn
  have m2 := wf_u32 m2
  have m3 := wf_u32 m3
  split
  · rename_i hx; rw [if_pos hx] at hc; cases hc
  · rename_i hx
    simp only [not_or, Bool.not_eq_false] at hx
    obtain ⟨x1, x2, x3, x4, x5, x6⟩ := hx
    refine ⟨?_, rfl, rfl⟩
    have hb : ∀ r ∈ n.2.2.2.2.1, retBad r = false := by
      intro r hr
      cases e : retBad r with
      | false => rfl
      | true => exact absurd (List.any_eq_true.2 ⟨r, hr, e⟩) x6
    have hmap : (n.2.2.2.2.1.map retWord).map retOf = n.2.2.2.2.1 := by
      rw [List.map_map]
      conv => rhs; rw [← List.map_id n.2.2.2.2.1]
      exact List.map_congr_left fun r hr => (ret_again r (m6 r hr) (hb r hr)).1
    have hall : (n.2.2.2.2.1.map retWord).all retOk = true := by
      rw [List.all_map, List.all_eq_true]
      intro r hr
      exact (ret_again r (m6 r hr) (hb r hr)).2
    obtain ⟨pin, ep, seg, inc, rs, u⟩ := n
    unfold readNode
    simp only [List.cons_append, List.nil_append, List.getD_cons_zero, List.getD_cons_succ, List.drop_succ_cons, List.drop_zero] at *
    rw [if_neg (by rw [x1]; simp), if_neg (by
      rw [hall]
      simp only [not_or]
      refine ⟨?_, by omega, by omega, by simp⟩
      split <;> omega), hmap]
    cases pin with
    | true =>
      simp only [if_true]
      have e0 : 0 < ep + 1 := by omega
      rw [if_pos e0, decide_eq_true e0, show ep + 1 - 1 = ep by omega]
    | false =>
      have e0 : ep = 0 := by
        by_cases e : ep = 0
        · exact e
        · exact absurd ⟨rfl, e⟩ x2
      subst e0
      rfl
end Go.Sx

