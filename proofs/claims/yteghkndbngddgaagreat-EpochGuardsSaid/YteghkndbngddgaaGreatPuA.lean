/- PuA: printed by a program of this session: the functions of the seat as plain functions, and that the code comes to them. -/
import Derived.Test.YteghkndbngddgaaGreatSyM
import Derived.IntWalk
/- Plain aids: rounds of loops, numbers in their ranges, equality of data. -/
set_option linter.unusedVariables false
set_option linter.unusedSimpArgs false
namespace Go.Sx
open Go.RowKit
theorem iter_step {α β : Type} {body : α → Option (α ⊕ β)} {x y : α} (h : body x = some (.inl y)) : iter body x = iter body y := by rw [iter_eq, h]
theorem iter_done {α β : Type} {body : α → Option (α ⊕ β)} {x : α} {r : β} (h : body x = some (.inr r)) : iter body x = some r := by rw [iter_eq, h]
theorem iter_for {α β : Type} {body : α → Option (α ⊕ β)} (st : Nat → α) (n : Nat) (r : β) (hs : ∀ i, i < n → body (st i) = some (.inl (st (i + 1)))) (he : body (st n) = some (.inr r)) (i : Nat) (hi : i ≤ n) : iter body (st i) = some r := by
  obtain ⟨d, rfl⟩ : ∃ d, n = i + d := ⟨n - i, by omega⟩
  induction d generalizing i with
  | zero => exact iter_done he
  | succ d ih =>
    rw [iter_step (hs i (by omega))]
    exact ih (i + 1) (fun j hj => hs j (by omega)) (by rw [show i + 1 + d = i + (d + 1) by omega]; exact he) (by omega)
theorem iter_scan {α β : Type} {body : α → Option (α ⊕ β)} (st : Nat → α) (n : Nat) (bad : Nat → Bool) (rb : Nat → β) (re : β) (hs : ∀ i, i < n → bad i = false → body (st i) = some (.inl (st (i + 1))))
    (hb : ∀ i, i < n → bad i = true → body (st i) = some (.inr (rb i))) (he : body (st n) = some (.inr re)) (i : Nat) (hi : i ≤ n) :
    iter body (st i) = some (match (List.range' i (n - i)).find? bad with | some j => rb j | none => re) := by
  obtain ⟨d, rfl⟩ : ∃ d, n = i + d := ⟨n - i, by omega⟩
  rw [show i + d - i = d by omega]
  induction d generalizing i with
  | zero => exact iter_done he
  | succ d ih =>
    rw [List.range'_succ, List.find?_cons]
    cases h : bad i with
    | true => exact iter_done (hb i (by omega) h)
    | false =>
      rw [iter_step (hs i (by omega) h)]
      exact ih (i + 1) (fun j hj => hs j (by omega)) (fun j hj => hb j (by omega)) (by rw [show i + 1 + d = i + (d + 1) by omega]; exact he) (by omega)
theorem i64w {n : Int} (h : -9223372036854775808 ≤ n) (h2 : n ≤ 9223372036854775807) : IntKind.wrap .i64 n = n := IntWalk.i64_in n ⟨h, h2⟩
theorem u64w {n : Int} (h : 0 ≤ n) (h2 : n ≤ 18446744073709551615) : IntKind.wrap .u64 n = n := IntWalk.u64_in n ⟨h, h2⟩
theorem u32w {n : Int} (h : 0 ≤ n) (h2 : n ≤ 4294967295) : IntKind.wrap .u32 n = n := IntWalk.u32_in n ⟨h, h2⟩
theorem wf_i64 {n : Int} (h : Wf (.int .i64) n) : -9223372036854775808 ≤ n ∧ n ≤ 9223372036854775807 := by
  have : Wf (.int .i64) n = (IntKind.i64.min ≤ n ∧ n ≤ IntKind.i64.max) := rfl
  rw [this] at h; simpa [IntKind.min, IntKind.max, IntKind.bits, IntKind.signed] using h
theorem wf_u64 {n : Int} (h : Wf (.int .u64) n) : 0 ≤ n ∧ n ≤ 18446744073709551615 := by
  have : Wf (.int .u64) n = (IntKind.u64.min ≤ n ∧ n ≤ IntKind.u64.max) := rfl
  rw [this] at h; simpa [IntKind.min, IntKind.max, IntKind.bits, IntKind.signed] using h
theorem wf_u32 {n : Int} (h : Wf (.int .u32) n) : 0 ≤ n ∧ n ≤ 4294967295 := by
  have : Wf (.int .u32) n = (IntKind.u32.min ≤ n ∧ n ≤ IntKind.u32.max) := rfl
  rw [this] at h; simpa [IntKind.min, IntKind.max, IntKind.bits, IntKind.signed] using h
theorem wf_i64_mk {n : Int} (h : -9223372036854775808 ≤ n) (h2 : n ≤ 9223372036854775807) : Wf (.int .i64) n := by
  show IntKind.i64.min ≤ n ∧ n ≤ IntKind.i64.max
  simpa [IntKind.min, IntKind.max, IntKind.bits, IntKind.signed] using And.intro h h2
theorem wf_u64_mk {n : Int} (h : 0 ≤ n) (h2 : n ≤ 18446744073709551615) : Wf (.int .u64) n := by
  show IntKind.u64.min ≤ n ∧ n ≤ IntKind.u64.max
  simpa [IntKind.min, IntKind.max, IntKind.bits, IntKind.signed] using And.intro h h2
theorem wf_u32_mk {n : Int} (h : 0 ≤ n) (h2 : n ≤ 4294967295) : Wf (.int .u32) n := by
  show IntKind.u32.min ≤ n ∧ n ≤ IntKind.u32.max
  simpa [IntKind.min, IntKind.max, IntKind.bits, IntKind.signed] using And.intro h h2
theorem eqV_iff : ∀ {t : Ty}, t.eqOk = true → ∀ {v w : Val t}, eqV t v w = true ↔ v = w := by
  intro t
  induction t with
  | int k => intro _ v w; simp [eqV]
  | bool => intro _ v w; simp [eqV]
  | str =>
    intro _ v w
    show ByteArray.beq v w = true ↔ _
    unfold ByteArray.beq
    cases v; cases w; simp
  | slice t ih => intro h; cases h
  | unit => intro _ v w; simp [eqV]
  | pair a b iha ihb =>
    intro h v w
    simp only [Ty.eqOk, Bool.and_eq_true] at h
    simp only [eqV, Bool.and_eq_true, iha h.1, ihb h.2]
    exact ⟨fun e => Prod.ext e.1 e.2, fun e => by rw [e]; exact ⟨rfl, rfl⟩⟩
  | arr n t ih =>
    intro h v w
    have go : ∀ (x y : List (Val t)), eqV.go (eqV t) x y = true ↔ x = y := by
      intro x
      induction x with
      | nil => intro y; cases y <;> simp [eqV.go]
      | cons a x ihx => intro y; cases y <;> simp [eqV.go, ihx, ih h]
    exact go v w
  | cell c => intro h; cases h
theorem eqV_self {t : Ty} (h : t.eqOk = true) (v : Val t) : eqV t v v = true := (eqV_iff h).2 rfl
abbrev Page : Type := Int × Int × List Int × Unit
theorem len7 {α : Type} {l : List α} (h : l.length = 7) : ∃ a b c d e f g, l = [a, b, c, d, e, f, g] := by
  match l, h with
  | [a, b, c, d, e, f, g], _ => exact ⟨a, b, c, d, e, f, g, rfl⟩
end Go.Sx

/- Plain aids: a function by rounds, for running it. -/
set_option linter.unusedVariables false
namespace Go.Sx
open Go.RowKit
def Le {α : Type} (a b : Option α) : Prop := ∀ r, a = some r → b = some r
namespace Le
variable {α β γ : Type}
theorem refl {a : Option α} : Le a a := fun _ h => h
theorem none {b : Option α} : Le Option.none b := fun _ h => by cases h
theorem bind {a b : Option α} {f g : α → Option β} (h : Le a b) (k : ∀ x, Le (f x) (g x)) : Le (a.bind f) (b.bind g) := by
  intro r hr
  cases ha : a with
  | none => rw [ha] at hr; cases hr
  | some x =>
    rw [ha] at hr
    rw [h x ha]
    exact k x r hr
theorem cond {t : Bool} {a b c d : Option α} (h : Le a b) (k : Le c d) : Le (bif t then a else c) (bif t then b else d) := by cases t <;> assumption
theorem sum {s : α ⊕ β} {f f' : α → Option γ} {g g' : β → Option γ} (h : ∀ x, Le (f x) (f' x)) (k : ∀ x, Le (g x) (g' x)) :
    Le (match s with | .inl x => f x | .inr y => g y) (match s with | .inl x => f' x | .inr y => g' y) := by
  cases s with
  | inl x => exact h x
  | inr y => exact k y
theorem iter {n : Nat} {f g : α → Option (α ⊕ β)} {x : α} (h : ∀ y, Le (f y) (g y)) : Le (iterN f n x) (Sx.iter g x) := by
  intro r hr
  rw [iter_some]
  refine ⟨n, ?_⟩
  induction n generalizing x with
  | zero => cases hr
  | succ n ih =>
    simp only [iterN] at hr ⊢
    split at hr
    · cases hr
    · rename_i y e
      rw [h _ _ e]
      exact ih hr
    · rename_i y e
      rw [h _ _ e]
      exact hr
end Le
end Go.Sx

/- Plain aids: bits of numbers. -/
set_option linter.unusedVariables false
set_option linter.unusedSimpArgs false
namespace Go.Sx
open Go.RowKit
theorem ofInt_toNat {n : Nat} {a : Int} (h0 : 0 ≤ a) (h1 : a < (2 : Int) ^ n) : (BitVec.ofInt n a).toNat = a.toNat := by
  rw [BitVec.toNat_ofInt]
  have : ((2 ^ n : Nat) : Int) = (2 : Int) ^ n := by norm_cast
  rw [this, Int.emod_eq_of_lt h0 h1]
theorem bits_and {n : Nat} {a b : Int} (h0 : 0 ≤ a) (h1 : a < (2 : Int) ^ n) (k0 : 0 ≤ b) (k1 : b < (2 : Int) ^ n) : (BitVec.ofInt n a &&& BitVec.ofInt n b).toNat = a.toNat &&& b.toNat := by
  rw [BitVec.toNat_and, ofInt_toNat h0 h1, ofInt_toNat k0 k1]
theorem bits_or {n : Nat} {a b : Int} (h0 : 0 ≤ a) (h1 : a < (2 : Int) ^ n) (k0 : 0 ≤ b) (k1 : b < (2 : Int) ^ n) : (BitVec.ofInt n a ||| BitVec.ofInt n b).toNat = a.toNat ||| b.toNat := by
  rw [BitVec.toNat_or, ofInt_toNat h0 h1, ofInt_toNat k0 k1]
theorem bits_andNot {n : Nat} {a b : Int} (h0 : 0 ≤ a) (h1 : a < (2 : Int) ^ n) (k0 : 0 ≤ b) (k1 : b < (2 : Int) ^ n) : (BitVec.ofInt n a &&& ~~~ BitVec.ofInt n b).toNat = a.toNat &&& (2 ^ n - 1 - b.toNat) := by
  rw [BitVec.toNat_and, BitVec.toNat_not, ofInt_toNat h0 h1, ofInt_toNat k0 k1]
theorem and_mask (x k : Nat) : x &&& (2 ^ k - 1) = x % 2 ^ k := Nat.and_two_pow_sub_one_eq_mod x k
theorem and255 {n : Nat} {a : Int} (h0 : 0 ≤ a) (h1 : a < (2 : Int) ^ n) (hn : (255 : Int) < (2 : Int) ^ n) : (((BitVec.ofInt n a &&& BitVec.ofInt n 255).toNat : Nat) : Int) = a % 256 := by
  rw [bits_and h0 h1 (by decide) hn]
  have := and_mask a.toNat 8
  rw [show (255 : Int).toNat = 2 ^ 8 - 1 from rfl, this]
  omega
theorem shr_u32 {a : Int} (k : Nat) (hk : k ≤ 32) : shiftR .u32 a k = a / 2 ^ k := by
  unfold shiftR
  rw [show min (Int.toNat (k : Int)) (IntKind.bits .u32) = k by simp [IntKind.bits]; omega]
  exact Int.fdiv_eq_ediv_of_nonneg _ (Int.le_of_lt (Int.pow_pos (by decide)))
theorem shr_u64 {a : Int} (k : Nat) (hk : k ≤ 64) : shiftR .u64 a k = a / 2 ^ k := by
  unfold shiftR
  rw [show min (Int.toNat (k : Int)) (IntKind.bits .u64) = k by simp [IntKind.bits]; omega]
  exact Int.fdiv_eq_ediv_of_nonneg _ (Int.le_of_lt (Int.pow_pos (by decide)))
theorem or_low (a b k : Nat) (h : b < 2 ^ k) : (a * 2 ^ k) ||| b = a * 2 ^ k + b := by
  have := Nat.shiftLeft_add_eq_or_of_lt h a
  rw [Nat.shiftLeft_eq] at this
  exact this.symm
theorem extra_iff (n x : Nat) (hn : 16 ≤ n) (hx : x < 2 ^ n) : x &&& (2 ^ n - 1 - 65534) = 0 ↔ x < 65536 ∧ x % 2 = 0 := by
  have hp : 2 ^ 16 ≤ 2 ^ n := Nat.pow_le_pow_right (n := 2) (by decide) hn
  have h16 : 2 ^ n = 65536 * 2 ^ (n - 16) := by rw [show (65536 : Nat) = 2 ^ 16 from rfl, ← Nat.pow_add]; congr 1; omega
  have hm : 2 ^ n - 1 - 65534 = ((2 ^ (n - 16) - 1) * 2 ^ 16) ||| 1 := by
    rw [or_low (2 ^ (n - 16) - 1) 1 16 (by decide), Nat.sub_mul, show (2 : Nat) ^ 16 = 65536 from rfl]
    have : 0 < 2 ^ (n - 16) := Nat.two_pow_pos _
    omega
  rw [hm, Nat.and_or_distrib_left, Nat.or_eq_zero_iff]
  have h1 : x &&& 1 = x % 2 := and_mask x 1
  have h2 : x &&& ((2 ^ (n - 16) - 1) * 2 ^ 16) = (x / 65536) * 65536 := by
    have e1 : (2 ^ (n - 16) - 1) * 2 ^ 16 = (2 ^ (n - 16) - 1) <<< 16 := (Nat.shiftLeft_eq _ _).symm
    rw [e1]
    have e2 : x &&& ((2 ^ (n - 16) - 1) <<< 16) = ((x >>> 16) &&& (2 ^ (n - 16) - 1)) <<< 16 := by
      apply Nat.eq_of_testBit_eq
      intro i
      simp only [Nat.testBit_and, Nat.testBit_shiftLeft, Nat.testBit_shiftRight]
      by_cases hi : 16 ≤ i
      · simp [hi, show 16 + (i - 16) = i by omega]
      · simp [hi]
    rw [e2, and_mask, Nat.shiftLeft_eq, Nat.shiftRight_eq_div_pow]
    rw [show (2 : Nat) ^ 16 = 65536 from rfl, Nat.mod_eq_of_lt]
    rw [Nat.div_lt_iff_lt_mul (by decide), Nat.mul_comm]; omega
  rw [h1, h2]
  omega
theorem wf_getD {n : Nat} {t : Ty} {l : List (Val t)} {i : Nat} {d : Val t} (h : Wf (.arr n t) l) (hi : i < n) : Wf t (l.getD i d) := by
  have hl : i < l.length := by rw [h.1]; exact hi
  rw [List.getD, List.getElem?_eq_getElem hl]
  exact h.2 _ (List.getElem_mem _)
end Go.Sx

