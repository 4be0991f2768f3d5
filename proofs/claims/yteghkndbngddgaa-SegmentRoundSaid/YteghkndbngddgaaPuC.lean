/- Plain aids: bits of numbers. -/
import Derived.Test.YteghkndbngddgaaPuA
set_option linter.unusedVariables false
set_option linter.unusedSimpArgs false
namespace Go.Sx
open Go.RowKit

theorem ofInt_toNat {n : Nat} {a : Int} (h0 : 0 ≤ a) (h1 : a < (2 : Int) ^ n) : (BitVec.ofInt n a).toNat = a.toNat := by
  rw [BitVec.toNat_ofInt]
  have : ((2 ^ n : Nat) : Int) = (2 : Int) ^ n := by norm_cast
  rw [this, Int.emod_eq_of_lt h0 h1]

theorem bits_and {n : Nat} {a b : Int} (h0 : 0 ≤ a) (h1 : a < (2 : Int) ^ n) (k0 : 0 ≤ b) (k1 : b < (2 : Int) ^ n) : (BitVec.ofInt n a &&& BitVec.ofInt n b).toNat = a.toNat &&& b.toNat := by
  rw [BitVec.toNat_and, ofInt_toNat h0 h1, ofInt_toNat k0 k1]
theorem bits_or {n : Nat} {a b : Int} (h0 : 0 ≤ a) (h1 : a < (2 : Int) ^ n) (k0 : 0 ≤ b) (k1 : b < (2 : Int) ^ n) : (BitVec.ofInt n a ||| BitVec.ofInt n b).toNat = a.toNat ||| b.toNat := by
  rw [BitVec.toNat_or, ofInt_toNat h0 h1, ofInt_toNat k0 k1]
theorem bits_andNot {n : Nat} {a b : Int} (h0 : 0 ≤ a) (h1 : a < (2 : Int) ^ n) (k0 : 0 ≤ b) (k1 : b < (2 : Int) ^ n) : (BitVec.ofInt n a &&& ~~~ BitVec.ofInt n b).toNat = a.toNat &&& (2 ^ n - 1 - b.toNat) := by
  rw [BitVec.toNat_and, BitVec.toNat_not, ofInt_toNat h0 h1, ofInt_toNat k0 k1]

theorem and_mask (x k : Nat) : x &&& (2 ^ k - 1) = x % 2 ^ k := Nat.and_two_pow_sub_one_eq_mod x k

theorem and255 {n : Nat} {a : Int} (h0 : 0 ≤ a) (h1 : a < (2 : Int) ^ n) (hn : (255 : Int) < (2 : Int) ^ n) : (((BitVec.ofInt n a &&& BitVec.ofInt n 255).toNat : Nat) : Int) = a % 256 := by
  rw [bits_and h0 h1 (by decide) hn]
  have := and_mask a.toNat 8
  rw [show (255 : Int).toNat = 2 ^ 8 - 1 from rfl, this]
  omega

theorem shr_u32 {a : Int} (k : Nat) (hk : k ≤ 32) : shiftR .u32 a k = a / 2 ^ k := by
  unfold shiftR
  rw [show min (Int.toNat (k : Int)) (IntKind.bits .u32) = k by simp [IntKind.bits]; omega]
  exact Int.fdiv_eq_ediv_of_nonneg _ (Int.le_of_lt (Int.pow_pos (by decide)))
theorem shr_u64 {a : Int} (k : Nat) (hk : k ≤ 64) : shiftR .u64 a k = a / 2 ^ k := by
  unfold shiftR
  rw [show min (Int.toNat (k : Int)) (IntKind.bits .u64) = k by simp [IntKind.bits]; omega]
  exact Int.fdiv_eq_ediv_of_nonneg _ (Int.le_of_lt (Int.pow_pos (by decide)))

theorem or_low (a b k : Nat) (h : b < 2 ^ k) : (a * 2 ^ k) ||| b = a * 2 ^ k + b := by
  have := Nat.shiftLeft_add_eq_or_of_lt h a
  rw [Nat.shiftLeft_eq] at this
  exact this.symm

/-- 'x &^ 65534': nothing but the bits 1 to 15. -/
theorem extra_iff (n x : Nat) (hn : 16 ≤ n) (hx : x < 2 ^ n) : x &&& (2 ^ n - 1 - 65534) = 0 ↔ x < 65536 ∧ x % 2 = 0 := by
  have hp : 2 ^ 16 ≤ 2 ^ n := Nat.pow_le_pow_right (n := 2) (by decide) hn
  have h16 : 2 ^ n = 65536 * 2 ^ (n - 16) := by rw [show (65536 : Nat) = 2 ^ 16 from rfl, ← Nat.pow_add]; congr 1; omega
  have hm : 2 ^ n - 1 - 65534 = ((2 ^ (n - 16) - 1) * 2 ^ 16) ||| 1 := by
    rw [or_low (2 ^ (n - 16) - 1) 1 16 (by decide), Nat.sub_mul, show (2 : Nat) ^ 16 = 65536 from rfl]
    have : 0 < 2 ^ (n - 16) := Nat.two_pow_pos _
    omega
  rw [hm, Nat.and_or_distrib_left, Nat.or_eq_zero_iff]
  have h1 : x &&& 1 = x % 2 := and_mask x 1
  have h2 : x &&& ((2 ^ (n - 16) - 1) * 2 ^ 16) = (x / 65536) * 65536 := by
    have e1 : (2 ^ (n - 16) - 1) * 2 ^ 16 = (2 ^ (n - 16) - 1) <<< 16 := (Nat.shiftLeft_eq _ _).symm
    rw [e1]
    have e2 : x &&& ((2 ^ (n - 16) - 1) <<< 16) = ((x >>> 16) &&& (2 ^ (n - 16) - 1)) <<< 16 := by
      apply Nat.eq_of_testBit_eq
      intro i
      simp only [Nat.testBit_and, Nat.testBit_shiftLeft, Nat.testBit_shiftRight]
      by_cases hi : 16 ≤ i
      · simp [hi, show 16 + (i - 16) = i by omega]
      · simp [hi]
    rw [e2, and_mask, Nat.shiftLeft_eq, Nat.shiftRight_eq_div_pow]
    rw [show (2 : Nat) ^ 16 = 65536 from rfl, Nat.mod_eq_of_lt]
    rw [Nat.div_lt_iff_lt_mul (by decide), Nat.mul_comm]; omega
  rw [h1, h2]
  omega

/-! ### Ranges -/

theorem wf_set {n : Nat} {t : Ty} {l : List (Val t)} {i : Nat} {v : Val t} (h : Wf (.arr n t) l) (hv : Wf t v) : Wf (.arr n t) (l.set i v) := by
  refine ⟨by rw [List.length_set]; exact h.1, fun x hx => ?_⟩
  rcases List.mem_or_eq_of_mem_set hx with hx | rfl
  · exact h.2 x hx
  · exact hv
theorem wf_getD {n : Nat} {t : Ty} {l : List (Val t)} {i : Nat} {d : Val t} (h : Wf (.arr n t) l) (hi : i < n) : Wf t (l.getD i d) := by
  have hl : i < l.length := by rw [h.1]; exact hi
  rw [List.getD, List.getElem?_eq_getElem hl]
  exact h.2 _ (List.getElem_mem _)
theorem wf_tmod_u64 {a b : Int} (h : Wf (.int .u64) a) (hb : 0 < b) : Wf (.int .u64) (a.tmod b) := by
  have h1 := wf_u64 h
  have h2 := Int.emod_nonneg a (b := b) (by omega)
  have h3 : a % b ≤ a := by
    have h4 := Int.mul_ediv_add_emod a b
    have h5 : 0 ≤ b * (a / b) := Int.mul_nonneg (by omega) (Int.ediv_nonneg h1.1 (by omega))
    omega
  rw [Int.tmod_eq_emod_of_nonneg h1.1]
  exact wf_u64_mk h2 (by omega)
theorem wf_tmod_u32 {a b : Int} (h : Wf (.int .u32) a) (hb : 0 < b) : Wf (.int .u32) (a.tmod b) := by
  have h1 := wf_u32 h
  have h2 := Int.emod_nonneg a (b := b) (by omega)
  have h3 : a % b ≤ a := by
    have h4 := Int.mul_ediv_add_emod a b
    have h5 : 0 ≤ b * (a / b) := Int.mul_nonneg (by omega) (Int.ediv_nonneg h1.1 (by omega))
    omega
  rw [Int.tmod_eq_emod_of_nonneg h1.1]
  exact wf_u32_mk h2 (by omega)
end Go.Sx
