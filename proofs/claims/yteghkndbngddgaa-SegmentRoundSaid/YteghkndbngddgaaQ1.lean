/- Plain laws of small functions. -/
import Derived.Test.YteghkndbngddgaaA1
import Derived.Test.YteghkndbngddgaaPuA
set_option linter.unusedVariables false
set_option linter.unusedSimpArgs false
namespace Go.Sx

theorem hand_Pick_eq (n : Int) (k : Int) (h : 1 ≤ k) (hk : k ≤ 4611686018427387904) : hand_Pick n k = some (n % k) := by
  unfold hand_Pick
  have h1 : ¬ (k < 1) := by omega
  have h2 : ¬ (k = 0) := by omega
  have hm := Int.tmod_eq_emod (a := n) (b := k)
  have hb : -k < n.tmod k ∧ n.tmod k < k ∧ (n.tmod k = n % k ∨ n.tmod k = n % k - k) := by
    have h3 := Int.emod_nonneg n (b := k) (by omega)
    have h4 := Int.emod_lt_of_pos n (b := k) (by omega)
    rw [hm]
    split
    · omega
    · rename_i hd
      have : n % k ≠ 0 := fun e => hd (.inr (Int.dvd_of_emod_eq_zero e))
      omega
  rw [i64w (by omega) (by omega)]
  simp only [h1, h2, decide_false, cond_false, Bool.not_false, cond_true, Option.some.injEq]
  rw [Int.tmod_eq_emod_of_nonneg (by omega), Int.add_emod_right]
  rcases hb.2.2 with e | e <;> rw [e]
  · simp
  · rw [Int.sub_emod]; simp

end Go.Sx
