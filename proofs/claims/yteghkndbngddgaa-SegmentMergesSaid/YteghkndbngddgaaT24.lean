/- T24: printed by a program of this session: the functions of the seat as plain functions, and that the code comes to them. -/
import Derived.Test.YteghkndbngddgaaC24
import Derived.Test.YteghkndbngddgaaA0
import Derived.Test.YteghkndbngddgaaPuA
set_option maxRecDepth 100000
namespace Go.Sx
theorem t1 : law20_awakec = some true := by kernel_rfl
theorem awake20 : law20_awake = some true := law20_awake_le _ t1
end Go.Sx

/- Plain laws of small functions. -/
set_option linter.unusedVariables false
set_option linter.unusedSimpArgs false
namespace Go.Sx
theorem hand_Pick_eq (n : Int) (k : Int) (h : 1 ≤ k) (hk : k ≤ 4611686018427387904) : hand_Pick n k = some (n % k) := by
  unfold hand_Pick
  have h1 : ¬ (k < 1) := by omega
  have h2 : ¬ (k = 0) := by omega
  have hm := Int.tmod_eq_emod (a := n) (b := k)
  have hb : -k < n.tmod k ∧ n.tmod k < k ∧ (n.tmod k = n % k ∨ n.tmod k = n % k - k) := by
    have h3 := Int.emod_nonneg n (b := k) (by omega)
    have h4 := Int.emod_lt_of_pos n (b := k) (by omega)
    rw [hm]
    split
    · omega
    · rename_i hd
      have : n % k ≠ 0 := fun e => hd (.inr (Int.dvd_of_emod_eq_zero e))
      omega
  rw [i64w (by omega) (by omega)]
  simp only [h1, h2, decide_false, cond_false, Bool.not_false, cond_true, Option.some.injEq]
  rw [Int.tmod_eq_emod_of_nonneg (by omega), Int.add_emod_right]
  rcases hb.2.2 with e | e <;> rw [e]
  · simp
  · rw [Int.sub_emod]; simp

end Go.Sx

set_option linter.unusedVariables false
set_option linter.unusedSimpArgs false
namespace Go.Sx
theorem heap_SamePages_self (l : List Page) (h : l.length ≤ maxLen) : heap_SamePages l l = some true := by
  have hm : l.length ≤ 9223372036854775807 := by unfold maxLen at h; omega
  have hl : heap_SamePagesL1 l l 0 = some (.inl ()) := by
    refine iter_for (body := heap_SamePagesL1B) (fun i => (l, l, (i : Int))) l.length (.inl ()) (fun i hi => ?_) ?_ 0 (Nat.zero_le _)
    · have h1 : decide ((i : Int) < (l.length : Nat)) = true := by simp; omega
      have h2 : inR i l.length = true := by simp [inR]; omega
      simp only [heap_SamePagesL1B, heap_SamePagesL1b, h1, h2, cond_true, decide_true, Bool.not_true, cond_false, eqV_self (t := .arr 7 (.int .u64)) rfl]
      rw [i64w (by omega) (by omega)]
      rfl
    · have h1 : decide (((l.length : Nat) : Int) < (l.length : Nat)) = false := by simp
      simp only [heap_SamePagesL1B, heap_SamePagesL1b, h1, cond_false]
  unfold heap_SamePages
  rw [hl]
  simp

end Go.Sx

/- The division of the heap into segments: the plain law. -/
set_option linter.unusedVariables false
set_option linter.unusedSimpArgs false
namespace Go.Sx
end Go.Sx

