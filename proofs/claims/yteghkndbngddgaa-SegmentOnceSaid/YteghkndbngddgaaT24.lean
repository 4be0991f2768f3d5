/- T24: printed by a program of this session: the functions of the seat as plain functions, and that the code comes to them. -/
import Derived.Test.YteghkndbngddgaaC24
import Derived.Test.YteghkndbngddgaaA0
import Derived.Test.YteghkndbngddgaaPuA
set_option maxRecDepth 100000
namespace Go.Sx
theorem t1 : law20_awakec = some true := by kernel_rfl
theorem awake20 : law20_awake = some true := law20_awake_le _ t1
end Go.Sx

/- Plain laws of small functions. -/
set_option linter.unusedVariables false
set_option linter.unusedSimpArgs false
namespace Go.Sx
theorem hand_Pick_eq (n : Int) (k : Int) (h : 1 ≤ k) (hk : k ≤ 4611686018427387904) : hand_Pick n k = some (n % k) := by
  unfold hand_Pick
  have h1 : ¬ (k < 1) := by omega
  have h2 : ¬ (k = 0) := by omega
  have hm := Int.tmod_eq_emod (a := n) (b := k)
  have hb : -k < n.tmod k ∧ n.tmod k < k ∧ (n.tmod k = n % k ∨ n.tmod k = n % k - k) := by
    have h3 := Int.emod_nonneg n (b := k) (by omega)
    have h4 := Int.emod_lt_of_pos n (b := k) (by omega)
    rw [hm]
    split
    · omega
    · rename_i hd
      have : n % k ≠ 0 := fun e => hd (.inr (Int.dvd_of_emod_eq_zero e))
      omega
  rw [i64w (by omega) (by omega)]
  simp only [h1, h2, decide_false, cond_false, Bool.not_false, cond_true, Option.some.injEq]
  rw [Int.tmod_eq_emod_of_nonneg (by omega), Int.add_emod_right]
  rcases hb.2.2 with e | e <;> rw [e]
  · simp
  · rw [Int.sub_emod]; simp

end Go.Sx

set_option linter.unusedVariables false
set_option linter.unusedSimpArgs false
namespace Go.Sx
end Go.Sx

/- The division of the heap into segments: the plain law. -/
set_option linter.unusedVariables false
set_option linter.unusedSimpArgs false
namespace Go.Sx
/-- The number of segments. -/
def cnt (lines : Int) : Int := if 104 ≤ lines ∧ lines ≤ 256 then (lines - 104) / 16 else 0
/-- The line of a header page. -/
def hdr20 (s : Int) : Int := if 0 ≤ s ∧ s < 9 then 104 + 16 * s else -1
/-- Segment and index of a line. -/
def loc (lines line : Int) : Int × Int × Bool := if 104 ≤ line ∧ line < 104 + 16 * cnt lines ∧ (line - 104) % 16 ≠ 0 then ((line - 104) / 16, (line - 104) % 16, true) else (0, 0, false)

theorem cnt_bd (lines : Int) : 0 ≤ cnt lines ∧ cnt lines ≤ 9 := by unfold cnt; split <;> omega

theorem segment_isSize_eq (lines : Int) : segment_isSize lines = some (decide (104 ≤ lines ∧ lines ≤ 256)) := by
  unfold segment_isSize
  by_cases h1 : 104 ≤ lines <;> by_cases h2 : lines ≤ 256 <;> simp [h1, h2]

theorem wquo {x y : Int} (h0 : 0 ≤ x) (h1 : x ≤ 9223372036854775807) (h2 : 1 ≤ y) : IntKind.wrap .i64 (x.tdiv y) = x / y := IntWalk.i64_quo x y ⟨h0, h1, h2⟩
theorem tmodn {x y : Int} (h0 : 0 ≤ x) : x.tmod y = x % y := Int.tmod_eq_emod_of_nonneg h0

theorem segment_Count_eq (lines : Int) : segment_Count lines = some (cnt lines) := by
  unfold segment_Count cnt
  rw [segment_isSize_eq]
  by_cases h : 104 ≤ lines ∧ lines ≤ 256
  · have e : IntKind.wrap .i64 (lines - 104) = lines - 104 := i64w (by omega) (by omega)
    simp only [h, and_self, decide_true, Option.bind_some, Bool.not_true, cond_false, if_pos]
    rw [e, wquo (by omega) (by omega) (by omega)]
  · simp [h]

theorem segment_HeaderLine_eq (s : Int) : segment_HeaderLine s = some (hdr20 s) := by
  unfold segment_HeaderLine hdr20
  by_cases h1 : s < 0
  · simp only [h1, decide_true, cond_true]
    rw [if_neg (by omega)]
  · by_cases h2 : 9 ≤ s
    · simp only [h1, h2, decide_true, decide_false, cond_true, cond_false]
      rw [if_neg (by omega)]
    · have e : IntKind.wrap .i64 (s * 16) = s * 16 := i64w (by omega) (by omega)
      simp only [h1, h2, decide_false, cond_false]
      rw [e, i64w (by omega) (by omega), if_pos (by omega), Int.mul_comm]

theorem segment_Locate_eq (lines line : Int) (h : line ≤ 9223372036854775807) : segment_Locate lines line = some (loc lines line) := by
  have hc := cnt_bd lines
  unfold segment_Locate loc
  rw [segment_Count_eq]
  by_cases h1 : line < 104
  · have : ¬ (104 ≤ line) := by omega
    simp [h1, this]
  · have e1 : IntKind.wrap .i64 (cnt lines * 16) = cnt lines * 16 := i64w (by omega) (by omega)
    have e2 : IntKind.wrap .i64 (104 + cnt lines * 16) = 104 + 16 * cnt lines := by rw [i64w (by omega) (by omega)]; omega
    have e3 : IntKind.wrap .i64 (line - 104) = line - 104 := i64w (by omega) (by omega)
    simp only [h1, decide_false, cond_false, Option.bind_some]
    rw [e1, e2, e3, tmodn (by omega), wquo (by omega) (by omega) (by omega)]
    by_cases h2 : 104 + 16 * cnt lines ≤ line
    · simp only [h2, decide_true, cond_true]
      rw [if_neg (by omega)]
    · by_cases h3 : (line - 104) % 16 = 0
      · simp only [h2, h3, decide_true, decide_false, cond_true, cond_false]
        rw [if_neg (by omega)]
      · simp only [h2, h3, decide_false, cond_false]
        rw [if_pos (by omega)]

end Go.Sx

