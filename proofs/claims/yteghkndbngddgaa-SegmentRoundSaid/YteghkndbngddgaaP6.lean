/- The division of the heap into segments: the plain law. -/
import Derived.Test.YteghkndbngddgaaA2
import Derived.Test.YteghkndbngddgaaT24
import Derived.Test.YteghkndbngddgaaQ1
set_option linter.unusedVariables false
set_option linter.unusedSimpArgs false
namespace Go.Sx

/-- The number of segments. -/
def cnt (lines : Int) : Int := if 104 ≤ lines ∧ lines ≤ 256 then (lines - 104) / 16 else 0
/-- The line of a header page. -/
def hdr20 (s : Int) : Int := if 0 ≤ s ∧ s < 9 then 104 + 16 * s else -1
/-- Segment and index of a line. -/
def loc (lines line : Int) : Int × Int × Bool := if 104 ≤ line ∧ line < 104 + 16 * cnt lines ∧ (line - 104) % 16 ≠ 0 then ((line - 104) / 16, (line - 104) % 16, true) else (0, 0, false)

theorem cnt_bd (lines : Int) : 0 ≤ cnt lines ∧ cnt lines ≤ 9 := by unfold cnt; split <;> omega

theorem segment_isSize_eq (lines : Int) : segment_isSize lines = some (decide (104 ≤ lines ∧ lines ≤ 256)) := by
  unfold segment_isSize
  by_cases h1 : 104 ≤ lines <;> by_cases h2 : lines ≤ 256 <;> simp [h1, h2]

theorem wquo {x y : Int} (h0 : 0 ≤ x) (h1 : x ≤ 9223372036854775807) (h2 : 1 ≤ y) : IntKind.wrap .i64 (x.tdiv y) = x / y := IntWalk.i64_quo x y ⟨h0, h1, h2⟩
theorem tmodn {x y : Int} (h0 : 0 ≤ x) : x.tmod y = x % y := Int.tmod_eq_emod_of_nonneg h0

theorem segment_Count_eq (lines : Int) : segment_Count lines = some (cnt lines) := by
  unfold segment_Count cnt
  rw [segment_isSize_eq]
  by_cases h : 104 ≤ lines ∧ lines ≤ 256
  · have e : IntKind.wrap .i64 (lines - 104) = lines - 104 := i64w (by omega) (by omega)
    simp only [h, and_self, decide_true, Option.bind_some, Bool.not_true, cond_false, if_pos]
    rw [e, wquo (by omega) (by omega) (by omega)]
  · simp [h]

theorem ref19_Count_eq (lines : Int) : ref19_Count lines = some (cnt lines) := by
  unfold ref19_Count cnt
  by_cases h1 : lines < 104
  · simp [h1]; omega
  · by_cases h2 : 256 < lines
    · simp [h1, h2]; omega
    · have e : IntKind.wrap .i64 (lines - 104) = lines - 104 := i64w (by omega) (by omega)
      simp only [h1, h2, decide_false, cond_false]
      rw [e, wquo (by omega) (by omega) (by omega), if_pos (by omega)]

theorem segment_HeaderLine_eq (s : Int) : segment_HeaderLine s = some (hdr20 s) := by
  unfold segment_HeaderLine hdr20
  by_cases h1 : s < 0
  · simp only [h1, decide_true, cond_true]
    rw [if_neg (by omega)]
  · by_cases h2 : 9 ≤ s
    · simp only [h1, h2, decide_true, decide_false, cond_true, cond_false]
      rw [if_neg (by omega)]
    · have e : IntKind.wrap .i64 (s * 16) = s * 16 := i64w (by omega) (by omega)
      simp only [h1, h2, decide_false, cond_false]
      rw [e, i64w (by omega) (by omega), if_pos (by omega), Int.mul_comm]

theorem ref19_HeaderLine_eq (s : Int) : ref19_HeaderLine s = some (hdr20 s) := by
  unfold ref19_HeaderLine hdr20
  by_cases h1 : s < 0
  · simp [h1]; omega
  · by_cases h2 : 8 < s
    · simp [h1, h2]; omega
    · have e : IntKind.wrap .i64 (16 * s) = 16 * s := i64w (by omega) (by omega)
      simp only [h1, h2, decide_false, cond_false]
      rw [e, i64w (by omega) (by omega), if_pos (by omega)]

theorem segment_Locate_eq (lines line : Int) (h : line ≤ 9223372036854775807) : segment_Locate lines line = some (loc lines line) := by
  have hc := cnt_bd lines
  unfold segment_Locate loc
  rw [segment_Count_eq]
  by_cases h1 : line < 104
  · have : ¬ (104 ≤ line) := by omega
    simp [h1, this]
  · have e1 : IntKind.wrap .i64 (cnt lines * 16) = cnt lines * 16 := i64w (by omega) (by omega)
    have e2 : IntKind.wrap .i64 (104 + cnt lines * 16) = 104 + 16 * cnt lines := by rw [i64w (by omega) (by omega)]; omega
    have e3 : IntKind.wrap .i64 (line - 104) = line - 104 := i64w (by omega) (by omega)
    simp only [h1, decide_false, cond_false, Option.bind_some]
    rw [e1, e2, e3, tmodn (by omega), wquo (by omega) (by omega) (by omega)]
    by_cases h2 : 104 + 16 * cnt lines ≤ line
    · simp only [h2, decide_true, cond_true]
      rw [if_neg (by omega)]
    · by_cases h3 : (line - 104) % 16 = 0
      · simp only [h2, h3, decide_true, decide_false, cond_true, cond_false]
        rw [if_neg (by omega)]
      · simp only [h2, h3, decide_false, cond_false]
        rw [if_pos (by omega)]

theorem ref19_Locate_eq (lines line : Int) (h0 : -9223372036854775808 ≤ line) (h : line ≤ 9223372036854775807) : ref19_Locate lines line = some (loc lines line) := by
  have hc := cnt_bd lines
  have hl := iter_scan (body := ref19_LocateL1B) (fun i => (lines, line, (i : Int))) (cnt lines).toNat (fun i : Nat => decide (104 + 16 * (i : Int) < line ∧ line < 104 + 16 * (i : Int) + 16)) (fun i => .inr ((i : Int), line - (104 + 16 * (i : Int)), true)) (.inl ()) (fun i hi hb => ?_) (fun i hi hb => ?_) ?_ 0 (Nat.zero_le _)
  · unfold ref19_Locate ref19_LocateL1
    rw [show ((0 : Int)) = ((0 : Nat) : Int) from rfl, hl]
    unfold loc
    by_cases hx : 104 ≤ line ∧ line < 104 + 16 * cnt lines ∧ (line - 104) % 16 ≠ 0
    · rw [if_pos hx]
      have hf : (List.range' 0 ((cnt lines).toNat - 0)).find? (fun i : Nat => decide (104 + 16 * (i : Int) < line ∧ line < 104 + 16 * (i : Int) + 16)) = some ((line - 104) / 16).toNat := by
        rw [List.find?_range'_eq_some]
        refine ⟨by simp only [decide_eq_true_eq]; omega, by simp; omega, fun j h1 h2 => ?_⟩
        simp only [Bool.not_eq_true', decide_eq_false_iff_not]
        omega
      rw [hf]
      simp only [Option.bind_some]
      have e : (((line - 104) / 16).toNat : Int) = (line - 104) / 16 := by omega
      rw [e]
      congr 3
      omega
    · rw [if_neg hx]
      have hf : (List.range' 0 ((cnt lines).toNat - 0)).find? (fun i : Nat => decide (104 + 16 * (i : Int) < line ∧ line < 104 + 16 * (i : Int) + 16)) = none := by
        rw [List.find?_eq_none]
        intro j hj
        simp only [List.mem_range'_1] at hj
        simp only [decide_eq_true_eq]
        omega
      rw [hf]
      rfl
  · simp only [decide_eq_false_iff_not] at hb
    have e0 : ((i : Int) < cnt lines) := by omega
    have e1 : hdr20 i = 104 + 16 * (i : Int) := by unfold hdr20; rw [if_pos (by omega)]
    simp only [ref19_LocateL1B, ref19_LocateL1b, ref19_Count_eq, ref19_HeaderLine_eq, Option.bind_some, e0, decide_true, cond_true, e1]
    rw [i64w (n := 104 + 16 * (i : Int) + 16) (by omega) (by omega), i64w (n := (i : Int) + 1) (by omega) (by omega)]
    by_cases h1 : 104 + 16 * (i : Int) < line
    · have h2 : ¬ line < 104 + 16 * (i : Int) + 16 := by omega
      simp [h1, h2]
    · simp [h1]
  · simp only [decide_eq_true_eq] at hb
    have e0 : ((i : Int) < cnt lines) := by omega
    have e1 : hdr20 i = 104 + 16 * (i : Int) := by unfold hdr20; rw [if_pos (by omega)]
    simp only [ref19_LocateL1B, ref19_LocateL1b, ref19_Count_eq, ref19_HeaderLine_eq, Option.bind_some, e0, decide_true, cond_true, e1]
    rw [i64w (n := 104 + 16 * (i : Int) + 16) (by omega) (by omega), i64w (n := line - (104 + 16 * (i : Int))) (by omega) (by omega)]
    simp [hb.1, hb.2]
  · have e0 : ¬ (((cnt lines).toNat : Int) < cnt lines) := by omega
    simp only [ref19_LocateL1B, ref19_LocateL1b, ref19_Count_eq, Option.bind_some, e0, decide_false, cond_false]

theorem segmentLines_pure (a b s : Int) (near : Bool) (h0 : Wf (.int .i64) a) (h1 : Wf (.int .i64) b) (h2 : Wf (.int .i64) s) (h3 : Wf .bool near) : law20_SegmentLines a b s near = some true := by
  have h1 := wf_i64 h1
  unfold law20_SegmentLines
  cases near with
  | true =>
    simp only [hand_Pick_eq _ 270 (by decide) (by decide), hand_Pick_eq _ 13 (by decide) (by decide), Option.bind_some, cond_true]
    have e : IntKind.wrap .i64 (b % 270 - 5) = b % 270 - 5 := i64w (by omega) (by omega)
    rw [e, segment_Locate_eq _ _ (by omega), ref19_Locate_eq _ _ (by omega) (by omega), awake20, segment_Count_eq, ref19_Count_eq, segment_HeaderLine_eq, ref19_HeaderLine_eq]
    simp
  | false =>
    rw [segment_Locate_eq _ _ h1.2, ref19_Locate_eq _ _ h1.1 h1.2, awake20, segment_Count_eq, ref19_Count_eq, segment_HeaderLine_eq, ref19_HeaderLine_eq]
    simp
end Go.Sx
