/- T24: printed by a program of this session: the functions of the seat as plain functions, and that the code comes to them. -/
import Derived.Test.YteghkndbngddgaaGreatA2
import Derived.Test.YteghkndbngddgaaGreatPuA
/- Plain laws of small functions. -/
set_option linter.unusedVariables false
set_option linter.unusedSimpArgs false
namespace Go.Sx
theorem qf2_eq (n : Int) (k : Int) (h : 1 ≤ k) (hk : k ≤ 4611686018427387904) : qf2 n k = some (n % k) := by
  unfold qf2
  have h1 : ¬ (k < 1) := by omega
  have h2 : ¬ (k = 0) := by omega
  have hm := Int.tmod_eq_emod (a := n) (b := k)
  have hb : -k < n.tmod k ∧ n.tmod k < k ∧ (n.tmod k = n % k ∨ n.tmod k = n % k - k) := by
    have h3 := Int.emod_nonneg n (b := k) (by omega)
    have h4 := Int.emod_lt_of_pos n (b := k) (by omega)
    rw [hm]
    split
    · omega
    · rename_i hd
      have : n % k ≠ 0 := fun e => hd (.inr (Int.dvd_of_emod_eq_zero e))
      omega
  rw [i64w (by omega) (by omega)]
  simp only [h1, h2, decide_false, cond_false, Bool.not_false, cond_true, Option.some.injEq]
  rw [Int.tmod_eq_emod_of_nonneg (by omega), Int.add_emod_right]
  rcases hb.2.2 with e | e <;> rw [e]
  · simp
  · rw [Int.sub_emod]; simp
end Go.Sx

set_option linter.unusedVariables false
set_option linter.unusedSimpArgs false
namespace Go.Sx
def epochOf (p : Page) : Int × Int :=
  bif !(decide (p.1 = 97)) then (0, 1) else
  bif !(decide (p.2.2.1.getD 1 0 = 0)) || !(decide (p.2.2.1.getD 2 0 = 0)) || !(decide (p.2.2.1.getD 3 0 = 0)) || !(decide (p.2.2.1.getD 4 0 = 0)) || !(decide (p.2.2.1.getD 5 0 = 0)) || !(decide (p.2.2.1.getD 6 0 = 0)) then (0, 14) else
  bif decide (4294967295 < p.2.2.1.getD 0 0) then (0, 14) else (p.2.2.1.getD 0 0, 0)
theorem qf67_eq (p : Page) (h : Wf TPage p) : qf67 p = some (epochOf p) := by
  obtain ⟨ln, hd, dt, _⟩ := p
  obtain ⟨_, _, ⟨h7, hw⟩, _⟩ := h
  obtain ⟨a, b, c, d, e, f, g, rfl⟩ := len7 (α := Int) h7
  have ha := wf_u64 (hw a (by simp))
  unfold qf67 epochOf
  simp only [eqV, eqV.go, List.getD_cons_zero, List.getD_cons_succ]
  by_cases hl : ln = 97 <;> simp only [hl, decide_true, decide_false, Bool.not_true, Bool.not_false, cond_true, cond_false]
  by_cases hb : b = 0 <;> by_cases hc : c = 0 <;> by_cases hdd : d = 0 <;> by_cases he : e = 0 <;> by_cases hf : f = 0 <;> by_cases hg : g = 0 <;> simp [hb, hc, hdd, he, hf, hg]
  by_cases hx : 4294967295 < a
  · simp [hx]
  · simp [hx]
    exact u32w ha.1 (by omega)
theorem qf76_eq (p : Page) (e : Int) (he : Wf (.int .u32) e) : qf76 p e = some (bif !(decide (p.1 = 97)) then ((0, 0, List.replicate 7 0, ()), 1) else ((p.1, p.2.1, [e, 0, 0, 0, 0, 0, 0], ()), 0)) := by
  have := wf_u32 he
  unfold qf76
  rw [u64w (by omega) (by omega)]
  by_cases h : p.1 = 97 <;> simp [h]
theorem qf1_eq : qf1 = some true := by
  unfold qf1 qf0
  rw [show IntKind.wrap .u64 3 = 3 from rfl, show IntKind.wrap .u64 5 = 5 from rfl, show IntKind.wrap .u64 4 = 4 from rfl, show IntKind.wrap .u64 (3 + 2) = 5 from rfl]
  simp
end Go.Sx

/- The division of the heap into segments: the plain law. -/
set_option linter.unusedVariables false
set_option linter.unusedSimpArgs false
namespace Go.Sx
def cnt (lines : Int) : Int := if 104 ≤ lines ∧ lines ≤ 256 then (lines - 104) / 16 else 0
def hdr20 (s : Int) : Int := if 0 ≤ s ∧ s < 9 then 104 + 16 * s else -1
def loc (lines line : Int) : Int × Int × Bool := if 104 ≤ line ∧ line < 104 + 16 * cnt lines ∧ (line - 104) % 16 ≠ 0 then ((line - 104) / 16, (line - 104) % 16, true) else (0, 0, false)
theorem cnt_bd (lines : Int) : 0 ≤ cnt lines ∧ cnt lines ≤ 9 := by unfold cnt; split <;> omega
theorem qf6_eq (lines : Int) : qf6 lines = some (decide (104 ≤ lines ∧ lines ≤ 256)) := by
  unfold qf6
  by_cases h1 : 104 ≤ lines <;> by_cases h2 : lines ≤ 256 <;> simp [h1, h2]
theorem wquo {x y : Int} (h0 : 0 ≤ x) (h1 : x ≤ 9223372036854775807) (h2 : 1 ≤ y) : IntKind.wrap .i64 (x.tdiv y) = x / y := IntWalk.i64_quo x y ⟨h0, h1, h2⟩
theorem tmodn {x y : Int} (h0 : 0 ≤ x) : x.tmod y = x % y := Int.tmod_eq_emod_of_nonneg h0
theorem qf25_eq (lines : Int) : qf25 lines = some (cnt lines) := by
  unfold qf25 cnt
  rw [qf6_eq]
  by_cases h : 104 ≤ lines ∧ lines ≤ 256
  · have e : IntKind.wrap .i64 (lines - 104) = lines - 104 := i64w (by omega) (by omega)
    simp only [h, and_self, decide_true, Option.bind_some, Bool.not_true, cond_false, if_pos]
    rw [e, wquo (by omega) (by omega) (by omega)]
  · simp [h]
theorem qf27_eq (s : Int) : qf27 s = some (hdr20 s) := by
  unfold qf27 hdr20
  by_cases h1 : s < 0
  · simp only [h1, decide_true, cond_true]
    rw [if_neg (by omega)]
  · by_cases h2 : 9 ≤ s
    · simp only [h1, h2, decide_true, decide_false, cond_true, cond_false]
      rw [if_neg (by omega)]
    · have e : IntKind.wrap .i64 (s * 16) = s * 16 := i64w (by omega) (by omega)
      simp only [h1, h2, decide_false, cond_false]
      rw [e, i64w (by omega) (by omega), if_pos (by omega), Int.mul_comm]
theorem qf79_eq (lines line : Int) (h : line ≤ 9223372036854775807) : qf79 lines line = some (loc lines line) := by
  have hc := cnt_bd lines
  unfold qf79 loc
  rw [qf25_eq]
  by_cases h1 : line < 104
  · have : ¬ (104 ≤ line) := by omega
    simp [h1, this]
  · have e1 : IntKind.wrap .i64 (cnt lines * 16) = cnt lines * 16 := i64w (by omega) (by omega)
    have e2 : IntKind.wrap .i64 (104 + cnt lines * 16) = 104 + 16 * cnt lines := by rw [i64w (by omega) (by omega)]; omega
    have e3 : IntKind.wrap .i64 (line - 104) = line - 104 := i64w (by omega) (by omega)
    simp only [h1, decide_false, cond_false, Option.bind_some]
    rw [e1, e2, e3, tmodn (by omega), wquo (by omega) (by omega) (by omega)]
    by_cases h2 : 104 + 16 * cnt lines ≤ line
    · simp only [h2, decide_true, cond_true]
      rw [if_neg (by omega)]
    · by_cases h3 : (line - 104) % 16 = 0
      · simp only [h2, h3, decide_true, decide_false, cond_true, cond_false]
        rw [if_neg (by omega)]
      · simp only [h2, h3, decide_false, cond_false]
        rw [if_pos (by omega)]
end Go.Sx

