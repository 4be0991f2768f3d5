/- P3: printed by a program of this session: the functions of the seat as plain functions, and that the code comes to them. -/
import Derived.Test.YteghkndbngddgaaA3
import Derived.Test.YteghkndbngddgaaPuA
set_option linter.unusedVariables false
namespace Go.Sx

theorem f10_eq (n : Int) (k : Int) (h : 1 ≤ k) (hk : k ≤ 4611686018427387904) : f10 n k = some (n % k) := by
  unfold f10
  have h1 : ¬ (k < 1) := by omega
  have h2 : ¬ (k = 0) := by omega
  have hm := Int.tmod_eq_emod (a := n) (b := k)
  have hb : -k < n.tmod k ∧ n.tmod k < k ∧ (n.tmod k = n % k ∨ n.tmod k = n % k - k) := by
    have h3 := Int.emod_nonneg n (b := k) (by omega)
    have h4 := Int.emod_lt_of_pos n (b := k) (by omega)
    rw [hm]
    split
    · omega
    · rename_i hd
      have : n % k ≠ 0 := fun e => hd (.inr (Int.dvd_of_emod_eq_zero e))
      omega
  rw [i64w (by omega) (by omega)]
  simp only [h1, h2, decide_false, cond_false, Bool.not_false, cond_true, Option.some.injEq]
  rw [Int.tmod_eq_emod_of_nonneg (by omega), Int.add_emod_right]
  rcases hb.2.2 with e | e <;> rw [e]
  · simp
  · rw [Int.sub_emod]; simp

/-- How an epoch page is read. -/
def epochOf (p : Page) : Int × Int :=
  bif !(decide (p.1 = 97)) then (0, 1) else
  bif !(decide (p.2.2.1.getD 1 0 = 0)) || !(decide (p.2.2.1.getD 2 0 = 0)) || !(decide (p.2.2.1.getD 3 0 = 0)) || !(decide (p.2.2.1.getD 4 0 = 0)) || !(decide (p.2.2.1.getD 5 0 = 0)) || !(decide (p.2.2.1.getD 6 0 = 0)) then (0, 14) else
  bif decide (4294967295 < p.2.2.1.getD 0 0) then (0, 14) else (p.2.2.1.getD 0 0, 0)

theorem f11_eq (p : Page) (h : Wf TPage p) : f11 p = some (epochOf p) := by
  obtain ⟨ln, hd, dt, _⟩ := p
  obtain ⟨_, _, ⟨h7, hw⟩, _⟩ := h
  obtain ⟨a, b, c, d, e, f, g, rfl⟩ := len7 (α := Int) h7
  have ha := wf_u64 (hw a (by simp))
  unfold f11 epochOf
  simp only [eqV, eqV.go, List.getD_cons_zero, List.getD_cons_succ]
  by_cases hl : ln = 97 <;> simp only [hl, decide_true, decide_false, Bool.not_true, Bool.not_false, cond_true, cond_false]
  by_cases hb : b = 0 <;> by_cases hc : c = 0 <;> by_cases hdd : d = 0 <;> by_cases he : e = 0 <;> by_cases hf : f = 0 <;> by_cases hg : g = 0 <;> simp [hb, hc, hdd, he, hf, hg]
  by_cases hx : 4294967295 < a
  · simp [hx]
  · simp [hx]
    exact u32w ha.1 (by omega)

theorem f12_eq (p : Page) (h : Wf TPage p) : f12 p = some (epochOf p) := by
  have hl : ∀ i : Nat, i ≤ 7 → f12l1 i p = some (match (List.range' i (7 - i)).find? (fun j => !(decide (p.2.2.1.getD j 0 = 0))) with | some j => .inr (0, 14) | none => .inl p) := by
    intro i hi
    refine iter_scan (body := f12l1B) (fun i => ((i : Int), p)) 7 _ _ _ (fun j hj hb => ?_) (fun j hj hb => ?_) ?_ i hi
    · simp only [Bool.not_eq_false', decide_eq_true_eq] at hb
      simp only [f12l1B, f12l1b, inR, Int.toNat_natCast, hb]
      rw [i64w (by omega) (by omega)]
      have h1 : (j : Int) < 7 := by omega
      have h2 : (0 : Int) ≤ j := by omega
      simp [h1, h2]
    · simp only [Bool.not_eq_true', decide_eq_false_iff_not] at hb
      simp only [f12l1B, f12l1b, inR, Int.toNat_natCast, hb]
      have h1 : (j : Int) < 7 := by omega
      have h2 : (0 : Int) ≤ j := by omega
      simp [h1, h2]
    · rfl
  obtain ⟨ln, hd, dt, _⟩ := p
  obtain ⟨_, _, ⟨h7, hw⟩, _⟩ := h
  obtain ⟨a, b, c, d, e, f, g, rfl⟩ := len7 (α := Int) h7
  have ha := wf_u64 (hw a (by simp))
  have hl := hl 1 (by omega)
  unfold f12 epochOf
  rw [show ((1 : Int)) = ((1 : Nat) : Int) from rfl, hl]
  by_cases hl : ln = 97 <;> simp only [hl, decide_true, decide_false, Bool.not_true, Bool.not_false, cond_true, cond_false]
  by_cases hb : b = 0 <;> by_cases hc : c = 0 <;> by_cases hdd : d = 0 <;> by_cases he : e = 0 <;> by_cases hf : f = 0 <;> by_cases hg : g = 0 <;> simp [hb, hc, hdd, he, hf, hg, List.range']
  by_cases hx : 4294967295 < a
  · have : 4294967296 ≤ a := by omega
    simp [hx, this]
  · have : ¬ 4294967296 ≤ a := by omega
    simp [hx, this]
    exact u32w ha.1 (by omega)

theorem f13_eq (p : Page) (e : Int) (he : Wf (.int .u32) e) : f13 p e = some (bif !(decide (p.1 = 97)) then ((0, 0, List.replicate 7 0, ()), 1) else ((p.1, p.2.1, [e, 0, 0, 0, 0, 0, 0], ()), 0)) := by
  have := wf_u32 he
  unfold f13
  rw [u64w (by omega) (by omega)]
  by_cases h : p.1 = 97 <;> simp [h]

theorem f14_eq (p : Page) (e : Int) (he : Wf (.int .u32) e) : f14 p e = some (bif !(decide (p.1 = 97)) then ((0, 0, List.replicate 7 0, ()), 1) else ((p.1, p.2.1, [e, 0, 0, 0, 0, 0, 0], ()), 0)) := by
  have := wf_u32 he
  unfold f14
  rw [u64w (by omega) (by omega)]
  by_cases h : p.1 = 97 <;> simp [h, List.replicate]

theorem f15_eq : f15 = some true := by
  unfold f15 f17
  rw [show IntKind.wrap .u64 3 = 3 from rfl, show IntKind.wrap .u64 5 = 5 from rfl, show IntKind.wrap .u64 4 = 4 from rfl, show IntKind.wrap .u64 (3 + 2) = 5 from rfl]
  simp

theorem f16_self (l : List Page) (h : l.length ≤ maxLen) : f16 l l = some true := by
  have hm : l.length ≤ 9223372036854775807 := by unfold maxLen at h; omega
  have hl : f16l1 l l 0 = some (.inl ()) := by
    refine iter_for (body := f16l1B) (fun i => (l, l, (i : Int))) l.length (.inl ()) (fun i hi => ?_) ?_ 0 (Nat.zero_le _)
    · have h1 : decide ((i : Int) < (l.length : Nat)) = true := by simp; omega
      have h2 : inR i l.length = true := by simp [inR]; omega
      simp only [f16l1B, f16l1b, h1, h2, cond_true, decide_true, Bool.not_true, cond_false, eqV_self (t := .arr 7 (.int .u64)) rfl]
      rw [i64w (by omega) (by omega)]
      rfl
    · have h1 : decide (((l.length : Nat) : Int) < (l.length : Nat)) = false := by simp
      simp only [f16l1B, f16l1b, h1, cond_false]
  unfold f16
  rw [hl]
  simp

/-- The rest of the law, at one page. -/
noncomputable def rest3 (q : Page) (e g r : Int) : Option Bool :=
    (f11 q).bind fun r20 =>
    (f12 q).bind fun r21 =>
    (f13 q e).bind fun r22 =>
    (f14 q e).bind fun r23 =>
    (f15).bind fun r24 =>
    bif (!r24) then (
      some false)
    else (
      bif (!(decide (r20.1 = r21.1))) then (
        some false)
      else (
        bif (!(decide (r20.2 = r21.2))) then (
          some false)
        else (
          bif (!(decide (r22.2 = r23.2))) then (
            some false)
          else (
            (f16 [r22.1] [r23.1]).bind fun r25 =>
            bif (!r25) then (
              some false)
            else (
              bif (decide (r22.2 = (0 : Int))) then (
                (f11 r22.1).bind fun r26 =>
                bif (!(decide (r26.1 = e))) then (
                  some false)
                else (
                  bif (!(decide (r26.2 = (0 : Int)))) then (
                    some false)
                  else (
                    (f17 g r).bind fun r27 =>
                    (f18 g r).bind fun r28 =>
                    bif (r27 == r28) then (
                      (f17 r g).bind fun r29 =>
                      (f18 r g).bind fun r30 =>
                      some (r29 == r30))
                    else (
                      some false))))
              else (
                (f17 g r).bind fun r31 =>
                (f18 g r).bind fun r32 =>
                bif (r31 == r32) then (
                  (f17 r g).bind fun r33 =>
                  (f18 r g).bind fun r34 =>
                  some (r33 == r34))
                else (
                  some false)))))))

theorem rest3_eq (q : Page) (e g r : Int) (hq : Wf TPage q) (he : Wf (.int .u32) e) : rest3 q e g r = some true := by
  unfold rest3
  have h17 : ∀ a b, f17 a b = f18 a b := fun _ _ => rfl
  have hs : ∀ a b, f18 a b = some (decide ((IntKind.wrap .u64 ((IntKind.wrap .u64 b) + (2 : Int))) ≤ (IntKind.wrap .u64 a))) := fun _ _ => rfl
  rw [f11_eq q hq, f12_eq q hq, f13_eq q e he, f14_eq q e he, f15_eq]
  simp only [Option.bind_some, Bool.not_true, cond_false, decide_true, h17, hs, beq_self_eq_true, cond_true]
  rw [f16_self _ (by simp [maxLen])]
  simp only [Option.bind_some, Bool.not_true, cond_false]
  by_cases h : q.1 = 97
  · simp only [h, decide_true, Bool.not_true, cond_false, cond_true]
    have hw : Wf TPage ((97 : Int), q.2.1, [e, 0, 0, 0, 0, 0, 0], ()) := by
      obtain ⟨_, k, _, _⟩ := hq
      have := wf_u32 he
      refine ⟨wf_i64_mk (n := 97) (by decide) (by decide), k, ⟨rfl, fun x hx => ?_⟩, trivial⟩
      simp only [List.mem_cons, List.not_mem_nil, or_false] at hx
      rcases hx with rfl | rfl | rfl | rfl | rfl | rfl | rfl
      · exact wf_u64_mk (by omega) (by omega)
      all_goals exact wf_u64_mk (by decide) (by decide)
    rw [f11_eq _ hw]
    have : ¬ (4294967295 < e) := by have := wf_u32 he; omega
    simp [epochOf, this]
  · simp [h]

theorem f3_split (a0 : Page) (a1 a2 a3 a4 : Int) : f3 a0 a1 a2 a3 a4 = (f10 a4 4).bind fun r1 =>
    bif (decide ((0 : Int) < r1)) then
      (f10 (IntKind.wrap .i64 (Int.tdiv a4 (4 : Int))) (7 : Int)).bind fun r2 =>
      bif (inR r2 7) then
      (f10 (IntKind.wrap .i64 (Int.tdiv a4 (28 : Int))) (3 : Int)).bind fun r3 =>
      bif (inR r2 7) then
      (f10 (IntKind.wrap .i64 (Int.tdiv a4 (84 : Int))) (6 : Int)).bind fun r4 =>
      rest3 ((97 : Int), (a0.2.1, ((List.set [(Int.tmod (List.getD a0.2.2.1 0 (0 : Int)) (4294967301 : Int)), (0 : Int), (0 : Int), (0 : Int), (0 : Int), (0 : Int), (0 : Int)] (Int.toNat r2) (IntKind.wrap .u64 ((List.getD [(Int.tmod (List.getD a0.2.2.1 0 (0 : Int)) (4294967301 : Int)), (0 : Int), (0 : Int), (0 : Int), (0 : Int), (0 : Int), (0 : Int)] (Int.toNat r2) (0 : Int)) + (IntKind.wrap .u64 (IntKind.wrap .i64 (Int.tdiv r3 (2 : Int))))))), a0.2.2.2))) a1 a2 (IntKind.wrap .u32 ((IntKind.wrap .u32 (a2 - (IntKind.wrap .u32 r4))) + (2 : Int)))
      else none
      else none
    else rest3 a0 a1 a2 a3 := by kernel_rfl

theorem epochPages_pure (p : Page) (e g r n : Int) (h0 : Wf TPage p) (h1 : Wf (.int .u32) e) (h2 : Wf (.int .u32) g) (h3 : Wf (.int .u32) r) (h4 : Wf (.int .i64) n) : f3 p e g r n = some true := by
  rw [f3_split]
  simp only [f10_eq _ 4 (by decide) (by decide), f10_eq _ 7 (by decide) (by decide), f10_eq _ 3 (by decide) (by decide), f10_eq _ 6 (by decide) (by decide), Option.bind_some]
  have hr : inR (IntKind.wrap .i64 (Int.tdiv n 4) % 7) 7 = true := by
    simp only [inR, Bool.and_eq_true, decide_eq_true_eq]
    omega
  rw [hr]
  simp only [cond_true]
  cases hc : decide (0 < n % 4) with
  | false => exact rest3_eq _ _ _ _ h0 h1
  | true =>
  refine rest3_eq _ _ _ _ ?_ h1
  obtain ⟨_, k, ⟨h7, hw⟩, _⟩ := h0
  obtain ⟨ln, hd, dt, _⟩ := p
  obtain ⟨a, b, c, d, e, f, g, rfl⟩ := len7 (α := Int) h7
  have ha := wf_u64 (hw a (by simp))
  refine ⟨wf_i64_mk (n := 97) (by decide) (by decide), k, ⟨by simp, fun x hx => ?_⟩, trivial⟩
  rcases List.mem_or_eq_of_mem_set hx with hx | rfl
  · simp only [List.getD_cons_zero, List.mem_cons, List.not_mem_nil, or_false] at hx
    rcases hx with rfl | rfl | rfl | rfl | rfl | rfl | rfl
    · have h5 := Int.tmod_nonneg (a := a) 4294967301 ha.1
      have h6 := Int.tmod_lt_of_pos a (b := 4294967301) (by decide)
      exact wf_u64_mk h5 (by omega)
    all_goals exact wf_u64_mk (by decide) (by decide)
  · exact wf_wrap _ _
end Go.Sx
