/- Plain laws: what the statements on header and node pages do with their arguments. -/
import Derived.Test.YteghkndbngddgaaQ2
set_option linter.unusedVariables false
set_option linter.unusedSimpArgs false
namespace Go.Sx
open Go.RowKit

theorem law20_nearbyL1_fine (p q : Page) (hp : Wf TPage p) : ∃ r, law20_nearbyL1 3 p q = some r ∧ Wf TPage r.1 := by
  refine iter_inv (body := law20_nearbyL1B) (fun y => 3 ≤ y.1 ∧ y.1 ≤ 7 ∧ Wf TPage y.2.1) (fun r => Wf TPage r.1) (fun y => (7 - y.1).toNat) (fun y hy => ?_) (3, p, q) ⟨by simp only; omega, by simp only; omega, hp⟩
  obtain ⟨i, x1, x2⟩ := y
  obtain ⟨h1, h2, h3⟩ := hy
  simp only at h1 h2 h3
  simp only [law20_nearbyL1B, law20_nearbyL1b]
  obtain ⟨k1, k2, k3, k4⟩ := h3
  by_cases hi : i < 7
  · left
    have hr : inR i 7 = true := by simp only [inR, Bool.and_eq_true, decide_eq_true_eq]; omega
    have e2 : IntKind.wrap .i64 (i + 1) = i + 1 := i64w (by omega) (by omega)
    simp only [hi, hr, decide_true, cond_true, e2]
    by_cases hc : (0 : Int) < Int.tmod (List.getD x1.2.2.1 (Int.toNat i) (0 : Int)) (3 : Int)
    · simp only [hc, decide_true, cond_true]
      exact ⟨_, rfl, ⟨by simp only; omega, by simp only; omega, k1, k2, wf_set (wf_set k3 (wf_u64_mk (by decide) (by decide))) (wf_wrap _ _), trivial⟩, by simp only; omega⟩
    · simp only [hc, decide_false, cond_false]
      exact ⟨_, rfl, ⟨by simp only; omega, by simp only; omega, k1, k2, wf_set k3 (wf_u64_mk (by decide) (by decide)), trivial⟩, by simp only; omega⟩
  · right
    simp only [hi, decide_false, cond_false]
    exact ⟨_, rfl, k1, k2, k3, k4⟩

theorem law20_nearby_ok (p : Page) (kind : Int) (hp : Wf TPage p) : ∃ q, law20_nearby p kind = some q ∧ Wf TPage q := by
  obtain ⟨k1, k2, k3, k4⟩ := hp
  have z : Wf (.int .u64) (0 : Int) := wf_u64_mk (by decide) (by decide)
  unfold law20_nearby
  simp only [hand_Pick_eq _ 4 (by decide) (by decide), hand_Pick_eq _ 20 (by decide) (by decide), hand_Pick_eq _ 8 (by decide) (by decide), Option.bind_some]
  by_cases h1 : kind % 4 = 1
  · simp only [h1, decide_true, cond_true]
    refine ⟨_, rfl, wf_wrap _ _, k2, ?_, trivial⟩
    exact wf_set (wf_set (wf_set (wf_set (wf_set (wf_set (wf_set k3 (wf_tmod_u64 (wf_getD k3 (by decide)) (by decide))) (wf_wrap _ _)) z) z) z) z) (wf_wrap _ _)
  · by_cases h2 : kind % 4 = 2
    · simp only [h1, h2, decide_true, decide_false, cond_true, cond_false]
      obtain ⟨r, e, hr⟩ := law20_nearbyL1_fine ((IntKind.wrap .i64 ((97 : Int) + p.1 % 8)), (p.2.1, ((List.set (List.set (List.set p.2.2.1 0 (Int.tmod (List.getD p.2.2.1 0 (0 : Int)) (8589934592 : Int))) 1 (Int.tmod (List.getD p.2.2.1 1 (0 : Int)) (520 : Int))) 2 (Int.tmod (List.getD p.2.2.1 2 (0 : Int)) (210 : Int))), p.2.2.2))) ((0 : Int), ((0 : Int), ((List.replicate 7 (0 : Int)), ())))
        ⟨wf_wrap _ _, k2, wf_set (wf_set (wf_set k3 (wf_tmod_u64 (wf_getD k3 (by decide)) (by decide))) (wf_tmod_u64 (wf_getD k3 (by decide)) (by decide))) (wf_tmod_u64 (wf_getD k3 (by decide)) (by decide)), trivial⟩
      rw [e]
      exact ⟨_, rfl, hr⟩
    · simp only [h1, h2, decide_false, cond_false]
      exact ⟨_, rfl, k1, k2, k3, k4⟩

theorem law20_header_eq (h : Head) : law20_header h = some h := rfl

theorem law20_node_eq (n : Node) (hn : n.2.2.2.2.1.length = 4) : law20_node n = some n := by
  obtain ⟨pin, ep, seg, inc, rs, u⟩ := n
  obtain ⟨r0, r1, r2, r3, rfl⟩ := len4 (α := Ret4) hn
  have hset : ∀ i, i < 4 → (([r0, r1, r2, r3].take i ++ List.replicate (4 - i) noRet).set i ([r0, r1, r2, r3].getD i noRet)) = [r0, r1, r2, r3].take (i + 1) ++ List.replicate (4 - (i + 1)) noRet := by
    intro i hi
    match i, hi with
    | 0, _ => rfl
    | 1, _ => rfl
    | 2, _ => rfl
    | 3, _ => rfl
  have := iter_for (body := law20_nodeL1B) (fun i => ((i : Int), (pin, ep, seg, inc, [r0, r1, r2, r3], u), noNode, (pin, ep, seg, inc, [r0, r1, r2, r3].take i ++ List.replicate (4 - i) noRet, ()))) 4 (noNode, (pin, ep, seg, inc, [r0, r1, r2, r3], ())) (fun i hi => ?_) rfl 0 (by decide)
  · unfold law20_node law20_nodeL1
    exact congrArg (fun o => Option.bind o fun r1 => some r1.2) this
  · have e0 : (i : Int) < 4 := by omega
    have e2 : IntKind.wrap .i64 ((i : Int) + 1) = ((i + 1 : Nat) : Int) := by rw [i64w (by omega) (by omega)]; omega
    have hs := hset i hi
    simp only [law20_nodeL1B, law20_nodeL1b, law20_ref, Option.bind_some, e0, e2, inR_nat hi, decide_true, cond_true, Int.toNat_natCast]
    rw [← hs, getD_ret r0 r1 r2 r3 i _ hi]

theorem law20_same_self (p : Page) : law20_same p p = some true := by
  unfold law20_same
  simp [eqV_self (t := .arr 7 (.int .u64)) rfl]

theorem wf_readNode_len (p : Page) (hp : Wf TPage p) : (readNode p).1.2.2.2.2.1.length = 4 := by
  unfold readNode
  obtain ⟨_, _, ⟨h7, _⟩, _⟩ := hp
  split
  · rfl
  · split
    · rfl
    · simp only [List.length_map, List.length_drop]
      have h7 : p.2.2.1.length = 7 := h7
      omega

/-- The law at one page, one header, one node. -/
noncomputable def restPages (r1 : Page) (a2 : Head) (a3 : Node) : Option Bool :=
    (segment_ReadHeader r1).bind fun r36 =>
    (ref19_ReadHeader r1).bind fun r37 =>
    (segment_ReadNode r1).bind fun r38 =>
    (ref19_ReadNode r1).bind fun r39 =>
    (law20_awake).bind fun r40 =>
    bif (!r40) then (
      some false)
    else (
      bif (!(decide (r36.2 = r37.2))) then (
        some false)
      else (
        bif (!(decide (r38.2 = r39.2))) then (
          some false)
        else (
          (law20_header r36.1).bind fun r41 =>
          bif (!(eqV THead r41 r37.1)) then (
            some false)
          else (
            (law20_node r38.1).bind fun r42 =>
            bif (!(eqV TNode r42 r39.1)) then (
              some false)
            else (
              (segment_WriteHeader r1 a2).bind fun r43 =>
              (law20_header a2).bind fun r44 =>
              (ref19_WriteHeader r1 r44).bind fun r45 =>
              (segment_WriteNode r1 a3).bind fun r46 =>
              (law20_node a3).bind fun r47 =>
              (ref19_WriteNode r1 r47).bind fun r48 =>
              bif (decide (r43.2 = r45.2)) then (
                bif (decide (r46.2 = r48.2)) then (
                  (law20_same r43.1 r45.1).bind fun r49 =>
                  bif r49 then (
                    (law20_same r46.1 r48.1).bind fun r50 =>
                    some r50)
                  else (
                    some false))
                else (
                  some false))
              else (
                some false))))))

theorem restPages_eq (p : Page) (h : Head) (n : Node) (hp : Wf TPage p) (hh : Wf THead h) (hn : Wf TNode n) : restPages p h n = some true := by
  have hn4 : n.2.2.2.2.1.length = 4 := hn.2.2.2.2.1.1
  unfold restPages
  rw [segment_ReadHeader_eq p hp, ref19_ReadHeader_eq p hp, segment_ReadNode_eq p hp, ref19_ReadNode_eq p hp, awake20]
  simp only [Option.bind_some, Bool.not_true, cond_false, decide_true, law20_header_eq, eqV_self (t := THead) rfl, law20_node_eq _ (wf_readNode_len p hp), law20_node_eq _ hn4, eqV_self (t := TNode) rfl]
  rw [segment_WriteHeader_eq p h hh, ref19_WriteHeader_eq p h hh, segment_WriteNode_eq p n hn, ref19_WriteNode_eq p n hn]
  simp only [Option.bind_some, decide_true, cond_true, law20_same_self]

theorem law20_SegmentPagesL1_fine (p : Page) (h : Head) (n : Node) (hh : Wf THead h) (hp : Wf TPage p) (hn : Wf TNode n) : ∃ r, law20_SegmentPagesL1 0 p h n = some r ∧ Wf TPage r.1 ∧ Wf THead r.2.1 ∧ Wf TNode r.2.2 := by
  refine iter_inv (body := law20_SegmentPagesL1B) (fun y => 0 ≤ y.1 ∧ y.1 ≤ 4 ∧ Wf TPage y.2.1 ∧ Wf THead y.2.2.1 ∧ Wf TNode y.2.2.2) (fun r => Wf TPage r.1 ∧ Wf THead r.2.1 ∧ Wf TNode r.2.2) (fun y => (4 - y.1).toNat) (fun y hy => ?_) (0, p, h, n) ⟨by simp only; omega, by simp only; omega, hp, hh, hn⟩
  obtain ⟨i, x1, x2, x3⟩ := y
  obtain ⟨h1, h2, h3, h4, h5⟩ := hy
  simp only at h1 h2 h3 h4 h5
  simp only [law20_SegmentPagesL1B, law20_SegmentPagesL1b]
  obtain ⟨k1, k2, k3, k4, k5, k6⟩ := h5
  by_cases hi : i < 4
  · left
    have hr : inR i 4 = true := by simp only [inR, Bool.and_eq_true, decide_eq_true_eq]; omega
    have e2 : IntKind.wrap .i64 (i + 1) = i + 1 := i64w (by omega) (by omega)
    have hw := wf_getD (d := (((0 : Int), (0 : Int), ()), (0 : Int), ())) k5 (i := i.toNat) (by omega)
    simp only [hand_Pick_eq _ 158 (by decide) (by decide), hand_Pick_eq _ 4 (by decide) (by decide), Option.bind_some, hi, hr, decide_true, cond_true, e2]
    have hwr : ∀ a b : Int, 0 ≤ b → b ≤ 3 → Wf TRet (((IntKind.wrap .i64 a), (b, ())), (List.getD x3.2.2.2.2.1 (Int.toNat i) (((0 : Int), ((0 : Int), ())), ((0 : Int), ()))).2) := fun a b h0 h1 => ⟨⟨wf_wrap _ _, wf_i64_mk (n := b) (by omega) (by omega), trivial⟩, hw.2⟩
    have hz : Wf TRet (((0 : Int), ((0 : Int), ())), ((0 : Int), ())) := ⟨⟨wf_i64_mk (by decide) (by decide), wf_i64_mk (by decide) (by decide), trivial⟩, wf_u32_mk (by decide) (by decide), trivial⟩
    have hm := Int.emod_nonneg (List.getD x3.2.2.2.2.1 (Int.toNat i) (((0 : Int), ((0 : Int), ())), ((0 : Int), ()))).1.2.1 (b := 4) (by decide)
    have hm2 := Int.emod_lt_of_pos (List.getD x3.2.2.2.2.1 (Int.toNat i) (((0 : Int), ((0 : Int), ())), ((0 : Int), ()))).1.2.1 (b := 4) (by decide)
    cases hc : decide ((List.getD (List.set x3.2.2.2.2.1 (Int.toNat i) (((IntKind.wrap .i64 ((100 : Int) + (List.getD x3.2.2.2.2.1 (Int.toNat i) (((0 : Int), ((0 : Int), ())), ((0 : Int), ()))).1.1 % 158)), ((List.getD x3.2.2.2.2.1 (Int.toNat i) (((0 : Int), ((0 : Int), ())), ((0 : Int), ()))).1.2.1 % 4, ())), (List.getD x3.2.2.2.2.1 (Int.toNat i) (((0 : Int), ((0 : Int), ())), ((0 : Int), ()))).2)) (Int.toNat i) (((0 : Int), ((0 : Int), ())), ((0 : Int), ()))).1.2.1 = (0 : Int)) with
    | true =>
      simp only [cond_true]
      exact ⟨_, rfl, ⟨by simp only; omega, by simp only; omega, h3, h4, k1, k2, k3, k4, wf_set (wf_set k5 (hwr _ _ (by omega) (by omega))) hz, k6⟩, by simp only; omega⟩
    | false =>
      simp only [cond_false]
      exact ⟨_, rfl, ⟨by simp only; omega, by simp only; omega, h3, h4, k1, k2, k3, k4, wf_set k5 (hwr _ _ (by omega) (by omega)), k6⟩, by simp only; omega⟩
  · right
    simp only [hi, decide_false, cond_false]
    exact ⟨_, rfl, h3, h4, k1, k2, k3, k4, k5, k6⟩

theorem segmentPages_pure (p : Page) (kind : Int) (h : Head) (n : Node) (hp : Wf TPage p) (hk : Wf (.int .i64) kind) (hh : Wf THead h) (hn : Wf TNode n) : law20_SegmentPages p kind h n = some true := by
  obtain ⟨q, e, hq⟩ := law20_nearby_ok p kind hp
  unfold law20_SegmentPages
  rw [e]
  simp only [Option.bind_some]
  rw [hand_Pick_eq _ 3 (by decide) (by decide)]
  simp only [Option.bind_some]
  cases hc : decide (0 < IntKind.wrap .i64 (Int.tdiv kind 4) % 3) with
  | false => exact restPages_eq q h n hq hh hn
  | true =>
    simp only [cond_true, hand_Pick_eq _ 9 (by decide) (by decide), hand_Pick_eq _ 204 (by decide) (by decide), Option.bind_some]
    obtain ⟨k1, k2, k3⟩ := hh
    obtain ⟨m1, m2, m3, m4, m5, m6⟩ := hn
    obtain ⟨r, er, w1, w2, w3⟩ := law20_SegmentPagesL1_fine q ((IntKind.wrap .i64 (h.1 % 9 - (2 : Int))), ((IntKind.wrap .u32 ((BitVec.ofInt (IntKind.bits .u32) (Int.tmod h.2.1 (131072 : Int)) &&& ~~~ BitVec.ofInt (IntKind.bits .u32) (shiftR .u32 h.2.1 (31 : Int))).toNat : Int)), h.2.2))
      (n.1, (n.2.1, ((Int.tmod n.2.2.1 (520 : Int)), ((IntKind.wrap .i64 (n.2.2.2.1 % 204 - (1 : Int))), n.2.2.2.2)))) ⟨wf_wrap _ _, wf_wrap _ _, trivial⟩ hq ⟨m1, m2, wf_tmod_u32 m3 (by decide), wf_wrap _ _, m5, m6⟩
    rw [er]
    simp only [Option.bind_some]
    cases hb : (!r.2.2.1) with
    | false => exact restPages_eq r.1 r.2.1 r.2.2 w1 w2 w3
    | true =>
      obtain ⟨x1, x2, x3, x4, x5, x6⟩ := w3
      exact restPages_eq r.1 r.2.1 (r.2.2.1, ((IntKind.wrap .u32 (Int.tdiv (Int.tmod r.2.2.2.1 (20 : Int)) (19 : Int))), r.2.2.2.2)) w1 w2 ⟨x1, wf_wrap _ _, x3, x4, x5, x6⟩
end Go.Sx
