/- What has been written is read again: the plain law. -/
import Derived.Test.YteghkndbngddgaaQ3
set_option linter.unusedVariables false
set_option linter.unusedSimpArgs false
namespace Go.Sx
open Go.RowKit

theorem wf_head_written (p : Page) (h : Head) (hp : Wf TPage p) (hh : Wf THead h) : Wf TPage (writeHead p h).1 := by
  unfold writeHead
  obtain ⟨k1, k2, k3, k4⟩ := hp
  have hz : Wf TPage noPage := ⟨wf_i64_mk (n := 0) (by decide) (by decide), wf_u64_mk (n := 0) (by decide) (by decide), ⟨rfl, fun x hx => by
    rw [List.eq_of_mem_replicate hx]; exact wf_u64_mk (by decide) (by decide)⟩, trivial⟩
  have hu := wf_u32 hh.2.1
  split
  · exact hz
  · rename_i hc
    simp only [not_or] at hc
    refine ⟨k1, k2, ⟨rfl, fun x hx => ?_⟩, trivial⟩
    simp only [List.mem_cons, List.not_mem_nil, or_false] at hx
    rcases hx with rfl | rfl | rfl | rfl | rfl | rfl | rfl
    · exact wf_u64_mk (by omega) (by omega)
    · exact wf_u64_mk (by omega) (by omega)
    all_goals exact wf_u64_mk (by decide) (by decide)

theorem head_again (p : Page) (h : Head) (hh : Wf THead h) (hc : (writeHead p h).2 = 0) : readHead (writeHead p h).1 = (h, 0) ∧ (writeHead p h).1.1 = p.1 ∧ (writeHead p h).1.2.1 = p.2.1 := by
  unfold writeHead at hc ⊢
  have hu := wf_u32 hh.2.1
  split
  · rename_i hx; rw [if_pos hx] at hc; cases hc
  · rename_i hx
    simp only [not_or, Bool.not_eq_false, Classical.not_not] at hx
    refine ⟨?_, rfl, rfl⟩
    unfold readHead
    rw [if_neg (by rw [hx.1]; simp)]
    rw [if_neg (by
      simp only [List.getD_cons_zero, List.getD_cons_succ, not_or]
      exact ⟨by omega, by simp only [Classical.not_not]; exact hx.2.2.2, by simp [allZ]⟩)]
    obtain ⟨o, u, _⟩ := h
    simp only [List.getD_cons_zero, List.getD_cons_succ]
    rw [show o + 1 - 1 = o by omega]

theorem wf_node_written (p : Page) (n : Node) (hp : Wf TPage p) (hn : Wf TNode n) : Wf TPage (writeNode p n).1 := by
  unfold writeNode
  obtain ⟨k1, k2, k3, k4⟩ := hp
  have hz : Wf TPage noPage := ⟨wf_i64_mk (n := 0) (by decide) (by decide), wf_u64_mk (n := 0) (by decide) (by decide), ⟨rfl, fun x hx => by
    rw [List.eq_of_mem_replicate hx]; exact wf_u64_mk (by decide) (by decide)⟩, trivial⟩
  obtain ⟨m1, m2, m3, m4, ⟨m5, m6⟩, m7⟩ := hn
  have m2 := wf_u32 m2
  have m3 := wf_u32 m3
  split
  · exact hz
  · rename_i hc
    simp only [not_or] at hc
    refine ⟨k1, k2, ⟨by simp [m5], fun x hx => ?_⟩, trivial⟩
    simp only [List.mem_append, List.mem_cons, List.not_mem_nil, or_false, List.mem_map] at hx
    rcases hx with (rfl | rfl | rfl) | ⟨r, hr, rfl⟩
    · split <;> exact wf_u64_mk (by omega) (by omega)
    · exact wf_u64_mk (by omega) (by omega)
    · exact wf_u64_mk (by omega) (by omega)
    · have h1 := m6 r hr
      have h2 := wf_ret h1
      have h3 : retBad r = false := by
        cases e : retBad r with
        | false => rfl
        | true => exact absurd (List.any_eq_true.2 ⟨r, hr, e⟩) hc.2.2.2.2.2
      unfold retWord
      split
      · exact wf_u64_mk (by decide) (by decide)
      · rename_i h4
        unfold retBad validP at h3
        simp only [h4, decide_false, Bool.not_false, Bool.true_and, Bool.not_eq_false', decide_eq_true_eq] at h3
        exact wf_u64_mk (by omega) (by omega)

theorem ret_again (r : Ret4) (hr : Wf TRet r) (hb : retBad r = false) : retOf (retWord r) = r ∧ retOk (retWord r) = true := by
  have he := wf_ret hr
  unfold retWord
  by_cases h : r = noRet
  · rw [if_pos h, h]; exact ⟨rfl, rfl⟩
  · rw [if_neg h]
    unfold retBad at hb
    simp only [h, decide_false, Bool.not_false, Bool.true_and, Bool.not_eq_false'] at hb
    have hv := hb
    unfold validP at hv
    simp only [decide_eq_true_eq] at hv
    have e1 : retOf (r.1.1 + 256 * r.1.2.1 + r.2.1 * 4294967296) = r := by
      unfold retOf
      rw [if_neg (by omega)]
      obtain ⟨⟨l, g, _⟩, e, _⟩ := r
      simp only at hv he ⊢
      congr 1
      · congr 1
        · omega
        · congr 1; omega
      · congr 1; omega
    refine ⟨e1, ?_⟩
    unfold retOk
    rw [e1, hb]; simp

theorem node_again (p : Page) (n : Node) (hn : Wf TNode n) (hc : (writeNode p n).2 = 0) : readNode (writeNode p n).1 = (n, 0) ∧ (writeNode p n).1.1 = p.1 ∧ (writeNode p n).1.2.1 = p.2.1 := by
  unfold writeNode at hc ⊢
  obtain ⟨m1, m2, m3, m4, ⟨m5, m6⟩, m7⟩ := hn
  have m2 := wf_u32 m2
  have m3 := wf_u32 m3
  split
  · rename_i hx; rw [if_pos hx] at hc; cases hc
  · rename_i hx
    simp only [not_or, Bool.not_eq_false] at hx
    obtain ⟨x1, x2, x3, x4, x5, x6⟩ := hx
    refine ⟨?_, rfl, rfl⟩
    have hb : ∀ r ∈ n.2.2.2.2.1, retBad r = false := by
      intro r hr
      cases e : retBad r with
      | false => rfl
      | true => exact absurd (List.any_eq_true.2 ⟨r, hr, e⟩) x6
    have hmap : (n.2.2.2.2.1.map retWord).map retOf = n.2.2.2.2.1 := by
      rw [List.map_map]
      conv => rhs; rw [← List.map_id n.2.2.2.2.1]
      exact List.map_congr_left fun r hr => (ret_again r (m6 r hr) (hb r hr)).1
    have hall : (n.2.2.2.2.1.map retWord).all retOk = true := by
      rw [List.all_map, List.all_eq_true]
      intro r hr
      exact (ret_again r (m6 r hr) (hb r hr)).2
    obtain ⟨pin, ep, seg, inc, rs, u⟩ := n
    unfold readNode
    simp only [List.cons_append, List.nil_append, List.getD_cons_zero, List.getD_cons_succ, List.drop_succ_cons, List.drop_zero] at *
    rw [if_neg (by rw [x1]; simp), if_neg (by
      rw [hall]
      simp only [not_or]
      refine ⟨?_, by omega, by omega, by simp⟩
      split <;> omega), hmap]
    cases pin with
    | true =>
      simp only [if_true]
      have e0 : 0 < ep + 1 := by omega
      rw [if_pos e0, decide_eq_true e0, show ep + 1 - 1 = ep by omega]
    | false =>
      have e0 : ep = 0 := by
        by_cases e : ep = 0
        · exact e
        · exact absurd ⟨rfl, e⟩ x2
      subst e0
      rfl

theorem segmentRound_pure (p : Page) (kind : Int) (h : Head) (n : Node) (hp : Wf TPage p) (hk : Wf (.int .i64) kind) (hh : Wf THead h) (hn : Wf TNode n) : law20_SegmentRound p kind h n = some true := by
  obtain ⟨q, e, hq⟩ := law20_nearby_ok p kind hp
  have key : ∀ b : Option Bool, b = some true → (segment_WriteNode q n).bind (fun r8 =>
      bif (decide (r8.2 = (0 : Int))) then (
        (segment_ReadNode r8.1).bind fun r9 =>
        bif (!(decide (r9.2 = (0 : Int)))) then (
          some false)
        else (
          bif (!(eqV TNode r9.1 n)) then (
            some false)
          else (
            bif (!(decide (r8.1.1 = q.1))) then (
              some false)
            else (
              bif (!(decide (r8.1.2.1 = q.2.1))) then (
                some false)
              else b))))
      else b) = some true := by
    intro b hb
    rw [segment_WriteNode_eq q n hn]
    simp only [Option.bind_some]
    by_cases hc : (writeNode q n).2 = 0
    · obtain ⟨a1, a2, a3⟩ := node_again q n hn hc
      rw [segment_ReadNode_eq _ (wf_node_written q n hq hn), a1]
      simp [hc, a2, a3, hb, eqV_self (t := TNode) rfl]
    · simp [hc, hb]
  unfold law20_SegmentRound
  rw [e, awake20]
  simp only [Option.bind_some]
  rw [segment_WriteHeader_eq q h hh]
  simp only [Option.bind_some]
  by_cases hc : (writeHead q h).2 = 0
  · obtain ⟨a1, a2, a3⟩ := head_again q h hh hc
    rw [segment_ReadHeader_eq _ (wf_head_written q h hq hh), a1]
    simp only [hc, a2, a3, decide_true, cond_true, Option.bind_some, Bool.not_true, cond_false, eqV_self (t := THead) rfl]
    exact key _ rfl
  · simp only [hc, decide_false, cond_false]
    exact key _ rfl
end Go.Sx
