/- The symbolic executor's meaning: back in the caller. -/
import Derived.Test.YteghkndbngddgaaGreatSyH
set_option linter.unusedVariables false
namespace Go.Sx
open Go.RowKit
section
variable {c : Cx} {n : Nat} {sl : Nat → SV} {w0 : World} {Jo : Io} {a : Act}
theorem mkO_same (σ : Nat → Nat) (o : OT) (acc : List H) (d : Dl (holesO o acc)) : sameShape (mkO id o acc d) (mkO σ o acc d) := by
  cases o with
  | box t c => exact rfl
  | slc nw t => exact ⟨rfl, rfl⟩
  | map k nw t => exact ⟨rfl, rfl⟩
  | itr m => exact trivial
theorem mkO_mine (σ : Nat → Nat) (o : OT) (acc : List H) (d : Dl (holesO o acc)) : isMine (mkO σ o acc d) = isMine (mkO id o acc d) := by
  cases o <;> rfl
theorem caller_rel (h : RelC c n sl w0 Jo a) {R : Rho} {ob' : Nat → Obj} {shI shO : Shape} (hf : ∀ i, ob' i = .gone ∨ Found false c.ob R i (ob' i)) (e3 : rhoOk shI.nx R = true) (e4 : boundOk c.ob R.ρ shI.nx = true) (hs : shapesOk shI shO = true)
    {id0 : Nat} (hid : ∀ i, id0 ≤ i → i < id0 + quota → ¬ c.A i) {c' : Cx} {a' : Act} {z : shO.D} (h' : RelS c' (shO.mk' z) c.w (ioOf c R ob' shI.nx shI.may) a') (hok : okAll (laxOf R.kill shI) shO = true) :
    ∃ c'' : Cx, c''.w = c'.w ∧ RelC c'' n sl w0 Jo a ∧ c''.ob = ups c.ob (gonesOf (sigOf id0 shI.nx R.ρ) shI.nx ++ mkB (sigOf id0 shI.nx R.ρ) shO.ob [] (restS shO.sl (holesB shO.ob []) z)) ∧
      (∀ k v, SRepV c' ((shO.mk' z).sl k) v → SRepV c'' (ups (fun _ => .dead) (mkS (sigOf id0 shI.nx R.ρ) shO.sl (holesB shO.ob []) z) k) v) ∧ (∀ i, c''.A i → c.A i ∨ (id0 ≤ i ∧ i < id0 + quota)) ∧ (c''.B = c.B ∧ ∀ i, c.A i → c''.β i = c.β i) ∧
      ((∀ b, c'.F b → b < c.w.heap.size → c.Fn true b) → ∀ k v, SRepV c' ((shO.mk' z).sl k) v → SRepV c'' (upSV (ups (fun _ => .dead) (mkS (sigOf id0 shI.nx R.ρ) shO.sl (holesB shO.ob []) z) k)) v) := by
  obtain ⟨hnt, hkill, hinj, hlt⟩ := rhoOk_spec e3
  simp only [shapesOk, Bool.and_eq_true] at hs
  obtain ⟨⟨⟨⟨⟨s1, s2⟩, s3⟩, s4⟩, s5⟩, s6⟩ := hs
  have s3 := Nat.le_of_ble_eq_true s3
  have s4 := Nat.le_of_ble_eq_true s4
  simp only [okAll, Bool.and_eq_true] at hok
  obtain ⟨o1, o2⟩ := hok
  generalize hσ : sigOf id0 shI.nx R.ρ = σ
  generalize hB : c.w.heap.size = B'
  have hb : ∀ i, i < shI.nx → ∃ j, look R.ρ i = some (some j) ∧ c.ob j ≠ .gone ∧ σ i = j ∧ c.A j := by
    intro i hi
    obtain ⟨j, h1, h2⟩ := boundOk_spec e4 hi
    refine ⟨j, h1, h2, ?_, ?_⟩
    · subst hσ
      simp only [sigOf, h1]
      rw [show Nat.blt i shI.nx = true by simpa using hi, cond_true]
    · by_cases e : c.A j
      · exact e
      · exact absurd (h.unalloc j e) h2
  have hσn : ∀ i, shI.nx ≤ i → σ i = id0 + (i - shI.nx) := by
    intro i hi
    subst hσ
    simp only [sigOf]
    rw [show Nat.blt i shI.nx = false by rw [Bool.eq_false_iff]; simpa using hi, cond_false]
    rfl
  have hinr : ∀ i, shI.nx ≤ i → i < shO.nx → id0 ≤ σ i ∧ σ i < id0 + quota := by
    intro i h1 h2
    rw [hσn i h1]; omega
  have hσinj : ∀ i k, i < shO.nx → k < shO.nx → σ i = σ k → i = k := by
    intro i k hi hk he
    by_cases h1 : i < shI.nx <;> by_cases h2 : k < shI.nx
    · obtain ⟨j, l1, _, l3, _⟩ := hb i h1
      obtain ⟨j', l4, _, l6, _⟩ := hb k h2
      have : j = j' := by rw [← l3, ← l6, he]
      subst this
      exact look_inj hinj l1 l4
    · obtain ⟨j, _, _, l3, l4⟩ := hb i h1
      have := hinr k (by omega) hk
      rw [← he, l3] at this
      exact absurd l4 (hid j this.1 this.2)
    · obtain ⟨j, _, _, l3, l4⟩ := hb k h2
      have := hinr i (by omega) hi
      rw [he, l3] at this
      exact absurd l4 (hid j this.1 this.2)
    · rw [hσn i (by omega), hσn k (by omega)] at he; omega
  have hA' : ∀ i, c'.A i → i < shO.nx := by
    intro i hi
    by_cases e : i < shO.nx
    · exact e
    · exact absurd hi (h'.fresh i (by simpa [Shape.mk'] using e))
  have hkeys : ∀ x ∈ shO.ob, x.1 < shO.nx := fun x hx => by simpa using List.all_eq_true.1 s6 x hx
  generalize hob2 : ups c.ob (gonesOf σ shI.nx ++ mkB σ shO.ob [] (restS shO.sl (holesB shO.ob []) z)) = ob2
  have hcob : c'.ob = ups (fun _ => Obj.gone) (mkB id shO.ob [] (restS shO.sl (holesB shO.ob []) z)) := h'.ob
  have hpict : ∀ k, k < shO.nx → Pict σ shO.ob k (c'.ob k) (ob2 (σ k)) := by
    intro k hk
    rw [hcob, ← hob2, ups_append]
    refine mkB_pict shO.ob [] _ _ _ k (fun x hx => hx) (fun x hx he => hσinj _ _ (hkeys x hx) hk he) (.inl ⟨rfl, ?_⟩)
    by_cases h1 : k < shI.nx
    · exact gones_at _ _ _ ⟨k, h1, rfl⟩
    · rw [gones_none _ _ _ (fun i hi he => by have := hσinj i k (by omega) hk he; omega)]
      have := hinr k (by omega) hk
      exact h.unalloc _ (hid _ this.1 this.2)
  have hnone : ∀ y, (∀ k, k < shO.nx → σ k ≠ y) → ob2 y = c.ob y := by
    intro y hy
    rw [← hob2, ups_append, mkB_none _ _ _ _ _ (fun x hx => hy x.1 (hkeys x hx)), gones_none _ _ _ (fun i hi => hy i (by omega))]
  have hbase : c'.B = B' := by rw [h'.rel.base, hB]
  have hgr : B' ≤ c'.w.heap.size := by rw [← hbase]; exact h'.rel.grown
  let c2 : Cx := { w := c'.w, F := fun b => c.F b ∨ (c'.F b ∧ B' ≤ b), B := c.B, A := fun i => c.A i ∨ (id0 ≤ i ∧ i < id0 + quota),
                   β := fun i => if id0 ≤ i ∧ i < id0 + quota then c'.β (i - id0 + shI.nx) else c.β i, ob := ob2 }
  have hβold : ∀ i, c.A i → c2.β i = c.β i := fun i hi => if_neg (fun e => hid i e.1 e.2 hi)
  have hβnew : ∀ k, shI.nx ≤ k → k < shO.nx → c2.β (σ k) = c'.β k := by
    intro k h1 h2
    have := hinr k h1 h2
    show (if id0 ≤ σ k ∧ σ k < id0 + quota then c'.β (σ k - id0 + shI.nx) else c.β (σ k)) = _
    rw [if_pos this, hσn k h1]
    congr 1
    omega
  have hfixed : ∀ i, i < shI.nx → c'.A i ∧ (c'.ob i = .gone ∨ ∃ j, look R.ρ i = some (some j) ∧ σ i = j ∧ c.A j ∧ c.ob j ≠ .gone ∧ c'.β i = c.β j ∧ sameShape (c.ob j) (c'.ob i)) := by
    intro i hi
    obtain ⟨j, l1, l2, l3, l4⟩ := hb i hi
    have hfx := h'.rel.fix i ((newCx c R ob').β i, ob' i) (by simp only [ioOf, if_pos hi])
    refine ⟨hfx.1, ?_⟩
    rcases hfx.2 with e | ⟨e5, e6⟩
    · exact .inl e
    · refine .inr ⟨j, l1, l3, l4, l2, ?_, ?_⟩
      · rw [e5]; simp only [newCx, l1]
      · rcases hf i with e | ⟨j', m1, m2, _⟩ | ⟨m1, _⟩
        · simp only at e6; rw [e] at e6; exact absurd e6 (by simp [sameShape])
        · rw [l1] at m1; simp at m1; subst m1
          exact sameShape_trans m2 e6
        · rw [l1] at m1; simp at m1
  have hret : Ret c' c2 σ (laxOf R.kill shI) := by
    refine ⟨rfl, fun b hb1 => ⟨.inr ⟨hb1.1, by rw [← hbase]; exact hb1.2 rfl⟩, fun _ => ?_⟩, fun hl b hb1 => ?_, fun i hi => ?_, fun i hi hg => ?_, fun i hi => ?_⟩
    · have := hb1.2 rfl
      rw [hbase] at this
      have := h.grown
      show c.B ≤ b
      omega
    · by_cases e : B' ≤ b
      · exact .inr ⟨hb1, e⟩
      · left
        simp only [laxOf, Bool.and_eq_true, Bool.or_eq_true] at hl
        obtain ⟨l1, l2⟩ := hl
        rcases h'.rel.old b hb1 (by rw [hbase]; omega) with k | ⟨⟨i, j, k1, _⟩, k2⟩
        · rcases k with k | ⟨m, hm, _⟩
          · exact k
          · rw [List.isEmpty_iff.1 l1] at hm; simp at hm
        · exfalso
          rcases l2 with l2 | l2
          · have := hlt i _ k1
            rw [Nat.eq_of_beq_eq_true l2] at this
            omega
          · have k2 : shI.may = true := k2
            rw [k2] at l2; cases l2
    · by_cases h1 : i < shI.nx
      · obtain ⟨j, _, _, l3, l4⟩ := hb i h1
        rw [l3]; exact .inl l4
      · exact .inr (hinr i (by omega) (hA' i hi))
    · by_cases h1 : i < shI.nx
      · obtain ⟨_, e | ⟨j, _, l3, l4, _, l5, _⟩⟩ := hfixed i h1
        · exact absurd e hg
        · rw [l3, hβold j l4, l5]
      · exact hβnew i (by omega) (hA' i hi)
    · rcases hpict i (hA' i hi) with ⟨_, e⟩ | ⟨o, acc, d, _, e1, e2⟩
      · exact .inl e
      · right
        rw [e1]
        show sameShape _ (ob2 (σ i))
        rw [e2]
        exact mkO_same σ o acc d
  have hsz : c.w.heap.size ≤ c2.w.heap.size := by rw [hB]; exact hgr
  have hheap : ∀ b, b < B' → ¬ (∃ i j, look R.ρ i = some (some j) ∧ Live c j ∧ b = (c.β j).blk) → c'.w.heap[b]? = c.w.heap[b]? := fun b hb1 hb2 => h'.rel.below b (by rw [hbase]; exact hb1) hb2
  have he : Ext c c2 := by
    refine ⟨rfl, fun b hb1 => .inl hb1, fun b hb1 => hheap b (by rw [← hB]; exact h.fz b hb1) ?_, fun i hi => .inl hi, fun i hi => ?_⟩
    · rintro ⟨i, j, _, l2, rfl⟩
      exact (h.own j l2).1 hb1
    · by_cases e : ∃ k, k < shO.nx ∧ σ k = i
      · obtain ⟨k, k1, rfl⟩ := e
        have hkn : k < shI.nx := by
          by_cases e2 : k < shI.nx
          · exact e2
          · have := hinr k (by omega) k1
            exact absurd hi (hid _ this.1 this.2)
        rcases hpict k k1 with ⟨_, e⟩ | ⟨o, acc, d, _, e1, e2⟩
        · exact .inl e
        · obtain ⟨_, e | ⟨j, _, l3, l4, _, l5, l6⟩⟩ := hfixed k hkn
          · rw [e] at e1
            cases o <;> cases e1
          · right
            refine ⟨?_, hβold _ hi⟩
            show sameShape (c.ob (σ k)) (ob2 (σ k))
            rw [l3, ← l3, e2]
            rw [e1] at l6
            rw [l3]
            exact sameShape_trans l6 (mkO_same σ o acc d)
      · have hno := hnone i (fun k hk he => e ⟨k, hk, he⟩)
        show ob2 i = .gone ∨ (sameShape (c.ob i) (ob2 i) ∧ _)
        rw [hno]
        rcases sameShape_self (c.ob i) with e | e
        · exact .inl e
        · exact .inr ⟨e, hβold i hi⟩
  have hcls : ∀ i, Live c2 i → (∃ k, k < shO.nx ∧ σ k = i ∧ Live c' k ∧ c2.β i = c'.β k) ∨ ((∀ k, k < shO.nx → σ k ≠ i) ∧ Live c i ∧ c2.β i = c.β i) := by
    intro i hi
    by_cases e : ∃ k, k < shO.nx ∧ σ k = i
    · obtain ⟨k, k1, rfl⟩ := e
      rcases hpict k k1 with ⟨_, e⟩ | ⟨o, acc, d, _, e1, e2⟩
      · exact absurd e hi.1
      · have hg : c'.ob k ≠ .gone := by rw [e1]; cases o <;> simp [mkO]
        have hAk : c'.A k := by
          by_cases e : c'.A k
          · exact e
          · exact absurd (h'.rel.unalloc k e) hg
        have hβ := hret.β k hAk hg
        exact .inl ⟨k, k1, rfl, ⟨hg, by rw [← hβ]; exact hi.2⟩, hβ⟩
    · have hno : ∀ k, k < shO.nx → σ k ≠ i := fun k hk he => e ⟨k, hk, he⟩
      have h1 := hnone i hno
      have hg : c.ob i ≠ .gone := by rw [← h1]; exact hi.1
      have hAi : c.A i := by
        by_cases e : c.A i
        · exact e
        · exact absurd (h.unalloc i e) hg
      have hβ := hβold i hAi
      exact .inr ⟨hno, ⟨hg, by rw [← hβ]; exact hi.2⟩, hβ⟩
  have hwhere : ∀ k, Live c' k → (B' ≤ (c'.β k).blk) ∨ ∃ i j, look R.ρ i = some (some j) ∧ Live c j ∧ (c'.β k).blk = (c.β j).blk := by
    intro k hk
    rcases (h'.rel.own k hk).2.2 with e | e
    · rw [hbase] at e; exact .inl e
    · exact .inr e
  have hbnd : ∀ i j, look R.ρ i = some (some j) → i < shO.nx ∧ σ i = j := by
    intro i j hij
    have hi := hlt i _ hij
    obtain ⟨j', l1, _, l3, _⟩ := hb i hi
    rw [hij] at l1
    simp at l1
    exact ⟨by omega, by rw [l3, l1]⟩
  refine ⟨c2, rfl, h.change he (fun i => ?_) (fun i hi => ?_) (fun i j hi hj hij => ?_) (fun i hi => ?_) (fun b hb1 => ?_) (fun b hb1 hio => ?_) hsz h'.rel.os h'.rel.tape h'.rel.output (fun b hb1 hlt1 => ?_) (fun i hi hnn => ?_), rfl, fun k v hv => ?_, fun i hi => hi, ⟨rfl, hβold⟩, fun hup k v hv => ?_⟩
  · show OK c2 i (ob2 i)
    by_cases e : ∃ k, k < shO.nx ∧ σ k = i
    · obtain ⟨k, k1, rfl⟩ := e
      rcases hpict k k1 with ⟨_, e⟩ | ⟨o, acc, d, hm, e1, e2⟩
      · rw [e]; trivial
      · have hg : c'.ob k ≠ .gone := by rw [e1]; cases o <;> simp [mkO]
        have hAk : c'.A k := by
          by_cases e : c'.A k
          · exact e
          · exact absurd (h'.rel.unalloc k e) hg
        have hβ := hret.β k hAk hg
        have hokO := List.all_eq_true.1 o2 _ hm
        have hobj := h'.rel.objs k
        rw [e1] at hobj
        rw [e2]
        cases o with
        | box t tm =>
          obtain ⟨m1, cs, e, m2, m3⟩ := hobj
          exact ⟨by rw [hβ]; exact m1, cs, e, by rw [hβ]; exact m2, (ret_ok hret tm hokO).1 _ _ _ _ m3⟩
        | slc nw t =>
          obtain ⟨m0, m1 | ⟨m1, m2, arr, e, m3, m4, m5⟩⟩ := hobj
          · exact ⟨m0, .inl (by rw [hβ]; exact m1)⟩
          · refine ⟨m0, .inr ⟨by rw [hβ]; exact m1, by rw [hβ]; exact m2, arr, e, by rw [hβ]; exact m3, by rw [hβ]; exact m4, fun q hq => ?_⟩⟩
            obtain ⟨ds, m6, m7, m8⟩ := m5 q hq
            exact ⟨ds, m6, fun x hx => by rw [hβ]; exact m7 x hx, hret.data hokO m8⟩
        | map k' nw t =>
          obtain ⟨m1, arr, m2, m3, m4⟩ := hobj
          refine ⟨by rw [hβ]; exact m1, arr, by rw [hβ]; exact m2, m3, fun q x hq => ?_⟩
          obtain ⟨e, cs, q1, q2, q3, q4, q5, q6, q7⟩ := m4 q x hq
          exact ⟨e, cs, q1, q2, q3, q4, q5, q6, hret.data hokO q7⟩
        | itr m => cases hokO
    · have hno : ∀ k, k < shO.nx → σ k ≠ i := fun k hk he => e ⟨k, hk, he⟩
      rw [hnone i hno]
      by_cases hg : c.ob i = .gone
      · rw [hg]; trivial
      · have hAi : c.A i := by
          by_cases e : c.A i
          · exact e
          · exact absurd (h.unalloc i e) hg
        refine (h.objs i).ext he (hβold i hAi) (fun hn => hheap _ (by rw [← hB]; exact (h.own i ⟨hg, hn⟩).2.1) ?_)
        rintro ⟨i', j, l1, l2, l3⟩
        obtain ⟨m1, m2⟩ := hbnd i' j l1
        exact h.inj i j ⟨hg, hn⟩ l2 (fun e => hno i' m1 (by rw [m2, e])) l3
  · have hi' : ¬ (c.A i ∨ (id0 ≤ i ∧ i < id0 + quota)) := hi
    show ob2 i = .gone
    rw [hnone i (fun k hk he => hi' (by
      by_cases h1 : k < shI.nx
      · obtain ⟨j, _, _, l3, l4⟩ := hb k h1
        rw [← he, l3]; exact .inl l4
      · rw [← he]; exact .inr (hinr k (by omega) hk)))]
    exact h.unalloc i (fun e => hi' (.inl e))
  · rcases hcls i hi with ⟨k, k1, k2, k3, k4⟩ | ⟨k1, k2, k3⟩ <;> rcases hcls j hj with ⟨m, m1, m2, m3, m4⟩ | ⟨m1, m2, m3⟩
    · rw [k4, m4]
      exact h'.rel.inj k m k3 m3 (fun e => hij (by rw [← k2, ← m2, e]))
    · rw [k4, m3]
      rcases hwhere k k3 with e | ⟨i', j', l1, l2, l3⟩
      · have := (h.own j m2).2.1; omega
      · rw [l3]
        obtain ⟨q1, q2⟩ := hbnd i' j' l1
        exact h.inj j' j l2 m2 (fun e => m1 i' q1 (by rw [q2, e]))
    · rw [k3, m4]
      rcases hwhere m m3 with e | ⟨i', j', l1, l2, l3⟩
      · have := (h.own i k2).2.1; omega
      · rw [l3]
        obtain ⟨q1, q2⟩ := hbnd i' j' l1
        exact h.inj i j' k2 l2 (fun e => k1 i' q1 (by rw [q2, e]))
    · rw [k3, m3]; exact h.inj i j k2 m2 hij
  · rcases hcls i hi with ⟨k, k1, k2, k3, k4⟩ | ⟨k1, k2, k3⟩
    · rw [k4]
      obtain ⟨p1, p2, p3⟩ := h'.rel.own k k3
      refine ⟨?_, p2, ?_⟩
      · rintro (q | ⟨q, _⟩)
        · rcases hwhere k k3 with e | ⟨i', j', l1, l2, l3⟩
          · have := h.fz _ q; omega
          · rw [l3] at q; exact (h.own j' l2).1 q
        · exact p1 q
      · rcases hwhere k k3 with e | ⟨i', j', l1, l2, l3⟩
        · left
          have := h.grown
          show c.B ≤ _
          omega
        · rw [l3]; exact (h.own j' l2).2.2
    · rw [k3]
      obtain ⟨p1, p2, p3⟩ := h.own i k2
      refine ⟨?_, by omega, p3⟩
      rintro (q | ⟨_, q⟩)
      · exact p1 q
      · omega
  · rcases hb1 with q | ⟨q, _⟩
    · have := h.fz b q; omega
    · exact h'.rel.fz b q
  · have hb1 : b < c.B := hb1
    refine hheap b (by have := h.grown; omega) ?_
    rintro ⟨i, j, _, l2, rfl⟩
    rcases (h.own j l2).2.2 with e | e
    · omega
    · exact hio e
  · have hlt1 : b < c.B := hlt1
    rcases hb1 with q | ⟨_, q⟩
    · exact q
    · have := h.grown; omega
  · have hi : isMine (ob2 i) = true := hi
    have hgone : ob2 i ≠ .gone := by intro e; rw [e] at hi; cases hi
    rcases hcls i ⟨hgone, hnn⟩ with ⟨k, k1, rfl, k3, k4⟩ | ⟨k1, k2, k3⟩
    · rw [k4] at hnn ⊢
      rcases hpict k k1 with ⟨_, e⟩ | ⟨o, acc, d, hm, e1, e2⟩
      · exact absurd e hgone
      · rw [e2, mkO_mine, ← e1] at hi
        have := h'.rel.mine k hi hnn
        rw [hbase] at this
        have := h.grown
        show c.B ≤ _
        omega
    · rw [k3] at hnn ⊢
      rw [hnone i k1] at hi
      exact h.mine i hi hnn
  · exact mkS_ret hret shO.sl (holesB shO.ob []) z (fun _ => .dead) (fun _ => .dead) o1 k v (fun _ => .vdead) hv
  · refine mkS_up hret (fun b hb1 => ?_) shO.sl (holesB shO.ob []) z (fun _ => .dead) (fun _ => .dead) o1 k v (fun _ => .vdead) hv
    by_cases e : B' ≤ b
    · refine ⟨.inr ⟨hb1, e⟩, fun _ => ?_⟩
      have := h.grown
      show c.B ≤ b
      omega
    · obtain ⟨k1, k2⟩ := hup b hb1 (by omega)
      exact ⟨.inl k1, fun _ => k2 rfl⟩
end
end Go.Sx
