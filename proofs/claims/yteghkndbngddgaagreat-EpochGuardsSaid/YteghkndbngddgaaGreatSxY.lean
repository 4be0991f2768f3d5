/- The symbolic executor's meaning: code. -/
import Derived.Test.YteghkndbngddgaaGreatSxX
import Derived.Scope
set_option linter.unusedVariables false
namespace Go.Sx
open Go.RowKit
def exOf : Ex → Exit
  | .normal => .normal
  | .exit id => .exit id
  | .ret => .ret
def SumOk (P : Program) (w0 : World) (Jo : Io) (f : Sum) (code : Code) : Prop :=
  ∀ (c : Cx) (s : St) (a : Act), RelS c s w0 Jo a → ∀ (R : Type) (r : R) (k : Ex → St → Option R), (f s).run (fun x => k x.1 x.2) = some r → ∀ (Q : Exit → Act → World → Prop), (∀ e s' a' c', RelS c' s' w0 Jo a' → k e s' = some r → Q (exOf e) a' c'.w) → code.wp P Q a c.w
def LoopsOk (P : Program) (w0 : World) (Jo : Io) (H : Nat → Option Sum) (code : Code) : Prop :=
  ∀ cl ∈ loopsOf code, ∀ n f, rid cl = some n → H n = some f → SumOk P w0 Jo f (.loop cl)
section
variable {w0 : World} {Jo : Io} {P : Program} {E : Env} {H : Nat → Option Sum}
theorem exec_ok {R : Type} (hE : EnvOk P E) (hM : P.follows .mixedOrders = true) {r : R} : ∀ (code : Code) (c : Cx) (s : St) (a : Act) (k : Ex → St → Option R) (Q : Exit → Act → World → Prop), LoopsOk P w0 Jo H code → RelS c s w0 Jo a →
    exec E H code s k = some r → (∀ e s' a' c', RelS c' s' w0 Jo a' → k e s' = some r → Q (exOf e) a' c'.w) → code.wp P Q a c.w := by
  intro code
  induction code with
  | skip =>
    intro c s a k Q hL h hx hk
    exact wp_skip (hk .normal s a c h hx)
  | region id ops draw =>
    intro c s a k Q hL h hx hk
    cases draw with
    | false =>
      simp only [exec] at hx
      refine wp_region ?_
      have := stepsT_ok (Q := Q) hE (ops := ops) (nx := s.nx) ops.toList 0 s c a _ (fun j => by simp) (by simp) h.rel h.ob (fun j hj => h.fresh j (by omega)) hx
        (fun a' c' s' k1 k2 k3 k4 => hk .normal { s' with nx := s.nx + ops.size * quota } a' c' ⟨k1, k2, k3⟩ k4)
      rw [List.range_eq_range']
      simpa using this
    | true =>
      simp only [exec] at hx
      split at hx
      · rename_i hc
        simp only [Bool.and_eq_true] at hc
        obtain ⟨us, Vs, h1, h2, h2', _, h3⟩ := stepsD_some ops.toList 0 [] s _ rfl hx
        have hT : Trace E ops.toList (masksOf ops.toList []) s.nx s us Vs := ⟨h1, fun j o u ho hu => by have := h2 j o u ho hu; simpa using this, fun j u hu p hp k hk hkl hs => by have := h2' j u hu p hp k hk hkl (by simpa using hs); simpa using this⟩
        have hd : ∀ j o, ops[j]? = some o → ∀ i, bitOf ((masksOf ops.toList []).getD j 0) i = true → ∃ e ∈ o.after, Region.binds .any e = true ∧ (i = e.on ∨ bitOf ((masksOf ops.toList []).getD e.on 0) i = true) := by
          intro j o ho i hi
          have hj : j < ops.size := (Array.getElem?_eq_some_iff.1 ho).1
          have he := rangeAll_spec hc.2 j hj
          rw [Array.getElem?_toList, ho] at he
          simp only [List.all_eq_true] at he
          have hg := masksOf_get ops.toList [] j o (by simpa using ho) (fun e h hb => by
            have := he e h
            rw [hb, cond_true] at this
            have : e.on < j := by simpa using this
            simpa using this)
          simp only [List.length_nil, Nat.zero_add] at hg
          rw [hg] at hi
          rcases maskOf_bit _ _ _ _ hi with e | ⟨e, e1, e2, e3⟩
          · rw [bit_zero] at e; cases e
          · exact ⟨e, by simpa using e1, e2, e3⟩
        have hb : ∀ j i, bitOf ((masksOf ops.toList []).getD j 0) i = true → i < j := by
          intro j
          induction j using Nat.strongRecOn with
          | _ j ih =>
            intro i hi
            by_cases hj : j < ops.size
            · obtain ⟨e, he, hbn, h4⟩ := hd j ops[j] (Array.getElem?_eq_getElem hj) i hi
              have h5 := rangeAll_spec hc.2 j hj
              rw [Array.getElem?_toList, Array.getElem?_eq_getElem hj] at h5
              simp only [List.all_eq_true] at h5
              have h6 := h5 e (by simpa using he)
              rw [hbn, cond_true] at h6
              have h7 : e.on < j := by simpa using h6
              rcases h4 with h4 | h4
              · omega
              · have := ih e.on h7 i h4
                omega
            · rw [List.getD, List.getElem?_eq_none (by rw [masksOf_len]; simp; omega)] at hi
              simp [bit_zero] at hi
        refine wp_region_any hM ?_
        have hdr := h.rel.drew
        have hsel : stOf (fun i => (Array.replicate ops.size false).getD i false) us s = s := by
          have h4 := stOf_lt 0 us s
          simp only [List.take_zero, List.foldl_nil] at h4
          rw [← h4]
          congr 1
          funext i
          rw [Array.getD_eq_getD_getElem?, Array.getElem?_replicate]
          split <;> simp
        have hfalse : ∀ i, (Array.replicate ops.size false).getD i false = false := by
          intro i
          rw [Array.getD_eq_getD_getElem?, Array.getElem?_replicate]
          split <;> rfl
        have hfo := foldl_apply us s
        refine draw_ok (Q := Q) (w0 := w0) (Jo := Jo) hE hT hc.1 hc.2 hb hd (fun a' c' k1 k2 k3 => ?_) ops.size (Array.replicate ops.size false) { c with w := c.w.drew } a (by simp) (fun j hj => by simp only [hfalse] at hj; cases hj) ?_ ?_ ?_ ?_
        · refine hk .normal { us.foldl St.apply s with nx := s.nx + ops.size * quota } a' c' ⟨?_, k2, k3⟩ h3
          have : (us.foldl St.apply s).n = s.n := by rw [hfo]
          show RelC c' (us.foldl St.apply s).n _ _ _ _
          rw [this]; exact k1
        · refine Nat.le_trans List.countP_le_length ?_
          simp
        · rw [hsel]; exact hdr
        · rw [hsel]; exact h.ob
        · intro id hid
          by_cases e : id < s.nx
          · exact .inl e
          · exact absurd hid (h.fresh id (by omega))
      · cases hx
  | seq x y ihx ihy =>
    intro c s a k Q hL h hx hk
    refine wp_seq (ihx c s a _ _ (fun cl hcl => hL cl (by simp [loopsOf, hcl])) h hx fun e s' a' c' hr hx' => ?_)
    cases e with
    | normal => exact ihy c' s' a' k Q (fun cl hcl => hL cl (by simp [loopsOf, hcl])) hr hx' hk
    | exit id => exact hk (.exit id) s' a' c' hr hx'
    | ret => exact hk .ret s' a' c' hr hx'
  | cond cc x y ihx ihy =>
    intro c s a k Q hL h hx hk
    simp only [exec] at hx
    split at hx
    · rename_i nw t hc
      have hv := ev_rep h.rel cc
      rw [hc] at hv
      refine wp_cond_split hv.bool (fun ht => ?_) (fun ht => ?_)
      · subst ht
        exact ihx c s a k Q (fun cl hcl => hL cl (by simp [loopsOf, hcl])) h hx hk
      · subst ht
        exact ihy c s a k Q (fun cl hcl => hL cl (by simp [loopsOf, hcl])) h hx hk
    · cases hx
  | block id x ih =>
    intro c s a k Q hL h hx hk
    simp only [exec] at hx
    refine wp_block (ih c s a _ _ (fun cl hcl => hL cl (by simpa [loopsOf] using hcl)) h hx fun e s' a' c' hr hx' => ?_)
    cases e with
    | normal => exact hk .normal s' a' c' hr hx'
    | ret => exact hk .ret s' a' c' hr hx'
    | exit j =>
      simp only at hx'
      show Exit.inBlock id Q (.exit j) a' c'.w
      simp only [Exit.inBlock]
      by_cases e : j = id
      · subst e
        rw [if_pos rfl]
        rw [show Nat.beq j j = true by simp, cond_true] at hx'
        exact hk .normal s' a' c' hr hx'
      · rw [if_neg e]
        rw [show Nat.beq j id = false by rw [Bool.eq_false_iff]; intro h; exact e (Nat.eq_of_beq_eq_true h), cond_false] at hx'
        exact hk (.exit j) s' a' c' hr hx'
  | loop x ih =>
    intro c s a k Q hL h hx hk
    simp only [exec] at hx
    split at hx
    · rename_i n hn
      split at hx
      · rename_i f hf
        exact hL x (by simp [loopsOf]) n f hn hf c s a h R r k hx Q hk
      · cases hx
    · cases hx
  | exit id =>
    intro c s a k Q hL h hx hk
    exact wp_exit (hk (.exit id) s a c h hx)
  | ret =>
    intro c s a k Q hL h hx hk
    exact wp_ret (hk .ret s a c h hx)
  | scope x ih =>
    intro c s a k Q hL h hx hk
    simp only [exec] at hx
    exact wp_scope_straight (ih c s a k _ (fun cl hcl => hL cl (by simpa [loopsOf] using hcl)) h hx fun e s' a' c' hr hx' => by
      have := hk e s' a' c' hr hx'
      cases e <;> exact this)
  | _ => intro c s a k Q hL h hx hk; cases hx
end
end Go.Sx
