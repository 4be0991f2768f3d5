/- The symbolic executor's meaning: slice expressions, lengths, building. -/
import Derived.Test.YteghkndbngddgaaGreatSxL
set_option linter.unusedVariables false
namespace Go.Sx
open Go.RowKit
section
variable {c : Cx} {s : St} {w0 : World} {Jo : Io} {a : Act} {P : Program} {tf : Nat → Option Ty}
theorem bound_ok (h : RelC c s.n s.sl w0 Jo a) {d l : Int} {x : Option Operand} (hb : bound s d x = some l) : (x = none ∧ l = d) ∨ ∃ o k, x = some o ∧ a.eval o = .int k l := by
  unfold bound at hb
  cases x with
  | none => simp at hb; exact .inl ⟨rfl, hb.symm⟩
  | some o =>
    simp only at hb
    split at hb
    · rename_i nw k n e
      simp at hb; subst hb
      have := ev_rep h o
      rw [e] at this
      exact .inr ⟨o, _, rfl, this.int.1⟩
    · cases hb
theorem run_sliceBounds {w : World} (h : RelC c s.n s.sl w0 Jo a) {isS : Bool} {len cap : Nat} {lo hi : Option Operand} {l r : Int} (hl : bound s 0 lo = some l) (hr : bound s len hi = some r)
    (h0 : 0 ≤ l) (h1 : l ≤ r) (h2 : r ≤ len) (h3 : len ≤ cap) :
    (Instr.sliceBounds isS len cap (lo.map a.eval) (hi.map a.eval) none).run P w = .ok (l.toNat, r.toNat, cap) w := by
  have c1 : 0 ≤ r ∧ r ≤ (cap : Int) := by omega
  have c2 : 0 ≤ l ∧ l ≤ ((r.toNat : Nat) : Int) := by omega
  rcases bound_ok h hl with ⟨rfl, rfl⟩ | ⟨o, k, rfl, e⟩ <;> rcases bound_ok h hr with ⟨rfl, rfl⟩ | ⟨o', k', rfl, e'⟩
  · simp [Instr.sliceBounds]
  · simp [Instr.sliceBounds, Instr.sliceBound, asIntOf, e', c1]
  · have c3 : 0 ≤ l ∧ l ≤ (len : Int) := by omega
    simp [Instr.sliceBounds, Instr.sliceBound, asIntOf, e, c3]
  · have c3 : 0 ≤ l → ¬ (max r 0 < l) := by omega
    simp [Instr.sliceBounds, Instr.sliceBound, asIntOf, e, e', c1]
    intro q
    exact absurd (q h0) (c3 h0)
theorem chk3 {l r : Int} {n : Nat} (h : (decide (0 ≤ l) && decide (l ≤ r) && decide (r ≤ n)) = true) : 0 ≤ l ∧ l ≤ r ∧ r ≤ n := by
  simp at h; exact ⟨h.1.1, h.1.2, h.2⟩
theorem sliceS_ok (hE : ∀ t ty, tf t = some ty → TyOk P tf t ty) (h : RelC c s.n s.sl w0 Jo a) {t : Nat} {ty : Ty} (ht : tf t = some ty) {x r : SV} {v : Value} (hv : SRepV c x v) {lo hi : Option Operand}
    (hs : (sliceS c.ob s lo hi ty x).val = some r) : ∃ v', (Instr.sliceAt t v (lo.map a.eval) (hi.map a.eval) none).run P c.w = .ok v' c.w ∧ SRepV c r v' := by
  have key : ∀ {e : Ty} {b : Option Addr} {len cap : Nat} {l u : Int}, ty = .slice e → bound s 0 lo = some l → bound s len hi = some u → 0 ≤ l → l ≤ u → u ≤ len → len ≤ cap →
      (Instr.sliceAt t (.slice b len cap) (lo.map a.eval) (hi.map a.eval) none).run P c.w = .ok (.slice (if cap = l.toNat then b else b.map (·.add (l.toNat * e.size))) (u.toNat - l.toNat) (cap - l.toNat)) c.w := by
    intro e b len cap l u hty hl hu h0 h1 h2 h3
    subst hty
    obtain ⟨el, hun, hel⟩ := (hE _ _ ht).und_slice
    simp only [Instr.sliceAt, Sem.run_bind, run_underlying hun, Result.andThen_ok, Instr.slice, run_sliceBounds h hl hu h0 h1 h2 h3, (hE _ _ hel).run_sizeOf, Sem.run_pure]
  cases ty with
  | slice e =>
    cases x with
    | dat nw u xs =>
      cases u with
      | slice t' =>
        simp only [sliceS] at hs
        split at hs
        · rename_i l u e1 e2 e3
          obtain rfl := tyEq_eq e1
          obtain ⟨hc, hs⟩ := chk_some (p := .ret _) hs
          simp [PR.val] at hs; subst hs
          obtain ⟨h0, h1, h2⟩ := chk3 hc
          obtain ⟨cs, rfl, b, len, cap, rfl, hl, hm, hcap, hx⟩ := dat_inv hv
          subst hl
          refine ⟨_, key rfl e2 e3 h0 h1 h2 hcap, .one (t := .slice t') (cs := [_]) (.dat ⟨_, _, _, rfl, by simp; omega, by omega, by omega, ?_⟩)⟩
          by_cases hlt : l.toNat < u.toNat
          · right
            rcases hx with hx | ⟨bb, off, rfl, hb, hx⟩
            · subst hx; simp at h2; omega
            · refine ⟨bb, off + l.toNat * t'.size, by rw [if_neg (by omega)]; simp [add_at], hb, fun i hi' => ?_⟩
              simp at hi'
              obtain ⟨ds, k1, k2, k3⟩ := hx (l.toNat + i) (by omega)
              refine ⟨ds, k1, fun j hj => ?_, ?_⟩
              · rw [← k2 j hj, Nat.add_mul]; simp [Nat.add_assoc]
              · rw [getD_drop, getD_take _ _ _ _ (by omega)]; exact k3
          · left
            apply List.eq_nil_of_length_eq_zero
            simp; omega
        · cases hs
      | _ => simp [sliceS, PR.val] at hs
    | own t' id =>
      simp only [sliceS] at hs
      split at hs
      · rename_i nw u' xs e1 e2
        split at hs
        · rename_i l u e3 e4 e5
          obtain rfl := tyEq_eq e2
          obtain rfl := tyEq_eq e3
          obtain ⟨hc, hs⟩ := chk_some (p := .ret _) hs
          simp [PR.val] at hs; subst hs
          obtain ⟨h0, h1, h2⟩ := chk3 hc
          cases hv with
          | one hv =>
            cases hv with
            | ownGone _ hg => rw [hg] at e1; cases e1
            | own hA hg =>
              rw [e1] at hg; cases hg
              have hok := h.objs id
              rw [e1] at hok
              obtain ⟨k0, ⟨k1, k2, k3⟩ | ⟨k1, k2, _⟩⟩ := hok
              · subst k3
                have h2' : u = 0 := by simp at h2; omega
                have hl' : l = 0 := by omega
                subst h2'; subst hl'
                have := key (b := none) (len := 0) (cap := 0) rfl e4 e5 h0 h1 h2 (by simp)
                refine ⟨_, by simpa [pack, Ty.isAgg, hdr, k1] using this, ?_⟩
                have h9 := SRep.sub (c := c) (t := u') (a := none) (lo := 0) (hi := 0) hA e1 (by simp) (by simp) (by simp [subAddr, k1])
                rw [k2] at h9
                exact .one h9
              · have := key (b := some ⟨(c.β id).blk, (c.β id).off, none⟩) (len := xs.length) (cap := (c.β id).cap) rfl e4 e5 h0 h1 h2 k2
                refine ⟨_, by simpa [pack, Ty.isAgg, hdr, k1] using this, ?_⟩
                refine .one (t := .slice u') (cs := [_]) (.sub hA e1 (by omega) (by omega) ?_)
                simp only [subAddr, k1]
                split
                · simp
                · simp [add_at]
        · cases hs
      · cases hs
    | _ => simp [sliceS, PR.val] at hs
  | arr n e =>
    cases x with
    | ref id p =>
      simp only [sliceS] at hs
      split at hs
      · rename_i bt bs e1 e2 e3
        split at hs
        · rename_i l u e4 e5
          obtain ⟨hc, hs⟩ := chk_some (p := .ret _) hs
          simp [PR.val] at hs; subst hs
          obtain ⟨h0, h1, h2⟩ := chk3 hc
          obtain ⟨o, rfl, hA, ha⟩ := ref_inv hv (isTy_eq e1)
          rcases ha with ⟨t2, s2, k1, k2, k3⟩ | ⟨i, q, nw, t2, xs, o', _, k1, _⟩
          · rw [e2] at k1; cases k1
            obtain ⟨el, hun, hel⟩ := (hE _ _ ht).und_arr
            refine ⟨_, ?_, .one (t := .slice e) (cs := [_]) (.vw (a := if n = l.toNat then some ⟨(c.β id).blk, o, none⟩ else some (Addr.add ⟨(c.β id).blk, o, none⟩ (l.toNat * e.size))) hA e2 k2 k3 (by omega) (by omega) (Nat.le_of_ble_eq_true e3) (fun hlt => ?_))⟩
            · simp only [Instr.sliceAt, Sem.run_bind, run_underlying hun, Result.andThen_ok, Instr.sureAddr, Sem.run_pure, run_sliceBounds h e4 e5 h0 h1 h2 (Nat.le_refl n), (hE _ _ hel).run_sizeOf]
              simp only [pack, Ty.isAgg, List.headD_cons]
              congr 3
              split <;> rfl
            · rw [if_neg (by omega), add_at]
          · rw [e2] at k1; cases k1
        · cases hs
      · cases hs
    | _ => simp [sliceS, PR.val] at hs
  | _ => simp [sliceS, PR.val] at hs
theorem sliceX_ok (hE : ∀ t ty, tf t = some ty → TyOk P tf t ty) (h : RelC c s.n s.sl w0 Jo a) {t : Nat} {ty : Ty} (ht : tf t = some ty) {x r : SV} {v : Value} (hv : SRepV c x v) {lo hi : Option Operand}
    (hs : (sliceX c.ob s lo hi ty x).val = some r) : ∃ v', (Instr.sliceAt t v (lo.map a.eval) (hi.map a.eval) none).run P c.w = .ok v' c.w ∧ SRepV c r v' := by
  unfold sliceX at hs
  split at hs
  · rename_i hx
    cases x with
    | nils =>
      split at hs
      · rename_i e
        split at hs
        · rename_i l u e4 e5
          obtain ⟨hc, hs⟩ := chk_some (p := .ret _) hs
          simp [PR.val] at hs; subst hs
          obtain ⟨h0, h1, h2⟩ := chk3 (n := 0) hc
          have h2' : u = 0 := by
            have h3 : u ≤ 0 := h2
            omega
          have hl' : l = 0 := by omega
          subst h2'; subst hl'
          have hvv : v = .slice none 0 0 := by
            cases hv with
            | one hv => cases hv; rfl
          subst hvv
          obtain ⟨el, hun, hel⟩ := (hE _ _ ht).und_slice
          refine ⟨.slice none 0 0, ?_, .one (t := .slice e) .nils⟩
          simp only [Instr.sliceAt, Sem.run_bind, run_underlying hun, Result.andThen_ok, Instr.slice, run_sliceBounds h e4 e5 h0 h1 h2 (Nat.le_refl 0), (hE _ _ hel).run_sizeOf, Sem.run_pure]
          simp
        · cases hs
      · cases hs
    | _ => cases hx
  · exact sliceS_ok hE h ht hv hs
theorem len_range {n : Nat} (h : n ≤ maxLen) : IntKind.i64.min ≤ (n : Int) ∧ (n : Int) ≤ IntKind.i64.max := by
  have : maxLen = 9223372036854775807 := by decide
  simp only [IntKind.min, IntKind.max, IntKind.bits, IntKind.signed]
  simp
  omega
theorem lenS_ok (hE : ∀ t ty, tf t = some ty → TyOk P tf t ty) (hob : ∀ id, OK c id (c.ob id)) {t : Nat} {ty : Ty} (ht : tf t = some ty) {x r : SV} {v : Value} (hv : SRepV c x v)
    {rt : TypeId} (hf : fits x ty = true) (h : (lenS c.ob x).val = some r) : ∃ v', (Builtin.len_ #[t] rt #[v]).run P c.w = .ok v' c.w ∧ SRepV c r v' := by
  have key : ∀ {e : Ty} {b : Option Addr} {n cap : Nat}, ty = .slice e → (Builtin.len_ #[t] rt #[.slice b n cap]).run P c.w = .ok (.int .i64 n) c.w := by
    intro e b n cap hty
    subst hty
    obtain ⟨el, hun, hel⟩ := (hE _ _ ht).und_slice
    simp [Builtin.len_, run_underlying hun, goInt]
  cases x with
  | dat nw u xs =>
    obtain rfl : u = ty := tyEq_eq (by simpa [fits] using hf)
    cases u with
    | slice e =>
      simp [lenS, PR.val] at h; subst h
      obtain ⟨cs, rfl, b, len, cap, rfl, hl, hm, _⟩ := dat_inv hv
      refine ⟨_, key rfl, ?_⟩
      subst hl
      exact .mkInt (len_range hm)
    | str =>
      simp [lenS, PR.val] at h; subst h
      obtain ⟨cs, rfl, rfl, hm⟩ := dat_inv hv
      obtain ⟨d, hu, hb⟩ := (hE _ _ ht).und
      cases d <;> simp [descB] at hb
      refine ⟨.int .i64 xs.size, ?_, .mkInt (len_range hm)⟩
      simp [Builtin.len_, run_underlying hu, goInt, pack, Ty.isAgg]
    | _ => simp [lenS, PR.val] at h
  | nils =>
    simp [lenS, PR.val] at h; subst h
    cases ty <;> simp [fits] at hf
    cases hv with
    | one hv => cases hv with
      | nils => exact ⟨_, key rfl, .mkInt (by decide)⟩
  | own t' id =>
    simp only [lenS] at h
    split at h
    · rename_i nw u xs e
      simp [PR.val] at h; subst h
      cases ty <;> simp [fits] at hf
      have hok := hob id
      rw [e] at hok
      cases hv with
      | one hv => cases hv with
        | ownGone _ hg => rw [hg] at e; cases e
        | own hA hg =>
          rw [e] at hg; cases hg
          obtain ⟨k0, ⟨k1, k2, k3⟩ | ⟨k1, k2, _⟩⟩ := hok
          · subst k3
            have := key (b := none) (n := 0) (cap := 0) rfl
            exact ⟨_, by simpa [pack, Ty.isAgg, hdr, k1] using this, .mkInt (len_range (n := 0) (by simp))⟩
          · rename_i zs _
            have := key (b := some ⟨(c.β id).blk, (c.β id).off, none⟩) (n := zs.length) (cap := (c.β id).cap) rfl
            exact ⟨_, by simpa [pack, Ty.isAgg, hdr, k1] using this, .mkInt (len_range k0)⟩
    · cases h
  | sub t' id lo hi =>
    simp only [lenS] at h
    split at h
    · rename_i nw u xs e
      simp [PR.val] at h; subst h
      cases ty <;> simp [fits] at hf
      have hok := hob id
      rw [e] at hok
      cases hv with
      | one hv => cases hv with
        | subGone _ hg => rw [hg] at e; cases e
        | sub hA hg l1 l2 _ =>
          rw [e] at hg; cases hg
          refine ⟨_, key rfl, ?_⟩
          have := hok.1
          rw [show ((hi : Int) - lo) = ((hi - lo : Nat) : Int) by omega]
          exact .mkInt (len_range (by omega))
    · cases h
  | vw t' id p n lo hi =>
    simp only [lenS] at h
    split at h
    · rename_i bt bs e
      simp [PR.val] at h; subst h
      cases ty <;> simp [fits] at hf
      cases hv with
      | one hv => cases hv with
        | vwGone _ hg => rw [hg] at e; cases e
        | vw hA hg hp ho l1 l2 hl _ =>
          refine ⟨_, key rfl, ?_⟩
          have : lim ≤ maxLen := by decide
          rw [show ((hi : Int) - lo) = ((hi - lo : Nat) : Int) by omega]
          exact .mkInt (len_range (by omega))
    · cases h
  | _ => simp [lenS, PR.val] at h
theorem castV_self : ∀ {t : Ty} {v : Val t} {x : Val t}, castV t t v = some x → x = v := by
  intro t v x h
  obtain ⟨e, he⟩ := castV_eq h
  exact he
theorem tyEq_refl : ∀ t : Ty, tyEq t t = true := by
  intro t
  induction t with
  | int k => cases k <;> rfl
  | cell k => cases k <;> rfl
  | arr n t ih => simp [tyEq, ih]
  | _ => simp_all [tyEq]
theorem castV_id (t : Ty) (v : Val t) : castV t t v = some v := by
  unfold castV
  split
  · rfl
  · rename_i h; rw [tyEq_refl] at h; cases h
theorem zero_rep {w : World} {F : Nat → Prop} : ∀ {t : Ty}, t.pure = true → Rep w F t (dflt t) (zcells t) := by
  intro t
  induction t with
  | int k => intro _; exact ⟨rfl, by cases k <;> decide⟩
  | bool => intro _; rfl
  | str => intro _; exact ⟨rfl, by simp [dflt]⟩
  | slice t _ => intro _; exact ⟨none, 0, 0, rfl, rfl, by simp, by simp, .inl rfl⟩
  | unit => intro _; rfl
  | pair a b iha ihb =>
    intro h
    simp [Ty.pure] at h
    have h1 := iha h.1
    refine ⟨?_, ?_⟩
    · simp only [zcells, ← h1.len, List.take_left]; exact h1
    · simp only [zcells, ← h1.len, List.drop_left]; exact ihb h.2
  | arr n t ih =>
    intro h
    have h1 := ih h
    have hl : ∀ n, (repl n (zcells t)).length = n * t.size := by
      intro n
      induction n with
      | zero => simp [repl]
      | succ n ihn => simp [repl, ihn, h1.len, Nat.succ_mul]; omega
    refine ⟨by simp [dflt], hl n, fun i hi => ?_⟩
    have h2 : (List.replicate n (dflt t)).getD i (dflt t) = dflt t := by simp [List.getD, hi]
    have h3 : ∀ n i, i < n → ((repl n (zcells t)).drop (i * t.size)).take t.size = zcells t := by
      intro n
      induction n with
      | zero => intro i hi; omega
      | succ n ihn =>
        intro i hi
        cases i with
        | zero => simp [repl, ← h1.len]
        | succ i =>
          have := ihn i (by omega)
          simp only [repl]
          rw [Nat.succ_mul, Nat.add_comm, ← List.drop_drop, ← h1.len, List.drop_left, h1.len]
          exact this
    show Rep w F t ((List.replicate n (dflt t)).getD i (dflt t)) _
    have h3 := h3 n i hi
    rw [h2]
    show Rep w F t (dflt t) (((repl n (zcells t)).drop (i * t.size)).take t.size)
    rw [h3]; exact h1
  | cell k => intro h; cases h
end
end Go.Sx
