/- The symbolic executor's meaning: addresses, indexes, slices, loads. -/
import Derived.Test.YteghkndbngddgaaGreatSxK
set_option linter.unusedVariables false
namespace Go.Sx
open Go.RowKit
theorem offT_fld : ∀ {p : List PS} {t u z : Ty} {o q f : Nat}, offT t p = some (o, u) → fldT u f = some (q, z) → offT t (p ++ [.fld f]) = some (o + q, z)
  | [], t, u, z, o, q, f, h, hf => by
    simp [offT] at h
    obtain ⟨rfl, rfl⟩ := h
    simp [offT, hf]
  | .fld i :: p, t, u, z, o, q, f, h, hf => by
    simp only [offT] at h
    simp only [List.cons_append, offT]
    split at h
    · split at h
      · rename_i e
        simp at h
        obtain ⟨rfl, rfl⟩ := h
        simp [offT_fld e hf, Nat.add_assoc]
      · cases h
    · cases h
  | .idx i :: p, t, u, z, o, q, f, h, hf => by
    cases t <;> (try simp only [offT] at h) <;> try (cases h; done)
    simp only [List.cons_append, offT]
    split at h
    · rename_i e
      simp at h
      obtain ⟨rfl, rfl⟩ := h
      simp [offT_fld e hf, Nat.add_assoc]
    · cases h
theorem pathOk_fld : ∀ {p : List PS} {t u : Ty} {o f : Nat} {x : Nat × Ty}, offT t p = some (o, u) → PathOk t p → fldT u f = some x → PathOk t (p ++ [.fld f])
  | [], t, u, o, f, x, h, _, hf => by
    simp [offT] at h
    obtain ⟨rfl, rfl⟩ := h
    simp [PathOk, hf]
  | .fld i :: p, t, u, o, f, x, h, hp, hf => by
    simp only [offT] at h
    simp only [PathOk] at hp
    simp only [List.cons_append, PathOk]
    split at h
    · rename_i e0
      rw [e0] at hp
      simp only at hp
      split at h
      · rename_i e
        simp at h
        obtain ⟨rfl, rfl⟩ := h
        simp only [e0]
        exact pathOk_fld e hp hf
      · cases h
    · cases h
  | .idx i :: p, t, u, o, f, x, h, hp, hf => by
    cases t <;> (try simp only [offT] at h) <;> try (cases h; done)
    simp only [List.cons_append, PathOk]
    split at h
    · rename_i e
      simp at h
      obtain ⟨rfl, rfl⟩ := h
      exact ⟨hp.1, pathOk_fld e hp.2 hf⟩
    · cases h
theorem offT_idx : ∀ {p : List PS} {t e : Ty} {o n i : Nat}, offT t p = some (o, .arr n e) → offT t (p ++ [.idx i]) = some (o + i * e.size, e)
  | [], t, e, o, n, i, h => by
    simp [offT] at h
    obtain ⟨rfl, rfl⟩ := h
    simp [offT]
  | .fld k :: p, t, e, o, n, i, h => by
    simp only [offT] at h
    simp only [List.cons_append, offT]
    split at h
    · split at h
      · rename_i e
        simp at h
        obtain ⟨rfl, rfl⟩ := h
        simp [offT_idx e, Nat.add_assoc]
      · cases h
    · cases h
  | .idx k :: p, t, e, o, n, i, h => by
    cases t <;> (try simp only [offT] at h) <;> try (cases h; done)
    simp only [List.cons_append, offT]
    split at h
    · rename_i e
      simp at h
      obtain ⟨rfl, rfl⟩ := h
      simp [offT_idx e, Nat.add_assoc]
    · cases h
theorem pathOk_idx : ∀ {p : List PS} {t e : Ty} {o n i : Nat}, offT t p = some (o, .arr n e) → PathOk t p → i < n → PathOk t (p ++ [.idx i])
  | [], t, e, o, n, i, h, _, hi => by
    simp [offT] at h
    obtain ⟨rfl, rfl⟩ := h
    exact ⟨hi, trivial⟩
  | .fld k :: p, t, e, o, n, i, h, hp, hi => by
    simp only [offT] at h
    simp only [PathOk] at hp
    simp only [List.cons_append, PathOk]
    split at h
    · rename_i e0
      rw [e0] at hp
      simp only at hp
      split at h
      · rename_i e
        simp at h
        obtain ⟨rfl, rfl⟩ := h
        simp only [e0]
        exact pathOk_idx e hp hi
      · cases h
    · cases h
  | .idx k :: p, t, e, o, n, i, h, hp, hi => by
    cases t <;> (try simp only [offT] at h) <;> try (cases h; done)
    simp only [List.cons_append, PathOk]
    split at h
    · rename_i e
      simp at h
      obtain ⟨rfl, rfl⟩ := h
      exact ⟨hp.1, pathOk_idx e hp.2 hi⟩
    · cases h
section
variable {c : Cx} {s : St} {w0 : World} {Jo : Io} {a : Act} {P : Program} {tf : Nat → Option Ty}
def AddrAt (c : Cx) (id : Nat) (p : List PS) (u : Ty) (o : Nat) : Prop := c.A id ∧
  ((∃ t s, c.ob id = .box t s ∧ PathOk t p ∧ offT t p = some (o, u)) ∨
   (∃ i q nw t xs o', p = .idx i :: q ∧ c.ob id = .slc nw t xs ∧ i < xs.length ∧ PathOk t q ∧ offT t q = some (o', u) ∧ o = (c.β id).off + i * t.size + o'))
theorem AddrAt.rep {id : Nat} {p : List PS} {u : Ty} {o : Nat} (h : AddrAt c id p u o) : SRepV c (.ref id p) (.pointer (some ⟨(c.β id).blk, o, none⟩)) := by
  obtain ⟨hA, ⟨t, s, h1, h2, h3⟩ | ⟨i, q, nw, t, xs, o', rfl, h1, h2, h3, h4, rfl⟩⟩ := h
  · exact .one (t := .cell .ptr) (cs := [_]) (.refBox hA h1 h2 h3)
  · exact .one (t := .cell .ptr) (cs := [_]) (.refSlc hA h1 h2 h3 h4)
theorem isTy_eq {x : Option Ty} {t : Ty} (h : isTy x t = true) : x = some t := by
  unfold isTy at h
  split at h
  · rw [tyEq_eq h]
  · cases h
theorem ref_inv {id : Nat} {p : List PS} {v : Value} {u : Ty} (h : SRepV c (.ref id p) v) (ht : tyAt c.ob id p = some u) :
    ∃ o, v = .pointer (some ⟨(c.β id).blk, o, none⟩) ∧ AddrAt c id p u o := by
  cases h with
  | one h =>
    unfold tyAt at ht
    cases h with
    | refGone hA hg hx => rw [hg] at ht; cases ht
    | refBox hA hg hp ho =>
      rw [hg] at ht
      simp only [ho, Option.some.injEq] at ht
      subst ht
      exact ⟨_, rfl, hA, .inl ⟨_, _, hg, hp, ho⟩⟩
    | refSlc hA hg hi hp ho =>
      rw [hg] at ht
      simp only [ho, Option.some.injEq] at ht
      subst ht
      exact ⟨_, rfl, hA, .inr ⟨_, _, _, _, _, _, rfl, hg, hi, hp, ho, rfl⟩⟩
theorem AddrAt.fld {id : Nat} {p : List PS} {u z : Ty} {o f q : Nat} (h : AddrAt c id p u o) (hf : fldT u f = some (q, z)) : AddrAt c id (p ++ [.fld f]) z (o + q) := by
  obtain ⟨hA, ⟨t, s, h1, h2, h3⟩ | ⟨i, r, nw, t, xs, o', rfl, h1, h2, h3, h4, rfl⟩⟩ := h
  · exact ⟨hA, .inl ⟨t, s, h1, pathOk_fld h3 h2 hf, offT_fld h3 hf⟩⟩
  · exact ⟨hA, .inr ⟨i, r ++ [.fld f], nw, t, xs, o' + q, rfl, h1, h2, pathOk_fld h4 h3 hf, offT_fld h4 hf, by omega⟩⟩
theorem AddrAt.idx {id : Nat} {p : List PS} {e : Ty} {o n i : Nat} (h : AddrAt c id p (.arr n e) o) (hi : i < n) : AddrAt c id (p ++ [.idx i]) e (o + i * e.size) := by
  obtain ⟨hA, ⟨t, s, h1, h2, h3⟩ | ⟨k, r, nw, t, xs, o', rfl, h1, h2, h3, h4, rfl⟩⟩ := h
  · exact ⟨hA, .inl ⟨t, s, h1, pathOk_idx h3 h2 hi, offT_idx h3⟩⟩
  · exact ⟨hA, .inr ⟨k, r ++ [.idx i], nw, t, xs, o' + i * e.size, rfl, h1, h2, pathOk_idx h4 h3 hi, offT_idx h4, by omega⟩⟩
theorem at_inv {nw : Bool} {t : Ty} {x : Val t} {v : Value} (h : SRepV c (.at nw t x) v) :
    ∃ b off ds, v = .pointer (some ⟨b, off, none⟩) ∧ c.Fn nw b ∧ ds.length = t.size ∧ (∀ j, j < t.size → c.w.cell? ⟨b, off + j, none⟩ = ds[j]?) ∧ Rep c.w (c.Fn nw) t x ds := by
  cases h with
  | one h =>
    cases h with
    | «at» h1 h2 h3 h4 => exact ⟨_, _, _, rfl, h1, h2, h3, h4⟩
theorem at_part {nw : Bool} {t u : Ty} {x : Val t} {y : Val u} {b off o : Nat} {ds : List Value} (hb : c.Fn nw b) (hl : ds.length = t.size) (hc : ∀ j, j < t.size → c.w.cell? ⟨b, off + j, none⟩ = ds[j]?)
    (ho : o + u.size ≤ t.size) (hr : Rep c.w (c.Fn nw) u y ((ds.drop o).take u.size)) : SRepV c (.at nw u y) (.pointer (some ⟨b, off + o, none⟩)) := by
  refine .one (t := .cell .ptr) (cs := [_]) (.at hb hr.len (fun j hj => ?_) hr)
  rw [chunk_get, if_pos hj, ← hc (o + j) (by omega), Nat.add_assoc]
theorem fieldS_ok (hE : ∀ t ty, tf t = some ty → TyOk P tf t ty) {t f : Nat} {ty : Ty} (ht : tf t = some ty) {x r : SV} {v : Value} (hv : SRepV c x v) (h : (fieldS c.ob ty f x).val = some r) :
    ∃ v', (Instr.fieldAt t v f).run P c.w = .ok v' c.w ∧ SRepV c r v' := by
  have key : ∀ {b off o : Nat} {z : Ty}, fldT ty f = some (o, z) → z.size ≠ 0 → (Instr.fieldAt t (.pointer (some ⟨b, off, none⟩)) f).run P c.w = .ok (.pointer (some ⟨b, off + o, none⟩)) c.w := by
    intro b off o z hf hz
    obtain ⟨a', b', rfl⟩ : ∃ a b, ty = .pair a b := by
      cases ty with
      | pair a b => exact ⟨_, _, rfl⟩
      | _ => simp [fldT] at hf
    obtain ⟨fs, hu, hb⟩ := (hE _ _ ht).und_pair
    obtain ⟨g, hg, ho, htf⟩ := fldsB_get hb hf
    simp only [Array.getElem?_toList] at hg
    simp only [Instr.fieldAt, Sem.run_bind, run_underlying hu, Result.andThen_ok, hg, Instr.sureAddr, Sem.run_pure, fieldPlace, (hE _ _ htf).run_sizeOf]
    simp only [hz, if_false, Sem.run_pure, Result.andThen_ok, add_at, ho, Nat.zero_add]
  cases x with
  | ref id p =>
    simp only [fieldS] at h
    split at h
    · rename_i o u e1 e2
      split at h
      · cases h
      · rename_i n hn
        simp [PR.val] at h; subst h
        obtain ⟨oo, rfl, ha⟩ := ref_inv hv (isTy_eq e1)
        exact ⟨_, key e2 (by omega), (ha.fld e2).rep⟩
    · cases h
  | «at» nw u y =>
    simp only [fieldS] at h
    split at h
    · rename_i z w' e1 e2
      have e1 := tyEq_eq e1
      subst e1
      split at h
      · cases h
      · rename_i n hn
        simp [PR.val] at h; subst h
        obtain ⟨b, off, ds, rfl, h1, h2, h3, h4⟩ := at_inv hv
        obtain ⟨o, ho, hr⟩ := h4.fld e2
        exact ⟨_, key ho (by omega), at_part (x := y) h1 h2 h3 (fldT_le ho) hr⟩
    · cases h
  | _ => simp [fieldS, PR.val] at h
theorem inR_iff {i : Int} {n : Nat} (h : inR i n = true) : 0 ≤ i ∧ i < n ∧ i.toNat < n := by
  simp [inR] at h; omega
theorem run_indexAt_slice (hE : ∀ t ty, tf t = some ty → TyOk P tf t ty) {t : Nat} {e : Ty} (ht : tf t = some (.slice e)) {b off len cap : Nat} {k : IntKind} {i : Int} (h0 : 0 ≤ i) (h1 : i < len) {w : World} :
    (Instr.indexAt t (.slice (some ⟨b, off, none⟩) len cap) (.int k i)).run P w = .ok (.pointer (some ⟨b, off + i.toNat * e.size, none⟩)) w := by
  obtain ⟨el, hu, hel⟩ := (hE _ _ ht).und_slice
  simp [Instr.indexAt, asIntOf, run_underlying hu, (hE _ _ hel).run_sizeOf, h0, h1, add_at]
theorem run_indexAt_arr (hE : ∀ t ty, tf t = some ty → TyOk P tf t ty) {t n : Nat} {e : Ty} (ht : tf t = some (.arr n e)) {b off : Nat} {k : IntKind} {i : Int} (h0 : 0 ≤ i) (h1 : i < n) {w : World} :
    (Instr.indexAt t (.pointer (some ⟨b, off, none⟩)) (.int k i)).run P w = .ok (.pointer (some ⟨b, off + i.toNat * e.size, none⟩)) w := by
  obtain ⟨el, hu, hel⟩ := (hE _ _ ht).und_arr
  simp [Instr.indexAt, asIntOf, run_underlying hu, (hE _ _ hel).run_sizeOf, h0, h1, add_at, Instr.sureAddr]
theorem dat_inv {nw : Bool} {t : Ty} {x : Val t} {v : Value} (h : SRepV c (.dat nw t x) v) : ∃ cs, v = pack t cs ∧ Rep c.w (c.Fn nw) t x cs := by
  cases h with
  | one h => cases h with
    | dat h => exact ⟨_, rfl, h⟩
theorem idxS_ok (hE : ∀ t ty, tf t = some ty → TyOk P tf t ty) (hob : ∀ id, OK c id (c.ob id)) {t : Nat} {ty : Ty} (ht : tf t = some ty) {x r : SV} {v : Value} (hv : SRepV c x v) {k : IntKind} {i : Int}
    (h : (idxS c.ob i ty x).val = some r) : ∃ v', (Instr.indexAt t v (.int k i)).run P c.w = .ok v' c.w ∧ SRepV c r v' := by
  cases ty with
  | slice e =>
    cases x with
    | dat nw u xs =>
      cases u with
      | slice t' =>
        simp only [idxS] at h
        split at h
        · rename_i e1
          have e1 := tyEq_eq e1
          subst e1
          obtain ⟨hi, h⟩ := chk_some (p := .ret _) h
          simp [PR.val] at h; subst h
          obtain ⟨h0, h1, h2⟩ := inR_iff hi
          obtain ⟨cs, rfl, a', l, cap, rfl, hl, hm, _, hx⟩ := dat_inv hv
          rcases hx with hx | ⟨b, off, rfl, hb, hx⟩
          · subst hx; simp at h1; omega
          · obtain ⟨ds, k1, k2, k3⟩ := hx _ h2
            refine ⟨_, run_indexAt_slice hE ht h0 (by rw [hl]; exact h1), .one (t := .cell .ptr) (cs := [_]) (.at hb k1 k2 k3)⟩
        · cases h
      | _ => simp [idxS, PR.val] at h
    | own t' id =>
      simp only [idxS] at h
      split at h
      · rename_i nw u xs e1 e2
        split at h
        · rename_i e3
          obtain rfl := tyEq_eq e2
          obtain rfl := tyEq_eq e3
          obtain ⟨hi, h⟩ := chk_some (p := .ret _) h
          simp [PR.val] at h; subst h
          obtain ⟨h0, h1, h2⟩ := inR_iff hi
          cases hv with
          | one hv =>
            cases hv with
            | ownGone _ hg => rw [hg] at e1; cases e1
            | own hA hg =>
              rw [e1] at hg; cases hg
              have hok := hob id
              rw [e1] at hok
              obtain ⟨hn, _⟩ := slc_elems hok h2
              have := run_indexAt_slice (P := P) hE ht (b := (c.β id).blk) (off := (c.β id).off) (cap := (c.β id).cap) (k := k) h0 h1 (w := c.w)
              refine ⟨_, by simpa [pack, Ty.isAgg, hdr, hn] using this, ?_⟩
              have h3 : AddrAt c id [.idx i.toNat] u ((c.β id).off + i.toNat * u.size + 0) := ⟨hA, .inr ⟨_, _, _, _, _, _, rfl, e1, h2, trivial, rfl, rfl⟩⟩
              exact h3.rep
        · cases h
      · cases h
    | sub t' id lo hi =>
      simp only [idxS] at h
      split at h
      · rename_i nw u xs e1 e2
        split at h
        · rename_i e3
          obtain rfl := tyEq_eq e2
          obtain rfl := tyEq_eq e3
          obtain ⟨hi', h⟩ := chk_some (p := .ret _) h
          simp [PR.val] at h; subst h
          obtain ⟨h0, h1, h2⟩ := inR_iff hi'
          cases hv with
          | one hv =>
            cases hv with
            | subGone _ hg => rw [hg] at e1; cases e1
            | @sub _ _ _ _ _ ys a2 hA hg l1 l2 l3 =>
              rw [e1] at hg; cases hg
              have hok := hob id
              rw [e1] at hok
              obtain ⟨hn, _⟩ := slc_elems hok (i := lo + i.toNat) (by omega)
              have hcap : lo < (c.β id).cap := by
                obtain ⟨_, ⟨hh, _⟩ | ⟨_, hh, _⟩⟩ := hok
                · rw [hn] at hh; cases hh
                · omega
              rw [show a2 = some ⟨(c.β id).blk, (c.β id).off + lo * u.size, none⟩ by rw [l3]; simp only [subAddr, hn]; rw [if_neg (by omega)]]
              have := run_indexAt_slice (P := P) hE ht (b := (c.β id).blk) (off := (c.β id).off + lo * u.size) (cap := (c.β id).cap - lo) (k := k) h0 h1 (w := c.w)
              refine ⟨_, by simpa [pack, Ty.isAgg] using this, ?_⟩
              have h3 : AddrAt c id [.idx (lo + i.toNat)] u ((c.β id).off + (lo + i.toNat) * u.size + 0) := ⟨hA, .inr ⟨_, _, _, _, _, _, rfl, e1, by omega, trivial, rfl, rfl⟩⟩
              have := h3.rep
              rw [Nat.add_mul, Nat.add_zero, ← Nat.add_assoc] at this
              exact this
        · cases h
      · cases h
    | vw t' id p n lo hi =>
      simp only [idxS] at h
      split at h
      · rename_i bt bs e1 e2 e3
        obtain rfl := tyEq_eq e2
        obtain ⟨hi', h⟩ := chk_some (p := .ret _) h
        simp [PR.val] at h; subst h
        obtain ⟨h0, h1, h2⟩ := inR_iff hi'
        cases hv with
        | one hv =>
          cases hv with
          | vwGone _ hg => rw [hg] at e3; cases e3
          | @vw _ _ _ _ _ _ u' s' o a2 hA hg hp ho l1 l2 hl l3 =>
            rw [e3] at hg; cases hg
            rw [l3 (by omega)]
            have := run_indexAt_slice (P := P) hE ht (b := (c.β id).blk) (off := o + lo * t'.size) (cap := n - lo) (k := k) h0 h1 (w := c.w)
            refine ⟨_, by simpa [pack, Ty.isAgg] using this, ?_⟩
            have ha : AddrAt c id p (.arr n t') o := ⟨hA, .inl ⟨_, _, e3, hp, ho⟩⟩
            have := (ha.idx (i := lo + i.toNat) (by omega)).rep
            rw [Nat.add_mul, ← Nat.add_assoc] at this
            exact this
      · cases h
    | _ => simp [idxS, PR.val] at h
  | arr n e =>
    cases x with
    | ref id p =>
      simp only [idxS] at h
      split at h
      · rename_i e1
        obtain ⟨hi', h⟩ := chk_some (p := .ret _) h
        simp [PR.val] at h; subst h
        obtain ⟨h0, h1, h2⟩ := inR_iff hi'
        obtain ⟨o, rfl, ha⟩ := ref_inv hv (isTy_eq e1)
        exact ⟨_, run_indexAt_arr hE ht h0 h1, (ha.idx h2).rep⟩
      · cases h
    | «at» nw u y =>
      cases u with
      | arr m t' =>
        simp only [idxS] at h
        split at h
        · rename_i e1
          have e1 := tyEq_eq e1
          simp at e1
          obtain ⟨rfl, rfl⟩ := e1
          obtain ⟨hi', h⟩ := chk_some (p := .ret _) h
          simp [PR.val] at h; subst h
          obtain ⟨h0, h1, h2⟩ := inR_iff hi'
          obtain ⟨b, off, ds, rfl, k1, k2, k3, k4⟩ := at_inv hv
          exact ⟨_, run_indexAt_arr hE ht h0 h1, at_part (x := y) k1 k2 k3 (mul_chunk h2) (k4.2.2 _ h2)⟩
        · cases h
      | _ => simp [idxS, PR.val] at h
    | _ => simp [idxS, PR.val] at h
  | _ => simp [idxS, PR.val] at h
theorem loadS_ok (hE : ∀ t ty, tf t = some ty → TyOk P tf t ty) (hob : ∀ id, OK c id (c.ob id)) {t : Nat} {ty : Ty} (ht : tf t = some ty) {x r : SV} {v : Value} (hv : SRepV c x v)
    (h : (loadS c.ob ty x).val = some r) : ∃ v', (Instr.loadAt t v).run P c.w = .ok v' c.w ∧ SRepV c r v' := by
  have ho := hE _ _ ht
  have key : ∀ {b off : Nat} {ds : List Value}, ds.length = ty.size → (∀ j, j < ty.size → c.w.cell? ⟨b, off + j, none⟩ = ds[j]?) →
      (Instr.loadAt t (.pointer (some ⟨b, off, none⟩))).run P c.w = .ok (pack ty ds) c.w := by
    intro b off ds hl hc
    simp only [Instr.loadAt, Instr.sureAddr, Sem.run_bind, Sem.run_pure, Result.andThen_ok]
    exact run_loadVar ho hl hc
  cases x with
  | «at» nw u y =>
    simp only [loadS] at h
    split at h
    · rename_i e
      obtain rfl := tyEq_eq e
      simp [PR.val] at h; subst h
      obtain ⟨b, off, ds, rfl, k1, k2, k3, k4⟩ := at_inv hv
      exact ⟨_, key k2 k3, .one (.dat k4)⟩
    · cases h
  | ref id p =>
    simp only [loadS] at h
    cases hid : c.ob id with
    | gone => rw [hid] at h; cases h
    | map _ _ _ _ => rw [hid] at h; cases h
    | itr _ _ _ => rw [hid] at h; cases h
    | box bt bs =>
      rw [hid] at h
      simp only at h
      split at h
      · rename_i s' e
        split at h
        · rename_i hf
          simp [PR.val] at h; subst h
          have hok := hob id
          rw [hid] at hok
          obtain ⟨hn, cs, el, hblk, hrep⟩ := hok
          cases hv with
          | one hv =>
            cases hv with
            | refGone _ hg => rw [hg] at hid; cases hid
            | refBox hA hg hp ho' =>
              rw [hid] at hg; cases hg
              have h1 := hrep.get e ho' hp
              have h2 := fits_rep h1 hf
              have hl := h2.1.len
              refine ⟨_, key hl (fun j hj => ?_), .one h2.1⟩
              rw [cell_block hblk]
              have hl1 := h1.len
              rw [chunk_get, if_pos (by omega), List.getElem?_toArray]
            | refSlc hA hg _ _ _ => rw [hid] at hg; cases hg
        · cases h
      · cases h
    | slc nw u xs =>
      rw [hid] at h
      simp only at h
      cases p with
      | nil => cases h
      | cons q0 q =>
        cases q0 with
        | fld f => cases h
        | idx i =>
          simp only at h
          split at h
          · rename_i z y e
            split at h
            · rename_i e2
              obtain rfl := tyEq_eq e2
              simp [PR.val] at h; subst h
              have hok := hob id
              rw [hid] at hok
              cases hv with
              | one hv =>
                cases hv with
                | refGone _ hg => rw [hg] at hid; cases hid
                | refBox hA hg hp ho' => rw [hid] at hg; cases hg
                | refSlc hA hg hi hp ho' =>
                  rw [hid] at hg; cases hg
                  obtain ⟨hn, ds, k1, k2, k3⟩ := slc_elems hok hi
                  obtain ⟨o, ho2, k4⟩ := k3.get e hp
                  rw [ho'] at ho2
                  simp at ho2
                  obtain ⟨rfl, rfl⟩ := ho2
                  have hle := offT_le ho' hp
                  refine ⟨_, key k4.len (fun j hj => ?_), .one (.dat k4)⟩
                  rw [chunk_get, if_pos hj, ← k2 _ (by omega), Nat.add_assoc]
            · cases h
          · cases h
  | _ => simp [loadS, PR.val] at h
end
end Go.Sx
