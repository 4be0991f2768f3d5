/- The symbolic executor's meaning: symbolic contents, read and written; symbolic values as data. -/
import Derived.Test.YteghkndbngddgaaGreatSxG
set_option linter.unusedVariables false
namespace Go.Sx
open Go.RowKit
section
variable {c : Cx}
theorem Rep.one {w : World} {F : Nat → Prop} : ∀ {t : Ty} {v : Val t} {cs : List Value}, Rep w F t v cs → ∀ x ∈ cs, x.oneCell' = true := by
  intro t
  induction t with
  | int k => intro v cs h x hx; rw [h.1] at hx; simp at hx; rw [hx]; rfl
  | bool => intro v cs h x hx; rw [show cs = _ from h] at hx; simp at hx; rw [hx]; rfl
  | str => intro v cs h x hx; rw [h.1] at hx; simp at hx; rw [hx]; rfl
  | slice t ih => intro v cs h x hx; obtain ⟨a, l, k, h, _⟩ := h; rw [h] at hx; simp at hx; rw [hx]; rfl
  | unit => intro v cs h x hx; rw [show cs = _ from h] at hx; simp at hx
  | pair a b iha ihb =>
    intro v cs h x hx
    rw [← List.take_append_drop a.size cs, List.mem_append] at hx
    rcases hx with hx | hx
    · exact iha h.1 x hx
    · exact ihb h.2 x hx
  | arr n t ih =>
    intro v cs h x hx
    obtain ⟨k, hk, e⟩ := List.mem_iff_getElem.1 hx
    have hl := h.2.1
    have hs : 0 < t.size := by
      rcases Nat.eq_zero_or_pos t.size with e | e
      · rw [e] at hl; omega
      · exact e
    have hi : k / t.size < n := by
      rw [Nat.div_lt_iff_lt_mul hs]; omega
    refine ih (h.2.2 _ hi) x (List.mem_iff_getElem?.2 ⟨k % t.size, ?_⟩)
    rw [chunk_get, if_pos (Nat.mod_lt _ hs), Nat.mul_comm, Nat.div_add_mod, ← e]
    exact List.getElem?_eq_getElem hk
  | cell k => intro v cs h; exact h.elim
theorem SRep.one {s : SV} {t : Ty} {cs : List Value} (h : SRep c s t cs) : ∀ x ∈ cs, x.oneCell' = true := by
  induction h using SRep.rec (motive_2 := fun _ _ _ => True) (motive_3 := fun _ _ _ => True) with
  | dat h => exact h.one
  | anil => simp
  | acons _ _ h1 h2 => intro x hx; rw [List.mem_append] at hx; rcases hx with hx | hx; exact h1 x hx; exact h2 x hx
  | refGone _ _ h | ownGone _ _ h | subGone _ _ h | vwGone _ _ h | mpGone _ _ h => intro x hx; simp at hx; rw [hx]; exact h
  | own _ _ => intro x hx; simp at hx; rw [hx]; exact hdr_one _ _
  | «at» | refBox | refSlc | zptr | zmap | zfun | nils | sub | vw | fn | mp => intro x hx; simp at hx; rw [hx]; rfl
  | _ => trivial
theorem SRep.part {l : List SV} : ∀ {t : Ty} {cs : List Value}, SRep c (.agg l) t cs → ∀ {i : Nat} {r : SV}, l[i]? = some r →
    ∃ o u, fldT t i = some (o, u) ∧ SRep c r u ((cs.drop o).take u.size) := by
  induction l with
  | nil => intro t cs _ i r h; simp at h
  | cons s l ih =>
    intro t cs h i r hr
    cases h with
    | @acons _ _ a b x y h1 h2 =>
      cases i with
      | zero =>
        simp at hr; subst hr
        refine ⟨0, a, rfl, ?_⟩
        rw [List.drop_zero, ← h1.len, List.take_left]; exact h1
      | succ i =>
        simp at hr
        obtain ⟨o, u, ho, h3⟩ := ih h2 hr
        refine ⟨a.size + o, u, by simp [fldT, ho], ?_⟩
        rw [← h1.len, ← List.drop_drop, List.drop_left]; exact h3
theorem SRep.setPart {l : List SV} : ∀ {t : Ty} {cs : List Value}, SRep c (.agg l) t cs → ∀ {i o : Nat} {u : Ty} {y : SV} {m : List SV} {ds : List Value}, listSet l i y = some m →
    fldT t i = some (o, u) → SRep c y u ds → SRep c (.agg m) t (splice cs o ds) := by
  induction l with
  | nil => intro t cs _ i o u y m ds h; simp [listSet] at h
  | cons s l ih =>
    intro t cs h i o u y m ds hm ho hy
    cases h with
    | @acons _ _ a b x z h1 h2 =>
      have hd := hy.len
      cases i with
      | zero =>
        simp [listSet] at hm; subst hm
        simp [fldT] at ho
        obtain ⟨rfl, rfl⟩ := ho
        have : splice (x ++ z) 0 ds = ds ++ z := by
          simp [splice, hd, ← h1.len]
        rw [this]; exact .acons hy h2
      | succ i =>
        simp only [listSet] at hm
        split at hm
        · rename_i m' e
          simp at hm; subst hm
          simp only [fldT] at ho
          split at ho
          · rename_i o' t' e2
            simp at ho
            obtain ⟨rfl, rfl⟩ := ho
            have hf := fldT_le e2
            have h3 := ih h2 e e2 hy
            have : splice (x ++ z) (a.size + o') ds = x ++ splice z o' ds := by
              simp only [splice, ← h1.len, List.take_length_add_append, List.append_assoc, Nat.add_assoc, List.drop_length_add_append]
            rw [this]; exact .acons h1 h3
          · cases ho
        · cases hm
theorem SRep.exploded {nw : Bool} : ∀ {t : Ty} {v : Val t} {cs : List Value}, isChain t = true → SRep c (.dat nw t v) t cs → SRep c (.agg (explode nw t v)) t cs := by
  intro t
  induction t with
  | pair a b iha ihb =>
    intro v cs hc h
    cases h with
    | dat h =>
      have := SRep.acons (c := c) (.dat h.1) (ihb (by simpa [isChain] using hc) (.dat h.2))
      rw [List.take_append_drop] at this
      exact this
  | unit =>
    intro v cs hc h
    cases h with
    | dat h => rw [show cs = _ from h]; exact .anil
  | _ => intro v cs hc; simp [isChain] at hc
theorem SRep.get : ∀ {p : List PS} {s : SV} {t : Ty} {cs : List Value}, SRep c s t cs → ∀ {r : SV} {o : Nat} {u : Ty}, getS p s = some r → offT t p = some (o, u) → PathOk t p →
    SRep c r u ((cs.drop o).take u.size) := by
  intro p
  induction p with
  | nil =>
    intro s t cs h r o u hr ho _
    simp [getS] at hr
    simp [offT] at ho
    obtain ⟨rfl, rfl⟩ := ho
    subst hr
    rw [List.drop_zero, List.take_of_length_le (Nat.le_of_eq h.len)]; exact h
  | cons q p ih =>
    intro s t cs h r o u hr ho hp
    cases s with
    | agg l =>
      cases q with
      | idx i => simp [getS] at hr
      | fld i =>
        simp only [getS] at hr
        split at hr
        · rename_i s' e
          obtain ⟨o1, u1, ho1, h1⟩ := h.part e
          simp only [offT, ho1] at ho
          simp only [PathOk, ho1] at hp
          split at ho
          · rename_i q' z e2
            simp at ho
            obtain ⟨rfl, rfl⟩ := ho
            have h2 := ih h1 hr e2 hp
            rw [chunk_chunk _ (offT_le e2 hp)] at h2
            exact h2
          · cases ho
        · cases hr
    | dat nw t' v =>
      cases h with
      | dat h =>
        have key : ∀ (pp : List PS), (match getV pp t v with | some ⟨u, x⟩ => some (SV.dat nw u x) | none => none) = some r → offT t pp = some (o, u) → PathOk t pp → SRep c r u ((cs.drop o).take u.size) := by
          intro pp hr ho hp
          split at hr
          · rename_i u1 x1 e
            simp at hr; subst hr
            obtain ⟨o1, ho1, h1⟩ := h.get e hp
            rw [ho] at ho1
            simp at ho1
            obtain ⟨rfl, rfl⟩ := ho1
            exact .dat h1
          · cases hr
        cases q with
        | fld i => exact key _ hr ho hp
        | idx i => exact key _ hr ho hp
    | _ => cases q <;> simp [getS] at hr
theorem fits_rep {s : SV} {t : Ty} {cs : List Value} (h : SRep c s t cs) : ∀ {u : Ty}, fits s u = true → SRep c s u cs ∧ t.isAgg = u.isAgg := by
  induction h using SRep.rec (motive_2 := fun _ _ _ => True) (motive_3 := fun _ _ _ => True) with
  | dat h => intro u hf; simp only [fits] at hf; rw [← tyEq_eq hf]; exact ⟨.dat h, rfl⟩
  | anil => intro u h; cases u <;> simp [fits] at h; exact ⟨.anil, rfl⟩
  | acons h1 h2 i1 i2 =>
    intro u h
    cases u <;> simp [fits] at h
    exact ⟨.acons (i1 h.1).1 (i2 h.2).1, rfl⟩
  | «at» a b d e => intro u h; cases u with | cell k => cases k <;> simp [fits] at h; exact ⟨.at a b d e, rfl⟩ | _ => simp [fits] at h
  | refGone a b d => intro u h; cases u with | cell k => cases k <;> simp [fits] at h; exact ⟨.refGone a b d, rfl⟩ | _ => simp [fits] at h
  | refBox a b d e => intro u h; cases u with | cell k => cases k <;> simp [fits] at h; exact ⟨.refBox a b d e, rfl⟩ | _ => simp [fits] at h
  | refSlc a b d e f => intro u h; cases u with | cell k => cases k <;> simp [fits] at h; exact ⟨.refSlc a b d e f, rfl⟩ | _ => simp [fits] at h
  | zptr => intro u h; cases u with | cell k => cases k <;> simp [fits, ckEq] at h; exact ⟨.zptr, rfl⟩ | _ => simp [fits] at h
  | zmap => intro u h; cases u with | cell k => cases k <;> simp [fits, ckEq] at h; exact ⟨.zmap, rfl⟩ | _ => simp [fits] at h
  | zfun => intro u h; cases u with | cell k => cases k <;> simp [fits, ckEq] at h; exact ⟨.zfun, rfl⟩ | _ => simp [fits] at h
  | nils => intro u h; cases u <;> simp [fits] at h; exact ⟨.nils, rfl⟩
  | ownGone a b d => intro u h; cases u <;> simp [fits] at h; rw [← tyEq_eq h]; exact ⟨.ownGone a b d, rfl⟩
  | own a b => intro u h; cases u <;> simp [fits] at h; rw [← tyEq_eq h]; exact ⟨.own a b, rfl⟩
  | subGone a b d => intro u h; cases u <;> simp [fits] at h; rw [← tyEq_eq h]; exact ⟨.subGone a b d, rfl⟩
  | sub a b d e f => intro u h; cases u <;> simp [fits] at h; rw [← tyEq_eq h]; exact ⟨.sub a b d e f, rfl⟩
  | vwGone a b d => intro u h; cases u <;> simp [fits] at h; rw [← tyEq_eq h]; exact ⟨.vwGone a b d, rfl⟩
  | vw a b d e f g i j => intro u h; cases u <;> simp [fits] at h; rw [← tyEq_eq h]; exact ⟨.vw a b d e f g i j, rfl⟩
  | fn h _ => intro u h'; cases u with | cell k => cases k <;> simp [fits] at h'; exact ⟨.fn h, rfl⟩ | _ => simp [fits] at h'
  | mpGone a b d => intro u h; cases u with | cell k => cases k <;> simp [fits] at h; exact ⟨.mpGone a b d, rfl⟩ | _ => simp [fits] at h
  | mp a b => intro u h; cases u with | cell k => cases k <;> simp [fits] at h; exact ⟨.mp a b, rfl⟩ | _ => simp [fits] at h
  | _ => trivial
theorem fits_val {s : SV} {v : Value} {t : Ty} (h : SRepV c s v) (hf : fits s t = true) : ∃ cs, v = pack t cs ∧ SRep c s t cs := by
  cases h with
  | vdead => simp [fits] at hf
  | tup => simp [fits] at hf
  | itGone => simp [fits] at hf
  | it => simp [fits] at hf
  | one h =>
    rename_i u cs
    obtain ⟨h1, h2⟩ := fits_rep h hf
    exact ⟨cs, by unfold pack; rw [h2], h1⟩
theorem SRep.set : ∀ {p : List PS} {s : SV} {t : Ty} {cs : List Value}, SRep c s t cs → ∀ {x r : SV} {o : Nat} {u : Ty} {ds : List Value}, setS p s x = some r → offT t p = some (o, u) → PathOk t p →
    SRep c x u ds → SRep c r t (splice cs o ds) := by
  intro p
  induction p with
  | nil =>
    intro s t cs h x r o u ds hr ho _ hx
    simp [setS] at hr
    simp [offT] at ho
    obtain ⟨rfl, rfl⟩ := ho
    subst hr
    have : splice cs 0 ds = ds := by simp [splice, h.len, hx.len]
    rw [this]; exact hx
  | cons q p ih =>
    intro s t cs h x r o u ds hr ho hp hx
    have agg : ∀ (l : List SV) (i : Nat), SRep c (.agg l) t cs → offT t (.fld i :: p) = some (o, u) → PathOk t (.fld i :: p) →
        setA l i (fun s => setS p s x) = some r → SRep c r t (splice cs o ds) := by
      intro l i h ho hp hr
      unfold setA at hr
      split at hr
      · rename_i s' e
        obtain ⟨o1, u1, ho1, h1⟩ := h.part e
        simp only [offT, ho1] at ho
        simp only [PathOk, ho1] at hp
        split at ho
        · rename_i q' z e2
          simp at ho
          obtain ⟨rfl, rfl⟩ := ho
          split at hr
          · rename_i y e3
            split at hr
            · rename_i m e4
              simp at hr; subst hr
              have h2 := ih h1 e3 e2 hp hx
              have h3 := h.setPart e4 ho1 h2
              have l1 := fldT_le ho1
              have l2 := offT_le e2 hp
              have hd := hx.len
              have hl := h.len
              rw [splice_splice (by omega) (by omega)] at h3
              exact h3
            · cases hr
          · cases hr
        · cases ho
      · cases hr
    cases s with
    | agg l =>
      cases q with
      | idx i => simp [setS] at hr
      | fld i => exact agg l i h ho hp (by simpa only [setS] using hr)
    | dat nw t' v =>
      cases h with
      | dat h =>
        have key : ∀ (pp : List PS) (mw : Bool) (u' : Ty) (y : Val u'), x = .dat mw u' y → (match setV pp t v ⟨u', y⟩ with | some z => some (SV.dat (nw && (mw || !u'.heapy)) t z) | none => none) = some r → offT t pp = some (o, u) → PathOk t pp →
            SRep c r t (splice cs o ds) := by
          intro pp mw u' y hxe hr2 ho2 hp2
          subst hxe
          split at hr2
          · rename_i z e
            simp at hr2; subst hr2
            cases hx with
            | dat hx =>
              have hw : ∀ {nw' mw' : Bool} {tt : Ty} {vv : Val tt} {zz : List Value}, Rep c.w (c.Fn nw') tt vv zz → (mw' = true → nw' = true) → Rep c.w (c.Fn mw') tt vv zz :=
                fun hh hi => hh.mono (fun b hb => ⟨hb.1, fun e => hb.2 (hi e)⟩) (fun _ _ => rfl)
              have h1 := hw (mw' := nw && (mw || !u.heapy)) h (by simp; intro a _; exact a)
              have h2 : Rep c.w (c.Fn (nw && (mw || !u.heapy))) u y ds := by
                cases hy : u.heapy with
                | false => exact Rep.light hy hx
                | true => exact hw (nw' := mw) hx (by simp)
              exact .dat (h1.set e hp2 ho2 h2).2
          · cases hr2
        cases q with
        | fld i =>
          cases x with
          | dat mw u' y => exact key _ mw u' y rfl (by simp only [setS] at hr; exact hr) ho hp
          | _ =>
            simp only [setS] at hr
            split at hr
            · rename_i hc
              exact agg (explode nw t v) i (SRep.exploded hc (.dat h)) ho hp hr
            · cases hr
        | idx i =>
          cases x with
          | dat mw u' y => exact key _ mw u' y rfl (by simp only [setS] at hr; exact hr) ho hp
          | _ => simp [setS] at hr
    | _ => cases q <;> simp [setS] at hr
end
end Go.Sx
