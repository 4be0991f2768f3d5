/- The symbolic executor's meaning: structs, arrays and slices that are written out. -/
import Derived.Test.YteghkndbngddgaaGreatSxM
set_option linter.unusedVariables false
namespace Go.Sx
open Go.RowKit
theorem listSet_eq {α : Type} : ∀ {l : List α} {i : Nat} {x : α} {m : List α}, listSet l i x = some m → i < l.length ∧ m = l.set i x
  | [], i, x, m, h => by simp [listSet] at h
  | a :: l, 0, x, m, h => by simp [listSet] at h; subst h; simp
  | a :: l, i + 1, x, m, h => by
    simp only [listSet] at h
    split at h
    · rename_i m' e
      simp at h; subst h
      obtain ⟨h1, h2⟩ := listSet_eq e
      subst h2
      simp; omega
    · cases h
theorem fold_splice : ∀ (l : List Value) (k off : Nat) (cells : Array Value), off + k + l.length ≤ cells.size →
    ((l.zipIdx k).foldl (fun cs (x : Value × Nat) => cs.setIfInBounds (off + x.2) x.1) cells).toList = splice cells.toList (off + k) l
  | [], k, off, cells, _ => by simp [splice]
  | v :: l, k, off, cells, h => by
    simp only [List.length_cons] at h
    simp only [List.zipIdx_cons, List.foldl_cons]
    rw [fold_splice l (k + 1) off _ (by simp; omega)]
    apply List.ext_getElem?
    intro j
    have h1 := splice_get (cs := (cells.setIfInBounds (off + k) v).toList) (o := off + (k + 1)) (ds := l) (by simp; omega) j
    have h2 := splice_get (cs := cells.toList) (o := off + k) (ds := v :: l) (by simp; omega) j
    rw [h1, h2]
    simp only [List.length_cons, Array.toList_setIfInBounds, List.getElem?_set]
    by_cases a : j < off + k
    · rw [if_pos a, if_pos (by omega), if_neg (by omega)]
    · rw [if_neg a]
      by_cases b : j = off + k
      · subst b
        rw [if_pos (by omega), if_pos (by omega)]
        simp
        omega
      · rw [if_neg (by omega)]
        by_cases d : j < off + (k + 1) + l.length
        · rw [if_pos d, if_pos (by omega)]
          rw [show j - (off + k) = (j - (off + (k + 1))) + 1 by omega]
          simp
        · rw [if_neg d, if_neg (by omega), if_neg (by omega)]
theorem fill_step {place : Nat → Option (Nat × Nat)} {cells : Array Value} {i off size : Nat} {v : Value} {rest : List (Nat × Value)} (hp : place i = some (off, size)) (hv : v.cells.size = size)
    (ho : off + size ≤ cells.size) : Instr.fill place cells ((i, v) :: rest) = Instr.fill place (splice cells.toList off v.cells.toList).toArray rest := by
  rw [Instr.fill, hp]
  simp only
  rw [if_neg (by simp [hv]; omega)]
  congr 1
  apply Array.ext'
  have := fold_splice v.cells.toList 0 off cells (by simp; omega)
  simp only [Nat.add_zero] at this
  rw [← this, ← Array.toList_zipIdx, ← Array.foldl_toList]
section
variable {c : Cx} {s : St} {w0 : World} {Jo : Io} {a : Act} {P : Program} {tf : Nat → Option Ty}
theorem buildList_ok (h : RelC c s.n s.sl w0 Jo a) (hob : c.ob = s.ob) {t : Ty} : ∀ (parts : List (Nat × Operand)) (nw : Bool) (l : List (Val t)) (n : Nat) (cells : Array Value) (mw : Bool) (m : List (Val t)),
    buildList s t nw l parts = some (mw, m) → Rep c.w (c.Fn nw) (.arr n t) l cells.toList →
    ∃ cells' : Array Value, Instr.fill (fun i => some (i * t.size, t.size)) cells (parts.map fun x => (x.1, a.eval x.2)) = some cells' ∧ Rep c.w (c.Fn mw) (.arr n t) m cells'.toList := by
  intro parts
  induction parts with
  | nil =>
    intro nw l n cells mw m hb hr
    simp [buildList] at hb
    obtain ⟨rfl, rfl⟩ := hb
    exact ⟨cells, rfl, hr⟩
  | cons x parts ih =>
    intro nw l n cells mw m hb hr
    obtain ⟨i, o⟩ := x
    simp only [buildList] at hb
    split at hb
    · rename_i nw' v e1 e2
      split at hb
      · rename_i l' e3
        obtain ⟨hi, rfl⟩ := listSet_eq e3
        obtain ⟨cs, hv, hrv⟩ := toV_val h.objs (ev_rep h o) (by rw [hob]; exact e1)
        rw [e2] at hrv
        have hrv : Rep c.w (c.Fn nw') t v cs := hrv.mono (fun _ hb => Cx.G_nil hb) (fun _ _ => rfl)
        have hrv := hrv.liftn
        generalize (nw' || !t.heapy) = nw' at hb hrv
        have hin : i < n := by rw [← hr.1]; exact hi
        have hl := hr.2.1
        have hm := mul_chunk (s := t.size) hin
        have hc : (a.eval o).cells = cs.toArray := by rw [hv]; exact pack_cells hrv.len hrv.one
        have h1 : Rep c.w (c.Fn (nw && nw')) (.arr n t) (l.set i v) (splice cells.toList (i * t.size) cs) := by
          have q1 : Rep c.w (c.Fn (nw && nw')) (.arr n t) l cells.toList := hr.wk (by simp; intro x _; exact x)
          have q2 : Rep c.w (c.Fn (nw && nw')) t v cs := hrv.wk (by simp)
          have := q1.set (p := [.idx i]) (x := v) (z := l.set i v) (o := i * t.size) (u' := t) (by simp [setV, castV_id]) ⟨hin, trivial⟩ (by simp [offT]) q2
          exact this.2
        obtain ⟨cells', h2, h3⟩ := ih _ _ n (splice cells.toList (i * t.size) cs).toArray mw m hb h1
        refine ⟨cells', ?_, h3⟩
        rw [List.map_cons, fill_step (off := i * t.size) (size := t.size) rfl (by rw [hc]; simp [hrv.len]) (by simp at hl; omega)]
        rw [hc]; exact h2
      · cases hb
    · cases hb
theorem run_fieldsMap (hE : ∀ t ty, tf t = some ty → TyOk P tf t ty) {w : World} : ∀ {fs : List Field} {off : Nat} {ty : Ty}, fldsB tf fs off ty = true →
    ∃ ps : List (Nat × Nat), (fs.mapM fun f => (do pure (f.offset, ← sizeOf f.type) : Sem (Nat × Nat))).run P w = .ok ps w ∧ ∀ i o u, fldT ty i = some (o, u) → ps[i]? = some (off + o, u.size)
  | [], off, ty, h => by
    refine ⟨[], by simp, fun i o u hf => ?_⟩
    cases ty <;> simp [fldsB] at h
    simp [fldT] at hf
  | f :: fs, off, ty, h => by
    cases ty <;> simp [fldsB] at h
    rename_i x y
    obtain ⟨⟨⟨h1, h2⟩, _⟩, h4⟩ := h
    obtain ⟨ps, h5, h6⟩ := run_fieldsMap hE (w := w) h4
    have hs := (hE _ _ (tfIs_eq h1)).run_sizeOf (w := w)
    refine ⟨(f.offset, x.size) :: ps, ?_, fun i o u hf => ?_⟩
    · rw [List.mapM_cons]
      simp only [Sem.run_bind, hs, h5, Result.andThen_ok, Sem.run_pure]
    · cases i with
      | zero => simp [fldT] at hf; obtain ⟨rfl, rfl⟩ := hf; simp; exact h2
      | succ i =>
        simp only [fldT] at hf
        split at hf
        · rename_i o' u' e
          simp at hf
          obtain ⟨rfl, rfl⟩ := hf
          have := h6 i _ _ e
          simp [this]; omega
        · cases hf
theorem buildParts_ok (h : RelC c s.n s.sl w0 Jo a) {ty : Ty} {place : Nat → Option (Nat × Nat)} (hpl : ∀ i o u, fldT ty i = some (o, u) → place i = some (o, u.size)) : ∀ (parts : List (Nat × Operand)) (l : List SV) (cells : Array Value) (m : List SV),
    buildParts s ty l parts = some m → SRep c (.agg l) ty cells.toList →
    ∃ cells' : Array Value, Instr.fill place cells (parts.map fun x => (x.1, a.eval x.2)) = some cells' ∧ SRep c (.agg m) ty cells'.toList := by
  intro parts
  induction parts with
  | nil =>
    intro l cells m hb hr
    simp [buildParts] at hb
    subst hb
    exact ⟨cells, rfl, hr⟩
  | cons x parts ih =>
    intro l cells m hb hr
    obtain ⟨i, o⟩ := x
    simp only [buildParts] at hb
    split at hb
    · rename_i off u e0
      split at hb
      · rename_i l' e1 e2
        obtain ⟨cs, hv, hrv⟩ := fits_val (ev_rep h o) e1
        have hc : (a.eval o).cells = cs.toArray := by rw [hv]; exact pack_cells hrv.len hrv.one
        have h1 := hr.setPart e2 e0 hrv
        obtain ⟨cells', h2, h3⟩ := ih _ (splice cells.toList off cs).toArray m hb h1
        refine ⟨cells', ?_, h3⟩
        have hl := hr.len
        have hf := fldT_le e0
        rw [List.map_cons, fill_step (off := off) (size := u.size) (hpl _ _ _ e0) (by rw [hc]; simp [hrv.len]) (by simp at hl; omega)]
        rw [hc]; exact h2
      · cases hb
    · cases hb
theorem zeroSV_rep : ∀ {t : Ty}, zOk t = true → SRep c (zeroSV t) t (zcells t) := by
  intro t
  induction t with
  | slice t _ => intro _; exact .nils
  | cell k => intro _; cases k; exact .zptr; exact .zmap; exact .zfun
  | pair a b iha ihb =>
    intro h
    simp only [zOk, Bool.and_eq_true] at h
    obtain ⟨⟨h1, h2⟩, h3⟩ := h
    simp only [zeroSV]
    cases hh : (a.heapy || b.heapy) with
    | false =>
      simp only [cond_false]
      have hp : (Ty.pair a b).pure = true := by
        have : ∀ t : Ty, t.heapy = false → t.pure = true := by
          intro t
          induction t with
          | pair a b i1 i2 => intro h; simp [Ty.heapy] at h; simp [Ty.pure, i1 h.1, i2 h.2]
          | arr n t i => intro h; exact i h
          | slice t _ => intro h; cases h
          | cell k => intro h; cases h
          | _ => intro _; rfl
        exact this _ hh
      exact .dat (zero_rep hp)
    | true =>
      simp only [cond_true]
      have hb := ihb h2
      cases hz : zeroSV b with
      | agg l => rw [hz] at hb; exact .acons (iha h1) hb
      | dat nw t v =>
        rw [hz] at hb
        have ht : t = b := by cases hb; rfl
        subst ht
        have := SRep.exploded h3 hb
        have e : zeroSV.go nw t v = explode nw t v := by
          have : ∀ (t : Ty) (v : Val t), zeroSV.go nw t v = explode nw t v := by
            intro t
            induction t with
            | pair a b _ ih => intro v; simp [zeroSV.go, explode, ih]
            | _ => intro v; rfl
          exact this _ _
        show SRep c (.agg (zeroSV a :: zeroSV.go nw t v)) (.pair a t) _
        rw [e]
        exact .acons (iha h1) this
      | _ => rw [hz] at hb; cases b <;> simp [isChain] at h3 <;> cases hb
  | arr n t _ => intro h; exact .dat (zero_rep h)
  | _ => intro _; exact .dat (zero_rep rfl)
theorem chain_kind {x : SV} {t : Ty} {cs : List Value} (hc : isChain t = true) (h : SRep c x t cs) : (∃ l, x = .agg l) ∨ ∃ nw v, x = .dat nw t v := by
  cases h with
  | dat h => exact .inr ⟨_, _, rfl⟩
  | anil => exact .inl ⟨_, rfl⟩
  | acons _ _ => exact .inl ⟨_, rfl⟩
  | _ => simp [isChain] at hc
theorem partsOf_rep {x : SV} {t : Ty} {cs : List Value} (hc : isChain t = true) (h : SRep c x t cs) : SRep c (.agg (partsOf x)) t cs := by
  rcases chain_kind hc h with ⟨l, rfl⟩ | ⟨nw, v, rfl⟩
  · exact h
  · exact SRep.exploded hc h
theorem buildS_ok (hE : ∀ t ty, tf t = some ty → TyOk P tf t ty) (h : RelC c s.n s.sl w0 Jo a) (hob : c.ob = s.ob) {t : Nat} {ty : Ty} (ht : tf t = some ty) {parts : Array (Nat × Operand)} {r : SV}
    (hs : (buildS s parts.toList ty).val = some r) : ∃ v', (Instr.build t (parts.map fun (i, x) => (i, a.eval x))).run P c.w = .ok v' c.w ∧ SRepV c r v' := by
  have ho := hE _ _ ht
  have hmap : (parts.map fun (i, x) => (i, a.eval x)).toList = parts.toList.map fun x => (x.1, a.eval x.2) := by simp
  cases ty with
  | arr n e =>
    simp only [buildS] at hs
    split at hs
    · rename_i nw l e1 e2
      simp [PR.val] at hs; subst hs
      obtain ⟨el, hu, hel⟩ := ho.und_arr
      have hz := zero_rep (w := c.w) (F := c.Fn true) (t := .arr n e) e1
      obtain ⟨cells', h1, h2⟩ := buildList_ok h hob parts.toList true _ n (zcells (.arr n e)).toArray nw l e2 (by simpa [dflt] using hz)
      refine ⟨.agg cells', ?_, ?_⟩
      · simp only [Instr.build, Sem.run_bind, ho.run_zero, Result.andThen_ok, run_underlying hu, (hE _ _ hel).run_sizeOf]
        rw [hmap, pack_cells hz.len hz.one, h1]
        rfl
      · have := SRepV.one (c := c) (.dat h2)
        rw [pack_agg rfl] at this
        simpa using this
    · cases hs
  | pair x y =>
    simp only [buildS] at hs
    split at hs
    · rename_i l e1 e2
      obtain ⟨fs, hu, hb⟩ := ho.und_pair
      obtain ⟨ps, hps, hpl⟩ := run_fieldsMap hE (w := c.w) hb
      have hzo : zOk (.pair x y) = true := by
        cases hzz : zOk (.pair x y) with
        | true => rfl
        | false => rw [hzz] at e1; simp at e1
      have hch : isChain (.pair x y) = true := by rw [hzo] at e1; simpa using e1
      have hz := zeroSV_rep (c := c) hzo
      have hz2 := partsOf_rep hch hz
      obtain ⟨cells', h1, h2⟩ := buildParts_ok h (ty := .pair x y) (place := (ps.toArray[·]?)) (fun i o u hf => by have := hpl i o u hf; simpa using this) parts.toList _ (zcells (.pair x y)).toArray l e2 (by simpa using hz2)
      have hrun : (Instr.build t (parts.map fun (i, x) => (i, a.eval x))).run P c.w = .ok (.agg cells') c.w := by
        have hfm : (fs.mapM fun f => (do pure (f.offset, ← sizeOf f.type) : Sem (Nat × Nat))).run P c.w = .ok ps.toArray c.w := by
          rw [Array.mapM_eq_mapM_toList]
          simp only [Sem.run_map, hps, Result.andThen_ok]
        simp only [Instr.build, Sem.run_bind, ho.run_zero, Result.andThen_ok, run_underlying hu]
        rw [hfm]
        simp only [Result.andThen_ok]
        rw [hmap, pack_cells hz.len hz.one, h1]
        rfl
      split at hs
      · rename_i hh
        split at hs
        · rename_i nw v e3
          simp [PR.val] at hs; subst hs
          refine ⟨_, hrun, ?_⟩
          obtain ⟨_, h3⟩ := toV_rep h.objs h2 (by rw [hob]; exact e3)
          have := SRepV.one (c := c) (.dat (h3.light hh (w' := c.w) (F' := c.Fn true)))
          rw [pack_agg rfl] at this
          simpa using this
        · cases hs
      · simp [PR.val] at hs; subst hs
        refine ⟨_, hrun, ?_⟩
        have := SRepV.one (c := c) h2
        rw [pack_agg rfl] at this
        simpa using this
    · cases hs
  | unit =>
    simp only [buildS] at hs
    split at hs
    · rename_i e
      simp [PR.val] at hs; subst hs
      obtain ⟨d, hu, hb⟩ := ho.und
      cases d <;> simp [descB] at hb
      rename_i fs
      obtain ⟨ps, hps, hpl⟩ := run_fieldsMap hE (w := c.w) hb
      have hfm : (fs.mapM fun f => (do pure (f.offset, ← sizeOf f.type) : Sem (Nat × Nat))).run P c.w = .ok ps.toArray c.w := by
        rw [Array.mapM_eq_mapM_toList]
        simp only [Sem.run_map, hps, Result.andThen_ok]
      refine ⟨.agg #[], ?_, ?_⟩
      · simp only [Instr.build, Sem.run_bind, ho.run_zero, Result.andThen_ok, run_underlying hu]
        rw [hfm]
        simp only [Result.andThen_ok]
        rw [hmap, e]
        simp [Instr.fill, pack, Ty.isAgg, zcells, Value.cells]
      · exact .one (t := .unit) (cs := []) (.dat rfl)
    · cases hs
  | _ => simp [buildS, PR.val] at hs
end
end Go.Sx
