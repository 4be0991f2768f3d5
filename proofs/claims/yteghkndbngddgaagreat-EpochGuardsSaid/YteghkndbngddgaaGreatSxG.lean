/- The symbolic executor's meaning: parts of contents, read and written. -/
import Derived.Test.YteghkndbngddgaaGreatSxF
set_option linter.unusedVariables false
namespace Go.Sx
open Go.RowKit
def splice (cs : List Value) (o : Nat) (ds : List Value) : List Value := cs.take o ++ ds ++ cs.drop (o + ds.length)
theorem splice_len {cs : List Value} {o : Nat} {ds : List Value} (h : o + ds.length ≤ cs.length) : (splice cs o ds).length = cs.length := by
  simp [splice]; omega
theorem splice_get {cs : List Value} {o : Nat} {ds : List Value} (h : o + ds.length ≤ cs.length) (k : Nat) :
    (splice cs o ds)[k]? = if k < o then cs[k]? else if k < o + ds.length then ds[k - o]? else cs[k]? := by
  have h1 : (cs.take o).length = o := by simp; omega
  unfold splice
  by_cases a : k < o
  · rw [if_pos a, List.append_assoc, List.getElem?_append_left (by omega), List.getElem?_take_of_lt a]
  · rw [if_neg a, List.append_assoc, List.getElem?_append_right (by omega), h1]
    by_cases b : k < o + ds.length
    · rw [if_pos b, List.getElem?_append_left (by omega)]
    · rw [if_neg b, List.getElem?_append_right (by omega), List.getElem?_drop]
      congr 1; omega
theorem chunk_get (cs : List Value) (a n k : Nat) : ((cs.drop a).take n)[k]? = if k < n then cs[a + k]? else none := by
  by_cases h : k < n
  · rw [if_pos h, List.getElem?_take_of_lt h, List.getElem?_drop]
  · rw [if_neg h, List.getElem?_take_eq_none (by omega)]
theorem chunk_splice_out {cs ds : List Value} {o a n : Nat} (h : o + ds.length ≤ cs.length) (hd : a + n ≤ o ∨ o + ds.length ≤ a) :
    ((splice cs o ds).drop a).take n = (cs.drop a).take n := by
  apply List.ext_getElem?
  intro k
  rw [chunk_get, chunk_get]
  by_cases hk : k < n
  · rw [if_pos hk, if_pos hk, splice_get h]
    rcases hd with hd | hd
    · rw [if_pos (by omega)]
    · rw [if_neg (by omega), if_neg (by omega)]
  · rw [if_neg hk, if_neg hk]
theorem chunk_splice_in {cs ds : List Value} {o a n : Nat} (h : o + ds.length ≤ cs.length) (h1 : a ≤ o) (h2 : o + ds.length ≤ a + n) :
    ((splice cs o ds).drop a).take n = splice ((cs.drop a).take n) (o - a) ds := by
  apply List.ext_getElem?
  intro k
  have hl : ((cs.drop a).take n).length = min n (cs.length - a) := by simp
  have hR := splice_get (cs := (cs.drop a).take n) (o := o - a) (ds := ds) (by rw [hl]; omega) k
  have hL := splice_get h (a + k)
  rw [chunk_get, hR, chunk_get]
  by_cases hk : k < n
  · rw [if_pos hk, if_pos hk, hL]
    by_cases e1 : k < o - a
    · rw [if_pos e1, if_pos (by omega)]
    · rw [if_neg e1, if_neg (by omega)]
      by_cases e2 : k < o - a + ds.length
      · rw [if_pos e2, if_pos (by omega)]; congr 1; omega
      · rw [if_neg e2, if_neg (by omega)]
  · rw [if_neg hk, if_neg hk, if_neg (by omega), if_neg (by omega)]
theorem splice_splice {cs ds : List Value} {o n q : Nat} (h : o + n ≤ cs.length) (h2 : q + ds.length ≤ n) :
    splice cs o (splice ((cs.drop o).take n) q ds) = splice cs (o + q) ds := by
  have hcl : ((cs.drop o).take n).length = n := by simp; omega
  have hsl : (splice ((cs.drop o).take n) q ds).length = n := by rw [splice_len (by omega)]; exact hcl
  apply List.ext_getElem?
  intro k
  have h3 := splice_get (cs := cs) (o := o) (ds := splice ((cs.drop o).take n) q ds) (by omega) k
  have h4 := splice_get (cs := cs) (o := o + q) (ds := ds) (by omega) k
  have h5 := splice_get (cs := (cs.drop o).take n) (o := q) (ds := ds) (by omega) (k - o)
  rw [h3, h4, hsl, h5, chunk_get]
  by_cases a : k < o
  · rw [if_pos a, if_pos (by omega)]
  · rw [if_neg a]
    by_cases b : k < o + n
    · rw [if_pos b]
      by_cases c1 : k - o < q
      · rw [if_pos c1, if_pos (by omega), if_pos (by omega)]; congr 1; omega
      · rw [if_neg c1, if_neg (by omega : ¬ k < o + q)]
        by_cases c2 : k - o < q + ds.length
        · rw [if_pos c2, if_pos (by omega)]; congr 1; omega
        · rw [if_neg c2, if_pos (by omega : k - o < n), if_neg (by omega : ¬ k < o + q + ds.length)]; congr 1; omega
    · rw [if_neg b, if_neg (by omega), if_neg (by omega)]
theorem take_chunk (cs : List Value) (n : Nat) : cs.take n = (cs.drop 0).take n := by simp
theorem drop_chunk (cs : List Value) (n m : Nat) (h : cs.length = n + m) : cs.drop n = (cs.drop n).take m := by
  rw [List.take_of_length_le]; simp; omega
theorem chunk_chunk (cs : List Value) {a n b m : Nat} (h : b + m ≤ n) : (((cs.drop a).take n).drop b).take m = (cs.drop (a + b)).take m := by
  apply List.ext_getElem?
  intro k
  rw [chunk_get, chunk_get, chunk_get]
  by_cases hk : k < m
  · rw [if_pos hk, if_pos (by omega), if_pos hk, Nat.add_assoc]
  · rw [if_neg hk, if_neg hk]
theorem fldT_le : ∀ {t : Ty} {i o : Nat} {u : Ty}, fldT t i = some (o, u) → o + u.size ≤ t.size := by
  intro t
  induction t with
  | pair a b iha ihb =>
    intro i o u h
    cases i with
    | zero => simp [fldT] at h; obtain ⟨rfl, rfl⟩ := h; simp [Ty.size]
    | succ i =>
      simp only [fldT] at h
      split at h
      · rename_i o' t' e
        simp at h
        obtain ⟨rfl, rfl⟩ := h
        have := ihb e
        simp only [Ty.size]; omega
      · cases h
  | _ => intro i o u h; simp [fldT] at h
theorem mul_chunk {i n s : Nat} (h : i < n) : i * s + s ≤ n * s := by
  have : (i + 1) * s ≤ n * s := Nat.mul_le_mul_right s h
  rw [Nat.succ_mul] at this; exact this
theorem offT_le : ∀ {p : List PS} {t : Ty} {o : Nat} {u : Ty}, offT t p = some (o, u) → PathOk t p → o + u.size ≤ t.size := by
  intro p
  induction p with
  | nil => intro t o u h _; simp [offT] at h; obtain ⟨rfl, rfl⟩ := h; omega
  | cons s p ih =>
    intro t o u h hp
    cases s with
    | fld i =>
      simp only [offT] at h
      simp only [PathOk] at hp
      split at h
      · rename_i o1 u1 e1
        rw [e1] at hp
        simp only at hp
        split at h
        · rename_i q z e2
          simp at h
          obtain ⟨rfl, rfl⟩ := h
          have h1 := fldT_le e1
          have h2 := ih e2 hp
          omega
        · cases h
      · cases h
    | idx i =>
      cases t with
      | arr n t =>
        simp only [offT] at h
        split at h
        · rename_i q z e2
          simp at h
          obtain ⟨rfl, rfl⟩ := h
          have h2 := ih e2 hp.2
          have := mul_chunk (s := t.size) hp.1
          simp only [Ty.size]; omega
        · cases h
      | _ => simp [offT] at h
section
variable {w : World} {F : Nat → Prop}
theorem Rep.fld : ∀ {t : Ty} {v : Val t} {cs : List Value}, Rep w F t v cs → ∀ {i : Nat} {u : Ty} {x : Val u}, fldV t v i = some ⟨u, x⟩ →
    ∃ o, fldT t i = some (o, u) ∧ Rep w F u x ((cs.drop o).take u.size) := by
  intro t
  induction t with
  | pair a b iha ihb =>
    intro v cs h i u x hx
    cases i with
    | zero =>
      simp only [fldV, Option.some.injEq, TV.mk.injEq] at hx
      obtain ⟨rfl, hx⟩ := hx
      obtain rfl := eq_of_heq hx
      exact ⟨0, rfl, by simpa using h.1⟩
    | succ i =>
      simp only [fldV] at hx
      obtain ⟨o, ho, hr⟩ := ihb h.2 hx
      refine ⟨a.size + o, by simp [fldT, ho], ?_⟩
      rw [List.drop_drop] at hr
      exact hr
  | _ => intro v cs h i u x hx; simp [fldV] at hx
theorem Rep.get : ∀ {p : List PS} {t : Ty} {v : Val t} {cs : List Value}, Rep w F t v cs → ∀ {u : Ty} {x : Val u}, getV p t v = some ⟨u, x⟩ → PathOk t p →
    ∃ o, offT t p = some (o, u) ∧ Rep w F u x ((cs.drop o).take u.size) := by
  intro p
  induction p with
  | nil =>
    intro t v cs h u x hx _
    simp only [getV, Option.some.injEq, TV.mk.injEq] at hx
    obtain ⟨rfl, hx⟩ := hx
    obtain rfl := eq_of_heq hx
    exact ⟨0, rfl, by rw [List.drop_zero, List.take_of_length_le (Nat.le_of_eq h.len)]; exact h⟩
  | cons s p ih =>
    intro t v cs h u x hx hp
    cases s with
    | fld i =>
      simp only [getV] at hx
      simp only [PathOk] at hp
      split at hx
      · rename_i u1 x1 e
        obtain ⟨o, ho, hr⟩ := h.fld e
        rw [ho] at hp
        obtain ⟨q, hq, hr2⟩ := ih hr hx hp
        have := offT_le hq hp
        refine ⟨o + q, by simp [offT, ho, hq], ?_⟩
        rw [chunk_chunk _ this] at hr2
        exact hr2
      · cases hx
    | idx i =>
      cases t with
      | arr n t =>
        simp only [getV] at hx
        obtain ⟨q, hq, hr2⟩ := ih (h.2.2 i hp.1) hx hp.2
        have := offT_le hq hp.2
        refine ⟨i * t.size + q, by simp [offT, hq], ?_⟩
        rw [chunk_chunk _ this] at hr2
        exact hr2
      | _ => simp [getV] at hx
theorem castV_eq {a b : Ty} {v : Val a} {x : Val b} (h : castV a b v = some x) : ∃ e : a = b, x = e ▸ v := by
  unfold castV at h
  split at h
  · rename_i e
    exact ⟨tyEq_eq e, by simpa using h.symm⟩
  · cases h
theorem castV_rep {a b : Ty} {v : Val a} {x : Val b} {cs : List Value} (h : castV a b v = some x) (hr : Rep w F a v cs) : a = b ∧ Rep w F b x cs := by
  obtain ⟨e, he⟩ := castV_eq h
  subst e
  exact ⟨rfl, by rw [he]; exact hr⟩
theorem Rep.setFld : ∀ {t : Ty} {v : Val t} {cs : List Value}, Rep w F t v cs → ∀ {i o : Nat} {u : Ty} {x : Val u} {z : Val t} {ds : List Value},
    setFldV t v i ⟨u, x⟩ = some z → fldT t i = some (o, u) → Rep w F u x ds → Rep w F t z (splice cs o ds) := by
  intro t
  induction t with
  | pair a b iha ihb =>
    intro v cs h i o u x z ds hz ho hx
    have hl := h.len
    simp only [Ty.size] at hl
    have hd := hx.len
    cases i with
    | zero =>
      simp only [setFldV] at hz
      split at hz
      · rename_i y e
        simp only [Option.some.injEq] at hz
        obtain ⟨rfl, hy⟩ := castV_rep e hx
        simp [fldT] at ho
        subst ho
        subst hz
        refine ⟨?_, ?_⟩
        · have := chunk_splice_in (cs := cs) (ds := ds) (o := 0) (a := 0) (n := u.size) (by omega) (by omega) (by omega)
          rw [take_chunk, this]
          have e : splice (List.take u.size (List.drop 0 cs)) (0 - 0) ds = ds := by
            simp [splice, hd]
          rw [e]; exact hy
        · have := chunk_splice_out (cs := cs) (ds := ds) (o := 0) (a := u.size) (n := b.size) (by omega) (.inr (by omega))
          rw [drop_chunk _ _ b.size (by rw [splice_len (by omega)]; omega), this, ← drop_chunk _ _ _ hl]
          exact h.2
      · cases hz
    | succ i =>
      simp only [setFldV] at hz
      split at hz
      · rename_i y e
        simp only [Option.some.injEq] at hz
        subst hz
        simp only [fldT] at ho
        split at ho
        · rename_i o' t' e2
          simp at ho
          obtain ⟨rfl, rfl⟩ := ho
          have := fldT_le e2
          have h2 := ihb h.2 e e2 hx
          refine ⟨?_, ?_⟩
          · have := chunk_splice_out (cs := cs) (ds := ds) (o := a.size + o') (a := 0) (n := a.size) (by omega) (.inl (by omega))
            rw [take_chunk, this, ← take_chunk]; exact h.1
          · have := chunk_splice_in (cs := cs) (ds := ds) (o := a.size + o') (a := a.size) (n := b.size) (by omega) (by omega) (by omega)
            rw [drop_chunk _ _ b.size (by rw [splice_len (by omega)]; omega), this, ← drop_chunk _ _ _ hl]
            rw [show a.size + o' - a.size = o' by omega]; exact h2
        · cases ho
      · cases hz
  | _ => intro v cs h i o u x z ds hz; simp [setFldV] at hz
theorem Rep.set : ∀ {p : List PS} {t : Ty} {v : Val t} {cs : List Value}, Rep w F t v cs → ∀ {u : Ty} {x : Val u} {z : Val t} {o : Nat} {u' : Ty} {ds : List Value},
    setV p t v ⟨u, x⟩ = some z → PathOk t p → offT t p = some (o, u') → Rep w F u x ds → u' = u ∧ Rep w F t z (splice cs o ds) := by
  intro p
  induction p with
  | nil =>
    intro t v cs h u x z o u' ds hz _ ho hx
    simp [offT] at ho
    obtain ⟨rfl, rfl⟩ := ho
    obtain ⟨rfl, hy⟩ := castV_rep hz hx
    refine ⟨rfl, ?_⟩
    have : splice cs 0 ds = ds := by simp [splice, h.len, hx.len]
    rw [this]; exact hy
  | cons s p ih =>
    intro t v cs h u x z o u' ds hz hp ho hx
    cases s with
    | fld i =>
      simp only [setV] at hz
      simp only [PathOk] at hp
      simp only [offT] at ho
      split at hz
      · rename_i u1 y1 e
        obtain ⟨o1, ho1, hr⟩ := h.fld e
        rw [ho1] at hp ho
        simp only at hp ho
        split at hz
        · rename_i z1 e1
          split at ho
          · rename_i q z' e2
            simp at ho
            obtain ⟨rfl, rfl⟩ := ho
            obtain ⟨rfl, h2⟩ := ih hr e1 hp e2 hx
            refine ⟨rfl, ?_⟩
            have h3 := h.setFld hz ho1 h2
            have l1 := fldT_le ho1
            have l2 := offT_le e2 hp
            have hd := hx.len
            have hl := h.len
            have := splice_splice (cs := cs) (ds := ds) (o := o1) (n := u1.size) (q := q) (by omega) (by omega)
            rw [this] at h3; exact h3
          · cases ho
        · cases hz
      · cases hz
    | idx i =>
      cases t with
      | arr n t =>
        simp only [setV] at hz
        simp only [offT] at ho
        split at hz
        · rename_i z1 e1
          simp only [Option.some.injEq] at hz
          subst hz
          split at ho
          · rename_i q z' e2
            simp at ho
            obtain ⟨rfl, rfl⟩ := ho
            obtain ⟨rfl, h2⟩ := ih (h.2.2 i hp.1) e1 hp.2 e2 hx
            refine ⟨rfl, ?_⟩
            have l2 := offT_le e2 hp.2
            have l3 := mul_chunk (s := t.size) hp.1
            have hd := hx.len
            have hl := h.2.1
            have hi : i < v.length := by rw [h.1]; exact hp.1
            refine ⟨by simpa using h.1, by rw [splice_len (by omega)]; exact hl, fun j hj => ?_⟩
            by_cases e : j = i
            · subst e
              rw [chunk_splice_in (by omega) (by omega) (by omega), show j * t.size + q - j * t.size = q by omega]
              have : (v.set j z1).getD j (dflt t) = z1 := by simp [List.getD, hi]
              rw [this]; exact h2
            · have : (v.set i z1).getD j (dflt t) = v.getD j (dflt t) := by
                simp [List.getD, Ne.symm e]
              rw [this, chunk_splice_out (by omega)]
              · exact h.2.2 j hj
              · rcases Nat.lt_or_gt_of_ne e with e | e
                · left; have := mul_chunk (s := t.size) e; omega
                · right; have := mul_chunk (s := t.size) e; omega
          · cases ho
        · cases hz
      | _ => simp [setV] at hz
end
end Go.Sx
