/- The symbolic executor's meaning: equality. -/
import Derived.Test.YteghkndbngddgaaGreatSxJ
import Derived.Laws.StructEq
import Derived.ChangeKeysEq
set_option linter.unusedVariables false
namespace Go.Sx
open Go.RowKit
section
variable {P : Program} {tf : Nat → Option Ty} {w : World}
theorem run_part {t : Nat} {ty : Ty} (h : TyOk P tf t ty) {xs : Array Value} {off : Nat} (hx : off + ty.size ≤ xs.size) :
    (part t xs off).run P w = .ok (pack ty ((xs.toList.drop off).take ty.size)) w := by
  simp only [part, Sem.run_bind, h.run_isAgg, Result.andThen_ok]
  unfold pack
  cases ha : ty.isAgg with
  | true =>
    simp only [if_true, Sem.run_bind, h.run_sizeOf, Result.andThen_ok, Sem.run_pure]
    congr 2
    apply Array.ext'
    simp
  | false =>
    have h1 : ty.size = 1 := by cases ty <;> simp_all [Ty.isAgg, Ty.size]
    have hlt : off < xs.size := by omega
    simp only [Bool.false_eq_true, if_false]
    rw [Array.getElem?_eq_getElem hlt, h1]
    simp only [Sem.run_pure]
    congr 1
    have : (xs.toList.drop off).take 1 = [xs[off]] := by
      apply List.ext_getElem?
      intro k
      rw [chunk_get]
      cases k with
      | zero => simp [hlt]
      | succ k => simp
    rw [this]; rfl
theorem pack_agg {ty : Ty} {cs : List Value} (h : ty.isAgg = true) : pack ty cs = .agg cs.toArray := by unfold pack; rw [h]
theorem cellsOf_ok {t : Nat} {ty : Ty} (h : TyOk P tf t ty) : P.cellsOf t = ty.size := by
  obtain ⟨i, hi, hs, _⟩ := h.info
  simp [Program.cellsOf, hi, hs]
variable {F G : Nat → Prop}
def EqA (P : Program) (tf : Nat → Option Ty) (w : World) (F G : Nat → Prop) (ty : Ty) : Prop := ty.eqOk = true → ∀ (d t : Nat), TyOk P tf t ty → ty.dep < d → ∀ (x y : Val ty) (cs ds : List Value), Rep w F ty x cs → Rep w G ty y ds →
  (Op.equalIn d t (pack ty cs) (pack ty ds)).run P w = .ok (eqV ty x y) w
def EqC (P : Program) (tf : Nat → Option Ty) (w : World) (F G : Nat → Prop) (ty : Ty) : Prop := ty.eqOk = true → ∀ (d : Nat) (fs : List Field) (off : Nat) (xs ys : Array Value), fldsB tf fs off ty = true → ty.dep ≤ d → ∀ (x y : Val ty),
  off + ty.size = xs.size → off + ty.size = ys.size → Rep w F ty x (xs.toList.drop off) → Rep w G ty y (ys.toList.drop off) → (Op.eqFields d xs ys fs).run P w = .ok (eqV ty x y) w
theorem eq_items (hE : ∀ t ty, tf t = some ty → TyOk P tf t ty) {ty : Ty} (hA : EqA P tf w F G ty) (hq : ty.eqOk = true) {d e : Nat} (he : tf e = some ty) (hd : ty.dep < d) (xs ys : Array Value) :
    ∀ (m k : Nat) (x y : List (Val ty)), x.length = m → y.length = m → (k + m) * ty.size ≤ xs.size → (k + m) * ty.size ≤ ys.size →
      (∀ i, i < m → Rep w F ty (x.getD i (dflt ty)) ((xs.toList.drop ((k + i) * ty.size)).take ty.size)) →
      (∀ i, i < m → Rep w G ty (y.getD i (dflt ty)) ((ys.toList.drop ((k + i) * ty.size)).take ty.size)) →
      (Op.eqItems d e (P.cellsOf e) xs ys (List.range' k m)).run P w = .ok (eqV.go (eqV ty) x y) w := by
  intro m
  induction m with
  | zero =>
    intro k x y hx hy _ _ _ _
    obtain rfl := List.eq_nil_of_length_eq_zero hx
    obtain rfl := List.eq_nil_of_length_eq_zero hy
    simp [Op.eqItems, eqV.go]
  | succ m ih =>
    intro k x y hx hy hs hs' h1 h2
    cases x with
    | nil => simp at hx
    | cons a x =>
      cases y with
      | nil => simp at hy
      | cons b y =>
        have ho := hE _ _ he
        have hm : k * ty.size + ty.size ≤ (k + (m + 1)) * ty.size := by
          have : (k + 1) * ty.size ≤ (k + (m + 1)) * ty.size := Nat.mul_le_mul_right _ (by omega)
          rw [Nat.succ_mul] at this; exact this
        rw [List.range'_succ, Op.eqItems, cellsOf_ok ho]
        have r1 := h1 0 (by omega)
        have r2 := h2 0 (by omega)
        simp only [Nat.add_zero, List.getD_cons_zero] at r1 r2
        have e1 := hA hq d e ho hd a b _ _ r1 r2
        simp only [Sem.run_bind, run_part ho (show k * ty.size + ty.size ≤ xs.size by omega), run_part ho (show k * ty.size + ty.size ≤ ys.size by omega), Result.andThen_ok, e1]
        have e2 := ih (k + 1) x y (by simpa using hx) (by simpa using hy) (by rw [show k + 1 + m = k + (m + 1) by omega]; exact hs) (by rw [show k + 1 + m = k + (m + 1) by omega]; exact hs')
          (fun i hi => by have := h1 (i + 1) (by omega); rw [show k + 1 + i = k + (i + 1) by omega]; simpa using this)
          (fun i hi => by have := h2 (i + 1) (by omega); rw [show k + 1 + i = k + (i + 1) by omega]; simpa using this)
        rw [cellsOf_ok ho] at e2
        cases hb : eqV ty a b with
        | false => simp [eqV.go, hb]
        | true => simp [eqV.go, hb, e2]
theorem eq_all (hE : ∀ t ty, tf t = some ty → TyOk P tf t ty) : ∀ ty : Ty, EqA P tf w F G ty ∧ EqC P tf w F G ty := by
  intro ty
  induction ty with
  | int k =>
    refine ⟨fun _ d t ho hd x y cs ds hx hy => ?_, fun _ d fs off xs ys hf => by cases fs <;> simp [fldsB] at hf⟩
    obtain ⟨d, rfl⟩ : ∃ m, d = m + 1 := ⟨d - 1, by omega⟩
    rw [hx.1, hy.1]
    exact run_equalIn_int w d t k k x y ho.und_int
  | bool =>
    refine ⟨fun _ d t ho hd x y cs ds hx hy => ?_, fun _ d fs off xs ys hf => by cases fs <;> simp [fldsB] at hf⟩
    obtain ⟨d, rfl⟩ : ∃ m, d = m + 1 := ⟨d - 1, by omega⟩
    rw [show cs = _ from hx, show ds = _ from hy]
    obtain ⟨de, hu, hb⟩ := ho.und
    cases de <;> simp [descB] at hb
    exact run_equalIn_bool' w d t x y hu
  | str =>
    refine ⟨fun _ d t ho hd x y cs ds hx hy => ?_, fun _ d fs off xs ys hf => by cases fs <;> simp [fldsB] at hf⟩
    obtain ⟨d, rfl⟩ : ∃ m, d = m + 1 := ⟨d - 1, by omega⟩
    rw [hx.1, hy.1]
    obtain ⟨de, hu, hb⟩ := ho.und
    cases de <;> simp [descB] at hb
    have := run_equalIn_string (P := P) w d t x y hu
    rw [← beq_toListBytes] at this
    exact this
  | slice t ih => exact ⟨fun h => (by cases h), fun h => (by cases h)⟩
  | cell t => exact ⟨fun h => (by cases h), fun h => (by cases h)⟩
  | unit =>
    have hc : EqC P tf w F G .unit := by
      intro _ d fs off xs ys hf _ x y _ _ _ _
      cases fs with
      | cons f l => simp [fldsB] at hf
      | nil => simp [Op.eqFields, eqV]
    refine ⟨fun hq d t ho hd x y cs ds hx hy => ?_, hc⟩
    obtain ⟨d, rfl⟩ : ∃ m, d = m + 1 := ⟨d - 1, by omega⟩
    rw [show cs = [] from hx, show ds = [] from hy, pack_agg rfl]
    obtain ⟨de, hu, hb⟩ := ho.und
    cases de <;> simp [descB] at hb
    rename_i fs
    have hfo : P.fieldsOf t = fs := by simp [Program.fieldsOf, hu]
    rw [run_equalIn_struct w d t _ _ (by rw [hfo]; exact hu) (ho.eqs rfl).1, hfo]
    exact hc hq d _ 0 _ _ hb (by simp [Ty.dep]) () () (by rfl) (by rfl) (by rfl) (by rfl)
  | pair a b iha ihb =>
    have hc : EqC P tf w F G (.pair a b) := by
      intro hq d fs off xs ys hf hd x y hs hs' hx hy
      simp [Ty.eqOk] at hq
      cases fs with
      | nil => simp [fldsB] at hf
      | cons f l =>
        simp only [fldsB, Bool.and_eq_true, decide_eq_true_eq] at hf
        obtain ⟨⟨⟨h1, h2⟩, h3⟩, h4⟩ := hf
        have ho := hE _ _ (tfIs_eq h1)
        have h2 : f.offset = off := Nat.eq_of_beq_eq_true h2
        simp only [Ty.size] at hs hs'
        simp only [Ty.dep] at hd
        have e1 := iha.1 hq.1 d f.type ho (by omega) x.1 y.1 _ _ hx.1 hy.1
        have e2 := ihb.2 hq.2 d l (off + a.size) xs ys h4 (by omega) x.2 y.2 (by omega) (by omega) (by rw [← List.drop_drop]; exact hx.2) (by rw [← List.drop_drop]; exact hy.2)
        rw [Op.eqFields]
        simp only [if_pos h3, Sem.run_bind, h2, run_part ho (show off + a.size ≤ xs.size by omega), run_part ho (show off + a.size ≤ ys.size by omega), Result.andThen_ok, e1]
        cases hb : eqV a x.1 y.1 with
        | false => simp [eqV, hb]
        | true => simp [eqV, hb, e2]
    refine ⟨fun hq d t ho hd x y cs ds hx hy => ?_, hc⟩
    obtain ⟨d, rfl⟩ : ∃ m, d = m + 1 := ⟨d - 1, by omega⟩
    rw [pack_agg rfl, pack_agg rfl]
    obtain ⟨fs, hu, hb⟩ := ho.und_pair
    have hfo : P.fieldsOf t = fs := by simp [Program.fieldsOf, hu]
    rw [run_equalIn_struct w d t _ _ (by rw [hfo]; exact hu) (ho.eqs rfl).1, hfo]
    exact hc hq d _ 0 _ _ hb (by omega) x y (by simp [hx.len]) (by simp [hy.len]) (by simpa using hx) (by simpa using hy)
  | arr n t ih =>
    refine ⟨fun hq d t' ho hd x y cs ds hx hy => ?_, fun _ d fs off xs ys hf => by cases fs <;> simp [fldsB] at hf⟩
    obtain ⟨d, rfl⟩ : ∃ m, d = m + 1 := ⟨d - 1, by omega⟩
    rw [pack_agg rfl, pack_agg rfl]
    obtain ⟨e, hu, he⟩ := ho.und_arr
    obtain ⟨i, hi, _⟩ := (hE _ _ he).info
    rw [run_equalIn_array w d _ _ hu hi, List.range_eq_range']
    simp only [Ty.dep] at hd
    exact eq_items hE ih.1 hq he (by omega) _ _ n 0 x y hx.1 hy.1 (by simp [hx.2.1]) (by simp [hy.2.1]) (fun i hi => by simpa using hx.2.2 i hi) (fun i hi => by simpa using hy.2.2 i hi)
end
end Go.Sx
