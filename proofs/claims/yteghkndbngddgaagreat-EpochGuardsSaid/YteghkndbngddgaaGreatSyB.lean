/- The symbolic executor's meaning: matching a value with a template. -/
import Derived.Test.YteghkndbngddgaaGreatSyA
import Derived.Test.YteghkndbngddgaaGreatSxY
set_option linter.unusedVariables false
namespace Go.Sx
open Go.RowKit
theorem dhd_dcons : ∀ (h : H) (l : List H) (x : h.T) (r : Dl l), dhd h l (dcons h l x r) = x
  | _, [], _, _ => rfl
  | _, _ :: _, _, _ => rfl
theorem dtl_dcons : ∀ (h : H) (l : List H) (x : h.T) (r : Dl l), dtl h l (dcons h l x r) = r
  | _, [], _, _ => rfl
  | _, _ :: _, _, _ => rfl
theorem mk_isL (σ : Nat → Nat) : ∀ (t : Tm) (acc : List H) (d : Dl (holes t acc)), isL t = true → mk σ t acc d = .agg (aggL (mk σ t acc d)) := by
  intro t
  cases t <;> intro acc d h <;> first | (cases h; done) | rfl
theorem mk_fits (σ : Nat → Nat) : ∀ (t : Tm) (acc : List H) (d : Dl (holes t acc)) (u : Ty), fitsT t u = true → fits (mk σ t acc d) u = true := by
  intro t
  induction t with
  | cons a b iha ihb =>
    intro acc d u h
    cases u with
    | pair t u =>
      simp only [fitsT, Bool.and_eq_true] at h
      have h2 := ihb acc (rest a (holes b acc) d) u h.2
      rw [mk_isL σ b _ _ h.1.1] at h2
      simp only [mk, fits, Bool.and_eq_true]
      exact ⟨iha _ d t h.1.2, h2⟩
    | _ => simp [fitsT] at h
  | dat nw t => intro acc d u h; simp only [fitsT] at h; simp only [mk, fits]; exact h
  | _ =>
    intro acc d u h
    cases u <;> first
      | (cases h; done)
      | exact h
      | (rename_i k; cases k <;> first | (cases h; done) | exact h)
structure RLe (r R : Rho) : Prop where
  look : ∀ i x, look r.ρ i = some x → look R.ρ i = some x
  kill : ∀ j, j ∈ r.kill → j ∈ R.kill
  nt : ∀ p, p ∈ r.nt → p ∈ R.nt
  ntb : ∀ p, p ∈ R.nt → (∃ x, Go.Sx.look r.ρ p.1 = some x) → p ∈ r.nt
theorem RLe.refl (r : Rho) : RLe r r := ⟨fun _ _ h => h, fun _ h => h, fun _ h => h, fun _ h _ => h⟩
theorem RLe.trans {r s t : Rho} (h : RLe r s) (k : RLe s t) : RLe r t :=
  ⟨fun i x e => k.look i x (h.look i x e), fun j e => k.kill j (h.kill j e), fun p e => k.nt p (h.nt p e), fun p e ⟨x, hx⟩ => h.ntb p (k.ntb p e ⟨x, h.look _ _ hx⟩) ⟨x, hx⟩⟩
theorem look_cons (k : Nat) (v : Option Nat) (l : List (Nat × Option Nat)) (i : Nat) : look ((k, v) :: l) i = if k = i then some v else look l i := by
  simp only [look]
  by_cases e : k = i
  · subst e; simp
  · rw [if_neg e, show Nat.beq k i = false by rw [Bool.eq_false_iff]; intro h; exact e (Nat.eq_of_beq_eq_true h)]
    rfl
theorem bind1_ok {r r' : Rho} {i j : Nat} (h : bind1 r i j = some r') : RLe r r' ∧ look r'.ρ i = some (some j) := by
  unfold bind1 at h
  split at h
  · rename_i k e
    cases hb : Nat.beq k j with
    | false => rw [hb] at h; cases h
    | true =>
      rw [hb] at h
      cases h
      rw [Nat.eq_of_beq_eq_true hb] at e
      exact ⟨.refl _, e⟩
  · cases h
  · rename_i e
    cases hb : usedIn r.ρ j with
    | true => rw [hb] at h; cases h
    | false =>
      rw [hb] at h
      cases h
      refine ⟨⟨fun k x hk => ?_, fun _ h => h, fun _ h => h, fun _ h _ => h⟩, by rw [look_cons, if_pos rfl]⟩
      rw [look_cons, if_neg (fun e2 => by subst e2; rw [e] at hk; cases hk)]
      exact hk
theorem bindNil_ok {r r' : Rho} {i : Nat} {t : Ty} (h : bindNil r i t = some r') : RLe r r' ∧ look r'.ρ i = some none ∧ (i, t) ∈ r'.nt := by
  unfold bindNil at h
  split at h
  · rename_i e
    cases h
    refine ⟨⟨fun k x hk => ?_, fun _ h => h, fun _ h => by simp [h], fun p hp ⟨x, hx⟩ => ?_⟩, by rw [look_cons, if_pos rfl], by simp⟩
    · rw [look_cons, if_neg (fun e2 => by subst e2; rw [e] at hk; cases hk)]
      exact hk
    · simp only [List.mem_cons] at hp
      rcases hp with rfl | hp
      · rw [e] at hx; cases hx
      · exact hp
  · cases h
theorem pickT_le {md : Bool} {ob : Nat → Obj} : ∀ (t : Tm) (s : SV) (r r' : Rho) (f : (acc : List H) → Dl acc → Dl (holes t acc)), pickT md ob t s r = some (r', f) → RLe r r' := by
  intro t
  induction t with
  | dead => intro s r r' f h; cases s <;> simp [pickT] at h
  | dat nw t =>
    intro s r r' f h
    simp only [pickT] at h
    split at h
    · split at h
      · cases h
        exact ⟨fun _ _ h => h, fun j hj => by simp [hj], fun _ h => h, fun _ h _ => h⟩
      · cases h
    · cases h
  | «at» nw t =>
    intro s r r' f h
    cases s <;> simp only [pickT] at h <;> first | (cases h; done) | skip
    split at h
    · split at h
      · cases h; exact .refl _
      · cases h
    · cases h
  | nil =>
    intro s r r' f h
    cases s with
    | agg l => cases l <;> simp only [pickT] at h <;> cases h; exact .refl _
    | dat nw u v => cases u <;> simp only [pickT] at h <;> cases h; exact .refl _
    | _ => simp only [pickT] at h; cases h
  | cons a b iha ihb =>
    intro s r r' f h
    cases s with
    | agg l =>
      cases l with
      | nil => simp only [pickT] at h; cases h
      | cons x l =>
        simp only [pickT] at h
        split at h
        · rename_i r1 f1 e0 e1
          split at h
          · rename_i r2 f2 e2
            cases h
            exact (iha _ _ _ _ e1).trans (ihb _ _ _ _ e2)
          · cases h
        · cases h
    | dat nw u v =>
      cases u with
      | pair t u =>
        simp only [pickT] at h
        split at h
        · rename_i r1 f1 e0 e1
          split at h
          · rename_i r2 f2 e2
            cases h
            exact (iha _ _ _ _ e1).trans (ihb _ _ _ _ e2)
          · cases h
        · cases h
      | _ => simp only [pickT] at h; cases h
    | _ => simp only [pickT] at h; cases h
  | tup b ih => intro s r r' f h; cases s <;> simp [pickT] at h
  | ref id p =>
    intro s r r' f h
    cases s <;> simp only [pickT] at h <;> first | (cases h; done) | skip
    split at h
    · split at h
      · rename_i e; cases h; exact (bind1_ok e).1
      · cases h
    · cases h
  | refI id q =>
    intro s r r' f h
    cases s with
    | ref j p =>
      cases p with
      | nil => simp only [pickT] at h; cases h
      | cons x p =>
        cases x <;> simp only [pickT] at h <;> first | (cases h; done) | skip
        split at h
        · split at h
          · rename_i e; cases h; exact (bind1_ok e).1
          · cases h
        · cases h
    | _ => simp only [pickT] at h; cases h
  | zc c =>
    intro s r r' f h
    cases s <;> simp only [pickT] at h <;> first | (cases h; done) | skip
    split at h
    · cases h; exact .refl _
    · cases h
  | nils =>
    intro s r r' f h
    cases s <;> simp only [pickT] at h <;> first | (cases h; done) | skip
    cases h; exact .refl _
  | own t id =>
    intro s r r' f h
    cases s <;> simp only [pickT] at h <;> first | (cases h; done) | skip
    · split at h
      · rename_i e; cases h; exact (bindNil_ok e).1
      · cases h
    · split at h
      · split at h
        · rename_i e; cases h; exact (bind1_ok e).1
        · cases h
      · cases h
  | sub t id =>
    intro s r r' f h
    cases s <;> simp only [pickT] at h <;> first | (cases h; done) | skip
    · split at h
      · rename_i e; cases h; exact (bindNil_ok e).1
      · cases h
    · split at h
      · split at h
        · rename_i e; cases h; exact (bind1_ok e).1
        · cases h
      · cases h
    · split at h
      · split at h
        · rename_i e; cases h; exact (bind1_ok e).1
        · cases h
      · cases h
  | fn g b ih =>
    intro s r r' f h
    cases s <;> simp only [pickT] at h <;> first | (cases h; done) | skip
    split at h
    · split at h
      · rename_i e; cases h; exact ih _ _ _ _ e
      · cases h
    · cases h
  | mp id =>
    intro s r r' f h
    cases s <;> simp only [pickT] at h <;> first | (cases h; done) | skip
    split at h
    · rename_i e; cases h; exact (bind1_ok e).1
    · cases h
  | it id => intro s r r' f h; cases s <;> simp [pickT] at h
theorem pickT_rest {md : Bool} {ob : Nat → Obj} : ∀ (t : Tm) (s : SV) (r r' : Rho) (f : (acc : List H) → Dl acc → Dl (holes t acc)), pickT md ob t s r = some (r', f) → ∀ acc d, rest t acc (f acc d) = d := by
  intro t
  induction t with
  | dead => intro s r r' f h; cases s <;> simp [pickT] at h
  | dat nw t =>
    intro s r r' f h acc d
    simp only [pickT] at h
    split at h
    · split at h
      · cases h
        exact dtl_dcons _ _ _ _
      · cases h
    · cases h
  | «at» nw t =>
    intro s r r' f h acc d
    cases s <;> simp only [pickT] at h <;> first | (cases h; done) | skip
    split at h
    · split at h
      · cases h; exact dtl_dcons _ _ _ _
      · cases h
    · cases h
  | nil =>
    intro s r r' f h acc d
    cases s with
    | agg l => cases l <;> simp only [pickT] at h <;> cases h; rfl
    | dat nw u v => cases u <;> simp only [pickT] at h <;> cases h; rfl
    | _ => simp only [pickT] at h; cases h
  | cons a b iha ihb =>
    intro s r r' f h acc d
    cases s with
    | agg l =>
      cases l with
      | nil => simp only [pickT] at h; cases h
      | cons x l =>
        simp only [pickT] at h
        split at h
        · rename_i r1 f1 e0 e1
          split at h
          · rename_i r2 f2 e2
            cases h
            simp only [rest, iha _ _ _ _ e1, ihb _ _ _ _ e2]
          · cases h
        · cases h
    | dat nw u v =>
      cases u with
      | pair t u =>
        simp only [pickT] at h
        split at h
        · rename_i r1 f1 e0 e1
          split at h
          · rename_i r2 f2 e2
            cases h
            simp only [rest, iha _ _ _ _ e1, ihb _ _ _ _ e2]
          · cases h
        · cases h
      | _ => simp only [pickT] at h; cases h
    | _ => simp only [pickT] at h; cases h
  | tup b ih => intro s r r' f h; cases s <;> simp [pickT] at h
  | ref id p =>
    intro s r r' f h acc d
    cases s <;> simp only [pickT] at h <;> first | (cases h; done) | skip
    split at h
    · split at h
      · rename_i e; cases h; rfl
      · cases h
    · cases h
  | refI id q =>
    intro s r r' f h acc d
    cases s with
    | ref j p =>
      cases p with
      | nil => simp only [pickT] at h; cases h
      | cons x p =>
        cases x <;> simp only [pickT] at h <;> first | (cases h; done) | skip
        split at h
        · split at h
          · rename_i e; cases h; exact dtl_dcons _ _ _ _
          · cases h
        · cases h
    | _ => simp only [pickT] at h; cases h
  | zc c =>
    intro s r r' f h acc d
    cases s <;> simp only [pickT] at h <;> first | (cases h; done) | skip
    split at h
    · cases h; rfl
    · cases h
  | nils =>
    intro s r r' f h acc d
    cases s <;> simp only [pickT] at h <;> first | (cases h; done) | skip
    cases h; rfl
  | own t id =>
    intro s r r' f h acc d
    cases s <;> simp only [pickT] at h <;> first | (cases h; done) | skip
    · split at h
      · rename_i e; cases h; rfl
      · cases h
    · split at h
      · split at h
        · rename_i e; cases h; rfl
        · cases h
      · cases h
  | sub t id =>
    intro s r r' f h acc d
    cases s <;> simp only [pickT] at h <;> first | (cases h; done) | skip
    · split at h
      · rename_i e; cases h; simp only [rest, dtl_dcons]
      · cases h
    · split at h
      · split at h
        · rename_i e; cases h; simp only [rest, dtl_dcons]
        · cases h
      · cases h
    · split at h
      · split at h
        · rename_i e; cases h; simp only [rest, dtl_dcons]
        · cases h
      · cases h
  | fn g b ih =>
    intro s r r' f h acc d
    cases s <;> simp only [pickT] at h <;> first | (cases h; done) | skip
    split at h
    · split at h
      · rename_i e; cases h; simp only [rest, ih _ _ _ _ e]
      · cases h
    · cases h
  | mp id =>
    intro s r r' f h acc d
    cases s <;> simp only [pickT] at h <;> first | (cases h; done) | skip
    split at h
    · rename_i e; cases h; rfl
    · cases h
  | it id => intro s r r' f h; cases s <;> simp [pickT] at h
structure Link (md : Bool) (c c' : Cx) (R : Rho) : Prop where
  w : c'.w = c.w
  F : ∀ b, c.F b → c'.F b
  B : md = true → c'.B = c.B ∧ ∀ i, isMine (c.ob i) = true → (c.β i).isnil = false → c.B ≤ (c.β i).blk
  kl : ∀ j, j ∈ R.kill → Live c j → c'.F (c.β j).blk
  A : ∀ i x, look R.ρ i = some x → c'.A i
  β : ∀ i j, look R.ρ i = some (some j) → c'.β i = c.β j
  βn : ∀ i, look R.ρ i = some none → c'.β i = ⟨0, 0, 0, true⟩
  ob : ∀ i j, look R.ρ i = some (some j) → c'.ob i = .gone ∨ sameShape (c.ob j) (c'.ob i)
  obn : ∀ i t, (i, t) ∈ R.nt → c'.ob i = .gone ∨ ∃ nw, c'.ob i = .slc nw t []
theorem psEq_eq : ∀ {p q : List PS}, psEq p q = true → p = q
  | [], [], _ => rfl
  | .fld i :: p, .fld j :: q, h => by
    simp only [psEq, Bool.and_eq_true] at h
    rw [Nat.eq_of_beq_eq_true h.1, psEq_eq h.2]
  | .idx i :: p, .idx j :: q, h => by
    simp only [psEq, Bool.and_eq_true] at h
    rw [Nat.eq_of_beq_eq_true h.1, psEq_eq h.2]
  | [], .fld _ :: _, h => by simp [psEq] at h
  | [], .idx _ :: _, h => by simp [psEq] at h
  | .fld _ :: _, [], h => by simp [psEq] at h
  | .idx _ :: _, [], h => by simp [psEq] at h
  | .fld _ :: _, .idx _ :: _, h => by simp [psEq] at h
  | .idx _ :: _, .fld _ :: _, h => by simp [psEq] at h
section
variable {md : Bool} {c c' : Cx} {R : Rho} (hL : Link md c c' R)
include hL
theorem Link.fn {nw mw : Bool} (h : (!nw || (md && mw)) = true) {b : Nat} (hb : c.Fn mw b) : c'.Fn nw b := by
  refine ⟨hL.F b hb.1, fun e => ?_⟩
  subst e
  simp only [Bool.not_true, Bool.false_or, Bool.and_eq_true] at h
  rw [(hL.B h.1).1]
  exact hb.2 h.2
theorem Link.data {nw mw : Bool} {ids : List Nat} {t : Ty} (hk : ∀ j ∈ ids, j ∈ R.kill) (h : flagOk md c.ob nw mw ids t = true) {v : Val t} {cs : List Value} (hr : Rep c.w (c.G mw ids) t v cs) : Rep c'.w (c'.Fn nw) t v cs := by
  cases hh : t.heapy with
  | false => exact Rep.light hh hr
  | true =>
    rw [hL.w]
    refine hr.mono (fun b hb => ?_) (fun _ _ => rfl)
    simp only [flagOk, hh, Bool.not_true, Bool.or_false] at h
    rcases hb with hb | ⟨id, hid, hl, rfl⟩
    · refine hL.fn (mw := mw) ?_ hb
      cases nw with
      | false => rfl
      | true =>
        simp only [Bool.not_true, Bool.false_or, Bool.and_eq_true] at h ⊢
        exact h.1
    · refine ⟨hL.kl id (hk id hid) hl, fun e => ?_⟩
      subst e
      simp only [Bool.not_true, Bool.false_or, Bool.and_eq_true, List.all_eq_true] at h
      obtain ⟨⟨h1, h2⟩, h3⟩ := h
      obtain ⟨h4, h5⟩ := hL.B h1
      rw [h4]
      exact h5 id (h3 id hid) hl.2
theorem Link.box {i j : Nat} (h : look R.ρ i = some (some j)) {t : Ty} {x : SV} (hb : c.ob j = .box t x) : c'.ob i = .gone ∨ ∃ y, c'.ob i = .box t y := by
  rcases hL.ob i j h with e | e
  · exact .inl e
  · rw [hb] at e
    cases hx : c'.ob i with
    | gone => exact .inl rfl
    | box u y => rw [hx] at e; simp only [sameShape] at e; subst e; exact .inr ⟨y, rfl⟩
    | slc => rw [hx] at e; simp [sameShape] at e
    | map => rw [hx] at e; simp [sameShape] at e
    | itr => rw [hx] at e; simp [sameShape] at e
theorem Link.slc {i j : Nat} (h : look R.ρ i = some (some j)) {nw : Bool} {t : Ty} {xs : List (Val t)} (hb : c.ob j = .slc nw t xs) : c'.ob i = .gone ∨ ∃ mw ys, ys.length = xs.length ∧ c'.ob i = .slc mw t ys := by
  rcases hL.ob i j h with e | e
  · exact .inl e
  · rw [hb] at e
    cases hx : c'.ob i with
    | gone => exact .inl rfl
    | slc mw u ys => rw [hx] at e; simp only [sameShape] at e; obtain ⟨e1, e2⟩ := e; subst e1; exact .inr ⟨mw, ys, e2.symm, rfl⟩
    | box => rw [hx] at e; simp [sameShape] at e
    | map => rw [hx] at e; simp [sameShape] at e
    | itr => rw [hx] at e; simp [sameShape] at e
theorem Link.map {i j : Nat} (h : look R.ρ i = some (some j)) {k : IntKind} {nw : Bool} {t : Ty} {es : List (Int × Val t)} (hb : c.ob j = .map k nw t es) : c'.ob i = .gone ∨ ∃ mw ys, c'.ob i = .map k mw t ys := by
  rcases hL.ob i j h with e | e
  · exact .inl e
  · rw [hb] at e
    cases hx : c'.ob i with
    | gone => exact .inl rfl
    | map k' mw u ys => rw [hx] at e; simp only [sameShape] at e; obtain ⟨e1, e2⟩ := e; subst e1 e2; exact .inr ⟨mw, ys, rfl⟩
    | _ => rw [hx] at e; simp [sameShape] at e
theorem Link.itr {i j : Nat} (h : look R.ρ i = some (some j)) {m : Nat} {n : Int} {l : List Int} (hb : c.ob j = .itr m n l) : c'.ob i = .gone ∨ ∃ m' n' l', c'.ob i = .itr m' n' l' := by
  rcases hL.ob i j h with e | e
  · exact .inl e
  · rw [hb] at e
    cases hx : c'.ob i with
    | gone => exact .inl rfl
    | itr m' n' l' => exact .inr ⟨m', n', l', rfl⟩
    | _ => rw [hx] at e; simp [sameShape] at e
theorem Link.gone {i j : Nat} (h : look R.ρ i = some (some j)) (hb : c.ob j = .gone) : c'.ob i = .gone := by
  rcases hL.ob i j h with e | e
  · exact e
  · rw [hb] at e; simp [sameShape] at e
theorem Link.ref {i j : Nat} {p : List PS} (h : look R.ρ i = some (some j)) {t : Ty} {cs : List Value} (hr : SRep c (.ref j p) t cs) : SRep c' (.ref i p) t cs := by
  have hA := hL.A i _ h
  have hβ := hL.β i j h
  cases hr with
  | refGone h1 h2 h3 => exact .refGone hA (hL.gone h h2) h3
  | refBox h1 h2 h3 h4 =>
    rw [← hβ]
    rcases hL.box h h2 with e | ⟨y, e⟩
    · exact .refGone hA e rfl
    · exact .refBox hA e h3 h4
  | refSlc h1 h2 h3 h4 h5 =>
    rw [← hβ]
    rcases hL.slc h h2 with e | ⟨mw, ys, e1, e⟩
    · exact .refGone hA e rfl
    · exact .refSlc hA e (by rw [e1]; exact h3) h4 h5
theorem Link.own {i j : Nat} {u : Ty} (h : look R.ρ i = some (some j)) {t : Ty} {cs : List Value} (hr : SRep c (.own u j) t cs) : SRep c' (.own u i) t cs := by
  have hA := hL.A i _ h
  have hβ := hL.β i j h
  cases hr with
  | ownGone h1 h2 h3 => exact .ownGone hA (hL.gone h h2) h3
  | own h1 h2 =>
    rw [← hβ]
    rcases hL.slc h h2 with e | ⟨mw, ys, e1, e⟩
    · exact .ownGone hA e (hdr_one _ _)
    · rw [← e1]; exact .own hA e
theorem Link.sub {i j lo hi : Nat} {u : Ty} (h : look R.ρ i = some (some j)) {t : Ty} {cs : List Value} (hr : SRep c (.sub u j lo hi) t cs) : SRep c' (.sub u i lo hi) t cs := by
  have hA := hL.A i _ h
  have hβ := hL.β i j h
  cases hr with
  | subGone h1 h2 h3 => exact .subGone hA (hL.gone h h2) h3
  | sub h1 h2 h3 h4 h5 =>
    rw [← hβ]
    rw [← hβ] at h5
    rcases hL.slc h h2 with e | ⟨mw, ys, e1, e⟩
    · exact .subGone hA e rfl
    · exact .sub hA e h3 (by rw [e1]; exact h4) h5
theorem Link.mp {i j : Nat} (h : look R.ρ i = some (some j)) {t : Ty} {cs : List Value} (hr : SRep c (.mp j) t cs) : SRep c' (.mp i) t cs := by
  have hA := hL.A i _ h
  have hβ := hL.β i j h
  cases hr with
  | mpGone h1 h2 h3 => exact .mpGone hA (hL.gone h h2) h3
  | mp h1 h2 =>
    rw [← hβ]
    rcases hL.map h h2 with e | ⟨mw, ys, e⟩
    · exact .mpGone hA e rfl
    · exact .mp hA e
theorem Link.it {i j : Nat} (h : look R.ρ i = some (some j)) {v : Value} (hr : SRepV c (.it j) v) : SRepV c' (.it i) v := by
  have hA := hL.A i _ h
  have hβ := hL.β i j h
  cases hr with
  | itGone h1 h2 => exact .itGone hA (hL.gone h h2)
  | it h1 h2 =>
    rw [← hβ]
    rcases hL.itr h h2 with e | ⟨m, n, l, e⟩
    · exact .itGone hA e
    · exact .it hA e
  | one h1 => cases h1
omit hL in
theorem zc_move {k : CK} {t : Ty} {cs : List Value} (h : SRep c (.zc k) t cs) : SRep c' (.zc k) t cs := by
  cases h with
  | zptr => exact .zptr
  | zmap => exact .zmap
  | zfun => exact .zfun
theorem pickT_ok (hob : ∀ id, OK c id (c.ob id)) : ∀ (tm : Tm),
    (∀ s t cs r r' f, SRep c s t cs → pickT md c.ob tm s r = some (r', f) → RLe r' R → ∀ acc d, rest tm acc (f acc d) = d ∧ ∃ t', t'.isAgg = t.isAgg ∧ SRep c' (mk id tm acc (f acc d)) t' cs) ∧
    (isL tm = true → ∀ l vs r r' f, SReps c l vs → pickT md c.ob tm (.agg l) r = some (r', f) → RLe r' R → ∀ acc d, rest tm acc (f acc d) = d ∧ SReps c' (aggL (mk id tm acc (f acc d))) vs) := by
  intro tm
  induction tm with
  | dead => exact ⟨fun s t cs r r' f hs h => by cases s <;> simp [pickT] at h, fun h => by cases h⟩
  | dat nw t =>
    refine ⟨fun s u cs r r' f hs h hR acc d => ?_, fun h => by cases h⟩
    simp only [pickT] at h
    split at h
    · rename_i mw v e1
      split at h
      · rename_i e2
        cases h
        obtain ⟨k1, k2⟩ := toV_rep hob hs e1
        refine ⟨dtl_dcons _ _ _ _, t, k1.symm, ?_⟩
        simp only [mk, dhd_dcons]
        exact .dat (hL.data (fun j hj => hR.kill j (by simp [hj])) e2 k2)
      · cases h
    · cases h
  | «at» nw t =>
    refine ⟨fun s u cs r r' f hs h hR acc d => ?_, fun h => by cases h⟩
    cases s <;> simp only [pickT] at h <;> first | (cases h; done) | skip
    rename_i mw u' v
    split at h
    · rename_i x e1
      split at h
      · rename_i e2
        cases h
        obtain ⟨e3, e4⟩ := castV_eq e1
        subst e3
        simp at e4
        subst e4
        cases hs with
        | «at» h1 h2 h3 h4 =>
          refine ⟨dtl_dcons _ _ _ _, _, rfl, ?_⟩
          simp only [mk, dhd_dcons]
          have hfn := hL.fn e2 h1
          refine .at hfn h2 (fun j hj => by rw [hL.w]; exact h3 j hj) ?_
          rw [hL.w]
          exact h4.mono (fun b hb => hL.fn e2 hb) (fun _ _ => rfl)
      · cases h
    · cases h
  | nil =>
    refine ⟨fun s u cs r r' f hs h hR acc d => ?_, fun _ l vs r r' f hs h hR acc d => ?_⟩
    · cases s with
      | agg l =>
        cases l <;> simp only [pickT] at h <;> cases h
        cases hs
        exact ⟨rfl, .unit, rfl, .anil⟩
      | dat nw u' v =>
        cases u' <;> simp only [pickT] at h <;> cases h
        cases hs with
        | dat h1 =>
          rw [show cs = [] from h1]
          exact ⟨rfl, .unit, rfl, .anil⟩
      | _ => simp only [pickT] at h; cases h
    · cases l <;> simp only [pickT] at h <;> cases h
      cases hs
      exact ⟨rfl, .nil⟩
  | cons a b iha ihb =>
    refine ⟨fun s u cs r r' f hs h hR acc d => ?_, fun hl l vs r r' f hs h hR acc d => ?_⟩
    · cases s with
      | agg l =>
        cases l with
        | nil => simp only [pickT] at h; cases h
        | cons x l =>
          simp only [pickT] at h
          split at h
          · rename_i r1 f1 e0 e1
            split at h
            · rename_i r2 f2 e2
              cases h
              have hle := pickT_le _ _ _ _ _ e2
              cases hs with
              | acons h1 h2 =>
                obtain ⟨q1, t1, _, q2⟩ := iha.1 _ _ _ _ _ _ h1 e1 (hle.trans hR) (holes b acc) (f2 acc d)
                obtain ⟨q3, t2, _, q4⟩ := ihb.1 _ _ _ _ _ _ h2 e2 hR acc d
                refine ⟨by simp only [rest, q1, q3], .pair t1 t2, rfl, ?_⟩
                simp only [mk, q1]
                rw [mk_isL id b _ _ e0] at q4
                exact .acons q2 q4
            · cases h
          · cases h
      | dat nw u' v =>
        cases u' with
        | pair t u' =>
          simp only [pickT] at h
          split at h
          · rename_i r1 f1 e0 e1
            split at h
            · rename_i r2 f2 e2
              cases h
              have hle := pickT_le _ _ _ _ _ e2
              cases hs with
              | dat h1 =>
                obtain ⟨q1, t1, _, q2⟩ := iha.1 _ _ _ _ _ _ (.dat h1.1) e1 (hle.trans hR) (holes b acc) (f2 acc d)
                obtain ⟨q3, t2, _, q4⟩ := ihb.1 _ _ _ _ _ _ (.dat h1.2) e2 hR acc d
                refine ⟨by simp only [rest, q1, q3], .pair t1 t2, rfl, ?_⟩
                simp only [mk, q1]
                rw [mk_isL id b _ _ e0] at q4
                have := SRep.acons q2 q4
                rwa [List.take_append_drop] at this
            · cases h
          · cases h
        | _ => simp only [pickT] at h; cases h
      | _ => simp only [pickT] at h; cases h
    · cases l with
      | nil => simp only [pickT] at h; cases h
      | cons x l =>
        simp only [pickT] at h
        split at h
        · rename_i r1 f1 e0 e1
          split at h
          · rename_i r2 f2 e2
            cases h
            have hle := pickT_le _ _ _ _ _ e2
            cases hs with
            | cons h1 h2 =>
              obtain ⟨q3, q4⟩ := ihb.2 e0 _ _ _ _ _ h2 e2 hR acc d
              cases h1 with
              | vdead => cases a <;> simp [pickT, toV] at e1
              | tup h1 => cases a <;> simp [pickT, toV] at e1
              | itGone h1 h2 => cases a <;> simp [pickT, toV] at e1
              | it h1 h2 => cases a <;> simp [pickT, toV] at e1
              | one h1 =>
                obtain ⟨q1, t1, q5, q2⟩ := iha.1 _ _ _ _ _ _ h1 e1 (hle.trans hR) (holes b acc) (f2 acc d)
                refine ⟨by simp only [rest, q1, q3], ?_⟩
                simp only [mk, q1, aggL]
                refine .cons ?_ q4
                have := SRepV.one q2
                simp only [pack, q5] at this ⊢
                exact this
          · cases h
        · cases h
  | tup b ih => exact ⟨fun s t cs r r' f hs h => by cases s <;> simp [pickT] at h, fun h => by cases h⟩
  | ref i p =>
    refine ⟨fun s u cs r r' f hs h hR acc d => ?_, fun h => by cases h⟩
    cases s <;> simp only [pickT] at h <;> first | (cases h; done) | skip
    split at h
    · rename_i e0
      split at h
      · rename_i e1
        cases h
        rw [← psEq_eq e0] at hs
        exact ⟨rfl, u, rfl, hL.ref (hR.look _ _ (bind1_ok e1).2) hs⟩
      · cases h
    · cases h
  | refI i q =>
    refine ⟨fun s u cs r r' f hs h hR acc d => ?_, fun h => by cases h⟩
    cases s with
    | ref j p =>
      cases p with
      | nil => simp only [pickT] at h; cases h
      | cons x p =>
        cases x <;> simp only [pickT] at h <;> first | (cases h; done) | skip
        split at h
        · rename_i e0
          split at h
          · rename_i e1
            cases h
            rw [← psEq_eq e0] at hs
            refine ⟨dtl_dcons _ _ _ _, u, rfl, ?_⟩
            simp only [mk, dhd_dcons]
            exact hL.ref (hR.look _ _ (bind1_ok e1).2) hs
          · cases h
        · cases h
    | _ => simp only [pickT] at h; cases h
  | zc k =>
    refine ⟨fun s u cs r r' f hs h hR acc d => ?_, fun h => by cases h⟩
    cases s <;> simp only [pickT] at h <;> first | (cases h; done) | skip
    split at h
    · rename_i e
      cases h
      rename_i k'
      refine ⟨rfl, u, rfl, ?_⟩
      simp only [mk]
      rw [ckEq_eq e]
      exact zc_move hs
    · cases h
  | nils =>
    refine ⟨fun s u cs r r' f hs h hR acc d => ?_, fun h => by cases h⟩
    cases s <;> simp only [pickT] at h <;> first | (cases h; done) | skip
    cases h
    cases hs
    exact ⟨rfl, _, rfl, .nils⟩
  | own t i =>
    refine ⟨fun s u cs r r' f hs h hR acc d => ?_, fun h => by cases h⟩
    cases s <;> simp only [pickT] at h <;> first | (cases h; done) | skip
    · split at h
      · rename_i e
        cases h
        cases hs
        obtain ⟨_, k1, k2⟩ := bindNil_ok e
        have hA := hL.A i _ (hR.look _ _ k1)
        refine ⟨rfl, .slice t, rfl, ?_⟩
        simp only [mk, id]
        rcases hL.obn i t (hR.nt _ k2) with e | ⟨nw, e⟩
        · exact .ownGone hA e rfl
        · have := SRep.own hA e
          rw [hL.βn i (hR.look _ _ k1)] at this
          exact this
      · cases h
    · split at h
      · rename_i e0
        split at h
        · rename_i e1
          cases h
          rw [tyEq_eq e0] at hs
          exact ⟨rfl, u, rfl, hL.own (hR.look _ _ (bind1_ok e1).2) hs⟩
        · cases h
      · cases h
  | sub t i =>
    refine ⟨fun s u cs r r' f hs h hR acc d => ?_, fun h => by cases h⟩
    cases s <;> simp only [pickT] at h <;> first | (cases h; done) | skip
    · split at h
      · rename_i e
        cases h
        cases hs
        obtain ⟨_, k1, k2⟩ := bindNil_ok e
        have hA := hL.A i _ (hR.look _ _ k1)
        refine ⟨by simp only [rest, dtl_dcons], .slice t, rfl, ?_⟩
        simp only [mk, dhd_dcons, dtl_dcons, id]
        rcases hL.obn i t (hR.nt _ k2) with e | ⟨nw, e⟩
        · exact .subGone hA e rfl
        · have := SRep.sub (lo := 0) (hi := 0) (a := none) hA e (Nat.le_refl _) (Nat.zero_le _) (by rw [hL.βn i (hR.look _ _ k1)]; rfl)
          rw [hL.βn i (hR.look _ _ k1)] at this
          exact this
      · cases h
    · split at h
      · rename_i e0 eob
        split at h
        · rename_i e1
          cases h
          rw [tyEq_eq e0] at hs
          refine ⟨by simp only [rest, dtl_dcons], u, rfl, ?_⟩
          simp only [mk, dhd_dcons, dtl_dcons]
          refine hL.sub (hR.look _ _ (bind1_ok e1).2) ?_
          cases hs with
          | ownGone h1 h2 _ => rw [h2] at eob; cases eob
          | own h1 h2 =>
            rw [h2] at eob
            cases eob
            have key : ∀ (j : Nat) (nw : Bool) (xs : List (Val t)), c.ob j = .slc nw t xs → OK c j (.slc nw t xs) := fun j nw xs e => e ▸ hob j
            have hok := key _ _ _ h2
            have := SRep.sub h1 h2 (Nat.zero_le _) (Nat.le_refl _) rfl
            have e2 : ∀ (k : Conc) (m : Nat), ((k.isnil = true ∧ k.cap = 0 ∧ m = 0) ∨ k.isnil = false) → hdr k m = .slice (subAddr k 0 t.size) (m - 0) (k.cap - 0) := by
              intro k m hk
              rcases hk with ⟨k1, k2, k3⟩ | k1
              · simp only [hdr, subAddr, k1, k2, k3, Nat.sub_zero]
              · simp only [hdr, subAddr, k1, Nat.sub_zero, Nat.zero_mul, ite_self, Nat.add_zero]
            rw [e2 _ _ (by
              obtain ⟨_, ⟨k1, k2, k3⟩ | ⟨k1, _⟩⟩ := hok
              · exact .inl ⟨k1, k2, by rw [k3]; rfl⟩
              · exact .inr k1)]
            exact this
        · cases h
      · cases h
    · split at h
      · rename_i e0
        split at h
        · rename_i e1
          cases h
          rw [tyEq_eq e0] at hs
          refine ⟨by simp only [rest, dtl_dcons], u, rfl, ?_⟩
          simp only [mk, dhd_dcons, dtl_dcons]
          exact hL.sub (hR.look _ _ (bind1_ok e1).2) hs
        · cases h
      · cases h
  | fn g b ih =>
    refine ⟨fun s u cs r r' f hs h hR acc d => ?_, fun h => by cases h⟩
    cases s <;> simp only [pickT] at h <;> first | (cases h; done) | skip
    split at h
    · rename_i e0
      simp only [Bool.and_eq_true] at e0
      split at h
      · rename_i e1
        cases h
        cases hs with
        | fn h1 =>
          obtain ⟨q1, q2⟩ := ih.2 e0.2 _ _ _ _ _ h1 e1 hR acc d
          refine ⟨by simp only [rest, q1], _, rfl, ?_⟩
          simp only [mk]
          rw [← Nat.eq_of_beq_eq_true e0.1]
          exact .fn q2
      · cases h
    · cases h
  | mp i =>
    refine ⟨fun s u cs r r' f hs h hR acc d => ?_, fun h => by cases h⟩
    cases s <;> simp only [pickT] at h <;> first | (cases h; done) | skip
    split at h
    · rename_i e1
      cases h
      exact ⟨rfl, u, rfl, hL.mp (hR.look _ _ (bind1_ok e1).2) hs⟩
    · cases h
  | it i => exact ⟨fun s t cs r r' f hs h => by cases s <;> simp [pickT] at h, fun h => by cases h⟩
end
end Go.Sx
