/- The symbolic executor's meaning: matching a state with a shape. -/
import Derived.Test.YteghkndbngddgaaGreatSyB
set_option linter.unusedVariables false
namespace Go.Sx
open Go.RowKit
theorem look_used : ∀ {l : List (Nat × Option Nat)} {i j : Nat}, look l i = some (some j) → usedIn l j = true
  | [], i, j, h => by simp [look] at h
  | (k, some v) :: l, i, j, h => by
    rw [look_cons] at h
    simp only [usedIn]
    by_cases e : v = j
    · subst e; simp
    · rw [show Nat.beq v j = false by rw [Bool.eq_false_iff]; intro h; exact e (Nat.eq_of_beq_eq_true h), cond_false]
      by_cases e2 : k = i
      · rw [if_pos e2] at h; simp at h; exact absurd h e
      · rw [if_neg e2] at h; exact look_used h
  | (k, none) :: l, i, j, h => by
    rw [look_cons] at h
    simp only [usedIn]
    by_cases e2 : k = i
    · rw [if_pos e2] at h; simp at h
    · rw [if_neg e2] at h; exact look_used h
theorem look_inj : ∀ {l : List (Nat × Option Nat)}, injB l = true → ∀ {i i' j : Nat}, look l i = some (some j) → look l i' = some (some j) → i = i'
  | [], _, i, i', j, h, _ => by simp [look] at h
  | (k, some v) :: l, hb, i, i', j, h, h' => by
    simp only [injB, Bool.and_eq_true] at hb
    rw [look_cons] at h h'
    by_cases e : k = i <;> by_cases e' : k = i'
    · omega
    · rw [if_pos e] at h; rw [if_neg e'] at h'
      simp at h; subst h
      have := look_used h'
      rw [this] at hb; simp at hb
    · rw [if_neg e] at h; rw [if_pos e'] at h'
      simp at h'; subst h'
      have := look_used h
      rw [this] at hb; simp at hb
    · rw [if_neg e] at h; rw [if_neg e'] at h'
      exact look_inj hb.2 h h'
  | (k, none) :: l, hb, i, i', j, h, h' => by
    simp only [injB] at hb
    rw [look_cons] at h h'
    by_cases e : k = i
    · rw [if_pos e] at h; simp at h
    · by_cases e' : k = i'
      · rw [if_pos e'] at h'; simp at h'
      · rw [if_neg e] at h; rw [if_neg e'] at h'
        exact look_inj hb h h'
theorem look_mem : ∀ {l : List (Nat × Option Nat)} {i : Nat} {x : Option Nat}, look l i = some x → ∃ p ∈ l, p.1 = i
  | [], i, x, h => by simp [look] at h
  | (k, v) :: l, i, x, h => by
    rw [look_cons] at h
    by_cases e : k = i
    · exact ⟨(k, v), by simp, e⟩
    · rw [if_neg e] at h
      obtain ⟨p, h1, h2⟩ := look_mem h
      exact ⟨p, by simp [h1], h2⟩
theorem look_fix0 : ∀ {l : List Nat} {i : Nat}, i ∈ l → look (fix0 l) i = some (some i)
  | [], i, h => by simp at h
  | k :: l, i, h => by
    simp only [fix0, look_cons]
    by_cases e : k = i
    · subst e; simp
    · rw [if_neg e]; exact look_fix0 (by simpa [show i ≠ k from fun h => e h.symm] using h)
section
variable {md : Bool}
theorem pickV_le {ob : Nat → Obj} {t : Tm} {s : SV} {r r' : Rho} {f : (acc : List H) → Dl acc → Dl (holes t acc)} (h : pickV md ob t s r = some (r', f)) : RLe r r' := by
  cases t with
  | dead => simp only [pickV] at h; cases h; exact .refl _
  | tup b =>
    cases s <;> simp only [pickV] at h <;> first
      | exact pickT_le _ _ _ _ _ h
      | (split at h
         · split at h
           · rename_i e; cases h; exact pickT_le _ _ _ _ _ e
           · cases h
         · cases h)
  | it i =>
    cases s <;> simp only [pickV] at h <;> first
      | exact pickT_le _ _ _ _ _ h
      | (split at h
         · rename_i e; cases h; exact (bind1_ok e).1
         · cases h)
  | _ => simp only [pickV] at h; exact pickT_le _ _ _ _ _ h
theorem pickS_le {ob : Nat → Obj} {sl : Nat → SV} : ∀ {l : List (Nat × Tm)} {r r' : Rho} {f : (acc : List H) → Dl acc → Dl (holesS l acc)}, pickS md ob sl l r = some (r', f) → RLe r r'
  | [], r, r', f, h => by simp only [pickS] at h; cases h; exact .refl _
  | (k, t) :: l, r, r', f, h => by
    simp only [pickS] at h
    split at h
    · rename_i e1
      split at h
      · rename_i e2
        cases h
        exact (pickV_le e1).trans (pickS_le e2)
      · cases h
    · cases h
theorem pickO_le {ob : Nat → Obj} {o : OT} {x : Obj} {r r' : Rho} {f : (acc : List H) → Dl acc → Dl (holesO o acc)} (h : pickO md ob o x r = some (r', f)) : RLe r r' := by
  cases o <;> cases x <;> simp only [pickO] at h <;> first | (cases h; done) | skip
  · split at h
    · split at h
      · rename_i e; cases h; exact pickT_le _ _ _ _ _ e
      · cases h
    · cases h
  · split at h
    · cases h; exact .refl _
    · cases h
  · split at h
    · cases h; exact .refl _
    · cases h
  · split at h
    · rename_i e; cases h; exact (bind1_ok e).1
    · cases h
theorem pickB_le {ob : Nat → Obj} : ∀ {l : List (Nat × OT)} {r r' : Rho} {f : (acc : List H) → Dl acc → Dl (holesB l acc)}, pickB md ob l r = some (r', f) → RLe r r'
  | [], r, r', f, h => by simp only [pickB] at h; cases h; exact .refl _
  | (k, o) :: l, r, r', f, h => by
    simp only [pickB] at h
    split at h
    · split at h
      · rename_i e1
        split at h
        · rename_i e2
          cases h
          exact (pickO_le e1).trans (pickB_le e2)
        · cases h
      · cases h
    · split at h
      · split at h
        · rename_i e2
          cases h
          exact pickB_le e2
        · cases h
      all_goals cases h
    · cases h
theorem castMap {j k : IntKind} {t u : Ty} {xs : List (Int × Val u)} {x : List (Int × Val t)} (h : castV (.slice (.pair (.int j) u)) (.slice (.pair (.int k) t)) xs = some x) : j = k ∧ u = t ∧ HEq xs x := by
  obtain ⟨e1, e2⟩ := castV_eq h
  have e3 := e1
  simp at e3
  obtain ⟨e0, e3⟩ := e3
  subst e0 e3
  simp at e2; subst e2
  exact ⟨rfl, rfl, HEq.rfl⟩
theorem castSlc {t u : Ty} {xs : List (Val u)} {x : List (Val t)} (h : castV (.slice u) (.slice t) xs = some x) : u = t ∧ HEq xs x := by
  obtain ⟨e1, e2⟩ := castV_eq h
  simp at e1; subst e1
  simp at e2; subst e2
  exact ⟨rfl, HEq.rfl⟩
def Found (md : Bool) (ob : Nat → Obj) (R : Rho) (i : Nat) (x : Obj) : Prop :=
  (∃ j, look R.ρ i = some (some j) ∧ sameShape (ob j) x ∧ (isMine x = true → md = true ∧ isMine (ob j) = true)) ∨ (look R.ρ i = some none ∧ ∃ nw t, x = .slc nw t [] ∧ ∀ t', (i, t') ∈ R.nt → t' = t)
theorem ntOk_spec : ∀ {l : List (Nat × Ty)} {i : Nat} {t t' : Ty}, ntOk l i t = true → (i, t') ∈ l → t' = t
  | [], i, t, t', h, hm => by simp at hm
  | (k, u) :: l, i, t, t', h, hm => by
    simp only [ntOk, Bool.and_eq_true] at h
    simp only [List.mem_cons, Prod.mk.injEq] at hm
    rcases hm with ⟨rfl, rfl⟩ | hm
    · have := h.1
      rw [show Nat.beq i i = true by simp, cond_true] at this
      exact tyEq_eq this
    · exact ntOk_spec h.2 hm
theorem pickB_found {ob : Nat → Obj} {R : Rho} : ∀ {l : List (Nat × OT)} {r r' : Rho} {f : (acc : List H) → Dl acc → Dl (holesB l acc)}, pickB md ob l r = some (r', f) → RLe r' R → ∀ (acc : List H) (d : Dl acc) (g : Nat → Obj) (i : Nat),
    ups g (mkB id l acc (f acc d)) i = g i ∨ Found md ob R i (ups g (mkB id l acc (f acc d)) i)
  | [], r, r', f, h, hR, acc, d, g, i => .inl rfl
  | (k, o) :: l, r, r', f, h, hR, acc, d, g, i => by
    simp only [pickB] at h
    split at h
    · rename_i j hj
      split at h
      · rename_i r1 f1 e1
        split at h
        · rename_i r2 f2 e2
          cases h
          have hle := (pickO_le e1).trans (pickB_le e2)
          have hjR := hR.look _ _ (hle.look _ _ hj)
          simp only [mkB, ups]
          have hrest : restO o (holesB l acc) (f1 _ (f2 acc d)) = f2 acc d ∧ sameShape (ob j) (mkO id o (holesB l acc) (f1 _ (f2 acc d))) ∧ (isMine (mkO id o (holesB l acc) (f1 _ (f2 acc d))) = true → md = true ∧ isMine (ob j) = true) := by
            cases hx : ob j with
            | gone => rw [hx] at e1; cases o <;> simp [pickO] at e1
            | box u x =>
              rw [hx] at e1
              cases o with
              | slc => simp [pickO] at e1
              | map => simp [pickO] at e1
              | itr => simp [pickO] at e1
              | box t c =>
                simp only [pickO] at e1
                split at e1
                · rename_i e0
                  simp only [Bool.and_eq_true] at e0
                  split at e1
                  · rename_i e3
                    cases e1
                    refine ⟨?_, by simp only [mkO, sameShape]; exact tyEq_eq e0.1, by simp [mkO, isMine]⟩
                    exact pickT_rest _ _ _ _ _ e3 _ _
                  · cases e1
                · cases e1
            | slc mw u xs =>
              rw [hx] at e1
              cases o with
              | box => simp [pickO] at e1
              | map => simp [pickO] at e1
              | itr => simp [pickO] at e1
              | slc nw t =>
                simp only [pickO] at e1
                split at e1
                · rename_i x e3 e4
                  cases e1
                  obtain ⟨rfl, e5⟩ := castSlc e3
                  have e5 := eq_of_heq e5
                  subst e5
                  refine ⟨by simp only [restO, dtl_dcons], by simp only [mkO, dhd_dcons, sameShape]; exact ⟨trivial, trivial⟩, fun hm => ?_⟩
                  simp only [mkO, isMine] at hm ⊢
                  rw [hm] at e4
                  simp only [Bool.not_true, Bool.false_or, Bool.and_eq_true] at e4
                  exact e4
                · cases e1
            | map k' mw u es =>
              rw [hx] at e1
              cases o with
              | map k'' nw t =>
                simp only [pickO] at e1
                split at e1
                · rename_i x e3 e4
                  cases e1
                  obtain ⟨rfl, rfl, e5⟩ := castMap e3
                  have e5 := eq_of_heq e5
                  subst e5
                  exact ⟨by simp only [restO, dtl_dcons], by simp only [mkO, dhd_dcons, sameShape]; exact ⟨trivial, trivial⟩, fun hm => by simp [mkO, isMine] at hm⟩
                · cases e1
              | _ => simp [pickO] at e1
            | itr m n l =>
              rw [hx] at e1
              cases o with
              | itr m' =>
                simp only [pickO] at e1
                split at e1
                · cases e1
                  exact ⟨by simp only [restO, dtl_dcons], by simp only [mkO, dhd_dcons, sameShape], fun hm => by simp [mkO, isMine] at hm⟩
                · cases e1
              | _ => simp [pickO] at e1
          rw [hrest.1]
          rcases pickB_found e2 hR acc d (up g (id k) (mkO id o (holesB l acc) (f1 _ (f2 acc d)))) i with e | e
          · rw [e]
            by_cases ek : i = k
            · subst ek
              rw [show up g (id i) _ i = _ from up_same _ _ _]
              exact .inr (.inl ⟨j, hjR, hrest.2.1, hrest.2.2⟩)
            · rw [up_ne g _ (show i ≠ id k from ek)]; exact .inl rfl
          · exact .inr e
        · cases h
      · cases h
    · rename_i hj
      split at h
      · rename_i nw t
        split at h
        · rename_i r2 f2 e0 e2
          cases h
          have hle := pickB_le e2
          have hjR := hR.look _ _ (hle.look _ _ hj)
          simp only [mkB, ups, mkO, dhd_dcons, restO, dtl_dcons]
          rcases pickB_found e2 hR acc d (up g (id k) (.slc nw t [])) i with e | e
          · rw [e]
            by_cases ek : i = k
            · subst ek
              rw [show up g (id i) _ i = _ from up_same _ _ _]
              exact .inr (.inr ⟨hjR, nw, t, rfl, fun t' ht => ntOk_spec e0 ((hle.trans hR).ntb _ ht ⟨_, hj⟩)⟩)
            · rw [up_ne g _ (show i ≠ id k from ek)]; exact .inl rfl
          · exact .inr e
        · cases h
      all_goals cases h
    · cases h
theorem pickV_ok {c c' : Cx} {R : Rho} (hL : Link md c c' R) (hob : ∀ id, OK c id (c.ob id)) {t : Tm} {s : SV} {v : Value} {r r' : Rho} {f : (acc : List H) → Dl acc → Dl (holes t acc)} (hs : SRepV c s v)
    (h : pickV md c.ob t s r = some (r', f)) (hR : RLe r' R) (acc : List H) (d : Dl acc) : rest t acc (f acc d) = d ∧ SRepV c' (mk id t acc (f acc d)) v := by
  have norm : ∀ {f : (acc : List H) → Dl acc → Dl (holes t acc)}, pickT md c.ob t s r = some (r', f) → rest t acc (f acc d) = d ∧ SRepV c' (mk id t acc (f acc d)) v := by
    intro f h
    cases hs with
    | vdead => cases t <;> simp [pickT, toV] at h
    | tup h1 => cases t <;> simp [pickT, toV] at h
    | itGone h1 h2 => cases t <;> simp [pickT, toV] at h
    | it h1 h2 => cases t <;> simp [pickT, toV] at h
    | one h1 =>
      obtain ⟨q1, t', q2, q3⟩ := (pickT_ok hL hob t).1 _ _ _ _ _ _ h1 h hR acc d
      refine ⟨q1, ?_⟩
      have := SRepV.one q3
      simp only [pack, q2] at this ⊢
      exact this
  cases t with
  | dead => simp only [pickV] at h; cases h; exact ⟨rfl, .vdead⟩
  | tup b =>
    cases s with
    | tup l =>
      simp only [pickV] at h
      split at h
      · rename_i e0
        split at h
        · rename_i e1
          cases h
          cases hs with
          | tup h1 =>
            obtain ⟨q1, q2⟩ := (pickT_ok hL hob b).2 e0 _ _ _ _ _ h1 e1 hR acc d
            exact ⟨q1, .tup q2⟩
          | one h1 => cases h1
        · cases h
      · cases h
    | _ => simp only [pickV] at h; exact norm h
  | it i =>
    cases s with
    | it j =>
      simp only [pickV] at h
      split at h
      · rename_i e
        cases h
        exact ⟨rfl, hL.it (hR.look _ _ (bind1_ok e).2) hs⟩
      · cases h
    | _ => simp only [pickV] at h; exact norm h
  | _ => simp only [pickV] at h; exact norm h
theorem pickS_ok {c c' : Cx} {R : Rho} (hL : Link md c c' R) (hob : ∀ id, OK c id (c.ob id)) {sl : Nat → SV} {vs : Nat → Value} (hv : ∀ k, SRepV c (sl k) (vs k)) : ∀ {l : List (Nat × Tm)} {r r' : Rho} {f : (acc : List H) → Dl acc → Dl (holesS l acc)},
    pickS md c.ob sl l r = some (r', f) → RLe r' R → ∀ (acc : List H) (d : Dl acc) (g : Nat → SV), (∀ k, SRepV c' (g k) (vs k)) → restS l acc (f acc d) = d ∧ ∀ k, SRepV c' (ups g (mkS id l acc (f acc d)) k) (vs k)
  | [], r, r', f, h, hR, acc, d, g, hg => by simp only [pickS] at h; cases h; exact ⟨rfl, hg⟩
  | (k, t) :: l, r, r', f, h, hR, acc, d, g, hg => by
    simp only [pickS] at h
    split at h
    · rename_i r1 f1 e1
      split at h
      · rename_i r2 f2 e2
        cases h
        obtain ⟨q1, q2⟩ := pickV_ok hL hob (hv k) e1 ((pickS_le e2).trans hR) (holesS l acc) (f2 acc d)
        obtain ⟨q3, q4⟩ := pickS_ok hL hob hv e2 hR acc d (up g k (mk id t (holesS l acc) (f1 _ (f2 acc d)))) (fun j => by
          by_cases e : j = k
          · subst e; rw [up_same]; exact q2
          · rw [up_ne _ _ e]; exact hg j)
        simp only [restS, mkS, ups, q1]
        exact ⟨q3, q4⟩
      · cases h
    · cases h
theorem pickO_ok {c c' : Cx} {R : Rho} (hL : Link md c c' R) (hob : ∀ id, OK c id (c.ob id)) {o : OT} {i j : Nat} {r r' : Rho} {f : (acc : List H) → Dl acc → Dl (holesO o acc)} (h : pickO md c.ob o (c.ob j) r = some (r', f)) (hR : RLe r' R)
    (hj : look R.ρ i = some (some j)) (acc : List H) (d : Dl acc) : restO o acc (f acc d) = d ∧ OK c' i (mkO id o acc (f acc d)) := by
  have hok := hob j
  cases hx : c.ob j with
  | gone => rw [hx] at h; cases o <;> simp [pickO] at h
  | box u x =>
    rw [hx] at h hok
    cases o with
    | slc => simp [pickO] at h
    | map => simp [pickO] at h
    | itr => simp [pickO] at h
    | box t tm =>
      simp only [pickO] at h
      split at h
      · rename_i e0
        simp only [Bool.and_eq_true] at e0
        split at h
        · rename_i e1
          cases h
          obtain ⟨k1, cs, e, k2, k3⟩ := hok
          obtain ⟨q1, t', q2, q3⟩ := (pickT_ok hL hob tm).1 _ _ _ _ _ _ k3 e1 hR acc d
          refine ⟨q1, ?_⟩
          refine ⟨by rw [hL.β i j hj]; exact k1, cs, e, by rw [hL.β i j hj, hL.w]; exact k2, (fits_rep q3 (mk_fits id tm acc _ t e0.2)).1⟩
        · cases h
      · cases h
  | slc mw u xs =>
    rw [hx] at h hok
    cases o with
    | box => simp [pickO] at h
    | map => simp [pickO] at h
    | itr => simp [pickO] at h
    | slc nw t =>
      simp only [pickO] at h
      split at h
      · rename_i x e3 e4
        cases h
        obtain ⟨rfl, e5⟩ := castSlc e3
        have e5 := eq_of_heq e5
        subst e5
        refine ⟨dtl_dcons _ _ _ _, ?_⟩
        simp only [mkO, dhd_dcons]
        obtain ⟨k0, k1 | ⟨k1, k2, arr, e, k3, k4, k5⟩⟩ := hok
        · exact ⟨k0, .inl (by rw [hL.β i j hj]; exact k1)⟩
        · refine ⟨k0, .inr ⟨by rw [hL.β i j hj]; exact k1, by rw [hL.β i j hj]; exact k2, arr, e, by rw [hL.β i j hj, hL.w]; exact k3, by rw [hL.β i j hj]; exact k4, fun m hm => ?_⟩⟩
          obtain ⟨ds, k6, k7, k8⟩ := k5 m hm
          refine ⟨ds, k6, fun q hq => by rw [hL.β i j hj]; exact k7 q hq, ?_⟩
          rw [hL.w]
          exact k8.mono (fun b hb => hL.fn e4 hb) (fun _ _ => rfl)
      · cases h
  | map k' mw u es =>
    rw [hx] at h hok
    cases o with
    | map k'' nw t =>
      simp only [pickO] at h
      split at h
      · rename_i x e3 e4
        cases h
        obtain ⟨rfl, rfl, e5⟩ := castMap e3
        have e5 := eq_of_heq e5
        subst e5
        refine ⟨dtl_dcons _ _ _ _, ?_⟩
        simp only [mkO, dhd_dcons]
        obtain ⟨k1, arr, k2, k3, k4⟩ := hok
        refine ⟨by rw [hL.β i j hj]; exact k1, arr, by rw [hL.β i j hj, hL.w]; exact k2, k3, fun m y hy => ?_⟩
        obtain ⟨e, cs, q1, q2, q3, q4, q5, q6, q7⟩ := k4 m y hy
        refine ⟨e, cs, q1, q2, q3, q4, q5, q6, ?_⟩
        rw [hL.w]
        exact q7.mono (fun b hb => hL.fn e4 hb) (fun _ _ => rfl)
      · cases h
    | _ => simp [pickO] at h
  | itr m n l =>
    rw [hx] at h hok
    cases o with
    | itr m' =>
      simp only [pickO] at h
      split at h
      · rename_i e1
        cases h
        have hm := hR.look _ _ (bind1_ok e1).2
        refine ⟨dtl_dcons _ _ _ _, ?_⟩
        simp only [mkO, dhd_dcons]
        obtain ⟨k1, k2, k3⟩ := hok
        refine ⟨by rw [hL.β i j hj]; exact k1, hL.A _ _ hm, ?_⟩
        rcases k3 with k3 | k3
        · exact .inl (hL.gone hm k3)
        · exact .inr (by rw [hL.β i j hj, hL.w, show c'.β (id m') = c.β m from hL.β _ _ hm]; exact k3)
      · cases h
    | _ => simp [pickO] at h
theorem pickB_ok {c c' : Cx} {R : Rho} (hL : Link md c c' R) (hob : ∀ id, OK c id (c.ob id)) : ∀ {l : List (Nat × OT)} {r r' : Rho} {f : (acc : List H) → Dl acc → Dl (holesB l acc)}, pickB md c.ob l r = some (r', f) → RLe r' R →
    ∀ (acc : List H) (d : Dl acc) (g : Nat → Obj), (∀ i, OK c' i (g i)) → restB l acc (f acc d) = d ∧ ∀ i, OK c' i (ups g (mkB id l acc (f acc d)) i)
  | [], r, r', f, h, hR, acc, d, g, hg => by simp only [pickB] at h; cases h; exact ⟨rfl, hg⟩
  | (k, o) :: l, r, r', f, h, hR, acc, d, g, hg => by
    simp only [pickB] at h
    split at h
    · rename_i j hj
      split at h
      · rename_i r1 f1 e1
        split at h
        · rename_i r2 f2 e2
          cases h
          have hle := (pickO_le e1).trans (pickB_le e2)
          obtain ⟨q1, q2⟩ := pickO_ok hL hob e1 ((pickB_le e2).trans hR) (hR.look _ _ (hle.look _ _ hj)) (holesB l acc) (f2 acc d)
          obtain ⟨q3, q4⟩ := pickB_ok hL hob e2 hR acc d (up g (id k) (mkO id o (holesB l acc) (f1 _ (f2 acc d)))) (fun i => by
            by_cases e : i = k
            · subst e; rw [show up g (id i) _ i = _ from up_same _ _ _]; exact q2
            · rw [up_ne g _ (show i ≠ id k from e)]; exact hg i)
          simp only [restB, mkB, ups, q1]
          exact ⟨q3, q4⟩
        · cases h
      · cases h
    · rename_i hj
      split at h
      · rename_i nw t
        split at h
        · rename_i r2 f2 e0 e2
          cases h
          have hle := pickB_le e2
          obtain ⟨q3, q4⟩ := pickB_ok hL hob e2 hR acc d (up g (id k) (.slc nw t [])) (fun i => by
            by_cases e : i = k
            · subst e
              rw [show up g (id i) _ i = _ from up_same _ _ _]
              refine ⟨by simp, .inl ?_⟩
              rw [hL.βn i (hR.look _ _ (hle.look _ _ hj))]
              exact ⟨rfl, rfl, rfl⟩
            · rw [up_ne g _ (show i ≠ id k from e)]; exact hg i)
          simp only [restB, mkB, ups, restO, dtl_dcons, mkO, dhd_dcons]
          exact ⟨q3, q4⟩
        · cases h
      all_goals cases h
    · cases h
def newCx (c : Cx) (R : Rho) (ob : Nat → Obj) : Cx :=
  { w := c.w, F := fun b => c.F b ∨ ∃ j ∈ R.kill, Live c j ∧ b = (c.β j).blk, B := c.B, A := fun i => ∃ x, look R.ρ i = some x,
    β := fun i => match look R.ρ i with
      | some (some j) => c.β j
      | _ => ⟨0, 0, 0, true⟩
    ob := ob }
theorem found_link {c : Cx} {R : Rho} {ob : Nat → Obj} {B' : Nat} (hf : ∀ i, ob i = .gone ∨ Found md c.ob R i (ob i)) (hB : md = true → B' = c.B ∧ ∀ i, isMine (c.ob i) = true → (c.β i).isnil = false → c.B ≤ (c.β i).blk)
    (hnt : ∀ p ∈ R.nt, look R.ρ p.1 = some none) : Link md c { newCx c R ob with B := B' } R := by
  refine ⟨rfl, fun b hb => .inl hb, hB, fun j hj hl => .inr ⟨j, hj, hl, rfl⟩, fun i x h => ⟨x, h⟩, fun i j h => ?_, fun i h => ?_, fun i j h => ?_, fun i t h => ?_⟩
  · simp only [newCx, h]
  · simp only [newCx, h]
  · rcases hf i with e | ⟨j', h1, h2, _⟩ | ⟨h1, _⟩
    · exact .inl e
    · rw [h] at h1; simp at h1; subst h1; exact .inr h2
    · rw [h] at h1; simp at h1
  · have hn := hnt _ h
    rcases hf i with e | ⟨j', h1, _⟩ | ⟨_, nw, u, h2, h3⟩
    · exact .inl e
    · rw [hn] at h1; simp at h1
    · rw [h3 t h]; exact .inr ⟨nw, h2⟩
end
end Go.Sx
