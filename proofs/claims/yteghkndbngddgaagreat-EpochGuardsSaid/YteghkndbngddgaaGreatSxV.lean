/- The symbolic executor's meaning: operations know nothing of objects that they do not name. -/
import Derived.Test.YteghkndbngddgaaGreatSxU
set_option linter.unusedVariables false
namespace Go.Sx
def ObLe (f g : Nat → Obj) : Prop := ∀ i, f i = .gone ∨ g i = f i
section
variable {f g : Nat → Obj} (hle : ObLe f g)
include hle
theorem ObLe.slc {i : Nat} {nw : Bool} {t : Ty} {xs : List (Val t)} (h : f i = .slc nw t xs) : g i = .slc nw t xs := by
  rcases hle i with e | e
  · rw [e] at h; cases h
  · rw [e, h]
theorem ObLe.box {i : Nat} {t : Ty} {x : SV} (h : f i = .box t x) : g i = .box t x := by
  rcases hle i with e | e
  · rw [e] at h; cases h
  · rw [e, h]
theorem ObLe.map {i : Nat} {k : IntKind} {nw : Bool} {t : Ty} {xs : List (Int × Val t)} (h : f i = .map k nw t xs) : g i = .map k nw t xs := by
  rcases hle i with e | e
  · rw [e] at h; cases h
  · rw [e, h]
theorem ObLe.itr {i m : Nat} {n : Int} {l : List Int} (h : f i = .itr m n l) : g i = .itr m n l := by
  rcases hle i with e | e
  · rw [e] at h; cases h
  · rw [e, h]
theorem toV_mono : ∀ {t : Ty} {x : SV} {r : Bool × Val t}, toV f t x = some r → toV g t x = some r := by
  intro t
  induction t with
  | slice t ih =>
    intro x r h
    cases x <;> simp only [toV] at h ⊢ <;> first
      | exact h
      | (split at h
         · rename_i e
           rw [hle.slc e]; exact h
         · cases h)
      | (split at h
         · rename_i e
           rw [hle.box e]; exact h
         · cases h)
      | (cases h; done)
  | pair a b iha ihb =>
    intro x r h
    cases x with
    | agg l =>
      cases l with
      | nil => simp only [toV] at h; cases h
      | cons s l =>
        simp only [toV] at h ⊢
        split at h
        · rename_i m x n y e1 e2
          rw [iha e1, ihb e2]; exact h
        · cases h
    | _ => first | exact h | (simp only [toV] at h; cases h; done) | (simp only [toV] at h ⊢; exact h)
  | _ =>
    intro x r h
    cases x <;> first | exact h | (simp only [toV] at h ⊢; exact h) | (rename_i l; cases l <;> simp only [toV] at h ⊢ <;> exact h)
theorem tyAt_mono {id : Nat} {p : List PS} {t : Ty} (h : tyAt f id p = some t) : tyAt g id p = some t := by
  unfold tyAt at h ⊢
  split at h
  · rename_i e; rw [hle.box e]; exact h
  · rename_i e; rw [hle.slc e]; exact h
  all_goals cases h
theorem isTyAt_mono {id : Nat} {p : List PS} {t : Ty} (h : isTy (tyAt f id p) t = true) : isTy (tyAt g id p) t = true := by
  have h2 := isTy_eq h
  rw [h2] at h
  rw [tyAt_mono hle h2]; exact h
theorem fieldS_mono {ty : Ty} {i : Nat} {x r : SV} (h : (fieldS f ty i x).val = some r) : (fieldS g ty i x).val = some r := by
  unfold fieldS at h ⊢
  split at h
  · split at h
    · rename_i e1 e2
      rw [isTyAt_mono hle e1, e2]; exact h
    · cases h
  · exact h
  · cases h
theorem idxS_mono {i : Int} {ty : Ty} {x r : SV} (h : (idxS f i ty x).val = some r) : (idxS g i ty x).val = some r := by
  unfold idxS at h ⊢
  split at h
  · exact h
  · split at h
    · rename_i e1 e2
      rw [hle.slc e1, e2]; exact h
    · cases h
  · split at h
    · rename_i e1 e2
      rw [hle.slc e1, e2]; exact h
    · cases h
  · split at h
    · rename_i e1 e2 e3
      rw [isTyAt_mono hle e1, e2, hle.box e3]; exact h
    · cases h
  · split at h
    · rename_i e1
      rw [isTyAt_mono hle e1]; exact h
    · cases h
  · exact h
  · cases h
theorem loadS_mono {ty : Ty} {x r : SV} (h : (loadS f ty x).val = some r) : (loadS g ty x).val = some r := by
  unfold loadS at h ⊢
  split at h
  · exact h
  · split at h
    · rename_i e1; rw [hle.box e1]; exact h
    · rename_i e1; rw [hle.slc e1]; exact h
    all_goals cases h
  · cases h
theorem storeS_mono {ty : Ty} {x y : SV} {r : Nat × Obj} (h : (storeS f ty x y).val = some r) : (storeS g ty x y).val = some r := by
  unfold storeS at h ⊢
  split at h
  · split at h
    · rename_i e1; rw [hle.box e1]; exact h
    · rename_i e1
      rw [hle.slc e1]
      simp only at h ⊢
      split at h
      · split at h
        · rename_i e2 e3
          rw [toV_mono hle e2, e3]; exact h
        · cases h
      · cases h
    all_goals cases h
  · cases h
theorem sliceS_mono {s : St} {lo hi : Option Operand} {ty : Ty} {x r : SV} (h : (sliceS f s lo hi ty x).val = some r) : (sliceS g s lo hi ty x).val = some r := by
  unfold sliceS at h ⊢
  split at h
  · exact h
  · split at h
    · rename_i e1 e2
      rw [hle.slc e1, e2]; exact h
    · cases h
  · split at h
    · rename_i e1 e2 e3
      rw [isTyAt_mono hle e1, hle.box e2, e3]; exact h
    · cases h
  · cases h
theorem lookS_mono {k : IntKind} {t : Ty} {n : Int} {x : SV} {r : SV × SV} (h : (lookS f k t n x).val = some r) : (lookS g k t n x).val = some r := by
  unfold lookS at h ⊢
  split at h
  · split at h
    · rename_i e1; rw [hle.map e1]; exact h
    · cases h
  · exact h
  · cases h
theorem updS_mono {k : IntKind} {t : Ty} {n : Int} {x y : SV} {r : Nat × Obj} (h : (updS f k t n x y).val = some r) : (updS g k t n x y).val = some r := by
  unfold updS at h ⊢
  split at h
  · split at h
    · rename_i e1
      rw [hle.map e1]
      simp only at h ⊢
      split at h
      · rename_i e2 e3 e4 e5
        rw [toV_mono hle e4, e2, e3, e5]; exact h
      · cases h
    · cases h
  · cases h
theorem rangeS_mono {id0 : Nat} {x : SV} {r : SV × List (Nat × Obj)} (h : (rangeS f id0 x).val = some r) : (rangeS g id0 x).val = some r := by
  unfold rangeS at h ⊢
  split at h
  · split at h
    · rename_i e1; rw [hle.map e1]; exact h
    · cases h
  · cases h
theorem entryS_mono {x r : SV} (h : (entryS f x).val = some r) : (entryS g x).val = some r := by
  unfold entryS at h ⊢
  split at h
  · split at h
    · rename_i e1
      rw [hle.itr e1]
      simp only at h ⊢
      split at h
      · rename_i e2; rw [hle.map e2]; exact h
      · cases h
    · cases h
  · cases h
theorem sliceX_mono {s : St} {lo hi : Option Operand} {ty : Ty} {x r : SV} (h : (sliceX f s lo hi ty x).val = some r) : (sliceX g s lo hi ty x).val = some r := by
  unfold sliceX at h ⊢
  split at h
  · exact h
  · exact sliceS_mono hle h
theorem lenS_mono {x r : SV} (h : (lenS f x).val = some r) : (lenS g x).val = some r := by
  unfold lenS at h ⊢
  split at h <;> first
    | exact h
    | (split at h
       · rename_i e1
         first | (rw [hle.slc e1]; exact h) | (rw [hle.box e1]; exact h)
       · cases h)
end
section
variable {s : St} {g : Nat → Obj} (hle : ObLe s.ob g)
include hle
theorem ev_ob (x : Operand) : ev { s with ob := g } x = ev s x := by have _ := hle; cases x <;> rfl
theorem bound_ob {d : Int} {x : Option Operand} : bound { s with ob := g } d x = bound s d x := by
  cases x with
  | none => rfl
  | some x => simp only [bound, ev_ob hle]
theorem sliceS_ob {f : Nat → Obj} {lo hi : Option Operand} {ty : Ty} {x : SV} : sliceS f { s with ob := g } lo hi ty x = sliceS f s lo hi ty x := by
  unfold sliceS
  simp only [bound_ob hle]
theorem sliceX_ob {f : Nat → Obj} {lo hi : Option Operand} {ty : Ty} {x : SV} : sliceX f { s with ob := g } lo hi ty x = sliceX f s lo hi ty x := by
  unfold sliceX
  simp only [bound_ob hle, sliceS_ob hle]
theorem buildParts_ob {ty : Ty} : ∀ {parts : List (Nat × Operand)} {l : List SV}, buildParts { s with ob := g } ty l parts = buildParts s ty l parts
  | [], l => rfl
  | (i, o) :: r, l => by
    simp only [buildParts, ev_ob hle]
    split
    · split
      · exact buildParts_ob
      · rfl
    · rfl
theorem buildList_mono {t : Ty} : ∀ {parts : List (Nat × Operand)} {nw : Bool} {l : List (Val t)} {r : Bool × List (Val t)}, buildList s t nw l parts = some r → buildList { s with ob := g } t nw l parts = some r
  | [], nw, l, r, h => h
  | (i, o) :: p, nw, l, r, h => by
    simp only [buildList, ev_ob hle] at h ⊢
    split at h
    · rename_i e1 e2
      rw [toV_mono hle e1, e2]
      simp only
      split at h
      · exact buildList_mono h
      · cases h
    · cases h
theorem buildS_mono {parts : List (Nat × Operand)} {ty : Ty} {r : SV} (h : (buildS s parts ty).val = some r) : (buildS { s with ob := g } parts ty).val = some r := by
  unfold buildS at h ⊢
  split at h
  · split at h
    · rename_i e1 e2
      rw [e1, buildList_mono hle e2]; exact h
    · cases h
  · simp only [buildParts_ob hle]
    split at h
    · split at h
      · split at h
        · rename_i e4
          rw [toV_mono hle e4]; exact h
        · cases h
      · exact h
    · cases h
  · exact h
  · cases h
theorem appendS_mono {id0 : Nat} {t : Ty} {x y : SV} {r : SV × List (Nat × Obj)} (h : (appendS s id0 t x y).val = some r) : (appendS { s with ob := g } id0 t x y).val = some r := by
  unfold appendS at h ⊢
  split at h
  · rename_i e1
    rw [toV_mono hle e1]
    simp only
    split at h
    · exact h
    · split at h
      · rename_i e2; rw [hle.slc e2]; exact h
      · cases h
    · split at h
      · rename_i e2; rw [hle.slc e2]; exact h
      · cases h
    · cases h
  · cases h
theorem callB_mono {E : Env} {id0 : Nat} {o : Oper} {b : Builtin} {xs : List Operand} {ts : List TypeId} {u : Upd} (h : (callB E s id0 o b xs ts).val = some u) : (callB E { s with ob := g } id0 o b xs ts).val = some u := by
  have bnd : ∀ {α β : Type} {p q : PR α} {F : α → PR β} {b : β}, (∀ r, p.val = some r → q.val = some r) → (p.bind F).val = some b → (q.bind F).val = some b := by
    intro α β p q F b h1 h2
    rw [PR.val_bind] at h2 ⊢
    obtain ⟨r, h3, h4⟩ := bind_some h2
    rw [h1 _ h3]
    exact h4
  cases b <;> simp only [callB] at h ⊢ <;> first
    | (cases h; done)
    | skip
  case append =>
    unfold appendB at h ⊢
    simp only [ev_ob hle]
    split at h
    · split at h
      · split at h
        · exact bnd (fun r => appendS_mono hle) h
        · cases h
      · exact h
      · cases h
    · cases h
  case cap =>
    unfold capB at h ⊢
    simp only [ev_ob hle]
    exact h
  case len =>
    unfold lenB at h ⊢
    simp only [ev_ob hle]
    split at h
    · split at h
      · split at h
        · exact bnd (fun r => lenS_mono hle) h
        · cases h
      · cases h
    · cases h
theorem plan_mono {E : Env} (hE : ∀ f ct, E.fn f = some ct → ∀ args f g id0 r, ObLe f g → (ct args f id0).val = some r → (ct args g id0).val = some r) {id0 : Nat} {o : Oper} {u : Upd}
    (h : (plan E s id0 o).val = some u) : (plan E { s with ob := g } id0 o).val = some u := by
  obtain ⟨dst, op, type, pos, after, guard⟩ := o
  have call : ∀ {f : FuncId} {args : List SV} {o : Oper}, (callS E s id0 o f args).val = some u → (callS E { s with ob := g } id0 o f args).val = some u := by
    intro f args o h
    unfold callS at h ⊢
    split at h
    · rename_i ct hct
      rw [PR.val_bind] at h ⊢
      obtain ⟨r, h1, h2⟩ := bind_some h
      rw [hE _ _ hct _ _ _ _ _ hle h1]
      exact h2
    · cases h
  have bnd : ∀ {α β : Type} {p q : PR α} {F : α → PR β} {b : β}, (∀ r, p.val = some r → q.val = some r) → (p.bind F).val = some b → (q.bind F).val = some b := by
    intro α β p q F b h1 h2
    rw [PR.val_bind] at h2 ⊢
    obtain ⟨r, h3, h4⟩ := bind_some h2
    rw [h1 _ h3]
    exact h4
  have evs : ∀ l : List Operand, l.map (ev { s with ob := g }) = l.map (ev s) := fun l => List.map_congr_left fun x _ => ev_ob hle x
  cases op <;> simp only [plan, ev_ob hle] at h ⊢ <;> first
    | exact h
    | skip
  case build t parts =>
    split at h
    · rename_i ty ht
      exact bnd (fun r => buildS_mono hle) h
    · cases h
  case buildSlice t len parts =>
    split at h
    · split at h
      · rename_i e1 e2
        rw [e1, buildList_mono hle e2]; exact h
      · cases h
    · cases h
  case load t x =>
    split at h
    · exact bnd (fun r => loadS_mono hle) h
    · cases h
  case store t x y =>
    split at h
    · exact bnd (fun r => storeS_mono hle) h
    · cases h
  case nilCheck x =>
    split at h
    · split at h
      · rename_i e1; rw [tyAt_mono hle e1]; exact h
      · cases h
    · exact h
    · cases h
  case fieldAddr t x i =>
    split at h
    · exact bnd (fun r => fieldS_mono hle) h
    · cases h
  case indexAddr t x i =>
    split at h
    · exact bnd (fun r => idxS_mono hle) h
    · cases h
  case slice t x lo hi mx =>
    split at h
    · simp only [sliceX_ob hle]
      exact bnd (fun r => sliceX_mono hle) h
    · cases h
  case lookup t m i cok =>
    split at h
    · split at h
      · exact bnd (fun r => lookS_mono hle) h
      · cases h
    · cases h
  case mapUpdate t m i x =>
    split at h
    · split at h
      · exact bnd (fun r => updS_mono hle) h
      · cases h
    · cases h
  case range t x =>
    split at h
    · exact bnd (fun r => rangeS_mono hle) h
    · cases h
  case entry x => exact bnd (fun r => entryS_mono hle) h
  case call cl =>
    simp only [evs]
    split at h
    · exact callB_mono hle h
    · exact call h
    · split at h
      · exact call h
      · cases h
    · cases h
end
section
variable {s s' : St}
theorem bound_congr {d : Int} {x : Option Operand} (h : ∀ y, x = some y → ev s y = ev s' y) : bound s d x = bound s' d x := by
  cases x with
  | none => rfl
  | some y => simp only [bound, h y rfl]
theorem sliceS_congr {f : Nat → Obj} {lo hi : Option Operand} {ty : Ty} {x : SV} (h1 : ∀ y, lo = some y → ev s y = ev s' y) (h2 : ∀ y, hi = some y → ev s y = ev s' y) : sliceS f s lo hi ty x = sliceS f s' lo hi ty x := by
  unfold sliceS
  simp only [bound_congr h1, bound_congr h2]
theorem sliceX_congr {f : Nat → Obj} {lo hi : Option Operand} {ty : Ty} {x : SV} (h1 : ∀ y, lo = some y → ev s y = ev s' y) (h2 : ∀ y, hi = some y → ev s y = ev s' y) : sliceX f s lo hi ty x = sliceX f s' lo hi ty x := by
  unfold sliceX
  simp only [bound_congr h1, bound_congr h2, sliceS_congr h1 h2]
theorem buildParts_congr {ty : Ty} : ∀ {parts : List (Nat × Operand)} {l : List SV}, (∀ p ∈ parts, ev s p.2 = ev s' p.2) → buildParts s ty l parts = buildParts s' ty l parts
  | [], l, _ => rfl
  | (i, o) :: r, l, h => by
    simp only [buildParts, h (i, o) (by simp)]
    split
    · split
      · exact buildParts_congr fun p hp => h p (by simp [hp])
      · rfl
    · rfl
theorem buildList_congr (hob : s.ob = s'.ob) {t : Ty} : ∀ {parts : List (Nat × Operand)} {nw : Bool} {l : List (Val t)}, (∀ p ∈ parts, ev s p.2 = ev s' p.2) → buildList s t nw l parts = buildList s' t nw l parts
  | [], nw, l, _ => rfl
  | (i, o) :: p, nw, l, h => by
    simp only [buildList, h (i, o) (by simp), hob]
    split
    · split
      · exact buildList_congr hob fun p hp => h p (by simp [hp])
      · rfl
    · rfl
theorem buildS_congr (hob : s.ob = s'.ob) {parts : List (Nat × Operand)} {ty : Ty} (h : ∀ p ∈ parts, ev s p.2 = ev s' p.2) : buildS s parts ty = buildS s' parts ty := by
  unfold buildS
  simp only [buildList_congr hob h, buildParts_congr h, hob]
theorem callB_congr {E : Env} (hn : s.n = s'.n) (hob : s.ob = s'.ob) {id0 : Nat} {o : Oper} {b : Builtin} {xs : List Operand} {ts : List TypeId} (h : ∀ x ∈ xs, ev s x = ev s' x) : callB E s id0 o b xs ts = callB E s' id0 o b xs ts := by
  unfold callB
  split
  · unfold lenB
    split
    · rw [h _ (by simp), hob, hn]
    · rfl
  · unfold capB
    split
    · rw [h _ (by simp), hn]
    · rfl
  · unfold appendB
    split
    · rename_i x y t t2
      rw [h x (by simp), h y (by simp), hn]
      simp only [appendS, appendZ, hob, hn]
    · rfl
  · rfl
theorem plan_congr {E : Env} (hn : s.n = s'.n) (hob : s.ob = s'.ob) {id0 : Nat} {o : Oper} (h : ∀ t, Operand.tmp t ∈ o.op.operands → s.sl t = s'.sl t) : plan E s id0 o = plan E s' id0 o := by
  obtain ⟨dst, op, type, pos, after, guard⟩ := o
  have hev : ∀ x, x ∈ op.operands → ev s x = ev s' x := by
    intro x hx
    cases x with
    | tmp t => exact h t hx
    | _ => rfl
  have hevs : ∀ l : List Operand, (∀ x ∈ l, x ∈ op.operands) → l.map (ev s) = l.map (ev s') := fun l hl => List.map_congr_left fun x hx => hev x (hl x hx)
  have hc : ∀ {f : FuncId} {args : List SV} {o : Oper}, callS E s id0 o f args = callS E s' id0 o f args := by
    intro f args o
    unfold callS
    rw [hob, hn]
  clear h
  cases op <;> simp only [plan] <;> first
    | rfl
    | skip
  case move x => rw [hev x (by simp [Op.operands]), hn]
  case assign x => rw [hev x (by simp [Op.operands]), hn]
  case box t x => rw [hev x (by simp [Op.operands]), hn]
  case load t x => rw [hev x (by simp [Op.operands]), hob, hn]
  case nilCheck x => rw [hev x (by simp [Op.operands]), hob, hn]
  case unOp op t x => rw [hev x (by simp [Op.operands]), hn]
  case convert t d x => rw [hev x (by simp [Op.operands]), hn]
  case fieldAddr t x f => rw [hev x (by simp [Op.operands]), hob, hn]
  case field t x f => rw [hev x (by simp [Op.operands]), hn]
  case extract x i => rw [hev x (by simp [Op.operands]), hn]
  case pick c x y => rw [hev c (by simp [Op.operands]), hev x (by simp [Op.operands]), hev y (by simp [Op.operands]), hn]
  case alloc t => rw [hn]
  case build t parts =>
    have hp : ∀ p ∈ parts.toList, ev s p.2 = ev s' p.2 := fun p hp => hev p.2 (by simp only [Op.operands]; simp; exact ⟨p.1, by simpa using hp⟩)
    simp only [buildS_congr hob hp, hn]
  case buildSlice t len parts =>
    have hp : ∀ p ∈ parts.toList, ev s p.2 = ev s' p.2 := fun p hp => hev p.2 (by simp only [Op.operands]; simp; exact ⟨p.1, by simpa using hp⟩)
    rw [hn]
    split
    · rw [buildList_congr hob hp]
    · rfl
  case binOp op t x y yt => rw [hev x (by simp [Op.operands]), hev y (by simp [Op.operands]), hn]
  case store t x y => rw [hev x (by simp [Op.operands]), hev y (by simp [Op.operands]), hob]
  case indexAddr t x i => rw [hev x (by simp [Op.operands]), hev i (by simp [Op.operands]), hob, hn]
  case index t x i => rw [hev x (by simp [Op.operands]), hev i (by simp [Op.operands]), hn]
  case slice t x lo hi mx =>
    rw [hev x (by simp [Op.operands]), hob, hn]
    have h1 : ∀ y, lo = some y → ev s y = ev s' y := fun y hy => hev y (by simp [Op.operands, hy])
    have h2 : ∀ y, hi = some y → ev s y = ev s' y := fun y hy => hev y (by simp [Op.operands, hy])
    simp only [sliceX_congr h1 h2]
  case makeSlice t x y => rw [hev x (by simp [Op.operands]), hev y (by simp [Op.operands]), hn]
  case makeMap t r => rw [hn]
  case lookup t m i cok => rw [hev m (by simp [Op.operands]), hev i (by simp [Op.operands]), hob, hn]
  case mapUpdate t m i x => rw [hev m (by simp [Op.operands]), hev i (by simp [Op.operands]), hev x (by simp [Op.operands]), hob]
  case range t x => rw [hev x (by simp [Op.operands]), hob, hn]
  case entry x => rw [hev x (by simp [Op.operands]), hob, hn]
  case makeFunc fn first caps =>
    rw [hevs caps.toList (fun x hx => by simp [Op.operands]; right; simpa using hx), hn]
  case call cl =>
    cases hcal : cl.callee with
    | builtin b =>
      simp only
      exact callB_congr hn hob fun x hx => hev x (by simp only [Op.operands, Call.operands, Array.mem_append]; right; simpa using hx)
    | value f =>
      have hargs : cl.args.toList.map (ev s) = cl.args.toList.map (ev s') := hevs _ (fun x hx => by simp only [Op.operands, Call.operands, Array.mem_append]; right; simpa using hx)
      cases f with
      | func f => simp only [hargs, hc]
      | tmp t =>
        have : s.sl t = s'.sl t := hev (.tmp t) (by simp [Op.operands, Call.operands, hcal])
        simp only [hargs, hc, this]
      | _ => rfl
    | invoke r m => rfl
end
end Go.Sx
