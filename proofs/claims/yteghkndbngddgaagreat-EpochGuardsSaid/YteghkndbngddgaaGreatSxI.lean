/- The symbolic executor's meaning: symbolic values read as data. -/
import Derived.Test.YteghkndbngddgaaGreatSxH
set_option linter.unusedVariables false
namespace Go.Sx
open Go.RowKit
section
variable {c : Cx}
def Cx.G (c : Cx) (nw : Bool) (l : List Nat) : Nat → Prop := fun b => c.Fn nw b ∨ ∃ id ∈ l, Live c id ∧ b = (c.β id).blk
theorem Cx.G_nil {nw : Bool} {b : Nat} (h : c.G nw [] b) : c.Fn nw b := by
  rcases h with h | ⟨id, h, _⟩
  · exact h
  · simp at h
theorem Fn_le {nw mw : Bool} (h : mw = true → nw = true) {b : Nat} (hb : c.Fn nw b) : c.Fn mw b := ⟨hb.1, fun e => hb.2 (h e)⟩
theorem Rep.wk {nw mw : Bool} (h : mw = true → nw = true) {t : Ty} {v : Val t} {cs : List Value} (hr : Rep c.w (c.Fn nw) t v cs) : Rep c.w (c.Fn mw) t v cs :=
  hr.mono (fun _ hb => Fn_le h hb) (fun _ _ => rfl)
theorem cell_block {w : World} {b : Nat} {arr : Array Value} {e : TypeId} {fr : Nat × Nat} (h : w.heap[b]? = some (.cells arr e fr)) (k : Nat) : w.cell? ⟨b, k, none⟩ = arr[k]? := by
  simp [World.cell?, h]
theorem slc_elems {id : Nat} {nw : Bool} {t : Ty} {xs : List (Val t)} (h : OK c id (.slc nw t xs)) {i : Nat} (hi : i < xs.length) :
    (c.β id).isnil = false ∧ ∃ ds : List Value, ds.length = t.size ∧ (∀ j, j < t.size → c.w.cell? ⟨(c.β id).blk, (c.β id).off + i * t.size + j, none⟩ = ds[j]?) ∧ Rep c.w (c.Fn nw) t (xs.getD i (dflt t)) ds := by
  obtain ⟨_, ⟨_, _, h⟩ | ⟨h1, _, arr, e, h2, _, h3⟩⟩ := h
  · subst h; simp at hi
  · obtain ⟨ds, h4, h5, h6⟩ := h3 i hi
    exact ⟨h1, ds, h4, fun j hj => by rw [cell_block h2]; exact h5 j hj, h6⟩
theorem getD_drop {α : Type} (xs : List α) (lo i : Nat) (d : α) : (xs.drop lo).getD i d = xs.getD (lo + i) d := by
  simp [List.getD, List.getElem?_drop]
theorem getD_take {α : Type} (xs : List α) (hi i : Nat) (d : α) (h : i < hi) : (xs.take hi).getD i d = xs.getD i d := by
  simp [List.getD, List.getElem?_take_of_lt h]
theorem toV_slice (hob : ∀ id, OK c id (c.ob id)) {t : Ty} {s : SV} {u : Ty} {cs : List Value} (h : SRep c s u cs) {nw : Bool} {x : List (Val t)} (hx : toV c.ob (.slice t) s = some (nw, x)) :
    u.isAgg = false ∧ ∃ a cap, cs = [.slice a x.length cap] ∧ x.length ≤ maxLen ∧ x.length ≤ cap ∧
      (x = [] ∨ ∃ b off, a = some ⟨b, off, none⟩ ∧ c.G nw (borrows (.slice t) s) b ∧ ∀ i, i < x.length →
        ∃ ds : List Value, ds.length = t.size ∧ (∀ j, j < t.size → c.w.cell? ⟨b, off + i * t.size + j, none⟩ = ds[j]?) ∧ Rep c.w (c.Fn nw) t (x.getD i (dflt t)) ds) := by
  cases s with
  | dat nw' u' v =>
    simp only [toV] at hx
    cases h with
    | dat h =>
      split at hx
      · rename_i y e
        simp at hx
        obtain ⟨rfl, rfl⟩ := hx
        obtain ⟨rfl, h1⟩ := castV_rep e h
        obtain ⟨a, len, cap, h2, rfl, h4, h5, h6⟩ := h1
        refine ⟨rfl, a, cap, h2, h4, h5, ?_⟩
        rcases h6 with h6 | ⟨b, off, h6, hb, h7⟩
        · exact .inl h6
        · exact .inr ⟨b, off, h6, .inl hb, h7⟩
      · cases hx
  | nils =>
    cases h
    simp [toV] at hx
    obtain ⟨rfl, rfl⟩ := hx
    exact ⟨rfl, none, 0, rfl, by simp, by simp, .inl rfl⟩
  | own t' id =>
    simp only [toV] at hx
    cases hid : c.ob id with
    | gone => rw [hid] at hx; cases hx
    | map _ _ _ _ => rw [hid] at hx; cases hx
    | itr _ _ _ => rw [hid] at hx; cases hx
    | box _ _ => rw [hid] at hx; cases hx
    | slc nw2 u2 ys =>
      rw [hid] at hx
      simp only at hx
      split at hx
      · rename_i z e
        simp at hx
        obtain ⟨rfl, rfl⟩ := hx
        obtain ⟨e1, e2⟩ := castV_eq e
        simp at e1; subst e1
        simp at e2; subst e2
        have hok := hob id
        rw [hid] at hok
        cases h with
        | ownGone _ hg => rw [hg] at hid; cases hid
        | own hA hg =>
          rw [hg] at hid; cases hid
          refine ⟨rfl, ?_⟩
          by_cases hn : (c.β id).isnil = true
          · obtain ⟨_, ⟨_, _, h0⟩ | ⟨h1, _⟩⟩ := hok
            · subst h0
              exact ⟨none, 0, by simp [hdr, hn], by simp, by simp, .inl rfl⟩
            · rw [hn] at h1; cases h1
          · have hn : (c.β id).isnil = false := by simpa using hn
            refine ⟨some ⟨(c.β id).blk, (c.β id).off, none⟩, (c.β id).cap, by simp [hdr, hn], hok.1, by obtain ⟨_, ⟨k, _⟩ | ⟨_, k, _⟩⟩ := hok <;> simp_all, .inr ⟨_, _, rfl, .inr ⟨id, by simp [borrows], ⟨by rw [hg]; simp, hn⟩, rfl⟩, fun i hi => ?_⟩⟩
            obtain ⟨_, ds, h1, h2, h3⟩ := slc_elems hok hi
            exact ⟨ds, h1, h2, h3⟩
      · cases hx
  | sub t' id lo hi =>
    simp only [toV] at hx
    cases hid : c.ob id with
    | gone => rw [hid] at hx; cases hx
    | map _ _ _ _ => rw [hid] at hx; cases hx
    | itr _ _ _ => rw [hid] at hx; cases hx
    | box _ _ => rw [hid] at hx; cases hx
    | slc nw2 u2 ys =>
      rw [hid] at hx
      simp only at hx
      split at hx
      · rename_i z e
        simp at hx
        obtain ⟨rfl, rfl⟩ := hx
        obtain ⟨e1, e2⟩ := castV_eq e
        simp at e1; subst e1
        simp at e2; subst e2
        have hok := hob id
        rw [hid] at hok
        cases h with
        | subGone _ hg => rw [hg] at hid; cases hid
        | @sub _ _ _ _ _ zs a hA hg h1 h2 h3 =>
          rw [hg] at hid; cases hid
          have hlen : ((zs.take hi).drop lo).length = hi - lo := by simp; omega
          refine ⟨rfl, a, _, by rw [hlen], by rw [hlen]; exact Nat.le_trans (Nat.le_trans (Nat.sub_le _ _) h2) hok.1, ?_, ?_⟩
          · rw [hlen]
            obtain ⟨_, ⟨_, k, k2⟩ | ⟨_, k, _⟩⟩ := hok
            · subst k2; simp at h2; omega
            · omega
          by_cases hlt : lo < hi
          · have hlen : lo < zs.length := by omega
            obtain ⟨hn, _⟩ := slc_elems hok hlen
            have hcap : lo < (c.β id).cap := by
              obtain ⟨_, ⟨hh, _⟩ | ⟨_, hh, _⟩⟩ := hok
              · rw [hn] at hh; cases hh
              · omega
            refine .inr ⟨_, _, by rw [h3]; simp only [subAddr, hn]; rw [if_neg (by omega)], .inr ⟨id, by simp [borrows], ⟨by rw [hg]; simp, hn⟩, rfl⟩, fun i hi' => ?_⟩
            simp at hi'
            obtain ⟨_, ds, k1, k2, k3⟩ := slc_elems hok (i := lo + i) (by omega)
            refine ⟨ds, k1, fun j hj => ?_, ?_⟩
            · rw [← k2 j hj, Nat.add_mul]; simp [Nat.add_assoc]
            · rw [getD_drop, getD_take _ _ _ _ (by omega)]
              exact k3
          · left
            apply List.eq_nil_of_length_eq_zero
            simp; omega
      · cases hx
  | vw t' id p n lo hi =>
    simp only [toV] at hx
    cases hid : c.ob id with
    | gone => rw [hid] at hx; cases hx
    | map _ _ _ _ => rw [hid] at hx; cases hx
    | itr _ _ _ => rw [hid] at hx; cases hx
    | slc _ _ _ => rw [hid] at hx; cases hx
    | box bt bs =>
      rw [hid] at hx
      cases bs with
      | dat nw2 u2 bv =>
        simp only at hx
        split at hx
        · rename_i n2 z ys e
          split at hx
          · rename_i y e2
            simp at hx
            obtain ⟨rfl, rfl⟩ := hx
            obtain ⟨e3, e4⟩ := castV_eq e2
            simp at e3; subst e3
            simp at e4; subst e4
            have hok := hob id
            rw [hid] at hok
            obtain ⟨hn, bcs, be, hblk, hrep⟩ := hok
            cases h with
            | vwGone _ hg => rw [hg] at hid; cases hid
            | @vw _ _ _ _ _ _ u' s' o a hA hg hp ho h1 h2 hlm h3 =>
              rw [hg] at hid; cases hid
              cases hrep with
              | dat hrep =>
                obtain ⟨o', ho', hr⟩ := hrep.get e hp
                rw [ho] at ho'
                simp at ho'
                obtain ⟨rfl, rfl, rfl⟩ := ho'
                obtain ⟨l1, l2, l3⟩ := hr
                have hlen : ((List.take hi y).drop lo).length = hi - lo := by simp; omega
                have hmx : lim ≤ maxLen := by decide
                refine ⟨rfl, a, _, by rw [hlen], by rw [hlen]; omega, by rw [hlen]; omega, ?_⟩
                by_cases hlt : lo < hi
                · refine .inr ⟨_, _, h3 (by omega), .inr ⟨id, by simp [borrows], ⟨by rw [hg]; simp, hn⟩, rfl⟩, fun i hi' => ?_⟩
                  simp at hi'
                  have k := l3 (lo + i) (by omega)
                  have hm := mul_chunk (i := lo + i) (n := n) (s := t'.size) (by omega)
                  refine ⟨_, k.len, fun j hj => ?_, ?_⟩
                  · rw [cell_block hblk, chunk_get, if_pos hj, chunk_get]
                    rw [if_pos (show (lo + i) * t'.size + j < (Ty.arr n t').size by simp only [Ty.size]; omega)]
                    simp only [List.getElem?_toArray]
                    congr 1
                    rw [Nat.add_mul]; omega
                  · rw [getD_drop, getD_take _ _ _ _ (by omega)]
                    exact k
                · left
                  apply List.eq_nil_of_length_eq_zero
                  simp; omega
          · cases hx
        · cases hx
      | _ => simp at hx
  | _ => simp [toV] at hx
theorem toV_rep (hob : ∀ id, OK c id (c.ob id)) : ∀ {t : Ty} {s : SV} {u : Ty} {cs : List Value}, SRep c s u cs → ∀ {nw : Bool} {x : Val t}, toV c.ob t s = some (nw, x) →
    u.isAgg = t.isAgg ∧ Rep c.w (c.G nw (borrows t s)) t x cs := by
  have dat : ∀ {t : Ty} {nw' : Bool} {u' : Ty} {v : Val u'} {u : Ty} {cs : List Value} {l : List Nat}, SRep c (.dat nw' u' v) u cs → ∀ {nw : Bool} {x : Val t},
      (match castV u' t v with | some x => some (nw', x) | none => none) = some (nw, x) → u.isAgg = t.isAgg ∧ Rep c.w (c.G nw l) t x cs := by
    intro t nw' u' v u cs l h nw x hx
    cases h with
    | dat h =>
      split at hx
      · rename_i y e
        simp at hx
        obtain ⟨rfl, rfl⟩ := hx
        obtain ⟨rfl, h1⟩ := castV_rep e h
        exact ⟨rfl, h1.mono (fun _ hb => .inl hb) (fun _ _ => rfl)⟩
      · cases hx
  intro t
  induction t with
  | slice t ih =>
    intro s u cs h nw x hx
    obtain ⟨h1, a, cap, h2, h3, h4, h5⟩ := toV_slice hob h hx
    refine ⟨h1, a, _, cap, h2, rfl, h3, h4, ?_⟩
    rcases h5 with h5 | ⟨b, off, h5, hb, h6⟩
    · exact .inl h5
    · refine .inr ⟨b, off, h5, hb, fun i hi => ?_⟩
      obtain ⟨ds, k1, k2, k3⟩ := h6 i hi
      exact ⟨ds, k1, k2, k3.mono (fun _ hb => .inl hb) (fun _ _ => rfl)⟩
  | pair a b iha ihb =>
    intro s u cs h nw x hx
    cases s with
    | dat nw' u' v => exact dat h (by simp only [toV] at hx; exact hx)
    | agg l =>
      cases l with
      | nil => simp [toV] at hx
      | cons s l =>
        simp only [toV] at hx
        split at hx
        · rename_i m y n z e1 e2
          simp at hx
          obtain ⟨rfl, rfl⟩ := hx
          cases h with
          | @acons _ _ a' b' x' y' h1 h2 =>
            obtain ⟨_, r1⟩ := iha h1 e1
            obtain ⟨_, r2⟩ := ihb h2 e2
            have hl := r1.len
            refine ⟨rfl, ?_, ?_⟩
            · rw [← hl, List.take_left]
              cases ha : a.heapy with
              | false => exact r1.light ha
              | true =>
                refine r1.mono (fun b hb => ?_) (fun _ _ => rfl)
                rcases hb with hb | ⟨id, hid, hb⟩
                · exact .inl (Fn_le (by simp; intro h _; exact h) hb)
                · exact .inr ⟨id, by simp [borrows, hid], hb⟩
            · rw [← hl, List.drop_left]
              cases hb' : b.heapy with
              | false => exact r2.light hb'
              | true =>
                refine r2.mono (fun b hb => ?_) (fun _ _ => rfl)
                rcases hb with hb | ⟨id, hid, hb⟩
                · exact .inl (Fn_le (by simp) hb)
                · exact .inr ⟨id, by simp [borrows, hid], hb⟩
        · cases hx
    | _ => simp [toV] at hx
  | unit =>
    intro s u cs h nw x hx
    cases s with
    | dat nw' u' v => exact dat h (by simp only [toV] at hx; exact hx)
    | agg l =>
      cases l with
      | nil =>
        simp [toV] at hx
        obtain ⟨rfl, rfl⟩ := hx
        cases h with
        | anil => exact ⟨rfl, rfl⟩
      | cons s l => simp [toV] at hx
    | _ => simp [toV] at hx
  | _ =>
    intro s u cs h nw x hx
    cases s with
    | dat nw' u' v => exact dat h (by simp only [toV] at hx; exact hx)
    | _ => simp [toV] at hx
theorem toV_val (hob : ∀ id, OK c id (c.ob id)) {t : Ty} {s : SV} {v : Value} (h : SRepV c s v) {nw : Bool} {x : Val t} (hx : toV c.ob t s = some (nw, x)) :
    ∃ cs, v = pack t cs ∧ Rep c.w (c.G nw (borrows t s)) t x cs := by
  cases h with
  | vdead => cases t <;> simp [toV] at hx
  | tup => cases t <;> simp [toV] at hx
  | itGone => cases t <;> simp [toV] at hx
  | it => cases t <;> simp [toV] at hx
  | one h =>
    obtain ⟨h1, h2⟩ := toV_rep hob h hx
    exact ⟨_, by unfold pack; rw [h1], h2⟩
end
end Go.Sx
