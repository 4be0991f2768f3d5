/- The symbolic executor's meaning: stores and append. -/
import Derived.Test.YteghkndbngddgaaGreatSxO
set_option linter.unusedVariables false
namespace Go.Sx
open Go.RowKit
section
variable {c : Cx} {s : St} {w0 : World} {Jo : Io} {a : Act} {P : Program} {tf : Nat → Option Ty} {n : Nat} {sl : Nat → SV}
theorem store_ok (hE : ∀ t ty, tf t = some ty → TyOk P tf t ty) (h : RelC c n sl w0 Jo a) {t : Nat} {ty : Ty} (ht : tf t = some ty) {x y : SV} {vx vy : Value} (hx : SRepV c x vx) (hy : SRepV c y vy)
    {id : Nat} {o' : Obj} (hs : (storeS c.ob ty x y).val = some (id, o')) :
    ∃ c', (Instr.storeAt t vy vx).run P c.w = .ok () c'.w ∧ c'.ob = up c.ob id o' ∧ RelC c' n sl w0 Jo a ∧ (∀ i, c'.A i → c.A i) := by
  have ho := hE _ _ ht
  have key : ∀ {b off : Nat} {ds : List Value} {arr : Array Value} {e : TypeId}, ds.length = ty.size → (∀ v ∈ ds, v.oneCell' = true) → c.w.heap[b]? = some (.cells arr e (0, 0)) → off + ty.size ≤ arr.size →
      (Instr.storeAt t (.pointer (some ⟨b, off, none⟩)) (pack ty ds)).run P c.w = .ok () (c.w.setRow b (splice arr.toList off ds).toArray) := by
    intro b off ds arr e hl h1 hg hf
    simp only [Instr.storeAt, Instr.sureAddr, Sem.run_bind, Sem.run_pure, Result.andThen_ok]
    exact run_storeVar ho hl h1 hg hf
  cases y with
  | ref id' p =>
    simp only [storeS] at hs
    cases hid : c.ob id' with
    | gone => rw [hid] at hs; cases hs
    | map _ _ _ _ => rw [hid] at hs; cases hs
    | itr _ _ _ => rw [hid] at hs; cases hs
    | box u s' =>
      rw [hid] at hs
      simp only at hs
      split at hs
      · rename_i oo z e1 e2
        split at hs
        · rename_i s2 e3 e4
          simp [PR.val] at hs
          obtain ⟨rfl, rfl⟩ := hs
          obtain rfl := tyEq_eq e3
          have hok := h.objs id'
          rw [hid] at hok
          obtain ⟨hn, cs, el, hblk, hrep⟩ := hok
          cases hy with
          | one hy =>
            cases hy with
            | refGone _ hg => rw [hg] at hid; cases hid
            | refSlc hA hg _ _ _ => rw [hid] at hg; cases hg
            | refBox hA hg hp ho' =>
              rw [hid] at hg; cases hg
              rw [e1] at ho'
              simp at ho'
              obtain ⟨rfl, rfl⟩ := ho'
              obtain ⟨ds, rfl, hd⟩ := fits_val hx e2
              have hset := hrep.set e4 e1 hp hd
              have hle := offT_le e1 hp
              have hl := hrep.len
              have hdl := hd.len
              let c' : Cx := { c with w := c.w.setRow (c.β id').blk (splice cs oo ds).toArray, ob := up c.ob id' (.box u s2) }
              refine ⟨c', key hd.len hd.one hblk (by simp; omega), rfl, h.modify hA ⟨by rw [hid]; simp, hn⟩ _ (.box u s2) (by rw [hid]; rfl) (fun hm => by cases hm) (by simp) (fun b hb => setRow_other _ _ _ _ hb) rfl rfl rfl c' rfl (fun he => ?_), fun i hi => hi⟩
              exact ⟨hn, _, el, setRow_heap _ _ _ _ _ _ hblk, hset.ext he⟩
        · cases hs
      · cases hs
    | slc nw u xs =>
      rw [hid] at hs
      simp only at hs
      cases p with
      | nil => cases hs
      | cons q0 q =>
        cases q0 with
        | fld f => cases hs
        | idx i =>
          simp only at hs
          split at hs
          · rename_i mw v e1 e2
            split at hs
            · rename_i yv e3
              simp [PR.val] at hs
              obtain ⟨rfl, rfl⟩ := hs
              have hok := h.objs id'
              rw [hid] at hok
              cases hy with
              | one hy =>
                cases hy with
                | refGone _ hg => rw [hg] at hid; cases hid
                | refBox hA hg hp ho' => rw [hid] at hg; cases hg
                | @refSlc _ _ _ _ _ xs' oo uu hA hg hi hp ho' =>
                  rw [hid] at hg; cases hg
                  obtain ⟨cs, rfl, hr⟩ := toV_val h.objs hx e1
                  rw [e2] at hr
                  have hr : Rep c.w (c.Fn mw) ty v cs := hr.mono (fun _ hb => Cx.G_nil hb) (fun _ _ => rfl)
                  have hr := hr.liftn
                  clear e1
                  generalize (mw || !ty.heapy) = mw at hr
                  obtain ⟨hml, ⟨_, _, hh⟩ | ⟨hn, hcap, arr, el, hblk, hsz, hel⟩⟩ := hok
                  · subst hh; simp at hi
                  · obtain ⟨ds, k1, k2, k3⟩ := hel _ hi
                    have hset := (k3.wk (mw := nw && mw) (by simp; intro x _; exact x)).set e3 hp ho' (hr.wk (by simp))
                    obtain ⟨rfl, hset⟩ := hset
                    have hle := offT_le ho' hp
                    have hcl := hr.len
                    have hm : (i + 1) * u.size ≤ (c.β id').cap * u.size := Nat.mul_le_mul_right _ (by omega)
                    rw [Nat.succ_mul] at hm
                    let c' : Cx := { c with w := c.w.setRow (c.β id').blk (splice arr.toList ((c.β id').off + i * u.size + oo) cs).toArray, ob := up c.ob id' (.slc (nw && mw) u (xs.set i yv)) }
                    refine ⟨c', key hr.len hr.one hblk (by omega), rfl, h.modify hA ⟨by rw [hid]; simp, hn⟩ _ (.slc (nw && mw) u (xs.set i yv)) (by rw [hid]; exact ⟨rfl, by simp⟩) (fun hm => by rw [hid]; simp only [isMine, Bool.and_eq_true] at hm ⊢; exact hm.1) (by simp) (fun b hb => setRow_other _ _ _ _ hb) rfl rfl rfl c' rfl (fun he => ?_), fun i hi => hi⟩
                    refine ⟨by simpa using hml, .inr ⟨hn, by simpa using hcap, _, el, setRow_heap _ _ _ _ _ _ hblk, ?_, fun j hj => ?_⟩⟩
                    · simp only [List.size_toArray, splice_len (cs := arr.toList) (o := (c.β id').off + i * u.size + oo) (ds := cs) (by simp; omega), Array.length_toList]
                      exact hsz
                    · have hj' : j < xs.length := by simpa using hj
                      have hgetD : (xs.set i yv).getD j (dflt u) = if j = i then yv else xs.getD j (dflt u) := by
                        by_cases e : j = i
                        · subst e; simp [List.getD, hj']
                        · rw [if_neg e]; simp [List.getD, Ne.symm e]
                      rw [hgetD]
                      have hsp : ∀ k, (splice arr.toList ((c.β id').off + i * u.size + oo) cs).toArray[k]? = if k < (c.β id').off + i * u.size + oo then arr[k]? else if k < (c.β id').off + i * u.size + oo + cs.length then cs[k - ((c.β id').off + i * u.size + oo)]? else arr[k]? := by
                        intro k
                        rw [List.getElem?_toArray, splice_get (by simp; omega)]
                        simp
                      by_cases e : j = i
                      · subst e
                        rw [if_pos rfl]
                        refine ⟨splice ds oo cs, by rw [splice_len (by omega)]; exact k1, fun r hr' => ?_, he.rep hset⟩
                        show (splice arr.toList ((c.β id').off + j * u.size + oo) cs).toArray[(c.β id').off + j * u.size + r]? = _
                        rw [hsp, splice_get (by omega)]
                        by_cases q1 : r < oo
                        · rw [if_pos q1, if_pos (by omega), k2 r hr']
                        · rw [if_neg q1, if_neg (by omega)]
                          by_cases q2 : r < oo + cs.length
                          · rw [if_pos q2, if_pos (by omega)]; congr 1; omega
                          · rw [if_neg q2, if_neg (by omega), k2 r hr']
                      · rw [if_neg e]
                        obtain ⟨ds', m1, m2, m3⟩ := hel j hj'
                        refine ⟨ds', m1, fun r hr' => ?_, he.rep (m3.wk (by simp; intro x _; exact x))⟩
                        have hr' : r < u.size := hr'
                        show (splice arr.toList ((c.β id').off + i * u.size + oo) cs).toArray[(c.β id').off + j * u.size + r]? = ds'[r]?
                        rw [hsp, ← m2 r hr']
                        rcases Nat.lt_or_gt_of_ne e with e | e
                        · have := mul_chunk (s := u.size) e
                          rw [if_pos (by omega)]
                        · have := mul_chunk (s := u.size) e
                          rw [if_neg (by omega), if_neg (by omega)]
            · cases hs
          · cases hs
  | _ => simp [storeS, PR.val] at hs
theorem growBy_le (m : Nat) : ∀ (r k : Nat), k ≤ m + (m + 768) / 4 → Builtin.growBy m r k ≤ m + (m + 768) / 4
  | 0, k, h => by simpa [Builtin.growBy] using h
  | r + 1, k, h => by
    unfold Builtin.growBy
    split
    · exact h
    · exact growBy_le m r _ (by omega)
theorem nextcap_le {m k : Nat} (h : k < m) : Builtin.nextslicecap m k ≤ 2 * m + 768 := by
  unfold Builtin.nextslicecap
  split
  · omega
  · split
    · omega
    · have := growBy_le m 4 k (by omega); omega
theorem src_ok (h : RelC c n sl w0 Jo a) {t : Ty} {y : SV} {vy : Value} (hy : SRepV c y vy) {mw : Bool} {ys : List (Val t)} (hd : toV c.ob (.slice t) y = some (mw, ys)) :
    ∃ (b : Option Addr) (cap : Nat) (new : List Value), vy = .slice b ys.length cap ∧ ys.length ≤ cap ∧ new.length = ys.length * t.size ∧ (∀ v ∈ new, v.oneCell' = true) ∧
      (∀ w', (∀ k, k < c.w.heap.size → w'.heap[k]? = c.w.heap[k]?) → (Builtin.firstCells t.size ys.length vy).run P w' = .ok new.toArray w') ∧
      ∀ i, i < ys.length → Rep c.w (c.Fn mw) t (ys.getD i (dflt t)) ((new.drop (i * t.size)).take t.size) := by
  cases hy with
  | vdead => simp [toV] at hd
  | tup => simp [toV] at hd
  | itGone => simp [toV] at hd
  | it => simp [toV] at hd
  | one hy =>
    obtain ⟨hagg, b, cap, hcs, hm, hcap, hx⟩ := toV_slice h.objs hy hd
    subst hcs
    rename_i t0
    have hpk : pack t0 [Value.slice b ys.length cap] = .slice b ys.length cap := by unfold pack; rw [hagg]; rfl
    rcases hx with rfl | ⟨bk, off, rfl, hG, hel⟩
    · refine ⟨b, cap, [], hpk, hcap, by simp, by simp, fun w' _ => ?_, fun i hi => by simp at hi⟩
      rw [hpk]
      cases b with
      | none => simp [Builtin.firstCells]
      | some ad => simp [Builtin.firstCells, loadCells, loadCellsFrom]
    · have hbk : bk < c.w.heap.size := by
        rcases hG with hb | ⟨id, _, hl, rfl⟩
        · exact h.fz _ hb.1
        · exact (h.own id hl).2.1
      have hsz : ∀ k, k < ys.length * t.size → 0 < t.size ∧ k / t.size < ys.length ∧ k = k / t.size * t.size + k % t.size := by
        intro k hk
        have h0 : 0 < t.size := by
          rcases Nat.eq_zero_or_pos t.size with e | e
          · rw [e] at hk; omega
          · exact e
        refine ⟨h0, ?_, ?_⟩
        · rw [Nat.div_lt_iff_lt_mul h0]; exact hk
        · rw [Nat.mul_comm]; exact (Nat.div_add_mod k t.size).symm
      have hsome : ∀ k, k < ys.length * t.size → ∃ v, c.w.cell? ⟨bk, off + k, none⟩ = some v ∧ v.oneCell' = true := by
        intro k hk
        obtain ⟨h0, h1, h2⟩ := hsz k hk
        obtain ⟨ds, k1, k2, k3⟩ := hel _ h1
        have hlt := Nat.mod_lt k h0
        have := k2 _ hlt
        rw [Nat.add_assoc, ← h2, List.getElem?_eq_getElem (by omega)] at this
        exact ⟨_, this, k3.one _ (List.getElem_mem _)⟩
      let new : List Value := (List.range (ys.length * t.size)).map fun k => (c.w.cell? ⟨bk, off + k, none⟩).getD undef
      have hnl : new.length = ys.length * t.size := by simp [new]
      have hng : ∀ k, k < ys.length * t.size → new[k]? = c.w.cell? ⟨bk, off + k, none⟩ := by
        intro k hk
        obtain ⟨v, hv, _⟩ := hsome k hk
        simp [new, hk, hv]
      refine ⟨_, cap, new, hpk, hcap, hnl, fun v hv => ?_, fun w' hw' => ?_, fun i hi => ?_⟩
      · obtain ⟨k, hk⟩ := List.mem_iff_getElem?.1 hv
        have hk2 : k < ys.length * t.size := by
          have := (List.getElem?_eq_some_iff.1 hk).1; omega
        rw [hng k hk2] at hk
        obtain ⟨v', hv', h1⟩ := hsome k hk2
        rw [hv'] at hk; cases hk; exact h1
      · rw [hpk]
        simp only [Builtin.firstCells]
        rw [← hnl]
        refine run_loadCells_list w' _ new (fun j v hv => ?_)
        have hj : j < ys.length * t.size := by
          have := (List.getElem?_eq_some_iff.1 hv).1; omega
        rw [add_at, cell_of_heap (hw' bk hbk), ← hng j hj, hv]
      · obtain ⟨ds, k1, k2, k3⟩ := hel i hi
        have hm := mul_chunk (s := t.size) hi
        have : (new.drop (i * t.size)).take t.size = ds := by
          apply List.ext_getElem?
          intro j
          rw [chunk_get]
          by_cases hj : j < t.size
          · rw [if_pos hj, hng _ (by omega), ← k2 j hj, Nat.add_assoc]
          · rw [if_neg hj, List.getElem?_eq_none (by omega)]
        rw [this]; exact k3
theorem RelC.drew (h : RelC c n sl w0 Jo a) : RelC { c with w := c.w.drew } n sl w0 Jo a :=
  h.grow (Nat.le_refl _) (fun _ _ => rfl) rfl rfl rfl
theorem zero_cells {z : Array Value} {k m : Nat} (hz : z.size = k) : (Builtin.zeroCells z m).size = m * k := by simp [Builtin.zeroCells, hz]
theorem run_append (hE : ∀ t ty, tf t = some ty → TyOk P tf t ty) {t t2 rt : Nat} {e e2 : Ty} (ht : tf t = some (.slice e)) (ht2 : tf t2 = some (.slice e2)) (hpu : e.pure = true) {base : Option Addr} {len cap k : Nat} {vy : Value}
    {new : List Value} {ycap : Nat} {yb : Option Addr} (hvy : vy = .slice yb k ycap) (hnew : ∀ w', (∀ j, j < c.w.heap.size → w'.heap[j]? = c.w.heap[j]?) → (Builtin.firstCells e.size k vy).run P w' = .ok new.toArray w')
    (hlim : len + k ≤ lim) (hcap : len ≤ cap) :
    (len + k ≤ cap → ∀ w1, (match base with | some ad => storeCells (ad.add (len * e.size)) new | none => pure ()).run P c.w = .ok () w1 →
      (Builtin.append_ #[t, t2] rt #[.slice base len cap, vy]).run P c.w = .ok (.slice base (len + k) cap) w1) ∧
    (¬ len + k ≤ cap → ∀ (old : Array Value), (Builtin.firstCells e.size len (.slice base len cap)).run P c.w.drew = .ok old c.w.drew → ∃ (el newCap : Nat) (rest : Array Value), len + k ≤ newCap ∧ rest.size = (newCap - (len + k)) * e.size ∧
      (Builtin.append_ #[t, t2] rt #[.slice base len cap, vy]).run P c.w = .ok (.slice (some ⟨c.w.heap.size, 0, none⟩) (len + k) newCap) (c.w.drew.alloc (.cells (old ++ new.toArray ++ rest) el))) := by
  obtain ⟨el, hu, hel⟩ := (hE _ _ ht).und_slice
  obtain ⟨el2, hu2, hel2⟩ := (hE _ _ ht2).und_slice
  have he := hE _ _ hel
  obtain ⟨i, hi, hib⟩ := he.run_bytes (w := c.w)
  have hinfo : P.info? el = some i := by
    obtain ⟨j, hj, _⟩ := he.info
    simp [typeInfo, hj] at hi
    rw [hj, hi]
  have hti : ∀ w', (typeInfo el).run P w' = .ok i w' := fun w' => by simp [typeInfo, hinfo]
  have hz := zero_rep (w := c.w) (F := c.Fn true) (t := e) hpu
  refine ⟨fun hroom w1 hst => ?_, fun hroom old hold => ?_⟩
  · subst hvy
    have hn := hnew c.w (fun _ _ => rfl)
    cases base with
    | none =>
      simp at hst
      subst hst
      simp [Builtin.append_, run_underlying hu, run_underlying hu2, he.run_sizeOf, Builtin.lenOf, hroom, hn]
    | some ad =>
      simp at hst
      simp [Builtin.append_, run_underlying hu, run_underlying hu2, he.run_sizeOf, Builtin.lenOf, hroom, hn, hst]
  · subst hvy
    have hn := hnew c.w.drew (fun _ _ => rfl)
    obtain ⟨newCap, hnc⟩ : ∃ m, m = (Question.appendCap (len + k) cap el).cut (c.w.tape c.w.drawn (Question.appendCap (len + k) cap el)) := ⟨_, rfl⟩
    have hge : len + k ≤ newCap := by
      rw [hnc]
      simp only [Question.cut]
      omega
    have hc2 : ¬ (Builtin.nextslicecap (len + k) cap * i.bytes > 2 ^ 48) := by
      have h1 := nextcap_le (m := len + k) (k := cap) (by omega)
      have h2 : Builtin.nextslicecap (len + k) cap * i.bytes ≤ (2 * (len + k) + 768) * 32768 := Nat.mul_le_mul h1 hib
      have : lim = 2147483648 := rfl
      omega
    refine ⟨el, newCap, Builtin.zeroCells (zcells e).toArray (newCap - (len + k)), hge, zero_cells (by simp [hz.len]), ?_⟩
    have hc1' : ¬ (9223372036854775807 < (len : Int) + (k : Int) ∧ i.bytes = 0) := by
      intro hh
      have h1 := hh.1
      have : lim = 2147483648 := rfl
      omega
    have hc3 : ¬ (2 ^ 48 < Builtin.nextslicecap (len + k) cap * i.bytes) := hc2
    simp [Builtin.append_, run_underlying hu, run_underlying hu2, he.run_sizeOf, Builtin.lenOf, hroom, hti, hc3]
    rw [if_neg hc1', if_neg (by simp [Question.forced]), ← hnc, hold]
    simp only [Result.andThen_ok]
    rw [hn]
    simp only [Result.andThen_ok, he.run_zero, pack_cells hz.len hz.one, newRow, Sem.run_bind, run_newObj, Sem.run_pure]
    rfl
end
end Go.Sx
