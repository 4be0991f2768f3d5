/- The symbolic executor's meaning: one operation, whole. -/
import Derived.Test.YteghkndbngddgaaGreatSxS
import Derived.Test.YteghkndbngddgaaGreatSxZ
set_option linter.unusedVariables false
namespace Go.Sx
open Go.RowKit
section
variable {c : Cx} {s : St} {w0 : World} {Jo : Io} {a : Act} {P : Program} {E : Env} {u : Upd} {id0 : Nat} {next : Act → World → Prop} {Q : Exit → Act → World → Prop}
theorem SRepV.fn_inv {f : FuncId} {l : List SV} {v : Value} (h : SRepV c (.fn f l) v) : ∃ vs, v = .func (.func f) #[] vs ∧ SReps c l vs.toList := by
  cases h with
  | one h => cases h with
    | fn h => exact ⟨_, rfl, h⟩
theorem SRepV.tup_inv {l : List SV} {v : Value} (h : SRepV c (.tup l) v) : ∃ vs, v = .tuple vs ∧ SReps c l vs.toList := by
  cases h with
  | tup h => exact ⟨_, rfl, h⟩
  | one h => cases h
theorem SReps.get : ∀ {l : List SV} {vs : List Value}, SReps c l vs → ∀ {i : Nat} {x : SV}, l[i]? = some x → ∃ v, vs[i]? = some v ∧ SRepV c x v
  | _, _, .nil, i, x, h => by simp at h
  | _, _, .cons a b, 0, x, h => by simp at h; subst h; exact ⟨_, rfl, a⟩
  | _, _, .cons a b, i + 1, x, h => by simp at h; exact b.get h
theorem evs_rep (h : RelC c s.n s.sl w0 Jo a) : ∀ l : List Operand, SReps c (l.map (ev s)) (l.map a.eval)
  | [] => .nil
  | o :: l => .cons (ev_rep h o) (evs_rep h l)
theorem SReps.app : ∀ {l m : List SV} {vs us : List Value}, SReps c l vs → SReps c m us → SReps c (l ++ m) (vs ++ us)
  | _, _, _, _, .nil, h => h
  | _, _, _, _, .cons a b, h => .cons a (b.app h)
theorem call_ok (hE : EnvOk P E) (h : RelC c s.n s.sl w0 Jo a) (hob : c.ob = s.ob) (hid : ∀ i, id0 ≤ i → i < id0 + quota → ¬ c.A i) {o : Oper} {f : FuncId} {args : List SV} {vs : List Value} (ha : SReps c args vs)
    (hr : (execOp a.eval o).run P c.w = (callFunc f vs.toArray).run P c.w) (hp : (callS E s id0 o f args).val = some u)
    (hn : ∀ a' c', After c id0 (s.apply u) w0 Jo a' c' → next a' c'.w) : o.wp P a c.w next Q := by
  unfold callS at hp
  split at hp
  · rename_i ct hct
    obtain ⟨k1, k2⟩ := hE.fn _ _ hct
    rw [PR.val_bind] at hp
    obtain ⟨r, hr1, hp⟩ := bind_some hp
    unfold Oper.wp
    rw [hr, k1]
    rw [Oper.upon_enter]
    refine Calls.mono (k2 c s.n s.sl w0 Jo a h args vs ha id0 hid r (by rw [hob]; exact hr1)) fun e w' hx => ?_
    obtain ⟨c', v, rfl, rfl, hc, hob', hv, hA⟩ := hx
    refine hn _ _ ⟨?_, ?_, hA⟩
    · rcases put1_val hp with ⟨_, rfl⟩ | ⟨d, _, _, rfl⟩ <;> simp [apply_nil, hob', hob]
    · rcases put1_val hp with ⟨hd, rfl⟩ | ⟨d, hd, hlt, rfl⟩
      · simp only [apply_nil, ups_nil, hd, Act.put]; exact hc
      · simp only [apply_nil, hd]; exact hc.put hlt hv
  · cases hp
theorem nils_val {v : Value} (h : SRepV c .nils v) : v = .slice none 0 0 := by
  cases h with
  | one h => cases h; rfl
theorem plan_ok (hE : EnvOk P E) (h : RelC c s.n s.sl w0 Jo a) (hob : c.ob = s.ob) (hid : ∀ i, id0 ≤ i → i < id0 + quota → ¬ c.A i) {o : Oper} (hp : (plan E s id0 o).val = some u)
    (hn : ∀ a' c', After c id0 (s.apply u) w0 Jo a' c' → next a' c'.w) : o.wp P a c.w next Q := by
  have hid0 : ¬ c.A id0 := hid id0 (Nat.le_refl _) (by simp [quota])
  have one : ∀ {c' : Cx}, (∀ i, c'.A i → c.A i ∨ i = id0) → ∀ id, c'.A id → c.A id ∨ (id0 ≤ id ∧ id < id0 + quota) := by
    intro c' hA i hi
    rcases hA i hi with e | e
    · exact .inl e
    · subst e; exact .inr ⟨Nat.le_refl _, by simp [quota]⟩
  obtain ⟨dst, op, type, pos, after, guard⟩ := o
  cases op <;> simp only [plan] at hp <;> first
    | (cases hp; done)
    | skip
  case move x => exact fin0 rfl h hob (ev_rep h x) hp hn
  case assign x => exact fin0 rfl h hob (ev_rep h x) hp hn
  case pick cc x y =>
    have hc := ev_rep h cc
    split at hp
    · rename_i e
      rw [e] at hc
      exact fin0 (by simp [execOp, hc.bool, asBool]) h hob (ev_rep h x) hp hn
    · rename_i e
      rw [e] at hc
      exact fin0 (by simp [execOp, hc.bool, asBool]) h hob (ev_rep h y) hp hn
    · cases hp
  case alloc t =>
    split at hp
    · rename_i ty ht
      split at hp
      · rename_i hz
        obtain ⟨c', v, k1, k2, k3, k4, k5⟩ := alloc_ok hE.ty h hid0 ht hz
        exact fin (by simp [execOp, k1]) k3 (by rw [k2, hob]; rfl) k5 (one k4) hp hn
      · cases hp
    · cases hp
  case box t x =>
    split at hp
    · rename_i ty ht
      split at hp
      · rename_i hz
        obtain ⟨c', v, k1, k2, k3, k4, k5⟩ := box_ok (P := P) h hid0 (t := t) (ev_rep h x) hz
        exact fin (by simp [execOp, k1]) k3 (by rw [k2, hob]; rfl) k5 (one k4) hp hn
      · cases hp
    · cases hp
  case build t parts =>
    split at hp
    · rename_i ty ht
      rw [PR.val_bind] at hp
      obtain ⟨r, hr, hp⟩ := bind_some hp
      obtain ⟨v, k1, k2⟩ := buildS_ok hE.ty h hob ht hr
      exact fin0 (by simp only [execOp, Sem.run_bind, k1, Result.andThen_ok, Sem.run_pure]) h hob k2 hp hn
    · cases hp
  case buildSlice t len parts =>
    split at hp
    · rename_i e ht
      split at hp
      · rename_i nw l h1 h2
        simp only [Bool.and_eq_true] at h1
        obtain ⟨c', v, k1, k2, k3, k4, k5⟩ := buildSlice_ok hE.ty h hob hid0 ht (by simp only [Bool.and_eq_true]; exact h1.1) h2 (Nat.le_of_ble_eq_true h1.2)
        exact fin (by simp only [execOp, Sem.run_bind, k1, Result.andThen_ok, Sem.run_pure]) k3 (by rw [k2, hob]; rfl) k5 (one k4) hp hn
      · cases hp
    · cases hp
  case load t x =>
    split at hp
    · rename_i ty ht
      rw [PR.val_bind] at hp
      obtain ⟨r, hr, hp⟩ := bind_some hp
      obtain ⟨v, k1, k2⟩ := loadS_ok hE.ty h.objs ht (ev_rep h x) (by rw [hob]; exact hr)
      exact fin0 (by simp only [execOp, Sem.run_bind, k1, Result.andThen_ok, Sem.run_pure]) h hob k2 hp hn
    · cases hp
  case store t x y =>
    split at hp
    · rename_i ty ht
      rw [PR.val_bind] at hp
      obtain ⟨r, hr, hp⟩ := bind_some hp
      obtain ⟨id, o'⟩ := r
      obtain ⟨c', k1, k2, k3, k4⟩ := store_ok hE.ty h ht (ev_rep h y) (ev_rep h x) (by rw [hob]; exact hr)
      cases hp
      unfold Oper.wp
      simp only [execOp, Sem.run_bind, k1, Result.andThen_ok, Sem.run_pure]
      rw [Oper.upon_skip]
      exact hn _ _ ⟨by rw [k2, hob]; simp [apply_nil, ups], by simpa [apply_nil, Act.put, ups] using k3, fun i hi => .inl (k4 i hi)⟩
    · cases hp
  case nilCheck x =>
    have hx := ev_rep h x
    split at hp
    · rename_i id p e
      rw [e] at hx
      split at hp
      · rename_i ty htt
        obtain ⟨q, hv, _⟩ := ref_inv hx (by rw [hob]; exact htt)
        exact fin0 (v := a.eval x) (by simp [execOp, hv]) h hob hx hp hn
      · cases hp
    · rename_i nw t v e
      rw [e] at hx
      obtain ⟨b, off, ds, hv, _⟩ := at_inv hx
      exact fin0 (v := a.eval x) (by simp [execOp, hv]) h hob hx hp hn
    · cases hp
  case binOp op t x y yt =>
    split at hp
    · rename_i ty ht
      rw [PR.val_bind] at hp
      obtain ⟨r, hr, hp⟩ := bind_some hp
      obtain ⟨v, k1, k2⟩ := binS_ok hE.ty ht (x := x) (y := y) (ev_rep h x) (ev_rep h y) hr
      simp only [Sem.run_bind] at k1
      exact fin0 (by simp only [execOp, Sem.run_bind, k1, Result.andThen_ok, Sem.run_pure]) h hob k2 hp hn
    · cases hp
  case unOp op t x =>
    rw [PR.val_bind] at hp
    obtain ⟨r, hr, hp⟩ := bind_some hp
    obtain ⟨v, k1, k2⟩ := unS_ok (P := P) (ev_rep h x) hr
    exact fin0 (by simp only [execOp, Sem.run_bind, k1, Result.andThen_ok, Sem.run_pure]) h hob k2 hp hn
  case convert t d x =>
    rw [PR.val_bind] at hp
    obtain ⟨r, hr, hp⟩ := bind_some hp
    obtain ⟨v, k1, k2⟩ := convS_ok hE.ty (ev_rep h x) hr
    exact fin0 (by simp only [execOp, Sem.run_bind, k1, Result.andThen_ok, Sem.run_pure]) h hob k2 hp hn
  case fieldAddr t x f =>
    split at hp
    · rename_i ty ht
      rw [PR.val_bind] at hp
      obtain ⟨r, hr, hp⟩ := bind_some hp
      obtain ⟨v, k1, k2⟩ := fieldS_ok hE.ty ht (ev_rep h x) (by rw [hob]; exact hr)
      exact fin0 (by simp only [execOp, Sem.run_bind, k1, Result.andThen_ok, Sem.run_pure]) h hob k2 hp hn
    · cases hp
  case field t x f =>
    split at hp
    · rename_i ty ht
      split at hp
      · rename_i sv xx hf hg hft
        obtain ⟨off, z⟩ := xx
        obtain ⟨cs, k0, k1⟩ := fits_val (ev_rep h x) hf
        obtain ⟨ty1, ty2, rfl⟩ : ∃ a b, ty = .pair a b := by
          cases ty with
          | pair a b => exact ⟨_, _, rfl⟩
          | _ => simp [fldT] at hft
        obtain ⟨fs, hu, hfs⟩ := (hE.ty _ _ ht).und_pair
        obtain ⟨g, hg1, hg2, hg3⟩ := fldsB_get hfs hft
        have hpo : PathOk (.pair ty1 ty2) [.fld f] := by simp [PathOk, hft]
        have hof : offT (.pair ty1 ty2) [.fld f] = some (off, z) := by simp [offT, hft]
        have hge := k1.get hg hof hpo
        have hlen := hge.len
        have hle : off + z.size ≤ cs.toArray.size := by
          have h1 := k1.len
          have h2 := fldT_le hft
          simp only [List.size_toArray]
          omega
        refine fin0 (v := pack z ((cs.drop off).take z.size)) ?_ h hob (.one hge) hp hn
        rw [pack_agg rfl] at k0
        simp only [Array.getElem?_toList] at hg1
        have hrp := run_part (w := c.w) (hE.ty _ _ hg3) hle
        simp only [execOp, k0, Instr.field, Sem.run_bind, run_underlying hu, Result.andThen_ok, hg1, asAgg, Sem.run_pure]
        rw [hg2, Nat.zero_add, hrp]
        rfl
      · cases hp
    · cases hp
  case indexAddr t x i =>
    split at hp
    · rename_i ty nw k n ht hi
      have hv := ev_rep h i
      rw [hi] at hv
      obtain ⟨hi, hr⟩ := hv.int
      rw [PR.val_bind] at hp
      obtain ⟨r, hr, hp⟩ := bind_some hp
      obtain ⟨v, k1, k2⟩ := idxS_ok hE.ty h.objs ht (ev_rep h x) (k := k) (by rw [hob]; exact hr)
      exact fin0 (by simp only [execOp, hi, Sem.run_bind, k1, Result.andThen_ok, Sem.run_pure]) h hob k2 hp hn
    · cases hp
  case index t x i =>
    split at hp
    · rename_i ty nw k n ht hi
      have hv := ev_rep h i
      rw [hi] at hv
      obtain ⟨hi, hr⟩ := hv.int
      have hx := ev_rep h x
      split at hp
      · rename_i m e nw q u v e0
        rw [e0] at hx
        split at hp
        · rename_i e1
          have e1 := tyEq_eq e1
          simp only [Ty.arr.injEq] at e1
          obtain ⟨rfl, rfl⟩ := e1
          obtain ⟨hb, hp⟩ := chk_some hp
          obtain ⟨i0, i1, i2⟩ := inR_iff hb
          obtain ⟨cs, k0, k1⟩ := dat_inv hx
          rw [pack_agg rfl] at k0
          obtain ⟨el, hu, hel⟩ := (hE.ty _ _ ht).und_arr
          have hge := k1.2.2 n.toNat i2
          have hl : n.toNat * u.size + u.size ≤ cs.toArray.size := by
            have h1 := k1.2.1
            have h2 := mul_chunk (s := u.size) i2
            simp only [List.size_toArray]
            omega
          refine fin0 (v := pack u ((cs.drop (n.toNat * u.size)).take u.size)) ?_ h hob (.one (.dat hge)) hp hn
          simp only [execOp, k0, hi, Instr.index, asIntOf, Sem.run_bind, Sem.run_pure, run_underlying hu, Result.andThen_ok]
          rw [if_pos ⟨i0, i1⟩]
          simp only [Sem.run_bind, (hE.ty _ _ hel).run_sizeOf, run_part (hE.ty _ _ hel) hl, Result.andThen_ok]
        · cases hp
      · rename_i nw b e0
        rw [e0] at hx
        obtain ⟨hb, hp⟩ := chk_some hp
        obtain ⟨i0, i1, i2⟩ := inR_iff hb
        have e9 : a.eval x = .string b := by
          obtain ⟨cs, k0, k1⟩ := dat_inv hx
          rw [k0, k1.1]; rfl
        obtain ⟨d, hu, hd⟩ := (hE.ty _ _ ht).und
        have hd9 : d = .string := by cases d <;> simp [descB] at hd; rfl
        subst hd9
        refine fin0 (v := .int .u8 ((b.data.getD n.toNat 0).toNat : Int)) ?_ h hob (.mkInt ?_) hp hn
        · simp only [execOp, e9, hi, Instr.index, asIntOf, Sem.run_bind, Sem.run_pure, run_underlying hu, Result.andThen_ok]
          rw [if_pos i0]
          have : b[n.toNat]? = some (b.data.getD n.toNat 0) := by
            rw [getElem?_pos b n.toNat i2]
            simp only [Array.getD]
            rw [dif_pos (show n.toNat < b.data.size from i2)]
            rfl
          rw [this]
          simp
        · have := UInt8.toNat_lt (b.data.getD n.toNat 0)
          generalize (b.data.getD n.toNat 0).toNat = z at this
          simp [IntKind.min, IntKind.max, IntKind.bits, IntKind.signed]
          omega
      · cases hp
    · cases hp
  case slice t x lo hi mx =>
    split at hp
    · rename_i ty ht
      rw [PR.val_bind] at hp
      obtain ⟨r, hr, hp⟩ := bind_some hp
      obtain ⟨v, k1, k2⟩ := sliceX_ok hE.ty h ht (ev_rep h x) (by rw [hob]; exact hr)
      exact fin0 (by simp only [execOp, Option.map_none, Sem.run_bind, k1, Result.andThen_ok, Sem.run_pure]) h hob k2 hp hn
    · cases hp
  case extract t i =>
    have hx := ev_rep h t
    split at hp
    · rename_i l e
      rw [e] at hx
      obtain ⟨vs, hv, hl⟩ := hx.tup_inv
      split at hp
      · rename_i x hx2
        obtain ⟨v, hv2, hr⟩ := hl.get hx2
        exact fin0 (by simp only [Array.getElem?_toList] at hv2; simp [execOp, hv, Instr.extract, hv2]) h hob hr hp hn
      · cases hp
    · cases hp
  case makeSlice t x y =>
    split at hp
    · rename_i e nw1 j n nw2 k m ht hx hy
      split at hp
      · rename_i hpu
        obtain ⟨hb, hp⟩ := chk_some hp
        simp only [Bool.and_eq_true, decide_eq_true_eq] at hb
        obtain ⟨⟨b0, b1⟩, b2⟩ := hb
        have hv := ev_rep h x
        rw [hx] at hv
        obtain ⟨hx, _⟩ := hv.int
        have hv := ev_rep h y
        rw [hy] at hv
        obtain ⟨hy, _⟩ := hv.int
        obtain ⟨c', v, k1, k2, k3, k4, k5⟩ := makeSlice_ok (P := P) hE.ty h hid0 ht hpu (j := j) (k := k) b0 b1 b2
        exact fin (by simp only [execOp, hx, hy, Sem.run_bind, k1, Result.andThen_ok, Sem.run_pure]) k3 (by rw [k2, hob]; rfl) k5 (one k4) hp hn
      · cases hp
    · cases hp
  case makeMap t r =>
    split at hp
    · rename_i k e ty ht
      obtain ⟨c', v, k1, k2, k3, k4, k5⟩ := makeMap_ok (P := P) h hid0 t k ty
      exact fin (by simp only [execOp, Option.map_none, Sem.run_bind, k1, Result.andThen_ok, Sem.run_pure]) k3 (by rw [k2, hob]; rfl) k5 (one k4) hp hn
    · cases hp
  case lookup t m i cok =>
    split at hp
    · rename_i k e ty nw j n hmt hi
      split at hp
      · rename_i hj
        have hj := ikEq_eq hj
        subst hj
        have hv := ev_rep h i
        rw [hi] at hv
        obtain ⟨hi, hr⟩ := hv.int
        rw [PR.val_bind] at hp
        obtain ⟨r, hr1, hp⟩ := bind_some hp
        obtain ⟨v1, b, k1, k2, k3⟩ := lookS_ok hE.ty h.objs (hE.mt _ _ _ _ hmt) (ev_rep h m) (r1 := r.1) (r2 := r.2) (by rw [hob]; exact hr1) cok
        split at hp
        · exact fin0 (by simp only [execOp, hi, Sem.run_bind, k1, Result.andThen_ok, Sem.run_pure, if_true]) h hob (.tup (vs := [v1, .bool b]) (.cons k2 (.cons k3 .nil))) hp hn
        · exact fin0 (v := v1) (by simp only [execOp, hi, Sem.run_bind, k1, Result.andThen_ok, Sem.run_pure, Bool.false_eq_true, if_false]) h hob k2 hp hn
      · cases hp
    · cases hp
  case mapUpdate t m i x =>
    split at hp
    · rename_i k e ty nw j n hmt hi
      split at hp
      · rename_i hj
        have hj := ikEq_eq hj
        subst hj
        have hv := ev_rep h i
        rw [hi] at hv
        obtain ⟨hi, hr⟩ := hv.int
        rw [PR.val_bind] at hp
        obtain ⟨r, hr1, hp⟩ := bind_some hp
        obtain ⟨id, o'⟩ := r
        obtain ⟨c', k1, k2, k3, k4⟩ := updS_ok (P := P) h (hE.mt _ _ _ _ hmt) hr (ev_rep h m) (ev_rep h x) (by rw [hob]; exact hr1)
        cases hp
        unfold Oper.wp
        simp only [execOp, hi, Sem.run_bind, k1, Result.andThen_ok, Sem.run_pure]
        rw [Oper.upon_skip]
        exact hn _ _ ⟨by rw [k2, hob]; simp [apply_nil, ups], by simpa [apply_nil, Act.put, ups] using k3, fun i hi => .inl (k4 i hi)⟩
      · cases hp
    · cases hp
  case range t x =>
    split at hp
    · rename_i mt hmt
      obtain ⟨k, e, ty⟩ := mt
      rw [PR.val_bind] at hp
      obtain ⟨r, hr, hp⟩ := bind_some hp
      obtain ⟨c', v, k1, k2, k3, k4, k5⟩ := rangeS_ok (P := P) h hid0 (hE.mt _ _ _ _ hmt) (ev_rep h x) (by rw [hob]; exact hr)
      exact fin (by simp only [execOp, Sem.run_bind, k1, Result.andThen_ok, Sem.run_pure]) k3 (by rw [k2, hob]) k5 (one k4) hp hn
    · cases hp
  case entry x =>
    rw [PR.val_bind] at hp
    obtain ⟨r, hr, hp⟩ := bind_some hp
    obtain ⟨v, k1, k2⟩ := entryS_ok (P := P) h.objs (ev_rep h x) (by rw [hob]; exact hr)
    exact fin0 (by simp only [execOp, Sem.run_bind, k1, Result.andThen_ok, Sem.run_pure]) h hob k2 hp hn
  case makeFunc fn first caps =>
    split at hp
    · rename_i f hfn
      rename_i hfirst
      have : first = #[] := by
        apply Array.ext'
        simpa using ‹first.toList = []›
      subst this
      have hL : SReps c (caps.toList.map (ev s)) (caps.map a.eval).toList := by
        rw [Array.toList_map]
        exact evs_rep h caps.toList
      have hV : SRepV c (.fn f (caps.toList.map (ev s))) (.func (.func f) #[] (caps.map a.eval)) := .one (t := .cell .func) (cs := [.func (.func f) #[] (caps.map a.eval)]) (.fn hL)
      exact fin0 (by simp [execOp, Instr.makeFunc]) h hob hV hp hn
    · cases hp
  case call cl =>
    split at hp
    · rename_i b hcal
      unfold callB at hp
      split at hp
      · unfold lenB at hp
        split at hp
        · rename_i x t hb2 hb3
          split at hp
          · rename_i ty ht
            split at hp
            · rename_i hf
              rw [PR.val_bind] at hp
              obtain ⟨r, hr, hp⟩ := bind_some hp
              obtain ⟨v, k1, k2⟩ := lenS_ok hE.ty h.objs ht (ev_rep h x) (rt := type) hf (by rw [hob]; exact hr)
              have e1 : cl.args = #[x] := by apply Array.ext'; simpa using hb2
              have e2 : cl.argTypes = #[t] := by apply Array.ext'; simpa using hb3
              exact fin0 (by simp [execOp, resolve, hcal, e1, e2, invoke, builtin, k1]) h hob k2 hp hn
            · cases hp
          · cases hp
        · cases hp
      · unfold capB at hp
        split at hp
        · rename_i x t hb2 hb3
          split at hp
          · rename_i e ht hx
            have hvv := nils_val (hx ▸ ev_rep h x)
            obtain ⟨el, hun, hel⟩ := (hE.ty _ _ ht).und_slice
            have e1 : cl.args = #[x] := by apply Array.ext'; simpa using hb2
            have e2 : cl.argTypes = #[t] := by apply Array.ext'; simpa using hb3
            exact fin0 (v := .int .i64 0) (by simp [execOp, resolve, hcal, e1, e2, invoke, builtin, Builtin.cap_, hvv, run_underlying hun, goInt]) h hob (.mkInt (by decide)) hp hn
          · cases hp
        · cases hp
      · unfold appendB at hp
        split at hp
        · rename_i x y t t2 hb2 hb3
          have e1 : cl.args = #[x, y] := by apply Array.ext'; simpa using hb2
          have e2 : cl.argTypes = #[t, t2] := by apply Array.ext'; simpa using hb3
          split at hp
          · rename_i e e3 ht ht2
            split at hp
            · rename_i hpu
              rw [PR.val_bind] at hp
              obtain ⟨r, hr, hp⟩ := bind_some hp
              obtain ⟨r, obs⟩ := r
              obtain ⟨c', v, k1, k2, k3, k4, k5⟩ := append_ok (rt := type) hE.ty h hob hid0 ht ht2 hpu (ev_rep h x) (ev_rep h y) hr
              exact fin (by simp [execOp, resolve, hcal, e1, e2, invoke, builtin, k1]) k3 k2 k5 (one k4) hp hn
            · cases hp
          · rename_i e k ht ht2
            split at hp
            · rename_i hpu
              unfold appendZ at hp
              split at hp
              · rename_i nw j m hx hy
                obtain ⟨hb, hp⟩ := chk_some hp
                simp only [Bool.and_eq_true, decide_eq_true_eq] at hb
                obtain ⟨b0, b1⟩ := hb
                have hvv := nils_val (hx ▸ ev_rep h x)
                have hv := ev_rep h y
                rw [hy] at hv
                obtain ⟨hy, _⟩ := hv.int
                have key : ∀ z : Int, 0 < z → z ≤ lim → ∃ M : Nat, z = M ∧ 0 < M ∧ M ≤ lim := fun z h0 h1 => ⟨z.toNat, by omega, by omega, by omega⟩
                obtain ⟨M, hM, q0, q1⟩ := key m b0 b1
                subst hM
                obtain ⟨c', v, k1, k2, k3, k4, k5⟩ := appendZ_ok (P := P) (rt := type) (j := j) hE.ty h hid0 ht ht2 hpu (m := M) q0 q1
                exact fin (by simp [execOp, resolve, hcal, e1, e2, invoke, builtin, hvv, hy, k1]) k3 (by rw [k2, hob]; rfl) k5 (one k4) hp hn
              · cases hp
            · cases hp
          · cases hp
        · cases hp
      · cases hp
    · rename_i f hcal
      refine call_ok hE h hob hid (evs_rep h cl.args.toList) ?_ hp hn
      have e1 : (cl.args.map a.eval).toList = cl.args.toList.map a.eval := by simp
      rw [← e1, Array.toArray_toList]
      simp only [execOp, resolve, hcal, Act.eval, Deferred.ofValue, invoke, Sem.run_bind, Sem.run_pure, Result.andThen_ok, Array.empty_append, Array.append_empty]
    · rename_i t hcal
      split at hp
      · rename_i f caps hsl
        have hx := h.slots t
        rw [hsl] at hx
        obtain ⟨vs, hv, hl⟩ := hx.fn_inv
        refine call_ok hE h hob hid ((evs_rep h cl.args.toList).app hl) ?_ hp hn
        have e1 : (cl.args.map a.eval).toList = cl.args.toList.map a.eval := by simp
        have e2 : a.eval (.tmp t) = .func (.func f) #[] vs := hv
        rw [← e1, show ((cl.args.map a.eval).toList ++ vs.toList).toArray = cl.args.map a.eval ++ vs by apply Array.ext'; simp]
        simp only [execOp, resolve, hcal, e2, Deferred.ofValue, invoke, Sem.run_bind, Sem.run_pure, Result.andThen_ok, Array.empty_append]
      · cases hp
    · cases hp
end
end Go.Sx
