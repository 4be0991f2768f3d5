/- The symbolic executor's meaning: a function's summary. -/
import Derived.Test.YteghkndbngddgaaSyI
set_option linter.unusedVariables false
namespace Go.Sx
open Go.RowKit

section
variable {f g : Nat → Obj} (hle : ObLe f g) {md : Bool}
include hle

theorem ObLe.mine {i : Nat} (h : isMine (f i) = true) : isMine (g i) = true := by
  rcases hle i with e | e
  · rw [e] at h; cases h
  · rw [e]; exact h

theorem flagOk_mono {nw mw : Bool} {ids : List Nat} {t : Ty} (h : flagOk md f nw mw ids t = true) : flagOk md g nw mw ids t = true := by
  unfold flagOk at h ⊢
  simp only [Bool.or_eq_true, Bool.and_eq_true, List.all_eq_true] at h ⊢
  rcases h with h | ⟨h1, h2⟩
  · exact .inl h
  · exact .inr ⟨h1, fun i hi => hle.mine (h2 i hi)⟩

theorem pickT_mono : ∀ (t : Tm) (s : SV) (r : Rho) {x : Rho × ((acc : List H) → Dl acc → Dl (holes t acc))}, pickT md f t s r = some x → pickT md g t s r = some x := by
  intro t
  induction t with
  | dat nw t =>
    intro s r x h
    simp only [pickT] at h ⊢
    split at h
    · rename_i mw v e1
      rw [toV_mono hle e1]
      simp only
      split at h
      · rename_i e2
        rw [flagOk_mono hle e2]; exact h
      · cases h
    · cases h
  | cons a b iha ihb =>
    intro s r x h
    cases s with
    | agg l =>
      cases l with
      | nil => simp only [pickT] at h; cases h
      | cons y l =>
        simp only [pickT] at h ⊢
        split at h
        · rename_i r1 f1 e0 e1
          rw [e0, iha _ _ e1]
          simp only
          split at h
          · rename_i e2
            rw [ihb _ _ e2]; exact h
          · cases h
        · cases h
    | dat nw u v =>
      cases u with
      | pair t u =>
        simp only [pickT] at h ⊢
        split at h
        · rename_i r1 f1 e0 e1
          rw [e0, iha _ _ e1]
          simp only
          split at h
          · rename_i e2
            rw [ihb _ _ e2]; exact h
          · cases h
        · cases h
      | _ => simp only [pickT] at h; cases h
    | _ => simp only [pickT] at h; cases h
  | fn k b ih =>
    intro s r x h
    cases s <;> simp only [pickT] at h <;> first | (cases h; done) | skip
    simp only [pickT]
    split at h
    · rename_i e0
      split at h
      · rename_i e1
        rw [ih _ _ e1]; exact h
      · cases h
    · cases h
  | tup b ih => intro s r x h; cases s <;> simp [pickT] at h
  | dead => intro s r x h; cases s <;> simp [pickT] at h
  | nil => intro s r x h; cases s with
    | agg l => cases l <;> simpa only [pickT] using h
    | dat nw u v => cases u <;> simpa only [pickT] using h
    | _ => simpa only [pickT] using h
  | refI i q => intro s r x h; cases s with
    | ref j p =>
      cases p with
      | nil => simpa only [pickT] using h
      | cons y p => cases y <;> simpa only [pickT] using h
    | _ => simpa only [pickT] using h
  | sub t i => intro s r x h; cases s with
    | own u j =>
      simp only [pickT] at h ⊢
      rcases hle j with e | e
      · rw [e] at h
        split at h
        · rename_i e2; cases e2
        · cases h
      · rw [e]; exact h
    | _ => simpa only [pickT] using h
  | _ => intro s r x h; cases s <;> simpa only [pickT] using h

theorem pickV_mono {t : Tm} {s : SV} {r : Rho} {x : Rho × ((acc : List H) → Dl acc → Dl (holes t acc))} (h : pickV md f t s r = some x) : pickV md g t s r = some x := by
  cases t with
  | dead => simpa only [pickV] using h
  | tup b =>
    cases s with
    | tup l =>
      simp only [pickV] at h ⊢
      split at h
      · rename_i e0
        split at h
        · rename_i e1
          rw [pickT_mono hle _ _ _ e1]; exact h
        · cases h
      · cases h
    | _ => simp only [pickV] at h ⊢; exact pickT_mono hle _ _ _ h
  | _ => simp only [pickV] at h ⊢; exact pickT_mono hle _ _ _ h

theorem pickS_mono {sl : Nat → SV} : ∀ {l : List (Nat × Tm)} {r : Rho} {x : Rho × ((acc : List H) → Dl acc → Dl (holesS l acc))}, pickS md f sl l r = some x → pickS md g sl l r = some x
  | [], r, x, h => by simpa only [pickS] using h
  | (k, t) :: l, r, x, h => by
    simp only [pickS] at h ⊢
    split at h
    · rename_i e1
      rw [pickV_mono hle e1]
      simp only
      split at h
      · rename_i e2
        rw [pickS_mono e2]; exact h
      · cases h
    · cases h

theorem pickO_mono {o : OT} {j : Nat} {r : Rho} {x : Rho × ((acc : List H) → Dl acc → Dl (holesO o acc))} (h : pickO md f o (f j) r = some x) : pickO md g o (g j) r = some x := by
  have hj : g j = f j := by
    rcases hle j with e | e
    · rw [e] at h; cases o <;> simp [pickO] at h
    · exact e
  rw [hj]
  cases hf : f j with
  | gone => rw [hf] at h; cases o <;> simp [pickO] at h
  | box u y =>
    rw [hf] at h
    cases o with
    | slc => simp [pickO] at h
    | box t c =>
      simp only [pickO] at h ⊢
      split at h
      · split at h
        · rename_i e1
          rw [pickT_mono hle _ _ _ e1]; exact h
        · cases h
      · cases h
  | slc mw u xs =>
    rw [hf] at h
    cases o with
    | box => simp [pickO] at h
    | slc nw t => exact h

theorem pickB_mono : ∀ {l : List (Nat × OT)} {r : Rho} {x : Rho × ((acc : List H) → Dl acc → Dl (holesB l acc))}, pickB md f l r = some x → pickB md g l r = some x
  | [], r, x, h => by simpa only [pickB] using h
  | (k, o) :: l, r, x, h => by
    simp only [pickB] at h ⊢
    split at h
    · split at h
      · rename_i e1
        rw [pickO_mono hle e1]
        simp only
        split at h
        · rename_i e2
          rw [pickB_mono e2]; exact h
        · cases h
      · cases h
    · split at h
      · split at h
        · rename_i e0 e2
          rw [e0, pickB_mono e2]; exact h
        · cases h
      · cases h
    · cases h

theorem boundOk_mono {ρ : List (Nat × Option Nat)} : ∀ {nx : Nat}, boundOk f ρ nx = true → boundOk g ρ nx = true
  | 0, _ => rfl
  | nx + 1, h => by
    simp only [boundOk, rangeAll, Bool.and_eq_true] at h ⊢
    refine ⟨?_, boundOk_mono h.2⟩
    have h1 := h.1
    split at h1
    · rename_i j hj
      rcases hle j with e | e
      · rw [e] at h1; cases h1
      · rw [e]; exact h1
    · cases h1

end

/-! ### Arguments of the caller's own -/

section
variable {c : Cx} {n : Nat} {sl : Nat → SV} {w0 : World} {Jo : Io} {a : Act}

theorem RelC.jo {Jo' : Io} (h : RelC c n sl w0 Jo a) (h1 : ∀ b, Jo b → Jo' b) (h2 : ∀ i b, Jo'.fix i = some b → Jo.fix i = some b) (h3 : ∀ b, Jo.F0 b → Jo'.F0 b) (h4 : Jo.may → Jo'.may) : RelC c n sl w0 Jo' a :=
  { h with
    own := fun i hi => ⟨(h.own i hi).1, (h.own i hi).2.1, (h.own i hi).2.2.imp id (h1 _)⟩
    below := fun b hb hn => h.below b hb (fun e => hn (h1 b e))
    fix := fun i b hb => h.fix i b (h2 i b hb)
    old := fun b hb hlt => (h.old b hb hlt).imp (h3 b) (fun e => ⟨h1 b e.1, h4 e.2⟩) }

/-- The caller, seen from a callee that is handed nothing but what the caller has made. -/
def bare (c : Cx) : Cx := { c with F := fun b => c.Fn true b, A := fun _ => False, ob := fun _ => .gone }

theorem bare_rel (h : RelC c n sl w0 Jo a) : RelC (bare c) 0 (fun _ => .dead) w0 ⟨Jo.blk, fun _ => none, fun _ => False, False⟩ { tmps := #[], defers := [] } :=
  { defers := rfl, size := rfl, slots := fun _ => .vdead, objs := fun _ => trivial, unalloc := fun _ _ => rfl, inj := fun i j hi => absurd rfl hi.1, own := fun i hi => absurd rfl hi.1
    fz := fun b hb => h.fz b hb.1, below := h.below, base := h.base, grown := h.grown, os := h.os, tape := h.tape, output := h.output, fix := fun i b hb => (by cases hb)
    old := fun b hb hlt => by
      have := hb.2 rfl
      have h2 : b < c.B := hlt
      omega
    mine := fun i hi => (by cases hi) }

theorem bare_arg {s : SV} {v : Value} (ha : argNw s = true) (h : SRepV c s v) : SRepV (bare c) s v := by
  cases s with
  | dat nw t x =>
    cases h with
    | one h =>
      cases h with
      | dat h =>
        refine .one (.dat ?_)
        simp only [argNw, Bool.or_eq_true] at ha
        rcases ha with rfl | ha
        · exact h.mono (fun b hb => ⟨hb, fun _ => hb.2 rfl⟩) (fun _ _ => rfl)
        · exact Rep.light (by simpa using ha) h
  | nils =>
    cases h with
    | one h => cases h; exact .one .nils
  | zc k =>
    cases h with
    | one h =>
      cases h with
      | zptr => exact .one .zptr
      | zmap => exact .one .zmap
      | zfun => exact .one .zfun
  | _ => cases ha

theorem bare_args : ∀ {l : List SV} {vs : List Value}, l.all argNw = true → SReps c l vs → SReps (bare c) l vs
  | _, _, _, .nil => .nil
  | _, _, ha, .cons a b => by
    simp only [List.all_cons, Bool.and_eq_true] at ha
    exact .cons (bare_arg ha.1 a) (bare_args ha.2 b)

end

section
variable {md : Bool} {f g : Nat → Obj}

theorem toV_nw {t : Ty} {s : SV} (ha : argNw s = true) : toV f t s = toV g t s := by
  cases s with
  | dat nw u v => cases t <;> rfl
  | nils => cases t <;> rfl
  | zc k => cases t <;> rfl
  | _ => cases ha

theorem borrows_nw {t : Ty} {s : SV} (ha : argNw s = true) : borrows t s = [] := by
  cases s with
  | dat nw u v => cases t <;> rfl
  | nils => cases t <;> rfl
  | zc k => cases t <;> rfl
  | _ => cases ha

theorem pickT_nw : ∀ (t : Tm) (s : SV) (r : Rho), argNw s = true → pickT md f t s r = pickT md g t s r := by
  intro t
  induction t with
  | dat nw u =>
    intro s r ha
    simp only [pickT]
    rw [toV_nw (f := f) (g := g) ha, borrows_nw ha]
    rfl
  | cons a b iha ihb =>
    intro s r ha
    cases s with
    | dat nw u v =>
      cases u with
      | pair u1 u2 =>
        have ha' : (nw || !(u1.heapy || u2.heapy)) = true := ha
        have h1 : argNw (.dat nw u1 v.1) = true := by
          simp only [argNw]
          revert ha'
          cases nw <;> cases u1.heapy <;> cases u2.heapy <;> simp
        have h2 : argNw (.dat nw u2 v.2) = true := by
          simp only [argNw]
          revert ha'
          cases nw <;> cases u1.heapy <;> cases u2.heapy <;> simp
        simp only [pickT]
        rw [iha _ _ h1]
        simp only [ihb _ _ h2]
      | _ => rfl
    | nils => rfl
    | zc k => rfl
    | _ => cases ha
  | nil =>
    intro s r ha
    cases s with
    | dat nw u v => cases u <;> rfl
    | nils => rfl
    | zc k => rfl
    | _ => cases ha
  | _ =>
    intro s r ha
    cases s with
    | dat nw u v => rfl
    | nils => rfl
    | zc k => rfl
    | _ => cases ha

theorem pickV_nw {t : Tm} {s : SV} {r : Rho} (ha : argNw s = true) : pickV md f t s r = pickV md g t s r := by
  cases t with
  | dead => rfl
  | tup b =>
    cases s with
    | dat nw u v => rfl
    | nils => rfl
    | zc k => rfl
    | _ => cases ha
  | _ => exact pickT_nw _ s r ha

theorem pickB_nil {l : List (Nat × OT)} {r : Rho} (h : l = []) : pickB md f l r = pickB md g l r := by subst h; rfl

theorem pickB_empty {l : List (Nat × OT)} {r : Rho} {x : Rho × ((acc : List H) → Dl acc → Dl (holesB l acc))} (h : pickB md f l r = some x) (hr : ∀ k, look r.ρ k = none) : l = [] := by
  cases l with
  | nil => rfl
  | cons y l =>
    obtain ⟨k, o⟩ := y
    simp only [pickB, hr k] at h
    cases h

theorem pickS_nw {sl : Nat → SV} (ha : ∀ k, sl k = .dead ∨ argNw (sl k) = true) : ∀ (l : List (Nat × Tm)) (r : Rho), pickS md f sl l r = pickS md g sl l r
  | [], r => rfl
  | (k, t) :: l, r => by
    have : pickV md f t (sl k) r = pickV md g t (sl k) r := by
      rcases ha k with e | e
      · rw [e]
        cases t with
        | dat nw u => cases u <;> rfl
        | _ => rfl
      · exact pickV_nw e
    simp only [pickS]
    rw [this]
    simp only [pickS_nw ha l]

end

section
variable {P : Program} {E : Env} {H : Nat → Option Sum}

theorem rho_nil {nx : Nat} {R : Rho} (h : rhoOk nx R = true) (h0 : nx = 0) (i : Nat) : look R.ρ i = none := by
  cases e : look R.ρ i with
  | none => rfl
  | some x =>
    have := (rhoOk_spec h).2.2.2 i x e
    omega

theorem ctr_ok (hE : EnvOk P E) (hM : P.follows .mixedOrders = true) {f : FuncId} {fn : Func} {code : Code} (hf : P.funcs[f]? = some fn) (hb : fn.body = some code) (henter : ∀ args w, (callFunc f args).run P w = .ok (.enter f args) w)
    {shI shO : Shape} {Y Z : Type} {ci : shI.D → Y} {ui : Y → shI.D} {co : shO.D → Z} {uo : Z → shO.D} (hci : ∀ d, ui (ci d) = d) (hco : ∀ d, uo (co d) = d) (hn : shI.n = fn.ntmps) (hs : shapesOk shI shO = true)
    {F : Y → Option Z} (hbody : ∀ y, exec E H code (shI.mk' (ui y)) (kontF E fn.results.toList shO co) = F y)
    (hL : ∀ (w0 : World) (Jo : Io), (∀ i b, Jo.fix i = some b → i ∈ shI.fix) → (shI.may = true → Jo.may) → LoopsOk P w0 Jo H code) : CtrOk P f (ctrOf shI shO ci uo F) := by
  have hs' := hs
  simp only [shapesOk, Bool.and_eq_true] at hs'
  obtain ⟨⟨⟨⟨⟨s1, s2⟩, s3⟩, s4⟩, s5⟩, s6⟩ := hs'
  refine ⟨henter, fun c n sl w0 Jo a h args vs ha id0 hid r hr => ?_, fun args f g id0 r hle hr => ?_⟩
  · unfold ctrOf at hr
    split at hr
    · rename_i r1 fd hlen e1
      have hlen := Nat.le_of_ble_eq_true hlen
      split at hr
      · rename_i R gd e2
        split at hr
        · rename_i hc
          simp only [Bool.and_eq_true] at hc
          obtain ⟨⟨⟨e3, e4⟩, e5⟩, e6⟩ := hc
          simp only [PR.val] at hr
          obtain ⟨z, hz, hr⟩ := bind_some hr
          simp only [Option.some.injEq] at hr
          subst hr
          cases hfr : frOf R.kill shI args with
          | true =>
            simp only [frOf, Bool.and_eq_true] at hfr
            obtain ⟨⟨f1, f2⟩, f3⟩ := hfr
            have f1 := List.isEmpty_iff.1 f1
            have f2 := Nat.eq_of_beq_eq_true f2
            have hno := rho_nil e3 f2
            have hsh : shI.ob = [] := pickB_empty e2 (fun k => by
              cases e : look r1.ρ k with
              | none => rfl
              | some x =>
                have := (pickB_le e2).look k x e
                rw [hno] at this; cases this)
            have hargs : ∀ k, args.getD k .dead = .dead ∨ argNw (args.getD k .dead) = true := by
              intro k
              by_cases hk : k < args.length
              · right
                rw [List.getD, List.getElem?_eq_getElem hk]
                exact List.all_eq_true.1 f3 _ (List.getElem_mem hk)
              · left
                rw [List.getD, List.getElem?_eq_none (by omega)]
                rfl
            have e1' : pickS false (bare c).ob (fun k => args.getD k .dead) shI.sl ⟨[], [], []⟩ = some (r1, fd) := by
              rw [pickS_nw (g := c.ob) hargs]; exact e1
            have e2' : pickB false (bare c).ob shI.ob r1 = some (R, gd) := by
              rw [pickB_nil (g := c.ob) hsh]; exact e2
            obtain ⟨ob', hob0, hrel⟩ := callee_rel (bare_rel h) (bare_args f3 ha) hlen e1' e2' e3 (by rw [f2]; rfl)
            have hob1 : ∀ i, ob' i = .gone := by
              intro i
              rcases hob0 i with e | ⟨j, e, _⟩ | ⟨e, _⟩
              · exact e
              · rw [hno] at e; cases e
              · rw [hno] at e; cases e
            have hx := hbody (ci (fd _ (gd [] ())))
            rw [hci, hz] at hx
            rw [hn] at hrel
            have hcall := fn_ok (co := co) (uo := uo) hE hM hf hb hco (fun i b hib => by simp only [ioOf] at hib; rw [f2] at hib; simp at hib) (fun hm => by rw [hm] at s5; simpa [ioOf] using s5) (hL c.w (ioOf (bare c) R ob' shI.nx shI.may) (fun i b hib => by simp only [ioOf] at hib; rw [f2] at hib; simp at hib) (fun hm => hm)) hrel hx
            refine Calls.mono hcall fun e w' hq => ?_
            obtain ⟨c', a', v, rfl, rfl, h', hv⟩ := hq
            have h'2 : RelS c' (shO.mk' (uo z)) c.w (ioOf c R ob' shI.nx shI.may) a' := by
              refine ⟨h'.rel.jo (fun b hb => ?_) (fun i b hib => ?_) (fun b hb => ?_) (fun hm => hm), h'.ob, h'.fresh⟩
              · obtain ⟨i, j, k1, _⟩ := hb
                rw [hno] at k1; cases k1
              · simp only [ioOf] at hib
                rw [f2] at hib; simp at hib
              · rcases hb with hb | ⟨m, hm, _⟩
                · exact .inl hb.1
                · rw [f1] at hm; cases hm
            obtain ⟨c'', k1, k2, k3, k4, k5, k6⟩ := caller_rel h (fun i => .inl (hob1 i)) e3 e4 hs hid h'2 e6
            refine ⟨c'', v, rfl, k1.symm, k2, k3, k6 (fun b hb hlt => ?_) _ _ ?_, k5⟩
            · rcases h'.rel.old b hb (by rw [h'.rel.base]; exact hlt) with hb | ⟨⟨i, j, k1, _⟩, _⟩
              · rcases hb with hb | ⟨m, hm, _⟩
                · exact hb
                · rw [f1] at hm; cases hm
              · rw [hno] at k1; cases k1
            · have := h'.rel.slots (shO.n - 1)
              rw [hv] at this
              exact this
          | false =>
          obtain ⟨ob', hob0, hrel⟩ := callee_rel h ha hlen e1 e2 e3 e4
          have hin : ∀ i, i < shI.nx → i ∈ shI.fix ∧ i ∈ shO.fix := by
            intro i hi
            have := rangeAll_spec s1 i hi
            simp only [Bool.and_eq_true] at this
            obtain ⟨j, hj, hij⟩ := List.any_eq_true.1 this.1
            obtain ⟨k, hk, hik⟩ := List.any_eq_true.1 this.2
            rw [← Nat.eq_of_beq_eq_true hij] at hj
            rw [← Nat.eq_of_beq_eq_true hik] at hk
            exact ⟨hj, hk⟩
          have hfx : ∀ i b, (ioOf c R ob' shI.nx shI.may).fix i = some b → i < shI.nx := by
            intro i b hib
            simp only [ioOf] at hib
            split at hib
            · assumption
            · cases hib
          have hx := hbody (ci (fd _ (gd [] ())))
          rw [hci, hz] at hx
          rw [hn] at hrel
          have hcall := fn_ok (co := co) (uo := uo) hE hM hf hb hco (fun i b hib => (hin i (hfx i b hib)).2) (fun hm => by rw [hm] at s5; simpa [ioOf] using s5) (hL c.w (ioOf c R ob' shI.nx shI.may) (fun i b hib => (hin i (hfx i b hib)).1) (fun hm => hm)) hrel hx
          refine Calls.mono hcall fun e w' hq => ?_
          obtain ⟨c', a', v, rfl, rfl, h', hv⟩ := hq
          obtain ⟨c'', k1, k2, k3, k4, k5, _⟩ := caller_rel h hob0 e3 e4 hs hid h' e6
          refine ⟨c'', v, rfl, k1.symm, k2, k3, k4 _ _ ?_, k5⟩
          have := h'.rel.slots (shO.n - 1)
          rw [hv] at this
          exact this
        · cases hr
      · cases hr
    · cases hr
  · unfold ctrOf at hr ⊢
    split at hr
    · rename_i e0 e1
      rw [e0, pickS_mono hle e1]
      simp only
      split at hr
      · rename_i e2
        rw [pickB_mono hle e2]
        simp only
        split at hr
        · rename_i hc
          simp only [Bool.and_eq_true] at hc
          obtain ⟨⟨⟨e3, e4⟩, e5⟩, e6⟩ := hc
          rw [e3, boundOk_mono hle e4, e5, e6]
          exact hr
        · cases hr
      · cases hr
    · cases hr

end
end Go.Sx
