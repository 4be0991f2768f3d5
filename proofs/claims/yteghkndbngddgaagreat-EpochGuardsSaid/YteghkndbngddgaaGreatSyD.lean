/- The symbolic executor's meaning: states and loops. -/
import Derived.Test.YteghkndbngddgaaGreatSyC
set_option linter.unusedVariables false
namespace Go.Sx
open Go.RowKit
theorem ntIn_spec {ρ : List (Nat × Option Nat)} : ∀ {l : List (Nat × Ty)}, ntIn ρ l = true → ∀ p ∈ l, look ρ p.1 = some none
  | [], _, p, hp => by simp at hp
  | (i, t) :: l, h, p, hp => by
    simp only [ntIn, Bool.and_eq_true] at h
    simp only [List.mem_cons] at hp
    rcases hp with rfl | hp
    · have := h.1
      split at this
      · assumption
      · cases this
    · exact ntIn_spec h.2 p hp
theorem rhoOk_spec {nx : Nat} {R : Rho} (h : rhoOk nx R = true) : (∀ p ∈ R.nt, look R.ρ p.1 = some none) ∧ (∀ j ∈ R.kill, usedIn R.ρ j = false) ∧ injB R.ρ = true ∧ ∀ i x, look R.ρ i = some x → i < nx := by
  simp only [rhoOk, Bool.and_eq_true, List.all_eq_true] at h
  obtain ⟨⟨⟨h1, h2⟩, h3⟩, h4⟩ := h
  refine ⟨ntIn_spec h1, fun j hj => by simpa using h2 j hj, h3, fun i x hx => ?_⟩
  obtain ⟨p, hp, rfl⟩ := look_mem hx
  simpa using h4 p hp
theorem pick_parts {md : Bool} {sh : Shape} {s : St} {d : sh.D} (h : sh.pick md s = some d) : sh.n = s.n ∧ ∃ r1 R, ∃ f : (acc : List H) → Dl acc → Dl (holesS sh.sl acc), ∃ g : (acc : List H) → Dl acc → Dl (holesB sh.ob acc),
    pickS md s.ob s.sl sh.sl ⟨fix0 sh.fix, [], []⟩ = some (r1, f) ∧ pickB md s.ob sh.ob r1 = some (R, g) ∧ rhoOk sh.nx R = true ∧ (sh.may || R.kill.all fun j => isMine (s.ob j)) = true ∧ d = f _ (g [] ()) := by
  unfold Shape.pick at h
  split at h
  · rename_i hn
    split at h
    · rename_i r1 f e1
      split at h
      · rename_i R g e2
        split at h
        · rename_i e3
          cases h
          rw [Bool.and_eq_true] at e3
          exact ⟨Nat.eq_of_beq_eq_true hn, r1, R, f, g, e1, e2, e3.1, e3.2, rfl⟩
        · cases h
      · cases h
    · cases h
  · cases h
section
variable {c : Cx} {s : St} {w0 : World} {Jo : Io} {a : Act}
theorem pick_ok (h : RelS c s w0 Jo a) {sh : Shape} {d : sh.D} (hp : sh.pick true s = some d) (hfix : ∀ i b, Jo.fix i = some b → i ∈ sh.fix) (hmay : sh.may = true → Jo.may) : ∃ c', c'.w = c.w ∧ RelS c' (sh.mk' d) w0 Jo a := by
  obtain ⟨hn, r1, R, f, g, e1, e2, e3, e4, rfl⟩ := pick_parts hp
  obtain ⟨hnt, hkill, hinj, hlt⟩ := rhoOk_spec e3
  rw [← h.ob] at e1 e2
  have hle2 := pickB_le e2
  have hle := (pickS_le e1).trans hle2
  have hob0 : ∀ i, (ups (fun _ => Obj.gone) (mkB id sh.ob [] (g [] ()))) i = .gone ∨ Found true c.ob R i ((ups (fun _ => Obj.gone) (mkB id sh.ob [] (g [] ()))) i) := fun i => pickB_found e2 (.refl R) [] () (fun _ => .gone) i
  generalize hob' : ups (fun _ => Obj.gone) (mkB id sh.ob [] (g [] ())) = ob' at hob0
  have hL : Link true c (newCx c R ob') R := found_link (B' := c.B) hob0 (fun _ => ⟨rfl, h.rel.mine⟩) hnt
  obtain ⟨q1, q2⟩ := pickS_ok hL h.rel.objs (fun k => h.rel.slots k) e1 hle2 (holesB sh.ob []) (g [] ()) (fun _ => .dead) (fun _ => .vdead)
  obtain ⟨_, q3⟩ := pickB_ok hL h.rel.objs e2 (.refl R) [] () (fun _ => .gone) (fun _ => trivial)
  have hst : (sh.mk' (f _ (g [] ()))).ob = ob' := by
    simp only [Shape.mk', q1]
    exact hob'
  rw [hob'] at q3
  have live : ∀ i, Live (newCx c R ob') i → ∃ j, look R.ρ i = some (some j) ∧ Live c j ∧ (newCx c R ob').β i = c.β j := by
    intro i hi
    rcases hob0 i with e | ⟨j, h1, h2, _⟩ | ⟨h1, _⟩
    · exact absurd e hi.1
    · have hβ := hL.β i j h1
      refine ⟨j, h1, ⟨fun e => ?_, by rw [← hβ]; exact hi.2⟩, hβ⟩
      rw [e] at h2; exact h2
    · have := hi.2
      rw [hL.βn i h1] at this
      cases this
  refine ⟨newCx c R ob', rfl, ⟨?_, by rw [hst]; rfl, fun i hi => ?_⟩⟩
  · refine { defers := h.rel.defers, size := by rw [h.rel.size]; exact hn.symm, slots := q2, objs := q3, unalloc := fun i hi => ?_, inj := fun i j hi hj hij => ?_, own := fun i hi => ?_, fz := fun b hb => ?_,
             below := h.rel.below, base := h.rel.base, grown := h.rel.grown, os := h.rel.os, tape := h.rel.tape, output := h.rel.output, fix := fun i b hb => ?_, old := fun b hb hlt => ?_, mine := fun i hi hnn => ?_ }
    · rcases hob0 i with e | ⟨j, h1, _⟩ | ⟨h1, _⟩
      · exact e
      · exact absurd ⟨_, h1⟩ hi
      · exact absurd ⟨_, h1⟩ hi
    · obtain ⟨i', h1, h2, h3⟩ := live i hi
      obtain ⟨j', h4, h5, h6⟩ := live j hj
      rw [h3, h6]
      exact h.rel.inj i' j' h2 h5 (fun e => hij (by subst e; exact look_inj hinj h1 h4))
    · obtain ⟨j, h1, h2, h3⟩ := live i hi
      obtain ⟨k1, k2, k3⟩ := h.rel.own j h2
      rw [h3]
      refine ⟨fun hf => ?_, k2, k3⟩
      rcases hf with hf | ⟨m, hm, hl, e⟩
      · exact k1 hf
      · have : j = m := by
          by_cases e2 : j = m
          · exact e2
          · exact absurd e (h.rel.inj j m h2 hl e2)
        subst this
        have := hkill j hm
        rw [look_used h1] at this; cases this
    · rcases hb with hb | ⟨m, hm, hl, rfl⟩
      · exact h.rel.fz b hb
      · exact (h.rel.own m hl).2.1
    · obtain ⟨k1, k2⟩ := h.rel.fix i b hb
      have hlk := hle.look i (some i) (look_fix0 (hfix i b hb))
      refine ⟨⟨_, hlk⟩, ?_⟩
      rcases hob0 i with e | ⟨j, h1, h2, _⟩ | ⟨h1, _⟩
      · exact .inl e
      · rw [hlk] at h1
        simp at h1; subst h1
        rcases k2 with k2 | k2
        · rw [k2] at h2; exact absurd h2 (by simp [sameShape])
        · right; rw [hL.β i i hlk]; exact ⟨k2.1, sameShape_trans k2.2 h2⟩
      · rw [hlk] at h1; simp at h1
    · rcases hb with hb | ⟨m, hm, hl, rfl⟩
      · exact h.rel.old b hb hlt
      · rcases (h.rel.own m hl).2.2 with k | k
        · have : (c.β m).blk < c.B := hlt
          omega
        · refine .inr ⟨k, ?_⟩
          by_cases hm' : sh.may = true
          · exact hmay hm'
          · exfalso
            rw [Bool.eq_false_iff.2 hm', Bool.false_or, List.all_eq_true] at e4
            have := e4 m hm
            rw [← h.ob] at this
            have := h.rel.mine m this hl.2
            have : (c.β m).blk < c.B := hlt
            omega
    · have hi : isMine (ob' i) = true := hi
      rcases hob0 i with e | ⟨j, h1, h2, h3⟩ | ⟨h1, _⟩
      · rw [e] at hi; cases hi
      · rw [hL.β i j h1] at hnn ⊢
        exact h.rel.mine j (h3 hi).2 hnn
      · rw [hL.βn i h1] at hnn; cases hnn
  · rintro ⟨x, hx⟩
    have := hlt i x hx
    have : sh.nx ≤ i := hi
    omega
end
theorem least_ex (p : Nat → Prop) (h : ∃ n, p n) : ∃ n, p n ∧ ∀ m, p m → n ≤ m := by
  obtain ⟨n, hn⟩ := h
  induction n using Nat.strongRecOn with
  | _ n ih =>
    by_cases e : ∃ m, m < n ∧ p m
    · obtain ⟨m, h1, h2⟩ := e
      exact ih m h1 h2
    · exact ⟨n, hn, fun m hm => by
        by_cases e2 : n ≤ m
        · exact e2
        · exact absurd ⟨m, by omega, hm⟩ e⟩
noncomputable def least (p : Nat → Prop) (h : ∃ n, p n) : Nat := Classical.choose (least_ex p h)
theorem least_spec {p : Nat → Prop} (h : ∃ n, p n) : p (least p h) := (Classical.choose_spec (least_ex p h)).1
theorem least_le {p : Nat → Prop} (h : ∃ n, p n) {m : Nat} (hm : p m) : least p h ≤ m := (Classical.choose_spec (least_ex p h)).2 m hm
section
variable {α β : Type}
def iterN (body : α → Option (α ⊕ β)) : Nat → α → Option β
  | 0, _ => none
  | n + 1, x => match body x with
    | none => none
    | some (.inl y) => iterN body n y
    | some (.inr r) => some r
theorem iterN_mono {body : α → Option (α ⊕ β)} : ∀ {n m : Nat} {x : α} {r : β}, iterN body n x = some r → n ≤ m → iterN body m x = some r
  | 0, m, x, r, h, _ => by cases h
  | n + 1, m, x, r, h, hm => by
    obtain ⟨m, rfl⟩ : ∃ k, m = k + 1 := ⟨m - 1, by omega⟩
    simp only [iterN] at h ⊢
    split at h
    · cases h
    · exact iterN_mono h (by omega)
    · exact h
open Classical in
noncomputable def iter (body : α → Option (α ⊕ β)) (x : α) : Option β :=
  if h : ∃ n r, iterN body n x = some r then some (Classical.choose (Classical.choose_spec h)) else none
theorem iter_some {body : α → Option (α ⊕ β)} {x : α} {r : β} : iter body x = some r ↔ ∃ n, iterN body n x = some r := by
  unfold iter
  constructor
  · intro h
    split at h
    · rename_i hh
      simp only [Option.some.injEq] at h
      exact ⟨_, by rw [Classical.choose_spec (Classical.choose_spec hh), h]⟩
    · cases h
  · rintro ⟨n, hn⟩
    rw [dif_pos ⟨n, r, hn⟩]
    have hh : ∃ n r, iterN body n x = some r := ⟨n, r, hn⟩
    have h1 := Classical.choose_spec (Classical.choose_spec hh)
    have h2 := iterN_mono h1 (Nat.le_max_left _ n)
    have h3 := iterN_mono hn (Nat.le_max_right (Classical.choose hh) n)
    rw [h2] at h3
    exact h3
theorem iter_eq (body : α → Option (α ⊕ β)) (x : α) : iter body x = match body x with
    | none => none
    | some (.inl y) => iter body y
    | some (.inr r) => some r := by
  apply Option.ext
  intro r
  rw [iter_some]
  constructor
  · rintro ⟨n, hn⟩
    cases n with
    | zero => cases hn
    | succ n =>
      simp only [iterN] at hn
      split at hn
      · cases hn
      · rename_i y e; exact iter_some.2 ⟨n, hn⟩
      · exact hn
  · intro h
    split at h
    · cases h
    · rename_i y e
      obtain ⟨n, hn⟩ := iter_some.1 h
      exact ⟨n + 1, by simp only [iterN, e]; exact hn⟩
    · rename_i r' e
      exact ⟨1, by simp only [iterN, e]; exact h⟩
end
def exEq : Ex → Ex → Bool
  | .normal, .normal => true
  | .exit i, .exit j => Nat.beq i j
  | .ret, .ret => true
  | _, _ => false
theorem exEq_eq : ∀ {a b : Ex}, exEq a b = true → a = b
  | .normal, .normal, _ => rfl
  | .exit i, .exit j, h => by rw [Nat.eq_of_beq_eq_true h]
  | .ret, .ret, _ => rfl
  | .normal, .exit _, h => by cases h
  | .normal, .ret, h => by cases h
  | .exit _, .normal, h => by cases h
  | .exit _, .ret, h => by cases h
  | .ret, .normal, h => by cases h
  | .ret, .exit _, h => by cases h
@[reducible] def Outs : List (Ex × Shape) → Type
  | [] => Empty
  | [x] => x.2.D
  | x :: y :: l => x.2.D ⊕ Outs (y :: l)
def outPick : (l : List (Ex × Shape)) → Ex → St → Option (Outs l)
  | [], _, _ => none
  | [x], e, s => match exEq x.1 e with
    | true => x.2.pick true s
    | false => none
  | x :: y :: l, e, s => match exEq x.1 e with
    | true => match x.2.pick true s with
      | some d => some (.inl d)
      | none => none
    | false => match outPick (y :: l) e s with
      | some d => some (.inr d)
      | none => none
def outMk : (l : List (Ex × Shape)) → Outs l → Ex × St
  | [], e => nomatch e
  | [x], d => (x.1, x.2.mk' d)
  | x :: _ :: _, .inl d => (x.1, x.2.mk' d)
  | _ :: y :: l, .inr d => outMk (y :: l) d
def outRet : (l : List (Ex × Shape)) → Outs l → PR (Ex × St)
  | [], _ => .fail
  | [x], d => .ret (x.1, x.2.mk' d)
  | x :: y :: l, r => .alt (γ := Outs (y :: l)) r (fun d => .ret (x.1, x.2.mk' d)) (fun d => outRet (y :: l) d)
theorem outRet_val : ∀ (l : List (Ex × Shape)) (d : Outs l), (outRet l d).val = some (outMk l d)
  | [], d => nomatch d
  | [x], d => rfl
  | x :: y :: l, .inl d => rfl
  | x :: y :: l, .inr d => outRet_val (y :: l) d
def kont {Y Z : Type} (sh : Shape) (outs : List (Ex × Shape)) (ci : sh.D → Y) (co : Outs outs → Z) : Ex → St → Option (Y ⊕ Z)
  | .normal, s => match sh.pick true s with
    | some d => some (.inl (ci d))
    | none => none
  | .exit i, s => match outPick outs (.exit i) s with
    | some d => some (.inr (co d))
    | none => none
  | .ret, s => match outPick outs .ret s with
    | some d => some (.inr (co d))
    | none => none
def loopSum {Y Z : Type} (sh : Shape) (outs : List (Ex × Shape)) (ci : sh.D → Y) (uo : Z → Outs outs) (F : Y → Option Z) : Sum := fun s => match sh.pick true s with
  | some d => .det (.bnd (F (ci d)) fun r => outRet outs (uo r))
  | none => .det .fail
section
variable {w0 : World} {Jo : Io} {P : Program} {E : Env} {H : Nat → Option Sum}
def outFix (may : Bool) (fx : List Nat) (l : List (Ex × Shape)) : Bool := l.all fun x => (!x.2.may || may) && fx.all fun i => x.2.fix.any fun j => Nat.beq i j
theorem outPick_ok {fx : List Nat} {may : Bool} (hmay : may = true → Jo.may) (hfix : ∀ i b, Jo.fix i = some b → i ∈ fx) : ∀ {l : List (Ex × Shape)} {e : Ex} {s : St} {r : Outs l} {c : Cx} {a : Act}, outFix may fx l = true → RelS c s w0 Jo a → outPick l e s = some r →
    (outMk l r).1 = e ∧ ∃ c', c'.w = c.w ∧ RelS c' (outMk l r).2 w0 Jo a
  | [], e, s, r, c, a, _, h, hp => by cases hp
  | [x], e, s, r, c, a, hf, h, hp => by
    simp only [outPick] at hp
    split at hp
    · rename_i e1
      refine ⟨exEq_eq e1, pick_ok h hp (fun i b hb => ?_) (fun hm => ?_)⟩
      have := List.all_eq_true.1 hf x (by simp)
      rw [Bool.and_eq_true] at this
      have := List.all_eq_true.1 this.2 i (hfix i b hb)
      obtain ⟨j, hj, hij⟩ := List.any_eq_true.1 this
      rw [Nat.eq_of_beq_eq_true hij]; exact hj
      have := List.all_eq_true.1 hf x (by simp)
      rw [Bool.and_eq_true, hm] at this
      exact hmay (by simpa using this.1)
    · cases hp
  | x :: y :: l, e, s, r, c, a, hf, h, hp => by
    simp only [outPick] at hp
    split at hp
    · rename_i e1
      split at hp
      · rename_i d hd
        cases hp
        refine ⟨exEq_eq e1, pick_ok h hd (fun i b hb => ?_) (fun hm => ?_)⟩
        have := List.all_eq_true.1 hf x (by simp)
        rw [Bool.and_eq_true] at this
        have := List.all_eq_true.1 this.2 i (hfix i b hb)
        obtain ⟨j, hj, hij⟩ := List.any_eq_true.1 this
        rw [Nat.eq_of_beq_eq_true hij]; exact hj
        have := List.all_eq_true.1 hf x (by simp)
        rw [Bool.and_eq_true, hm] at this
        exact hmay (by simpa using this.1)
      · cases hp
    · split at hp
      · rename_i d hd
        cases hp
        simp only [outFix, List.all_cons, Bool.and_eq_true] at hf
        exact outPick_ok hmay hfix (l := y :: l) (by simp only [outFix, List.all_cons, Bool.and_eq_true]; exact hf.2) h hd
      · cases hp
theorem loop_ok {Y Z : Type} (hE : EnvOk P E) (hM : P.follows .mixedOrders = true) {cl : Code} {sh : Shape} {outs : List (Ex × Shape)} {ci : sh.D → Y} {ui : Y → sh.D} {co : Outs outs → Z} {uo : Z → Outs outs} (hci : ∀ d, ui (ci d) = d) (hco : ∀ d, uo (co d) = d)
    (hfix : ∀ i b, Jo.fix i = some b → i ∈ sh.fix) (hmay : sh.may = true → Jo.may) (hout : outFix sh.may sh.fix outs = true) (hLo : LoopsOk P w0 Jo H cl) {body : Y → Option (Y ⊕ Z)} (hb : ∀ y, exec E H cl (sh.mk' (ui y)) (kont sh outs ci co) = body y) :
    SumOk P w0 Jo (loopSum sh outs ci uo (iter body)) (.loop cl) := by
  intro c s a h R r k hr Q hQ
  unfold loopSum at hr
  split at hr
  · rename_i d hd
    simp only [DR.run, PR.run] at hr
    obtain ⟨z, hz, hr⟩ := bind_some hr
    rw [PR.run_eq, outRet_val] at hr
    have hr : k (outMk outs (uo z)).1 (outMk outs (uo z)).2 = some r := hr
    obtain ⟨n0, hn0⟩ := iter_some.1 hz
    obtain ⟨c0, hw0, h0⟩ := pick_ok h hd hfix hmay
    let I : Act → World → Prop := fun a w => ∃ n y c, c.w = w ∧ RelS c (sh.mk' (ui y)) w0 Jo a ∧ iterN body n y = some z
    classical
    let μ : Act → World → Nat := fun a w => if hh : ∃ n y c, c.w = w ∧ RelS c (sh.mk' (ui y)) w0 Jo a ∧ iterN body n y = some z then least _ hh else 0
    refine wp_loop I μ ⟨n0, ci d, c0, hw0, by rw [hci]; exact h0, hn0⟩ (fun a w hI => ?_)
    have hI' : ∃ n y c, c.w = w ∧ RelS c (sh.mk' (ui y)) w0 Jo a ∧ iterN body n y = some z := hI
    have hμ : μ a w = least _ hI' := dif_pos hI'
    obtain ⟨y, c, rfl, hrel, hit⟩ := least_spec hI'
    rw [hμ]
    generalize least _ hI' = n at hit
    cases n with
    | zero => cases hit
    | succ n =>
      simp only [iterN] at hit
      cases hby : body y with
      | none => rw [hby] at hit; cases hit
      | some out =>
        rw [hby] at hit
        have hx := hb y
        rw [hby] at hx
        refine exec_ok hE hM cl c _ a _ _ hLo hrel hx (fun e s' a' c' hr' hk => ?_)
        cases e with
        | normal =>
          simp only [kont] at hk
          split at hk
          · rename_i d' hd'
            cases hk
            obtain ⟨c'', hw, hr''⟩ := pick_ok hr' hd' hfix hmay
            have hI2 : ∃ n y c, c.w = c'.w ∧ RelS c (sh.mk' (ui y)) w0 Jo a' ∧ iterN body n y = some z := ⟨n, ci d', c'', hw, by rw [hci]; exact hr'', hit⟩
            refine ⟨hI2, ?_⟩
            have : μ a' c'.w = least _ hI2 := dif_pos hI2
            rw [this]
            exact Nat.lt_succ_of_le (least_le hI2 ⟨ci d', c'', hw, by rw [hci]; exact hr'', hit⟩)
          · cases hk
        | exit i =>
          simp only [kont] at hk
          split at hk
          · rename_i d' hd'
            cases hk
            simp only [Option.some.injEq] at hit
            subst hit
            obtain ⟨q1, c'', hw, hr''⟩ := outPick_ok (Jo := Jo) hmay hfix hout hr' hd'
            rw [hco] at hr
            have := hQ _ _ a' c'' hr'' hr
            rw [q1, hw] at this
            exact this
          · cases hk
        | ret =>
          simp only [kont] at hk
          split at hk
          · rename_i d' hd'
            cases hk
            simp only [Option.some.injEq] at hit
            subst hit
            obtain ⟨q1, c'', hw, hr''⟩ := outPick_ok (Jo := Jo) hmay hfix hout hr' hd'
            rw [hco] at hr
            have := hQ _ _ a' c'' hr'' hr
            rw [q1, hw] at this
            exact this
          · cases hk
  · cases hr
end
end Go.Sx
