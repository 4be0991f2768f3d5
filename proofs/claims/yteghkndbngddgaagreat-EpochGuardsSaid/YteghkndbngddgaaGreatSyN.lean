/- The symbolic executor's meaning: ranges over maps. -/
import Derived.Test.YteghkndbngddgaaGreatSyJ
import Derived.Maps.RangeRun
set_option linter.unusedVariables false
set_option linter.unusedSimpArgs false
namespace Go.Sx
open Go.RowKit
def idx (n : Nat) : List Int := (List.range n).map Int.ofNat
theorem mem_idx {n : Nat} {x : Int} : x ∈ idx n ↔ 0 ≤ x ∧ x < n := by
  simp only [idx, List.mem_map, List.mem_range]
  constructor
  · rintro ⟨j, hj, rfl⟩
    simp only [Int.ofNat_eq_natCast]; omega
  · intro h
    exact ⟨x.toNat, by omega, by simp only [Int.ofNat_eq_natCast]; omega⟩
theorem nodup_idx (n : Nat) : (idx n).Nodup := by
  unfold idx
  rw [List.nodup_iff_pairwise_ne, List.pairwise_map]
  exact (List.nodup_iff_pairwise_ne.1 List.nodup_range).imp fun h e => h (Int.ofNat.inj e)
theorem len_idx (n : Nat) : (idx n).length = n := by simp [idx]
theorem rest_perm {n : Nat} {L : List Int} (hn : L.Nodup) (hs : ∀ x ∈ L, x ∈ idx n) : (((idx n).filter fun x => !L.contains x) ++ L).Perm (idx n) := by
  refine (List.perm_ext_iff_of_nodup ?_ (nodup_idx n)).2 fun x => ?_
  · rw [List.nodup_append]
    refine ⟨(nodup_idx n).filter _, hn, fun x hx y hy e => ?_⟩
    subst e
    simp only [List.mem_filter, Bool.not_eq_true', List.contains_eq_mem, decide_eq_false_iff_not] at hx
    exact hx.2 hy
  · simp only [List.mem_append, List.mem_filter, Bool.not_eq_true', List.contains_eq_mem, decide_eq_false_iff_not]
    constructor
    · rintro (h | h)
      · exact h.1
      · exact hs x h
    · intro h
      by_cases e : x ∈ L
      · exact .inr e
      · exact .inl ⟨h, e⟩
def nextSt (s : St) (it t28 t29 : Nat) (i : Int) : St :=
  { s with
    sl := up (up s.sl t28 .dead) t29 (.dat true .bool true)
    ob := match s.ob it with
      | .itr m n l => up s.ob it (.itr m n (i :: l))
      | _ => s.ob }
def overSt (s : St) (t28 t29 : Nat) : St := { s with sl := up (up s.sl t28 .dead) t29 (.dat true .bool false) }
section
variable {Y : Type}
def rfold (cnt : Y → Nat) (nOf : Y → Int) (seen : Y → List Int) (body : Y → Int → Option Y) : Y → List Int → Option Y
  | y, [] => some y
  | y, i :: l => (body y i).bind fun y' => bif decide (nOf y' = nOf y) && decide (seen y' = i :: seen y) && decide (cnt y' = cnt y) then rfold cnt nOf seen body y' l else none
def kontN (sh : Shape) (ci : sh.D → Y) : Ex → St → Option Y
  | .normal, s => match sh.pick true s with
    | some d => some (ci d)
    | none => none
  | _, _ => none
def rangeSum (sh : Shape) (ci : sh.D → Y) (ui : Y → sh.D) (ex t28 t29 : Nat) (cnt : Y → Nat) (nOf : Y → Int) (seen : Y → List Int) (body : Y → Int → Option Y) : Sum := fun s => match sh.pick true s with
  | some d => .dem (fun π : List Int => π.Perm (idx (cnt (ci d)))) fun π => .chk (decide (nOf (ci d) = cnt (ci d)) && (seen (ci d)).isEmpty)
      (.bnd (rfold cnt nOf seen body (ci d) π) fun y => .ret (.exit ex, overSt (sh.mk' (ui y)) t28 t29))
  | none => .det .fail
end
section
variable {w0 : World} {Jo : Io} {P : Program} {E : Env} {H : Nat → Option Sum}
theorem wpOps_two {o1 o2 : Oper} (h1 : o1.guard = none) (h2 : o2.guard = none) {Q : Exit → Act → World → Prop} {a : Act} {w : World} (h : o1.wp P a w (fun a' w' => o2.wp P a' w' (fun a'' w'' => Q .normal a'' w'') Q) Q) :
    wpOps P #[o1, o2] Q (List.range (#[o1, o2] : Array Oper).size) a w := by
  have wt : ∀ (o : Oper), o.guard = none → ∀ y, Region.wanted o y = true := fun o ho y => by simp [Region.wanted, ho]
  show wpOps P #[o1, o2] Q [0, 1] a w
  simp only [wpOps]
  simp only [show (#[o1, o2] : Array Oper)[0]? = some o1 from rfl, show (#[o1, o2] : Array Oper)[1]? = some o2 from rfl, wt o1 h1, wt o2 h2, if_true]
  exact .inl (Oper.wp_mono (fun a' w' hw => .inl hw) h)
theorem next_ok {c : Cx} {n : Nat} {sl : Nat → SV} {a : Act} (h : RelC c n sl w0 Jo a) {it m N : Nat} {L : List Int} {k : IntKind} {nw : Bool} {t : Ty} {es : List (Int × Val t)} {v : Value} (hv : SRepV c (.it it) v) (hit : c.ob it = .itr m N L) (hm : c.ob m = .map k nw t es) (hN : es.length = N) (ty : TypeId) :
    ((∀ j, j < N → (j : Nat) ∈ L.map Int.toNat) ∧ (Instr.next v false ty).run P c.w = .ok (.tuple #[.bool false]) c.w) ∨
    ∃ (j : Nat) (c' : Cx) (x y : Value), j < N ∧ (j : Int) ∉ L ∧ (Instr.next v false ty).run P c.w = .ok (.tuple #[.bool true, x, y]) c'.w ∧ c'.ob = up c.ob it (.itr m N (j :: L)) ∧ RelC c' n sl w0 Jo a ∧ c'.A = c.A := by
  have hA : c.A it := by
    cases hv with
    | one h => cases h
    | itGone h _ => exact h
    | it h _ => exact h
  have hvv : v = .pointer (some ⟨(c.β it).blk, 0, none⟩) := by
    cases hv with
    | one h => cases h
    | itGone _ hg => rw [hit] at hg; cases hg
    | it => rfl
  subst hvv
  have hok := h.objs it
  rw [hit] at hok
  obtain ⟨hnil, hAm, h3⟩ := hok
  rcases h3 with h3 | h3
  · rw [hm] at h3; cases h3
  have hokm := h.objs m
  rw [hm] at hokm
  obtain ⟨hnm, arr, hb, hsz, hall⟩ := hokm
  have hborn : ∀ (i : Nat) (e : MapEntry), arr[i]? = some e → e.born = i := fun j e' hj => by
    have hlt : j < es.length := by
      have := (Array.getElem?_eq_some_iff.1 hj).1
      omega
    obtain ⟨e0, _, q1, _, q3, _⟩ := hall j es[j] (List.getElem?_eq_getElem hlt)
    rw [hj] at q1; cases q1; exact q3
  simp only [Int.toNat_natCast] at h3
  rcases run_next_at (P := P) c.w ty (c.β it).blk (c.β m).blk N N (L.map Int.toNat).reverse.toArray arr arr.size h3 hb (fun x hx => by
      obtain ⟨i, hi, rfl⟩ := List.mem_iff_getElem.1 hx
      have hi' : i < arr.size := by simpa using hi
      have := hborn i arr[i] (Array.getElem?_eq_getElem hi')
      simp only [Array.getElem_toList]
      omega) (Nat.le_refl _) with ⟨h0, hrun⟩ | ⟨e, he, w1, hal, hrun⟩
  · refine .inl ⟨fun j hj => ?_, hrun⟩
    have hj' : j < arr.size := by omega
    have hem : leftOf arr (L.map Int.toNat).reverse.toArray = #[] := Array.eq_empty_of_size_eq_zero h0
    unfold leftOf at hem
    rw [Array.filter_eq_empty_iff] at hem
    have := hem arr[j] (Array.getElem_mem hj')
    rw [hborn j arr[j] (Array.getElem?_eq_getElem hj')] at this
    simpa using this
  · right
    unfold leftOf at he
    simp only [Array.toList_filter, List.mem_filter] at he
    obtain ⟨he1, he2⟩ := he
    obtain ⟨j, hj, rfl⟩ := List.mem_iff_getElem.1 he1
    have hj' : j < arr.size := by simpa using hj
    have hbj := hborn j arr[j] (Array.getElem?_eq_getElem hj')
    simp only [Array.getElem_toList] at hrun he2
    rw [hbj] at hrun he2
    have hnot : (j : Int) ∉ L := fun hx => by
      have : j ∈ L.map Int.toNat := List.mem_map.2 ⟨j, hx, by simp⟩
      simp [this] at he2
    have hw1 : RelC { c with w := w1 } n sl w0 Jo a := by
      rcases hal with rfl | rfl
      · exact h
      · exact h.drew
    have hheap : w1.heap = c.w.heap := by rcases hal with rfl | rfl <;> rfl
    have hr1 : w1.heap[(c.β it).blk]? = some (.mapIter (some (c.β m).blk) N (L.map Int.toNat).reverse.toArray N) := by rw [hheap]; exact h3
    let w' : World := Go.ChangeMaps.setBlock w1 (c.β it).blk (.mapIter (some (c.β m).blk) N ((L.map Int.toNat).reverse.toArray.push j) arr.size)
    let c' : Cx := { c with w := w', ob := up c.ob it (.itr m N (j :: L)) }
    have live : Live { c with w := w1 } it := ⟨by show c.ob it ≠ .gone; rw [hit]; simp, hnil⟩
    have hmit : m ≠ it := fun e => by rw [e, hit] at hm; cases hm
    refine ⟨j, c', _, _, by omega, hnot, hrun, rfl, hw1.modify (id := it) hA live w' (.itr m N (j :: L)) (by show sameShape (c.ob it) _; rw [hit]; trivial) (fun hm => by cases hm) (by simp [w', Go.ChangeMaps.setBlock]) (fun b hb2 => (Go.MapKept.heap_set hr1).2 b hb2) rfl rfl rfl c' rfl (fun hext => ?_), rfl⟩
    refine ⟨hnil, hAm, .inr ?_⟩
    refine (Go.MapKept.heap_set hr1).1.trans ?_
    simp only [Int.toNat_natCast, c', List.map_cons, List.reverse_cons]
    rw [show arr.size = N by omega]
    simp
theorem range_ok {Y : Type} (hE : EnvOk P E) (hM : P.follows .mixedOrders = true) {rd ex it m t27 t28 t29 : Nat} {o1 o2 : Oper} {bodyc : Code} {sh : Shape} {ci : sh.D → Y} {ui : Y → sh.D} (hci : ∀ d, ui (ci d) = d)
    {nOf : Y → Int} {seen : Y → List Int} {k : IntKind} {nw : Bool} {t : Ty} {es : Y → List (Int × Val t)}
    (hfix : ∀ i b, Jo.fix i = some b → i ∈ sh.fix) (hmay : sh.may = true → Jo.may)
    (o1op : o1.op = .next (.tmp t27) false) (o1d : o1.dst = some t28) (o1g : o1.guard = none) (o2op : o2.op = .extract (.tmp t28) 0) (o2d : o2.dst = some t29) (o2g : o2.guard = none) (h28 : Nat.blt t28 sh.n = true) (h29 : Nat.blt t29 sh.n = true)
    (hit : ∀ y, (sh.mk' (ui y)).sl t27 = .it it) (hob : ∀ y, (sh.mk' (ui y)).ob it = .itr m (nOf y) (seen y)) (hmp : ∀ y, (sh.mk' (ui y)).ob m = .map k nw t (es y))
    (hLo : LoopsOk P w0 Jo H bodyc) {body : Y → Int → Option Y} (hb : ∀ y i, exec E H bodyc (nextSt (sh.mk' (ui y)) it t28 t29 i) (kontN sh ci) = body y i) :
    SumOk P w0 Jo (rangeSum sh ci ui ex t28 t29 (fun y => (es y).length) nOf seen body) (.loop (.seq (.region rd #[o1, o2] false) (.seq (.cond (.tmp t29) .skip (.exit ex)) bodyc))) := by
  have h28 : t28 < sh.n := by simpa using h28
  have h29 : t29 < sh.n := by simpa using h29
  intro c s a h R r kk hr Q hQ
  unfold rangeSum at hr
  split at hr
  · rename_i d hd
    simp only [DR.run] at hr
    have hall := demO_some hr
    clear hr
    generalize hy0 : ci d = y0 at hall
    simp only [PR.run] at hall
    have hc0 : (decide (nOf y0 = ((es y0).length : Int)) && (seen y0).isEmpty) = true := by
      have := hall _ (List.Perm.refl _)
      revert this
      cases (decide (nOf y0 = ((es y0).length : Int)) && (seen y0).isEmpty) <;> simp
    simp only [hc0, cond_true] at hall
    simp only [Bool.and_eq_true, decide_eq_true_eq, List.isEmpty_iff] at hc0
    obtain ⟨hn0, hs0⟩ := hc0
    generalize hn : (es y0).length = n at hall hn0
    obtain ⟨c0, hw0, h0⟩ := pick_ok h hd hfix hmay
    let J : Nat → Act → World → Prop := fun q a w => ∃ L y c, c.w = w ∧ RelS c (sh.mk' (ui y)) w0 Jo a ∧ nOf y = n ∧ (es y).length = n ∧ seen y = L ∧ L.Nodup ∧ (∀ x ∈ L, x ∈ idx n) ∧ L.length + q = n ∧
      ∀ ρ : List Int, (ρ ++ L).Perm (idx n) → ((rfold (fun y => (es y).length) nOf seen body y ρ).bind fun y' => kk (.exit ex) (overSt (sh.mk' (ui y')) t28 t29)) = some r
    let I : Act → World → Prop := fun a w => ∃ q, J q a w
    classical
    let μ : Act → World → Nat := fun a w => if hh : ∃ q, J q a w then least _ hh else 0
    refine wp_loop I μ ⟨n, [], y0, c0, hw0, by rw [← hy0, hci]; exact h0, hn0, hn, hs0, List.nodup_nil, by simp, by simp, fun ρ hρ => hall ρ (by simpa using hρ)⟩ (fun a w hI => ?_)
    have hI' : ∃ q, J q a w := hI
    have hμ : μ a w = least _ hI' := dif_pos hI'
    obtain ⟨L, y, c, rfl, hrel, hny, hey, hsy, hnd, hin, hlen, hfold⟩ := least_spec hI'
    rw [hμ]
    generalize least _ hI' = q at hlen
    have hob' := hob y
    rw [hny, hsy, ← hrel.ob] at hob'
    have hmp' := hmp y
    rw [← hrel.ob] at hmp'
    have hit' := hrel.rel.slots t27
    rw [hit y] at hit'
    have hnn : (sh.mk' (ui y)).n = sh.n := rfl
    have step := next_ok (P := P) hrel.rel hit' hob' hmp' hey o1.type
    refine wp_seq (wp_region (wpOps_two o1g o2g ?_))
    unfold Oper.wp
    rcases step with ⟨hz, hrun⟩ | ⟨j, c', x1, x2, hj, hjL, hrun, hob2, hrel2, hA2⟩
    · simp only [execOp, o1op, Act.eval, Sem.run_bind, hrun, Result.andThen_ok, Sem.run_pure, Oper.upon_value]
      have hev : (a.put o1.dst (.tuple #[.bool false])).eval (.tmp t28) = .tuple #[.bool false] := by
        rw [o1d]
        simp only [Act.put, Act.eval]
        rw [getD_set _ _ _ _ _ (by rw [hrel.rel.size]; exact h28), if_pos rfl]
      simp only [Act.eval] at hev
      simp only [o2op, hev, Instr.extract, Sem.run_bind, Result.andThen_ok, Sem.run_pure, show (#[Value.bool false] : Array Value)[0]? = some (.bool false) from rfl, Oper.upon_value]
      have r1 := (hrel.rel.put (d := t28) h28 (s := .dead) (v := .tuple #[.bool false]) .vdead).put (d := t29) h29 (s := .dat true .bool false) (v := .bool false) (.one (t := .bool) (cs := [.bool false]) (.dat rfl))
      rw [o1d, o2d]
      have r2 : RelS c (overSt (sh.mk' (ui y)) t28 t29) w0 Jo ((a.put (some t28) (.tuple #[.bool false])).put (some t29) (.bool false)) := ⟨r1, hrel.ob, hrel.fresh⟩
      have hev2 : ((a.put (some t28) (.tuple #[.bool false])).put (some t29) (.bool false)).eval (.tmp t29) = .bool false := by
        have := r2.rel.slots t29
        rw [show (overSt (sh.mk' (ui y)) t28 t29).sl t29 = .dat true .bool false from up_same _ _ _] at this
        exact this.bool
      refine wp_seq (wp_cond_split (t := false) hev2 (fun h => by cases h) (fun _ => wp_exit ?_))
      have hperm : ([] ++ L).Perm (idx n) := by
        refine (List.perm_ext_iff_of_nodup (by simpa using hnd) (nodup_idx n)).2 fun x => ⟨fun hx => hin x (by simpa using hx), fun hx => ?_⟩
        obtain ⟨x0, x1⟩ := mem_idx.1 hx
        obtain ⟨z, hz1, hz2⟩ := List.mem_map.1 (hz x.toNat (by omega))
        have := (mem_idx.1 (hin z hz1)).1
        have : z = x := by omega
        subst this
        simpa using hz1
      have := hfold [] hperm
      simp only [rfold, Option.bind_some] at this
      exact hQ (.exit ex) _ _ c r2 this
    · simp only [execOp, o1op, Act.eval, Sem.run_bind, hrun, Result.andThen_ok, Sem.run_pure, Oper.upon_value]
      have hev : (a.put o1.dst (.tuple #[.bool true, x1, x2])).eval (.tmp t28) = .tuple #[.bool true, x1, x2] := by
        rw [o1d]
        simp only [Act.put, Act.eval]
        rw [getD_set _ _ _ _ _ (by rw [hrel.rel.size]; exact h28), if_pos rfl]
      simp only [Act.eval] at hev
      simp only [o2op, hev, Instr.extract, Sem.run_bind, Result.andThen_ok, Sem.run_pure, show (#[Value.bool true, x1, x2] : Array Value)[0]? = some (.bool true) from rfl, Oper.upon_value]
      have r1 := (hrel2.put (d := t28) h28 (s := .dead) (v := .tuple #[.bool true, x1, x2]) .vdead).put (d := t29) h29 (s := .dat true .bool true) (v := .bool true) (.one (t := .bool) (cs := [.bool true]) (.dat rfl))
      rw [o1d, o2d]
      have hnx : (nextSt (sh.mk' (ui y)) it t28 t29 j).ob = up c.ob it (.itr m n (j :: L)) := by
        simp only [nextSt, hob y, hny, hsy, hrel.ob]
      have r2 : RelS c' (nextSt (sh.mk' (ui y)) it t28 t29 j) w0 Jo ((a.put (some t28) (.tuple #[.bool true, x1, x2])).put (some t29) (.bool true)) :=
        ⟨r1, by rw [hnx, hob2], fun i hi => by rw [hA2]; exact hrel.fresh i hi⟩
      have hev2 : ((a.put (some t28) (.tuple #[.bool true, x1, x2])).put (some t29) (.bool true)).eval (.tmp t29) = .bool true := by
        have := r2.rel.slots t29
        rw [show (nextSt (sh.mk' (ui y)) it t28 t29 j).sl t29 = .dat true .bool true from up_same _ _ _] at this
        exact this.bool
      refine wp_seq (wp_cond_split (t := true) hev2 (fun _ => wp_skip ?_) (fun h => by cases h))
      have hjin : (j : Int) ∈ idx n := mem_idx.2 ⟨by omega, by omega⟩
      have hnd' : ((j : Int) :: L).Nodup := List.nodup_cons.2 ⟨hjL, hnd⟩
      have hin' : ∀ x ∈ (j : Int) :: L, x ∈ idx n := fun x hx => by
        rcases List.mem_cons.1 hx with rfl | hx
        · exact hjin
        · exact hin x hx
      have hrest := rest_perm hnd' hin'
      generalize ((idx n).filter fun x => !((j : Int) :: L).contains x) = ρ0 at hrest
      have hmid : ∀ ρ : List Int, (ρ ++ ((j : Int) :: L)).Perm (idx n) → (((j : Int) :: ρ) ++ L).Perm (idx n) := fun ρ hp => (List.perm_middle (a := (j : Int)) (l₁ := ρ) (l₂ := L)).symm.trans hp
      have h1 := hfold _ (hmid ρ0 hrest)
      have hlen' := hrest.length_eq
      rw [len_idx] at hlen'
      simp only [List.length_append, List.length_cons] at hlen'
      simp only [rfold] at h1
      cases hby : body y j with
      | none => rw [hby] at h1; simp at h1
      | some y' =>
        have hkeep : (decide (nOf y' = nOf y) && decide (seen y' = (j : Int) :: seen y) && decide ((es y').length = (es y).length)) = true := by
          rw [hby] at h1
          simp only [Option.bind_some] at h1
          revert h1
          cases (decide (nOf y' = nOf y) && decide (seen y' = (j : Int) :: seen y) && decide ((es y').length = (es y).length)) <;> simp
        have hfold' : ∀ ρ : List Int, (ρ ++ ((j : Int) :: L)).Perm (idx n) → ((rfold (fun y => (es y).length) nOf seen body y' ρ).bind fun y' => kk (.exit ex) (overSt (sh.mk' (ui y')) t28 t29)) = some r := fun ρ hp => by
          have h2 := hfold _ (hmid ρ hp)
          simp only [rfold, hby, Option.bind_some, hkeep, cond_true] at h2
          exact h2
        simp only [Bool.and_eq_true, decide_eq_true_eq] at hkeep
        obtain ⟨⟨q1, q2⟩, q3⟩ := hkeep
        have hx := hb y j
        rw [hby] at hx
        refine exec_ok hE hM bodyc c' _ _ _ _ hLo r2 hx (fun e s' a' c'' hr' hk => ?_)
        cases e with
        | normal =>
          simp only [kontN] at hk
          split at hk
          · rename_i d' hd'
            cases hk
            obtain ⟨c3, hw3, hr3⟩ := pick_ok hr' hd' hfix hmay
            have hJ : J (q - 1) a' c''.w := ⟨(j : Int) :: L, ci d', c3, hw3, by rw [hci]; exact hr3, by rw [q1, hny], by rw [q3, hey], by rw [q2, hsy], hnd', hin', by simp only [List.length_cons]; omega, hfold'⟩
            have hI2 : ∃ q, J q a' c''.w := ⟨_, hJ⟩
            refine ⟨hI2, ?_⟩
            have : μ a' c''.w = least _ hI2 := dif_pos hI2
            rw [this]
            have := least_le hI2 hJ
            omega
          · cases hk
        | exit i => cases hk
        | ret => cases hk
  · simp [DR.run, PR.run] at hr
def rBody : Code → Code
  | .seq _ (.seq _ b) => b
  | _ => .skip
def rOp (i : Nat) : Code → Oper
  | .seq (.region _ ops _) _ => ops.getD i default
  | _ => default
end
end Go.Sx
