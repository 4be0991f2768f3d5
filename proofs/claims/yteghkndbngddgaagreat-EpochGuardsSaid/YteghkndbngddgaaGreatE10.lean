/- E10: printed by a program of this session: the functions of the seat as plain functions, and that the code comes to them. -/
import Derived.Test.YteghkndbngddgaaGreatE6
/- Worlds: what a move does: a collection, to its end. -/
set_option linter.unusedVariables false
set_option linter.unusedSimpArgs false
namespace Go.Sx
open Go.RowKit
def setF (fr : List Bool) (kk : List Nat) : List Bool := kk.foldl (fun f k => f.set k true) fr
theorem setF_len : ∀ (kk : List Nat) (fr : List Bool), (setF fr kk).length = fr.length
  | [], fr => rfl
  | k :: kk, fr => by
    show (setF (fr.set k true) kk).length = _
    rw [setF_len kk]; simp
theorem setF_get : ∀ (kk : List Nat) (fr : List Bool) (k : Nat), k < fr.length → (setF fr kk).getD k false = (fr.getD k false || decide (k ∈ kk))
  | [], fr, k, _ => by simp [setF]
  | a :: kk, fr, k, h => by
    have e : setF fr (a :: kk) = setF (fr.set a true) kk := rfl
    rw [e, setF_get kk (fr.set a true) k (by simp; exact h)]
    by_cases hk : k = a
    · subst hk
      rw [getD_set_self _ _ _ _ h]; simp
    · rw [getD_set_ne _ _ _ _ _ (fun e => hk e.symm)]; simp [hk]
theorem setF_take {kk : List Nat} {fr : List Bool} {i : Nat} (hi : i < kk.length) : setF fr (kk.take (i + 1)) = (setF fr (kk.take i)).set kk[i] true := by
  rw [List.take_add_one, List.getElem?_eq_getElem hi]
  unfold setF
  rw [List.foldl_append]; rfl
theorem eqV_toP (k k0 : Nat) : eqV TPtr (toP k) (toP k0) = decide (k = k0) := by
  by_cases h : k = k0
  · subst h; rw [eqV_self (t := TPtr) rfl]; simp
  · have : eqV TPtr (toP k) (toP k0) = false := by
      cases hv : eqV TPtr (toP k) (toP k0) with
      | false => rfl
      | true => exact absurd (toP_inj ((eqV_iff (t := TPtr) rfl).1 hv)) h
    rw [this]; simp [h]
section
variable {n : Nat} {P : List Page} {pins : List Int} {g : Int} {ret : List Int} {fr : List Bool} {rs : Nat → List Ret4} {inc : Nat → Int} {u : Nat}
theorem doL2_eq (i : Nat) (k0 : Nat) (hk0 : k0 < 12) (out : Val TOut) (hi : i < out.2.2.2.1.length) (hout : out.2.2.2.1.getD i ((0 : Int), ((0 : Int), ())) = toP k0) (hr : ret.length = 12) (hrb : ∀ k : Nat, k < 12 → ret.getD k 0 ≤ 2000000) (hf : fr.length = 12) (hfr : fr.getD k0 false = false) (h0 : 0 ≤ ret.getD k0 0) (h2 : ret.getD k0 0 + 2 ≤ g)
    (lines seq : Int) (cur : Cu) (P' : List Page) : qf91L2 (i : Int) false (0 : Int) pins g lines seq cur P' ret toL fr out = some ((i : Int), true, pins, g, lines, seq, cur, P', ret, toL, fr.set k0 true, out) := by
  have := iter_for (body := qf91L2B) (fun k => ((i : Int), decide (k0 < k), (k : Int), pins, g, lines, seq, cur, P', ret, toL, (if k0 < k then fr.set k0 true else fr), out)) 12 ((i : Int), true, pins, g, lines, seq, cur, P', ret, toL, fr.set k0 true, out) (fun k hk => ?_) ?_ 0 (Nat.zero_le _)
  · rw [if_neg (Nat.not_lt_zero _)] at this
    have e : decide (k0 < 0) = false := by simp
    rw [e] at this
    exact this
  · show qf91L2b _ _ _ _ _ _ _ _ _ _ _ _ _ = _
    have e1 : decide ((k : Int) < ((toL.length : Nat) : Int)) = true := by rw [toL_len]; simp; omega
    have e2 : inR (k : Int) toL.length = true := inR_nat (by rw [toL_len]; exact hk)
    have e3 : inR (i : Int) out.2.2.2.1.length = true := inR_nat hi
    have e4 : IntKind.wrap .i64 ((k : Int) + 1) = ((k + 1 : Nat) : Int) := by rw [i64w (by omega) (by omega)]; simp
    have e5 : inR (k : Int) ret.length = true := inR_nat (by rw [hr]; exact hk)
    have hlen : ∀ b : Prop, ∀ inst : Decidable b, (@ite _ b inst (fr.set k0 true) fr).length = 12 := fun b inst => by split <;> simp [hf]
    have e6 : inR (k : Int) (if k0 < k then fr.set k0 true else fr).length = true := inR_nat (by rw [hlen]; exact hk)
    unfold qf91L2b
    simp only [e1, e2, e3, cond_true, Int.toNat_natCast, toL_get k hk, hout, eqV_toP]
    by_cases h : k = k0
    · subst h
      have n1 : ¬ k < k := Nat.lt_irrefl k
      have n2 : k < k + 1 := Nat.lt_succ_self k
      have d0 : decide ((0 : Int) ≤ ret.getD k 0) = true := decide_eq_true h0
      have hb := hrb k hk
      have w2 : IntKind.wrap .i64 (ret.getD k 0 + 2) = ret.getD k 0 + 2 := i64w (by omega) (by omega)
      have d2 : decide (ret.getD k 0 + 2 ≤ g) = true := decide_eq_true h2
      have e7 : inR (k : Int) fr.length = true := inR_nat (by rw [hf]; exact hk)
      simp only [decide_true, cond_true, if_neg n1, if_pos n2, e7, hfr, Bool.not_false, e5, d0, w2, d2, e4, decide_eq_true n2]
    · have hiff : (k0 < k + 1) ↔ (k0 < k) := by omega
      have hd : decide (k0 < k + 1) = decide (k0 < k) := decide_eq_decide.2 hiff
      simp only [decide_eq_false h, cond_false, e4, hd]
      by_cases hlt : k0 < k
      · rw [if_pos hlt, if_pos (by omega)]
      · rw [if_neg hlt, if_neg (by omega)]
  · show qf91L2b _ _ _ _ _ _ _ _ _ _ _ _ _ = _
    have e1 : decide (((12 : Nat) : Int) < ((toL.length : Nat) : Int)) = false := by rw [toL_len]; simp
    unfold qf91L2b
    simp only [e1, cond_false, if_pos hk0, decide_eq_true hk0]
theorem doL3_eq (kk : List Nat) (hnd : kk.Nodup) (out : Val TOut) (hout : out.2.2.2.1 = kk.map toP) (hr : ret.length = 12) (hrb : ∀ k : Nat, k < 12 → ret.getD k 0 ≤ 2000000) (hf : fr.length = 12) (hk : ∀ k ∈ kk, k < 12 ∧ fr.getD k false = false ∧ 0 ≤ ret.getD k 0 ∧ ret.getD k 0 + 2 ≤ g) (hkl : kk.length ≤ 100)
    (lines seq : Int) (cur : Cu) (P' : List Page) : qf91L3 (0 : Int) pins g lines seq cur P' ret toL fr out = some (.inl (pins, g, lines, seq, cur, P', ret, toL, setF fr kk)) := by
  have hol : out.2.2.2.1.length = kk.length := by rw [hout]; simp
  refine iter_for (body := qf91L3B) (fun i => ((i : Int), pins, g, lines, seq, cur, P', ret, toL, setF fr (kk.take i), out)) kk.length _ (fun i hi => ?_) ?_ 0 (Nat.zero_le _)
  · show qf91L3b _ _ _ _ _ _ _ _ _ _ _ = _
    have e1 : decide ((i : Int) < ((out.2.2.2.1.length : Nat) : Int)) = true := by rw [hol]; simp; omega
    have e4 : IntKind.wrap .i64 ((i : Int) + 1) = ((i + 1 : Nat) : Int) := by rw [i64w (by omega) (by omega)]; simp
    obtain ⟨h1, h2, h3, h4⟩ := hk _ (List.getElem_mem hi)
    have hL2 := doL2_eq (pins := pins) (fr := setF fr (kk.take i)) (g := g) (ret := ret) i kk[i] h1 out (by rw [hol]; exact hi) (by rw [hout]; simp [List.getD, hi]) hr hrb (by rw [setF_len]; exact hf) (by
      rw [setF_get _ _ _ (by rw [hf]; exact h1), h2, Bool.false_or]
      refine decide_eq_false fun hm => ?_
      obtain ⟨a, ha, he⟩ := List.mem_take_iff_getElem.1 hm
      exact List.pairwise_iff_getElem.1 hnd a i (by omega) hi (by omega) he) h3 h4 lines seq cur P'
    unfold qf91L3b
    simp only [e1, cond_true, hL2, Option.bind_some, Bool.not_true, cond_false, e4]
    rw [setF_take hi]
  · show qf91L3b _ _ _ _ _ _ _ _ _ _ _ = _
    unfold qf91L3b
    have : kk.take kk.length = kk := List.take_length
    simp [hol, this]
theorem do_col (W : WI n P pins g ret fr rs inc u) (m : MvE) (hk : m.1 % 8 = 6) (c d : Nat) (hc : m.2.1 % 6 = c) (hd : m.2.2.1 % 6 = d) (at_ seq : Int) (cur : Cu) :
    ∃ P' fr' u' kk, qf91 m at_ pins g (104 + 16 * (n : Int)) seq cur P ret toL fr = some (true, pins, g, 104 + 16 * (n : Int), seq, cur, P', ret, toL, fr') ∧ WI n P' pins g ret fr' (fun x => if x = d then (colS g (rs d) 4).1 else rs x) inc u' ∧ fr' = setF fr kk ∧ ∀ k ∈ kk, k < 12 ∧ fr.getD k false = false ∧ ret.getD k 0 + 2 ≤ g := by
  have hc6 : c < 6 := by omega
  have hd6 : d < 6 := by omega
  have hg0 := W.E.g0; have hg1 := W.E.g1; have hPl := W.E.hp.len; have hn0 := W.E.n0; have hn1 := W.E.n1
  have e1 := pick6 _ _ hc
  have e2 := pick6 _ _ hd
  have e3 : qf2 m.1 8 = some 6 := by rw [qf2_eq _ 8 (by omega) (by omega), hk]
  have k0 : decide ((6 : Int) = 0) = false := by decide
  have k1 : decide ((6 : Int) = 1) = false := by decide
  have k2 : decide ((6 : Int) = 2) = false := by decide
  have k3 : decide ((6 : Int) = 3) = false := by decide
  have k4 : decide ((6 : Int) = 4) = false := by decide
  have k5 : decide ((6 : Int) = 5) = false := by decide
  have k7 : decide ((6 : Int) = 7) = false := by decide
  obtain ⟨kk, h1, h2, h3, h4⟩ := colS_spec W hd6 4 (Nat.le_refl _)
  have hgood := W.good hd6
  have hkl : kk.length ≤ 2 := by have := (colS_len g (rs d) 4).1; rw [h1] at this; simpa using this
  have hmem0 : ∀ k ∈ kk, k < 12 ∧ fr.getD k false = false ∧ 0 ≤ ret.getD k 0 ∧ ret.getD k 0 + 2 ≤ g := fun k hkm => by
    obtain ⟨a1, a2, a3, a4, _⟩ := h3 k hkm
    exact ⟨a1, a4, a2, a3⟩
  have hgc : goodR (colS g (rs d) 4).1 := by
    refine ⟨by rw [(colS_len g (rs d) 4).2]; exact hgood.1, fun r hr => ?_⟩
    obtain ⟨j, hj, rfl⟩ := List.mem_iff_getElem.1 hr
    have hj4 : j < 4 := by rw [(colS_len g (rs d) 4).2, hgood.1] at hj; exact hj
    have e : (colS g (rs d) 4).1.getD j noRet = (colS g (rs d) 4).1[j] := by simp [List.getD, hj]
    rw [← e]
    rcases h4 j hj4 with h5 | ⟨h5, _, _⟩
    · rw [h5]
      have hjr : j < (rs d).length := by rw [hgood.1]; exact hj4
      have e2 : (rs d).getD j noRet = (rs d)[j] := by simp [List.getD, hjr]
      rw [e2]; exact hgood.2 _ (List.getElem_mem _)
    · rw [h5]
      exact ⟨⟨⟨wf_i64_mk (n := 0) (by omega) (by omega), wf_i64_mk (n := 0) (by omega) (by omega), trivial⟩, wf_u32_mk (n := 0) (by omega) (by omega), trivial⟩, by decide⟩
  have hic := W.ic d hd6
  have hnb : (if 0 < pins.getD d 0 then pins.getD d 0 - 1 else 0) ≤ 4294967295 ∧ 0 ≤ (if 0 < pins.getD d 0 then pins.getD d 0 - 1 else 0) := by
    rcases W.pb d hd6 with h | h <;> split <;> omega
  obtain ⟨a1, a2, a3, a4⟩ := wn_ok W.E (c := d) (by omega) (decide (0 < pins.getD d 0)) (if 0 < pins.getD d 0 then pins.getD d 0 - 1 else 0) (if d = 0 then 1 else 0) (inc d) (colS g (rs d) 4).1 (fun h => if_neg (of_decide_eq_false h)) hnb.2 hnb.1 (by split <;> omega) (by split <;> omega) hic.1 (by omega) hgc
  have hptr : ∀ k : Nat, k < 12 → ptrOf P 0 (k + 1) = toP k := fun k hk => by
    have := W.pg k hk
    unfold ptrOf toP
    rw [show 8 + 16 * 0 + (k + 1) = 9 + k by omega, this]
    show ((104 + 16 * ((0 : Nat) : Int) + ((k + 1 : Nat) : Int), (1 : Int), ()) : Ptr) = _
    congr 1
    omega
  have hks : (colS g (rs d) 4).2 = (kk.map (· + 1)).map (ptrOf P 0) := by
    rw [h1, List.map_map]
    exact List.map_congr_left fun k hkm => (hptr k (hmem0 k hkm).1).symm
  have hkmap : (kk.map (· + 1)).map (ptrOf P 0) = kk.map toP := by rw [← hks, h1]
  have F : kk.map (· + 1) ≠ [] → FreeOk n P 0 0 u (kk.map (· + 1)) := fun hne => ⟨W.E.hp, hn0, hn1, by omega, by omega, by omega, W.hu, W.u0, W.hd, by
    rw [List.length_map]
    exact Nat.pos_of_ne_zero fun h => hne (by rw [List.eq_nil_of_length_eq_zero h]; rfl), by rw [List.length_map]; omega, by
    exact List.pairwise_map.2 (h2.imp fun {a b} h e => h (by omega)), fun j hj => by
    obtain ⟨k, hkm, rfl⟩ := List.mem_map.1 hj
    obtain ⟨b1, b2, b3, b4⟩ := hmem0 k hkm
    have hp := W.pg k b1
    rw [show 8 + 16 * 0 + (k + 1) = 9 + k by omega, hp, b2]
    refine ⟨by omega, by omega, ?_, by simp, by simp⟩
    rw [W.ub k b1, b2]; rfl⟩
  have hep : ∀ r ∈ rs d, 0 ≤ r.2.1 ∧ r.2.1 ≤ 4294967295 := fun r hr => wf_u32 (hgood.2 r hr).1.2.1
  have hnx := next_col W.E (c := c) (d := d) (by omega) (by omega) (rs d) rfl hgood.1 hep (u := u) (kk.map (· + 1)) hks F a1 a3
  rcases hnx with ⟨hkn, hnx⟩ | ⟨hkn, ws, hnx, w1, w2, w3⟩
  · have hkk : kk = [] := by
      cases kk with
      | nil => rfl
      | cons a l => simp at hkn
    subst hkk
    have hsame : (colS g (rs d) 4).1 = rs d := by
      refine List.ext_getElem (by rw [(colS_len g (rs d) 4).2]) fun j hj1 hj2 => ?_
      have hj4 : j < 4 := by rw [hgood.1] at hj2; exact hj2
      have e1 : (colS g (rs d) 4).1.getD j noRet = (colS g (rs d) 4).1[j] := by simp [List.getD, hj1]
      have e2 : (rs d).getD j noRet = (rs d)[j] := by simp [List.getD, hj2]
      rw [← e1, ← e2]
      rcases h4 j hj4 with h | ⟨_, _, k, hkm, _⟩
      · exact h
      · cases hkm
    have hfun : (fun x => if x = d then (colS g (rs d) 4).1 else rs x) = rs := by
      funext x
      by_cases h : x = d
      · subst h; rw [if_pos rfl, hsame]
      · rw [if_neg h]
    have hrun : qf90 (5, (c : Int), 0, 104 + 16 * (n : Int), (d : Int), [], ()) pins g (104 + 16 * (n : Int)) seq cur P ret toL fr = _ := run_eq W (opCol c d (104 + 16 * (n : Int))) _ _ seq cur toL hnx (fun _ => rfl) (by simp) (fun w hw => by cases hw)
    have hz : commitAll P [] = P := rfl
    refine ⟨P, fr, u, [], ?_, by rw [hfun]; exact W, rfl, fun k hk => by cases hk⟩
    have d16 : decide ((16 : Int) = 0) = false := by decide
    have l0 : decide (((([] : List Ptr).length : Nat) : Int) = 0) = true := rfl
    unfold qf91
    simp only [e1, e2, e3, Option.bind_some, k0, k1, k2, k3, k4, k5, k7, cond_false, cond_true, hrun, Bool.not_true, d16, Bool.not_false, decide_true, l0, hz]
  · have hklen : 1 ≤ kk.length := Nat.pos_of_ne_zero fun h => hkn (by rw [List.eq_nil_of_length_eq_zero h]; rfl)
    have Fk := F hkn
    have hw8 : Wf TPage (pAt P 8) := by rw [pAt_get (by omega)]; exact W.E.hp.wf _ (List.getElem_mem _)
    have hl8 : (pAt P 8).1 = 104 := by rw [pAt_get (by omega), W.E.hp.line _ _]; rfl
    have hcl := clrS_lt (kk.map (· + 1)) u W.hu
    have hb0 : (clrS u (kk.map (· + 1))).testBit 0 = false := by rw [testBit_clrS _ u 0 W.hu (fun k hk => (Fk.hk k hk).2.1), W.u0]; rfl
    have hwh := wf_headv (c := (0 : Int)) (u := clrS u (kk.map (· + 1))) (by omega) (by omega) hcl
    obtain ⟨q1, q2, q3⟩ := head_again (pAt P 8) ((0 : Int), (clrS u (kk.map (· + 1)) : Int), ()) hwh (head_code (by unfold isHdr; rw [hl8]; rfl) (by omega) (by omega) hcl hb0)
    have hwhd : Wf TPage (hdrOf P 0 0 (clrS u (kk.map (· + 1)))) := wf_head_written _ _ hw8 hwh
    have hlhd : (hdrOf P 0 0 (clrS u (kk.map (· + 1)))).1 = 96 + ((8 : Nat) : Int) := by
      show (writeHead (pAt P 8) _).1.1 = _
      rw [q2, hl8]; rfl
    have hrel : ∀ k : Nat, k < 12 → (relOf P 0 (k + 1)).1 = 96 + ((9 + k : Nat) : Int) ∧ Wf TPage (relOf P 0 (k + 1)) ∧ ptag (relOf P 0 (k + 1)) = (0, 1, 0, ()) := fun k hk => by
      have hp := W.pg k hk
      have hwk : Wf TPage (pAt P (9 + k)) := by rw [pAt_get (by omega)]; exact W.E.hp.wf _ (List.getElem_mem _)
      have hlk : (pAt P (9 + k)).1 = 96 + ((9 + k : Nat) : Int) := by rw [pAt_get (by omega)]; exact W.E.hp.line _ _
      have e : relOf P 0 (k + 1) = withTag (pAt P (9 + k)) 0 1 0 := by
        unfold relOf
        rw [show 8 + 16 * 0 + (k + 1) = 9 + k by omega, hp]
      rw [e]
      exact ⟨hlk, wf_withTag hwk (by omega) (by omega) (by omega) (by omega) (by omega) (by omega), tag_again _ 0 1 0 (by omega) (by omega) (by omega) (by omega) (by omega) (by omega)⟩
    have hwn : ∀ w ∈ ws, (∃ k ∈ kk, w = relOf P 0 (k + 1)) ∨ w = hdrOf P 0 0 (clrS u (kk.map (· + 1))) ∨ w.1 = 98 + (d : Int) ∧ w = wn P d (decide (0 < pins.getD d 0), (if 0 < pins.getD d 0 then pins.getD d 0 - 1 else 0), (if d = 0 then 1 else 0), inc d, (colS g (rs d) 4).1, ()) := fun w hw => by
      rcases List.mem_append.1 ((w3 w).1 hw) with h | h
      · obtain ⟨j, hj, rfl⟩ := List.mem_map.1 h
        obtain ⟨k, hkm, rfl⟩ := List.mem_map.1 hj
        exact .inl ⟨k, hkm, rfl⟩
      · simp only [List.mem_cons, List.not_mem_nil, or_false] at h
        rcases h with rfl | rfl
        · exact .inr (.inl rfl)
        · exact .inr (.inr ⟨a3, rfl⟩)
    have hin : ∀ w ∈ ws, ∃ j : Nat, j < P.length ∧ w.1 = 96 + (j : Int) ∧ Wf TPage w := fun w hw => by
      rcases hwn w hw with ⟨k, hkm, rfl⟩ | rfl | ⟨hl, he⟩
      · obtain ⟨f1, f2, _⟩ := hrel k (hmem0 k hkm).1
        exact ⟨9 + k, by have := (hmem0 k hkm).1; omega, f1, f2⟩
      · exact ⟨8, by omega, hlhd, hwhd⟩
      · exact ⟨2 + d, by omega, by rw [hl]; omega, by rw [he]; exact a4⟩
    have h96 : ∀ w ∈ ws, 96 ≤ w.1 := fun w hw => by obtain ⟨j, _, hj, _⟩ := hin w hw; rw [hj]; omega
    have hdist : ws.Pairwise fun a b => a.1 ≠ b.1 := w1.imp fun {a b} h => by omega
    have hrun : qf90 (5, (c : Int), 0, 104 + 16 * (n : Int), (d : Int), [], ()) pins g (104 + 16 * (n : Int)) seq cur P ret toL fr = _ := run_eq W (opCol c d (104 + 16 * (n : Int))) _ _ seq cur toL hnx (fun hh => absurd rfl hh) (by omega) (fun w hw => by
      obtain ⟨j, hj, he, _⟩ := hin w hw
      rw [he]; omega)
    have hat : ∀ w ∈ ws, ∀ j : Nat, j < P.length → w.1 = 96 + (j : Int) → ∃ b, pAt (commitAll P ws) j = reHead w b := fun w hw j hj hl => commitAll_at ws P hdist h96 w hw j hj hl
    have hne : ∀ j : Nat, j < P.length → (∀ w ∈ ws, w.1 ≠ 96 + (j : Int)) → pAt (commitAll P ws) j = pAt P j := fun j hj h => pAt_commitAll_ne ws P hj fun w hw => ⟨h96 w hw, h w hw⟩
    have hlo : ∀ w ∈ ws, ∀ j : Nat, j < 8 → j ≠ 2 + d → w.1 ≠ 96 + (j : Int) := fun w hw j hj hjd => by
      rcases hwn w hw with ⟨k, hkm, rfl⟩ | rfl | ⟨hl, he⟩
      · rw [(hrel k (hmem0 k hkm).1).1]; omega
      · rw [hlhd]; omega
      · rw [hl]; omega
    have hrbb : ∀ k : Nat, k < 12 → ret.getD k 0 ≤ 2000000 := fun k hk => by have := (W.rb k hk).2; omega
    have hfget : ∀ k : Nat, k < 12 → (setF fr kk).getD k false = (fr.getD k false || decide (k ∈ kk)) := fun k hk => setF_get kk fr k (by rw [W.fl]; exact hk)
    have hrs' : ∀ x j : Nat, x < 6 → j < 4 → (if x = d then (colS g (rs d) 4).1 else rs x).getD j noRet = (rs x).getD j noRet ∨ ((if x = d then (colS g (rs d) 4).1 else rs x).getD j noRet = noRet ∧ x = d ∧ ∃ k ∈ kk, (rs d).getD j noRet = (toP k, ret.getD k 0, ())) := fun x j hx hj => by
      by_cases h : x = d
      · subst h
        rw [if_pos rfl]
        rcases h4 j hj with h5 | ⟨h5, _, h6⟩
        · exact .inl h5
        · exact .inr ⟨h5, rfl, h6⟩
      · rw [if_neg h]; exact .inl rfl
    have hstay : ∀ x j k : Nat, x < 6 → j < 4 → (if x = d then (colS g (rs d) 4).1 else rs x).getD j noRet = (toP k, ret.getD k 0, ()) → (rs x).getD j noRet = (toP k, ret.getD k 0, ()) → k ∉ kk := fun x j k hx hj he he2 hkm => by
      obtain ⟨_, _, _, _, j', hj', hje, hjn⟩ := h3 k hkm
      obtain ⟨rfl, rfl⟩ := W.r2 x j d j' hx hj hd6 (by omega) (by rw [he2]; exact fun e => toP_no k (congrArg (fun r : Ret4 => r.1) e)) (by rw [he2, hje])
      rw [if_pos rfl, hjn] at he
      exact toP_no k (congrArg (fun r : Ret4 => r.1) he).symm
    have hmw : ∀ k ∈ kk, relOf P 0 (k + 1) ∈ ws := fun k hkm => (w3 _).2 (List.mem_append_left _ (List.mem_map.2 ⟨k + 1, List.mem_map.2 ⟨k, hkm, rfl⟩, rfl⟩))
    have hmh : hdrOf P 0 0 (clrS u (kk.map (· + 1))) ∈ ws := (w3 _).2 (List.mem_append_right _ (by simp))
    have hmn : wn P d (decide (0 < pins.getD d 0), (if 0 < pins.getD d 0 then pins.getD d 0 - 1 else 0), (if d = 0 then 1 else 0), inc d, (colS g (rs d) 4).1, ()) ∈ ws := (w3 _).2 (List.mem_append_right _ (List.mem_cons_of_mem _ List.mem_cons_self))
    refine ⟨commitAll P ws, setF fr kk, clrS u (kk.map (· + 1)), kk, ?_, ⟨⟨commitAll_heap ws P W.E.hp hin, hn0, hn1, ?_, hg0, hg1, fun x hx => ?_⟩, W.pl, W.pb, W.ic, W.rl, by rw [setF_len]; exact W.fl, W.rb, fun k hk h => ?_, fun x hx => ?_, fun x j hx hj => ?_, fun x j x' j' hx hj hx' hj' hn he => ?_, fun k hk h0 hf => ?_, hcl, hb0, ?_, fun k hk => ?_, fun k hk => ?_⟩, rfl, fun k hkm => ⟨(hmem0 k hkm).1, (hmem0 k hkm).2.1, (hmem0 k hkm).2.2.2⟩⟩
    · have hL3 := doL3_eq (pins := pins) (g := g) (ret := ret) (fr := fr) kk h2 (0, g, -1, (kk.map (· + 1)).map (ptrOf P 0), [97], ()) hkmap W.rl hrbb W.fl hmem0 (by omega) (104 + 16 * (n : Int)) seq cur (commitAll P ws)
      have hfl : (((kk.map (· + 1)).map (ptrOf P 0)).length : Int) = (kk.length : Int) := by simp
      have l0 : decide (((((kk.map (· + 1)).map (ptrOf P 0)).length : Nat) : Int) = 0) = false := decide_eq_false (by omega)
      have l2 : decide ((2 : Int) < ((((kk.map (· + 1)).map (ptrOf P 0)).length : Nat) : Int)) = false := decide_eq_false (by omega)
      unfold qf91
      simp only [e1, e2, e3, Option.bind_some, k0, k1, k2, k3, k4, k5, k7, cond_false, cond_true, hrun, Bool.not_true, decide_true, l0, l2, hL3]
    · rw [hne 1 (by omega) fun w hw => hlo w hw 1 (by omega) (by omega)]; exact W.E.ep
    · by_cases h : x = d
      · subst h
        obtain ⟨b, hb⟩ := hat _ hmn (2 + x) (by omega) (by rw [a3]; omega)
        rw [hb, readNode_re, a2]
        unfold nodeW
        simp
      · rw [hne (2 + x) (by omega) fun w hw => hlo w hw (2 + x) (by omega) (by omega), W.E.nd x hx]
        unfold nodeW
        simp [h]
    · rw [hfget k hk, Bool.or_eq_true] at h
      rcases h with h | h
      · exact W.ff k hk h
      · obtain ⟨_, _, b3, b4⟩ := hmem0 k (of_decide_eq_true h)
        exact ⟨b3, b4⟩
    · by_cases h : x = d
      · simp only [h, if_true]; exact hgc.1
      · simp only [h, if_false]; exact W.rsl x hx
    · rcases hrs' x j hx hj with h | ⟨h, _, _⟩
      · rcases W.r1 x j hx hj with h5 | ⟨k, hk, h5, h0, hf⟩
        · exact .inl (h.trans h5)
        · refine .inr ⟨k, hk, h.trans h5, h0, ?_⟩
          have := hstay x j k hx hj (h.trans h5) h5
          rw [hfget k hk, hf]; simpa using this
      · exact .inl h
    · rcases hrs' x j hx hj with h | ⟨h, _, _⟩
      · rw [h] at hn he
        rcases hrs' x' j' hx' hj' with h' | ⟨h', _, _⟩
        · rw [h'] at he
          exact W.r2 x j x' j' hx hj hx' hj' hn he
        · rw [h'] at he
          rcases W.r1 x j hx hj with h5 | ⟨k, hk, h5, _, _⟩
          · exact absurd h5 hn
          · rw [h5] at he; exact absurd he (toP_no k)
      · exact absurd h hn
    · rw [hfget k hk, Bool.or_eq_false_iff] at hf
      obtain ⟨x, j, hx, hj, he⟩ := W.r3 k hk h0 hf.1
      refine ⟨x, j, hx, hj, ?_⟩
      rcases hrs' x j hx hj with h | ⟨h, rfl, k', hk', he'⟩
      · rw [h]; exact he
      · rw [he] at he'
        have := toP_inj (congrArg (fun r : Ret4 => r.1) he')
        subst this
        exact absurd hk' (of_decide_eq_false hf.2)
    · obtain ⟨b, hb⟩ := hat _ hmh 8 (by omega) hlhd
      rw [hb, readHead_re]; exact q1
    · rw [testBit_clrS _ u (k + 1) W.hu (fun j hj => (Fk.hk j hj).2.1), W.ub k hk, hfget k hk]
      have : decide (k + 1 ∈ kk.map (· + 1)) = decide (k ∈ kk) := by
        refine decide_eq_decide.2 ⟨fun h => ?_, fun h => List.mem_map.2 ⟨k, h, rfl⟩⟩
        obtain ⟨a, ha, he⟩ := List.mem_map.1 h
        have : a = k := by omega
        subst this; exact ha
      rw [this, Bool.not_or]
    · by_cases h : k ∈ kk
      · obtain ⟨f1, f2, f3⟩ := hrel k hk
        obtain ⟨b, hb⟩ := hat _ (hmw k h) (9 + k) (by omega) f1
        rw [hb, ptag_re, f3, hfget k hk, decide_eq_true h, Bool.or_true]
        rfl
      · rw [hne (9 + k) (by omega) fun w hw => by
          rcases hwn w hw with ⟨k', hkm, rfl⟩ | rfl | ⟨hl, he⟩
          · rw [(hrel k' (hmem0 k' hkm).1).1]
            intro e
            have : k' = k := by omega
            subst this; exact h hkm
          · rw [hlhd]; omega
          · rw [hl]; omega, W.pg k hk, hfget k hk, decide_eq_false h, Bool.or_false]
end
end Go.Sx

/- Worlds: any move; the first world. -/
set_option linter.unusedVariables false
set_option linter.unusedSimpArgs false
namespace Go.Sx
open Go.RowKit
section
variable {n : Nat} {P : List Page} {pins : List Int} {g : Int} {ret : List Int} {fr : List Bool} {rs : Nat → List Ret4} {inc : Nat → Int} {u : Nat}
theorem do_any (W : WI n P pins g ret fr rs inc u) (hgs : g + 1 ≤ 1000000) (m : MvE) (i : Nat) (seq : Int) (cur : Cu) :
    ∃ P' pins' g' ret' fr' rs' inc' u', qf91 m (i : Int) pins g (104 + 16 * (n : Int)) seq cur P ret toL fr = some (true, pins', g', 104 + 16 * (n : Int), seq, cur, P', ret', toL, fr') ∧ WI n P' pins' g' ret' fr' rs' inc' u' ∧ g ≤ g' ∧ g' ≤ g + 1 ∧
      (∀ c : Nat, c < 6 → pins'.getD c 0 = pins.getD c 0 ∨ pins'.getD c 0 = 0 ∨ pins.getD c 0 = 0) ∧ (∀ k : Nat, k < 12 → ret'.getD k 0 = ret.getD k 0 ∨ (ret.getD k 0 < 0 ∧ ret'.getD k 0 = g')) ∧
      (∀ k : Nat, k < 12 → fr'.getD k false = fr.getD k false ∨ (ret.getD k 0 + 2 ≤ g ∧ pins' = pins)) := by
  obtain ⟨c, hc⟩ : ∃ c : Nat, m.2.1 % 6 = c := ⟨(m.2.1 % 6).toNat, by omega⟩
  obtain ⟨d, hd⟩ : ∃ d : Nat, m.2.2.1 % 6 = d := ⟨(m.2.2.1 % 6).toNat, by omega⟩
  have hc6 : c < 6 := by omega
  have hset : ∀ (x : Int) (c' : Nat), c' < 6 → (pins.set c x).getD c' 0 = if c' = c then x else pins.getD c' 0 := fun x c' hc' => by
    by_cases h : c' = c
    · subst h; rw [if_pos rfl, getD_set_self _ _ _ _ (by rw [W.pl]; exact hc')]
    · rw [if_neg h, getD_set_ne _ _ _ _ _ (fun e => h e.symm)]
  have h8 : m.1 % 8 = 0 ∨ (m.1 % 8 = 1 ∨ m.1 % 8 = 7) ∨ (m.1 % 8 = 2 ∨ m.1 % 8 = 3) ∨ (m.1 % 8 = 4 ∨ m.1 % 8 = 5) ∨ m.1 % 8 = 6 := by omega
  rcases h8 with h | h | h | h | h
  · obtain ⟨P', pins', inc', h1, h2, h3⟩ := do_pin W m h c d hc hd (i : Int) seq cur toL
    refine ⟨P', pins', g, ret, fr, rs, inc', u, h1, h2, by omega, by omega, fun c' hc' => ?_, fun k _ => .inl rfl, fun k _ => .inl rfl⟩
    rcases h3 with rfl | ⟨rfl, h0⟩
    · exact .inl rfl
    · rw [hset _ c' hc']
      by_cases e : c' = c
      · subst e; exact .inr (.inr h0)
      · rw [if_neg e]; exact .inl rfl
  · obtain ⟨P', inc', h1, h2⟩ := do_unpin W m h c d hc hd (i : Int) seq cur toL
    refine ⟨P', _, g, ret, fr, rs, inc', u, h1, h2, by omega, by omega, fun c' hc' => ?_, fun k _ => .inl rfl, fun k _ => .inl rfl⟩
    rw [hset _ c' hc']
    by_cases e : c' = c
    · rw [if_pos e]; exact .inr (.inl rfl)
    · rw [if_neg e]; exact .inl rfl
  · obtain ⟨P', g', h1, h2, h3, h4, _⟩ := do_adv W hgs m h c d hc hd (i : Int) seq cur toL
    exact ⟨P', pins, g', ret, fr, rs, inc, u, h1, h2, h3, h4, fun c' _ => .inl rfl, fun k _ => .inl rfl, fun k _ => .inl rfl⟩
  · obtain ⟨P', ret', rs', h1, h2, h3⟩ := do_ret W m h c d hc hd i seq cur
    refine ⟨P', pins, g, ret', fr, rs', inc, u, h1, h2, by omega, by omega, fun c' _ => .inl rfl, fun k hk => ?_, fun k _ => .inl rfl⟩
    rcases h3 with rfl | ⟨k0, hk0, hneg, rfl⟩
    · exact .inl rfl
    · by_cases e : k = k0
      · subst e; rw [getD_set_self _ _ _ _ (by rw [W.rl]; exact hk)]; exact .inr ⟨hneg, rfl⟩
      · rw [getD_set_ne _ _ _ _ _ (fun e2 => e e2.symm)]; exact .inl rfl
  · obtain ⟨P', fr', u', kk, h1, h2, h3, h4⟩ := do_col W m h c d hc hd (i : Int) seq cur
    refine ⟨P', pins, g, ret, fr', _, inc, u', h1, h2, by omega, by omega, fun c' _ => .inl rfl, fun k _ => .inl rfl, fun k hk => ?_⟩
    rw [h3, setF_get kk fr k (by rw [W.fl]; exact hk)]
    by_cases hm : k ∈ kk
    · exact .inr ⟨(h4 k hm).2.2, rfl⟩
    · left; simp [hm]
end
def layU : Nat := 8190
def layData : List (Int × List Nat × Nat) := [(0, [1, 2, 3, 4, 5, 6, 7, 8, 9, 10, 11, 12], layU)]
theorem lay_data (n : Nat) (n0 : 1 ≤ n) (n1 : n ≤ 5) : dataOf n (upd (fun _ => -1) 0 ((0 : Nat) : Int)) (fun _ => 0) 0 12 = layData := by
  match n, n0, n1 with
  | 1, _, _ => decide +kernel
  | 2, _, _ => decide +kernel
  | 3, _, _ => decide +kernel
  | 4, _, _ => decide +kernel
  | 5, _, _ => decide +kernel
  | 0, h, _ => omega
  | n + 6, _, h => omega
theorem lay_first (n : Nat) (n0 : 1 ≤ n) (n1 : n ≤ 5) : firstFree (fun _ => -1) 0 n = some 0 := by
  match n, n0, n1 with
  | 1, _, _ => decide +kernel
  | 2, _, _ => decide +kernel
  | 3, _, _ => decide +kernel
  | 4, _, _ => decide +kernel
  | 5, _, _ => decide +kernel
  | 0, h, _ => omega
  | n + 6, _, h => omega
theorem commitAll_snoc (P ws : List Page) (w : Page) : commitAll P (ws ++ [w]) = commitAll (commitAll P ws) [w] := by
  unfold commitAll
  rw [List.foldl_append]
theorem newPage_tag (i : Nat) : ptag (newPage i) = (0, 0, 0, ()) := rfl
theorem lay_fine (size : Int) : ∃ (n : Nat) (P : List Page) (inc : Nat → Int), qf59 size = some (true, List.replicate 6 (0 : Int), 0, 104 + 16 * (n : Int), 0, cur0, List.replicate 12 (-1 : Int), toL, List.replicate 12 false, P) ∧ WI n P (List.replicate 6 (0 : Int)) 0 (List.replicate 12 (-1 : Int)) (List.replicate 12 false) (fun _ => List.replicate 4 noRet) inc layU := by
  obtain ⟨s, hs⟩ : ∃ s : Nat, size % 5 = s := ⟨(size % 5).toNat, by omega⟩
  have hs5 : s < 5 := by omega
  obtain ⟨n, hn⟩ : ∃ n, n = s + 1 := ⟨_, rfl⟩
  have n0 : 1 ≤ n := by omega
  have n1 : n ≤ 5 := by omega
  have e1 : qf3 size = some (104 + 16 * (n : Int)) := by
    unfold qf3
    rw [qf2_eq size 5 (by omega) (by omega), hs]
    simp only [Option.bind_some]
    rw [i64w (n := 1 + (s : Int)) (by omega) (by omega), i64w (n := 16 * (1 + (s : Int))) (by omega) (by omega), i64w (by omega) (by omega)]
    congr 1
    omega
  have e2 : qf4 (104 + 16 * (n : Int)) = some (104 + 16 * (n : Int), 0, cur0, newPages (8 + 16 * n)) := by
    have := qf4_eq (8 + 16 * n) (by omega)
    have e : 96 + ((8 + 16 * n : Nat) : Int) = 104 + 16 * (n : Int) := by omega
    rw [e] at this
    exact this
  have I0 := inv_new n n0 n1
  have hP0 : (newPages (8 + 16 * n)).length = 8 + 16 * n := newPages_len _
  generalize hg0 : newPages (8 + 16 * n) = P0 at e2 I0 hP0
  have hacq := I0.acquire (c := 0) (by omega)
  rw [lay_first n n0 n1] at hacq
  have hacq' : qf48 (0, 1, 104 + 16 * (n : Int), -1, ()) P0 = some ([], [takeN n P0 (fun _ => -1) 0 0, takeH P0 (fun _ => 0) 0 0], 0, 0, true) := hacq
  have I1 := I0.taken (c := 0) (s := 0) (by omega) (by omega) rfl
  have hB := or_lt9 (s := 0) (bm_lt9 (own := fun _ => -1) n1 (((0 : Nat) : Int))) (by omega)
  have l1 : (pAt P0 2).1 = 98 := by rw [pAt_get (by omega)]; exact I0.hp.line _ _
  have l2 : (pAt P0 8).1 = 104 := by rw [pAt_get (by omega)]; exact I0.hp.line _ _
  have a2 := node_again (pAt P0 (2 + 0)) (nodeV ((bm (fun _ => -1) ((0 : Nat) : Int) n ||| 2 ^ 0 : Nat) : Int) 1) (wf_nodeV hB (by omega) (by omega)) (node_code (by unfold isOwnL; rw [l1]; rfl) hB (by omega) (by omega))
  have b2 := head_again (pAt P0 (8 + 16 * 0)) (((0 : Nat) : Int), ((0 : Nat) : Int), ()) (wf_headv (by omega) (by omega) (by omega)) (head_code (by unfold isHdr; rw [l2]; rfl) (by omega) (by omega) (by omega) (by decide))
  have k1 : (takeN n P0 (fun _ => -1) 0 0).1 = 96 + ((2 : Nat) : Int) := a2.2.1.trans l1
  have k2 : (takeH P0 (fun _ => 0) 0 0).1 = 96 + ((8 : Nat) : Int) := b2.2.1.trans l2
  have hcom1 := heap_Commit_eq [takeN n P0 (fun _ => -1) 0 0, takeH P0 (fun _ => 0) 0 0] P0 (104 + 16 * (n : Int)) 0 cur0 (by simp) (by omega) (fun w hw => by
    simp only [List.mem_cons, List.not_mem_nil, or_false] at hw
    rcases hw with rfl | rfl
    · rw [k1]; omega
    · rw [k2]; omega) (fun p hp => wf_u64 (I0.hp.wf p hp).2.1)
  obtain ⟨x1, x2, hget1⟩ := pAt_two P0 (takeN n P0 (fun _ => -1) 0 0) (takeH P0 (fun _ => 0) 0 0) (j1 := 2) (j2 := 8) (by omega) (by omega) k1 k2 (by omega)
  have hnode0 : readNode (takeN n P0 (fun _ => -1) 0 0) = (nodeV ((bm (fun _ => -1) ((0 : Nat) : Int) n ||| 2 ^ 0 : Nat) : Int) 1, 0) := a2.1
  have hbm : ((bm (fun _ => -1) ((0 : Nat) : Int) n ||| 2 ^ 0 : Nat) : Int) = 1 := by rw [bm_none]; rfl
  rw [hbm] at hnode0
  have hP1 : (commitAll P0 [takeN n P0 (fun _ => -1) 0 0, takeH P0 (fun _ => 0) 0 0]).length = 8 + 16 * n := by rw [commitAll_len]; exact hP0
  generalize hg1 : commitAll P0 [takeN n P0 (fun _ => -1) 0 0, takeH P0 (fun _ => 0) 0 0] = P1 at hcom1 I1 hget1 hP1
  have hal := I1.alloc (c := 0) (count := 12) (by omega) (by omega) (by omega) (by omega)
  rw [lay_data n n0 n1] at hal
  have htot : ¬ total layData < 12 := by decide
  rw [if_neg htot] at hal
  have hpg : pagesOf (pgOf P1) layData = (List.range 12).map fun k => pAt P1 (9 + k) := rfl
  have hwr : writesOf (hpOf P1) ((0 : Nat) : Int) layData = [(writeHead (pAt P1 8) (0, (layU : Int), ())).1] := rfl
  rw [hpg, hwr] at hal
  have hal' : qf53 (0, 104 + 16 * (n : Int), 12, ()) P1 = some ([], (List.range 12).map (fun k => pAt P1 (9 + k)), [(writeHead (pAt P1 8) (0, (layU : Int), ())).1], 0, true) := hal
  have hl8 : (pAt P1 8).1 = 104 := by rw [pAt_get (by omega)]; exact I1.hp.line _ _
  have hw8 : Wf TPage (pAt P1 8) := by rw [pAt_get (by omega)]; exact I1.hp.wf _ (List.getElem_mem _)
  have hwh := wf_headv (c := (0 : Int)) (u := layU) (by omega) (by omega) (by decide)
  obtain ⟨q1, q2, q3⟩ := head_again (pAt P1 8) ((0 : Int), (layU : Int), ()) hwh (head_code (by unfold isHdr; rw [hl8]; rfl) (by omega) (by omega) (by decide) (by decide))
  have q2' : (writeHead (pAt P1 8) (0, (layU : Int), ())).1.1 = 96 + ((8 : Nat) : Int) := q2.trans hl8
  have hcom2 := heap_Commit_eq [(writeHead (pAt P1 8) (0, (layU : Int), ())).1] P1 (104 + 16 * (n : Int)) 0 cur0 (by simp) (by omega) (fun w hw => by
    simp only [List.mem_singleton] at hw
    subst hw
    rw [q2']; omega) (fun p hp => wf_u64 (I1.hp.wf p hp).2.1)
  have e2c : commitAll P1 [(writeHead (pAt P1 8) (0, (layU : Int), ())).1] = commit1 P1 (writeHead (pAt P1 8) (0, (layU : Int), ())).1 := rfl
  have H2 : Heap n (commit1 P1 (writeHead (pAt P1 8) (0, (layU : Int), ())).1) := I1.hp.commit (by omega) q2' (wf_head_written _ _ hw8 hwh)
  have hget2 : ∀ i, i < P1.length → pAt (commit1 P1 (writeHead (pAt P1 8) (0, (layU : Int), ())).1) i = if i = 8 then reHead (writeHead (pAt P1 8) (0, (layU : Int), ())).1 (bump (pAt P1 8).2.1) else pAt P1 i := fun i hi => pAt_commit P1 _ (by omega) q2' hi
  have hP2 : (commit1 P1 (writeHead (pAt P1 8) (0, (layU : Int), ())).1).length = 8 + 16 * n := by rw [commit1_len]; exact hP1
  rw [e2c] at hcom2
  generalize hg2 : commit1 P1 (writeHead (pAt P1 8) (0, (layU : Int), ())).1 = P2 at hcom2 H2 hget2 hP2
  have hpage : ∀ k : Nat, k < 12 → ptag (pAt P1 (9 + k)) = (0, 0, 0, ()) ∧ Wf TPage (pAt P1 (9 + k)) ∧ lockedB (pAt P1 (9 + k)) = false ∧ (pAt P1 (9 + k)).1 = 96 + ((9 + k : Nat) : Int) := fun k hk => by
    refine ⟨?_, by rw [pAt_get (by omega)]; exact I1.hp.wf _ (List.getElem_mem _), by rw [pAt_get (by omega)]; exact I1.hp.free _ (List.getElem_mem _), by rw [pAt_get (by omega)]; exact I1.hp.line _ _⟩
    rw [hget1 (9 + k) (by omega), if_neg (by omega), if_neg (by omega), ← hg0, newPages_at (by omega), newPage_tag]
  let wk : Nat → Page := fun k => withTag (pAt P1 (9 + k)) 1 1 0
  have hwk : ∀ k : Nat, k < 12 → (wk k).1 = 96 + ((9 + k : Nat) : Int) ∧ Wf TPage (wk k) ∧ ptag (wk k) = (1, 1, 0, ()) := fun k hk => by
    obtain ⟨f1, f2, f3, f4⟩ := hpage k hk
    exact ⟨f4, wf_withTag f2 (by omega) (by omega) (by omega) (by omega) (by omega) (by omega), tag_again _ 1 1 0 (by omega) (by omega) (by omega) (by omega) (by omega) (by omega)⟩
  have hHi : ∀ i, i ≤ 12 → Heap n (commitAll P2 ((List.range i).map wk)) ∧ (commitAll P2 ((List.range i).map wk)).length = 8 + 16 * n := fun i hi => by
    refine ⟨commitAll_heap _ P2 H2 fun w hw => ?_, by rw [commitAll_len]; exact hP2⟩
    obtain ⟨k, hk, rfl⟩ := List.mem_map.1 hw
    have := List.mem_range.1 hk
    obtain ⟨f1, f2, _⟩ := hwk k (by omega)
    exact ⟨9 + k, by omega, f1, f2⟩
  have hlm : lim = 2147483648 := rfl
  have hL1 : qf59L1 ((List.range 12).map fun k => pAt P1 (9 + k)) (0 : Int) (List.replicate 6 (0 : Int)) (0 : Int) (104 + 16 * (n : Int)) 0 cur0 [] [] [] P2 = some (.inl (List.replicate 6 (0 : Int), 0, 104 + 16 * (n : Int), 0, cur0, List.replicate 12 (-1 : Int), toL, List.replicate 12 false, commitAll P2 ((List.range 12).map wk))) := by
    have hfl : ((List.range 12).map fun k => pAt P1 (9 + k)).length = 12 := by simp
    refine iter_for (body := qf59L1B) (fun i => ((List.range 12).map (fun k => pAt P1 (9 + k)), (i : Int), List.replicate 6 (0 : Int), (0 : Int), 104 + 16 * (n : Int), (0 : Int), cur0, List.replicate i (-1 : Int), (List.range i).map toP, List.replicate i false, commitAll P2 ((List.range i).map wk))) 12 _ (fun i hi => ?_) ?_ 0 (Nat.zero_le _)
    · show qf59L1b _ _ _ _ _ _ _ _ _ _ _ = _
      have d1 : decide ((i : Int) < ((((List.range 12).map fun k => pAt P1 (9 + k)).length : Nat) : Int)) = true := by rw [hfl]; exact decide_eq_true (by omega)
      have d2 : inR (i : Int) ((List.range 12).map fun k => pAt P1 (9 + k)).length = true := inR_nat (by rw [hfl]; exact hi)
      have d3 : ∀ x, List.getD ((List.range 12).map fun k => pAt P1 (9 + k)) (Int.toNat (i : Int)) x = pAt P1 (9 + i) := fun x => by
        rw [Int.toNat_natCast, List.getD_eq_getElem?_getD, List.getElem?_map, List.getElem?_range hi]; rfl
      have d4 : IntKind.wrap .i64 ((i : Int) + 1) = ((i + 1 : Nat) : Int) := by rw [i64w (by omega) (by omega)]; simp
      obtain ⟨f1, f2, f3, f4⟩ := hpage i hi
      obtain ⟨g1, g2, g3⟩ := hwk i hi
      have d5 := qf57_eq (pAt P1 (9 + i)) f2 1 (by omega) (by omega) (by omega) (by omega) f3 (by rw [f1]) (by rw [f1]; decide)
      rw [f1] at d5
      have d5' : qf57 (pAt P1 (9 + i)) 1 0 = some (wk i, 0) := d5
      obtain ⟨h1, h2⟩ := hHi i (by omega)
      have d6 := heap_Commit_eq [wk i] (commitAll P2 ((List.range i).map wk)) (104 + 16 * (n : Int)) 0 cur0 (by simp) (by omega) (fun w hw => by
        simp only [List.mem_singleton] at hw
        subst hw
        rw [g1]; omega) (fun p hp => wf_u64 (h1.wf p hp).2.1)
      have d7 := qf58_eq (wk i) g2
      rw [g3] at d7
      have d7' : qf58 (wk i) = some (toP i) := by
        rw [d7]
        unfold toP
        rw [show (wk i).1 = 96 + ((9 + i : Nat) : Int) from g1]
        show some ((96 + ((9 + i : Nat) : Int), (1 : Int), ()) : Ptr) = _
        congr 2
        omega
      have d8 : decide (((List.range i).map toP).length + 1 ≤ lim) = true := decide_eq_true (by simp; omega)
      have d9 : decide ((List.replicate i (-1 : Int)).length + 1 ≤ lim) = true := decide_eq_true (by simp; omega)
      have d10 : decide ((List.replicate i false).length + 1 ≤ lim) = true := decide_eq_true (by simp; omega)
      have s1 : (List.range (i + 1)).map toP = (List.range i).map toP ++ [toP i] := by rw [List.range_succ, List.map_append]; rfl
      have s2 : List.replicate (i + 1) (-1 : Int) = List.replicate i (-1 : Int) ++ [-1] := List.replicate_succ'
      have s3 : List.replicate (i + 1) false = List.replicate i false ++ [false] := List.replicate_succ'
      have s4 : commitAll P2 ((List.range (i + 1)).map wk) = commitAll (commitAll P2 ((List.range i).map wk)) [wk i] := by rw [List.range_succ, List.map_append, ← commitAll_snoc]; rfl
      unfold qf59L1b
      simp only [d1, d2, cond_true, d3, d5', Option.bind_some, decide_true, Bool.not_true, cond_false, d6, d7', d8, d9, d10, d4]
      rw [s1, s2, s3, s4]
    · show qf59L1b _ _ _ _ _ _ _ _ _ _ _ = _
      have d1 : decide (((12 : Nat) : Int) < ((((List.range 12).map fun k => pAt P1 (9 + k)).length : Nat) : Int)) = false := by rw [hfl]; rfl
      unfold qf59L1b
      simp only [d1, cond_false]
      rfl
  have hlay : qf59 size = some (true, List.replicate 6 (0 : Int), 0, 104 + 16 * (n : Int), 0, cur0, List.replicate 12 (-1 : Int), toL, List.replicate 12 false, commitAll P2 ((List.range 12).map wk)) := by
    have d12 : decide (((((List.range 12).map fun k => pAt P1 (9 + k)).length : Nat) : Int) = 12) = true := rfl
    unfold qf59
    simp only [e1, Option.bind_some, e2, hacq', Bool.not_true, cond_false, decide_true, hcom1, hal', d12, hcom2, hL1]
  obtain ⟨HF, HFl⟩ := hHi 12 (Nat.le_refl _)
  have hdist : ((List.range 12).map wk).Pairwise fun a b => a.1 ≠ b.1 := by
    refine List.pairwise_map.2 ((List.nodup_range).imp_of_mem fun {a b} ha hb h => ?_)
    rw [(hwk a (List.mem_range.1 ha)).1, (hwk b (List.mem_range.1 hb)).1]; omega
  have hwl : ∀ w ∈ (List.range 12).map wk, ∃ k : Nat, k < 12 ∧ w.1 = 96 + ((9 + k : Nat) : Int) := fun w hw => by
    obtain ⟨k, hk, rfl⟩ := List.mem_map.1 hw
    exact ⟨k, List.mem_range.1 hk, (hwk k (List.mem_range.1 hk)).1⟩
  have hlow : ∀ j : Nat, j < 9 → pAt (commitAll P2 ((List.range 12).map wk)) j = pAt P2 j := fun j hj => pAt_commitAll_ne _ P2 (by omega) fun w hw => by
    obtain ⟨k, hk, he⟩ := hwl w hw
    rw [he]; omega
  have hpgF : ∀ k : Nat, k < 12 → ptag (pAt (commitAll P2 ((List.range 12).map wk)) (9 + k)) = (1, 1, 0, ()) := fun k hk => by
    obtain ⟨g1, g2, g3⟩ := hwk k hk
    obtain ⟨b, hb⟩ := commitAll_at ((List.range 12).map wk) P2 hdist (fun w hw => by obtain ⟨k, _, he⟩ := hwl w hw; rw [he]; omega) (wk k) (List.mem_map.2 ⟨k, List.mem_range.2 hk, rfl⟩) (9 + k) (by omega) g1
    rw [hb, ptag_re]; exact g3
  have hz6 : ∀ c : Nat, (List.replicate 6 (0 : Int)).getD c 0 = 0 := fun c => by
    rw [List.getD_eq_getElem?_getD, List.getElem?_replicate]
    split <;> rfl
  have hm12 : ∀ k : Nat, k < 12 → (List.replicate 12 (-1 : Int)).getD k 0 = -1 := fun k hk => by
    rw [List.getD_eq_getElem?_getD, List.getElem?_replicate, if_pos hk]; rfl
  have hf12 : ∀ k : Nat, (List.replicate 12 false).getD k false = false := fun k => by
    rw [List.getD_eq_getElem?_getD, List.getElem?_replicate]
    split <;> rfl
  have hr4 : ∀ j : Nat, (List.replicate 4 noRet).getD j noRet = noRet := fun j => by
    rw [List.getD_eq_getElem?_getD, List.getElem?_replicate]
    split <;> rfl
  have hnodes : ∀ c : Nat, c ≤ 5 → readNode (pAt (commitAll P2 ((List.range 12).map wk)) (2 + c)) = (nodeW (List.replicate 6 (0 : Int)) (fun c => if c = 0 then 1 else 0) (fun _ => List.replicate 4 noRet) c, 0) := fun c hc => by
    rw [hlow (2 + c) (by omega), hget2 (2 + c) (by omega), if_neg (by omega), hget1 (2 + c) (by omega), if_neg (by omega)]
    have hw : nodeW (List.replicate 6 (0 : Int)) (fun c => if c = 0 then 1 else 0) (fun _ => List.replicate 4 noRet) c = (false, 0, (if c = 0 then 1 else 0), (if c = 0 then 1 else 0), List.replicate 4 noRet, ()) := by
      unfold nodeW
      rw [hz6]; rfl
    rw [hw]
    by_cases h : c = 0
    · subst h
      rw [if_pos rfl, readNode_re, hnode0]
      rfl
    · rw [if_neg (by omega), ← hg0, newPages_at (by omega), if_neg h]
      unfold readNode newPage
      have : isOwnL (96 + ((2 + c : Nat) : Int)) = true := by unfold isOwnL; simp; omega
      simp only [this]
      rfl
  have hep : epochOf (pAt (commitAll P2 ((List.range 12).map wk)) 1) = (0, 0) := by
    rw [hlow 1 (by omega), hget2 1 (by omega), if_neg (by omega), hget1 1 (by omega), if_neg (by omega), if_neg (by omega), ← hg0, newPages_at (by omega)]
    rfl
  refine ⟨n, _, _, hlay, ⟨⟨HF, n0, n1, hep, by omega, by omega, hnodes⟩, by simp, fun c _ => .inl (hz6 c), fun c _ => ⟨(by split <;> omega), (by split <;> omega), fun h => (by rw [hz6] at h; omega)⟩, by simp, by simp, fun k hk => (by rw [hm12 k hk]; omega), fun k hk h => (by rw [hf12] at h; cases h), fun c _ => (by simp), fun c j _ _ => .inl (hr4 j), fun c j c' j' _ _ _ _ h => absurd (hr4 j) h, fun k hk h => (by rw [hm12 k hk] at h; omega), by decide, by decide, ?_, fun k hk => ?_, fun k hk => by rw [hf12, hpgF k hk]; rfl⟩⟩
  · rw [hlow 8 (by omega), hget2 8 (by omega), if_pos rfl, readHead_re]
    exact q1
  · rw [hf12]
    match k, hk with
    | 0, _ => rfl
    | 1, _ => rfl
    | 2, _ => rfl
    | 3, _ => rfl
    | 4, _ => rfl
    | 5, _ => rfl
    | 6, _ => rfl
    | 7, _ => rfl
    | 8, _ => rfl
    | 9, _ => rfl
    | 10, _ => rfl
    | 11, _ => rfl
    | k + 12, h => omega
end Go.Sx

/- EpochFrees: the law. -/
set_option linter.unusedVariables false
set_option linter.unusedSimpArgs false
namespace Go.Sx
open Go.RowKit
end Go.Sx

/- EpochGuards: the law. -/
set_option linter.unusedVariables false
set_option linter.unusedSimpArgs false
namespace Go.Sx
open Go.RowKit
theorem open_w {n : Nat} {P : List Page} {pins : List Int} {g : Int} {ret : List Int} {fr : List Bool} {rs : Nat → List Ret4} {inc : Nat → Int} {u : Nat} (W : WI n P pins g ret fr rs inc u) {k : Nat} (hk : k < 12) :
    ∃ pg, qf93 P (toP k) 1 = some (pg, !fr.getD k false, if fr.getD k false then 11 else 0) := by
  have h1 := W.E.hp.len; have h0 := W.E.n0; have h2 := W.E.n1
  have hlt : 9 + k < P.length := by omega
  have hm : maxLen = 9223372036854775807 := by decide
  have e1 : qf7 P (toP k).1 = some (pAt P (9 + k), true) := by
    rw [show (toP k).1 = 105 + (k : Int) from rfl, qf7_eq P _ (by omega), W.E.hp.latest hlt (by omega), pAt_get hlt]
    rfl
  have hw : Wf TPage (pAt P (9 + k)) := by rw [pAt_get hlt]; exact W.E.hp.wf _ (List.getElem_mem _)
  have hf : lockedB (pAt P (9 + k)) = false := by rw [pAt_get hlt]; exact W.E.hp.free _ (List.getElem_mem _)
  have e2 := qf54_eq _ hw
  rw [W.pg k hk] at e2
  have e3 := qf17_eq _ hw
  rw [hf] at e3
  have e4 : (toP k).2.1 = 1 := rfl
  unfold qf93 qf92
  simp only [qf21_eq, toP_valid hk, e1, e2, e3, e4, Option.bind_some, Bool.not_true, cond_false, cond_true]
  cases hfr : fr.getD k false with
  | true => exact ⟨_, rfl⟩
  | false => exact ⟨_, rfl⟩
structure Mv (pins pins' : List Int) (g g' : Int) (ret ret' : List Int) (fr fr' : List Bool) : Prop where
  pl' : pins'.length = 6
  p0 : ∀ c : Nat, c < 6 → pins'.getD c 0 = pins.getD c 0 ∨ pins'.getD c 0 = 0 ∨ pins.getD c 0 = 0
  pb : ∀ c : Nat, c < 6 → pins.getD c 0 = 0 ∨ (1 ≤ pins.getD c 0 ∧ g ≤ pins.getD c 0)
  pb' : ∀ c : Nat, c < 6 → pins'.getD c 0 = 0 ∨ (1 ≤ pins'.getD c 0 ∧ pins'.getD c 0 ≤ g' + 1)
  r : ∀ k : Nat, k < 12 → ret'.getD k 0 = ret.getD k 0 ∨ (ret.getD k 0 < 0 ∧ ret'.getD k 0 = g')
  f : ∀ k : Nat, k < 12 → fr'.getD k false = fr.getD k false ∨ (ret.getD k 0 + 2 ≤ g ∧ pins' = pins)
  ff' : ∀ k : Nat, k < 12 → fr'.getD k false = true → 0 ≤ ret'.getD k 0 ∧ ret'.getD k 0 + 2 ≤ g'
  rl : ret.length = 12
  rl' : ret'.length = 12
  fl : fr.length = 12
  fl' : fr'.length = 12
def gd (G : List (List Bool)) (k c : Nat) : Bool := (List.getD G k (List.replicate 6 false)).getD c false
def gOk (pins ret : List Int) (fr : List Bool) (k c : Nat) : Prop := 0 < pins.getD c 0 ∧ pins.getD c 0 ≤ ret.getD k 0 + 1 ∧ fr.getD k false = false
def shG (G : List (List Bool)) : Prop := G.length = 12 ∧ ∀ k : Nat, k < 12 → (List.getD G k (List.replicate 6 false)).length = 6
def gset (G : List (List Bool)) (k c : Nat) (b : Bool) : List (List Bool) := List.set G k (List.set (List.getD G k (List.replicate 6 false)) c b)
theorem gset_self {G : List (List Bool)} (h : shG G) {k c : Nat} (hk : k < 12) (hc : c < 6) (b : Bool) : (List.getD (List.set G k (List.set (List.getD G k (List.replicate 6 false)) c b)) k (List.replicate 6 false)).getD c false = b := by
  rw [getD_set_self _ _ _ _ (by rw [h.1]; exact hk), getD_set_self _ _ _ _ (by rw [h.2 k hk]; exact hc)]
theorem gset_sh {G : List (List Bool)} (h : shG G) {k : Nat} (hk : k < 12) (c : Nat) (b : Bool) : shG (gset G k c b) := by
  refine ⟨by unfold gset; rw [List.length_set]; exact h.1, fun k' hk' => ?_⟩
  unfold gset
  by_cases e : k = k'
  · subst e; rw [getD_set_self _ _ _ _ (by rw [h.1]; exact hk), List.length_set]; exact h.2 k hk
  · rw [getD_set_ne _ _ _ _ _ e]; exact h.2 k' hk'
theorem gd_ne {G : List (List Bool)} (h : shG G) {k c : Nat} (hk : k < 12) (b : Bool) {k' c' : Nat} (hne : k' ≠ k ∨ c' ≠ c) : gd (gset G k c b) k' c' = gd G k' c' := by
  unfold gd gset
  by_cases e : k = k'
  · subst e
    rcases hne with hne | hne
    · exact absurd rfl hne
    · rw [getD_set_self _ _ _ _ (by rw [h.1]; exact hk), getD_set_ne _ _ _ _ _ (fun e => hne e.symm)]
  · rw [getD_set_ne _ _ _ _ _ e]
section
variable {pins pins' : List Int} {g g' : Int} {ret ret' : List Int} {fr fr' : List Bool}
theorem guardsL1_eq (S : Mv pins pins' g g' ret ret' fr fr') (x0 : List MvE) (x1 : Int) {k : Nat} (hk : k < 12) (x9 x10 : Int) (x11 : Cu) (x13 : List Ptr) (P : List Page) :
    ∀ (d c : Nat), c + d = 6 → ∀ (G : List (List Bool)), shG G → (∀ c' : Nat, c' < 6 → gd G k c' = true → (c' < c → gOk pins' ret' fr' k c') ∧ (c ≤ c' → gOk pins ret fr k c')) →
    ∃ G', qf94L1 x0 x1 (k : Int) (c : Int) pins' g' G fr ret x9 x10 x11 ret' x13 fr' P = some (.inl (x0, x1, (k : Int), pins', g', G', fr, ret, x9, x10, x11, ret', x13, fr', P)) ∧ shG G' ∧
      (∀ k' c' : Nat, k' ≠ k → gd G' k' c' = gd G k' c') ∧ ∀ c' : Nat, c' < 6 → gd G' k c' = true → gOk pins' ret' fr' k c' := by
  intro d
  induction d with
  | zero =>
    intro c hc G hG hI
    refine ⟨G, iter_done ?_, hG, fun _ _ _ => rfl, fun c' hc' h => (hI c' hc' h).1 (by omega)⟩
    show qf94L1b _ _ _ _ _ _ _ _ _ _ _ _ _ _ _ _ = _
    unfold qf94L1b
    have e1 : decide ((c : Int) < 6) = false := decide_eq_false (by omega)
    simp only [e1, cond_false]
  | succ d ih =>
    intro c hc G hG hI
    have hc6 : c < 6 := by omega
    have e1 : decide ((c : Int) < 6) = true := decide_eq_true (by omega)
    have i1 : inR (c : Int) 6 = true := inR_nat hc6
    have i2 : inR (k : Int) G.length = true := inR_nat (by rw [hG.1]; exact hk)
    have i3 : inR (k : Int) fr'.length = true := inR_nat (by rw [S.fl']; exact hk)
    have i4 : inR (k : Int) fr.length = true := inR_nat (by rw [S.fl]; exact hk)
    have i5 : inR (k : Int) ret.length = true := inR_nat (by rw [S.rl]; exact hk)
    have i6 : inR (k : Int) ret'.length = true := inR_nat (by rw [S.rl']; exact hk)
    have e4 : IntKind.wrap .i64 ((c : Int) + 1) = ((c + 1 : Nat) : Int) := by rw [i64w (by omega) (by omega)]; simp
    have gs := fun b => gset_self hG hk hc6 b
    have hpb := S.pb c hc6; have hpb' := S.pb' c hc6; have hp0 := S.p0 c hc6; have hr := S.r k hk; have hf := S.f k hk; have hff := S.ff' k hk
    have next : ∀ (G2 : List (List Bool)), shG G2 → (∀ k' c' : Nat, (k' ≠ k ∨ c' ≠ c) → gd G2 k' c' = gd G k' c') → (gd G2 k c = true → gOk pins' ret' fr' k c) →
        qf94L1b x0 x1 (k : Int) (c : Int) pins' g' G fr ret x9 x10 x11 ret' x13 fr' P = some (.inl (x0, x1, (k : Int), ((c + 1 : Nat) : Int), pins', g', G2, fr, ret, x9, x10, x11, ret', x13, fr', P)) →
        ∃ G', qf94L1 x0 x1 (k : Int) (c : Int) pins' g' G fr ret x9 x10 x11 ret' x13 fr' P = some (.inl (x0, x1, (k : Int), pins', g', G', fr, ret, x9, x10, x11, ret', x13, fr', P)) ∧ shG G' ∧
          (∀ k' c' : Nat, k' ≠ k → gd G' k' c' = gd G k' c') ∧ ∀ c' : Nat, c' < 6 → gd G' k c' = true → gOk pins' ret' fr' k c' := by
      intro G2 h2 hne hnew hb
      obtain ⟨G', k1, k2, k3, k4⟩ := ih (c + 1) (by omega) G2 h2 (fun c' hc' h => by
        by_cases e : c' = c
        · subst e; exact ⟨fun _ => hnew h, fun hh => absurd hh (by omega)⟩
        · rw [hne k c' (.inr e)] at h
          exact ⟨fun hh => (hI c' hc' h).1 (by omega), fun hh => (hI c' hc' h).2 (by omega)⟩)
      exact ⟨G', (iter_step hb).trans k1, k2, fun k' c' hk' => (k3 k' c' hk').trans (hne k' c' (.inl hk')), k4⟩
    by_cases hp : pins'.getD c 0 = 0
    · refine next (gset G k c false) (gset_sh hG hk c false) (fun k' c' h => gd_ne hG hk false h) (fun h => ?_) ?_
      · have := gs false
        unfold gd gset at h
        rw [this] at h; cases h
      · unfold qf94L1b gset
        cases hf' : fr'.getD k false <;> cases hfo : fr.getD k false <;>
          simp only [e1, i1, i2, i3, i4, List.length_set, cond_true, Int.toNat_natCast, decide_eq_true hp, hf', hfo, Bool.not_true, Bool.not_false, cond_false, e4, gs]
    · have hpos : 0 < pins'.getD c 0 := by omega
      by_cases hn : ret.getD k 0 < 0 ∧ 0 ≤ ret'.getD k 0
      · have hrg : ret'.getD k 0 = g' := by omega
        have hf' : fr'.getD k false = false := by
          cases hx : fr'.getD k false with
          | false => rfl
          | true => have := hff hx; omega
        refine next (gset G k c true) (gset_sh hG hk c true) (fun k' c' h => gd_ne hG hk true h) (fun h => ⟨hpos, by omega, hf'⟩) ?_
        unfold qf94L1b gset
        simp only [e1, i1, i2, i3, i5, i6, List.length_set, cond_true, Int.toNat_natCast, decide_eq_false hp, decide_eq_true hn.1, decide_eq_true hn.2, hf', cond_false, e4]
      · have hold : gd G k c = true → gOk pins' ret' fr' k c := fun h => by
          obtain ⟨a1, a2, a3⟩ := (hI c hc6 h).2 (Nat.le_refl _)
          have a4 : pins'.getD c 0 = pins.getD c 0 := by omega
          have a5 : ret'.getD k 0 = ret.getD k 0 := by omega
          refine ⟨hpos, by omega, ?_⟩
          rcases hf with h | ⟨h, _⟩
          · rw [h]; exact a3
          · omega
        have hno : fr'.getD k false = true → fr.getD k false = false → gd G k c = false := fun b1 b2 => by
          cases hx : gd G k c with
          | false => rfl
          | true =>
            have := (hold hx).2.2
            rw [b1] at this; cases this
        refine next G hG (fun _ _ _ => rfl) hold ?_
        unfold qf94L1b
        unfold gd at hno
        by_cases h1 : ret.getD k 0 < 0
        · have h2 : ¬ 0 ≤ ret'.getD k 0 := fun h => hn ⟨h1, h⟩
          cases hf' : fr'.getD k false with
          | false => simp only [e1, i1, i2, i3, i5, i6, cond_true, Int.toNat_natCast, decide_eq_false hp, decide_eq_true h1, decide_eq_false h2, hf', cond_false, e4]
          | true =>
            cases hfo : fr.getD k false with
            | true => simp only [e1, i1, i2, i3, i4, i5, i6, cond_true, Int.toNat_natCast, decide_eq_false hp, decide_eq_true h1, decide_eq_false h2, hf', hfo, Bool.not_true, cond_false, e4]
            | false => simp only [e1, i1, i2, i3, i4, i5, i6, cond_true, Int.toNat_natCast, decide_eq_false hp, decide_eq_true h1, decide_eq_false h2, hf', hfo, hno hf' hfo, Bool.not_false, cond_false, e4]
        · cases hf' : fr'.getD k false with
          | false => simp only [e1, i1, i2, i3, i5, cond_true, Int.toNat_natCast, decide_eq_false hp, decide_eq_false h1, hf', cond_false, e4]
          | true =>
            cases hfo : fr.getD k false with
            | true => simp only [e1, i1, i2, i3, i4, i5, cond_true, Int.toNat_natCast, decide_eq_false hp, decide_eq_false h1, hf', hfo, Bool.not_true, cond_false, e4]
            | false => simp only [e1, i1, i2, i3, i4, i5, cond_true, Int.toNat_natCast, decide_eq_false hp, decide_eq_false h1, hf', hfo, hno hf' hfo, Bool.not_false, cond_false, e4]
theorem guardsL2_eq {n : Nat} {P : List Page} {rs : Nat → List Ret4} {inc : Nat → Int} {u : Nat} (S : Mv pins pins' g g' ret ret' fr fr') (W : WI n P pins' g' ret' fr' rs inc u) (x0 : List MvE) (x1 x8 x9 : Int) (x10 : Cu) :
    ∀ (d k : Nat), k + d = 12 → ∀ (G : List (List Bool)), shG G → (∀ k' c' : Nat, k' < 12 → c' < 6 → gd G k' c' = true → (k' < k → gOk pins' ret' fr' k' c') ∧ (k ≤ k' → gOk pins ret fr k' c')) →
    ∃ G', qf94L2 x0 x1 (k : Int) pins' g' G fr ret x8 x9 x10 ret' toL fr' P = some (.inl (x0, x1, pins', g', G', x8, x9, x10, ret', toL, fr', P)) ∧ shG G' ∧ ∀ k' c' : Nat, k' < 12 → c' < 6 → gd G' k' c' = true → gOk pins' ret' fr' k' c' := by
  intro d
  induction d with
  | zero =>
    intro k hk G hG hI
    refine ⟨G, iter_done ?_, hG, fun k' c' hk' hc' h => (hI k' c' hk' hc' h).1 (by omega)⟩
    show qf94L2b _ _ _ _ _ _ _ _ _ _ _ _ _ _ _ = _
    unfold qf94L2b
    have e1 : decide ((k : Int) < ((toL.length : Nat) : Int)) = false := by rw [toL_len]; exact decide_eq_false (by omega)
    simp only [e1, cond_false]
  | succ d ih =>
    intro k hkd G hG hI
    have hk : k < 12 := by omega
    obtain ⟨G1, j1, j2, j3, j4⟩ := guardsL1_eq S x0 x1 hk x8 x9 x10 toL P 6 0 rfl G hG (fun c' hc' h => ⟨fun hh => absurd hh (by omega), fun _ => (hI k c' hk hc' h).2 (Nat.le_refl _)⟩)
    obtain ⟨G2, k1, k2, k3⟩ := ih (k + 1) (by omega) G1 j2 (fun k' c' hk' hc' h => by
      by_cases e : k' = k
      · subst e; exact ⟨fun _ => j4 c' hc' h, fun hh => absurd hh (by omega)⟩
      · rw [j3 k' c' e] at h
        exact ⟨fun hh => (hI k' c' hk' hc' h).1 (by omega), fun hh => (hI k' c' hk' hc' h).2 (by omega)⟩)
    refine ⟨G2, (iter_step ?_).trans k1, k2, k3⟩
    show qf94L2b _ _ _ _ _ _ _ _ _ _ _ _ _ _ _ = _
    obtain ⟨pg, ho⟩ := open_w W hk
    have e1 : decide ((k : Int) < ((toL.length : Nat) : Int)) = true := by rw [toL_len]; exact decide_eq_true (by omega)
    have e2 : inR (k : Int) toL.length = true := inR_nat (by rw [toL_len]; exact hk)
    have e3 : inR (k : Int) fr'.length = true := inR_nat (by rw [W.fl]; exact hk)
    have e4 : IntKind.wrap .i64 ((k : Int) + 1) = ((k + 1 : Nat) : Int) := by rw [i64w (by omega) (by omega)]; simp
    have e5 : ∀ x, List.getD toL k x = toP k := fun x => by simp [List.getD, toL, hk]
    have j1' : qf94L1 x0 x1 (k : Int) (0 : Int) pins' g' G fr ret x8 x9 x10 ret' toL fr' P = _ := j1
    unfold qf94L2b
    cases hfr : fr'.getD k false with
    | true =>
      simp only [hfr] at ho
      have ho' : qf93 P (toP k) 1 = some (pg, false, 11) := ho
      simp only [e1, cond_true, j1', Option.bind_some, e2, Int.toNat_natCast, e5, ho', e3, hfr, decide_true, Bool.not_true, cond_false, e4, show (false == true) = false from rfl]
    | false =>
      simp only [hfr] at ho
      have ho' : qf93 P (toP k) 1 = some (pg, true, 0) := ho
      simp only [e1, cond_true, j1', Option.bind_some, e2, Int.toNat_natCast, e5, ho', e3, hfr, cond_false, e4, show (true == false) = false from rfl]
end
theorem guardsL3_eq {n : Nat} {P : List Page} {pins : List Int} {g : Int} {ret : List Int} {fr : List Bool} {rs : Nat → List Ret4} {inc : Nat → Int} {u : Nat} (W : WI n P pins g ret fr rs inc u) (x0 : List MvE) (x1 : Int) (G : List (List Bool)) (x6 x7 : Int) (x8 : Cu) :
    qf94L3 x0 x1 (0 : Int) pins g G x6 x7 x8 ret toL fr P = some (.inl (x0, x1, pins, g, G, x6, x7, x8, ret, toL, fr, P)) := by
  have hg0 := W.E.g0; have hg1 := W.E.g1
  refine iter_for (body := qf94L3B) (fun i => (x0, x1, (i : Int), pins, g, G, x6, x7, x8, ret, toL, fr, P)) 6 _ (fun i hi => ?_) ?_ 0 (Nat.zero_le _)
  · show qf94L3b _ _ _ _ _ _ _ _ _ _ _ _ _ = _
    have e1 : decide ((i : Int) < 6) = true := decide_eq_true (by omega)
    have e2 : inR (i : Int) 6 = true := inR_nat hi
    have e4 : IntKind.wrap .i64 ((i : Int) + 1) = ((i + 1 : Nat) : Int) := by rw [i64w (by omega) (by omega)]; simp
    have hb := W.pb i hi
    unfold qf94L3b
    by_cases hp : 0 < pins.getD i 0
    · have e5 : IntKind.wrap .i64 (pins.getD i 0 - 1) = pins.getD i 0 - 1 := i64w (by omega) (by omega)
      by_cases h : pins.getD i 0 - 1 = g
      · simp only [e1, e2, cond_true, Int.toNat_natCast, decide_eq_true hp, e5, decide_eq_true h, Bool.not_true, cond_false, e4]
      · have h2 : pins.getD i 0 = g := by omega
        simp only [e1, e2, cond_true, Int.toNat_natCast, decide_eq_true hp, e5, decide_eq_false h, decide_eq_true h2, Bool.not_true, Bool.not_false, cond_false, e4]
    · simp only [e1, e2, cond_true, Int.toNat_natCast, decide_eq_false hp, cond_false, e4]
  · show qf94L3b _ _ _ _ _ _ _ _ _ _ _ _ _ = _
    unfold qf94L3b
    simp
theorem guardsL4_eq {n : Nat} (l : List MvE) (hl : l.length ≤ 100) (seq : Int) (cur : Cu) : ∀ (d i : Nat), i + d = l.length → ∀ (P : List Page) (pins : List Int) (g : Int) (ret : List Int) (fr : List Bool) (rs : Nat → List Ret4) (inc : Nat → Int) (u : Nat) (G : List (List Bool)), WI n P pins g ret fr rs inc u → g ≤ i → shG G →
    (∀ k' c' : Nat, k' < 12 → c' < 6 → gd G k' c' = true → gOk pins ret fr k' c') →
    qf94L4 l (i : Int) pins g G (104 + 16 * (n : Int)) seq cur ret toL fr P = some (.inl ()) := by
  intro d
  induction d with
  | zero =>
    intro i hi P pins g ret fr rs inc u G W hg hG hI
    refine iter_done ?_
    show qf94L4b _ _ _ _ _ _ _ _ _ _ _ _ = _
    unfold qf94L4b
    have e1 : decide ((i : Int) < ((l.length : Nat) : Int)) = false := decide_eq_false (by omega)
    simp only [e1, cond_false]
  | succ d ih =>
    intro i hi P pins g ret fr rs inc u G W hg hG hI
    have hlt : i < l.length := by omega
    obtain ⟨P', pins', g', ret', fr', rs', inc', u', h1, h2, h3, h4, h5, h6, h7⟩ := do_any W (by omega) l[i] i seq cur
    have S : Mv pins pins' g g' ret ret' fr fr' := {
      pl' := h2.pl, p0 := h5, pb := fun c hc => by have := W.pb c hc; omega, pb' := fun c hc => by have := h2.pb c hc; omega
      r := h6, f := h7, ff' := h2.ff, rl := W.rl, rl' := h2.rl, fl := W.fl, fl' := h2.fl }
    obtain ⟨G2, j1, j2, j3⟩ := guardsL2_eq S h2 l (i : Int) (104 + 16 * (n : Int)) seq cur 12 0 rfl G hG (fun k' c' hk' hc' h => ⟨fun hh => absurd hh (by omega), fun _ => hI k' c' hk' hc' h⟩)
    have j4 := guardsL3_eq h2 l (i : Int) G2 (104 + 16 * (n : Int)) seq cur
    refine (iter_step ?_).trans (ih (i + 1) (by omega) P' pins' g' ret' fr' rs' inc' u' G2 h2 (by omega) j2 j3)
    show qf94L4b _ _ _ _ _ _ _ _ _ _ _ _ = _
    have hlm : lim = 2147483648 := rfl
    have e1 : decide ((i : Int) < ((l.length : Nat) : Int)) = true := decide_eq_true (by omega)
    have e2 : decide (0 + fr.length ≤ lim) = true := decide_eq_true (by rw [W.fl]; omega)
    have e3 : decide (0 + ret.length ≤ lim) = true := decide_eq_true (by rw [W.rl]; omega)
    have e4 : IntKind.wrap .i64 ((i : Int) + 1) = ((i + 1 : Nat) : Int) := by rw [i64w (by omega) (by omega)]; simp
    have e6 : ∀ x : MvE, List.getD l (Int.toNat (i : Int)) x = l[i] := fun x => by simp [List.getD, hlt]
    have j1' : qf94L2 l (i : Int) (0 : Int) pins' g' G fr ret (104 + 16 * (n : Int)) seq cur ret' toL fr' P' = _ := j1
    unfold qf94L4b
    simp only [e1, e2, e3, inR_nat hlt, cond_true, e6, h1, Option.bind_some, Bool.not_true, cond_false, List.nil_append, j1', j4, e4]
theorem epochGuards_pure (size : Int) (l : List MvE) (h0 : Wf (.int .i64) size) (h1 : Wf (.slice (.pair (.int .i64) (.pair (.int .i64) (.pair (.int .i64) .unit)))) l) : qf94 size l = some true := by
  unfold qf94
  by_cases hl : (80 : Int) < ((l.length : Nat) : Int)
  · simp only [decide_eq_true hl, cond_true, qf1_eq, Option.bind_some]
  · obtain ⟨n, P, inc, e1, W⟩ := lay_fine size
    have hr : ∀ k : Nat, k < 12 → List.getD (List.replicate 12 (List.replicate 6 false)) k (List.replicate 6 false) = List.replicate 6 false := fun k hk => by
      rw [List.getD_eq_getElem?_getD, List.getElem?_replicate]; split <;> rfl
    have hg : ∀ k c : Nat, k < 12 → c < 6 → gd (List.replicate 12 (List.replicate 6 false)) k c = false := fun k c hk hc => by
      unfold gd
      rw [hr k hk, List.getD_eq_getElem?_getD, List.getElem?_replicate]; split <;> rfl
    have hG : shG (List.replicate 12 (List.replicate 6 false)) := ⟨List.length_replicate, fun k hk => by rw [hr k hk]; exact List.length_replicate⟩
    have e2 := guardsL4_eq l (by omega) 0 cur0 l.length 0 (by omega) _ _ _ _ _ _ _ _ _ W (by omega) hG (fun k c hk hc h => by rw [hg k c hk hc] at h; cases h)
    have e2' : qf94L4 l (0 : Int) (List.replicate 6 (0 : Int)) 0 (List.replicate 12 (List.replicate 6 false)) (104 + 16 * (n : Int)) 0 cur0 (List.replicate 12 (-1 : Int)) toL (List.replicate 12 false) P = _ := e2
    have hlm : (lim : Int) = 2147483648 := rfl
    have d1 : ((decide ((0 : Int) ≤ ((12 : Nat) : Int)) && decide (((12 : Nat) : Int) ≤ ((12 : Nat) : Int))) && decide (((12 : Nat) : Int) ≤ (lim : Int))) = true := by rw [hlm]; decide
    simp only [decide_eq_false hl, cond_false, qf1_eq, Option.bind_some, Bool.not_true, e1, toL_len, d1, cond_true, e2', List.length_replicate]
end Go.Sx

