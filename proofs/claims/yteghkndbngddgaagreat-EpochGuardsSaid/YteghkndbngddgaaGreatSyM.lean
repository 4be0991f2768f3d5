/- The arguments of a row, opened: what is read as data is data of the executor's; numbers in their ranges; the walk of a law. -/
import Derived.Test.YteghkndbngddgaaGreatSyL
import Derived.ChangeArms
import Derived.OpenShut
import Derived.ChangeShapes
import Derived.WideShapes
import Derived.ChangeOld
import Derived.Below
set_option linter.unusedVariables false
namespace Go.Sx
open Go.RowKit Go.ChangeShapes Go.WideShapes
def Wf : (t : Ty) → Val t → Prop
  | .int k, n => k.min ≤ n ∧ n ≤ k.max
  | .bool, _ => True
  | .str, s => s.size ≤ maxLen
  | .slice t, xs => xs.length ≤ maxLen ∧ ∀ x ∈ xs, Wf t x
  | .unit, _ => True
  | .pair a b, v => Wf a v.1 ∧ Wf b v.2
  | .arr n t, xs => xs.length = n ∧ ∀ x ∈ xs, Wf t x
  | .cell _, _ => False
def argOk : Ty → Bool
  | .cell _ => false
  | .pair a b => argOk a && argOk b
  | .arr _ t => argOk t
  | .slice t => argOk t && !(Nat.beq t.size 0)
  | _ => true
theorem Rep.wf {w : World} {F : Nat → Prop} : ∀ {t : Ty} {v : Val t} {cs : List Value}, Rep w F t v cs → Wf t v := by
  intro t
  induction t with
  | int k => intro v cs h; exact h.2
  | bool => intro v cs h; trivial
  | str => intro v cs h; exact h.2
  | slice t ih =>
    intro v cs h
    obtain ⟨a, l, c, _, h2, h3, _, h4⟩ := h
    refine ⟨by omega, fun x hx => ?_⟩
    rcases h4 with h4 | ⟨b, off, _, _, h5⟩
    · rw [h4] at hx; simp at hx
    · obtain ⟨i, hi, rfl⟩ := List.mem_iff_getElem.1 hx
      obtain ⟨ds, _, _, h6⟩ := h5 i hi
      have := ih h6
      rwa [List.getD, List.getElem?_eq_getElem hi] at this
  | unit => intro v cs h; trivial
  | pair a b iha ihb => intro v cs h; exact ⟨iha h.1, ihb h.2⟩
  | arr n t ih =>
    intro v cs h
    refine ⟨h.1, fun x hx => ?_⟩
    obtain ⟨i, hi, rfl⟩ := List.mem_iff_getElem.1 hx
    have := ih (h.2.2 i (by rw [← h.1]; exact hi))
    rwa [List.getD, List.getElem?_eq_getElem hi] at this
  | cell c => intro v cs h; exact h.elim
section
variable {H : Type} {enc : TypeId × Value → H} {P : Program} {w : World} {spare : Nat → Bool} {held : Bool} {tf : Nat → Option Ty}
theorem wf_range {k : IntKind} {n : Int} (h : (Lit.int k n : Lit).wf = true) : k.min ≤ n ∧ n ≤ k.max := by
  simp only [Lit.wf, Bool.and_eq_true, decide_eq_true_eq] at h
  exact h
theorem list_of {α : Type} (d : α) (n : Nat) (p : Nat → α → Prop) (h : ∀ i, i < n → ∃ x, p i x) : ∃ l : List α, l.length = n ∧ ∀ i, i < n → p i (l.getD i d) := by
  classical
  refine ⟨(List.range n).map fun i => if hi : i < n then Classical.choose (h i hi) else d, by simp, fun i hi => ?_⟩
  have : ((List.range n).map fun i => if hi : i < n then Classical.choose (h i hi) else d).getD i d = Classical.choose (h i hi) := by
    rw [List.getD, List.getElem?_map, List.getElem?_range hi]
    simp [hi]
  rw [this]
  exact Classical.choose_spec (h i hi)
theorem spot_none {a : Addr} {c : Value} (h : w.cell? a = some c) : a.spot = none := by
  unfold World.cell? at h
  split at h
  · split at h
    · cases h
    · rename_i e; simpa using e
  · cases h
theorem trod_rep (hE : ∀ t ty, tf t = some ty → TyOk P tf t ty) : ∀ (ty : Ty),
    (∀ (t fuel : Nat) (cs : List Value) (x : DataW H × List MemPlace), tf t = some ty → argOk ty = true → DataW.trod enc P w 0 spare held fuel t cs = some x → ∃ v : Val ty, Rep w (fun b => b < w.heap.size) ty v cs) ∧
    (∀ (fs : List Field) (off : Nat) (cs : List Value), fldsB tf fs off ty = true → argOk ty = true → cs.length = off + ty.size →
      (∀ f ∈ fs, ∃ (m : Nat) (y : DataW H × List MemPlace), DataW.trod enc P w 0 spare held m f.type ((cs.drop f.offset).take (P.cellsOf f.type)) = some y) → ∃ v : Val ty, Rep w (fun b => b < w.heap.size) ty v (cs.drop off)) := by
  intro ty
  induction ty with
  | int k =>
    refine ⟨fun t fuel cs x ht hp h => ?_, fun fs off cs h => by cases fs <;> simp [fldsB] at h⟩
    obtain ⟨d, hu, hd⟩ := (hE t _ ht).und
    cases d <;> simp [descB] at hd
    rw [ikEq_eq hd] at hu
    obtain ⟨n, rfl, _, hw⟩ := DataW.trod_int hu h
    exact ⟨n, rfl, (wf_range hw).1, (wf_range hw).2⟩
  | bool =>
    refine ⟨fun t fuel cs x ht hp h => ?_, fun fs off cs h => by cases fs <;> simp [fldsB] at h⟩
    obtain ⟨d, hu, hd⟩ := (hE t _ ht).und
    cases d <;> simp [descB] at hd
    obtain ⟨b, rfl, _⟩ := DataW.trod_bool hu h
    exact ⟨b, rfl⟩
  | str =>
    refine ⟨fun t fuel cs x ht hp h => ?_, fun fs off cs h => by cases fs <;> simp [fldsB] at h⟩
    obtain ⟨d, hu, hd⟩ := (hE t _ ht).und
    cases d <;> simp [descB] at hd
    obtain ⟨s, rfl, _, hs⟩ := DataW.trod_string hu h
    exact ⟨s, rfl, hs⟩
  | slice t ih =>
    refine ⟨fun t0 fuel cs x ht hp h => ?_, fun fs off cs h => by cases fs <;> simp [fldsB] at h⟩
    obtain ⟨d, hu, hd⟩ := (hE t0 _ ht).und
    cases d <;> simp [descB] at hd
    rename_i e
    have he := tfIs_eq hd
    have hsz : P.cellsOf e = t.size := cellsOf_ok (hE e _ he)
    simp only [argOk, Bool.and_eq_true] at hp
    rcases DataW.trod_slice hu h with ⟨rfl, _⟩ | ⟨a, len, cap, elems, rest, n, rfl, rfl, _, hb, hl, hc, hel, hall, _⟩
    · exact ⟨[], none, 0, 0, rfl, rfl, Nat.zero_le _, Nat.le_refl _, .inl rfl⟩
    · have key : ∀ i, i < len → ∃ v : Val t, ∃ ds : List Value, ds.length = t.size ∧ (∀ j, j < t.size → w.cell? ((a.add (i * t.size)).add j) = ds[j]?) ∧ Rep w (fun b => b < w.heap.size) t v ds := by
        intro i hi
        have h1 := hall i hi
        rw [hsz] at h1
        cases hcs : w.cells? 0 (a.add (i * t.size)) t.size with
        | none =>
          rw [hcs] at h1
          simp only [Option.bind_none] at h1
          rw [List.getElem?_eq_getElem (by omega)] at h1
          cases h1
        | some ds =>
          rw [hcs] at h1
          simp only [Option.bind_some] at h1
          rw [List.getElem?_eq_getElem (by omega)] at h1
          obtain ⟨v, hv⟩ := ih.1 e n ds _ he hp.1 h1
          obtain ⟨_, h2, h3⟩ := World.cells?_some hcs
          exact ⟨v, ds, h2, h3, hv⟩
      obtain ⟨xs, hx1, hx2⟩ := list_of (dflt t) len _ key
      refine ⟨xs, some a, len, cap, rfl, hx1.symm, by omega, hl, ?_⟩
      by_cases hx : xs = []
      · exact .inl hx
      · right
        have hpos : 0 < len := by
          cases xs with
          | nil => exact absurd rfl hx
          | cons y l => rw [← hx1]; simp
        have hz : 0 < t.size := by
          have := hp.2
          cases e : t.size with
          | zero => rw [e] at this; cases this
          | succ m => omega
        · obtain ⟨ds, k1, k2, k3⟩ := hx2 0 hpos
          have k4 := k2 0 (by omega)
          rw [List.getElem?_eq_getElem (by omega)] at k4
          have e0 : (a.add (0 * t.size)).add 0 = a := by simp [Addr.add]
          rw [e0] at k4
          have hsp := spot_none k4
          have hblk : a.block < w.heap.size := by
            by_cases hlt : a.block < w.heap.size
            · exact hlt
            · unfold World.cell? at k4
              rw [Array.getElem?_eq_none (by omega)] at k4
              cases k4
          have e1 : ∀ i j, (a.add (i * t.size)).add j = ⟨a.block, a.off + i * t.size + j, none⟩ := by
            intro i j
            obtain ⟨b, o, s⟩ := a
            simp only at hsp
            subst hsp
            unfold Addr.add
            by_cases h1 : i * t.size = 0 <;> by_cases h2 : j = 0 <;> simp [h1, h2]
          refine ⟨a.block, a.off, by obtain ⟨b, o, s⟩ := a; simp only at hsp; rw [hsp], hblk, fun i hi => ?_⟩
          obtain ⟨ds, m1, m2, m3⟩ := hx2 i (by omega)
          exact ⟨ds, m1, fun j hj => by rw [← e1]; exact m2 j hj, m3⟩
  | unit =>
    refine ⟨fun t fuel cs x ht hp h => ?_, fun fs off cs h hp hl hall => ⟨(), ?_⟩⟩
    · obtain ⟨d, hu, hd⟩ := (hE t _ ht).und
      cases d <;> simp [descB] at hd
      obtain ⟨_, _, _, _, hl, _⟩ := DataW.trod_struct hu h
      rw [cellsOf_ok (hE t _ ht)] at hl
      exact ⟨(), List.eq_nil_of_length_eq_zero hl⟩
    · simp only [Ty.size, Nat.add_zero] at hl
      show cs.drop off = []
      rw [← hl]; simp
  | pair a b iha ihb =>
    have hB : ∀ (fs : List Field) (off : Nat) (cs : List Value), fldsB tf fs off (.pair a b) = true → argOk (.pair a b) = true → cs.length = off + (Ty.pair a b).size →
      (∀ f ∈ fs, ∃ (m : Nat) (y : DataW H × List MemPlace), DataW.trod enc P w 0 spare held m f.type ((cs.drop f.offset).take (P.cellsOf f.type)) = some y) → ∃ v : Val (.pair a b), Rep w (fun b => b < w.heap.size) (.pair a b) v (cs.drop off) := by
      intro fs off cs h hp hl hall
      cases fs with
      | nil => simp [fldsB] at h
      | cons f fs =>
        simp only [fldsB, Bool.and_eq_true] at h
        obtain ⟨⟨⟨h1, h2⟩, _⟩, h4⟩ := h
        simp only [argOk, Bool.and_eq_true] at hp
        have hf := tfIs_eq h1
        have ho := Nat.eq_of_beq_eq_true h2
        obtain ⟨m, y, hm⟩ := hall f (by simp)
        rw [cellsOf_ok (hE _ _ hf), ho] at hm
        obtain ⟨v1, hv1⟩ := iha.1 _ _ _ _ hf hp.1 hm
        obtain ⟨v2, hv2⟩ := ihb.2 fs (off + a.size) cs h4 hp.2 (by simp only [Ty.size] at hl; omega) (fun g hg => hall g (by simp [hg]))
        refine ⟨(v1, v2), hv1, ?_⟩
        rw [List.drop_drop]
        exact hv2
    refine ⟨fun t fuel cs x ht hp h => ?_, hB⟩
    obtain ⟨d, hu, hd⟩ := (hE t _ ht).und
    cases d <;> simp [descB] at hd
    rename_i fs
    obtain ⟨xs, n, _, _, hl, hn, hall⟩ := DataW.trod_struct hu h
    rw [cellsOf_ok (hE t _ ht)] at hl
    have := hB fs.toList 0 cs hd hp (by rw [hl]; simp) (fun f hf => by
      obtain ⟨i, hi, rfl⟩ := List.mem_iff_getElem.1 hf
      have hi' : i < fs.size := by simpa using hi
      have h1 := hall i fs[i] (by simp [hi'])
      rw [List.getElem?_eq_getElem (by omega)] at h1
      exact ⟨n, _, by simpa using h1⟩)
    simpa using this
  | arr n t ih =>
    refine ⟨fun t0 fuel cs x ht hp h => ?_, fun fs off cs h => by cases fs <;> simp [fldsB] at h⟩
    obtain ⟨d, hu, hd⟩ := (hE t0 _ ht).und
    cases d <;> simp [descB] at hd
    obtain ⟨h1, h2⟩ := hd
    have he := tfIs_eq h2
    obtain ⟨xs, m, _, _, hl, hx, hall⟩ := DataW.trod_array hu h
    rw [cellsOf_ok (hE t0 _ ht)] at hl
    have key : ∀ i, i < n → ∃ v : Val t, Rep w (fun b => b < w.heap.size) t v ((cs.drop (i * t.size)).take t.size) := by
      intro i hi
      have h3 := hall i (by omega)
      rw [cellsOf_ok (hE _ _ he), List.getElem?_eq_getElem (by omega)] at h3
      exact ih.1 _ _ _ _ he hp h3
    obtain ⟨l, hl1, hl2⟩ := list_of (dflt t) n _ key
    exact ⟨l, hl1, by simpa [Ty.size] using hl, hl2⟩
  | cell c => exact ⟨fun t fuel cs x ht hp => by simp [argOk] at hp, fun fs off cs h => by cases fs <;> simp [fldsB] at h⟩
theorem arg_rep (hE : ∀ t ty, tf t = some ty → TyOk P tf t ty) {t : Nat} {ty : Ty} (ht : tf t = some ty) (hp : argOk ty = true) {base : Nat} {v : Value} {d : DataW H} {ps : List MemPlace}
    (hval : Value.okWide P w .any base t v) (hd : DataW.Trod enc P w 0 spare held t v d ps) : ∃ x : Val ty, Wf ty x ∧ Rep w (fun b => b < w.heap.size) ty x v.cells.toList ∧ v = pack ty v.cells.toList := by
  obtain ⟨fuel, hf⟩ := hd
  obtain ⟨x, hx⟩ := (trod_rep hE ty).1 t fuel _ _ ht hp hf
  refine ⟨x, hx.wf, hx, ?_⟩
  obtain ⟨e, hu, hde⟩ := (hE t _ ht).und
  cases ty with
  | int k =>
    cases e <;> simp [descB] at hde
    obtain ⟨n, rfl⟩ := okWide_int hu hval
    rfl
  | bool =>
    cases e <;> simp [descB] at hde
    obtain ⟨n, rfl⟩ := okWide_bool hu hval
    rfl
  | str =>
    cases e <;> simp [descB] at hde
    obtain ⟨n, rfl⟩ := okWide_string hu hval
    rfl
  | slice t =>
    cases e <;> simp [descB] at hde
    obtain ⟨a, l, c, rfl⟩ := okWide_slice hu hval
    rfl
  | unit =>
    cases e <;> simp [descB] at hde
    simp only [Value.okWide, hu] at hval
    obtain ⟨cs, rfl, _⟩ := hval
    simp [pack, Ty.isAgg, Value.cells]
  | pair a b =>
    cases e <;> simp [descB] at hde
    simp only [Value.okWide, hu] at hval
    obtain ⟨cs, rfl, _⟩ := hval
    simp [pack, Ty.isAgg, Value.cells]
  | arr n a =>
    cases e <;> simp [descB] at hde
    simp only [Value.okWide, hu] at hval
    obtain ⟨cs, rfl, _⟩ := hval
    simp [pack, Ty.isAgg, Value.cells]
  | cell c => cases hp
def topCx (W : World) : Cx := { w := W, F := fun b => b < W.heap.size, B := W.heap.size, A := fun _ => False, β := fun _ => ⟨0, 0, 0, true⟩, ob := fun _ => .gone }
theorem top_rel (W : World) : RelC (topCx W) 0 (fun _ => .dead) W ⟨fun _ => False, fun _ => none, fun b => b < W.heap.size, True⟩ { tmps := #[], defers := [] } :=
  { defers := rfl, size := rfl, slots := fun _ => .vdead, objs := fun _ => trivial, unalloc := fun _ _ => rfl, inj := fun i j hi => absurd rfl hi.1, own := fun i hi => absurd rfl hi.1
    fz := fun b hb => hb, below := fun _ _ _ => rfl, base := rfl, grown := Nat.le_refl _, os := rfl, tape := rfl, output := rfl, fix := fun i b hb => (by cases hb)
    old := fun b hb hlt => .inl hb
    mine := fun i hi => (by cases hi) }
theorem top_arg {W : World} {ty : Ty} {x : Val ty} {v : Value} (h : Rep W (fun b => b < W.heap.size) ty x v.cells.toList) (hv : v = pack ty v.cells.toList) : SRepV (topCx W) (.dat false ty x) v := by
  rw [hv]
  exact .one (.dat (h.mono (fun b hb => ⟨hb, fun e => by cases e⟩) (fun _ _ => rfl)))
theorem law_calls {f : FuncId} {ct : Ctr} (hc : CtrOk P f ct) {W : World} {args : List SV} {vs : List Value} (ha : SReps (topCx W) args vs) (hr : (ct args (fun _ => .gone) 0).val = some ⟨.dat true .bool true, []⟩) :
    Calls P f vs.toArray W fun e W' => e = .returned (.bool true) ∧ Below W.heap.size W W' := by
  refine Calls.mono (hc.call (topCx W) 0 _ W _ _ (top_rel W) args vs ha 0 (fun i _ _ h => h) _ hr) ?_
  rintro e w' ⟨c', v, rfl, rfl, h, _, hv, _⟩
  refine ⟨?_, ?_⟩
  · cases hv with
    | one hv => cases hv with | dat hv => rw [show _ = _ from hv]; rfl
  · exact ⟨h.os, h.tape, h.output, by have := h.grown; rw [h.base] at this; exact this, fun k hk => h.below k (by rw [h.base]; exact hk) (fun e => e)⟩
end
end Go.Sx
