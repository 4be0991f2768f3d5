/- The symbolic executor's meaning: the program's types; loads and stores. -/
import Derived.Test.YteghkndbngddgaaGreatSxE
import Derived.Laws.Cells
import Derived.Laws.CopyRow
import Derived.ChangeKeysEq
set_option linter.unusedVariables false
namespace Go.Sx
open Go.RowKit
def vEq : Value → Value → Bool
  | .int k n, .int j m => ikEq k j && decide (n = m)
  | .bool a, .bool b => a == b
  | .string a, .string b => a.size == 0 && b.size == 0
  | .slice none 0 0, .slice none 0 0 => true
  | .pointer none, .pointer none => true
  | .map none, .map none => true
  | .nilFunc, .nilFunc => true
  | _, _ => false
theorem ba_empty {a : ByteArray} (h : a.size = 0) : a = ByteArray.empty := by
  cases a with | mk d => simp [ByteArray.size] at h; subst h; rfl
theorem vEq_eq {a b : Value} (h : vEq a b = true) : a = b := by
  unfold vEq at h
  split at h <;> simp at h
  · rw [ikEq_eq h.1, h.2]
  · rw [h]
  · rw [h.1, h.2]
  all_goals rfl
def vsEq : List Value → List Value → Bool
  | [], [] => true
  | a :: l, b :: m => vEq a b && vsEq l m
  | _, _ => false
theorem vsEq_eq : ∀ {l m : List Value}, vsEq l m = true → l = m
  | [], [], _ => rfl
  | a :: l, b :: m, h => by simp [vsEq] at h; rw [vEq_eq h.1, vsEq_eq h.2]
  | [], _ :: _, h => by simp [vsEq] at h
  | _ :: _, [], h => by simp [vsEq] at h
def repl {α : Type} (n : Nat) (l : List α) : List α := match n with
  | 0 => []
  | n + 1 => l ++ repl n l
def zcells : Ty → List Value
  | .int k => [.int k 0]
  | .bool => [.bool false]
  | .str => [.string ByteArray.empty]
  | .slice _ => [.slice none 0 0]
  | .unit => []
  | .pair a b => zcells a ++ zcells b
  | .arr n t => repl n (zcells t)
  | .cell .ptr => [.pointer none]
  | .cell .map => [.map none]
  | .cell .func => [.nilFunc]
def tfIs (tf : Nat → Option Ty) (t : Nat) (ty : Ty) : Bool := match tf t with
  | some u => tyEq u ty
  | none => false
theorem tfIs_eq {tf : Nat → Option Ty} {t : Nat} {ty : Ty} (h : tfIs tf t ty = true) : tf t = some ty := by
  unfold tfIs at h
  split at h
  · rename_i e; rw [e, tyEq_eq h]
  · cases h
def fldsB (tf : Nat → Option Ty) : List Field → Nat → Ty → Bool
  | [], _, .unit => true
  | f :: l, off, .pair a b => tfIs tf f.type a && Nat.beq f.offset off && decide (f.name ≠ "_") && fldsB tf l (off + a.size) b
  | _, _, _ => false
def descB (tf : Nat → Option Ty) : TypeDesc → Ty → Bool
  | .int k, .int j => ikEq k j
  | .bool, .bool | .string, .str => true
  | .slice e, .slice t => tfIs tf e t
  | .array n e, .arr m t => Nat.beq n m && tfIs tf e t
  | .struct fs, .unit => fldsB tf fs.toList 0 .unit
  | .struct fs, .pair a b => fldsB tf fs.toList 0 (.pair a b)
  | .pointer _, .cell .ptr | .map _ _, .cell .map | .func _ _ _, .cell .func => true
  | _, _ => false
def tyB (P : Program) (tf : Nat → Option Ty) (t : Nat) (ty : Ty) : Bool :=
  (match P.info? t with
  | some i => Nat.beq i.size ty.size && Nat.ble i.bytes 32768 && (match i.zero with
    | some z => vsEq z.cells.toList (zcells ty) && (match z with
      | .agg _ => ty.isAgg
      | _ => !ty.isAgg)
    | none => false)
  | none => false) &&
  (match P.underlying t with
  | some d => descB tf d ty
  | none => false) && (!ty.isAgg || (!P.stoodInHeld t && !P.eqGuardType P.depth t))
structure TyOk (P : Program) (tf : Nat → Option Ty) (t : Nat) (ty : Ty) : Prop where
  info : ∃ i, P.info? t = some i ∧ i.size = ty.size ∧ i.bytes ≤ 32768 ∧ i.zero = some (pack ty (zcells ty))
  und : ∃ d, P.underlying t = some d ∧ descB tf d ty = true
  eqs : ty.isAgg = true → P.stoodInHeld t = false ∧ P.eqGuardType P.depth t = false
theorem TyOk.of {P : Program} {tf : Nat → Option Ty} {t : Nat} {ty : Ty} (h : tyB P tf t ty = true) : TyOk P tf t ty := by
  unfold tyB at h
  rw [Bool.and_eq_true, Bool.and_eq_true] at h
  obtain ⟨⟨h1, h2⟩, h3⟩ := h
  refine ⟨?_, ?_, fun ha => by rw [ha] at h3; simpa using h3⟩
  · cases hi : P.info? t with
    | none => rw [hi] at h1; cases h1
    | some i =>
      rw [hi] at h1
      simp only [Bool.and_eq_true] at h1
      obtain ⟨⟨h4, h5⟩, h6⟩ := h1
      refine ⟨i, rfl, Nat.eq_of_beq_eq_true h4, Nat.le_of_ble_eq_true h5, ?_⟩
      cases hz : i.zero with
      | none => rw [hz] at h6; cases h6
      | some z =>
        rw [hz] at h6
        simp only [Bool.and_eq_true] at h6
        obtain ⟨h7, h8⟩ := h6
        have h7 := vsEq_eq h7
        unfold pack
        cases z with
        | agg cs => simp at h8; rw [h8, ← h7]; simp [Value.cells]
        | _ =>
          simp at h8
          rw [h8, ← h7]
          simp [Value.cells]
  · cases hd : P.underlying t with
    | none => rw [hd] at h2; cases h2
    | some d => rw [hd] at h2; exact ⟨d, rfl, h2⟩
section
variable {P : Program} {tf : Nat → Option Ty} {t : Nat} {ty : Ty} {w : World}
theorem TyOk.run_sizeOf (h : TyOk P tf t ty) : (sizeOf t).run P w = .ok ty.size w := by
  obtain ⟨i, hi, hs, _⟩ := h.info
  simp [sizeOf, typeInfo, hi, hs]
theorem TyOk.run_zero (h : TyOk P tf t ty) : (zeroValue t).run P w = .ok (pack ty (zcells ty)) w := by
  obtain ⟨i, hi, _, _, hz⟩ := h.info
  simp [zeroValue, typeInfo, hi, hz]
theorem TyOk.run_bytes (h : TyOk P tf t ty) : ∃ i, (typeInfo t).run P w = .ok i w ∧ i.bytes ≤ 32768 := by
  obtain ⟨i, hi, _, hb, _⟩ := h.info
  exact ⟨i, by simp [typeInfo, hi], hb⟩
theorem TyOk.run_isAgg (h : TyOk P tf t ty) : (isAgg t).run P w = .ok ty.isAgg w := by
  obtain ⟨d, hd, hb⟩ := h.und
  simp only [isAgg, underlying, Sem.run_bind, run_program, Result.andThen_ok, hd, Sem.run_pure]
  unfold descB at hb
  split at hb <;> first | (cases hb; done) | (simp [Ty.isAgg])
theorem TyOk.und_slice (h : TyOk P tf t (.slice ty)) : ∃ e, P.underlying t = some (.slice e) ∧ tf e = some ty := by
  obtain ⟨d, hd, hb⟩ := h.und
  cases d <;> simp [descB] at hb
  exact ⟨_, hd, tfIs_eq hb⟩
theorem TyOk.und_arr {n : Nat} (h : TyOk P tf t (.arr n ty)) : ∃ e, P.underlying t = some (.array n e) ∧ tf e = some ty := by
  obtain ⟨d, hd, hb⟩ := h.und
  cases d <;> simp [descB] at hb
  exact ⟨_, by rw [hd, hb.1], tfIs_eq hb.2⟩
theorem TyOk.und_pair {a b : Ty} (h : TyOk P tf t (.pair a b)) : ∃ fs, P.underlying t = some (.struct fs) ∧ fldsB tf fs.toList 0 (.pair a b) = true := by
  obtain ⟨d, hd, hb⟩ := h.und
  cases d <;> simp [descB] at hb
  exact ⟨_, hd, hb⟩
theorem TyOk.und_int {k : IntKind} (h : TyOk P tf t (.int k)) : P.underlying t = some (.int k) := by
  obtain ⟨d, hd, hb⟩ := h.und
  cases d <;> simp [descB] at hb
  rw [hd, ikEq_eq hb]
theorem fldsB_get : ∀ {fs : List Field} {off : Nat} {u : Ty}, fldsB tf fs off u = true → ∀ {i o : Nat} {z : Ty}, fldT u i = some (o, z) →
    ∃ f, fs[i]? = some f ∧ f.offset = off + o ∧ tf f.type = some z
  | [], off, u, h, i, o, z, ho => by
    cases u <;> simp [fldsB] at h
    simp [fldT] at ho
  | f :: l, off, u, h, i, o, z, ho => by
    cases u <;> simp [fldsB] at h
    rename_i a b
    obtain ⟨⟨⟨h1, h2⟩, _⟩, h4⟩ := h
    cases i with
    | zero =>
      simp [fldT] at ho
      exact ⟨f, rfl, by omega, by rw [tfIs_eq h1, ho.2]⟩
    | succ i =>
      simp only [fldT] at ho
      split at ho
      · rename_i o' t' e
        simp at ho
        obtain ⟨g, hg, h5, h6⟩ := fldsB_get h4 e
        exact ⟨g, by simpa using hg, by omega, by rw [h6, ho.2]⟩
      · cases ho
theorem add_at (b off j : Nat) : (⟨b, off, none⟩ : Addr).add j = ⟨b, off + j, none⟩ := by
  unfold Addr.add; split <;> simp_all
theorem run_loadVar (h : TyOk P tf t ty) {b off : Nat} {ds : List Value} (hl : ds.length = ty.size) (hc : ∀ j, j < ty.size → w.cell? ⟨b, off + j, none⟩ = ds[j]?) :
    (loadVar t ⟨b, off, none⟩).run P w = .ok (pack ty ds) w := by
  simp only [loadVar, Sem.run_bind, h.run_isAgg, Result.andThen_ok]
  unfold pack
  cases ha : ty.isAgg with
  | true =>
    have := run_loadCells_list (P := P) w ⟨b, off, none⟩ ds (fun j v hv => by
      rw [add_at]
      have hj : j < ds.length := (List.getElem?_eq_some_iff.1 hv).1
      rw [hc j (by omega), hv])
    rw [hl] at this
    simp [h.run_sizeOf, this]
  | false =>
    have h1 : ty.size = 1 := by cases ty <;> simp_all [Ty.isAgg, Ty.size]
    match ds, hl with
    | [v], _ =>
      have h0 := hc 0 (by omega)
      simp only [Nat.add_zero] at h0
      simp [h0]
    | [], hl => simp [h1] at hl
    | _ :: _ :: _, hl => simp [h1] at hl
theorem pack_cells {cs : List Value} (hl : cs.length = ty.size) (h1 : ∀ v ∈ cs, v.oneCell' = true) : (pack ty cs).cells = cs.toArray := by
  unfold pack
  cases ha : ty.isAgg with
  | true => rfl
  | false =>
    have hs : ty.size = 1 := by cases ty <;> simp_all [Ty.isAgg, Ty.size]
    match cs, hl with
    | [v], _ =>
      have := h1 v (by simp)
      cases v <;> simp_all [Value.cells, Value.oneCell']
    | [], hl => simp [hs] at hl
    | _ :: _ :: _, hl => simp [hs] at hl
theorem run_storeVar (h : TyOk P tf t ty) {g o : Nat} {cs : List Value} (hl : cs.length = ty.size) (h1 : ∀ v ∈ cs, v.oneCell' = true) {cur : Array Value} {e : TypeId}
    (hg : w.heap[g]? = some (.cells cur e (0, 0))) (hf : o + ty.size ≤ cur.size) :
    (storeVar t ⟨g, o, none⟩ (pack ty cs)).run P w = .ok () (w.setRow g (cur.toList.take o ++ cs ++ cur.toList.drop (o + cs.length)).toArray) := by
  have hp := pack_cells hl h1
  simp only [storeVar, Sem.run_bind, h.run_sizeOf, Result.andThen_ok, hp]
  have := run_storeCells_at P g o e cs 0 cur w hg (by omega) h1
  simp only [Nat.add_zero] at this
  simp [hl] at this ⊢
  exact this
end
end Go.Sx
