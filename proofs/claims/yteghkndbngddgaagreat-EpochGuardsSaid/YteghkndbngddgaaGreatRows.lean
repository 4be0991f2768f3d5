/-
  No cell of these rows narrows 'for every input' (looked for: loops, veiled, ifaces, maps, wideKeys, modest, calm, conditions, laid).
  DERIVED. THE GIVEN ROWS OF THIS SEAT. 7 by the template 'for every input the law returns true; each argument reads behind the call as it read before'; 0 by the template 'total and deterministic' (their statements: YteghkndbngddgaaGreatTotals.lean).
  GIVEN WITH THE SEED: the statements are not yours to turn. If you find one false, say at which input.
  Laid BY PROGRAM, IN A SANDBOX (cutbox-rows.mjs): the forced cells as the released guide's own fill.sh prints them over the translation ca2297a5b10e1fe2… (all of the seat's roots in one cut). By AI agents, Wed Nov 11 2026. No macro, syntax, notation, axiom, sorry.
-/
import Derived.Test.YteghkndbngddgaaGreatChecked
import GoSem.Claim
import GoSem.ClaimJoined
import GoSem.ClaimMapViews
import Derived.JoinedTies
import Derived.KernelRfl
namespace Go.Proofs.YteghkndbngddgaaGreat
/- THE CELL 'sum', in the pinned program and in every row, IS THE sha256 OF THE DUMP (.gsa) THAT YteghkndbngddgaaGreatProg.lean LOADS. Nothing in Lean hashes anything: it is a label: what it is worth is what the hold of that sum in a sandbox is worth. -/
noncomputable def Tryz.pinned : Pinned := { name := "yteghkndbngddgaagreat", sum := "ca2297a5b10e1fe212c2960dbfd168a109905f09980fa5f31581ac0f28226977", checked := Tryz.checked }
namespace Rows
def none {H : Type} : Left H := { results := [], args := [] }

/-- 'bodegalaw20.SegmentAcquires': WHATEVER THE INPUT: true; the input reads as it did. -/
def segmentAcquiresSpec : ChangeSpec := { name := "segmentAcquires", fn := fun _ => fun
  | [d1, d2, d3] => { results := [.lit (.bool true)], args := [d1, d2, d3] }
  | _ => none }
def segmentAcquiresRow : OpenClaim := { program := "yteghkndbngddgaagreat", sum := "ca2297a5b10e1fe212c2960dbfd168a109905f09980fa5f31581ac0f28226977", func := "bodega/bodegalaw20.SegmentAcquires", spec := "segmentAcquires", unfollowed := true, recurses := true, apart := false }
def SegmentAcquiresSaid : Prop := segmentAcquiresRow.holds Tryz.pinned (OpenSpec.ofChange segmentAcquiresSpec)

/-- ITS FALSE NEIGHBOUR: 'it returns false'. Refute it at one input. -/
def segmentAcquiresWrong : ChangeSpec := { name := "segmentAcquires", fn := fun _ => fun
  | [d1, d2, d3] => { results := [.lit (.bool false)], args := [d1, d2, d3] }
  | _ => none }
def SegmentAcquiresWrongFalsely : Prop := segmentAcquiresRow.holds Tryz.pinned (OpenSpec.ofChange segmentAcquiresWrong)

/-- 'bodegalaw20.SegmentSteal': WHATEVER THE INPUT: true; the input reads as it did. -/
def segmentStealSpec : ChangeSpec := { name := "segmentSteal", fn := fun _ => fun
  | [d1, d2, d3] => { results := [.lit (.bool true)], args := [d1, d2, d3] }
  | _ => none }
def segmentStealRow : OpenClaim := { program := "yteghkndbngddgaagreat", sum := "ca2297a5b10e1fe212c2960dbfd168a109905f09980fa5f31581ac0f28226977", func := "bodega/bodegalaw20.SegmentSteal", spec := "segmentSteal", unfollowed := true, recurses := true, apart := false }
def SegmentStealSaid : Prop := segmentStealRow.holds Tryz.pinned (OpenSpec.ofChange segmentStealSpec)

/-- ITS FALSE NEIGHBOUR: 'it returns false'. Refute it at one input. -/
def segmentStealWrong : ChangeSpec := { name := "segmentSteal", fn := fun _ => fun
  | [d1, d2, d3] => { results := [.lit (.bool false)], args := [d1, d2, d3] }
  | _ => none }
def SegmentStealWrongFalsely : Prop := segmentStealRow.holds Tryz.pinned (OpenSpec.ofChange segmentStealWrong)

/-- 'bodegalaw20.SegmentAllocates': WHATEVER THE INPUT: true; the input reads as it did. -/
def segmentAllocatesSpec : ChangeSpec := { name := "segmentAllocates", fn := fun _ => fun
  | [d1, d2, d3] => { results := [.lit (.bool true)], args := [d1, d2, d3] }
  | _ => none }
def segmentAllocatesRow : OpenClaim := { program := "yteghkndbngddgaagreat", sum := "ca2297a5b10e1fe212c2960dbfd168a109905f09980fa5f31581ac0f28226977", func := "bodega/bodegalaw20.SegmentAllocates", spec := "segmentAllocates", unfollowed := true, recurses := true, apart := false }
def SegmentAllocatesSaid : Prop := segmentAllocatesRow.holds Tryz.pinned (OpenSpec.ofChange segmentAllocatesSpec)

/-- ITS FALSE NEIGHBOUR: 'it returns false'. Refute it at one input. -/
def segmentAllocatesWrong : ChangeSpec := { name := "segmentAllocates", fn := fun _ => fun
  | [d1, d2, d3] => { results := [.lit (.bool false)], args := [d1, d2, d3] }
  | _ => none }
def SegmentAllocatesWrongFalsely : Prop := segmentAllocatesRow.holds Tryz.pinned (OpenSpec.ofChange segmentAllocatesWrong)

/-- 'bodegalaw20.SegmentFrees': WHATEVER THE INPUT: true; the input reads as it did. -/
def segmentFreesSpec : ChangeSpec := { name := "segmentFrees", fn := fun _ => fun
  | [d1, d2, d3, d4] => { results := [.lit (.bool true)], args := [d1, d2, d3, d4] }
  | _ => none }
def segmentFreesRow : OpenClaim := { program := "yteghkndbngddgaagreat", sum := "ca2297a5b10e1fe212c2960dbfd168a109905f09980fa5f31581ac0f28226977", func := "bodega/bodegalaw20.SegmentFrees", spec := "segmentFrees", unfollowed := true, recurses := true, apart := false }
def SegmentFreesSaid : Prop := segmentFreesRow.holds Tryz.pinned (OpenSpec.ofChange segmentFreesSpec)

/-- ITS FALSE NEIGHBOUR: 'it returns false'. Refute it at one input. -/
def segmentFreesWrong : ChangeSpec := { name := "segmentFrees", fn := fun _ => fun
  | [d1, d2, d3, d4] => { results := [.lit (.bool false)], args := [d1, d2, d3, d4] }
  | _ => none }
def SegmentFreesWrongFalsely : Prop := segmentFreesRow.holds Tryz.pinned (OpenSpec.ofChange segmentFreesWrong)

/-- 'bodegalaw26.EpochSteps': WHATEVER THE INPUT: true; the input reads as it did. -/
def epochStepsSpec : ChangeSpec := { name := "epochSteps", fn := fun _ => fun
  | [d1, d2, d3] => { results := [.lit (.bool true)], args := [d1, d2, d3] }
  | _ => none }
def epochStepsRow : OpenClaim := { program := "yteghkndbngddgaagreat", sum := "ca2297a5b10e1fe212c2960dbfd168a109905f09980fa5f31581ac0f28226977", func := "bodega/bodegalaw26.EpochSteps", spec := "epochSteps", unfollowed := true, recurses := true, apart := false }
def EpochStepsSaid : Prop := epochStepsRow.holds Tryz.pinned (OpenSpec.ofChange epochStepsSpec)

/-- ITS FALSE NEIGHBOUR: 'it returns false'. Refute it at one input. -/
def epochStepsWrong : ChangeSpec := { name := "epochSteps", fn := fun _ => fun
  | [d1, d2, d3] => { results := [.lit (.bool false)], args := [d1, d2, d3] }
  | _ => none }
def EpochStepsWrongFalsely : Prop := epochStepsRow.holds Tryz.pinned (OpenSpec.ofChange epochStepsWrong)

/-- 'bodegalaw26.EpochFrees': WHATEVER THE INPUT: true; the input reads as it did. -/
def epochFreesSpec : ChangeSpec := { name := "epochFrees", fn := fun _ => fun
  | [d1, d2] => { results := [.lit (.bool true)], args := [d1, d2] }
  | _ => none }
def epochFreesRow : OpenClaim := { program := "yteghkndbngddgaagreat", sum := "ca2297a5b10e1fe212c2960dbfd168a109905f09980fa5f31581ac0f28226977", func := "bodega/bodegalaw26.EpochFrees", spec := "epochFrees", unfollowed := true, recurses := true, apart := false }
def EpochFreesSaid : Prop := epochFreesRow.holds Tryz.pinned (OpenSpec.ofChange epochFreesSpec)

/-- ITS FALSE NEIGHBOUR: 'it returns false'. Refute it at one input. -/
def epochFreesWrong : ChangeSpec := { name := "epochFrees", fn := fun _ => fun
  | [d1, d2] => { results := [.lit (.bool false)], args := [d1, d2] }
  | _ => none }
def EpochFreesWrongFalsely : Prop := epochFreesRow.holds Tryz.pinned (OpenSpec.ofChange epochFreesWrong)

/-- 'bodegalaw26.EpochGuards': WHATEVER THE INPUT: true; the input reads as it did. -/
def epochGuardsSpec : ChangeSpec := { name := "epochGuards", fn := fun _ => fun
  | [d1, d2] => { results := [.lit (.bool true)], args := [d1, d2] }
  | _ => none }
def epochGuardsRow : OpenClaim := { program := "yteghkndbngddgaagreat", sum := "ca2297a5b10e1fe212c2960dbfd168a109905f09980fa5f31581ac0f28226977", func := "bodega/bodegalaw26.EpochGuards", spec := "epochGuards", unfollowed := true, recurses := true, apart := false }
def EpochGuardsSaid : Prop := epochGuardsRow.holds Tryz.pinned (OpenSpec.ofChange epochGuardsSpec)

/-- ITS FALSE NEIGHBOUR: 'it returns false'. Refute it at one input. -/
def epochGuardsWrong : ChangeSpec := { name := "epochGuards", fn := fun _ => fun
  | [d1, d2] => { results := [.lit (.bool false)], args := [d1, d2] }
  | _ => none }
def EpochGuardsWrongFalsely : Prop := epochGuardsRow.holds Tryz.pinned (OpenSpec.ofChange epochGuardsWrong)

/- THE SECOND FORM. 'bulk': how many values and letters a reading holds, each counted each time it is reached (what is shared counts as often as it is met; a slice's spare places count too). A statement '..UptoSaid' is the law's where the arguments, and the package variables that the reading takes, are together of bulk at most 1048576: NARROWER than '..Said'. Prove '..Said' where nothing that the law and all that it calls make is longer than what came in: it says more and counts as full. Else prove '..UptoSaid'. A law counts once. -/
mutual
def uptoBulk {H : Type} : DataW H → Nat
  | .lit (.string bytes) => bytes.length + 1
  | .lit _ => 1
  | .nil => 1
  | .ptr d => uptoBulk d + 1
  | .slice elems spare => uptoBulkAll elems + uptoBulkAll spare + 1
  | .agg parts => uptoBulkAll parts + 1
  | .iface _ d => uptoBulk d + 1
  | .map entries => uptoBulkEntries entries + 1
  | .held _ => 1
def uptoBulkAll {H : Type} : List (DataW H) → Nat
  | [] => 0
  | d :: r => uptoBulk d + uptoBulkAll r
def uptoBulkEntries {H : Type} : List (Lit × DataW H) → Nat
  | [] => 0
  | x :: r => uptoBulkEntry x + uptoBulkEntries r
def uptoBulkEntry {H : Type} : Lit × DataW H → Nat
  | (.string bytes, d) => bytes.length + uptoBulk d + 1
  | (_, d) => uptoBulk d + 1
 end
def uptoSmall : (H : Type) → List (DataW H) → Bool := fun _ ds => decide (uptoBulkAll ds ≤ 1048576)
def OpenSpec.upto (s : _root_.Go.ChangeSpec) : _root_.Go.OpenSpec := { _root_.Go.OpenSpec.ofChange s with cond := some uptoSmall }

/-- 'bodegalaw20.SegmentAcquires', WHERE WHAT IT READS IS OF BULK AT MOST 1048576: true; the input reads as it did. -/
def segmentAcquiresUptoRow : OpenClaim := { program := "yteghkndbngddgaagreat", sum := "ca2297a5b10e1fe212c2960dbfd168a109905f09980fa5f31581ac0f28226977", func := "bodega/bodegalaw20.SegmentAcquires", spec := "segmentAcquires", unfollowed := true, recurses := true, apart := false, narrowed := true }
def SegmentAcquiresUptoSaid : Prop := segmentAcquiresUptoRow.holds Tryz.pinned (OpenSpec.upto segmentAcquiresSpec)

/-- 'bodegalaw20.SegmentSteal', WHERE WHAT IT READS IS OF BULK AT MOST 1048576: true; the input reads as it did. -/
def segmentStealUptoRow : OpenClaim := { program := "yteghkndbngddgaagreat", sum := "ca2297a5b10e1fe212c2960dbfd168a109905f09980fa5f31581ac0f28226977", func := "bodega/bodegalaw20.SegmentSteal", spec := "segmentSteal", unfollowed := true, recurses := true, apart := false, narrowed := true }
def SegmentStealUptoSaid : Prop := segmentStealUptoRow.holds Tryz.pinned (OpenSpec.upto segmentStealSpec)

/-- 'bodegalaw20.SegmentAllocates', WHERE WHAT IT READS IS OF BULK AT MOST 1048576: true; the input reads as it did. -/
def segmentAllocatesUptoRow : OpenClaim := { program := "yteghkndbngddgaagreat", sum := "ca2297a5b10e1fe212c2960dbfd168a109905f09980fa5f31581ac0f28226977", func := "bodega/bodegalaw20.SegmentAllocates", spec := "segmentAllocates", unfollowed := true, recurses := true, apart := false, narrowed := true }
def SegmentAllocatesUptoSaid : Prop := segmentAllocatesUptoRow.holds Tryz.pinned (OpenSpec.upto segmentAllocatesSpec)

/-- 'bodegalaw20.SegmentFrees', WHERE WHAT IT READS IS OF BULK AT MOST 1048576: true; the input reads as it did. -/
def segmentFreesUptoRow : OpenClaim := { program := "yteghkndbngddgaagreat", sum := "ca2297a5b10e1fe212c2960dbfd168a109905f09980fa5f31581ac0f28226977", func := "bodega/bodegalaw20.SegmentFrees", spec := "segmentFrees", unfollowed := true, recurses := true, apart := false, narrowed := true }
def SegmentFreesUptoSaid : Prop := segmentFreesUptoRow.holds Tryz.pinned (OpenSpec.upto segmentFreesSpec)

/-- 'bodegalaw26.EpochSteps', WHERE WHAT IT READS IS OF BULK AT MOST 1048576: true; the input reads as it did. -/
def epochStepsUptoRow : OpenClaim := { program := "yteghkndbngddgaagreat", sum := "ca2297a5b10e1fe212c2960dbfd168a109905f09980fa5f31581ac0f28226977", func := "bodega/bodegalaw26.EpochSteps", spec := "epochSteps", unfollowed := true, recurses := true, apart := false, narrowed := true }
def EpochStepsUptoSaid : Prop := epochStepsUptoRow.holds Tryz.pinned (OpenSpec.upto epochStepsSpec)

/-- 'bodegalaw26.EpochFrees', WHERE WHAT IT READS IS OF BULK AT MOST 1048576: true; the input reads as it did. -/
def epochFreesUptoRow : OpenClaim := { program := "yteghkndbngddgaagreat", sum := "ca2297a5b10e1fe212c2960dbfd168a109905f09980fa5f31581ac0f28226977", func := "bodega/bodegalaw26.EpochFrees", spec := "epochFrees", unfollowed := true, recurses := true, apart := false, narrowed := true }
def EpochFreesUptoSaid : Prop := epochFreesUptoRow.holds Tryz.pinned (OpenSpec.upto epochFreesSpec)

/-- 'bodegalaw26.EpochGuards', WHERE WHAT IT READS IS OF BULK AT MOST 1048576: true; the input reads as it did. -/
def epochGuardsUptoRow : OpenClaim := { program := "yteghkndbngddgaagreat", sum := "ca2297a5b10e1fe212c2960dbfd168a109905f09980fa5f31581ac0f28226977", func := "bodega/bodegalaw26.EpochGuards", spec := "epochGuards", unfollowed := true, recurses := true, apart := false, narrowed := true }
def EpochGuardsUptoSaid : Prop := epochGuardsUptoRow.holds Tryz.pinned (OpenSpec.upto epochGuardsSpec)

end Rows
end Go.Proofs.YteghkndbngddgaaGreat
