/-
  No cell of these rows narrows 'for every input' (looked for: loops, veiled, ifaces, maps, wideKeys, modest, calm, conditions, laid).
  DERIVED. THE GIVEN ROWS OF THIS SEAT. 7 by the template 'for every input the law returns true; each argument reads behind the call as it read before'; 0 by the template 'total and deterministic' (their statements: YteghkndbngddgaaTotals.lean).
  GIVEN WITH THE SEED: the statements are not yours to turn. If you find one false, say at which input.
  Laid BY PROGRAM, IN A SANDBOX (cutbox-rows.mjs): the forced cells as the released guide's own fill.sh prints them over the translation e1e63bafcbcc8ac6… (all of the seat's roots in one cut). By AI agents, Wed Nov 11 2026. No macro, syntax, notation, axiom, sorry.
-/
import Derived.Test.YteghkndbngddgaaChecked
import GoSem.Claim
import GoSem.ClaimJoined
import GoSem.ClaimMapViews
import Derived.JoinedTies
import Derived.KernelRfl
namespace Go.Proofs.Yteghkndbngddgaa
/- THE CELL 'sum', in the pinned program and in every row, IS THE sha256 OF THE DUMP (.gsa) THAT YteghkndbngddgaaProg.lean LOADS. Nothing in Lean hashes anything: it is a label: what it is worth is what the hold of that sum in a sandbox is worth. -/
noncomputable def Try.pinned : Pinned := { name := "yteghkndbngddgaa", sum := "e1e63bafcbcc8ac657a035b2dcb2424f998b8009dec5ded618580a0810acc3fb", checked := Try.checked }
namespace Rows
def none {H : Type} : Left H := { results := [], args := [] }

/-- 'bodegalaw26.EpochPages': WHATEVER THE INPUT: true; the input reads as it did. -/
def epochPagesSpec : ChangeSpec := { name := "epochPages", fn := fun _ => fun
  | [d1, d2, d3, d4, d5] => { results := [.lit (.bool true)], args := [d1, d2, d3, d4, d5] }
  | _ => none }
def epochPagesRow : OpenClaim := { program := "yteghkndbngddgaa", sum := "e1e63bafcbcc8ac657a035b2dcb2424f998b8009dec5ded618580a0810acc3fb", func := "bodega/bodegalaw26.EpochPages", spec := "epochPages", apart := false }
def EpochPagesSaid : Prop := epochPagesRow.holds Try.pinned (OpenSpec.ofChange epochPagesSpec)

/-- ITS FALSE NEIGHBOUR: 'it returns false'. Refute it at one input. -/
def epochPagesWrong : ChangeSpec := { name := "epochPages", fn := fun _ => fun
  | [d1, d2, d3, d4, d5] => { results := [.lit (.bool false)], args := [d1, d2, d3, d4, d5] }
  | _ => none }
def EpochPagesWrongFalsely : Prop := epochPagesRow.holds Try.pinned (OpenSpec.ofChange epochPagesWrong)

/-- 'bodegalaw20.SegmentPages': WHATEVER THE INPUT: true; the input reads as it did. -/
def segmentPagesSpec : ChangeSpec := { name := "segmentPages", fn := fun _ => fun
  | [d1, d2, d3, d4] => { results := [.lit (.bool true)], args := [d1, d2, d3, d4] }
  | _ => none }
def segmentPagesRow : OpenClaim := { program := "yteghkndbngddgaa", sum := "e1e63bafcbcc8ac657a035b2dcb2424f998b8009dec5ded618580a0810acc3fb", func := "bodega/bodegalaw20.SegmentPages", spec := "segmentPages", unfollowed := true, recurses := true, apart := false }
def SegmentPagesSaid : Prop := segmentPagesRow.holds Try.pinned (OpenSpec.ofChange segmentPagesSpec)

/-- ITS FALSE NEIGHBOUR: 'it returns false'. Refute it at one input. -/
def segmentPagesWrong : ChangeSpec := { name := "segmentPages", fn := fun _ => fun
  | [d1, d2, d3, d4] => { results := [.lit (.bool false)], args := [d1, d2, d3, d4] }
  | _ => none }
def SegmentPagesWrongFalsely : Prop := segmentPagesRow.holds Try.pinned (OpenSpec.ofChange segmentPagesWrong)

/-- 'bodegalaw20.SegmentRound': WHATEVER THE INPUT: true; the input reads as it did. -/
def segmentRoundSpec : ChangeSpec := { name := "segmentRound", fn := fun _ => fun
  | [d1, d2, d3, d4] => { results := [.lit (.bool true)], args := [d1, d2, d3, d4] }
  | _ => none }
def segmentRoundRow : OpenClaim := { program := "yteghkndbngddgaa", sum := "e1e63bafcbcc8ac657a035b2dcb2424f998b8009dec5ded618580a0810acc3fb", func := "bodega/bodegalaw20.SegmentRound", spec := "segmentRound", unfollowed := true, recurses := true, apart := false }
def SegmentRoundSaid : Prop := segmentRoundRow.holds Try.pinned (OpenSpec.ofChange segmentRoundSpec)

/-- ITS FALSE NEIGHBOUR: 'it returns false'. Refute it at one input. -/
def segmentRoundWrong : ChangeSpec := { name := "segmentRound", fn := fun _ => fun
  | [d1, d2, d3, d4] => { results := [.lit (.bool false)], args := [d1, d2, d3, d4] }
  | _ => none }
def SegmentRoundWrongFalsely : Prop := segmentRoundRow.holds Try.pinned (OpenSpec.ofChange segmentRoundWrong)

/-- 'bodegalaw20.SegmentLines': WHATEVER THE INPUT: true; the input reads as it did. -/
def segmentLinesSpec : ChangeSpec := { name := "segmentLines", fn := fun _ => fun
  | [d1, d2, d3, d4] => { results := [.lit (.bool true)], args := [d1, d2, d3, d4] }
  | _ => none }
def segmentLinesRow : OpenClaim := { program := "yteghkndbngddgaa", sum := "e1e63bafcbcc8ac657a035b2dcb2424f998b8009dec5ded618580a0810acc3fb", func := "bodega/bodegalaw20.SegmentLines", spec := "segmentLines", unfollowed := true, recurses := true, apart := false }
def SegmentLinesSaid : Prop := segmentLinesRow.holds Try.pinned (OpenSpec.ofChange segmentLinesSpec)

/-- ITS FALSE NEIGHBOUR: 'it returns false'. Refute it at one input. -/
def segmentLinesWrong : ChangeSpec := { name := "segmentLines", fn := fun _ => fun
  | [d1, d2, d3, d4] => { results := [.lit (.bool false)], args := [d1, d2, d3, d4] }
  | _ => none }
def SegmentLinesWrongFalsely : Prop := segmentLinesRow.holds Try.pinned (OpenSpec.ofChange segmentLinesWrong)

/-- 'bodegalaw20.SegmentMerges': WHATEVER THE INPUT: true; the input reads as it did. -/
def segmentMergesSpec : ChangeSpec := { name := "segmentMerges", fn := fun _ => fun
  | [d1, d2, d3] => { results := [.lit (.bool true)], args := [d1, d2, d3] }
  | _ => none }
def segmentMergesRow : OpenClaim := { program := "yteghkndbngddgaa", sum := "e1e63bafcbcc8ac657a035b2dcb2424f998b8009dec5ded618580a0810acc3fb", func := "bodega/bodegalaw20.SegmentMerges", spec := "segmentMerges", unfollowed := true, recurses := true, apart := false }
def SegmentMergesSaid : Prop := segmentMergesRow.holds Try.pinned (OpenSpec.ofChange segmentMergesSpec)

/-- ITS FALSE NEIGHBOUR: 'it returns false'. Refute it at one input. -/
def segmentMergesWrong : ChangeSpec := { name := "segmentMerges", fn := fun _ => fun
  | [d1, d2, d3] => { results := [.lit (.bool false)], args := [d1, d2, d3] }
  | _ => none }
def SegmentMergesWrongFalsely : Prop := segmentMergesRow.holds Try.pinned (OpenSpec.ofChange segmentMergesWrong)

/-- 'bodegalaw20.SegmentWhole': WHATEVER THE INPUT: true; the input reads as it did. -/
def segmentWholeSpec : ChangeSpec := { name := "segmentWhole", fn := fun _ => fun
  | [d1, d2, d3] => { results := [.lit (.bool true)], args := [d1, d2, d3] }
  | _ => none }
def segmentWholeRow : OpenClaim := { program := "yteghkndbngddgaa", sum := "e1e63bafcbcc8ac657a035b2dcb2424f998b8009dec5ded618580a0810acc3fb", func := "bodega/bodegalaw20.SegmentWhole", spec := "segmentWhole", unfollowed := true, recurses := true, apart := false }
def SegmentWholeSaid : Prop := segmentWholeRow.holds Try.pinned (OpenSpec.ofChange segmentWholeSpec)

/-- ITS FALSE NEIGHBOUR: 'it returns false'. Refute it at one input. -/
def segmentWholeWrong : ChangeSpec := { name := "segmentWhole", fn := fun _ => fun
  | [d1, d2, d3] => { results := [.lit (.bool false)], args := [d1, d2, d3] }
  | _ => none }
def SegmentWholeWrongFalsely : Prop := segmentWholeRow.holds Try.pinned (OpenSpec.ofChange segmentWholeWrong)

/-- 'bodegalaw20.SegmentOnce': WHATEVER THE INPUT: true; the input reads as it did. -/
def segmentOnceSpec : ChangeSpec := { name := "segmentOnce", fn := fun _ => fun
  | [d1, d2] => { results := [.lit (.bool true)], args := [d1, d2] }
  | _ => none }
def segmentOnceRow : OpenClaim := { program := "yteghkndbngddgaa", sum := "e1e63bafcbcc8ac657a035b2dcb2424f998b8009dec5ded618580a0810acc3fb", func := "bodega/bodegalaw20.SegmentOnce", spec := "segmentOnce", unfollowed := true, recurses := true, apart := false }
def SegmentOnceSaid : Prop := segmentOnceRow.holds Try.pinned (OpenSpec.ofChange segmentOnceSpec)

/-- ITS FALSE NEIGHBOUR: 'it returns false'. Refute it at one input. -/
def segmentOnceWrong : ChangeSpec := { name := "segmentOnce", fn := fun _ => fun
  | [d1, d2] => { results := [.lit (.bool false)], args := [d1, d2] }
  | _ => none }
def SegmentOnceWrongFalsely : Prop := segmentOnceRow.holds Try.pinned (OpenSpec.ofChange segmentOnceWrong)

/- THE SECOND FORM. 'bulk': how many values and letters a reading holds, each counted each time it is reached (what is shared counts as often as it is met; a slice's spare places count too). A statement '..UptoSaid' is the law's where the arguments, and the package variables that the reading takes, are together of bulk at most 1048576: NARROWER than '..Said'. Prove '..Said' where nothing that the law and all that it calls make is longer than what came in: it says more and counts as full. Else prove '..UptoSaid'. A law counts once. -/
mutual
def uptoBulk {H : Type} : DataW H → Nat
  | .lit (.string bytes) => bytes.length + 1
  | .lit _ => 1
  | .nil => 1
  | .ptr d => uptoBulk d + 1
  | .slice elems spare => uptoBulkAll elems + uptoBulkAll spare + 1
  | .agg parts => uptoBulkAll parts + 1
  | .iface _ d => uptoBulk d + 1
  | .map entries => uptoBulkEntries entries + 1
  | .held _ => 1
def uptoBulkAll {H : Type} : List (DataW H) → Nat
  | [] => 0
  | d :: r => uptoBulk d + uptoBulkAll r
def uptoBulkEntries {H : Type} : List (Lit × DataW H) → Nat
  | [] => 0
  | x :: r => uptoBulkEntry x + uptoBulkEntries r
def uptoBulkEntry {H : Type} : Lit × DataW H → Nat
  | (.string bytes, d) => bytes.length + uptoBulk d + 1
  | (_, d) => uptoBulk d + 1
 end
def uptoSmall : (H : Type) → List (DataW H) → Bool := fun _ ds => decide (uptoBulkAll ds ≤ 1048576)
def OpenSpec.upto (s : _root_.Go.ChangeSpec) : _root_.Go.OpenSpec := { _root_.Go.OpenSpec.ofChange s with cond := some uptoSmall }

/-- 'bodegalaw26.EpochPages', WHERE WHAT IT READS IS OF BULK AT MOST 1048576: true; the input reads as it did. -/
def epochPagesUptoRow : OpenClaim := { program := "yteghkndbngddgaa", sum := "e1e63bafcbcc8ac657a035b2dcb2424f998b8009dec5ded618580a0810acc3fb", func := "bodega/bodegalaw26.EpochPages", spec := "epochPages", apart := false, narrowed := true }
def EpochPagesUptoSaid : Prop := epochPagesUptoRow.holds Try.pinned (OpenSpec.upto epochPagesSpec)

/-- 'bodegalaw20.SegmentPages', WHERE WHAT IT READS IS OF BULK AT MOST 1048576: true; the input reads as it did. -/
def segmentPagesUptoRow : OpenClaim := { program := "yteghkndbngddgaa", sum := "e1e63bafcbcc8ac657a035b2dcb2424f998b8009dec5ded618580a0810acc3fb", func := "bodega/bodegalaw20.SegmentPages", spec := "segmentPages", unfollowed := true, recurses := true, apart := false, narrowed := true }
def SegmentPagesUptoSaid : Prop := segmentPagesUptoRow.holds Try.pinned (OpenSpec.upto segmentPagesSpec)

/-- 'bodegalaw20.SegmentRound', WHERE WHAT IT READS IS OF BULK AT MOST 1048576: true; the input reads as it did. -/
def segmentRoundUptoRow : OpenClaim := { program := "yteghkndbngddgaa", sum := "e1e63bafcbcc8ac657a035b2dcb2424f998b8009dec5ded618580a0810acc3fb", func := "bodega/bodegalaw20.SegmentRound", spec := "segmentRound", unfollowed := true, recurses := true, apart := false, narrowed := true }
def SegmentRoundUptoSaid : Prop := segmentRoundUptoRow.holds Try.pinned (OpenSpec.upto segmentRoundSpec)

/-- 'bodegalaw20.SegmentLines', WHERE WHAT IT READS IS OF BULK AT MOST 1048576: true; the input reads as it did. -/
def segmentLinesUptoRow : OpenClaim := { program := "yteghkndbngddgaa", sum := "e1e63bafcbcc8ac657a035b2dcb2424f998b8009dec5ded618580a0810acc3fb", func := "bodega/bodegalaw20.SegmentLines", spec := "segmentLines", unfollowed := true, recurses := true, apart := false, narrowed := true }
def SegmentLinesUptoSaid : Prop := segmentLinesUptoRow.holds Try.pinned (OpenSpec.upto segmentLinesSpec)

/-- 'bodegalaw20.SegmentMerges', WHERE WHAT IT READS IS OF BULK AT MOST 1048576: true; the input reads as it did. -/
def segmentMergesUptoRow : OpenClaim := { program := "yteghkndbngddgaa", sum := "e1e63bafcbcc8ac657a035b2dcb2424f998b8009dec5ded618580a0810acc3fb", func := "bodega/bodegalaw20.SegmentMerges", spec := "segmentMerges", unfollowed := true, recurses := true, apart := false, narrowed := true }
def SegmentMergesUptoSaid : Prop := segmentMergesUptoRow.holds Try.pinned (OpenSpec.upto segmentMergesSpec)

/-- 'bodegalaw20.SegmentWhole', WHERE WHAT IT READS IS OF BULK AT MOST 1048576: true; the input reads as it did. -/
def segmentWholeUptoRow : OpenClaim := { program := "yteghkndbngddgaa", sum := "e1e63bafcbcc8ac657a035b2dcb2424f998b8009dec5ded618580a0810acc3fb", func := "bodega/bodegalaw20.SegmentWhole", spec := "segmentWhole", unfollowed := true, recurses := true, apart := false, narrowed := true }
def SegmentWholeUptoSaid : Prop := segmentWholeUptoRow.holds Try.pinned (OpenSpec.upto segmentWholeSpec)

/-- 'bodegalaw20.SegmentOnce', WHERE WHAT IT READS IS OF BULK AT MOST 1048576: true; the input reads as it did. -/
def segmentOnceUptoRow : OpenClaim := { program := "yteghkndbngddgaa", sum := "e1e63bafcbcc8ac657a035b2dcb2424f998b8009dec5ded618580a0810acc3fb", func := "bodega/bodegalaw20.SegmentOnce", spec := "segmentOnce", unfollowed := true, recurses := true, apart := false, narrowed := true }
def SegmentOnceUptoSaid : Prop := segmentOnceUptoRow.holds Try.pinned (OpenSpec.upto segmentOnceSpec)

end Rows
end Go.Proofs.Yteghkndbngddgaa
