/- Facts of the row EpochGuards, by the kernel. -/
import Derived.Test.YteghkndbngddgaaGreatRows
import Derived.JoinedOf
import Derived.WalkKit
import Derived.ProofKit
namespace Go.Proofs.YteghkndbngddgaaGreat
open Go.RowKit
theorem EpochGuards_j0 : (Rows.epochGuardsRow.wf (OpenSpec.ofChange Rows.epochGuardsSpec)) = true := by kernel_rfl
theorem EpochGuards_j1 : (laidOutB Tryz.prog) = true := by kernel_rfl
theorem EpochGuards_j2 : (mapsRowed Tryz.prog) = true := by kernel_rfl
theorem EpochGuards_j3 : (Tryz.f9.params.all (Tryz.prog.readableRec ·)) = true := by kernel_rfl
theorem EpochGuards_j4 : (namedTie Tryz.prog Rows.epochGuardsRow.named Rows.epochGuardsSpec.vars) = true := by kernel_rfl
theorem EpochGuards_j5 : ((Rows.epochGuardsRow.stops == [])) = true := by kernel_rfl
theorem EpochGuards_j6 : ((Tryz.prog.stops == [])) = true := by kernel_rfl
theorem EpochGuards_j7 : ((Rows.epochGuardsRow.knobs == [])) = true := by kernel_rfl
theorem EpochGuards_j8 : ((Tryz.prog.stopKnobs == [])) = true := by kernel_rfl
end Go.Proofs.YteghkndbngddgaaGreat
