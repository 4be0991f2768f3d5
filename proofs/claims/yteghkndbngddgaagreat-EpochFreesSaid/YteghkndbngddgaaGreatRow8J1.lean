/- Facts of the row EpochFrees, by the kernel. -/
import Derived.Test.YteghkndbngddgaaGreatRows
import Derived.JoinedOf
import Derived.WalkKit
import Derived.ProofKit
namespace Go.Proofs.YteghkndbngddgaaGreat
open Go.RowKit
theorem EpochFrees_j0 : (Rows.epochFreesRow.wf (OpenSpec.ofChange Rows.epochFreesSpec)) = true := by kernel_rfl
theorem EpochFrees_j1 : (laidOutB Tryz.prog) = true := by kernel_rfl
theorem EpochFrees_j2 : (mapsRowed Tryz.prog) = true := by kernel_rfl
theorem EpochFrees_j3 : (Tryz.f8.params.all (Tryz.prog.readableRec ·)) = true := by kernel_rfl
theorem EpochFrees_j4 : (namedTie Tryz.prog Rows.epochFreesRow.named Rows.epochFreesSpec.vars) = true := by kernel_rfl
theorem EpochFrees_j5 : ((Rows.epochFreesRow.stops == [])) = true := by kernel_rfl
theorem EpochFrees_j6 : ((Tryz.prog.stops == [])) = true := by kernel_rfl
theorem EpochFrees_j7 : ((Rows.epochFreesRow.knobs == [])) = true := by kernel_rfl
theorem EpochFrees_j8 : ((Tryz.prog.stopKnobs == [])) = true := by kernel_rfl
end Go.Proofs.YteghkndbngddgaaGreat
