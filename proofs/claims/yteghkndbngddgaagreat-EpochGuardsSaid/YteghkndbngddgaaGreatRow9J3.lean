/- Facts of the row EpochGuards, by the kernel. -/
import Derived.Test.YteghkndbngddgaaGreatRows
import Derived.JoinedOf
import Derived.WalkKit
import Derived.ProofKit
namespace Go.Proofs.YteghkndbngddgaaGreat
open Go.RowKit
theorem EpochGuards_j11 : ((Rows.epochGuardsRow.recurses == Tryz.prog.recurses 9)) = true := by kernel_rfl
theorem EpochGuards_j12 : ((Rows.epochGuardsRow.named == Tryz.prog.varsNamed 9)) = true := by kernel_rfl
end Go.Proofs.YteghkndbngddgaaGreat
