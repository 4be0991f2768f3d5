/- Facts of the row EpochGuards, by the kernel. -/
import Derived.Test.YteghkndbngddgaaGreatRows
import Derived.JoinedOf
import Derived.WalkKit
import Derived.ProofKit
namespace Go.Proofs.YteghkndbngddgaaGreat
open Go.RowKit
theorem EpochGuards_j9 : ((Rows.epochGuardsRow.inPlace == Tryz.prog.inPlace 9)) = true := by kernel_rfl
theorem EpochGuards_j10 : ((Rows.epochGuardsRow.unfollowed == Tryz.prog.unfollowed 9)) = true := by kernel_rfl
end Go.Proofs.YteghkndbngddgaaGreat
