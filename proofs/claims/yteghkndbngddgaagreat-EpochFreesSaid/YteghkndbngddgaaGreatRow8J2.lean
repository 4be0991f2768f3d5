/- Facts of the row EpochFrees, by the kernel. -/
import Derived.Test.YteghkndbngddgaaGreatRows
import Derived.JoinedOf
import Derived.WalkKit
import Derived.ProofKit
namespace Go.Proofs.YteghkndbngddgaaGreat
open Go.RowKit
theorem EpochFrees_j9 : ((Rows.epochFreesRow.inPlace == Tryz.prog.inPlace 8)) = true := by kernel_rfl
theorem EpochFrees_j10 : ((Rows.epochFreesRow.unfollowed == Tryz.prog.unfollowed 8)) = true := by kernel_rfl
end Go.Proofs.YteghkndbngddgaaGreat
