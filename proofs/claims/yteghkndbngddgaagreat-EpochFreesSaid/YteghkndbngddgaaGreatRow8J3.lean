/- Facts of the row EpochFrees, by the kernel. -/
import Derived.Test.YteghkndbngddgaaGreatRows
import Derived.JoinedOf
import Derived.WalkKit
import Derived.ProofKit
namespace Go.Proofs.YteghkndbngddgaaGreat
open Go.RowKit
theorem EpochFrees_j11 : ((Rows.epochFreesRow.recurses == Tryz.prog.recurses 8)) = true := by kernel_rfl
theorem EpochFrees_j12 : ((Rows.epochFreesRow.named == Tryz.prog.varsNamed 8)) = true := by kernel_rfl
end Go.Proofs.YteghkndbngddgaaGreat
