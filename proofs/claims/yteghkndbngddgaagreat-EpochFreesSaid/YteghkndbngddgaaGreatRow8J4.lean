/- Facts of the row EpochFrees, by the kernel. -/
import Derived.Test.YteghkndbngddgaaGreatRows
import Derived.JoinedOf
import Derived.WalkKit
import Derived.ProofKit
namespace Go.Proofs.YteghkndbngddgaaGreat
open Go.RowKit
theorem EpochFrees_j13 : ((Rows.epochFreesRow.maps == (Tryz.f8.params.toList ++ Rows.epochFreesSpec.plain.varTypes Tryz.prog).any (Tryz.prog.mapsRec ·))) = true := by kernel_rfl
theorem EpochFrees_j14 : ((Rows.epochFreesRow.ifaces == (Tryz.f8.params.toList ++ Rows.epochFreesSpec.plain.varTypes Tryz.prog).any (Tryz.prog.ifacesRec ·))) = true := by kernel_rfl
theorem EpochFrees_j15 : ((Rows.epochFreesRow.mapsOut == Tryz.prog.mapsAmong Tryz.f8.resultTypes.toList)) = true := by kernel_rfl
theorem EpochFrees_j16 : ((Rows.epochFreesRow.loops == (Tryz.f8.params.toList ++ Rows.epochFreesSpec.plain.varTypes Tryz.prog).any (Tryz.prog.loopsFrom ·))) = true := by kernel_rfl
theorem EpochFrees_j17 : ((Rows.epochFreesRow.wideKeys == (Tryz.f8.params.toList ++ Rows.epochFreesSpec.plain.varTypes Tryz.prog ++ Tryz.f8.resultTypes.toList).any (Tryz.prog.wideKeysFrom ·))) = true := by kernel_rfl
theorem EpochFrees_j18 : (Rows.epochFreesSpec.vars.all (Tryz.prog.varReadable ·)) = true := by kernel_rfl
theorem EpochFrees_j19 : (Tryz.f8.resultTypes.all (fun t => Tryz.prog.readableRec t && decide (t < Tryz.prog.types.size))) = true := by kernel_rfl
theorem EpochFrees_j20 : ((Rows.epochFreesRow.ifacesOut == Tryz.f8.resultTypes.toList.any (Tryz.prog.ifacesRec ·))) = true := by kernel_rfl
theorem EpochFrees_j21 : ((Rows.epochFreesRow.loopsOut == Tryz.f8.resultTypes.toList.any (Tryz.prog.loopsFrom ·))) = true := by kernel_rfl
theorem EpochFrees_j22 : ((Rows.epochFreesRow.plainKeys == Tryz.prog.plainKeys)) = true := by kernel_rfl
theorem EpochFrees_j23 : (Rows.epochFreesRow.shortTexts.isNone) = true := by kernel_rfl
theorem EpochFrees_j24 : (Tryz.prog.stopsHeard) = true := by kernel_rfl
theorem EpochFrees_j25 : (Tryz.prog.mayEnter) = true := by kernel_rfl
theorem EpochFrees_j26 : ((Rows.epochFreesRow.lifted == Tryz.prog.liftsFinal)) = true := by kernel_rfl
theorem EpochFrees_j27 : ((Tryz.prog.make == some Rows.epochFreesRow.make)) = true := by kernel_rfl
theorem EpochFrees_j28 : ((Rows.epochFreesRow.kinds == (if Rows.epochFreesRow.domain.isEmpty then [] else Tryz.f8.params.toList.map fun t => match Tryz.prog.underlying t with | some (.int k) => some k | _ => none))) = true := by kernel_rfl
theorem EpochFrees_j29 : ((Rows.epochFreesRow.pinned == Rows.epochFreesRow.pinnedBy)) = true := by kernel_rfl
theorem EpochFrees_j30 : ((Rows.epochFreesRow.veiled == (Tryz.f8.params.toList ++ Rows.epochFreesSpec.plain.varTypes Tryz.prog ++ Tryz.f8.resultTypes.toList).any (Tryz.prog.veiledRec ·))) = true := by kernel_rfl
theorem EpochFrees_j31 : (Rows.epochFreesRow.veiledFits Tryz.prog Tryz.f8.params.toList (Tryz.f8.params.toList ++ Rows.epochFreesSpec.plain.varTypes Tryz.prog ++ Tryz.f8.resultTypes.toList)) = true := by kernel_rfl
end Go.Proofs.YteghkndbngddgaaGreat
