/- Facts of the row EpochGuards, by the kernel. -/
import Derived.Test.YteghkndbngddgaaGreatRows
import Derived.JoinedOf
import Derived.WalkKit
import Derived.ProofKit
namespace Go.Proofs.YteghkndbngddgaaGreat
open Go.RowKit
theorem EpochGuards_j13 : ((Rows.epochGuardsRow.maps == (Tryz.f9.params.toList ++ Rows.epochGuardsSpec.plain.varTypes Tryz.prog).any (Tryz.prog.mapsRec ·))) = true := by kernel_rfl
theorem EpochGuards_j14 : ((Rows.epochGuardsRow.ifaces == (Tryz.f9.params.toList ++ Rows.epochGuardsSpec.plain.varTypes Tryz.prog).any (Tryz.prog.ifacesRec ·))) = true := by kernel_rfl
theorem EpochGuards_j15 : ((Rows.epochGuardsRow.mapsOut == Tryz.prog.mapsAmong Tryz.f9.resultTypes.toList)) = true := by kernel_rfl
theorem EpochGuards_j16 : ((Rows.epochGuardsRow.loops == (Tryz.f9.params.toList ++ Rows.epochGuardsSpec.plain.varTypes Tryz.prog).any (Tryz.prog.loopsFrom ·))) = true := by kernel_rfl
theorem EpochGuards_j17 : ((Rows.epochGuardsRow.wideKeys == (Tryz.f9.params.toList ++ Rows.epochGuardsSpec.plain.varTypes Tryz.prog ++ Tryz.f9.resultTypes.toList).any (Tryz.prog.wideKeysFrom ·))) = true := by kernel_rfl
theorem EpochGuards_j18 : (Rows.epochGuardsSpec.vars.all (Tryz.prog.varReadable ·)) = true := by kernel_rfl
theorem EpochGuards_j19 : (Tryz.f9.resultTypes.all (fun t => Tryz.prog.readableRec t && decide (t < Tryz.prog.types.size))) = true := by kernel_rfl
theorem EpochGuards_j20 : ((Rows.epochGuardsRow.ifacesOut == Tryz.f9.resultTypes.toList.any (Tryz.prog.ifacesRec ·))) = true := by kernel_rfl
theorem EpochGuards_j21 : ((Rows.epochGuardsRow.loopsOut == Tryz.f9.resultTypes.toList.any (Tryz.prog.loopsFrom ·))) = true := by kernel_rfl
theorem EpochGuards_j22 : ((Rows.epochGuardsRow.plainKeys == Tryz.prog.plainKeys)) = true := by kernel_rfl
theorem EpochGuards_j23 : (Rows.epochGuardsRow.shortTexts.isNone) = true := by kernel_rfl
theorem EpochGuards_j24 : (Tryz.prog.stopsHeard) = true := by kernel_rfl
theorem EpochGuards_j25 : (Tryz.prog.mayEnter) = true := by kernel_rfl
theorem EpochGuards_j26 : ((Rows.epochGuardsRow.lifted == Tryz.prog.liftsFinal)) = true := by kernel_rfl
theorem EpochGuards_j27 : ((Tryz.prog.make == some Rows.epochGuardsRow.make)) = true := by kernel_rfl
theorem EpochGuards_j28 : ((Rows.epochGuardsRow.kinds == (if Rows.epochGuardsRow.domain.isEmpty then [] else Tryz.f9.params.toList.map fun t => match Tryz.prog.underlying t with | some (.int k) => some k | _ => none))) = true := by kernel_rfl
theorem EpochGuards_j29 : ((Rows.epochGuardsRow.pinned == Rows.epochGuardsRow.pinnedBy)) = true := by kernel_rfl
theorem EpochGuards_j30 : ((Rows.epochGuardsRow.veiled == (Tryz.f9.params.toList ++ Rows.epochGuardsSpec.plain.varTypes Tryz.prog ++ Tryz.f9.resultTypes.toList).any (Tryz.prog.veiledRec ·))) = true := by kernel_rfl
theorem EpochGuards_j31 : (Rows.epochGuardsRow.veiledFits Tryz.prog Tryz.f9.params.toList (Tryz.f9.params.toList ++ Rows.epochGuardsSpec.plain.varTypes Tryz.prog ++ Tryz.f9.resultTypes.toList)) = true := by kernel_rfl
end Go.Proofs.YteghkndbngddgaaGreat
