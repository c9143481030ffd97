/-
  FleetNil's row: what it says of the program itself, further parts.
-/
import Derived.Test.YtogecpdhhlccaaaGreatDoorNilRow
namespace Go.Proofs.YtogecpdhhlccaaaGreatDoor
open Go Go.AM
open Go.RowKit Go.WideShapes Go.ChangeShapes
set_option maxRecDepth 100000

theorem nf11 : ((Rows.fleetNilRow.maps == (Tryz.f3.params.toList ++ Rows.fleetNilSpec.plain.varTypes Tryz.prog).any (Tryz.prog.mapsRec ·)) && (Rows.fleetNilRow.ifaces == (Tryz.f3.params.toList ++ Rows.fleetNilSpec.plain.varTypes Tryz.prog).any (Tryz.prog.ifacesRec ·)) && (Rows.fleetNilRow.mapsOut == Tryz.prog.mapsAmong Tryz.f3.resultTypes.toList)) = true := by kernel_rfl
theorem nf12 : ((Rows.fleetNilRow.loops == (Tryz.f3.params.toList ++ Rows.fleetNilSpec.plain.varTypes Tryz.prog).any (Tryz.prog.loopsFrom ·)) && (Rows.fleetNilRow.wideKeys == (Tryz.f3.params.toList ++ Rows.fleetNilSpec.plain.varTypes Tryz.prog ++ Tryz.f3.resultTypes.toList).any (Tryz.prog.wideKeysFrom ·))) = true := by kernel_rfl
theorem nf13 : (Rows.fleetNilSpec.vars.all (Tryz.prog.varReadable ·) && Tryz.f3.resultTypes.all (fun t => Tryz.prog.readableRec t && decide (t < Tryz.prog.types.size)) && (Rows.fleetNilRow.ifacesOut == Tryz.f3.resultTypes.toList.any (Tryz.prog.ifacesRec ·)) && (Rows.fleetNilRow.loopsOut == Tryz.f3.resultTypes.toList.any (Tryz.prog.loopsFrom ·)) && (Rows.fleetNilRow.plainKeys == Tryz.prog.plainKeys) && Rows.fleetNilRow.shortTexts.isNone) = true := by kernel_rfl
theorem nf14 : Tryz.prog.stopsHeard = true := by kernel_rfl
theorem nf15 : Tryz.prog.mayEnter = true := by kernel_rfl
theorem nf16 : (Rows.fleetNilRow.lifted == Tryz.prog.liftsFinal) = true := by kernel_rfl
theorem nf17 : (Tryz.prog.make == some Rows.fleetNilRow.make) = true := by kernel_rfl
theorem nf19 : ((Rows.fleetNilRow.veiled == (Tryz.f3.params.toList ++ Rows.fleetNilSpec.plain.varTypes Tryz.prog ++ Tryz.f3.resultTypes.toList).any (Tryz.prog.veiledRec ·)) && Rows.fleetNilRow.veiledFits Tryz.prog Tryz.f3.params.toList (Tryz.f3.params.toList ++ Rows.fleetNilSpec.plain.varTypes Tryz.prog ++ Tryz.f3.resultTypes.toList)) = true := by kernel_rfl
end Go.Proofs.YtogecpdhhlccaaaGreatDoor
