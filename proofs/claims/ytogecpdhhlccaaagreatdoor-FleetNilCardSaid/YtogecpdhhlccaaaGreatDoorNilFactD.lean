/-
  FleetNil's row: what it says of the program itself, part by part.
-/
import Derived.Test.YtogecpdhhlccaaaGreatDoorNilRow
namespace Go.Proofs.YtogecpdhhlccaaaGreatDoor
open Go Go.AM
open Go.RowKit Go.WideShapes Go.ChangeShapes
set_option maxRecDepth 100000

theorem nf1 : Rows.fleetNilRow.wf (OpenSpec.ofChange Rows.fleetNilSpec) = true := by kernel_rfl
theorem nf2 : laidOutB Tryz.prog = true := by kernel_rfl
theorem nf3 : mapsRowed Tryz.prog = true := by kernel_rfl
theorem nf4 : Tryz.f3.params.all (Tryz.prog.readableRec ·) = true := by kernel_rfl
theorem nf5 : namedTie Tryz.prog Rows.fleetNilRow.named Rows.fleetNilSpec.vars = true := by kernel_rfl
theorem nf6 : ((Rows.fleetNilRow.stops == []) && (Tryz.prog.stops == []) && (Rows.fleetNilRow.knobs == []) && (Tryz.prog.stopKnobs == [])) = true := by kernel_rfl
theorem nf7 : (Rows.fleetNilRow.inPlace == Tryz.prog.inPlace 3) = true := by kernel_rfl
theorem nf8 : (Rows.fleetNilRow.unfollowed == Tryz.prog.unfollowed 3) = true := by kernel_rfl
theorem nf9 : (Rows.fleetNilRow.recurses == Tryz.prog.recurses 3) = true := by kernel_rfl
theorem nf10 : (Rows.fleetNilRow.named == Tryz.prog.varsNamed 3) = true := by kernel_rfl
end Go.Proofs.YtogecpdhhlccaaaGreatDoor
