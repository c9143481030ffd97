/-
  FleetNil's card: closed facts on the program.
-/
import Derived.Test.YtogecpdhhlccaaaGreatDoorNilRow
namespace Go.Proofs.YtogecpdhhlccaaaGreatDoor
open Go Go.AM
set_option maxRecDepth 100000

theorem ng1 : Rows.fleetNilRow.wfByText (OpenSpec.ofChange Rows.fleetNilSpec) = true := by kernel_rfl
theorem ng2 : Tryz.pinned.checked.prog.mainIs = some (true, "d044cfef44f3f8f49d321524ea18b0d709f44c1d8f50213e634c4af84a39cf1b".toList) := by kernel_rfl
theorem ng4 : ([26, 3].all fun u => !Tryz.prog.wantsStandIn u) = true := by kernel_rfl
theorem ng5 : false = Rows.fleetNilRow.goesBy Tryz.pinned.checked.prog := by kernel_rfl
theorem ng6 : Tryz.prog.funcNamed "cuneiform/cuneiformlaw30.FleetNil" = some 3 := by kernel_rfl
end Go.Proofs.YtogecpdhhlccaaaGreatDoor
