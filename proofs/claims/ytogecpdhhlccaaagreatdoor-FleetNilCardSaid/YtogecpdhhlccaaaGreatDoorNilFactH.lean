/-
  FleetNil's card: one closed fact on the program.
-/
import Derived.Test.YtogecpdhhlccaaaGreatDoorNilRow
namespace Go.Proofs.YtogecpdhhlccaaaGreatDoor
open Go Go.AM
set_option maxRecDepth 100000

theorem ng3 : true = Tryz.prog.looks [] := by kernel_rfl
end Go.Proofs.YtogecpdhhlccaaaGreatDoor
