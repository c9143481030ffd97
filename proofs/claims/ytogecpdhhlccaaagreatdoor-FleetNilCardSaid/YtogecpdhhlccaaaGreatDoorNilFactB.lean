/-
  FleetNil's row: closed facts on the heap that the program's start lays.
-/
import Derived.Test.YtogecpdhhlccaaaGreatDoorNilFactA
namespace Go.Proofs.YtogecpdhhlccaaaGreatDoor
open Go Go.AM
open Go.RowKit Go.WideShapes Go.ChangeShapes
set_option maxRecDepth 100000

def nilArgs : Array Value := #[.agg #[.int .i64 0, .int .i64 0, .int .i64 0, .int .i64 0, .int .i64 0, .int .i64 0, .int .i64 0, .slice Option.none 0 0, .slice Option.none 0 0, .string ⟨#[]⟩, .string ⟨#[]⟩], .int .i64 0]

theorem door_shaped (os : Os) (args : Array Value) : ((World.doorLaid Tryz.prog 400 os).forCall (fun _ _ => 0) ⟨#[], args, []⟩).Shaped Tryz.prog := World.shaped_of_RefB (by kernel_rfl) (by kernel_rfl)
end Go.Proofs.YtogecpdhhlccaaaGreatDoor
