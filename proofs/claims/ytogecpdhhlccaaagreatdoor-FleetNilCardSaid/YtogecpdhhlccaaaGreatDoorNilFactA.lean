/-
  FleetNil's row: closed facts on the program.
-/
import Derived.Test.YtogecpdhhlccaaaGreatDoorNilRow
namespace Go.Proofs.YtogecpdhhlccaaaGreatDoor
open Go Go.AM
open Go.RowKit Go.WideShapes Go.ChangeShapes
set_option maxRecDepth 100000

theorem own : ownKnob Tryz.prog.godebug = Option.none := by kernel_rfl

abbrev nilLaid {H : Type} : List (String × DataW H) := [("math/bits.deBruijn32tab", Rows.laid_math_bits_deBruijn32tab), ("math/bits.deBruijn64tab", Rows.laid_math_bits_deBruijn64tab), ("internal/strconv.uint64pow10", Rows.laid_internal_strconv_uint64pow10)]

/-- The heap that the program's own start lays meets the condition. -/
theorem door_met (os : Os) (args : Array Value) : laidMetH Tryz.prog nilLaid ((World.doorLaid Tryz.prog 400 os).forCall (fun _ _ => 0) ⟨#[], args, []⟩).memory :=
  laidMetH_of_parts3 (fuel := 8) (laidMet_of_run' 8 (by kernel_rfl) (by kernel_rfl)) (by kernel_rfl) (by kernel_rfl)
end Go.Proofs.YtogecpdhhlccaaaGreatDoor
