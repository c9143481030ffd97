/-
  FleetNil's tied card: a nil fleet knows none, whatever message and number come in. Conditions: the row's own (three tables of Go's library are laid as the program's text lays them).
-/
import Derived.Test.YtogecpdhhlccaaaGreatDoorNilHolds
import Derived.Test.YtogecpdhhlccaaaGreatDoorNilFactG
import Derived.Test.YtogecpdhhlccaaaGreatDoorNilFactH
import Derived.Test.YtogecpdhhlccaaaGreatDoorCards
import Derived.Test.YtogecpdhhlccaaaGreatDoorTie
namespace Go.Proofs.YtogecpdhhlccaaaGreatDoor
open Go Go.AM
open Go.RowKit Go.WideShapes Go.ChangeShapes
set_option maxRecDepth 100000

theorem fleetNil_card_holds : Rows.FleetNilCardSaid :=
  Claim7.holds_tied_plain_at .later [] [.data, .data, .data] true (true, "d044cfef44f3f8f49d321524ea18b0d709f44c1d8f50213e634c4af84a39cf1b") true
    fleetNil_holds (fun _ h => by cases h) ng1 (fun _ h => by cases h) fleetNil_row_tie rfl ⟨rfl, rfl⟩ ng2 rfl
    (fun f fn hf hfn => by
      obtain rfl : f = 3 := (Option.some.inj (ng6.symm.trans hf)).symm
      obtain rfl : fn = Tryz.f3 := (Option.some.inj (Tryz.func3.symm.trans hfn)).symm
      exact ⟨ng3, fun j t ht => by
        rw [Tryz.params3] at ht
        have hm : t ∈ [26, 3] := by simpa using Array.mem_of_getElem? ht
        exact (show Tryz.prog.wantsStandIn t = false by simpa using List.all_eq_true.1 ng4 t hm)⟩)
    ng5
#print axioms fleetNil_card_holds
end Go.Proofs.YtogecpdhhlccaaaGreatDoor
