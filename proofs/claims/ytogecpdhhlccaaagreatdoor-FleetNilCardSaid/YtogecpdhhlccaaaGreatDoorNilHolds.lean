/-
  FleetNil's row: whatever comes in, it returns true.
-/
import Derived.Test.YtogecpdhhlccaaaGreatDoorNilFactC
import Derived.Test.YtogecpdhhlccaaaGreatDoorNilFactF
namespace Go.Proofs.YtogecpdhhlccaaaGreatDoor
open Go Go.AM
open Go.RowKit Go.WideShapes Go.ChangeShapes
set_option maxRecDepth 100000

theorem nil_lifted (os : Os) (started : os.Started) (H : Type) (enc : TypeId × Value → H) :
    ReturnsInHanded {} Tryz.checked os 3 .any (fun w args => (Rows.fleetNilSpec.pre enc Tryz.prog Tryz.f3 [] false w args ∧ laidMetH Tryz.prog nilLaid w) ∧ sizedMet enc Tryz.prog Tryz.f3 (OpenSpec.ofChange Rows.fleetNilSpec) false w args)
      (Rows.fleetNilSpec.post enc Tryz.prog Tryz.f3 false true false false) := by
  refine law_lifted (C := Tryz.checked) (X := fun w => laidMetH Tryz.prog nilLaid w) (tb := 4) (fun _ _ hh h => h.of_heap hh) own started (by kernel_rfl) Tryz.func3 nf2 (by kernel_rfl) (by kernel_rfl) Tryz.underlying4 rfl (fun ds h => ?_) (nil_witness os H enc) ?_
  · rw [show Tryz.f3.params.size = 2 by kernel_rfl] at h
    match ds, h with
    | [d1, d2], _ => rfl
  · intro W base args ds ps hs hval _ _
    rw [show Tryz.f3.params.size = 2 by kernel_rfl] at hs
    obtain ⟨l⟩ := args
    match l, hs with
    | [v0, v1], _ => exact nil_contract W base v0 v1 (hval 0 26 v0 (by rw [Tryz.params3]; rfl) rfl) (hval 1 3 v1 (by rw [Tryz.params3]; rfl) rfl)

theorem fleetNil_holds : Rows.FleetNilSaid :=
  OpenClaim.holds_of_wide 3 Tryz.f3 rfl rfl rfl rfl rfl rfl rfl ⟨rfl, rfl, rfl, rfl, rfl⟩ rfl rfl rfl rfl rfl (by kernel_rfl) Tryz.func3 nil_closed
    (of_decide_eq_true (by kernel_rfl)) (by unfold Func.isWrapper; first | (rw [if_pos (by decide +kernel)]; kernel_rfl) | (rw [if_neg (by decide +kernel)]; exact ⟨rfl, rfl⟩))
    (fun os started H enc _ => nil_lifted os started H enc)
end Go.Proofs.YtogecpdhhlccaaaGreatDoor
