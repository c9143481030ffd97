/-
  Functions of the seat that have no input: what they return.
-/
import Derived.Test.YtogecpdhhlccaaaGreatDoorTryzEnv
namespace Go.AM
open Go.Proofs
open Go.RowKit (Below)

noncomputable def envK : Env := envZ fun _ => false

def isTrue : AV → AHeap → Bool
  | .bool true, _ => true
  | _, _ => false

theorem heap_empty (w : World) : HRel (fun _ => none) w .empty w :=
  ⟨Below.refl _ w, fun _ _ h => (by cases h), fun _ _ _ h => (by cases h), fun _ _ _ _ _ _ h => (by cases h), fun _ _ _ h => (by cases h)⟩

theorem trueZ {f : FuncId} {n : Nat} (h : called envK f [] .empty isTrue n = true) (w : World) : Calls Tryz.prog f #[] w fun
    | .returned v, w' => v = .bool true ∧ Below w.heap.size w w'
    | _, _ => False := by
  refine Calls.mono (calls_of_called (envZ_ok _ _) (heap_empty w) .nil h) fun e w' he => ?_
  cases e with
  | returned v =>
    obtain ⟨σ, x, H', hk, hx, hh⟩ := he
    refine ⟨?_, hh.below⟩
    unfold isTrue at hk
    split at hk
    · simpa only [VRel] using hx
    · cases hk
  | panicked _ => exact he
  | outgrown => exact he

theorem known34 (w : World) : Calls Tryz.prog 65 #[] w fun
    | .returned v, w' => v = .bool true ∧ Below w.heap.size w w'
    | _, _ => False := trueZ (n := 3000) (by kernel_rfl) w

theorem known27 (w : World) : Calls Tryz.prog 46 #[] w fun
    | .returned v, w' => v = .bool true ∧ Below w.heap.size w w'
    | _, _ => False := trueZ (n := 5000) (by kernel_rfl) w

theorem known30 (w : World) : Calls Tryz.prog 15 #[] w fun
    | .returned v, w' => v = .bool true ∧ Below w.heap.size w w'
    | _, _ => False := trueZ (n := 4000) (by kernel_rfl) w

end Go.AM
