/-
  FleetNil: the walk of the function over open values.
-/
import Derived.Test.YtogecpdhhlccaaaGreatDoorTryzKnown
namespace Go.AM
open Go.Proofs
open Go.RowKit (Below)

def conN (f : FuncId) : Bool := Nat.beq f 15

noncomputable def envN : Env := envZ conN

def specN : Specs := fun f args H R => match f, args with
  | 15, [] => R (.bool true) H
  | _, _ => False

theorem conN_ok (w0 : World) : ConOK Tryz.prog envN w0 specN := by
  intro f args H R h ρ w vs _ hH hv
  unfold specN at h
  split at h
  · simp only [VRelL] at hv
    subst hv
    refine (known30 w).mono fun e w' he => ?_
    cases e with
    | returned v =>
      obtain ⟨rfl, hb⟩ := he
      exact ⟨ρ, _, H, Places.le_refl _, h, by simp only [VRel], hH.onward hb⟩
    | panicked _ => exact he
    | outgrown => exact he
  · exact h.elim

def msgAV (k a b c d e f : Int) (p q : AV) (t g : List UInt8) : AV :=
  .agg [.int .i64 k, .int .i64 a, .int .i64 b, .int .i64 c, .int .i64 d, .int .i64 e, .int .i64 f, p, q, .str t, .str g]

def H2 : AHeap := ⟨2, .leaf⟩

def isTrueP (x : AV) (_ : AHeap) : Prop := x = .bool true
end Go.AM
