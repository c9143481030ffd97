/-
  FleetNil returns true, whatever comes in, and its arguments read behind the call as before it. The row's conditions: three tables of Go's library hold what the program's text lays.
-/
import Derived.Test.YtogecpdhhlccaaaGreatDoorNilWalk
import Derived.Test.YtogecpdhhlccaaaGreatDoorArgs
import Derived.Test.YtogecpdhhlccaaaGreatDoorRows
import Derived.LaidMore
import Derived.Stop.Joined
namespace Go.Proofs.YtogecpdhhlccaaaGreatDoor
open Go Go.AM
set_option maxRecDepth 100000
open Go.RowKit Go.WideShapes Go.ChangeShapes

/-- The two slices' places. -/
def twoPlaces (b1 o1 b2 o2 : Nat) : Places := fun r => match r with
  | 0 => some ⟨b1, o1, 0, .nilIface⟩
  | 1 => some ⟨b2, o2, 0, .nilIface⟩
  | _ => Option.none

theorem heap_two (w : World) (b1 o1 b2 o2 : Nat) : HRel (twoPlaces b1 o1 b2 o2) w H2 w :=
  ⟨Below.refl _ w, fun r p h => (by
    match r, h with
    | 0, _ => exact (by decide : 0 < 2)
    | 1, _ => exact (by decide : 1 < 2)
    | n + 2, h => cases h), fun _ _ _ _ h => (by cases h), fun _ _ _ _ _ _ _ _ h => (by cases h), fun _ _ _ _ h => (by cases h)⟩

theorem cells26 : Tryz.prog.cellTypes Tryz.prog.depth 26 = some [3, 3, 3, 3, 3, 3, 3, 23, 24, 9, 9] := by kernel_rfl
theorem size26 : Tryz.prog.cellsOf 26 = [3, 3, 3, 3, 3, 3, 3, 23, 24, 9, 9].length := by kernel_rfl

/-- A message that comes in. -/
theorem msg_in {W : World} {base : Nat} {v : Value} (h : Value.okWide Tryz.prog W .any base 26 v) :
    ∃ (k a b c d e f : Int) (p q : Value) (t g : List UInt8), v = .agg #[.int .i64 k, .int .i64 a, .int .i64 b, .int .i64 c, .int .i64 d, .int .i64 e, .int .i64 f, p, q, .string ⟨t.toArray⟩, .string ⟨g.toArray⟩] ∧
      Cell.okWide Tryz.prog W .any base 23 p ∧ Cell.okWide Tryz.prog W .any base 24 q := by
  obtain ⟨cs, rfl, hl, hc⟩ := ok_agg Tryz.underlying26 cells26 size26 h
  match cs, hl with
  | [x0, x1, x2, x3, x4, x5, x6, x7, x8, x9, x10], _ =>
    obtain ⟨k, rfl, _⟩ := ok_int Tryz.underlying3 (hc 0 3 x0 rfl rfl)
    obtain ⟨a, rfl, _⟩ := ok_int Tryz.underlying3 (hc 1 3 x1 rfl rfl)
    obtain ⟨b, rfl, _⟩ := ok_int Tryz.underlying3 (hc 2 3 x2 rfl rfl)
    obtain ⟨c, rfl, _⟩ := ok_int Tryz.underlying3 (hc 3 3 x3 rfl rfl)
    obtain ⟨d, rfl, _⟩ := ok_int Tryz.underlying3 (hc 4 3 x4 rfl rfl)
    obtain ⟨e, rfl, _⟩ := ok_int Tryz.underlying3 (hc 5 3 x5 rfl rfl)
    obtain ⟨f, rfl, _⟩ := ok_int Tryz.underlying3 (hc 6 3 x6 rfl rfl)
    obtain ⟨t, rfl⟩ := ok_str Tryz.underlying9 (hc 9 9 x9 rfl rfl)
    obtain ⟨g, rfl⟩ := ok_str Tryz.underlying9 (hc 10 9 x10 rfl rfl)
    exact ⟨k, a, b, c, d, e, f, x7, x8, t, g, rfl, hc 7 23 x7 rfl rfl, hc 8 24 x8 rfl rfl⟩

theorem rel_msg {ρ : Places} {k a b c d e f : Int} {x y : AV} {p q : Value} {t g : List UInt8} (hp : VRel ρ x p) (hq : VRel ρ y q) :
    VRel ρ (msgAV k a b c d e f x y t g) (.agg #[.int .i64 k, .int .i64 a, .int .i64 b, .int .i64 c, .int .i64 d, .int .i64 e, .int .i64 f, p, q, .string ⟨t.toArray⟩, .string ⟨g.toArray⟩]) := by
  simp only [msgAV, VRel]
  refine ⟨[.int .i64 k, .int .i64 a, .int .i64 b, .int .i64 c, .int .i64 d, .int .i64 e, .int .i64 f, p, q, .string ⟨t.toArray⟩, .string ⟨g.toArray⟩], ?_, rfl⟩
  refine .cons (by simp only [VRel]) (.cons (by simp only [VRel]) (.cons (by simp only [VRel]) (.cons (by simp only [VRel]) (.cons (by simp only [VRel]) (.cons (by simp only [VRel]) (.cons (by simp only [VRel]) (.cons hp (.cons hq (.cons (by simp only [VRel]) (.cons (by simp only [VRel]) .nil))))))))))

theorem nil_contract (W : World) (base : Nat) (v0 v1 : Value) (h0 : Value.okWide Tryz.prog W .any base 26 v0) (h1 : Value.okWide Tryz.prog W .any base 3 v1) :
    Calls Tryz.prog 3 #[v0, v1] W fun
      | .returned v, W' => v = .bool true ∧ Below W.heap.size W W'
      | _, _ => False := by
  obtain ⟨k, a, b, c, d, e, f, p, q, t, g, rfl, hp, hq⟩ := msg_in h0
  obtain ⟨n, rfl, _⟩ := ok_int Tryz.underlying3 (by simpa only [Value.okWide, Tryz.underlying3] using h1)
  have fin : ∀ {b1 o1 b2 o2 : Nat} {x y : AV}, VRel (twoPlaces b1 o1 b2 o2) x p → VRel (twoPlaces b1 o1 b2 o2) y q → calledK envN specN 3 [msgAV k a b c d e f x y t g, .int .i64 n] H2 isTrueP 1000 →
      Calls Tryz.prog 3 #[.agg #[.int .i64 k, .int .i64 a, .int .i64 b, .int .i64 c, .int .i64 d, .int .i64 e, .int .i64 f, p, q, .string ⟨t.toArray⟩, .string ⟨g.toArray⟩], .int .i64 n] W fun
        | .returned v, W' => v = .bool true ∧ Below W.heap.size W W'
        | _, _ => False := by
    intro b1 o1 b2 o2 x y hx hy hk
    refine Calls.mono (calls_of_calledK (vs := [.agg #[.int .i64 k, .int .i64 a, .int .i64 b, .int .i64 c, .int .i64 d, .int .i64 e, .int .i64 f, p, q, .string ⟨t.toArray⟩, .string ⟨g.toArray⟩], .int .i64 n]) (envZ_ok _ (twoPlaces b1 o1 b2 o2)) (conN_ok W) (heap_two W b1 o1 b2 o2) (.cons (rel_msg hx hy) (.cons (by simp only [VRel]) .nil)) hk) fun e w' he => ?_
    cases e with
    | returned v =>
      obtain ⟨σ, z, H', hz, hr, hh⟩ := he
      unfold isTrueP at hz
      subst hz
      exact ⟨by simpa only [VRel] using hr, hh.below⟩
    | panicked _ => exact he
    | outgrown => exact he
  have nilr : ∀ {b1 o1 b2 o2 : Nat}, VRel (twoPlaces b1 o1 b2 o2) .nilslice (.slice Option.none 0 0) := by intros; simp only [VRel]
  rcases ok_slice Tryz.underlying23 hp with rfl | ⟨b1, o1, l1, c1, rfl, hl1⟩ <;> rcases ok_slice Tryz.underlying24 hq with rfl | ⟨b2, o2, l2, c2, rfl, hl2⟩
  · exact fin (b1 := 0) (o1 := 0) (b2 := 0) (o2 := 0) nilr nilr (top3 k a b c d e f n t g)
  · exact fin (b1 := 0) (o1 := 0) (b2 := b2) (o2 := o2) nilr (rel_slice rfl hl2) (top1 k a b c d e f n 0 l2 c2 t g hl2)
  · exact fin (b1 := b1) (o1 := o1) (b2 := 0) (o2 := 0) (rel_slice rfl hl1) nilr (top2 k a b c d e f n 0 l1 c1 t g hl1)
  · exact fin (b1 := b1) (o1 := o1) (b2 := b2) (o2 := o2) (rel_slice rfl hl1) (rel_slice rfl hl2) (top0 k a b c d e f n 0 l1 c1 0 l2 c2 t g hl1 hl2)

end Go.Proofs.YtogecpdhhlccaaaGreatDoor
