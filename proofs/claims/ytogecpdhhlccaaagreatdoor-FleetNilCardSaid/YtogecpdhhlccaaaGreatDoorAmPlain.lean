/-
  An abstract machine over the model's code: arrays and structs that are compared cell by cell.
-/
import Derived.Test.YtogecpdhhlccaaaGreatDoorAmSound4
import Derived.ChangeKeysEq
namespace Go
namespace AM

def KindIs (P : Program) (e : TypeId) : CellKind → Prop
  | .int => ∃ k, P.underlying e = some (.int k)
  | .bool => P.underlying e = some .bool
  | .str => P.underlying e = some .string

theorem KindIs.plain {P : Program} {e : TypeId} {c : CellKind} (h : KindIs P e c) : P.plainKey e = true := by
  cases c
  · simp only [KindIs] at h; simp [Program.plainKey, h]
  · obtain ⟨k, h⟩ := h; simp [Program.plainKey, h]
  · simp only [KindIs] at h; simp [Program.plainKey, h]

theorem cell_eq {P : Program} {e : TypeId} {c : CellKind} (he : KindIs P e c) {x y : AV} {r : Bool} (h : sameCell c x y = some r) {ρ : Places} {v u : Value} (hv : VRel ρ x v) (hu : VRel ρ y u) (d : Nat) (w : World) :
    (Op.equalIn (d + 1) e v u).run P w = .ok r w := by
  rcases sameCell_inv h with ⟨rfl, k, m, n, rfl, rfl, rfl⟩ | ⟨rfl, m, n, rfl, rfl, rfl⟩ | ⟨rfl, m, n, rfl, rfl, rfl⟩
  · simp only [VRel] at hv hu; subst hv hu
    obtain ⟨k', he⟩ := he
    simp [Op.equalIn, run_underlying he]
  · simp only [VRel] at hv hu; subst hv hu
    simp only [KindIs] at he
    simp [Op.equalIn, run_underlying he]
  · simp only [VRel] at hv hu; subst hv hu
    simp only [KindIs] at he
    simp [Op.equalIn, run_underlying he, beq_bytes]

theorem eqItems_cells {P : Program} {e : TypeId} {c : CellKind} (he : KindIs P e c) (hc : P.cellsOf e = 1) (d : Nat) (w : World) {ρ : Places} : ∀ (n : Nat) (xs ys : List AV) (vs us pv pu : List Value) (b : Bool),
    VRelL ρ xs vs → VRelL ρ ys us → sameCells (List.replicate n c) xs ys = some b → pv.length = pu.length →
    (Op.eqItems (d + 1) e (P.cellsOf e) (pv ++ vs).toArray (pu ++ us).toArray (List.range' pv.length n)).run P w = .ok b w
  | 0, xs, ys, vs, us, pv, pu, b, hv, hu, hs, hl => by
    cases xs <;> cases ys <;> simp [sameCells] at hs
    subst hs; simp [Op.eqItems]
  | n + 1, xs, ys, vs, us, pv, pu, b, hv, hu, hs, hl => by
    cases xs with
    | nil => simp [sameCells, List.replicate_succ] at hs
    | cons x xs =>
    cases ys with
    | nil => simp [sameCells, List.replicate_succ] at hs
    | cons y ys =>
      obtain ⟨v, vs', rfl, hxv, hv'⟩ := hv.uncons
      obtain ⟨u, us', rfl, hyu, hu'⟩ := hu.uncons
      simp only [sameCells, List.replicate_succ] at hs
      have p1 : (Go.part e (pv ++ v :: vs').toArray (pv.length * P.cellsOf e)).run P w = .ok v w := run_part_plain w he.plain (by rw [hc]; simp)
      have p2 : (Go.part e (pu ++ u :: us').toArray (pv.length * P.cellsOf e)).run P w = .ok u w := run_part_plain w he.plain (by rw [hc, hl]; simp)
      rw [List.range'_succ]
      simp only [Op.eqItems, Sem.run_bind, p1, p2, Result.andThen_ok]
      split at hs
      · rename_i hr
        simp only [cell_eq he hr hxv hyu, Result.andThen_ok]
        have ih := eqItems_cells he hc d w n xs ys vs' us' (pv ++ [v]) (pu ++ [u]) b hv' hu' hs (by simp [hl])
        simp only [List.append_assoc, List.singleton_append, List.length_append, List.length_singleton] at ih
        simpa using ih
      · rename_i hr
        simp only [cell_eq he hr hxv hyu, Result.andThen_ok]
        simp only [Option.some.injEq] at hs
        subst hs
        simp
      · cases hs

/-- The values of a type are compared as their cells. -/
def PlainAt (P : Program) (t : TypeId) (ks : List CellKind) : Prop :=
  ∀ (ρ : Places) (w : World) xs ys vs us b, VRelL ρ xs vs → VRelL ρ ys us → sameCells ks xs ys = some b → (Op.equalIn 10000 t (.agg vs.toArray) (.agg us.toArray)).run P w = .ok b w

theorem plain_array {P : Program} {t e : TypeId} {n : Nat} {c : CellKind} {i : TypeInfo} (hu : P.underlying t = some (.array n e)) (he : KindIs P e c) (hi : P.info? e = some i) (hc : P.cellsOf e = 1) : PlainAt P t (List.replicate n c) := by
  intro ρ w xs ys vs us b hv hu' hs
  rw [show (10000 : Nat) = 9999 + 1 from rfl, run_equalIn_array w 9999 _ _ hu hi, List.range_eq_range']
  exact eqItems_cells he hc 9998 w n xs ys vs us [] [] b hv hu' hs rfl

/-- Fields of one cell each, none of them blank, from a place on. -/
def FieldsAt (P : Program) : Nat → List Go.Field → List CellKind → Prop
  | _, [], [] => True
  | i, f :: fs, c :: cs => f.offset = i ∧ f.name ≠ "_" ∧ KindIs P f.type c ∧ FieldsAt P (i + 1) fs cs
  | _, _, _ => False

theorem eqFields_cells {P : Program} (d : Nat) (w : World) {ρ : Places} : ∀ (fs : List Go.Field) (ks : List CellKind) (xs ys : List AV) (vs us pv pu : List Value) (b : Bool),
    VRelL ρ xs vs → VRelL ρ ys us → sameCells ks xs ys = some b → pv.length = pu.length → FieldsAt P pv.length fs ks →
    (Op.eqFields (d + 1) (pv ++ vs).toArray (pu ++ us).toArray fs).run P w = .ok b w
  | [], ks, xs, ys, vs, us, pv, pu, b, hv, hu, hs, hl, hf => by
    cases ks with
    | nil =>
      cases xs <;> cases ys <;> simp [sameCells] at hs
      subst hs; simp [Op.eqFields]
    | cons k ks => simp only [FieldsAt] at hf
  | f :: fs, ks, xs, ys, vs, us, pv, pu, b, hv, hu, hs, hl, hf => by
    cases ks with
    | nil => simp only [FieldsAt] at hf
    | cons c ks =>
    cases xs with
    | nil => simp [sameCells] at hs
    | cons x xs =>
    cases ys with
    | nil => simp [sameCells] at hs
    | cons y ys =>
      obtain ⟨v, vs', rfl, hxv, hv'⟩ := hv.uncons
      obtain ⟨u, us', rfl, hyu, hu'⟩ := hu.uncons
      obtain ⟨ho, hn, he, hf⟩ := hf
      simp only [sameCells] at hs
      have p1 : (Go.part f.type (pv ++ v :: vs').toArray f.offset).run P w = .ok v w := run_part_plain w he.plain (by rw [ho]; simp)
      have p2 : (Go.part f.type (pu ++ u :: us').toArray f.offset).run P w = .ok u w := run_part_plain w he.plain (by rw [ho, hl]; simp)
      simp only [Op.eqFields, if_pos hn, Sem.run_bind, p1, p2, Result.andThen_ok]
      split at hs
      · rename_i hr
        simp only [cell_eq he hr hxv hyu, Result.andThen_ok]
        have ih := eqFields_cells d w fs ks xs ys vs' us' (pv ++ [v]) (pu ++ [u]) b hv' hu' hs (by simp [hl]) (by simpa using hf)
        simp only [List.append_assoc, List.singleton_append] at ih
        simpa using ih
      · rename_i hr
        simp only [cell_eq he hr hxv hyu, Result.andThen_ok]
        simp only [Option.some.injEq] at hs
        subst hs
        simp
      · cases hs

theorem plain_struct {P : Program} {t : TypeId} {ks : List CellKind} (hu : P.underlying t = some (.struct (P.fieldsOf t))) (hp : P.stoodInHeld t = false) (hf : FieldsAt P 0 (P.fieldsOf t).toList ks) : PlainAt P t ks := by
  intro ρ w xs ys vs us b hv hu' hs
  rw [show (10000 : Nat) = 9999 + 1 from rfl, run_equalIn_struct w 9999 t _ _ hu hp]
  exact eqFields_cells 9998 w _ ks xs ys vs us [] [] b hv hu' hs rfl hf

end AM
end Go
