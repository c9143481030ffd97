/-
  An abstract machine over the model's code: its operations against the model's, the first part.
-/
import Derived.Test.YtogecpdhhlccaaaGreatDoorAmSig
namespace Go
namespace AM
open Go.RowKit (Below)

/-- What the operands are. -/
def EvOK (ρ : Places) (ev : Operand → Option AV) (rev : Operand → Value) : Prop := ∀ x a, ev x = some a → VRel ρ a (rev x)

/-- An operation's value. -/
def ValOK (P : Program) (ρ : Places) (w0 : World) (x : AV) (H' : AHeap) (s : Sem Value) (w : World) : Prop :=
  ∃ σ v w', ρ.le σ ∧ s.run P w = .ok v w' ∧ VRel σ x v ∧ HRel σ w0 H' w'

def UnitOK (P : Program) (ρ : Places) (w0 : World) (H' : AHeap) (s : Sem Unit) (w : World) : Prop :=
  ∃ σ w', ρ.le σ ∧ s.run P w = .ok () w' ∧ HRel σ w0 H' w'

theorem ValOK.same {P : Program} {ρ : Places} {w0 : World} {x : AV} {H : AHeap} {s : Sem Value} {w : World} (hH : HRel ρ w0 H w) {v : Value} (h : s.run P w = .ok v w) (hx : VRel ρ x v) :
    ValOK P ρ w0 x H s w := ⟨ρ, v, w, ρ.le_refl, h, hx, hH⟩

theorem mapM_rel {ρ : Places} {ev : Operand → Option AV} {rev : Operand → Value} (h : EvOK ρ ev rev) : ∀ {l : List Operand} {xs : List AV}, l.mapM ev = some xs → VRelL ρ xs (l.map rev)
  | [], xs, e => by simp at e; subst e; exact .nil
  | x :: l, xs, e => by
    simp only [List.mapM_cons, Option.bind_eq_bind, Option.bind_eq_some_iff, Option.pure_def, Option.some.injEq] at e
    obtain ⟨a, ha, as, has, rfl⟩ := e
    exact .cons (h x a ha) (mapM_rel h has)

section
variable {P : Program} {S : Sig} (hS : SigOK P S) {ρ : Places} {w0 w : World} {H : AHeap} (hH : HRel ρ w0 H w)

include hH in
/-- A new row. -/
theorem new_row {cs : List AV} {vs : List Value} (hv : VRelL ρ cs vs) (e : TypeId) :
    HRel (ρ.with H.next ⟨w.heap.size, 0, vs.length, Go.undef⟩) w0 (H.new (.row cs true)) (w.alloc (.cells vs.toArray e)) := by
  refine hH.new rfl ?_ (Added.alloc w _)
  simp only [ORel]
  refine ⟨vs.toArray, e, (0, 0), rfl, by simp, by rw [hv.length]; exact Nat.le_refl _, ⟨vs, hv, fun j _ => by simp⟩, fun _ j _ h => by omega⟩

include hH in
/-- A new row with more behind it. -/
theorem new_row_more {cs : List AV} {vs rest : List Value} (hv : VRelL ρ cs vs) (e : TypeId) :
    HRel (ρ.with H.next ⟨w.heap.size, 0, vs.length + rest.length, Go.undef⟩) w0 (H.new (.row cs true)) (w.alloc (.cells (vs ++ rest).toArray e)) := by
  refine hH.new rfl ?_ (Added.alloc w _)
  simp only [ORel]
  have hl := hv.length
  refine ⟨(vs ++ rest).toArray, e, (0, 0), rfl, by simp, by omega, ⟨vs, hv, fun j hj => ?_⟩, fun _ j _ h => by omega⟩
  simp only [List.getElem?_toArray, Nat.zero_add]
  rw [List.getElem?_append_left (by omega)]

include hS hH in
theorem alloc_sound {t : TypeId} {z : AV} (hz : S.zero t = some z) : ValOK P ρ w0 (.ptr H.next 0) (H.new (.row z.cells true)) (Instr.alloc t true (.tuple #[])) w := by
  obtain ⟨v, hv, hr⟩ := run_zero hS w hz
  have hc := (hr ρ).cells
  refine ⟨ρ.with H.next ⟨w.heap.size, 0, v.cells.toList.length, Go.undef⟩, .pointer (some ⟨w.heap.size, 0, none⟩), w.alloc (.cells v.cells t), hH.le_with _, ?_, ?_, ?_⟩
  · simp [Instr.alloc, hv, newVar, newRow]
  · simp only [VRel]; exact ⟨_, Places.with_same _ _ _, rfl⟩
  · simpa using new_row hH hc t

include hH in
theorem box_sound {t : TypeId} {x : AV} {v : Value} (hx : VRel ρ x v) : ValOK P ρ w0 (.ptr H.next 0) (H.new (.row x.cells true)) (Instr.box t v) w := by
  have hc := hx.cells
  refine ⟨ρ.with H.next ⟨w.heap.size, 0, v.cells.toList.length, Go.undef⟩, .pointer (some ⟨w.heap.size, 0, none⟩), w.alloc (.cells v.cells t), hH.le_with _, ?_, ?_, ?_⟩
  · simp [Instr.box, newVar, newRow]
  · simp only [VRel]; exact ⟨_, Places.with_same _ _ _, rfl⟩
  · simpa using new_row hH hc t

theorem set_split (L : List Value) (k : Nat) (u : Value) (us : List Value) (h : k < L.length) :
    (L.set k u).take (k + 1) ++ us ++ (L.set k u).drop (k + 1 + us.length) = L.take k ++ (u :: us) ++ L.drop (k + (us.length + 1)) := by
  have h1 : (L.set k u).take (k + 1) = L.take k ++ [u] := by
    rw [List.set_eq_take_append_cons_drop, if_pos h]
    have hl : (L.take k).length = k := by simp; omega
    rw [List.take_append, hl, List.take_of_length_le (by omega), show k + 1 - k = 1 by omega]
    simp
  have h2 : (L.set k u).drop (k + 1 + us.length) = L.drop (k + (us.length + 1)) := by
    rw [List.drop_set_of_lt (by omega)]
    congr 1; omega
  rw [h1, h2]
  simp

/-- The model's cells, filled. -/
theorem foldl_set (off : Nat) : ∀ (us : List Value) (j : Nat) (cs : Array Value), off + j + us.length ≤ cs.size →
    (us.zipIdx j).foldl (fun cs (x : Value × Nat) => cs.setIfInBounds (off + x.2) x.1) cs = (cs.toList.take (off + j) ++ us ++ cs.toList.drop (off + j + us.length)).toArray
  | [], j, cs, _ => by simp
  | u :: us, j, cs, h => by
    simp only [List.length_cons] at h
    simp only [List.zipIdx_cons, List.foldl_cons]
    rw [foldl_set off us (j + 1) _ (by simp; omega)]
    have := set_split cs.toList (off + j) u us (by simp; omega)
    rw [Array.toList_setIfInBounds, show off + (j + 1) = off + j + 1 by omega, this]
    rfl

theorem fill_sound (pl : Nat → Option (Nat × Nat)) : ∀ (parts : List (Nat × AV)) (vparts : List (Nat × Value)) (cs cs' : List AV) (vs : List Value),
    fill pl cs parts = some cs' → VRelL ρ cs vs → parts.map (·.1) = vparts.map (·.1) → VRelL ρ (parts.map (·.2)) (vparts.map (·.2)) →
    ∃ vs', Instr.fill pl vs.toArray vparts = some vs'.toArray ∧ VRelL ρ cs' vs'
  | [], vparts, cs, cs', vs, h, hv, hi, _ => by
    cases vparts with
    | nil => simp only [fill] at h; cases h; exact ⟨vs, by simp [Instr.fill], hv⟩
    | cons a b => simp at hi
  | (i, x) :: parts, vparts, cs, cs', vs, h, hv, hi, hx => by
    cases vparts with
    | nil => simp at hi
    | cons a vparts =>
      obtain ⟨i', v⟩ := a
      simp only [List.map_cons, List.cons.injEq] at hi hx
      obtain ⟨rfl, hi⟩ := hi
      obtain ⟨v', rest, e, hxv, hxs⟩ := hx.uncons
      simp only [List.cons.injEq] at e
      obtain ⟨rfl, rfl⟩ := e
      simp only [fill] at h
      cases hp : pl i with
      | none => simp [hp] at h
      | some os =>
        obtain ⟨off, size⟩ := os
        simp only [hp] at h
        split at h
        · rename_i hc
          simp only [Bool.and_eq_true, beq_iff, ble_iff] at hc
          have hcells := hxv.cells
          have hl := hcells.length
          have hlv := hv.length
          simp only [Array.length_toList] at hl
          have hnew : VRelL ρ (cs.take off ++ x.cells ++ cs.drop (off + x.cells.length)) (vs.take off ++ v.cells.toList ++ vs.drop (off + x.cells.length)) :=
            ((hv.take off).append hcells).append (hv.drop _)
          obtain ⟨vs', hf, hv'⟩ := fill_sound pl parts vparts _ cs' _ h hnew hi hxs
          refine ⟨vs', ?_, hv'⟩
          simp only [Instr.fill, hp]
          rw [if_neg (by simp; omega)]
          rw [← hf]
          congr 1
          rw [← Array.foldl_toList, Array.toList_zipIdx, foldl_set off v.cells.toList 0 vs.toArray (by simp; omega)]
          simp [hl]
        · cases h

include hS in
theorem places_sound : ∀ {fs : List Field} {ps : List (Nat × Nat)}, places S fs = some ps →
    (fs.mapM (m := Sem) fun f => do pure (f.offset, ← sizeOf f.type)).run P w = .ok ps w
  | [], ps, h => by simp only [places] at h; cases h; simp
  | f :: fs, ps, h => by
    simp only [places] at h
    split at h
    · rename_i n qs hn hq
      cases h
      have := places_sound hq
      rw [List.mapM_cons]
      simp only [Sem.run_bind, run_size hS w hn, Result.andThen_ok, Sem.run_pure, this]
    · cases h

include hS in
theorem build_sound {t : TypeId} {parts : List (Nat × AV)} {vparts : Array (Nat × Value)} {x : AV} (h : build S t parts = some x) (hi : parts.map (·.1) = vparts.toList.map (·.1))
    (hx : VRelL ρ (parts.map (·.2)) (vparts.toList.map (·.2))) : ∃ v, (Instr.build t vparts).run P w = .ok v w ∧ VRel ρ x v := by
  unfold build at h
  split at h
  · rename_i fs z hu hz
    obtain ⟨zv, hzv, hr⟩ := run_zero hS w hz
    split at h
    · rename_i ps hps
      cases hf : fill (fun i => ps[i]?) z.cells parts with
      | none => simp [hf] at h
      | some cs =>
        simp [hf] at h; subst h
        obtain ⟨vs', hfill, hv'⟩ := fill_sound (ρ := ρ) _ parts vparts.toList z.cells cs zv.cells.toList hf (hr ρ).cells hi hx
        refine ⟨.agg vs'.toArray, ?_, by simp only [VRel]; exact ⟨vs', hv', rfl⟩⟩
        have hpl : (fs.mapM (m := Sem) fun f => do pure (f.offset, ← sizeOf f.type)).run P w = .ok ps.toArray w := by
          rw [Array.mapM_eq_mapM_toList]
          simp only [Sem.run_map, places_sound hS (w := w) hps, Result.andThen_ok]
        simp only [Instr.build, Sem.run_bind, hzv, Result.andThen_ok, run_und hS w hu, hpl]
        simp only [List.getElem?_toArray]
        simp only [Array.toArray_toList] at hfill
        rw [hfill]
        simp
    · cases h
  · rename_i k e z hu hz
    obtain ⟨zv, hzv, hr⟩ := run_zero hS w hz
    split at h
    · rename_i n hn
      cases hf : fill (fun i => some (i * n, n)) z.cells parts with
      | none => simp [hf] at h
      | some cs =>
        simp [hf] at h; subst h
        obtain ⟨vs', hfill, hv'⟩ := fill_sound (ρ := ρ) _ parts vparts.toList z.cells cs zv.cells.toList hf (hr ρ).cells hi hx
        refine ⟨.agg vs'.toArray, ?_, by simp only [VRel]; exact ⟨vs', hv', rfl⟩⟩
        simp only [Array.toArray_toList] at hfill
        simp only [Instr.build, Sem.run_bind, hzv, Result.andThen_ok, run_und hS w hu, run_size hS w hn]
        rw [hfill]
        simp
    · cases h
  · cases h

end

end AM
end Go
