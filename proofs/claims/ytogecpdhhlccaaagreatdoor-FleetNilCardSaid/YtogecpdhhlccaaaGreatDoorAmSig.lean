/-
  An abstract machine over the model's code: types, loads and stores against the model's.
-/
import Derived.Test.YtogecpdhhlccaaaGreatDoorAmHeap
import Derived.Laws.StructEq
namespace Go
namespace AM
open Go.RowKit (Below)

structure SigOK (P : Program) (S : Sig) : Prop where
  und : ∀ t d, S.und t = some d → P.underlying t = some d
  size : ∀ t n, S.size t = some n → ∃ i, P.info? t = some i ∧ i.size = n
  bytes : ∀ t n, S.bytes t = some n → ∃ i, P.info? t = some i ∧ i.bytes = n
  zero : ∀ t z, S.zero t = some z → ∃ i v, P.info? t = some i ∧ i.zero = some v ∧ ∀ ρ, VRel ρ z v
  guard : ∀ t ks, S.plain t = some ks → P.eqGuardType P.depth t = false
  plain : ∀ t ks, S.plain t = some ks → ∀ ρ (w : World) xs ys vs us b, VRelL ρ xs vs → VRelL ρ ys us → sameCells ks xs ys = some b →
    (Op.equalIn 10000 t (.agg vs.toArray) (.agg us.toArray)).run P w = .ok b w
  keys : ∀ t fs, S.keys t = true → S.und t = some (.struct fs) → ∀ (i : Nat) (f : Go.Field), fs[i]? = some f → f.offset = i ∧ (P.underlying f.type = some .bool ∨ (∃ k, P.underlying f.type = some (.int k)) ∨ P.underlying f.type = some .string)

section
variable {P : Program} {S : Sig} (hS : SigOK P S) (w : World)

include hS in
theorem run_und {t : TypeId} {d : TypeDesc} (h : S.und t = some d) : (underlying t).run P w = .ok d w := run_underlying (hS.und t d h) w

theorem run_info {t : TypeId} {i : TypeInfo} (h : P.info? t = some i) : (typeInfo t).run P w = .ok i w := by simp [typeInfo, h]

include hS in
theorem run_size {t : TypeId} {n : Nat} (h : S.size t = some n) : (sizeOf t).run P w = .ok n w := by
  obtain ⟨i, hi, rfl⟩ := hS.size t n h
  simp [sizeOf, run_info w hi]

include hS in
theorem run_bytes {t : TypeId} {n : Nat} (h : S.bytes t = some n) : ∃ i, (typeInfo t).run P w = .ok i w ∧ i.bytes = n := by
  obtain ⟨i, hi, rfl⟩ := hS.bytes t n h
  exact ⟨i, run_info w hi, rfl⟩

include hS in
theorem run_zero {t : TypeId} {z : AV} (h : S.zero t = some z) : ∃ v, (zeroValue t).run P w = .ok v w ∧ ∀ ρ, VRel ρ z v := by
  obtain ⟨i, v, hi, hv, hr⟩ := hS.zero t z h
  exact ⟨v, by simp [zeroValue, run_info w hi, hv], hr⟩

include hS in
theorem run_agg {t : TypeId} {b : Bool} (h : S.agg t = some b) : (isAgg t).run P w = .ok b w := by
  unfold Sig.agg at h
  unfold isAgg
  cases hd : S.und t with
  | none => simp [hd] at h
  | some d =>
    have hu := run_und hS w hd
    cases d <;> simp [hd] at h <;> subst h <;> simp [hu]

end

theorem ofScalar_sound {v : Value} {x : AV} (h : ofScalar v = some x) (ρ : Places) : VRel ρ x v := by
  unfold ofScalar at h
  split at h <;> cases h <;> simp only [VRel]

theorem ofScalars_sound : ∀ {vs : List Value} {xs : List AV}, ofScalars vs = some xs → ∀ ρ, VRelL ρ xs vs
  | [], xs, h, ρ => by simp only [ofScalars] at h; cases h; exact .nil
  | v :: vs, xs, h, ρ => by
    simp only [ofScalars] at h
    split at h
    · rename_i a as ha has
      cases h
      exact .cons (ofScalar_sound ha ρ) (ofScalars_sound has ρ)
    · cases h

theorem ofConst_sound {v : Value} {x : AV} (h : ofConst v = some x) (ρ : Places) : VRel ρ x v := by
  unfold ofConst at h
  split at h
  · rename_i cs
    cases hc : ofScalars cs.toList with
    | none => simp [hc] at h
    | some xs =>
      simp [hc] at h; subst h
      simp only [VRel]
      exact ⟨cs.toList, ofScalars_sound hc ρ, rfl⟩
  · rename_i vs
    split at h
    · rename_i he
      cases h
      simp only [VRel]
      exact ⟨[], .nil, by simpa using he⟩
    · cases h
  · exact ofScalar_sound h ρ

theorem Sig.of_ok {P : Program} {plain : TypeId → Option (List CellKind)} {keys : TypeId → Bool} (hg : ∀ t ks, plain t = some ks → P.eqGuardType P.depth t = false)
    (hp : ∀ t ks, plain t = some ks → ∀ ρ (w : World) xs ys vs us b, VRelL ρ xs vs → VRelL ρ ys us → sameCells ks xs ys = some b →
      (Op.equalIn 10000 t (.agg vs.toArray) (.agg us.toArray)).run P w = .ok b w)
    (hk : ∀ t fs, keys t = true → P.underlying t = some (.struct fs) → ∀ (i : Nat) (f : Go.Field), fs[i]? = some f → f.offset = i ∧ (P.underlying f.type = some .bool ∨ (∃ k, P.underlying f.type = some (.int k)) ∨ P.underlying f.type = some .string)) : SigOK P (Sig.of P plain keys) where
  und t d h := h
  size t n h := by
    simp only [Sig.of] at h
    cases hi : P.info? t with
    | none => simp [hi] at h
    | some i => simp [hi] at h; exact ⟨i, rfl, h⟩
  bytes t n h := by
    simp only [Sig.of] at h
    cases hi : P.info? t with
    | none => simp [hi] at h
    | some i => simp [hi] at h; exact ⟨i, rfl, h⟩
  zero t z h := by
    simp only [Sig.of] at h
    cases hi : P.info? t with
    | none => simp [hi] at h
    | some i =>
      simp only [hi, Option.bind_some] at h
      cases hz : i.zero with
      | none => simp [hz] at h
      | some v => simp only [hz, Option.bind_some] at h; exact ⟨i, v, rfl, hz, fun ρ => ofConst_sound h ρ⟩
  guard := hg
  plain := hp
  keys := hk

section
variable {P : Program} {S : Sig} (hS : SigOK P S) {ρ : Places} {w0 w : World} {H : AHeap} (hH : HRel ρ w0 H w)

theorem row_some {H : AHeap} {r : Nat} {cs : List AV} {b : Bool} (h : H.row r = some (cs, b)) : H.get r = some (.row cs b) := by
  unfold AHeap.row at h
  split at h
  · rename_i c d e; cases h; exact e
  · cases h

include hH in
theorem row_of {r : Nat} {p : Place} {cs : List AV} {b : Bool} (h : H.row r = some (cs, b)) (hr : ρ r = some p) :
    ∃ c e fr, w.heap[p.blk]? = some (.cells c e fr) ∧ p.base + p.tot ≤ c.size ∧ cs.length ≤ p.tot ∧ (∃ vs, VRelL ρ cs vs ∧ ∀ j, j < cs.length → c[p.base + j]? = vs[j]?) ∧
      (b = true → ∀ j, j < c.size → ¬ (fr.1 ≤ j ∧ j < fr.2)) := by
  obtain ⟨O, hO, hR⟩ := hH.obj r p _ hr (row_some h)
  simp only [ORel] at hR
  obtain ⟨c, e, fr, rfl, h1, h2, h3, h4⟩ := hR
  exact ⟨c, e, fr, hO, h1, h2, h3, h4⟩

include hH in
theorem cells_of {r off n : Nat} {p : Place} {cs : List AV} (h : H.cells r off n = some cs) (hr : ρ r = some p) :
    ∃ vs, VRelL ρ cs vs ∧ vs.length = n ∧ cs.length = n ∧ ∀ P : Program, (loadCells ⟨p.blk, p.base + off, none⟩ n).run P w = .ok vs.toArray w := by
  unfold AHeap.cells at h
  cases hrow : H.row r with
  | none => simp [hrow] at h
  | some x =>
    obtain ⟨all, b⟩ := x
    simp only [hrow] at h
    split at h
    · rename_i hle
      cases h
      obtain ⟨c, e, fr, hb, h1, h2, ⟨vs, hv, hc⟩, _⟩ := row_of hH hrow hr
      have hl := hv.length
      refine ⟨(vs.drop off).take n, (hv.drop off).take n, by simp; omega, by simp; omega, fun P => ?_⟩
      refine run_loadCells hb _ n _ (by simp; omega) fun j hj => ?_
      rw [Nat.add_assoc, hc _ (by omega)]
      simp [hj, List.getElem?_drop]
    · cases h

include hS hH in
theorem loadVar_sound {t : TypeId} {r off : Nat} {p : Place} {x : AV} (h : loadVar S H t r off = some x) (hr : ρ r = some p) :
    ∃ v, (Go.loadVar t ⟨p.blk, p.base + off, none⟩).run P w = .ok v w ∧ VRel ρ x v := by
  unfold loadVar at h
  split at h
  · rename_i ha
    split at h
    · rename_i n hn
      cases hc : H.cells r off n with
      | none => simp [hc] at h
      | some cs =>
        simp [hc] at h; subst h
        obtain ⟨vs, hv, _, _, hrun⟩ := cells_of hH hc hr
        refine ⟨.agg vs.toArray, ?_, by simp only [VRel]; exact ⟨vs, hv, rfl⟩⟩
        simp [Go.loadVar, run_agg hS w ha, run_size hS w hn, hrun]
    · cases h
  · rename_i ha
    split at h
    · rename_i cs b hrow
      obtain ⟨c, e, fr, hb, h1, h2, ⟨vs, hv, hc⟩, _⟩ := row_of hH hrow hr
      obtain ⟨v, hv2, hx⟩ := hv.get h
      have hlt : off < cs.length := (List.getElem?_eq_some_iff.1 h).1
      refine ⟨v, ?_, hx⟩
      have hcell : w.cell? ⟨p.blk, p.base + off, none⟩ = some v := by
        simp only [World.cell?, hb]
        simpa [hc off hlt] using hv2
      simp [Go.loadVar, run_agg hS w ha, hcell]
    · cases h
  · cases h

include hH in
theorem store_sound {r off : Nat} {p : Place} {xs : List AV} {vs : List Value} {H' : AHeap} (h : H.store r off xs = some H') (hr : ρ r = some p) (hx : VRelL ρ xs vs) :
    ∃ w', HRel ρ w0 H' w' ∧ ∀ P : Program, (storeCells ⟨p.blk, p.base + off, none⟩ vs).run P w = .ok () w' := by
  unfold AHeap.store at h
  split at h
  · rename_i cs hrow
    split at h
    · rename_i hc
      cases h
      simp only [Bool.and_eq_true, decide_eq_true_eq, List.all_eq_true] at hc
      obtain ⟨hle, h1⟩ := hc
      obtain ⟨c, e, fr, hb, hb1, hb2, ⟨us, hu, hcu⟩, hfr⟩ := row_of hH hrow hr
      have hl := hx.length
      have hlu := hu.length
      have hone : ∀ v ∈ vs, v.oneCell' = true := by
        intro v hv
        obtain ⟨i, hi⟩ := List.getElem?_of_mem hv
        have hlt : i < xs.length := by have := (List.getElem?_eq_some_iff.1 hi).1; omega
        obtain ⟨u, hu1, hu2⟩ := hx.get (List.getElem?_eq_getElem hlt)
        rw [hi] at hu1; cases hu1
        exact (hu2.oneCell (h1 _ (List.getElem_mem hlt))).1
      have main : ∀ P : Program, ∃ c' w', (storeCells ⟨p.blk, p.base + off, none⟩ vs).run P w = .ok () w' ∧ Changed w p.blk (.cells c' e fr) w' ∧ c'.size = c.size ∧
          ∀ k, c'[k]? = if p.base + off + 0 ≤ k ∧ k < p.base + off + 0 + vs.length then vs[k - (p.base + off + 0)]? else c[k]? :=
        fun P => run_storeCells (P := P) (p.base + off) vs 0 w c hb hone (by omega) (hfr rfl)
      have hdet : ∀ (P P' : Program) (vs : List Value) (a : Addr) (i : Nat) (w : World), (storeCells a vs i).run P w = .ok () w → True := fun _ _ _ _ _ _ _ => trivial
      obtain ⟨c', w', hrun, hch, hs, hg⟩ := main default
      refine ⟨w', ?_, ?_⟩
      · refine hH.put hr (row_some hrow) rfl ?_ hch
        simp only [ORel]
        refine ⟨c', e, fr, rfl, by omega, by simp; omega, ⟨us.take off ++ vs ++ us.drop (off + vs.length), ?_, ?_⟩, fun _ => by rw [hs]; exact hfr rfl⟩
        · rw [hl]; exact ((hu.take off).append hx).append (hu.drop (off + xs.length))
        · intro j hj
          rw [hg]
          simp only [List.length_append, List.length_take, List.length_drop] at hj
          by_cases e1 : j < off
          · rw [if_neg (by omega), hcu j (by omega), List.getElem?_append_left (by simp; omega), List.getElem?_append_left (by simp; omega), List.getElem?_take]
            simp [e1]
          · by_cases e2 : j < off + vs.length
            · rw [if_pos (by omega), List.getElem?_append_left (by simp; omega), List.getElem?_append_right (by simp; omega)]
              congr 1
              simp; omega
            · rw [if_neg (by omega), hcu j (by omega), List.getElem?_append_right (by simp; omega), List.getElem?_drop]
              congr 1
              simp; omega
      · intro P
        have aux : ∀ (vs : List Value) (i : Nat) (w : World) (w' : World), (storeCells ⟨p.blk, p.base + off, none⟩ vs i).run default w = .ok () w' → ∀ c, w.heap[p.blk]? = some (.cells c e fr) →
            (∀ v ∈ vs, v.oneCell' = true) → p.base + off + i + vs.length ≤ c.size → (storeCells ⟨p.blk, p.base + off, none⟩ vs i).run P w = .ok () w' := by
          intro vs
          induction vs with
          | nil => intro i w w' h c _ _ _; simpa [storeCells] using h
          | cons v vs ih =>
            intro i w w' h c hb hone hle
            have ha : (Addr.add ⟨p.blk, p.base + off, none⟩ i) = ⟨p.blk, p.base + off + i, none⟩ := by unfold Addr.add; split <;> simp_all
            simp only [List.length_cons] at hle
            have hlt : p.base + off + i < c.size := by omega
            have hcell : w.cell? ⟨p.blk, p.base + off + i, none⟩ = some c[p.base + off + i] := by simp [World.cell?, hb, hlt]
            simp only [storeCells, Sem.run_bind, ha] at h ⊢
            rw [run_store _ _ _ _ _ (hone v (by simp)), hcell] at h ⊢
            simp only at h ⊢
            split at h
            · simp at h
            · rename_i hf
              rw [if_neg hf]
              simp only [Result.andThen_ok] at h ⊢
              refine ih (i + 1) _ w' h (c.setIfInBounds (p.base + off + i) v) (by simp [World.setCell, Array.getElem?_modify, hb]) (fun u hu => hone u (List.mem_cons_of_mem _ hu)) (by simp; omega)
        exact aux vs 0 w w' hrun c hb hone (by omega)
    · cases h
  · cases h

include hS hH in
theorem storeVar_sound {t : TypeId} {r off : Nat} {p : Place} {x : AV} {v : Value} {H' : AHeap} (h : storeVar S H t r off x = some H') (hr : ρ r = some p) (hx : VRel ρ x v) :
    ∃ w', (Go.storeVar t ⟨p.blk, p.base + off, none⟩ v).run P w = .ok () w' ∧ HRel ρ w0 H' w' := by
  unfold storeVar at h
  split at h
  · rename_i n hn
    split at h
    · rename_i hl
      rw [beq_iff] at hl
      have hc := hx.cells
      have hlen := hc.length
      obtain ⟨w', hw', hrun⟩ := store_sound hH h hr hc
      refine ⟨w', ?_, hw'⟩
      simp only [Array.length_toList] at hlen
      simp [Go.storeVar, run_size hS w hn, show v.cells.size = n from by omega, hrun]
    · cases h
  · cases h

end

end AM
end Go
