/-
  An abstract machine over the model's code: its operations against the model's, the second part.
-/
import Derived.Test.YtogecpdhhlccaaaGreatDoorAmSound1
namespace Go
namespace AM
open Go.RowKit (Below)

theorem add_none (b o n : Nat) : Addr.add ⟨b, o, none⟩ n = ⟨b, o + n, none⟩ := by
  unfold Addr.add; split <;> simp_all

section
variable {P : Program} {S : Sig} (hS : SigOK P S) {ρ : Places} {w0 w : World} {H : AHeap} (hH : HRel ρ w0 H w)

include hS in
theorem part_sound {t : TypeId} {cs : List AV} {vs : List Value} {off : Nat} {x : AV} (h : part S t cs off = some x) (hv : VRelL ρ cs vs) :
    ∃ v, (Go.part t vs.toArray off).run P w = .ok v w ∧ VRel ρ x v := by
  unfold part at h
  have hl := hv.length
  split at h
  · rename_i ha
    split at h
    · rename_i n hn
      split at h
      · cases h
        refine ⟨.agg ((vs.drop off).take n).toArray, ?_, by simp only [VRel]; exact ⟨_, (hv.drop off).take n, rfl⟩⟩
        simp [Go.part, run_agg hS w ha, run_size hS w hn, List.extract_eq_take_drop]
      · cases h
    · cases h
  · rename_i ha
    obtain ⟨v, hv1, hx⟩ := hv.get h
    refine ⟨v, ?_, hx⟩
    simp [Go.part, run_agg hS w ha, hv1]
  · cases h

include hS hH in
theorem buildSlice_sound {t : TypeId} {len : Nat} {parts : List (Nat × AV)} {vparts : Array (Nat × Value)} {x : AV} {H' : AHeap} (h : buildSlice S H t len parts = some (x, H'))
    (hi : parts.map (·.1) = vparts.toList.map (·.1)) (hx : VRelL ρ (parts.map (·.2)) (vparts.toList.map (·.2))) : ValOK P ρ w0 x H' (Instr.buildSlice t len vparts) w := by
  unfold buildSlice at h
  split at h
  · rename_i e hu
    split at h
    · rename_i n z hn hz
      split at h
      · rename_i hc
        simp only [Bool.and_eq_true, blt_iff, ble_iff, beq_iff] at hc
        obtain ⟨⟨hpos, hbig⟩, hlz⟩ := hc
        split at h
        · rename_i cs hf
          cases h
          obtain ⟨zv, hzv, hr⟩ := run_zero hS w hz
          have hc := (hr ρ).cells
          have hcl := hc.length
          simp only [Array.length_toList] at hcl
          obtain ⟨us, hus, hul, hug⟩ := VRelL.repeated len hc
          simp only [Array.length_toList] at hul hug
          have heq : (if len * n = 0 then #[] else (Array.range (len * n)).map (zv.cells[· % zv.cells.size]!)) = us.toArray := by
            apply Array.ext_getElem?
            intro i
            have e1 : us.toArray[i]? = us[i]? := by simp
            rw [e1, hug i, hcl, hlz]
            by_cases hz0 : len * n = 0
            · simp [hz0]
            · rw [if_neg hz0]
              by_cases hlt : i < len * n
              · rw [if_pos hlt]
                have hm : i % n < zv.cells.size := by rw [hcl, hlz]; exact Nat.mod_lt _ hpos
                simp [hlt, hm]
              · rw [if_neg hlt]
                simp [hlt]
          obtain ⟨vs', hfill, hv'⟩ := fill_sound (ρ := ρ) _ parts vparts.toList _ cs us hf hus hi hx
          have hH' := new_row hH hv' e
          refine ⟨_, .slice (some ⟨w.heap.size, 0, none⟩) len len, _, hH.le_with _, ?_, ?_, hH'⟩
          · have hbig' : ¬ len * n > 2 ^ 24 := by omega
            by_cases hz0 : len * n = 0
            · rw [if_pos hz0] at heq
              simp only [Instr.buildSlice, Sem.run_bind, run_und hS w hu, run_size hS w hn, Result.andThen_ok, Sem.run_ite, hz0]
              simp only [Nat.not_lt_zero, gt_iff_lt, if_false, if_true, Sem.run_pure, Result.andThen_ok]
              have : (Array.map (fun x => (#[] : Array Value)[x % (#[] : Array Value).size]!) (Array.range 0)) = us.toArray := by rw [← heq]; simp
              rw [this, hfill]
              simp [newRow]
            · rw [if_neg hz0] at heq
              simp only [Instr.buildSlice, Sem.run_bind, run_und hS w hu, run_size hS w hn, Result.andThen_ok, Sem.run_ite, hz0, hbig', if_false]
              simp only [Sem.run_pure, Result.andThen_ok, hzv]
              rw [heq, hfill]
              simp [newRow]
          · simp only [VRel]
            exact ⟨_, _, _, Places.with_same _ _ _, rfl, .inl ⟨rfl, Nat.le_refl _, rfl⟩⟩
        · cases h
      · cases h
    · cases h
  · cases h

include hS in
theorem field_some {t : TypeId} {f : Nat} {u : TypeId} {o : Nat} (h : S.field t f = some (u, o)) : ∃ fs g, S.und t = some (.struct fs) ∧ fs[f]? = some g ∧ g.type = u ∧ g.offset = o := by
  have _ := hS
  unfold Sig.field at h
  split at h
  · rename_i fs hu
    split at h
    · rename_i g hg
      cases h
      exact ⟨fs, g, hu, hg, rfl, rfl⟩
    · cases h
  · cases h

include hS in
theorem fieldAddr_sound {t : TypeId} {f : Nat} {u : TypeId} {o n r off : Nat} {v : Value} (hf : S.field t f = some (u, o)) (hn : S.size u = some n) (hpos : 0 < n) (hv : VRel ρ (.ptr r off) v) :
    ∃ v', (Instr.fieldAt t v f).run P w = .ok v' w ∧ VRel ρ (.ptr r (off + o)) v' := by
  obtain ⟨fs, g, hu, hg, rfl, rfl⟩ := field_some hS hf
  simp only [VRel] at hv ⊢
  obtain ⟨p, hp, rfl⟩ := hv
  refine ⟨_, ?_, p, hp, rfl⟩
  simp [Instr.fieldAt, run_und hS w hu, hg, Instr.sureAddr, fieldPlace, run_size hS w hn, show ¬ n = 0 from by omega, add_none, Nat.add_assoc]

include hS in
theorem fieldVal_sound {t : TypeId} {f : Nat} {u : TypeId} {o : Nat} {cs : List AV} {x : AV} {v : Value} (hf : S.field t f = some (u, o)) (hx : part S u cs o = some x) (hv : VRel ρ (.agg cs) v) :
    ∃ v', (Instr.field t v f).run P w = .ok v' w ∧ VRel ρ x v' := by
  obtain ⟨fs, g, hu, hg, rfl, rfl⟩ := field_some hS hf
  simp only [VRel] at hv
  obtain ⟨vs, hvs, rfl⟩ := hv
  obtain ⟨v', hrun, hx'⟩ := part_sound hS (w := w) hx hvs
  refine ⟨v', ?_, hx'⟩
  simp [Instr.field, run_und hS w hu, hg, asAgg, hrun]

include hS in
theorem indexAddr_sound {t : TypeId} {x y : AV} {k : IntKind} {i : Int} {v : Value} (h : indexAddr S t x i = some y) (hv : VRel ρ x v) :
    ∃ v', (Instr.indexAt t v (.int k i)).run P w = .ok v' w ∧ VRel ρ y v' := by
  unfold indexAddr at h
  split at h
  · rename_i len e r off hu
    split at h
    · rename_i n hn
      split at h
      · rename_i hc
        cases h
        simp only [Bool.and_eq_true, decide_eq_true_eq] at hc
        simp only [VRel] at hv ⊢
        obtain ⟨p, hp, rfl⟩ := hv
        refine ⟨_, ?_, p, hp, rfl⟩
        simp [Instr.indexAt, asIntOf, run_und hS w hu, Instr.sureAddr, hc, run_size hS w hn, add_none, Nat.add_assoc]
      · cases h
    · cases h
  · rename_i e r off len cap hu
    split at h
    · rename_i n hn
      split at h
      · rename_i hc
        cases h
        simp only [Bool.and_eq_true, decide_eq_true_eq] at hc
        simp only [VRel] at hv ⊢
        obtain ⟨p, a, c, hp, rfl, hs⟩ := hv
        rcases hs with ⟨rfl, _, _⟩ | ⟨h0, _, _⟩
        · refine ⟨_, ?_, p, hp, rfl⟩
          simp [Instr.indexAt, asIntOf, run_und hS w hu, hc, run_size hS w hn, add_none, Nat.add_assoc]
        · omega
      · cases h
    · cases h
  · cases h

include hS in
theorem index_sound {t : TypeId} {x y : AV} {k : IntKind} {i : Int} {v : Value} (h : index S t x i = some y) (hv : VRel ρ x v) :
    ∃ v', (Instr.index t v (.int k i)).run P w = .ok v' w ∧ VRel ρ y v' := by
  unfold index at h
  split at h
  · rename_i len e cs hu
    split at h
    · rename_i n hn
      split at h
      · rename_i hc
        simp only [Bool.and_eq_true, decide_eq_true_eq] at hc
        simp only [VRel] at hv
        obtain ⟨vs, hvs, rfl⟩ := hv
        obtain ⟨v', hrun, hx'⟩ := part_sound hS (w := w) h hvs
        refine ⟨v', ?_, hx'⟩
        simp [Instr.index, asIntOf, run_und hS w hu, hc, run_size hS w hn, hrun]
      · cases h
    · cases h
  · rename_i s hu
    split at h
    · rename_i hc
      split at h
      · rename_i b hb
        cases h
        simp only [VRel] at hv
        subst hv
        refine ⟨.int .u8 b.toNat, ?_, by simp only [VRel]⟩
        have hb' : (⟨s.toArray⟩ : ByteArray)[i.toNat]? = some b := by
          have hlt : i.toNat < s.length := (List.getElem?_eq_some_iff.1 hb).1
          have hlt2 : i.toNat < (⟨s.toArray⟩ : ByteArray).size := by simpa [ByteArray.size] using hlt
          rw [getElem?_pos (⟨s.toArray⟩ : ByteArray) i.toNat hlt2]
          have := (List.getElem?_eq_some_iff.1 hb).2
          exact congrArg some this
        simp [Instr.index, asIntOf, run_und hS w hu, hc, hb']
      · cases h
    · cases h
  · cases h

/-- A bound. -/
theorem bound_sound {x : AV} {v : Value} {top n : Nat} {code : BoundsCode} (h : bound x top = some n) (hv : VRel ρ x v) : (Instr.sliceBound v top code).run P w = .ok n w ∧ n ≤ top := by
  unfold bound at h
  split at h
  · rename_i k i
    split at h
    · rename_i hc
      cases h
      simp only [Bool.and_eq_true, decide_eq_true_eq] at hc
      simp only [VRel] at hv
      subst hv
      exact ⟨by simp [Instr.sliceBound, asIntOf, hc], by omega⟩
    · cases h
  · cases h

theorem bounds_none {len top : Nat} {lo hi : Option AV} {l h' m : Nat} (h : bounds len top lo hi none = some (l, h', m)) : m = top := by
  unfold bounds at h
  simp only at h
  split at h
  · cases h
  · split at h
    · cases h
    · cases h; rfl

/-- The bounds: the model's capacity may be more than what is known. -/
theorem bounds_sound {isSlice : Bool} {len top cap : Nat} {lo hi mx : Option AV} {vlo vhi vmx : Option Value} {l h m : Nat} (hb : bounds len top lo hi mx = some (l, h, m)) (hlt : len ≤ top) (htc : top ≤ cap)
    (hlo : ∀ x, lo = some x → ∃ v, vlo = some v ∧ VRel ρ x v) (hlo' : lo = none → vlo = none)
    (hhi : ∀ x, hi = some x → ∃ v, vhi = some v ∧ VRel ρ x v) (hhi' : hi = none → vhi = none)
    (hmx : ∀ x, mx = some x → ∃ v, vmx = some v ∧ VRel ρ x v) (hmx' : mx = none → vmx = none) :
    (Instr.sliceBounds isSlice len cap vlo vhi vmx).run P w = .ok (l, h, if mx.isSome then m else cap) w ∧ l ≤ h ∧ h ≤ m ∧ m ≤ top := by
  unfold bounds at hb
  split at hb
  · cases hb
  · rename_i m' hm
    split at hb
    · cases hb
    · rename_i h' hh
      split at hb
      · cases hb
      · rename_i l' hl
        cases hb
        have key : ∀ {x : AV} {v : Value} {top top' n : Nat} (code : BoundsCode), bound x top = some n → top ≤ top' → VRel ρ x v → (Instr.sliceBound v top' code).run P w = .ok n w ∧ n ≤ top := by
          intro x v top top' n code a htt b
          have h1 := bound_sound (P := P) (w := w) (code := code) a b
          refine ⟨?_, h1.2⟩
          unfold bound at a
          split at a
          · rename_i k i
            split at a
            · rename_i hc
              cases a
              simp only [Bool.and_eq_true, decide_eq_true_eq] at hc
              simp only [VRel] at b
              subst b
              simp [Instr.sliceBound, asIntOf, show 0 ≤ i ∧ i ≤ (top' : Int) from by omega]
            · cases a
          · cases a
        cases mx with
        | none =>
          simp only [Option.some.injEq] at hm
          subst hm
          have e1 := hmx' rfl
          subst e1
          cases hi with
          | none =>
            simp only [Option.isSome_none, Bool.false_eq_true, if_false, Option.some.injEq] at hh
            subst hh
            have e2 := hhi' rfl
            subst e2
            cases lo with
            | none =>
              simp only [Option.some.injEq] at hl
              subst hl
              have e3 := hlo' rfl
              subst e3
              exact ⟨by simp [Instr.sliceBounds], Nat.zero_le _, hlt, Nat.le_refl _⟩
            | some x =>
              obtain ⟨v, rfl, hv⟩ := hlo x rfl
              have := key .sliceB hl (Nat.le_refl _) hv
              exact ⟨by simp [Instr.sliceBounds, this.1], this.2, hlt, Nat.le_refl _⟩
          | some y =>
            obtain ⟨u, rfl, hu⟩ := hhi y rfl
            have k2 := fun code => key code hh htc hu
            cases lo with
            | none =>
              simp only [Option.some.injEq] at hl
              subst hl
              have e3 := hlo' rfl
              subst e3
              exact ⟨by cases isSlice <;> simp [Instr.sliceBounds, (k2 _).1], Nat.zero_le _, (k2 .index).2, Nat.le_refl _⟩
            | some x =>
              obtain ⟨v, rfl, hv⟩ := hlo x rfl
              have := key .sliceB hl (Nat.le_refl _) hv
              exact ⟨by cases isSlice <;> simp [Instr.sliceBounds, (k2 _).1, this.1], this.2, (k2 .index).2, Nat.le_refl _⟩
        | some z =>
          obtain ⟨q, rfl, hq⟩ := hmx z rfl
          have k1 := fun code => key code hm htc hq
          cases hi with
          | none => simp at hh
          | some y =>
            obtain ⟨u, rfl, hu⟩ := hhi y rfl
            have k2 := fun code => key code hh (Nat.le_refl _) hu
            cases lo with
            | none =>
              simp only [Option.some.injEq] at hl
              subst hl
              have e3 := hlo' rfl
              subst e3
              exact ⟨by cases isSlice <;> simp [Instr.sliceBounds, (k1 _).1, (k2 _).1], Nat.zero_le _, (k2 .index).2, (k1 .index).2⟩
            | some x =>
              obtain ⟨v, rfl, hv⟩ := hlo x rfl
              have := key .slice3C hl (Nat.le_refl _) hv
              exact ⟨by cases isSlice <;> simp [Instr.sliceBounds, (k1 _).1, (k2 _).1, this.1], this.2, (k2 .index).2, (k1 .index).2⟩

end

end AM
end Go
