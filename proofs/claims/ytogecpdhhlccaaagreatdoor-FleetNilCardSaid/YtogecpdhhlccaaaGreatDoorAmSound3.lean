/-
  An abstract machine over the model's code: its operations against the model's, the third part.
-/
import Derived.Test.YtogecpdhhlccaaaGreatDoorAmSound2
namespace Go
namespace AM
open Go.RowKit (Below)

section
variable {P : Program} {S : Sig} (hS : SigOK P S) {ρ : Places} {w0 w : World} {H : AHeap} (hH : HRel ρ w0 H w)

theorem extract_bytes (s : List UInt8) (l h : Nat) : (⟨s.toArray⟩ : ByteArray).extract l h = ⟨((s.drop l).take (h - l)).toArray⟩ := by
  apply ByteArray.ext
  simp [ByteArray.data_extract, List.extract_eq_take_drop]

include hS in
theorem slice_sound {t : TypeId} {x y : AV} {lo hi mx : Option AV} {v : Value} {vlo vhi vmx : Option Value} (h : slice S t x lo hi mx = some y) (hv : VRel ρ x v)
    (hlo : ∀ x, lo = some x → ∃ v, vlo = some v ∧ VRel ρ x v) (hlo' : lo = none → vlo = none)
    (hhi : ∀ x, hi = some x → ∃ v, vhi = some v ∧ VRel ρ x v) (hhi' : hi = none → vhi = none)
    (hmx : ∀ x, mx = some x → ∃ v, vmx = some v ∧ VRel ρ x v) (hmx' : mx = none → vmx = none) :
    ∃ v', (Instr.sliceAt t v vlo vhi vmx).run P w = .ok v' w ∧ VRel ρ y v' := by
  unfold slice at h
  split at h
  · -- a string
    rename_i s hu
    split at h
    · cases h
    · rename_i hm
      split at h
      · rename_i l h' m hb
        cases h
        simp only [VRel] at hv
        subst hv
        have e1 : mx = none := by cases mx <;> simp_all
        subst e1
        have e2 := hmx' rfl
        subst e2
        have := bounds_sound (P := P) (w := w) (isSlice := false) hb (Nat.le_refl _) (Nat.le_refl _) hlo hlo' hhi hhi' hmx hmx'
        have hsz : (⟨s.toArray⟩ : ByteArray).size = s.length := by simp [ByteArray.size]
        refine ⟨.string ((⟨s.toArray⟩ : ByteArray).extract l h'), ?_, by simp only [VRel]; rw [extract_bytes]⟩
        simp [Instr.sliceAt, run_und hS w hu, Instr.slice, hsz, this.1]
      · cases h
  · -- the nil slice
    rename_i e hu
    split at h
    · rename_i n r hn hb
      cases h
      obtain ⟨l, h', m⟩ := r
      simp only [VRel] at hv
      subst hv
      have := bounds_sound (P := P) (w := w) (isSlice := true) hb (Nat.le_refl _) (Nat.le_refl _) hlo hlo' hhi hhi' hmx hmx'
      have hl : l = 0 := by omega
      have hh : h' = 0 := by omega
      have hm : m = 0 := by omega
      subst hl hh hm
      have hz : (if mx.isSome = true then 0 else 0) = 0 := by split <;> rfl
      rw [hz] at this
      refine ⟨.slice none 0 0, ?_, by simp only [VRel]⟩
      simp [Instr.sliceAt, run_und hS w hu, Instr.slice, this.1, run_size hS w hn]
    · cases h
  · -- a slice
    rename_i e r off len cap hu
    split at h
    · rename_i n hn
      simp only [VRel] at hv
      obtain ⟨p, a, c, hp, rfl, hsl⟩ := hv
      split at h
      · rename_i k
        split at h
        · rename_i l h' m hb
          cases h
          have hkc : k = c ∧ len ≤ k := by
            rcases hsl with ⟨_, hle, hk⟩ | ⟨h0, hc0, hk⟩
            · simp only at hk; omega
            · rcases hk with hk | ⟨n, hk, _⟩
              · cases hk; omega
              · cases hk
          obtain ⟨rfl, hlen⟩ := hkc
          have := bounds_sound (P := P) (w := w) (isSlice := true) hb hlen (Nat.le_refl _) hlo hlo' hhi hhi' hmx hmx'
          have hmm : (if mx.isSome = true then m else k) = m := by
            cases mx with
            | some z => simp
            | none => simp [bounds_none hb]
          rw [hmm] at this
          refine ⟨.slice (some (if m = l then a else a.add (l * n))) (h' - l) (m - l), ?_, ?_⟩
          · simp only [Instr.sliceAt, Sem.run_bind, run_und hS w hu, Result.andThen_ok, Instr.slice, this.1, run_size hS w hn, Sem.run_pure]
            split <;> rfl
          · simp only [VRel]
            refine ⟨p, _, _, hp, rfl, ?_⟩
            by_cases e1 : m = l
            · exact .inr ⟨by omega, by omega, .inl (by rw [e1]; simp)⟩
            · rw [if_neg e1]
              rcases hsl with ⟨rfl, _, _⟩ | ⟨h0, hc0, _⟩
              · exact .inl ⟨by rw [add_none, Nat.add_assoc], by omega, rfl⟩
              · omega
        · cases h
      · rename_i k
        split at h
        · rename_i hk
          rw [beq_iff] at hk
          subst hk
          split at h
          · rename_i l h' m hb
            cases h
            have hlen : len ≤ c := by
              rcases hsl with ⟨_, hle, _⟩ | ⟨h0, hc0, _⟩ <;> omega
            have hpos : 0 < k := by
              rcases hsl with ⟨_, _, hk, _⟩ | ⟨_, _, hk | ⟨n, hk, hp⟩⟩
              · exact hk
              · cases hk
              · cases hk; exact hp
            have := bounds_sound (P := P) (w := w) (isSlice := true) hb (Nat.le_refl _) hlen hlo hlo' hhi hhi' hmx hmx'
            cases mx with
            | some z =>
              simp only [Option.isSome_some, if_true] at this ⊢
              refine ⟨.slice (some (if m = l then a else a.add (l * k))) (h' - l) (m - l), ?_, ?_⟩
              · simp only [Instr.sliceAt, Sem.run_bind, run_und hS w hu, Result.andThen_ok, Instr.slice, this.1, run_size hS w hn, Sem.run_pure]
                split <;> rfl
              · simp only [VRel]
                refine ⟨p, _, _, hp, rfl, ?_⟩
                by_cases e1 : m = l
                · exact .inr ⟨by omega, by omega, .inl (by rw [e1]; simp)⟩
                · rw [if_neg e1]
                  rcases hsl with ⟨rfl, _, _⟩ | ⟨h0, hc0, _⟩
                  · exact .inl ⟨by rw [add_none, Nat.add_assoc], by omega, rfl⟩
                  · omega
            | none =>
              simp only [Option.isSome_none, Bool.false_eq_true, if_false] at this ⊢
              refine ⟨.slice (some (if c = l then a else a.add (l * k))) (h' - l) (c - l), ?_, ?_⟩
              · simp only [Instr.sliceAt, Sem.run_bind, run_und hS w hu, Result.andThen_ok, Instr.slice, this.1, run_size hS w hn, Sem.run_pure]
                split <;> rfl
              · simp only [VRel]
                refine ⟨p, _, _, hp, rfl, ?_⟩
                by_cases e1 : c = l
                · exact .inr ⟨by omega, by omega, .inr ⟨k, rfl, hpos⟩⟩
                · rw [if_neg e1]
                  rcases hsl with ⟨rfl, _, _, hot, hcc⟩ | ⟨h0, hc0, _⟩
                  · have hlc : l ≤ c := by omega
                    have hmul : l * k ≤ p.tot - off := by
                      have : c * k ≤ p.tot - off := by rw [hcc]; exact Nat.div_mul_le_self _ _
                      exact Nat.le_trans (Nat.mul_le_mul_right k hlc) this
                    refine .inl ⟨by rw [add_none, Nat.add_assoc], by omega, hpos, by omega, ?_⟩
                    rw [hcc, show p.tot - (off + l * k) = (p.tot - off) - l * k from by omega, Nat.mul_comm l k, Nat.sub_mul_div]
                  · omega
          · cases h
        · cases h
    · cases h
  · -- an array behind a pointer
    rename_i arr r off hu
    split at h
    · rename_i k e hua
      split at h
      · rename_i n l h' m hn hb
        cases h
        simp only [VRel] at hv
        obtain ⟨p, hp, rfl⟩ := hv
        have := bounds_sound (P := P) (w := w) (isSlice := false) hb (Nat.le_refl _) (Nat.le_refl _) hlo hlo' hhi hhi' hmx hmx'
        have hmm : (if mx.isSome = true then m else k) = m := by
          cases mx with
          | some z => simp
          | none => simp [bounds_none hb]
        rw [hmm] at this
        refine ⟨.slice (some (if m = l then ⟨p.blk, p.base + off, none⟩ else Addr.add ⟨p.blk, p.base + off, none⟩ (l * n))) (h' - l) (m - l), ?_, ?_⟩
        · simp only [Instr.sliceAt, Sem.run_bind, run_und hS w hu, Result.andThen_ok, Instr.slice, run_und hS w hua, asAddr, Sem.run_pure, this.1, run_size hS w hn]
        · simp only [VRel]
          refine ⟨p, _, _, hp, rfl, ?_⟩
          by_cases e1 : m = l
          · exact .inr ⟨by omega, by omega, .inl (by rw [e1]; simp)⟩
          · rw [if_neg e1]
            exact .inl ⟨by rw [add_none, Nat.add_assoc], by omega, rfl⟩
      · cases h
    · cases h
  · -- an array variable
    rename_i k e r off hu
    split at h
    · rename_i n l h' m hn hb
      cases h
      simp only [VRel] at hv
      obtain ⟨p, hp, rfl⟩ := hv
      have := bounds_sound (P := P) (w := w) (isSlice := false) hb (Nat.le_refl _) (Nat.le_refl _) hlo hlo' hhi hhi' hmx hmx'
      have hmm : (if mx.isSome = true then m else k) = m := by
        cases mx with
        | some z => simp
        | none => simp [bounds_none hb]
      rw [hmm] at this
      refine ⟨.slice (some (if m = l then ⟨p.blk, p.base + off, none⟩ else Addr.add ⟨p.blk, p.base + off, none⟩ (l * n))) (h' - l) (m - l), ?_, ?_⟩
      · simp only [Instr.sliceAt, Sem.run_bind, run_und hS w hu, Result.andThen_ok, Instr.sureAddr, Sem.run_pure, this.1, run_size hS w hn]
      · simp only [VRel]
        refine ⟨p, _, _, hp, rfl, ?_⟩
        by_cases e1 : m = l
        · exact .inr ⟨by omega, by omega, .inl (by rw [e1]; simp)⟩
        · rw [if_neg e1]
          exact .inl ⟨by rw [add_none, Nat.add_assoc], by omega, rfl⟩
    · cases h
  · cases h

end

end AM
end Go
