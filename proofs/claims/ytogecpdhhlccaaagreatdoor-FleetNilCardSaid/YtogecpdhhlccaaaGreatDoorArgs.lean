/-
  What an argument of a law is, for the abstract machine.
-/
import Derived.Test.YtogecpdhhlccaaaGreatDoorLawRow
namespace Go.AM
open Go.RowKit (Below)

section
variable {P : Program} {W : World} {r : Reach} {base : Nat}

theorem ok_int {t : TypeId} {k : IntKind} {v : Value} (ht : P.underlying t = some (.int k)) (h : Cell.okWide P W r base t v) : ∃ n, v = .int k n ∧ k.min ≤ n ∧ n ≤ k.max := by
  unfold Cell.okWide at h
  rw [ht] at h
  simp only at h
  unfold Cell.ok at h
  rw [ht] at h
  cases v <;> first | exact h.elim | (obtain ⟨rfl, h⟩ := h; exact ⟨_, rfl, h⟩)

theorem ok_bool {t : TypeId} {v : Value} (ht : P.underlying t = some .bool) (h : Cell.okWide P W r base t v) : ∃ b, v = .bool b := by
  unfold Cell.okWide at h
  rw [ht] at h
  simp only at h
  unfold Cell.ok at h
  rw [ht] at h
  cases v <;> first | exact h.elim | exact ⟨_, rfl⟩

theorem ok_str {t : TypeId} {v : Value} (ht : P.underlying t = some .string) (h : Cell.okWide P W r base t v) : ∃ s : List UInt8, v = .string ⟨s.toArray⟩ := by
  unfold Cell.okWide at h
  rw [ht] at h
  simp only at h
  unfold Cell.ok at h
  rw [ht] at h
  cases v <;> first | exact h.elim | exact ⟨(‹ByteArray›).data.toList, rfl⟩

/-- A slice, nil or not. -/
theorem ok_slice {t e : TypeId} {v : Value} (ht : P.underlying t = some (.slice e)) (h : Cell.okWide P W r base t v) :
    v = .slice none 0 0 ∨ ∃ b off len cap, v = .slice (some ⟨b, off, none⟩) len cap ∧ len ≤ cap := by
  unfold Cell.okWide at h
  rw [ht] at h
  simp only at h
  unfold Cell.ok at h
  rw [ht] at h
  cases v with
  | slice a len cap =>
    cases a with
    | none =>
      cases len with
      | zero =>
        cases cap with
        | zero => exact .inl rfl
        | succ _ => exact h.elim
      | succ _ => exact h.elim
    | some a =>
      obtain ⟨hl, _, _, hsp, _⟩ := h
      obtain ⟨b, off, spot⟩ := a
      cases hsp
      exact .inr ⟨b, off, len, cap, rfl, hl⟩
  | _ => exact h.elim

/-- The cells of a struct. -/
theorem ok_agg {t : TypeId} {v : Value} {ts : List TypeId} {fs : Array Field} (ht : P.underlying t = some (.struct fs)) (hc : P.cellTypes P.depth t = some ts) (hn : P.cellsOf t = ts.length) (h : Value.okWide P W r base t v) :
    ∃ cs : List Value, v = .agg cs.toArray ∧ cs.length = ts.length ∧ ∀ (i : Nat) (u : TypeId) (x : Value), ts[i]? = some u → cs[i]? = some x → Cell.okWide P W r base u x := by
  unfold Value.okWide at h
  rw [ht] at h
  obtain ⟨cs, rfl, hs, ts', h1, _, h3⟩ := h
  rw [hc] at h1
  cases h1
  refine ⟨cs.toList, by simp, by simp [hs, hn], fun i u x hu hx => ?_⟩
  have hi : i < ts.length := (List.getElem?_eq_some_iff.1 hu).1
  obtain ⟨u', hu', hx'⟩ := h3 i x (by simpa using hx)
  rw [Nat.mod_eq_of_lt hi, hu] at hu'
  cases hu'
  exact hx'

/-- A slice against a name. -/
theorem rel_slice {ρ : Places} {n b off len cap : Nat} {tot : Nat} {x : Value} (h : ρ n = some ⟨b, off, tot, x⟩) (hl : len ≤ cap) : VRel ρ (.slice n 0 len (.exact cap)) (.slice (some ⟨b, off, none⟩) len cap) := by
  simp only [VRel]
  exact ⟨_, _, _, h, rfl, .inl ⟨rfl, hl, rfl⟩⟩

end

end Go.AM
