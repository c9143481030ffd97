/-
  An abstract machine over the model's code: the orders that may be drawn.
-/
import Derived.Test.YtogecpdhhlccaaaGreatDoorAmCalm
import Derived.Orders
namespace Go
namespace AM

/-- An order of what is left. -/
def Ord (ops : Array Oper) : List Nat → Prop
  | [] => True
  | i :: r => i < ops.size ∧ i ∉ r ∧ (∀ p ∈ predsAt ops i, p ∉ i :: r) ∧ Ord ops r

def unl (l : Array Bool) : Nat → Nat
  | 0 => 0
  | k + 1 => unl l k + (if l.getD k true then 0 else 1)

theorem unl_set_ge {l : Array Bool} {i : Nat} : ∀ {k : Nat}, k ≤ i → unl (l.setIfInBounds i true) k = unl l k
  | 0, _ => rfl
  | k + 1, h => by
    simp only [unl]
    rw [unl_set_ge (by omega), getD_set_ne true (by omega)]

theorem unl_set {l : Array Bool} {i : Nat} (hi : l.getD i true = false) : ∀ {k : Nat}, i < k → unl (l.setIfInBounds i true) k + 1 = unl l k
  | 0, h => by omega
  | k + 1, h => by
    simp only [unl]
    by_cases e : i = k
    · subst e
      have hlt : i < l.size := by
        rcases Nat.lt_or_ge i l.size with h' | h'
        · exact h'
        · simp [Array.getElem?_eq_none h'] at hi
      rw [unl_set_ge (Nat.le_refl _), hi]
      simp [hlt]
    · rw [getD_set_ne true e]
      have := unl_set hi (k := k) (by omega)
      omega

theorem unl_le (l : Array Bool) : ∀ k, unl l k ≤ k
  | 0 => Nat.le_refl _
  | k + 1 => by
    simp only [unl]
    have := unl_le l k
    split <;> omega

theorem unl_zero {l : Array Bool} : ∀ {k : Nat}, unl l k = 0 → ∀ i, i < k → l.getD i true = true
  | 0, _, i, hi => by omega
  | k + 1, h, i, hi => by
    simp only [unl] at h
    by_cases e : i = k
    · subst e
      cases hb : l.getD i true with
      | true => rfl
      | false => rw [hb] at h; simp at h
    · exact unl_zero (k := k) (by omega) i (by omega)

variable {ops : Array Oper}

theorem go_spec (hb : ∀ i, ∀ p ∈ predsAt ops i, p < i) : ∀ (fuel t : Nat) (listed : Array Bool), listed.size = ops.size → unl listed ops.size ≤ fuel →
    let r := Region.linearise.go .any ops fuel t listed []
    Ord ops r ∧ ∀ i, i ∈ r ↔ i < ops.size ∧ listed.getD i true = false
  | 0, t, listed, hs, hu => by
    simp only [Region.linearise.go, List.reverse_nil, Ord, true_and, List.not_mem_nil, false_iff, not_and]
    intro i hi h
    rw [unl_zero (by omega) i hi] at h
    cases h
  | fuel + 1, t, listed, hs, hu => by
    simp only [Region.linearise.go]
    change let r := (match (Region.ready .any ops listed)[t % (Region.ready .any ops listed).length]? with
      | some i => Region.linearise.go .any ops fuel (t / (Region.ready .any ops listed).length) (listed.setIfInBounds i true) [i]
      | none => [].reverse); Ord ops r ∧ ∀ i, i ∈ r ↔ i < ops.size ∧ listed.getD i true = false
    cases hi : (Region.ready .any ops listed)[t % (Region.ready .any ops listed).length]? with
    | none =>
      have hnil : Region.ready .any ops listed = [] := by
        cases hr : Region.ready .any ops listed with
        | nil => rfl
        | cons x xs =>
          rw [hr] at hi
          have hlt : t % (x :: xs).length < (x :: xs).length := Nat.mod_lt _ (by simp)
          simp at hi
          simp at hlt
          omega
      simp only [List.reverse_nil, Ord, true_and, List.not_mem_nil, false_iff, not_and]
      intro i
      induction i using Nat.strongRecOn with
      | _ i ih =>
        intro hlt hf
        have : i ∈ Region.ready .any ops listed := by
          rw [mem_ready]
          refine ⟨hf, ops[i], by simp [hlt], fun e he hbd => ?_⟩
          have hp : e.on ∈ predsAt ops i := preds_mem.2 ⟨ops[i], by simp [hlt], e, he, hbd, rfl⟩
          have hl := hb i _ hp
          have := ih e.on hl (by omega)
          cases hg : listed.getD e.on true with
          | false => exact absurd hg this
          | true =>
            have hsz : e.on < listed.size := by omega
            simpa [hsz] using hg
        rw [hnil] at this
        cases this
    | some i =>
      have hmem := List.mem_of_getElem? hi
      obtain ⟨hun, o, ho, hall⟩ := mem_ready.1 hmem
      have hin : i < ops.size := (Array.getElem?_eq_some_iff.1 ho).1
      have ih := go_spec hb fuel (t / (Region.ready .any ops listed).length) (listed.setIfInBounds i true) (by simpa using hs) (by have := unl_set hun hin; omega)
      simp only at ih ⊢
      rw [linearise_go_acc, List.reverse_singleton, List.singleton_append]
      obtain ⟨h1, h2⟩ := ih
      have hself : (listed.setIfInBounds i true).getD i true = true := by
        cases hg : (listed.setIfInBounds i true).getD i true with
        | true => rfl
        | false =>
          have hsz : i < listed.size := by omega
          simp [hsz] at hg
      have hni : i ∉ Region.linearise.go .any ops fuel (t / (Region.ready .any ops listed).length) (listed.setIfInBounds i true) [] := by
        intro hm
        have := ((h2 i).1 hm).2
        rw [hself] at this
        cases this
      refine ⟨⟨hin, hni, fun p hp hm => ?_, h1⟩, fun j => ?_⟩
      · obtain ⟨o', ho', e, he, hbd, rfl⟩ := preds_mem.1 hp
        cases ho.symm.trans ho'
        have hl := hall e he hbd
        rcases List.mem_cons.1 hm with e1 | hm
        · have := hb i _ hp
          omega
        · have h3 := ((h2 _).1 hm).2
          have hne : i ≠ e.on := by have := hb i _ hp; omega
          rw [getD_set_ne true hne] at h3
          have hsz : e.on < listed.size := by have := hb i _ hp; omega
          simp [hsz] at hl h3
          rw [hl] at h3
          cases h3
      · rw [List.mem_cons, h2]
        by_cases e : j = i
        · subst e
          simp [hin, hun]
        · rw [getD_set_ne true (Ne.symm e)]
          simp [e]

theorem linearise_spec (hb : ∀ i, ∀ p ∈ predsAt ops i, p < i) (t : Nat) : Ord ops (Region.linearise .any ops t) ∧ ∀ i, i ∈ Region.linearise .any ops t ↔ i < ops.size := by
  have := go_spec hb ops.size t (Array.replicate ops.size false) (by simp) (unl_le _ _)
  simp only at this
  refine ⟨this.1, fun i => ?_⟩
  rw [show Region.linearise .any ops t = Region.linearise.go .any ops ops.size t (Array.replicate ops.size false) [] from rfl, this.2]
  constructor
  · exact fun h => h.1
  · intro h
    refine ⟨h, ?_⟩
    rw [Array.getD_eq_getD_getElem?, Array.getElem?_replicate]
    simp [h]

end AM
end Go
