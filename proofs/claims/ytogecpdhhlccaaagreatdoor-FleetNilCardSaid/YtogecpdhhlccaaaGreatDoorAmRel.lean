/-
  An abstract machine over the model's code: what its heap says of the model's world.
-/
import Derived.Test.YtogecpdhhlccaaaGreatDoorAmStep
import Derived.Below
import Derived.Laws.Sem
namespace Go
namespace AM
open Go.RowKit (Below)

theorem blt_iff {a b : Nat} : Nat.blt a b = true ↔ a < b := by
  unfold Nat.blt; rw [Nat.ble_eq]; omega
theorem ble_iff {a b : Nat} : Nat.ble a b = true ↔ a ≤ b := by rw [Nat.ble_eq]
theorem beq_iff {a b : Nat} : Nat.beq a b = true ↔ a = b := by rw [Nat.beq_eq]

/-- Where a name's cells lie: a block, the first cell, how many cells there are from there on. -/
structure Place where
  blk : Nat
  base : Nat
  tot : Nat
  /-- what a name of a value stands for -/
  val : Value

abbrev Places := Nat → Option Place

def Places.le (ρ σ : Places) : Prop := ∀ r p, ρ r = some p → σ r = some p

theorem Places.le_refl (ρ : Places) : ρ.le ρ := fun _ _ h => h
theorem Places.le_trans {ρ σ τ : Places} (h : ρ.le σ) (k : σ.le τ) : ρ.le τ := fun r p e => k r p (h r p e)

/-- Where a slice's cells lie, and its capacity. -/
def SliceAt (p : Place) (off len : Nat) (cap : Cap) (a : Addr) (c : Nat) : Prop :=
  (a = ⟨p.blk, p.base + off, none⟩ ∧ len ≤ c ∧ match cap with
    | .exact k => c = k
    | .more n => 0 < n ∧ off ≤ p.tot ∧ c = (p.tot - off) / n) ∨
  (len = 0 ∧ c = 0 ∧ (cap = .exact 0 ∨ ∃ n, cap = .more n ∧ 0 < n))

mutual
def VRel (ρ : Places) : AV → Value → Prop
  | .bool b, v => v = .bool b
  | .int k n, v => v = .int k n
  | .str s, v => v = .string ⟨s.toArray⟩
  | .nilptr, v => v = .pointer none
  | .ptr r off, v => ∃ p, ρ r = some p ∧ v = .pointer (some ⟨p.blk, p.base + off, none⟩)
  | .nilslice, v => v = .slice none 0 0
  | .slice r off len cap, v => ∃ p a c, ρ r = some p ∧ v = .slice (some a) len c ∧ SliceAt p off len cap a c
  | .nilmap, v => v = .map none
  | .map r, v => ∃ p, ρ r = some p ∧ v = .map (some p.blk)
  | .func f cs, v => ∃ vs, VRelL ρ cs vs ∧ v = .func (.func f) #[] vs.toArray
  | .yield l, v => ∃ p, ρ l = some p ∧ v = .func (.yield p.blk) #[] #[]
  | .nilfunc, v => v = .nilFunc
  | .iface t x, v => ∃ y, VRel ρ x y ∧ v = .iface t y
  | .nilif, v => v = .nilIface
  | .agg cs, v => ∃ vs, VRelL ρ cs vs ∧ v = .agg vs.toArray
  | .tuple cs, v => ∃ vs, VRelL ρ cs vs ∧ v = .tuple vs.toArray
  | .sym r, v => ∃ p, ρ r = some p ∧ v = p.val ∧ held v = true
def VRelL (ρ : Places) : List AV → List Value → Prop
  | [], vs => vs = []
  | x :: xs, vs => ∃ v rest, vs = v :: rest ∧ VRel ρ x v ∧ VRelL ρ xs rest
end

mutual
theorem VRel.mono {ρ σ : Places} (h : ρ.le σ) : ∀ (x : AV) {v : Value}, VRel ρ x v → VRel σ x v
  | .bool _, _, e => by simpa only [VRel] using e
  | .int _ _, _, e => by simpa only [VRel] using e
  | .str _, _, e => by simpa only [VRel] using e
  | .nilptr, _, e => by simpa only [VRel] using e
  | .ptr r off, _, e => by
    simp only [VRel] at e ⊢
    obtain ⟨p, hp, e⟩ := e
    exact ⟨p, h _ _ hp, e⟩
  | .nilslice, _, e => by simpa only [VRel] using e
  | .slice r off len cap, _, e => by
    simp only [VRel] at e ⊢
    obtain ⟨p, a, c, hp, e⟩ := e
    exact ⟨p, a, c, h _ _ hp, e⟩
  | .nilmap, _, e => by simpa only [VRel] using e
  | .map r, _, e => by
    simp only [VRel] at e ⊢
    obtain ⟨p, hp, e⟩ := e
    exact ⟨p, h _ _ hp, e⟩
  | .func f cs, _, e => by
    simp only [VRel] at e ⊢
    obtain ⟨vs, hv, e⟩ := e
    exact ⟨vs, VRelL.mono h cs hv, e⟩
  | .yield l, _, e => by
    simp only [VRel] at e ⊢
    obtain ⟨p, hp, e⟩ := e
    exact ⟨p, h _ _ hp, e⟩
  | .nilfunc, _, e => by simpa only [VRel] using e
  | .iface t x, _, e => by
    simp only [VRel] at e ⊢
    obtain ⟨y, hy, e⟩ := e
    exact ⟨y, VRel.mono h x hy, e⟩
  | .nilif, _, e => by simpa only [VRel] using e
  | .agg cs, _, e => by
    simp only [VRel] at e ⊢
    obtain ⟨vs, hv, e⟩ := e
    exact ⟨vs, VRelL.mono h cs hv, e⟩
  | .tuple cs, _, e => by
    simp only [VRel] at e ⊢
    obtain ⟨vs, hv, e⟩ := e
    exact ⟨vs, VRelL.mono h cs hv, e⟩
  | .sym r, _, e => by
    simp only [VRel] at e ⊢
    obtain ⟨p, hp, e⟩ := e
    exact ⟨p, h _ _ hp, e⟩
theorem VRelL.mono {ρ σ : Places} (h : ρ.le σ) : ∀ (xs : List AV) {vs : List Value}, VRelL ρ xs vs → VRelL σ xs vs
  | [], _, e => by simpa only [VRelL] using e
  | x :: xs, _, e => by
    simp only [VRelL] at e ⊢
    obtain ⟨v, rest, e, hv, hr⟩ := e
    exact ⟨v, rest, e, VRel.mono h x hv, VRelL.mono h xs hr⟩
end

section lists
variable {ρ : Places}

theorem VRelL.nil : VRelL ρ [] [] := by simp only [VRelL]

theorem VRelL.cons {x : AV} {v : Value} {xs : List AV} {vs : List Value} (h : VRel ρ x v) (hs : VRelL ρ xs vs) : VRelL ρ (x :: xs) (v :: vs) := by
  simp only [VRelL]; exact ⟨v, vs, rfl, h, hs⟩

theorem VRelL.uncons {x : AV} {xs : List AV} {vs : List Value} (h : VRelL ρ (x :: xs) vs) : ∃ v rest, vs = v :: rest ∧ VRel ρ x v ∧ VRelL ρ xs rest := by
  simpa only [VRelL] using h

theorem VRelL.length : ∀ {xs : List AV} {vs : List Value}, VRelL ρ xs vs → vs.length = xs.length
  | [], _, h => by simp only [VRelL] at h; subst h; rfl
  | x :: xs, _, h => by
    obtain ⟨v, rest, rfl, _, hr⟩ := h.uncons
    simp [VRelL.length hr]

theorem VRelL.get : ∀ {xs : List AV} {vs : List Value}, VRelL ρ xs vs → ∀ {i : Nat} {x : AV}, xs[i]? = some x → ∃ v, vs[i]? = some v ∧ VRel ρ x v
  | [], _, _, i, x, e => by simp at e
  | y :: xs, _, h, i, x, e => by
    obtain ⟨v, rest, rfl, hv, hr⟩ := h.uncons
    cases i with
    | zero => simp at e; subst e; exact ⟨v, by simp, hv⟩
    | succ i => simp at e; obtain ⟨u, hu, hx⟩ := VRelL.get hr e; exact ⟨u, by simpa using hu, hx⟩

theorem VRelL.append : ∀ {xs : List AV} {vs : List Value} {ys : List AV} {us : List Value}, VRelL ρ xs vs → VRelL ρ ys us → VRelL ρ (xs ++ ys) (vs ++ us)
  | [], _, _, _, h, k => by simp only [VRelL] at h; subst h; simpa using k
  | x :: xs, _, _, _, h, k => by
    obtain ⟨v, rest, rfl, hv, hr⟩ := h.uncons
    simp only [List.cons_append]
    exact .cons hv (VRelL.append hr k)

theorem VRelL.take : ∀ {xs : List AV} {vs : List Value} (n : Nat), VRelL ρ xs vs → VRelL ρ (xs.take n) (vs.take n)
  | [], _, n, h => by simp only [VRelL] at h; subst h; simp [VRelL.nil]
  | x :: xs, _, n, h => by
    obtain ⟨v, rest, rfl, hv, hr⟩ := h.uncons
    cases n with
    | zero => simp [VRelL.nil]
    | succ n => simp only [List.take_succ_cons]; exact .cons hv (VRelL.take n hr)

theorem VRelL.drop : ∀ {xs : List AV} {vs : List Value} (n : Nat), VRelL ρ xs vs → VRelL ρ (xs.drop n) (vs.drop n)
  | [], _, n, h => by simp only [VRelL] at h; subst h; simp [VRelL.nil]
  | x :: xs, _, n, h => by
    obtain ⟨v, rest, rfl, hv, hr⟩ := h.uncons
    cases n with
    | zero => simpa using h
    | succ n => simp only [List.drop_succ_cons]; exact VRelL.drop n hr

theorem VRelL.set : ∀ {xs : List AV} {vs : List Value} (i : Nat) {x : AV} {v : Value}, VRelL ρ xs vs → VRel ρ x v → VRelL ρ (xs.set i x) (vs.set i v)
  | [], _, i, _, _, h, _ => by simp only [VRelL] at h; subst h; simp [VRelL.nil]
  | y :: xs, _, i, _, _, h, hx => by
    obtain ⟨u, rest, rfl, hu, hr⟩ := h.uncons
    cases i with
    | zero => simp only [List.set_cons_zero]; exact .cons hx hr
    | succ i => simp only [List.set_cons_succ]; exact .cons hu (VRelL.set i hr hx)

theorem VRelL.of_get : ∀ {xs : List AV} {vs : List Value}, vs.length = xs.length → (∀ (i : Nat) (x : AV), xs[i]? = some x → ∃ v, vs[i]? = some v ∧ VRel ρ x v) → VRelL ρ xs vs
  | [], vs, hl, _ => by cases vs <;> simp_all [VRelL.nil]
  | x :: xs, vs, hl, h => by
    cases vs with
    | nil => simp at hl
    | cons v vs =>
      obtain ⟨u, hu, hx⟩ := h 0 x (by simp)
      simp at hu; subst hu
      exact .cons hx (VRelL.of_get (by simpa using hl) fun i y e => by simpa using h (i + 1) y (by simpa using e))

theorem VRelL.repeated (n : Nat) {xs : List AV} {vs : List Value} (h : VRelL ρ xs vs) : ∃ us, VRelL ρ (repeated n xs) us ∧ us.length = n * vs.length ∧ ∀ i, us[i]? = if i < n * vs.length then vs[i % vs.length]? else none := by
  induction n with
  | zero => exact ⟨[], by simp [AM.repeated, VRelL.nil], by simp, fun i => by simp⟩
  | succ n ih =>
    obtain ⟨us, hu, hl, hg⟩ := ih
    refine ⟨vs ++ us, by simp only [AM.repeated]; exact h.append hu, by simp [hl, Nat.succ_mul]; omega, fun i => ?_⟩
    rw [List.getElem?_append, hg]
    by_cases h1 : i < vs.length
    · rw [if_pos h1, if_pos (by rw [Nat.succ_mul]; omega), Nat.mod_eq_of_lt h1]
    · rw [if_neg h1]
      by_cases h2 : i - vs.length < n * vs.length
      · rw [if_pos h2, if_pos (by rw [Nat.succ_mul]; omega), ← Nat.mod_eq_sub_mod (by omega)]
      · rw [if_neg h2, if_neg (by rw [Nat.succ_mul]; omega)]

end lists

/-- A value of one cell is one in the model, too. -/
theorem VRel.oneCell {ρ : Places} {x : AV} {v : Value} (h : VRel ρ x v) (h1 : x.oneCell = true) : v.oneCell' = true ∧ v.cells = #[v] := by
  cases x <;> simp only [VRel] at h <;> simp [AV.oneCell] at h1
  case bool => subst h; exact ⟨rfl, rfl⟩
  case int => subst h; exact ⟨rfl, rfl⟩
  case str => subst h; exact ⟨rfl, rfl⟩
  case nilptr => subst h; exact ⟨rfl, rfl⟩
  case ptr => obtain ⟨p, _, rfl⟩ := h; exact ⟨rfl, rfl⟩
  case nilslice => subst h; exact ⟨rfl, rfl⟩
  case slice => obtain ⟨p, a, c, _, rfl, _⟩ := h; exact ⟨rfl, rfl⟩
  case nilmap => subst h; exact ⟨rfl, rfl⟩
  case map => obtain ⟨p, _, rfl⟩ := h; exact ⟨rfl, rfl⟩
  case func => obtain ⟨p, _, rfl⟩ := h; exact ⟨rfl, rfl⟩
  case yield => obtain ⟨p, _, rfl⟩ := h; exact ⟨rfl, rfl⟩
  case nilfunc => subst h; exact ⟨rfl, rfl⟩
  case iface => obtain ⟨y, _, rfl⟩ := h; exact ⟨rfl, rfl⟩
  case nilif => subst h; exact ⟨rfl, rfl⟩
  case sym =>
    obtain ⟨p, _, _, hh⟩ := h
    cases v <;> first | exact ⟨rfl, rfl⟩ | cases hh

theorem VRel.cells {ρ : Places} {x : AV} {v : Value} (h : VRel ρ x v) : VRelL ρ x.cells v.cells.toList := by
  cases x with
  | agg cs =>
    simp only [VRel] at h
    obtain ⟨vs, hv, rfl⟩ := h
    simpa [AV.cells, Value.cells] using hv
  | tuple cs =>
    have h' := h
    simp only [VRel] at h
    obtain ⟨vs, hv, rfl⟩ := h
    simp only [AV.cells, Value.cells]
    exact .cons h' .nil
  | _ =>
    have := h.oneCell (by rfl)
    rw [this.2]
    exact .cons h .nil

/-- The temporaries. -/
structure TRel (ρ : Places) (t : T AV) (size : Nat) (A : Array Value) : Prop where
  size : A.size = size
  get : ∀ i x, t.get i = some x → VRel ρ x (A.getD i Go.undef)

theorem VRel.undef (ρ : Places) : VRel ρ .undef Go.undef := by
  simp only [AV.undef, VRel, Go.undef]
  exact ⟨[], .nil, rfl⟩

theorem TRel.mono {ρ σ : Places} (h : ρ.le σ) {t : T AV} {size : Nat} {A : Array Value} (k : TRel ρ t size A) : TRel σ t size A :=
  ⟨k.size, fun i x e => (k.get i x e).mono h⟩

theorem TRel.set {ρ : Places} {t : T AV} {size : Nat} {A : Array Value} (h : TRel ρ t size A) {d : Nat} (hd : d < size) {x : AV} {v : Value} (hx : VRel ρ x v) : TRel ρ (t.set d x) size (A.setIfInBounds d v) := by
  refine ⟨by simp [h.size], fun i y hy => ?_⟩
  rw [T.get_set] at hy
  by_cases e : i = d
  · subst e
    rw [if_pos rfl] at hy; cases hy
    have : i < A.size := by rw [h.size]; exact hd
    simp [this, hx]
  · rw [if_neg e] at hy
    have := h.get i y hy
    simpa [Array.getElem?_setIfInBounds_ne (Ne.symm e)] using this

theorem TRel.put {ρ : Places} {t : T AV} {size : Nat} {A : Array Value} (h : TRel ρ t size A) (d : Nat) {x : AV} {v : Value} (hx : VRel ρ x v) : TRel ρ (bif Nat.blt d size then t.set d x else t) size (A.setIfInBounds d v) := by
  by_cases hd : d < size
  · rw [blt_iff.2 hd]; exact h.set hd hx
  · rw [Bool.eq_false_iff.2 (fun e => hd (blt_iff.1 e))]
    rw [Array.setIfInBounds_eq_of_size_le (by rw [h.size]; omega)]
    exact h

end AM
end Go
