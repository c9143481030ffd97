/-
  An abstract machine over the model's code: its heap against the model's.
-/
import Derived.Test.YtogecpdhhlccaaaGreatDoorAmRel
namespace Go
namespace AM
open Go.RowKit (Below)

def AObj.ro : AObj → Bool
  | .row _ false => true
  | _ => false

def EsRel (ρ : Places) : List (AV × AV × Nat) → List MapEntry → Prop
  | [], fs => fs = []
  | (k, v, n) :: es, fs => ∃ f rest, fs = f :: rest ∧ VRel ρ k f.key ∧ VRel ρ v f.val ∧ f.born = n ∧ EsRel ρ es rest

structure LRel (ρ : Places) (l : ALoop) (lp : Loop) : Prop where
  state : lp.state = l.state
  pending : lp.pending = l.pending
  fn : lp.fn = l.fn
  tmps : TRel ρ l.tmps l.size lp.tmps
  params : lp.params.toList = l.params
  assign : lp.assign = l.assign
  body : lp.body = l.body
  defers : ∃ p, ρ l.defers = some p ∧ lp.defers = p.blk

def ORel (ρ : Places) (p : Place) : AObj → Obj → Prop
  | .row cs w, O => ∃ c e fr, O = .cells c e fr ∧ p.base + p.tot ≤ c.size ∧ cs.length ≤ p.tot ∧
      (∃ vs, VRelL ρ cs vs ∧ ∀ j, j < cs.length → c[p.base + j]? = vs[j]?) ∧ (w = true → ∀ j, j < c.size → ¬ (fr.1 ≤ j ∧ j < fr.2))
  | .map es clock, O => p.base = 0 ∧ ∃ fs, O = .map fs.toArray clock ∧ EsRel ρ es fs
  | .iter m since seen stepped, O => p.base = 0 ∧ ∃ m', O = .mapIter m' since seen.toArray stepped ∧
      match m with | none => m' = none | some r => ∃ q, ρ r = some q ∧ m' = some q.blk
  | .siter s pos, O => p.base = 0 ∧ O = .stringIter ⟨s.toArray⟩ pos
  | .loop l, O => p.base = 0 ∧ ∃ lp, O = .loop lp ∧ LRel ρ l lp
  | .dfr, O => p.base = 0 ∧ O = .deferred (some [])

theorem EsRel.mono {ρ σ : Places} (h : ρ.le σ) : ∀ {es : List (AV × AV × Nat)} {fs : List MapEntry}, EsRel ρ es fs → EsRel σ es fs
  | [], _, e => by simpa only [EsRel] using e
  | (k, v, n) :: es, _, e => by
    simp only [EsRel] at e ⊢
    obtain ⟨f, rest, e, hk, hv, hn, hr⟩ := e
    exact ⟨f, rest, e, hk.mono h, hv.mono h, hn, hr.mono h⟩

theorem LRel.mono {ρ σ : Places} (h : ρ.le σ) {l : ALoop} {lp : Loop} (k : LRel ρ l lp) : LRel σ l lp :=
  ⟨k.state, k.pending, k.fn, k.tmps.mono h, k.params, k.assign, k.body, by obtain ⟨p, hp, e⟩ := k.defers; exact ⟨p, h _ _ hp, e⟩⟩

theorem ORel.mono {ρ σ : Places} (h : ρ.le σ) {p : Place} {o : AObj} {O : Obj} (k : ORel ρ p o O) : ORel σ p o O := by
  cases o with
  | row cs w =>
    simp only [ORel] at k ⊢
    obtain ⟨c, e, fr, hO, h1, h2, ⟨vs, h3, h4⟩, h5⟩ := k
    exact ⟨c, e, fr, hO, h1, h2, ⟨vs, h3.mono h, h4⟩, h5⟩
  | map es clock =>
    simp only [ORel] at k ⊢
    obtain ⟨hb, fs, hO, hf⟩ := k
    exact ⟨hb, fs, hO, hf.mono h⟩
  | iter m since seen stepped =>
    simp only [ORel] at k ⊢
    obtain ⟨hb, m', hO, hm⟩ := k
    refine ⟨hb, m', hO, ?_⟩
    cases m with
    | none => exact hm
    | some r => obtain ⟨q, hq, e⟩ := hm; exact ⟨q, h _ _ hq, e⟩
  | siter s pos => simpa only [ORel] using k
  | loop l =>
    simp only [ORel] at k ⊢
    obtain ⟨hb, lp, hO, hl⟩ := k
    exact ⟨hb, lp, hO, hl.mono h⟩
  | dfr => simpa only [ORel] using k

structure HRel (ρ : Places) (w0 : World) (H : AHeap) (w : World) : Prop where
  below : Below w0.heap.size w0 w
  lt : ∀ r p, ρ r = some p → r < H.next
  obj : ∀ r p o, ρ r = some p → H.get r = some o → ∃ O, w.heap[p.blk]? = some O ∧ ORel ρ p o O
  inj : ∀ r s p q o o', ρ r = some p → ρ s = some q → H.get r = some o → H.get s = some o' → r ≠ s → p.blk = q.blk → o.ro = true ∧ o'.ro = true
  own : ∀ r p o, ρ r = some p → H.get r = some o → o.ro = false → w0.heap.size ≤ p.blk

/-- One block is another one, all others are as they were. -/
structure Changed (w : World) (b : Nat) (O : Obj) (w' : World) : Prop where
  os : w'.os = w.os
  tape : w'.tape = w.tape
  output : w'.output = w.output
  size : w'.heap.size = w.heap.size
  at_ : w'.heap[b]? = some O
  other : ∀ k, k ≠ b → w'.heap[k]? = w.heap[k]?

/-- One block more. -/
structure Added (w : World) (O : Obj) (w' : World) : Prop where
  os : w'.os = w.os
  tape : w'.tape = w.tape
  output : w'.output = w.output
  size : w'.heap.size = w.heap.size + 1
  at_ : w'.heap[w.heap.size]? = some O
  other : ∀ k, k < w.heap.size → w'.heap[k]? = w.heap[k]?

theorem Added.alloc (w : World) (O : Obj) : Added w O (w.alloc O) :=
  ⟨rfl, rfl, rfl, World.size_alloc w O, by show (w.heap.push O)[w.heap.size]? = some O; simp, fun k hk => Below.heap_alloc w O k hk⟩

theorem Added.drew {w w' : World} {O : Obj} (h : Added w.drew O w') : Added w O w' := ⟨h.os, h.tape, h.output, h.size, h.at_, h.other⟩

theorem lt_of_some {w : World} {k : Nat} {O : Obj} (h : w.heap[k]? = some O) : k < w.heap.size := (Array.getElem?_eq_some_iff.1 h).1

namespace HRel
variable {ρ : Places} {w0 w w' : World} {H : AHeap}

theorem drew (h : HRel ρ w0 H w) : HRel ρ w0 H w.drew := ⟨h.below.drew, h.lt, h.obj, h.inj, h.own⟩

/-- Places for a name more. -/
def _root_.Go.AM.Places.with (ρ : Places) (r : Nat) (p : Place) : Places := fun s => if s = r then some p else ρ s

theorem le_with (h : HRel ρ w0 H w) (p : Place) : ρ.le (ρ.with H.next p) := by
  intro r q hr
  have := h.lt r q hr
  simp only [Places.with]
  rw [if_neg (by omega)]
  exact hr

theorem _root_.Go.AM.Places.with_same (ρ : Places) (r : Nat) (p : Place) : (ρ.with r p) r = some p := by simp [Places.with]

theorem get_new (H : AHeap) (o : AObj) (r : Nat) : (H.new o).get r = if r = H.next then some o else H.get r := T.get_set _ _ _ _
theorem get_put (H : AHeap) (s : Nat) (o : AObj) (r : Nat) : (H.put s o).get r = if r = s then some o else H.get r := T.get_set _ _ _ _
theorem get_drop (H : AHeap) (s : Nat) (r : Nat) : (H.drop s).get r = if r = s then none else H.get r := T.get_del _ _ _

theorem new (h : HRel ρ w0 H w) {o : AObj} {O : Obj} {p : Place} (hp : p.blk = w.heap.size) (hO : ORel ρ p o O) (hw : Added w O w') :
    HRel (ρ.with H.next p) w0 (H.new o) w' := by
  have hle := h.le_with p
  have hB : w0.heap.size ≤ w.heap.size := h.below.size
  refine ⟨⟨hw.os.trans h.below.os, hw.tape.trans h.below.tape, hw.output.trans h.below.output, by rw [hw.size]; omega, fun k hk => (hw.other k (by omega)).trans (h.below.block k hk)⟩, ?_, ?_, ?_, ?_⟩
  · intro r q hr
    simp only [Places.with] at hr
    split at hr
    · subst_vars; simp [AHeap.new]
    · have := h.lt r q hr; simp [AHeap.new]; omega
  · intro r q o' hr hg
    rw [get_new] at hg
    by_cases e : r = H.next
    · subst e
      rw [Places.with_same] at hr; cases hr
      rw [if_pos rfl] at hg; cases hg
      exact ⟨O, by rw [hp]; exact hw.at_, hO.mono hle⟩
    · rw [if_neg e] at hg
      simp only [Places.with, e, if_false] at hr
      obtain ⟨O', hO', hr'⟩ := h.obj r q o' hr hg
      exact ⟨O', (hw.other _ (lt_of_some hO')).trans hO', hr'.mono hle⟩
  · intro r s p1 q1 o1 o2 hr hs hg1 hg2 hne hb
    rw [get_new] at hg1 hg2
    by_cases e : r = H.next
    · subst e
      rw [Places.with_same] at hr; cases hr
      have e2 : s ≠ H.next := fun e => hne e.symm
      rw [if_neg e2] at hg2
      simp only [Places.with, e2, if_false] at hs
      obtain ⟨O', hO', _⟩ := h.obj s q1 o2 hs hg2
      have := lt_of_some hO'
      omega
    · rw [if_neg e] at hg1
      simp only [Places.with, e, if_false] at hr
      by_cases e2 : s = H.next
      · subst e2
        rw [Places.with_same] at hs; cases hs
        obtain ⟨O', hO', _⟩ := h.obj r p1 o1 hr hg1
        have := lt_of_some hO'
        omega
      · rw [if_neg e2] at hg2
        simp only [Places.with, e2, if_false] at hs
        exact h.inj r s p1 q1 o1 o2 hr hs hg1 hg2 hne hb
  · intro r q o' hr hg hro
    rw [get_new] at hg
    by_cases e : r = H.next
    · subst e
      rw [Places.with_same] at hr; cases hr
      omega
    · rw [if_neg e] at hg
      simp only [Places.with, e, if_false] at hr
      exact h.own r q o' hr hg hro

theorem put (h : HRel ρ w0 H w) {r : Nat} {p : Place} {o o' : AObj} {O' : Obj} (hr : ρ r = some p) (hg : H.get r = some o) (hro : o.ro = false)
    (hO : ORel ρ p o' O') (hw : Changed w p.blk O' w') : HRel ρ w0 (H.put r o') w' := by
  have hown := h.own r p o hr hg hro
  refine ⟨⟨hw.os.trans h.below.os, hw.tape.trans h.below.tape, hw.output.trans h.below.output, by rw [hw.size]; exact h.below.size, fun k hk => (hw.other k (by omega)).trans (h.below.block k hk)⟩, h.lt, ?_, ?_, ?_⟩
  · intro s q o2 hs hg2
    rw [get_put] at hg2
    by_cases e : s = r
    · subst e
      rw [if_pos rfl] at hg2; cases hg2
      rw [hr] at hs; cases hs
      exact ⟨O', hw.at_, hO⟩
    · rw [if_neg e] at hg2
      obtain ⟨O2, hO2, hr2⟩ := h.obj s q o2 hs hg2
      refine ⟨O2, (hw.other _ fun eb => ?_).trans hO2, hr2⟩
      have := (h.inj r s p q o o2 hr hs hg hg2 (Ne.symm e) eb.symm).1
      rw [hro] at this; cases this
  · intro a b pa pb oa ob ha hb ga gb hne heq
    rw [get_put] at ga gb
    by_cases ea : a = r
    · subst ea
      rw [if_pos rfl] at ga; cases ga
      have eb : b ≠ a := Ne.symm hne
      rw [if_neg eb] at gb
      have := (h.inj a b pa pb o ob ha hb hg gb hne heq).1
      rw [hro] at this; cases this
    · rw [if_neg ea] at ga
      by_cases eb : b = r
      · subst eb
        rw [if_pos rfl] at gb; cases gb
        have := (h.inj a b pa pb oa o ha hb ga hg hne heq).2
        rw [hro] at this; cases this
      · rw [if_neg eb] at gb
        exact h.inj a b pa pb oa ob ha hb ga gb hne heq
  · intro s q o2 hs hg2 h2
    rw [get_put] at hg2
    by_cases e : s = r
    · subst e
      rw [hr] at hs; cases hs
      exact hown
    · rw [if_neg e] at hg2
      exact h.own s q o2 hs hg2 h2

theorem drop (h : HRel ρ w0 H w) (r : Nat) : HRel ρ w0 (H.drop r) w := by
  refine ⟨h.below, h.lt, ?_, ?_, ?_⟩
  · intro s q o hs hg
    rw [get_drop] at hg
    split at hg
    · cases hg
    · exact h.obj s q o hs hg
  · intro a b pa pb oa ob ha hb ga gb hne heq
    rw [get_drop] at ga gb
    split at ga
    · cases ga
    · split at gb
      · cases gb
      · exact h.inj a b pa pb oa ob ha hb ga gb hne heq
  · intro s q o hs hg h2
    rw [get_drop] at hg
    split at hg
    · cases hg
    · exact h.own s q o hs hg h2

theorem get_again (H : AHeap) (r : Nat) (o : AObj) (s : Nat) : ((H.drop r).new o).get s = if s = H.next then some o else if s = r then none else H.get s := by
  rw [get_new, get_drop]; rfl

/-- A row goes, and what takes its place has a part of its block. -/
theorem again (h : HRel ρ w0 H w) {r : Nat} {p q : Place} {o o' : AObj} {O' : Obj} (hr : ρ r = some p) (hg : H.get r = some o) (hro : o.ro = false)
    (hq : q.blk = p.blk) (hO : ORel ρ q o' O') (hw : Changed w p.blk O' w') : HRel (ρ.with H.next q) w0 ((H.drop r).new o') w' := by
  have hown := h.own r p o hr hg hro
  have hle := h.le_with q
  have key : ∀ (s : Nat) (q' : Place) (o2 : AObj), ρ s = some q' → s ≠ r → H.get s = some o2 → q'.blk ≠ p.blk := by
    intro s q' o2 hs hne hg3 eb
    have := (h.inj r s p q' o o2 hr hs hg hg3 (Ne.symm hne) eb.symm).1
    rw [hro] at this; cases this
  refine ⟨⟨hw.os.trans h.below.os, hw.tape.trans h.below.tape, hw.output.trans h.below.output, by rw [hw.size]; exact h.below.size, fun k hk => (hw.other k (by omega)).trans (h.below.block k hk)⟩, ?_, ?_, ?_, ?_⟩
  · intro s q' hs
    show s < H.next + 1
    simp only [Places.with] at hs
    split at hs
    · omega
    · have := h.lt s q' hs; omega
  · intro s q' o2 hs hg2
    rw [get_again] at hg2
    by_cases e : s = H.next
    · subst e
      rw [Places.with_same] at hs; cases hs
      rw [if_pos rfl] at hg2; cases hg2
      exact ⟨O', by rw [hq]; exact hw.at_, hO.mono hle⟩
    · rw [if_neg e] at hg2
      simp only [Places.with, e, if_false] at hs
      split at hg2
      · cases hg2
      · rename_i e2
        obtain ⟨O2, hO2, hr2⟩ := h.obj s q' o2 hs hg2
        exact ⟨O2, (hw.other _ (key s q' o2 hs e2 hg2)).trans hO2, hr2.mono hle⟩
  · intro a b pa pb oa ob ha hb ga gb hne heq
    rw [get_again] at ga gb
    by_cases ea : a = H.next
    · subst ea
      rw [Places.with_same] at ha; cases ha
      have eb : b ≠ H.next := Ne.symm hne
      rw [if_neg eb] at gb
      simp only [Places.with, eb, if_false] at hb
      split at gb
      · cases gb
      · rename_i e2
        exact absurd (heq.symm.trans hq) (key b pb ob hb e2 gb)
    · rw [if_neg ea] at ga
      simp only [Places.with, ea, if_false] at ha
      split at ga
      · cases ga
      · rename_i e1
        by_cases eb : b = H.next
        · subst eb
          rw [Places.with_same] at hb; cases hb
          exact absurd (heq.trans hq) (key a pa oa ha e1 ga)
        · rw [if_neg eb] at gb
          simp only [Places.with, eb, if_false] at hb
          split at gb
          · cases gb
          · exact h.inj a b pa pb oa ob ha hb ga gb hne heq
  · intro s q' o2 hs hg2 h2
    rw [get_again] at hg2
    by_cases e : s = H.next
    · subst e
      rw [Places.with_same] at hs; cases hs
      omega
    · rw [if_neg e] at hg2
      simp only [Places.with, e, if_false] at hs
      split at hg2
      · cases hg2
      · exact h.own s q' o2 hs hg2 h2

end HRel

/-- n cells from an address on, read. -/
theorem run_loadCellsFrom {P : Program} {w : World} {b : Nat} {c : Array Value} {e : TypeId} {fr : Nat × Nat} (hb : w.heap[b]? = some (.cells c e fr)) (off : Nat) :
    ∀ (n i : Nat) (acc : Array Value) (vs : List Value), vs.length = n → (∀ j, j < n → c[off + i + j]? = vs[j]?) →
    (loadCellsFrom ⟨b, off, none⟩ i n acc).run P w = .ok (acc ++ vs.toArray) w := by
  intro n
  induction n with
  | zero => intro i acc vs hl _; cases vs <;> simp_all [loadCellsFrom]
  | succ n ih =>
    intro i acc vs hl hv
    cases vs with
    | nil => simp at hl
    | cons v vs =>
      have h0 := hv 0 (by omega)
      have ha : (Addr.add ⟨b, off, none⟩ i) = ⟨b, off + i, none⟩ := by unfold Addr.add; split <;> simp_all
      have hc : w.cell? ⟨b, off + i, none⟩ = some v := by
        simp only [World.cell?, hb]
        simpa using h0
      simp only [loadCellsFrom, Sem.run_bind, run_load, ha, hc, Result.andThen_ok]
      rw [ih (i + 1) (acc.push v) vs (by simpa using hl) (fun j hj => by
        have := hv (j + 1) (by omega)
        rw [show off + (i + 1) + j = off + i + (j + 1) from by omega]
        simpa using this)]
      simp

theorem run_loadCells {P : Program} {w : World} {b : Nat} {c : Array Value} {e : TypeId} {fr : Nat × Nat} (hb : w.heap[b]? = some (.cells c e fr)) (off n : Nat) (vs : List Value)
    (hl : vs.length = n) (hv : ∀ j, j < n → c[off + j]? = vs[j]?) : (loadCells ⟨b, off, none⟩ n).run P w = .ok vs.toArray w := by
  unfold loadCells
  rw [run_loadCellsFrom hb off n 0 #[] vs hl (by simpa using hv)]
  simp

/-- Cells, written one behind the other. -/
theorem run_storeCells {P : Program} {b : Nat} {e : TypeId} {fr : Nat × Nat} (off : Nat) :
    ∀ (vs : List Value) (i : Nat) (w : World) (c : Array Value), w.heap[b]? = some (.cells c e fr) → (∀ v ∈ vs, v.oneCell' = true) → off + i + vs.length ≤ c.size →
      (∀ j, j < c.size → ¬ (fr.1 ≤ j ∧ j < fr.2)) →
    ∃ c' w', (storeCells ⟨b, off, none⟩ vs i).run P w = .ok () w' ∧ Changed w b (.cells c' e fr) w' ∧ c'.size = c.size ∧
      ∀ k, c'[k]? = if off + i ≤ k ∧ k < off + i + vs.length then vs[k - (off + i)]? else c[k]? := by
  intro vs
  induction vs with
  | nil =>
    intro i w c hb _ _ _
    exact ⟨c, w, by simp [storeCells], ⟨rfl, rfl, rfl, rfl, hb, fun _ _ => rfl⟩, rfl, fun k => by rw [if_neg (by simp)]⟩
  | cons v vs ih =>
    intro i w c hb h1 hl hfr
    have ha : (Addr.add ⟨b, off, none⟩ i) = ⟨b, off + i, none⟩ := by unfold Addr.add; split <;> simp_all
    simp only [List.length_cons] at hl
    have hlt : off + i < c.size := by omega
    have hc : w.cell? ⟨b, off + i, none⟩ = some c[off + i] := by simp [World.cell?, hb, hlt]
    have hf : w.frozen? ⟨b, off + i, none⟩ = false := by
      simp only [World.frozen?, hb]
      have := hfr (off + i) hlt
      simp only [Bool.and_eq_false_iff, decide_eq_false_iff_not]
      omega
    have hb2 : (w.setCell ⟨b, off + i, none⟩ v).heap[b]? = some (.cells (c.setIfInBounds (off + i) v) e fr) := by
      simp [World.setCell, Array.getElem?_modify, hb]
    obtain ⟨c', w', hrun, hch, hs, hg⟩ := ih (i + 1) (w.setCell ⟨b, off + i, none⟩ v) (c.setIfInBounds (off + i) v) hb2 (fun u hu => h1 u (List.mem_cons_of_mem _ hu)) (by simp; omega) (by simpa using hfr)
    refine ⟨c', w', ?_, ?_, by simpa using hs, ?_⟩
    · simp only [storeCells, Sem.run_bind, ha]
      rw [run_store _ _ _ _ _ (h1 v (by simp)), hc]
      simp only [hf, Bool.false_eq_true, if_false, Result.andThen_ok]
      exact hrun
    · refine ⟨hch.os, hch.tape, hch.output, hch.size.trans (by simp), hch.at_, fun k hk => (hch.other k hk).trans ?_⟩
      exact Below.heap_setCell _ _ _ _ hk
    · intro k
      rw [hg k]
      simp only [List.length_cons]
      by_cases e1 : off + i = k
      · subst e1
        rw [if_neg (by omega), if_pos (by omega)]
        simp [hlt]
      · by_cases e2 : off + (i + 1) ≤ k ∧ k < off + (i + 1) + vs.length
        · rw [if_pos e2, if_pos (by omega)]
          rw [show k - (off + i) = (k - (off + (i + 1))) + 1 from by omega]
          simp
        · rw [if_neg e2, if_neg (by omega)]
          simp [e1]

end AM
end Go
