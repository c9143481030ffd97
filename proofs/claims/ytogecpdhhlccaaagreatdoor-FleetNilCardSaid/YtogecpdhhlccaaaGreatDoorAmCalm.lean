/-
  An abstract machine over the model's code: what an operation looks at, what it leaves, and when two values are the same.
-/
import Derived.Test.YtogecpdhhlccaaaGreatDoorAmDraw
namespace Go
namespace AM

theorem mapM_congr {α β : Type} {f g : α → Option β} : ∀ {l : List α}, (∀ x ∈ l, f x = g x) → l.mapM f = l.mapM g
  | [], _ => rfl
  | a :: l, h => by
    simp only [List.mapM_cons, h a (List.mem_cons_self), mapM_congr (l := l) fun x hx => h x (List.mem_cons_of_mem _ hx)]

theorem call_congr {E : Env} {ρ ρ' : Operand → Option AV} {H : AHeap} {c : Call} (h : ∀ x ∈ c.operands, ρ x = ρ' x) : call E ρ H c = call E ρ' H c := by
  have ha : c.args.toList.mapM ρ = c.args.toList.mapM ρ' := mapM_congr fun x hx => h x (by simp [Call.operands]; exact .inr (by simpa using hx))
  unfold call
  rw [ha]
  cases hc : c.callee with
  | value f => simp only [h f (by simp [Call.operands, hc])]
  | invoke r m => rfl
  | builtin b => rfl

theorem op_congr {E : Env} {ρ ρ' : Operand → Option AV} {H : AHeap} {o : Op} (h : ∀ x ∈ o.operands, ρ x = ρ' x) : op E ρ H o = op E ρ' H o := by
  have pairs : ∀ ps : List (Nat × Operand), (∀ x ∈ ps.map (·.2), ρ x = ρ' x) →
      (ps.mapM fun (i, x) => (ρ x).map fun v => (i, v)) = (ps.mapM fun (i, x) => (ρ' x).map fun v => (i, v)) := fun ps hp =>
    mapM_congr fun p hm => by
      obtain ⟨i, x⟩ := p
      simp only [hp x (List.mem_map.2 ⟨(i, x), hm, rfl⟩)]
  cases o <;> simp only [Op.operands] at h <;> simp only [op]
  case build t ps => rw [pairs ps.toList fun x hx => h x (by simpa using hx)]
  case buildSlice t n ps => rw [pairs ps.toList fun x hx => h x (by simpa using hx)]
  case makeFunc fn first captured =>
    have hm : captured.toList.mapM ρ = captured.toList.mapM ρ' := mapM_congr (l := captured.toList) fun x hx => h x (by simp; exact .inr (by simpa using hx))
    cases fn <;> simp only [hm]
  case call c => exact call_congr h
  case slice t x lo hi mx => cases lo <;> cases hi <;> cases mx <;> simp_all [optOp]
  all_goals (first | rfl | (simp_all; done))

theorem calm_val {H H' : AHeap} {x : Option AV} {r : ARes} (h : val H x = some (r, H')) : H' = H ∧ ∃ v, r = .val v := by
  unfold val at h
  split at h
  · cases h; exact ⟨rfl, _, rfl⟩
  · cases h

theorem calm_convert {S : Sig} {x : Operand} {H H' : AHeap} {s d : TypeId} {v : AV} {r : ARes} (hc : calmKind S (.convert s d x) = true) (h : valH (convert S H s d v) = some (r, H')) : H' = H ∧ ∃ v, r = .val v := by
  simp only [calmKind] at hc
  unfold valH at h
  split at h
  · rename_i v' H2 hcv
    cases h
    refine ⟨?_, _, rfl⟩
    unfold convert at hcv
    split at hcv
    · cases hcv; rfl
    · cases hcv; rfl
    · cases hcv; rfl
    · rename_i hd; rw [hd] at hc; cases hc
    · split at hcv
      · split at hcv
        · cases hcv; rfl
        · split at hcv
          · rename_i cs _
            cases hb : bytesOf cs with
            | none => simp [hb] at hcv
            | some b => simp [hb] at hcv; exact hcv.2.symm
          · cases hcv
        · cases hcv
      · cases hcv
    · cases hcv
  · cases h

theorem calm_builtin {E : Env} {H H' : AHeap} {b : Builtin} {ts : Array TypeId} {args : List AV} {r : ARes} (hc : (match b with | .len | .cap | .min | .max => true | _ => false) = true) (h : builtin E H b ts args = some (r, H')) :
    H' = H ∧ ∃ v, r = .val v := by
  unfold builtin at h
  split at h
  · split at h
    · exact calm_val h
    · cases h
  · split at h
    · exact calm_val h
    · cases h
  · cases hc
  · cases hc
  · cases h; exact ⟨rfl, _, rfl⟩
  · cases h; exact ⟨rfl, _, rfl⟩
  · cases hc
  · cases h

theorem calm_op {E : Env} {ρ : Operand → Option AV} {H H' : AHeap} {o : Op} {r : ARes} (hc : calmKind E.S o = true) (h : op E ρ H o = some (r, H')) : H' = H ∧ ∃ v, r = .val v := by
  unfold op at h
  split at h
  case h_13 s d x =>
    split at h
    · exact calm_convert (x := x) hc h
    · cases h
  case h_32 c =>
    simp only [calmKind] at hc
    unfold call at h
    split at h
    · cases h
    · split at h
      · rename_i b hb
        rw [hb] at hc
        exact calm_builtin (by cases b <;> simp_all) h
      · rename_i hb; rw [hb] at hc; cases hc
      · cases h
  all_goals first
    | (exact calm_val h)
    | (cases hc; done)
    | (cases h; done)
    | (repeat' split at h
       all_goals (first | (exact calm_val h) | (cases h; exact ⟨rfl, _, rfl⟩) | (cases h; done)))

theorem Cap_beq {a b : Cap} (h : AV.beq.Cap.beq a b = true) : a = b := by
  cases a <;> cases b <;> simp only [AV.beq.Cap.beq, Bool.false_eq_true] at h <;> rw [Nat.eq_of_beq_eq_true h]

mutual
theorem AV.beq_eq : ∀ {a b : AV}, AV.beq a b = true → a = b
  | .bool a, b, h => by cases b <;> simp_all [AV.beq]
  | .int k n, b, h => by cases b <;> simp_all [AV.beq]
  | .str s, b, h => by cases b <;> simp_all [AV.beq]
  | .nilptr, b, h => by cases b <;> simp_all [AV.beq]
  | .ptr r o, b, h => by cases b <;> simp_all [AV.beq]
  | .nilslice, b, h => by cases b <;> simp_all [AV.beq]
  | .slice r o n c, b, h => by
    cases b <;> simp only [AV.beq, Bool.false_eq_true, Bool.and_eq_true] at h
    obtain ⟨h1, h2, h3, h4⟩ := h
    rw [Nat.eq_of_beq_eq_true h1, Nat.eq_of_beq_eq_true h2, Nat.eq_of_beq_eq_true h3, Cap_beq h4]
  | .nilmap, b, h => by cases b <;> simp_all [AV.beq]
  | .map r, b, h => by cases b <;> simp_all [AV.beq]
  | .func f cs, b, h => by
    cases b <;> simp only [AV.beq, Bool.false_eq_true, Bool.and_eq_true] at h
    obtain ⟨h1, h2⟩ := h
    rw [Nat.eq_of_beq_eq_true h1, AV.beqL_eq h2]
  | .yield l, b, h => by cases b <;> simp_all [AV.beq]
  | .nilfunc, b, h => by cases b <;> simp_all [AV.beq]
  | .iface t v, b, h => by
    cases b <;> simp only [AV.beq, Bool.false_eq_true, Bool.and_eq_true] at h
    obtain ⟨h1, h2⟩ := h
    rw [Nat.eq_of_beq_eq_true h1, AV.beq_eq h2]
  | .nilif, b, h => by cases b <;> simp_all [AV.beq]
  | .agg cs, b, h => by
    cases b <;> simp only [AV.beq, Bool.false_eq_true] at h
    rw [AV.beqL_eq h]
  | .tuple cs, b, h => by
    cases b <;> simp only [AV.beq, Bool.false_eq_true] at h
    rw [AV.beqL_eq h]
  | .sym r, b, h => by cases b <;> simp_all [AV.beq]
theorem AV.beqL_eq : ∀ {a b : List AV}, AV.beqL a b = true → a = b
  | [], b, h => by cases b <;> simp_all [AV.beqL]
  | a :: as, b, h => by
    cases b <;> simp only [AV.beqL, Bool.false_eq_true, Bool.and_eq_true] at h
    obtain ⟨h1, h2⟩ := h
    rw [AV.beq_eq h1, AV.beqL_eq h2]
end

theorem has_iff : ∀ {l : List Nat} {i : Nat}, has l i = true ↔ i ∈ l
  | [], i => by simp [has]
  | a :: l, i => by
    simp only [has, List.mem_cons]
    cases hb : Nat.beq a i with
    | true => simp [Nat.eq_of_beq_eq_true hb]
    | false => simp only [cond_false, has_iff]; exact ⟨.inr, fun h => h.resolve_left fun e => by subst e; simp at hb⟩

theorem has_false {l : List Nat} {i : Nat} : has l i = false ↔ i ∉ l := by
  rw [← has_iff]; simp

theorem preds_mem {ops : Array Oper} {i p : Nat} : p ∈ predsAt ops i ↔ ∃ o, ops[i]? = some o ∧ ∃ e ∈ o.after, Region.binds .any e = true ∧ e.on = p := by
  unfold predsAt
  cases ho : ops[i]? with
  | none => simp
  | some o =>
    simp only [predsOf, List.mem_filterMap, Array.mem_toList_iff]
    constructor
    · rintro ⟨e, he, h⟩
      cases hb : Region.binds .any e with
      | true => rw [hb, cond_true, Option.some.injEq] at h; exact ⟨o, rfl, e, he, hb, h⟩
      | false => rw [hb] at h; cases h
    · rintro ⟨o', ho', e, he, hb, rfl⟩
      cases ho'
      exact ⟨e, he, by rw [hb]; rfl⟩

/-- What stands before it, in whatever is closed downward. -/
theorem ancGo_mem {ops : Array Oper} {D : Nat → Prop} (hD : ∀ i, D i → ∀ p ∈ predsAt ops i, D p) : ∀ (j : Nat) (need : List Nat), (∀ p ∈ need, D p) → ∀ p ∈ ancGo ops j need, D p
  | 0, need, h => by simpa [ancGo] using h
  | j + 1, need, h => by
    simp only [ancGo]
    refine ancGo_mem hD j _ ?_
    cases hb : has need j with
    | true =>
      rw [cond_true]
      intro p hp
      rcases List.mem_append.1 hp with hp | hp
      · exact hD j (h j (has_iff.1 hb)) p hp
      · exact h p hp
    | false => exact h

theorem plan_mem {S : Sig} {ops : Array Oper} {p : Plan} : p ∈ plan S ops ↔ p.i < ops.size ∧ p = planAt S ops p.i := by
  simp only [plan, List.mem_map, List.mem_range]
  constructor
  · rintro ⟨i, hi, rfl⟩; exact ⟨hi, rfl⟩
  · rintro ⟨hi, h⟩; exact ⟨_, hi, h.symm⟩

theorem plan_of_lt {S : Sig} {ops : Array Oper} {i : Nat} (h : i < ops.size) : planAt S ops i ∈ plan S ops := plan_mem.2 ⟨h, rfl⟩

theorem backward_lt {S : Sig} {ops : Array Oper} (h : backward S ops = true) {i p : Nat} (hp : p ∈ predsAt ops i) : p < i := by
  obtain ⟨o, ho, _⟩ := preds_mem.1 hp
  have hi : i < ops.size := (Array.getElem?_eq_some_iff.1 ho).1
  have := List.all_eq_true.1 h _ (plan_of_lt (S := S) hi)
  have := List.all_eq_true.1 this p hp
  exact Nat.le_of_ble_eq_true this

theorem calm_own {S : Sig} {ops : Array Oper} {i : Nat} (h : calmAt S ops i = true) : ∃ o, ops[i]? = some o ∧ calmKind S o.op = true ∧
    ∀ d, o.dst = some d → ∀ j oj, ops[j]? = some oj → (d ∈ namesOf ops oj → i ∈ predsAt ops j) ∧ (j ≠ i → oj.dst ≠ some d) := by
  unfold calmAt at h
  split at h
  · rename_i o ho
    simp only [Bool.and_eq_true] at h
    refine ⟨o, ho, h.1, fun d hd j oj hj => ?_⟩
    have h2 := h.2
    rw [hd] at h2
    simp only [ownPlace] at h2
    have hjn : j < ops.size := (Array.getElem?_eq_some_iff.1 hj).1
    have h3 := List.all_eq_true.1 h2 (j, looksAt ops j) (List.mem_map.2 ⟨j, List.mem_range.2 hjn, rfl⟩)
    have e : looksAt ops j = ⟨namesOf ops oj, oj.dst, predsOf oj⟩ := by unfold looksAt; rw [hj]
    have e2 : predsAt ops j = predsOf oj := by unfold predsAt; rw [hj]
    rw [e] at h3
    simp only [Bool.and_eq_true] at h3
    rw [e2]
    refine ⟨fun hn => ?_, fun hne => ?_⟩
    · have h4 := h3.1
      rw [has_iff.2 hn, cond_true] at h4
      exact has_iff.1 h4
    · have h4 := h3.2
      have : Nat.beq j i = false := by
        cases hb : Nat.beq j i with
        | true => exact absurd (Nat.eq_of_beq_eq_true hb) hne
        | false => rfl
      rw [this, cond_false] at h4
      intro ed
      rw [ed] at h4
      simp at h4
  · cases h

end AM
end Go
