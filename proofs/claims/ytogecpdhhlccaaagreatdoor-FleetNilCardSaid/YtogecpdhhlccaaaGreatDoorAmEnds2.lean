/-
  An abstract machine over the model's code: the stepper's steps are the machine's.
-/
import Derived.Test.YtogecpdhhlccaaaGreatDoorAmEnds
namespace Go
namespace AM

theorem allK_mem {κ : AMach → Prop} : ∀ {l : List AMach}, allK κ l → ∀ m ∈ l, κ m
  | [], _, _, hm => by cases hm
  | [a], h, m, hm => by rw [List.mem_singleton.1 hm]; exact h
  | a :: b :: l, h, m, hm => by
    simp only [allK] at h
    rcases List.mem_cons.1 hm with e | hm
    · rw [e]; exact h.1
    · exact allK_mem h.2 m hm

theorem outK_next {κ : AMach → Prop} {o : AOut} (h : outK κ o) : ∃ l, o = .next l ∧ ∀ m ∈ l, κ m := by
  cases o with
  | next l => exact ⟨l, rfl, allK_mem h⟩
  | _ => exact h.elim

theorem boundK_some {v : AV} {top : Nat} {κ : Nat → Prop} (h : boundK v top κ) : ∃ n, bound v top = some n ∧ κ n := by
  unfold boundK at h
  split at h
  · rename_i kk i
    cases hb : (decide (0 ≤ i) && decide (i ≤ top)) with
    | false => rw [hb] at h; exact h.elim
    | true => rw [hb] at h; exact ⟨i.toNat, by simp only [bound, hb, if_true], h⟩
  · exact h.elim

theorem boundsK_some {len top : Nat} {lo hi mx : Option AV} {κ : Nat → Nat → Nat → Prop} (h : boundsK len top lo hi mx κ) : ∃ l hh m, bounds len top lo hi mx = some (l, hh, m) ∧ κ l hh m := by
  have tail : ∀ m, (∀ full, (hiK len hi full m fun h => loK lo h fun l => κ l h m) → full = mx.isSome →
      ∃ l hh, (match (match hi with | some v => bound v m | none => if mx.isSome then none else some len) with
        | none => none
        | some h => match (match lo with | some v => bound v h | none => some 0) with
          | none => none
          | some l => some (l, h, m)) = some (l, hh, m) ∧ κ l hh m) := by
    intro m full hk hf
    have hhi : ∃ h, (match hi with | some v => bound v m | none => if mx.isSome then none else some len) = some h ∧ loK lo h fun l => κ l h m := by
      unfold hiK at hk
      cases hi with
      | some v => exact boundK_some hk
      | none =>
        simp only at hk ⊢
        cases full with
        | true => exact hk.elim
        | false => rw [← hf]; exact ⟨len, by simp, hk⟩
    obtain ⟨h, he, hl⟩ := hhi
    have hlo : ∃ l, (match lo with | some v => bound v h | none => some 0) = some l ∧ κ l h m := by
      unfold loK at hl
      cases lo with
      | some v => exact boundK_some hl
      | none => exact ⟨0, rfl, hl⟩
    obtain ⟨l, hle, hκ⟩ := hlo
    exact ⟨l, h, by rw [he]; simp only [hle], hκ⟩
  unfold boundsK at h
  cases mx with
  | some v =>
    obtain ⟨m, hm, hr⟩ := boundK_some h
    obtain ⟨l, hh, he, hκ⟩ := tail m true hr rfl
    exact ⟨l, hh, m, by unfold bounds; simp only [hm]; exact he, hκ⟩
  | none =>
    obtain ⟨l, hh, he, hκ⟩ := tail top false h rfl
    exact ⟨l, hh, top, by unfold bounds; simp only; exact he, hκ⟩

theorem sliceK_some {S : Sig} {t : TypeId} {x : AV} {lo hi mx : Option AV} {κ : AV → Prop} (h : sliceK S t x lo hi mx κ) : ∃ v, slice S t x lo hi mx = some v ∧ κ v := by
  unfold sliceK at h
  split at h
  · rename_i hu
    cases mx with
    | some _ => exact h.elim
    | none =>
      obtain ⟨l, hh, m, hb, hκ⟩ := boundsK_some h
      exact ⟨_, by unfold slice; simp only [hu, hb]; rfl, hκ⟩
  · rename_i e rr off len cap hu
    cases hs : S.size e with
    | none => rw [hs] at h; exact h.elim
    | some n =>
      rw [hs] at h
      simp only at h
      split at h
      · obtain ⟨l, hh, m, hb, hκ⟩ := boundsK_some h
        exact ⟨_, by unfold slice; simp only [hu, hs, hb], hκ⟩
      · rename_i k
        cases hk : Nat.beq k n with
        | false => rw [hk] at h; exact h.elim
        | true =>
          rw [hk] at h
          obtain ⟨l, hh, m, hb, hκ⟩ := boundsK_some h
          cases mx with
          | none => exact ⟨_, by unfold slice; simp only [hu, hs, hb, hk, if_true]; rfl, hκ⟩
          | some v => exact ⟨_, by unfold slice; simp only [hu, hs, hb, hk, if_true]; rfl, hκ⟩
  · split at h
    · rename_i v hv; exact ⟨v, hv, h⟩
    · exact h.elim

theorem opK_some {E : Env} {ρ : Operand → Option AV} {H : AHeap} {o : Op} {κ : ARes → AHeap → Prop} (h : opK E ρ H o κ) : ∃ r H', op E ρ H o = some (r, H') ∧ κ r H' := by
  unfold opK at h
  split at h
  · split at h
    · rename_i h1 h2 h3 h4
      obtain ⟨v, hv, hκ⟩ := sliceK_some h
      exact ⟨.val v, H, by simp only [op, h1, h2, h3, h4, val, hv], hκ⟩
    · exact h.elim
  · split at h
    · rename_i r H' hr; exact ⟨r, H', hr, h⟩
    · exact h.elim

theorem calmK_some {E : Env} {fr : AFrame} {H : AHeap} {ops : Array Oper} {i : Nat} {κ : AV → Prop} (h : calmK E fr H ops i κ) : ∃ v, calmVal E fr H ops i = some v ∧ κ v := by
  unfold calmK at h
  unfold calmVal
  split at h
  · exact h.elim
  · rename_i o ho
    simp only [ho]
    cases hw : wanted o ops fr.tmps with
    | none => rw [hw] at h; exact h.elim
    | some b =>
      rw [hw] at h
      cases b with
      | false => exact ⟨.undef, rfl, h⟩
      | true =>
        simp only [cond_true] at h ⊢
        obtain ⟨r, H', hop, hκ⟩ := opK_some h
        rw [hop]
        cases r with
        | val v => exact ⟨v, rfl, hκ⟩
        | _ => exact hκ.elim

theorem changeK_next {E : Env} {fr : AFrame} {cs : List AFrame} {H : AHeap} {ops : Array Oper} {c : Nat} {κ : AMach → Prop} (h : changeK E fr cs H ops c κ) : ∃ l, change E fr cs H ops c = .next l ∧ ∀ m ∈ l, κ m := by
  unfold changeK at h
  unfold change
  split at h
  · exact h.elim
  · rename_i o ho
    simp only [ho]
    cases hw : wanted o ops fr.tmps with
    | none => rw [hw] at h; exact h.elim
    | some b =>
      rw [hw] at h
      cases b with
      | false => simp only [cond_false] at h ⊢; exact outK_next h
      | true =>
        simp only [cond_true] at h ⊢
        obtain ⟨r, H', hop, hκ⟩ := opK_some h
        rw [hop]
        exact outK_next hκ

theorem changesK_next {E : Env} {fr : AFrame} {cs : List AFrame} {H : AHeap} {ops : Array Oper} {done : List Nat} {k : List AItem} {κ : AMach → Prop} : ∀ {rs : List Plan}, changesK E fr cs H ops done k κ rs →
    ∃ l, joinAll (rs.map fun p => change E { fr with todo := .inWait ops done p.i :: k } cs H ops p.i) = .next l ∧ ∀ m ∈ l, κ m
  | [], _ => ⟨[], rfl, fun m hm => by cases hm⟩
  | [p], h => by
    obtain ⟨l, hl, hκ⟩ := changeK_next h
    exact ⟨l, by simp [joinAll, hl], hκ⟩
  | p :: q :: rs, h => by
    simp only [changesK] at h
    obtain ⟨l, hl, hκ⟩ := changeK_next h.1
    obtain ⟨l2, hl2, hκ2⟩ := changesK_next h.2
    refine ⟨l ++ l2, ?_, fun m hm => ?_⟩
    · simp only [List.map_cons, joinAll, hl] at hl2 ⊢
      rw [hl2]
    · rcases List.mem_append.1 hm with hm | hm
      · exact hκ m hm
      · exact hκ2 m hm

theorem drawK_next {E : Env} {fr : AFrame} {cs : List AFrame} {H : AHeap} {ops : Array Oper} {done : List Nat} {k : List AItem} {rs : List Plan} {κ : AMach → Prop} (h : drawK E fr cs H ops done k rs κ) :
    ∃ l, stepDraw E fr cs H ops done k rs = .next l ∧ ∀ m ∈ l, κ m := by
  unfold drawK at h
  unfold stepDraw
  cases hf : rs.find? (·.calm) with
  | some p =>
    rw [hf] at h
    obtain ⟨v, hv, hκ⟩ := calmK_some h
    exact ⟨_, by simp only [hv]; rfl, fun m hm => by rw [List.mem_singleton.1 hm]; exact hκ⟩
  | none =>
    rw [hf] at h
    cases rs with
    | nil => exact ⟨_, rfl, fun m hm => by rw [List.mem_singleton.1 hm]; exact h⟩
    | cons p rs => exact changesK_next h

theorem Cap_refl (a : Cap) : AV.beq.Cap.beq a a = true := by cases a <;> simp [AV.beq.Cap.beq]

mutual
theorem AV.beq_refl : ∀ a : AV, AV.beq a a = true
  | .bool a => by simp [AV.beq]
  | .int k n => by simp [AV.beq]
  | .str s => by simp [AV.beq]
  | .nilptr => rfl
  | .ptr r o => by simp [AV.beq]
  | .nilslice => rfl
  | .slice r o n c => by simp [AV.beq, Cap_refl]
  | .nilmap => rfl
  | .map r => by simp [AV.beq]
  | .func f cs => by simp [AV.beq, AV.beqL_refl cs]
  | .yield l => by simp [AV.beq]
  | .nilfunc => rfl
  | .iface t v => by simp [AV.beq, AV.beq_refl v]
  | .nilif => rfl
  | .agg cs => by simp [AV.beq, AV.beqL_refl cs]
  | .tuple cs => by simp [AV.beq, AV.beqL_refl cs]
  | .sym r => by simp [AV.beq]
theorem AV.beqL_refl : ∀ a : List AV, AV.beqL a a = true
  | [] => rfl
  | a :: as => by simp [AV.beqL, AV.beq_refl a, AV.beqL_refl as]
end

theorem settledK_true {E : Env} {fr : AFrame} {H : AHeap} {ops : Array Oper} {i : Nat} {κ : Prop} (h : settledK E fr H ops i κ) : settledB E fr H ops i = true ∧ κ := by
  obtain ⟨v, hv, hκ⟩ := calmK_some h
  unfold settledB
  rw [hv]
  cases hd : dstAt ops i with
  | none => rw [hd] at hκ; exact ⟨rfl, hκ⟩
  | some d =>
    rw [hd] at hκ
    simp only at hκ ⊢
    cases hb : Nat.blt d fr.size with
    | true =>
      rw [hb, cond_true] at hκ
      cases hx : fr.tmps.get d with
      | some x => rw [hx] at hκ; obtain ⟨rfl, hκ⟩ := hκ; exact ⟨AV.beq_refl _, hκ⟩
      | none => rw [hx] at hκ; exact hκ.elim
    | false => rw [hb] at hκ; exact ⟨rfl, hκ⟩

theorem probedK_true {E : Env} {fr : AFrame} {H : AHeap} {ops : Array Oper} {done : List Nat} {c : Nat} {anc : List Nat} {κ : Prop} : ∀ {ps : List Plan}, probedK E fr H ops done c anc κ ps →
    (ps.all fun p => bif p.calm && (has done p.i && (!Nat.beq p.i c && !has anc p.i)) then settledB E fr H ops p.i else true) = true ∧ κ
  | [], h => ⟨rfl, h⟩
  | p :: ps, h => by
    unfold probedK at h
    rw [List.all_cons]
    cases hb : (p.calm && (has done p.i && (!Nat.beq p.i c && !has anc p.i))) with
    | false =>
      rw [hb] at h
      obtain ⟨h1, h2⟩ := probedK_true h
      exact ⟨by simpa using h1, h2⟩
    | true =>
      rw [hb] at h
      obtain ⟨h0, h⟩ := settledK_true h
      obtain ⟨h1, h2⟩ := probedK_true h
      refine ⟨?_, h2⟩
      rw [h1]
      simp [h0]

theorem stepK_ends {E : Env} {C : Specs} {Q κ : AMach → Prop} (ok : ∀ m', κ m' → Ends E C Q m') {m : AMach} (h : stepK E C m κ) : Ends E C Q m := by
  have fin : (∃ l, step E m = .next l ∧ ∀ m' ∈ l, κ m') → Ends E C Q m := fun ⟨_, h1, h2⟩ => .next h1 fun m' hm => ok m' (h2 m' hm)
  unfold stepK at h
  cases hr : m.fr.ret with
  | true => rw [hr] at h; exact fin (outK_next h)
  | false =>
    rw [hr, cond_false] at h
    split at h
    · rename_i c thn els k ht
      split at h
      · rename_i b hb
        refine fin ⟨_, by unfold step; simp only [hr, cond_false, ht, hb]; rfl, fun m' hm => ?_⟩
        rw [List.mem_singleton.1 hm]
        cases b <;> simpa [hr] using h
      · exact h.elim
    · rename_i ops done k ht
      refine fin ?_
      unfold step
      simp only [hr, cond_false, ht]
      simpa only [hr] using drawK_next h
    · rename_i ops done c k ht
      obtain ⟨h1, h2⟩ := probedK_true h
      refine fin ?_
      unfold step
      simp only [hr, cond_false, ht]
      refine ⟨_, by unfold probed; rw [h1]; rfl, fun m' hm => ?_⟩
      rw [List.mem_singleton.1 hm]
      simpa only [hr] using h2
    · rename_i ops i r k ht
      obtain ⟨l, hl, hκ⟩ := changeK_next h
      refine fin ⟨l, ?_, hκ⟩
      unfold step
      simp only [hr, cond_false, ht]
      unfold change at hl
      have hfr : ({ m.fr with todo := .inRegion ops (i :: r) :: k } : AFrame) = m.fr := by
        rw [← ht]
      rw [hfr] at hl
      cases ho : ops[i]? with
      | none => rw [ho] at hl; cases hl
      | some o => rw [ho] at hl; exact hl
    · rename_i args k ht
      obtain ⟨fr, cs, H⟩ := m
      cases cs with
      | nil => exact h.elim
      | cons c cs =>
        have key : ∀ x H', outK κ (one (c.finish x) cs H') → ∃ c', c.finish x = some c' ∧ Ends E C Q ⟨c', cs, H'⟩ := by
          intro x H' hx
          unfold one at hx
          cases hc : c.finish x with
          | none => rw [hc] at hx; exact hx.elim
          | some c' => rw [hc] at hx; exact ⟨c', rfl, ok _ hx⟩
        exact .known ht hr h (fun x H' hx => let ⟨c', h1, _⟩ := key x H' hx; ⟨c', h1⟩) (fun x H' c' hx hc => by
          obtain ⟨c2, h1, h2⟩ := key x H' hx
          rw [hc] at h1
          cases h1
          exact h2)
    · exact fin (outK_next h)

/-- Steps, until there is something to stop at. -/
def go (E : Env) (C : Specs) (cut : AMach → Bool) : Nat → AMach → (AMach → Prop) → Prop
  | 0, m, κ => κ m
  | n + 1, m, κ => bif cut m then κ m else stepK E C m fun m' => go E C cut n m' κ

theorem go_ends {E : Env} {C : Specs} {Q κ : AMach → Prop} (ok : ∀ m', κ m' → Ends E C Q m') {cut : AMach → Bool} : ∀ {n : Nat} {m : AMach}, go E C cut n m κ → Ends E C Q m
  | 0, m, h => ok m h
  | n + 1, m, h => by
    unfold go at h
    cases hc : cut m with
    | true => rw [hc] at h; exact ok m h
    | false =>
      rw [hc] at h
      exact stepK_ends (fun m' => go_ends ok) h

/-- Nothing is left to do but to hand the result on. -/
def over (m : AMach) : Bool := m.fr.ret && (m.fr.defers.isEmpty && m.callers.isEmpty)

/-- It gives a value of which k is said. -/
def finK (E : Env) (k : FuncId → AV → AHeap → Prop) (m : AMach) : Prop := match step E m with
  | .done f x H => k f x H
  | _ => False

theorem finK_ends {E : Env} {C : Specs} {k : FuncId → AV → AHeap → Prop} (m : AMach) (h : finK E k m) : Ends E C (Fin E k) m := by
  unfold finK at h
  split at h
  · rename_i f x H hd; exact .now ⟨f, x, H, hd, h⟩
  · exact h.elim

/-- The whole function, called. -/
def calledK (E : Env) (C : Specs) (f : FuncId) (args : List AV) (H : AHeap) (k : AV → AHeap → Prop) (n : Nat) : Prop :=
  match E.fn f with
  | some fn => match enter f fn args with
    | some af => go E C over n ⟨af, [], H⟩ (finK E fun g x H => g = f ∧ k x H)
    | none => False
  | none => False

theorem calls_of_calledK {P : Program} {E : Env} {C : Specs} {k : AV → AHeap → Prop} {n : Nat} {ρ : Places} {w : World} {H : AHeap} {f : FuncId} {args : List AV} {vs : List Value}
    (hE : EnvOK P E ρ) (hC : ConOK P E w C) (hH : HRel ρ w H w) (hv : VRelL ρ args vs) (hr : calledK E C f args H k n) :
    Calls P f vs.toArray w fun
      | .returned v, w' => ∃ σ x H', k x H' ∧ VRel σ x v ∧ HRel σ w H' w'
      | _, _ => False := by
  unfold calledK at hr
  split at hr
  · rename_i fn hf
    split at hr
    · rename_i af he
      exact calls_of_ends hE hC hH hf he hv (go_ends finK_ends hr)
    · exact hr.elim
  · exact hr.elim

end AM
end Go
