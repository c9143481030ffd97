/-
  An abstract machine over the model's code: its runs.
-/
import Derived.Test.YtogecpdhhlccaaaGreatDoorAmDrawn
namespace Go
namespace AM
open Go.RowKit (Below)

theorem one_ne_done {fr : Option AFrame} {cs : List AFrame} {H : AHeap} {f : FuncId} {v : AV} {H' : AHeap} : one fr cs H ≠ .done f v H' := by
  unfold one; split <;> simp

theorem apply_ne_done {E : Env} {fr : AFrame} {cs : List AFrame} {r : Res} {f : FuncId} {v : AV} {H' : AHeap} : apply E fr cs r ≠ .done f v H' := by
  unfold apply
  split
  · exact one_ne_done
  · exact one_ne_done
  · rename_i g args H
    cases E.con g with
    | true => simp
    | false =>
      rw [cond_false]
      split
      · exact one_ne_done
      · simp
  · split
    · split <;> simp
    · simp
  · split
    · simp
    · split <;> simp
  · simp

theorem leave_ne_done {fr : AFrame} {cs : List AFrame} {H : AHeap} {j : Option Code} {f : FuncId} {v : AV} {H' : AHeap} : leave fr cs H j ≠ .done f v H' := by
  unfold leave
  split
  · split <;> simp
  · split
    · exact one_ne_done
    · simp

theorem joinAll_ne_done : ∀ {l : List AOut} {f : FuncId} {v : AV} {H' : AHeap}, joinAll l ≠ .done f v H'
  | [], _, _, _ => by simp [joinAll]
  | a :: l, _, _, _ => by
    unfold joinAll
    cases a with
    | next n => simp only; split <;> simp
    | _ => simp

theorem stepDraw_ne_done {E : Env} {fr : AFrame} {cs : List AFrame} {H : AHeap} {ops : Array Oper} {done : List Nat} {k : List AItem} {rs : List Plan} {f : FuncId} {v : AV} {H' : AHeap} : stepDraw E fr cs H ops done k rs ≠ .done f v H' := by
  unfold stepDraw
  split
  · split <;> simp
  · split
    · simp
    · exact joinAll_ne_done

theorem cond_ne {b : Bool} {x y z : AOut} (hx : x ≠ z) (hy : y ≠ z) : (bif b then x else y) ≠ z := by cases b <;> assumption

theorem done_inv {E : Env} {m : AMach} {f : FuncId} {v : AV} {H : AHeap} (h : step E m = .done f v H) :
    m.fr.ret = true ∧ m.fr.defers = [] ∧ m.callers = [] ∧ m.fr.fn = f ∧ m.H = H ∧ ∃ fn vs, E.fn f = some fn ∧ results E H m.fr.tmps fn.results.toList = some vs ∧ resultOf vs = v := by
  unfold step at h
  simp only at h
  cases hr : m.fr.ret with
  | false =>
    rw [hr, cond_false] at h
    exfalso
    revert h
    repeat' split
    all_goals first
      | exact leave_ne_done
      | exact stepDraw_ne_done
      | exact apply_ne_done
      | exact one_ne_done
      | (intro h; cases h)
      | exact cond_ne apply_ne_done one_ne_done
      | exact cond_ne (cond_ne (by simp) (by simp)) (by simp)
      | exact cond_ne (by simp) (by simp)
  | true =>
    rw [hr, cond_true] at h
    split at h
    · split at h <;> cases h
    · rename_i hd
      split at h
      · cases h
      · rename_i fn hfn
        split at h
        · cases h
        · rename_i vs hvs
          split at h
          · rename_i hc
            cases h
            exact ⟨rfl, hd, hc, rfl, rfl, fn, vs, hfn, hvs, rfl⟩
          · exact absurd h one_ne_done

section
variable {P : Program} {E : Env} {w0 : World}

theorem done_sound {ρ : Places} {w : World} {m : AMach} {fr : Frame} {fs : List Frame} (hm : MRel P E ρ w0 m fr fs w) {f : FuncId} {x : AV} {H : AHeap} (h : step E m = .done f x H) :
    fs = [] ∧ fr.fn = f ∧ HRel ρ w0 H w ∧ ∃ v, VRel ρ x v ∧ fr.leaving P w (.returned v) := by
  obtain ⟨hr, hd, hc, hf, rfl, fn, vs, hfn, hvs, rfl⟩ := done_inv h
  have h1 := hm.cs
  rw [hc] at h1
  simp only [CRel] at h1
  have hpl : FRel ρ m.fr fr := by
    cases hm.fr with
    | plain h => exact h
    | draw _ _ _ _ _ h _ => rw [h.ret] at hr; cases hr
    | probe _ _ _ _ _ _ h _ _ => rw [h.ret] at hr; cases hr
    | known _ _ _ _ h _ _ => rw [h] at hr; cases hr
  have h2 := hpl.fn
  have h3 := hpl.mode
  have h4 := hpl.defers
  rw [hr] at h3
  rw [hd] at h4
  simp only [DRel] at h4
  obtain ⟨v, hv1, hv2⟩ := results_run hm.env hm.heap hpl.tmps hvs
  have hff : fr.fn = f := by rw [← hf]; exact h2
  refine ⟨h1, hff, hm.heap, v, hv2, by simpa using h3, h4, hpl.kind, fn, ?_, hv1⟩
  rw [hff]
  exact hm.env.fn _ _ hfn

theorem run_sound {k : FuncId → AV → AHeap → Bool} : ∀ (n : Nat) {ρ : Places} {w : World} {m : AMach} {fr : Frame} {fs : List Frame} (cs0 : List Frame), MRel P E ρ w0 m fr fs w → run E k n m = true →
    ∃ σ fr' w' f x v H, Steps P (lone fr (fs ++ cs0) w) (lone fr' cs0 w') ∧ fr'.fn = f ∧ fr'.leaving P w' (.returned v) ∧ k f x H = true ∧ VRel σ x v ∧ HRel σ w0 H w' ∧ EnvOK P E σ
  | 0, _, _, _, _, _, _, _, h => by simp [run] at h
  | n + 1, ρ, w, m, fr, fs, cs0, hm, h => by
    unfold run at h
    split at h
    · rename_i m1 hs
      obtain ⟨σ, m', fr', fs', w', hmem, hst, hmr⟩ := step_sound (cs0 := cs0) hm hs
      obtain rfl := List.mem_singleton.1 hmem
      obtain ⟨σ2, fr2, w2, f, x, v, H, hs2, r⟩ := run_sound n cs0 hmr h
      exact ⟨σ2, fr2, w2, f, x, v, H, Steps.trans hst hs2, r⟩
    · rename_i l _ hs
      obtain ⟨σ, m', fr', fs', w', hmem, hst, hmr⟩ := step_sound (cs0 := cs0) hm hs
      have h' := List.all_eq_true.1 h m' hmem
      obtain ⟨σ2, fr2, w2, f, x, v, H, hs2, r⟩ := run_sound n cs0 hmr h'
      exact ⟨σ2, fr2, w2, f, x, v, H, Steps.trans hst hs2, r⟩
    · rename_i f x H hs
      obtain ⟨rfl, hff, hH, v, hv, hl⟩ := done_sound hm hs
      exact ⟨ρ, fr, w, f, x, v, H, ⟨0, rfl⟩, hff, hl, h, hv, hH, hm.env⟩
    · cases h

/-- A call is as the abstract machine's runs are. -/
theorem calls_of_run {k : AV → AHeap → Bool} {n : Nat} {ρ : Places} {w : World} {H : AHeap} {f : FuncId} {fn : Func} {args : List AV} {vs : List Value} {af : AFrame}
    (hE : EnvOK P E ρ) (hH : HRel ρ w H w) (hf : E.fn f = some fn) (he : enter f fn args = some af) (hv : VRelL ρ args vs) (hr : run E (fun g x H => Nat.beq g f && k x H) n ⟨af, [], H⟩ = true) :
    Calls P f vs.toArray w fun
      | .returned v, w' => ∃ σ x H', k x H' = true ∧ VRel σ x v ∧ HRel σ w H' w'
      | _, _ => False := by
  intro cs
  have hm : MRel P E ρ w ⟨af, [], H⟩ (Frame.enter P f vs.toArray .normal) [] w := ⟨.plain (enter_sound hE hf he hv), by simp only [CRel], hH, hE⟩
  obtain ⟨σ, fr', w', f', x, v, H', hs, hff, hl, hk, hx, hh, _⟩ := run_sound n cs hm hr
  simp only [Bool.and_eq_true] at hk
  have hf' : f' = f := Nat.eq_of_beq_eq_true hk.1
  exact ⟨.returned v, w', fr', ⟨σ, x, H', hk.2, hx, hh⟩, hs, by rw [hff, hf'], hl⟩

/-- The whole function, called. -/
def called (E : Env) (f : FuncId) (args : List AV) (H : AHeap) (k : AV → AHeap → Bool) (n : Nat) : Bool :=
  match E.fn f with
  | some fn => match enter f fn args with
    | some af => run E (fun g x H => Nat.beq g f && k x H) n ⟨af, [], H⟩
    | none => false
  | none => false

theorem calls_of_called {k : AV → AHeap → Bool} {n : Nat} {ρ : Places} {w : World} {H : AHeap} {f : FuncId} {args : List AV} {vs : List Value}
    (hE : EnvOK P E ρ) (hH : HRel ρ w H w) (hv : VRelL ρ args vs) (hr : called E f args H k n = true) :
    Calls P f vs.toArray w fun
      | .returned v, w' => ∃ σ x H', k x H' = true ∧ VRel σ x v ∧ HRel σ w H' w'
      | _, _ => False := by
  unfold called at hr
  split at hr
  · rename_i fn hf
    split at hr
    · rename_i af he
      exact calls_of_run hE hH hf he hv hr
    · cases hr
  · cases hr
end

end AM
end Go
