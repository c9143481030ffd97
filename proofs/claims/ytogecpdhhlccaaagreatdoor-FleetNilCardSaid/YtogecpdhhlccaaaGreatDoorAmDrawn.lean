/-
  An abstract machine over the model's code: regions whose order was drawn.
-/
import Derived.Test.YtogecpdhhlccaaaGreatDoorAmMach
namespace Go
namespace AM
open Go.RowKit (Below)

variable {P : Program} {E : Env} {ρ : Places} {w0 w : World}

theorem fresh {S : Sig} {ops : Array Oper} {done r : List Nat} {i : Nat} {o : Oper} (h : DrawOK S ops done (i :: r)) (ho : ops[i]? = some o) {t : Nat} (ht : t ∈ namesOf ops o) : ¬ Late ops done (i :: r) t := by
  rintro ⟨j, hj, hjr, hd⟩
  obtain ⟨oj, hoj, _, hown⟩ := calm_own (h.calm j hj hjr)
  have hd' : oj.dst = some t := by simpa [dstAt, hoj] using hd
  exact h.ord.2.2.1 j ((hown t hd' i o ho).1 ht) hjr

theorem late_wanted {S : Sig} {ops : Array Oper} {done r : List Nat} {i : Nat} {k : List AItem} {af : AFrame} {fr : Frame} {o : Oper} (h : DF S ρ ops done (i :: r) k af fr) (ho : ops[i]? = some o) :
    ∀ {b : Bool}, wanted o ops af.tmps = some b → Region.wanted o (yielded ops fr.tmps) = b := by
  refine wanted_at (ρ := ρ) fun g want d hg hd => h.tmps.get d fun hl => fresh h.ok ho ?_ hl.1
  unfold namesOf
  rw [hg]
  exact List.mem_append_left _ (by simp [dstAt, hd])

open Classical in
theorem late_op (hE : EnvOK P E ρ) {H : AHeap} (hH : HRel ρ w0 H w) {S : Sig} {ops : Array Oper} {done rest : List Nat} {i : Nat} {k : List AItem} {af : AFrame} {fr : Frame} {o : Oper} (h : DF S ρ ops done (i :: rest) k af fr) (ho : ops[i]? = some o)
    {r : ARes} {H' : AHeap} (hop : op E (af.eval E) H o.op = some (r, H')) : ResOK P ρ w0 w r H' (execOp fr.eval o) := by
  have hc : op E (fun x => if x ∈ o.op.operands then af.eval E x else none) H o.op = some (r, H') := by
    rw [← hop]
    exact op_congr fun x hx => if_pos hx
  refine op_sound hE hH ?_ hc
  intro x a hx
  simp only at hx
  split at hx
  · rename_i hmem
    cases x with
    | tmp t =>
      refine h.tmps.get t (fun hl => fresh h.ok ho ?_ hl.1) a hx
      unfold namesOf
      exact List.mem_append_right _ (List.mem_filterMap.2 ⟨.tmp t, by simpa using hmem, rfl⟩)
    | const v => exact ofConst_sound hx ρ
    | global g => exact hE.glob g a hx
    | func f => simp only [AFrame.eval, Option.some.injEq] at hx; subst hx; simp only [VRel, Frame.eval]; exact ⟨[], .nil, rfl⟩
  · cases hx

/-- The model's step at an operation of a region. -/
theorem real_op {fr : Frame} {cs : List Frame} {ops : Array Oper} {i : Nat} {r : List Nat} {is : List Item} {o : Oper} (ht : fr.todo = .inRegion ops (i :: r) :: is) (hm : fr.mode = .run) (ho : ops[i]? = some o)
    (hw : Region.wanted o (yielded ops fr.tmps) = true) (hnd : ∀ c, o.op ≠ .defer c) :
    (stepG P true { frame := fr, callers := cs, status := .running, dying := none } w).bare = (stepG.apply P true fr cs none (execOp fr.eval o) w).bare := by
  obtain ⟨fn, A, todo, defers, mode, kind, roundOf⟩ := fr
  simp only at ht hm hw
  subst ht hm
  simp only [stepG, stepG.exec, ho, Option.map_some, Option.getD_some, hw, if_true, stepG.oper, Frame.oper?]
  cases roundOf with
  | none => rfl
  | some l =>
    cases hoo : o.op <;> first | rfl | exact absurd hoo (hnd _)

theorem real_skip {fr : Frame} {cs : List Frame} {ops : Array Oper} {i : Nat} {r : List Nat} {is : List Item} {o : Oper} (ht : fr.todo = .inRegion ops (i :: r) :: is) (hm : fr.mode = .run) (ho : ops[i]? = some o)
    (hw : Region.wanted o (yielded ops fr.tmps) = false) :
    (stepG P true { frame := fr, callers := cs, status := .running, dying := none } w).bare = .go { frame := fr.finish Go.undef, callers := cs, status := .running, dying := none } w := by
  obtain ⟨fn, A, todo, defers, mode, kind, roundOf⟩ := fr
  simp only at ht hm hw
  subst ht hm
  simp only [stepG, stepG.exec, ho, Option.map_some, Option.getD_some, hw]
  rfl

theorem DrawOK.pass {S : Sig} {ops : Array Oper} {done r : List Nat} {j : Nat} (h : DrawOK S ops done (j :: r)) (hj : j ∈ done) : DrawOK S ops done r := by
  obtain ⟨hn, hcr, hpr, ho⟩ := h.ord
  refine ⟨ho, fun i hi hir p hpi hpr' => ?_, fun i hi hir => ?_, fun i hid hir => h.calm i hid (List.mem_cons_of_mem _ hir), h.closed, h.back⟩
  · by_cases e : i = j
    · subst e; exact hpr p hpi (List.mem_cons_of_mem _ hpr')
    · exact h.down i hi (by simp [e, hir]) p hpi (List.mem_cons_of_mem _ hpr')
  · by_cases e : i = j
    · subst e; exact hj
    · exact h.sub i hi (by simp [e, hir])

/-- The model comes to what the abstract machine did before. -/
theorem late_done {S : Sig} {ops : Array Oper} {done r : List Nat} {j : Nat} {k : List AItem} {af : AFrame} {fr : Frame} (h : DF S ρ ops done (j :: r) k af fr) (hj : j ∈ done) {v : Value}
    (hv : ∀ d, dstAt ops j = some d → d < af.size → ∀ x, af.tmps.get d = some x → VRel ρ x v) : DF S ρ ops done r k af (fr.finish v) := by
  obtain ⟨fn, A, todo, defers, mode, kind, roundOf⟩ := fr
  obtain ⟨hok, h1, h2, ⟨is, rfl, hk⟩, h4, h5, h6, h7, h8⟩ := h
  simp only at h1 h2 h4 h6 h7 h8
  refine ⟨hok.pass hj, h1, ?_, ⟨is, rfl, hk⟩, h4, h5, h6, h7, h8⟩
  simp only [Frame.finish]
  simp only [dstAt] at hv
  cases hd : (ops[j]?).bind (·.dst) with
  | none =>
    refine ⟨h2.size, fun i hi => h2.get i ?_⟩
    rintro ⟨⟨j', hj', hjr, hd'⟩, hlt⟩
    rcases List.mem_cons.1 hjr with e | hjr
    · subst e; simp [dstAt, hd] at hd'
    · exact hi ⟨⟨j', hj', hjr, hd'⟩, hlt⟩
  | some d =>
    refine ⟨by simpa using h2.size, fun i hi y hy => ?_⟩
    by_cases e : i = d
    · subst e
      by_cases hlt : i < af.size
      · have hlt' : i < A.size := by rw [h2.size]; exact hlt
        simpa [hlt'] using hv i hd hlt y hy
      · have hge : ¬ i < A.size := by rw [h2.size]; exact hlt
        have := h2.get i (fun hl => hlt hl.2) y hy
        simpa [Array.setIfInBounds, hge] using this
    · have hne : ¬ (Late ops done (j :: r) i ∧ i < af.size) := by
        rintro ⟨⟨j', hj', hjr, hd'⟩, hlt⟩
        rcases List.mem_cons.1 hjr with e' | hjr
        · subst e'
          simp only [dstAt, hd, Option.some.injEq] at hd'
          exact e hd'.symm
        · exact hi ⟨⟨j', hj', hjr, hd'⟩, hlt⟩
      have := h2.get i hne y hy
      rw [Array.getD_eq_getD_getElem?, Array.getElem?_setIfInBounds_ne (Ne.symm e), ← Array.getD_eq_getD_getElem?]
      exact this

theorem late_step (hE : EnvOK P E ρ) {H : AHeap} (hH : HRel ρ w0 H w) {ops : Array Oper} {done r : List Nat} {j : Nat} {k : List AItem} {af : AFrame} {fr : Frame} {cs : List Frame} (h : DF E.S ρ ops done (j :: r) k af fr) (hj : j ∈ done) (hs : Settled E af H ops j) :
    ∃ σ fr' w', ρ.le σ ∧ Steps P (lone fr cs w) (lone fr' cs w') ∧ DF E.S σ ops done r k af fr' ∧ HRel σ w0 H w' := by
  obtain ⟨o, ho, hkind, _⟩ := calm_own (h.ok.calm j hj List.mem_cons_self)
  obtain ⟨v, hv, hp⟩ := hs
  obtain ⟨is, htodo, _⟩ := h.todo
  have hw := fun {b : Bool} (e : wanted o ops af.tmps = some b) => late_wanted h ho e
  unfold calmVal at hv
  rw [ho] at hv
  simp only at hv
  cases hwo : wanted o ops af.tmps with
  | none => rw [hwo] at hv; cases hv
  | some bb =>
   rw [hwo] at hv
   replace hw := hw hwo
   simp only at hv
   cases bb with
   | false =>
    cases hv
    exact ⟨ρ, fr.finish Go.undef, w, Places.le_refl _, real_step (real_skip htodo h.mode ho hw), late_done h hj fun d hd hlt x hx => by rw [hp d hd hlt] at hx; cases hx; exact VRel.undef ρ, hH⟩
   | true =>
    rw [cond_true] at hv
    split at hv
    · rename_i v' H2 hop
      cases hv
      obtain ⟨rfl, _⟩ := calm_op hkind hop
      obtain ⟨σ, rv, w', hle, hrun, hx, hh⟩ := late_op hE hH h ho hop
      have hnd : ∀ c, o.op ≠ .defer c := by
        intro c e
        rw [e] at hop
        simp [op] at hop
      refine ⟨σ, fr.finish rv, w', hle, real_step ?_, late_done (h.mono hle) hj fun d hd hlt y hy => by rw [hp d hd hlt] at hy; cases hy; exact hx, hh⟩
      rw [real_op htodo h.mode ho hw hnd]
      simp [stepG.apply, hrun]
    · cases hv

theorem drain (hE : EnvOK P E ρ) {H : AHeap} (hH : HRel ρ w0 H w) {ops : Array Oper} {done : List Nat} {k : List AItem} {af : AFrame} {cs : List Frame} : ∀ (rest : List Nat) {ρ' : Places} {fr : Frame} {w' : World}, ρ.le ρ' → DF E.S ρ' ops done rest k af fr → HRel ρ' w0 H w' →
    (∀ j, j ∈ done → j ∈ rest → Settled E af H ops j) →
    ∃ σ rest' fr' w2, ρ.le σ ∧ Steps P (lone fr cs w') (lone fr' cs w2) ∧ DF E.S σ ops done rest' k af fr' ∧ HRel σ w0 H w2 ∧
      (rest' = [] ∨ ∃ c r, rest' = c :: r ∧ c < ops.size ∧ c ∉ done ∧ ∀ p ∈ predsAt ops c, p ∈ done)
  | [], ρ', fr, w', hle, h, hH', _ => ⟨ρ', [], fr, w', hle, ⟨0, rfl⟩, h, hH', .inl rfl⟩
  | c :: r, ρ', fr, w', hle, h, hH', hs => by
    by_cases hc : c ∈ done
    · obtain ⟨σ, fr', w2, hle2, hst, h2, hH2⟩ := late_step (cs := cs) (hE.mono hle) hH' h hc (hs c hc List.mem_cons_self)
      obtain ⟨σ3, rest', fr3, w3, hle3, hst3, h3⟩ := drain hE hH r (Places.le_trans hle hle2) h2 hH2 fun j hj hjr => hs j hj (List.mem_cons_of_mem _ hjr)
      exact ⟨σ3, rest', fr3, w3, hle3, Steps.trans hst hst3, h3⟩
    · obtain ⟨hn, hcr, hpr, ho⟩ := h.ok.ord
      refine ⟨ρ', c :: r, fr, w', hle, ⟨0, rfl⟩, h, hH', .inr ⟨c, r, rfl, hn, hc, fun p hp => ?_⟩⟩
      have hlt := h.ok.back c p hp
      exact h.ok.sub p (by omega) (hpr p hp)

theorem ready_of {S : Sig} {ops : Array Oper} {done : List Nat} {c : Nat} (hn : c < ops.size) (hc : c ∉ done) (hp : ∀ p ∈ predsAt ops c, p ∈ done) : planAt S ops c ∈ (plan S ops).filter (Plan.ready done) := by
  refine List.mem_filter.2 ⟨plan_of_lt hn, ?_⟩
  simp only [Plan.ready, planAt, Bool.and_eq_true, Bool.not_eq_true', has_false]
  exact ⟨hc, List.all_eq_true.2 fun p hpm => has_iff.2 (hp p hpm)⟩

theorem ready_inv {S : Sig} {ops : Array Oper} {done : List Nat} {p : Plan} (h : p ∈ (plan S ops).filter (Plan.ready done)) : p.i < ops.size ∧ p = planAt S ops p.i ∧ p.i ∉ done ∧ ∀ q ∈ predsAt ops p.i, q ∈ done := by
  obtain ⟨h1, h2⟩ := List.mem_filter.1 h
  obtain ⟨hn, he⟩ := plan_mem.1 h1
  simp only [Plan.ready, Bool.and_eq_true, Bool.not_eq_true', has_false] at h2
  refine ⟨hn, he, h2.1, fun q hq => ?_⟩
  have := List.all_eq_true.1 h2.2 q (by rw [he]; exact hq)
  exact has_iff.1 this

theorem calmVal_congr {af af' : AFrame} {H : AHeap} {ops : Array Oper} {j : Nat} (h : ∀ o, ops[j]? = some o → ∀ t ∈ namesOf ops o, af'.tmps.get t = af.tmps.get t) : calmVal E af' H ops j = calmVal E af H ops j := by
  unfold calmVal
  cases ho : ops[j]? with
  | none => rfl
  | some o =>
    have hn := h o ho
    have hw : wanted o ops af'.tmps = wanted o ops af.tmps := by
      unfold wanted
      cases hg : o.guard with
      | none => rfl
      | some g =>
        obtain ⟨g, want⟩ := g
        simp only
        cases hd : (ops[g]?).bind (·.dst) with
        | none => rfl
        | some d =>
          simp only
          rw [hn d (by unfold namesOf; rw [hg]; exact List.mem_append_left _ (by simp [dstAt, hd]))]
    have hop : op E (af'.eval E) H o.op = op E (af.eval E) H o.op := op_congr fun x hx => by
      cases x with
      | tmp t =>
        simp only [AFrame.eval]
        rw [hn t (by unfold namesOf; exact List.mem_append_right _ (List.mem_filterMap.2 ⟨.tmp t, by simpa using hx, rfl⟩))]
      | _ => rfl
    simp only [hw, hop]

theorem put_get {af : AFrame} {dst : Option Tmp} {x : AV} {i : Nat} (h : ∀ d, dst = some d → i ≠ d) : (af.put dst x).tmps.get i = af.tmps.get i := by
  cases dst with
  | none => rfl
  | some d =>
    simp only [AFrame.put]
    cases Nat.blt d af.size with
    | true => simp only [cond_true, T.get_set, if_neg (h d rfl)]
    | false => rfl

theorem put_size {af : AFrame} {dst : Option Tmp} {x : AV} : (af.put dst x).size = af.size := by
  cases dst with
  | none => rfl
  | some d => simp only [AFrame.put]; cases Nat.blt d af.size <;> rfl

theorem put_here {af : AFrame} {d : Nat} {x : AV} (h : d < af.size) : (af.put (some d) x).tmps.get d = some x := by
  have : Nat.blt d af.size = true := Nat.ble_eq_true_of_le h
  simp only [AFrame.put, this, cond_true, T.get_set, if_true]

/-- What calls give: what is enough for what is said behind them. -/
abbrev Specs := FuncId → List AV → AHeap → (AV → AHeap → Prop) → Prop

/-- What is said of calls, is so. -/
def ConOK (P : Program) (E : Env) (w0 : World) (C : Specs) : Prop :=
  ∀ f args H R, C f args H R → ∀ (ρ : Places) (w : World) (vs : List Value), EnvOK P E ρ → HRel ρ w0 H w → VRelL ρ args vs →
    Calls P f vs.toArray w fun
      | .returned v, w' => ∃ σ x H', ρ.le σ ∧ R x H' ∧ VRel σ x v ∧ HRel σ w0 H' w'
      | _, _ => False

theorem HRel.onward {H : AHeap} {w' : World} (h : HRel ρ w0 H w) (hb : Below w.heap.size w w') : HRel ρ w0 H w' := by
  have hsz := h.below.size
  refine ⟨⟨hb.os.trans h.below.os, hb.tape.trans h.below.tape, hb.output.trans h.below.output, Nat.le_trans hsz hb.size, fun k hk => (hb.block k (by omega)).trans (h.below.block k hk)⟩, h.lt, ?_, h.inj, h.own⟩
  intro r p o hp hg
  obtain ⟨O, hO, hr⟩ := h.obj r p o hp hg
  have hlt : p.blk < w.heap.size := (Array.getElem?_eq_some_iff.1 hO).1
  exact ⟨O, (hb.block p.blk hlt).trans hO, hr⟩

/-- Onward, in no, one or more steps of the model. -/
def Onward (P : Program) (E : Env) (w0 w : World) (fr : Frame) (fs cs0 : List Frame) (ms : List AMach) : Prop :=
  ∃ σ m' fr' fs' w', m' ∈ ms ∧ Steps P (lone fr (fs ++ cs0) w) (lone fr' (fs' ++ cs0) w') ∧ MRel P E σ w0 m' fr' fs' w'

theorem joinAll_mem : ∀ {l : List AOut} {ms : List AMach}, joinAll l = .next ms → ∀ a ∈ l, ∃ ns, a = .next ns ∧ ∀ m ∈ ns, m ∈ ms
  | [], ms, h, a, ha => by cases ha
  | b :: l, ms, h, a, ha => by
    unfold joinAll at h
    cases b with
    | next n =>
      simp only at h
      cases hj : joinAll l with
      | next m =>
        rw [hj] at h
        cases h
        rcases List.mem_cons.1 ha with rfl | ha
        · exact ⟨n, rfl, fun m hm => List.mem_append_left _ hm⟩
        · obtain ⟨ns, h1, h2⟩ := joinAll_mem hj a ha
          exact ⟨ns, h1, fun m hm => List.mem_append_right _ (h2 m hm)⟩
      | done _ _ _ => rw [hj] at h; cases h
      | stuck => rw [hj] at h; cases h
    | done _ _ _ => cases h
    | stuck => cases h

theorem change_sound (hE : EnvOK P E ρ) {H : AHeap} (hH : HRel ρ w0 H w) {ops : Array Oper} {done r : List Nat} {c : Nat} {k : List AItem} {af : AFrame} {fr : Frame} {callers : List AFrame} {fs cs0 : List Frame} (h : DF E.S ρ ops done (c :: r) k af fr) (ht : af.todo = .inWait ops done c :: k)
    (hc : c ∉ done) (hp : ∀ p ∈ predsAt ops c, p ∈ done) (hcs : CRel E.S ρ callers fs) {ms : List AMach} (hch : change E af callers H ops c = .next ms) : Onward P E w0 w fr fs cs0 ms := by
  have hfw : FW E.S ρ af fr := .wait ops done c r k ht h hc hp
  obtain ⟨is, htodo, _⟩ := h.todo
  unfold change at hch
  split at hch
  · cases hch
  · rename_i o ho
    have hw := fun {b : Bool} (e : wanted o ops af.tmps = some b) => late_wanted h ho e
    cases hwo : wanted o ops af.tmps with
    | none => rw [hwo] at hch; cases hch
    | some bb =>
     rw [hwo] at hch
     replace hw := hw hwo
     simp only at hch
     cases bb with
     | false =>
      rw [cond_false] at hch
      simp only [one] at hch
      split at hch
      · rename_i af' hf
        cases hch
        exact ⟨ρ, _, fr.finish Go.undef, fs, w, List.mem_singleton.2 rfl, real_step (real_skip htodo h.mode ho hw), ⟨finish_sound hfw (VRel.undef ρ) hf, hcs, hH, hE⟩⟩
      · cases hch
     | true =>
      rw [cond_true] at hch
      cases hop : op E (af.eval E) H o.op with
      | none => rw [hop] at hch; cases hch
      | some rh =>
        obtain ⟨rr, H'⟩ := rh
        rw [hop] at hch
        have hres := late_op hE hH h ho hop
        have hnd : ∀ c, o.op ≠ .defer c := by
          intro c e
          rw [e] at hop
          simp [op] at hop
        obtain ⟨σ, m', fr', fs', w', hmem, hst, hmr⟩ := apply_sound (cs0 := cs0) hE hfw hcs hres hch
        exact ⟨σ, m', fr', fs', w', hmem, real_step (by rw [real_op htodo h.mode ho hw hnd]; exact hst), hmr⟩

theorem early {H : AHeap} {ops : Array Oper} {done rest : List Nat} {k : List AItem} {af : AFrame} {fr : Frame} (h : DF E.S ρ ops done rest k af fr) (hs : ∀ j, j ∈ done → j ∈ rest → Settled E af H ops j) {i : Nat} {x : AV} (hn : i ∉ done) (hp : ∀ q ∈ predsAt ops i, q ∈ done)
    (hc : calmAt E.S ops i = true) (hx : calmVal E af H ops i = some x) : FX P E ρ H { af.put (dstAt ops i) x with todo := .inDraw ops (i :: done) :: k } fr := by
  obtain ⟨o, ho, _, hown⟩ := calm_own hc
  have hdst : dstAt ops i = o.dst := by simp [dstAt, ho]
  have hsm := put_same af (dstAt ops i) x
  have hfar : ∀ j, (j = i ∨ j ∈ done) → ∀ oj, ops[j]? = some oj → ∀ t ∈ namesOf ops oj, (af.put (dstAt ops i) x).tmps.get t = af.tmps.get t := by
    intro j hj oj hoj t ht
    refine put_get fun d hd e => ?_
    subst e
    rw [hdst] at hd
    have hip := (hown t hd j oj hoj).1 ht
    rcases hj with e | hjd
    · subst e; exact absurd (h.ok.back j j hip) (Nat.lt_irrefl _)
    · exact hn (h.ok.closed j hjd i hip)
  have hin : i < ops.size := (Array.getElem?_eq_some_iff.1 ho).1
  have hir : i ∈ rest := Decidable.byContradiction fun hir => hn (h.ok.sub i hin hir)
  refine .draw ops (i :: done) rest k rfl ⟨⟨h.ok.ord, h.ok.down, fun j hj hjr => List.mem_cons_of_mem _ (h.ok.sub j hj hjr), fun j hj hjr => ?_, fun j hj p hpj => ?_, h.ok.back⟩, ?_, ?_, h.todo, ?_, ?_, h.mode, h.kind, ?_⟩ ?_
  · rcases List.mem_cons.1 hj with e | hj
    · subst e; exact hc
    · exact h.ok.calm j hj hjr
  · rcases List.mem_cons.1 hj with e | hj
    · subst e; exact List.mem_cons_of_mem _ (hp p hpj)
    · exact List.mem_cons_of_mem _ (h.ok.closed j hj p hpj)
  · exact h.fn.trans hsm.1.symm
  · refine ⟨h.tmps.size.trans put_size.symm, fun e he y hy => ?_⟩
    rw [show (({ af.put (dstAt ops i) x with todo := .inDraw ops (i :: done) :: k } : AFrame)).size = af.size from put_size] at he
    have hle : ¬ (Late ops done rest e ∧ e < af.size) := fun ⟨⟨j, hj, hjr, hd⟩, hlt⟩ => he ⟨⟨j, List.mem_cons_of_mem _ hj, hjr, hd⟩, hlt⟩
    have hget := h.tmps.get e hle y
    by_cases hd : dstAt ops i = some e
    · by_cases hlt : e < af.size
      · exact absurd ⟨⟨i, List.mem_cons_self, hir, hd⟩, hlt⟩ he
      · have : (af.put (dstAt ops i) x).tmps = af.tmps := by
          rw [hd]
          simp only [AFrame.put]
          have : Nat.blt e af.size = false := by
            cases hb : Nat.blt e af.size with
            | false => rfl
            | true => exact absurd (Nat.le_of_ble_eq_true hb) hlt
          rw [this]; rfl
        simp only [this] at hy; exact hget hy
    · have : (af.put (dstAt ops i) x).tmps.get e = af.tmps.get e := put_get fun d hd' e' => hd (by rw [hd', e'])
      simp only [this] at hy; exact hget hy
  · simp only [hsm.2.2.1]; exact h.defers
  · simp only [hsm.2.2.2.2]; exact h.ret
  · simp only [hsm.2.2.2.1]; exact h.round
  · intro j hj hjr
    have hcv : ∀ v, calmVal E af H ops j = some v → calmVal E { af.put (dstAt ops i) x with todo := .inDraw ops (i :: done) :: k } H ops j = some v := fun v hv =>
      (calmVal_congr (hfar j (List.mem_cons.1 hj))).trans hv
    rcases List.mem_cons.1 hj with e | hjd
    · subst e
      refine ⟨x, hcv x hx, fun d hd hlt => ?_⟩
      rw [show (({ af.put (dstAt ops j) x with todo := .inDraw ops (j :: done) :: k } : AFrame)).size = af.size from put_size] at hlt
      simp only [hd]
      exact put_here hlt
    · obtain ⟨v, hv, hpv⟩ := hs j hjd hjr
      refine ⟨v, hcv v hv, fun d hd hlt => ?_⟩
      rw [show (({ af.put (dstAt ops i) x with todo := .inDraw ops (i :: done) :: k } : AFrame)).size = af.size from put_size] at hlt
      have hji : j ≠ i := fun e => hn (e ▸ hjd)
      obtain ⟨oj, hoj, hdj⟩ : ∃ oj, ops[j]? = some oj ∧ oj.dst = some d := by
        unfold dstAt at hd
        cases hoj : ops[j]? with
        | none => simp [hoj] at hd
        | some oj => exact ⟨oj, rfl, by simpa [hoj] using hd⟩
      have : (af.put (dstAt ops i) x).tmps.get d = af.tmps.get d := put_get fun d' hd' e' => (hown d' (hdst.symm.trans hd') j oj hoj).2 hji (by rw [hdj, e'])
      simp only [this]
      exact hpv d hd hlt

theorem TLate.full {L : Nat → Prop} {t : T AV} {n : Nat} {A : Array Value} (h : TLate ρ L t n A) (hL : ∀ i, ¬ L i) : TRel ρ t n A := ⟨h.size, fun i => h.get i fun hl => hL i hl.1⟩

theorem draw_sound {H : AHeap} {af : AFrame} {callers : List AFrame} {fr : Frame} {fs cs0 : List Frame} {ops : Array Oper} {done rest : List Nat} {k : List AItem} (hE : EnvOK P E ρ) (hH : HRel ρ w0 H w) (hcs : CRel E.S ρ callers fs)
    (h : DF E.S ρ ops done rest k af fr) (hs : ∀ j, j ∈ done → j ∈ rest → Settled E af H ops j) {ms : List AMach} (hst : stepDraw E af callers H ops done k ((plan E.S ops).filter (Plan.ready done)) = .next ms) : Onward P E w0 w fr fs cs0 ms := by
  unfold stepDraw at hst
  split at hst
  · rename_i p hp
    have hmem := List.mem_of_find?_eq_some hp
    have hcalm := List.find?_some hp
    obtain ⟨hn, he, hnd, hpd⟩ := ready_inv hmem
    rw [he] at hcalm
    split at hst
    · rename_i v hv
      cases hst
      exact ⟨ρ, _, fr, fs, w, List.mem_singleton.2 rfl, ⟨0, rfl⟩, ⟨early h hs hnd hpd hcalm hv, hcs, hH, hE⟩⟩
    · cases hst
  · obtain ⟨σ, rest', fr', w2, hle, hsteps, hdf, hH2, hend⟩ := drain (cs := fs ++ cs0) hE hH rest (Places.le_refl ρ) h hH hs
    split at hst
    · rename_i hnil
      cases hst
      rcases hend with rfl | ⟨c, r, rfl, hn, hc, hp⟩
      · obtain ⟨hok, h1, h2, ⟨is, htodo, hk⟩, h4, h5, h6, h7, h8⟩ := hdf
        obtain ⟨fn, A, todo, defers, mode, kind, roundOf⟩ := fr'
        simp only at h1 h2 htodo h4 h6 h7 h8
        subst htodo h6 h7
        refine ⟨σ, _, { fn := fn, tmps := A, todo := is, defers := defers, mode := .run, kind := .normal, roundOf := roundOf }, fs, w2, List.mem_singleton.2 rfl, Steps.trans hsteps (real_step (by simp [stepG, stepG.exec])),
          ⟨.plain ⟨h1, h2.full fun i hl => (by obtain ⟨j, _, hj, _⟩ := hl; cases hj), hk, h4, by simp only [h5]; rfl, rfl, h8⟩, hcs.mono hle, hH2, hE.mono hle⟩⟩
      · have := ready_of (S := E.S) hn hc hp
        rw [hnil] at this
        cases this
    · rename_i p rs hrs
      rcases hend with rfl | ⟨c, r, rfl, hn, hc, hp⟩
      · obtain ⟨hn, _, hnd, _⟩ := ready_inv (S := E.S) (ops := ops) (done := done) (p := p) (by rw [hrs]; exact List.mem_cons_self)
        exact absurd (hdf.ok.sub p.i hn (List.not_mem_nil)) hnd
      · have hm := ready_of (S := E.S) hn hc hp
        rw [hrs] at hm
        obtain ⟨ns, hns, hsub⟩ := joinAll_mem hst _ (List.mem_map.2 ⟨_, hm, rfl⟩)
        have hdf2 : DF E.S σ ops done (c :: r) k { af with todo := .inWait ops done c :: k } fr' := ⟨hdf.ok, hdf.fn, hdf.tmps, hdf.todo, hdf.defers, hdf.ret, hdf.mode, hdf.kind, hdf.round⟩
        obtain ⟨σ2, m', fr2, fs2, w3, hmem, hst2, hmr⟩ := change_sound (cs0 := cs0) (hE.mono hle) hH2 hdf2 rfl hc hp (hcs.mono hle) hns
        exact ⟨σ2, m', fr2, fs2, w3, hsub _ hmem, Steps.trans hsteps hst2, hmr⟩

theorem probe_sound {H : AHeap} {af : AFrame} {fr : Frame} {ops : Array Oper} {done rest : List Nat} {c : Nat} {k : List AItem}
    (h : DF E.S ρ ops done rest k af fr) (hc : c ∉ rest) (hn : c < ops.size) (hp : probed E af H ops done c (ancAt ops c) = true) : FX P E ρ H { af with todo := .inDraw ops done :: k } fr := by
  refine .draw ops done rest k rfl ⟨h.ok, h.fn, h.tmps, h.todo, h.defers, h.ret, h.mode, h.kind, h.round⟩ fun j hj hjr => ?_
  have hjn : j < ops.size := by
    have : ∀ {l : List Nat}, Ord ops l → j ∈ l → j < ops.size := by
      intro l
      induction l with
      | nil => intro _ hm; cases hm
      | cons a l ih =>
        intro ho hm
        rcases List.mem_cons.1 hm with e | hm
        · subst e; exact ho.1
        · exact ih ho.2.2.2 hm
    exact this h.ok.ord hjr
  have hcl := h.ok.calm j hj hjr
  have hanc : j ∉ ancAt ops c := by
    intro hm
    refine ancGo_mem (D := fun i => i ∉ rest) (fun i hi p hp => ?_) c (predsAt ops c) (fun p hp => h.ok.down c hn hc p hp) j hm hjr
    obtain ⟨o, ho, _⟩ := preds_mem.1 hp
    exact h.ok.down i (Array.getElem?_eq_some_iff.1 ho).1 hi p hp
  have := List.all_eq_true.1 hp _ (plan_of_lt (S := E.S) hjn)
  have hne : Nat.beq j c = false := by
    cases hb : Nat.beq j c with
    | false => rfl
    | true => exact absurd (Nat.eq_of_beq_eq_true hb ▸ hjr) hc
  simp only [planAt, hcl, has_iff.2 hj, hne, has_false.2 hanc, Bool.not_false, Bool.and_self, cond_true] at this
  unfold settledB at this
  split at this
  · cases this
  · rename_i v hv
    refine ⟨v, hv, fun d hd hlt => ?_⟩
    rw [hd] at this
    simp only at this
    have hb : Nat.blt d af.size = true := Nat.ble_eq_true_of_le hlt
    rw [hb, cond_true] at this
    split at this
    · rename_i x hx; rw [hx, AV.beq_eq this]
    · cases this

theorem step_sound {m : AMach} {fr : Frame} {fs cs0 : List Frame} (hm : MRel P E ρ w0 m fr fs w) {ms : List AMach} (h : step E m = .next ms) : Onward P E w0 w fr fs cs0 ms := by
  cases hm.fr with
  | plain hf =>
    obtain ⟨σ, m', fr', fs', w', hmem, hst, hmr⟩ := step_plain (cs0 := cs0) ⟨hf, hm.cs, hm.heap, hm.env⟩ h
    exact ⟨σ, m', fr', fs', w', hmem, real_step hst, hmr⟩
  | known args vs k ht hr hv he =>
    unfold step at h
    simp only [hr, cond_false, ht] at h
    cases h
  | draw ops done rest k ht hd hs =>
    unfold step at h
    simp only [hd.ret, cond_false, ht] at h
    exact draw_sound hm.env hm.heap hm.cs hd hs h
  | probe ops done c rest k ht hd hc hn =>
    unfold step at h
    simp only [hd.ret, cond_false, ht] at h
    cases hp : probed E m.fr m.H ops done c (ancAt ops c) with
    | false => rw [hp] at h; cases h
    | true =>
      rw [hp] at h
      cases h
      exact ⟨ρ, _, fr, fs, w, List.mem_singleton.2 rfl, ⟨0, rfl⟩, ⟨by have hx := probe_sound (P := P) hd hc hn hp; rw [hd.ret] at hx; exact hx, hm.cs, hm.heap, hm.env⟩⟩

/-- A call of which it is said elsewhere what it gives. -/
theorem known_sound {C : Specs} (hC : ConOK P E w0 C) {m : AMach} {fr : Frame} {fs : List Frame} (hm : MRel P E ρ w0 m fr fs w) {args : List AV} {k : List AItem} (ht : m.fr.todo = .known args :: k) (_hr : m.fr.ret = false)
    {c : AFrame} {cs : List AFrame} (hcs : m.callers = c :: cs) {R : AV → AHeap → Prop} (h : C m.fr.fn args m.H R) (hf : ∀ x H', R x H' → ∃ c', c.finish x = some c') (cs0 : List Frame) :
    ∃ σ c' fr' fs' w' x H', R x H' ∧ c.finish x = some c' ∧ Steps P (lone fr (fs ++ cs0) w) (lone fr' (fs' ++ cs0) w') ∧ MRel P E σ w0 ⟨c', cs, H'⟩ fr' fs' w' := by
  cases hm.fr with
  | plain hf =>
    have := hf.todo
    rw [ht] at this
    obtain ⟨i, rest, _, hi, _⟩ := this.uncons
    simp only [IRel] at hi
  | draw ops done rest k ht2 _ _ => rw [ht] at ht2; cases ht2
  | probe ops done c rest k ht2 _ _ _ => rw [ht] at ht2; cases ht2
  | known args2 vs k2 ht2 _ hv he =>
    rw [ht] at ht2
    cases ht2
    have hcr := hm.cs
    rw [hcs] at hcr
    obtain ⟨cf, rest, rfl, hcf, hrest⟩ := hcr.uncons
    obtain ⟨e, w', fr', hR, hcomes, _, hl⟩ := hC _ _ _ _ h ρ w vs hm.env hm.heap hv (cf :: (rest ++ cs0))
    cases e with
    | returned v =>
      obtain ⟨σ, x, H', hle, hRx, hx, hH⟩ := hR
      obtain ⟨c', hc'⟩ := hf x H' hRx
      refine ⟨σ, c', cf.finish v, rest, w', x, H', hRx, hc', ?_, ⟨finish_sound (hcf.mono hle) hx hc', hrest.mono hle, hH, hm.env.mono hle⟩⟩
      subst he
      exact Steps.trans hcomes (Steps.one (step_leave_returned hl))
    | panicked _ => exact hR.elim
    | outgrown => exact hR.elim

end AM
end Go
