/-
  An abstract machine over the model's code: its steps against the model's.
-/
import Derived.Test.YtogecpdhhlccaaaGreatDoorAmSim
namespace Go
namespace AM
open Go.RowKit (Below)

structure MRel (P : Program) (E : Env) (ρ : Places) (w0 : World) (m : AMach) (fr : Frame) (fs : List Frame) (w : World) : Prop where
  fr : FX P E ρ m.H m.fr fr
  cs : CRel E.S ρ m.callers fs
  heap : HRel ρ w0 m.H w
  env : EnvOK P E ρ

/-- The running frame is within no region whose order was drawn. -/
structure MRel0 (P : Program) (E : Env) (ρ : Places) (w0 : World) (m : AMach) (fr : Frame) (fs : List Frame) (w : World) : Prop where
  fr : FRel ρ m.fr fr
  cs : CRel E.S ρ m.callers fs
  heap : HRel ρ w0 m.H w
  env : EnvOK P E ρ

theorem real_step {P : Program} {fr fr' : Frame} {cs cs' : List Frame} {w w' : World}
    (h : (stepG P true { frame := fr, callers := cs, status := .running, dying := none } w).bare = .go { frame := fr', callers := cs', status := .running, dying := none } w') :
    Steps P (lone fr cs w) (lone fr' cs' w') := Steps.one (step_lone_go h)

theorem getD_toArray (vs : List Value) (i : Nat) : vs.toArray.getD i Go.undef = (vs[i]?).getD Go.undef := by
  rw [Array.getD_eq_getD_getElem?]; simp

theorem putArgs_get : ∀ (args : List AV) (t : T AV) (k i : Nat), (putArgs t args k).get i = if k ≤ i ∧ i < k + args.length then args[i - k]? else t.get i
  | [], t, k, i => by simp [putArgs]; omega
  | a :: args, t, k, i => by
    simp only [putArgs, putArgs_get args, T.get_set, List.length_cons]
    by_cases h1 : k + 1 ≤ i ∧ i < k + 1 + args.length
    · rw [if_pos h1, if_pos (by omega), show i - k = (i - (k + 1)) + 1 by omega]
      simp
    · rw [if_neg h1]
      by_cases h2 : i = k
      · subst h2
        rw [if_pos rfl, if_pos (by omega)]
        simp
      · rw [if_neg h2, if_neg (by omega)]

theorem enter_sound {P : Program} {E : Env} {ρ : Places} (hE : EnvOK P E ρ) {f : FuncId} {fn : Func} {args : List AV} {vs : List Value} {af : AFrame} (hf : E.fn f = some fn) (h : enter f fn args = some af) (hv : VRelL ρ args vs) :
    FRel ρ af (Frame.enter P f vs.toArray .normal) := by
  unfold enter at h
  split at h
  · rename_i c hb
    cases h
    have hfn := hE.fn f fn hf
    have hl := hv.length
    refine ⟨rfl, ⟨?_, fun i x hx => ?_⟩, ?_, ?_, rfl, rfl, ?_⟩
    · simp only [Frame.enter, hfn, Option.map_some, Option.getD_some, Array.size_append, List.size_toArray, Array.size_replicate]
      omega
    · simp only [Frame.enter, hfn, Option.map_some, Option.getD_some]
      simp only [putArgs_get, T.get_leaf] at hx
      by_cases hi : i < args.length
      · rw [if_pos (by omega)] at hx
        simp only [Nat.sub_zero] at hx
        obtain ⟨v, hv1, hv2⟩ := hv.get hx
        rw [Array.getD_eq_getD_getElem?, Array.getElem?_append_left (by simp; omega)]
        simp only [List.getElem?_toArray, hv1, Option.getD_some]
        exact hv2
      · rw [if_neg (by omega)] at hx; cases hx
    · simp only [Frame.enter, hfn, Option.bind_some, hb, Option.getD_some]
      exact .cons (by simp only [IRel]) (by simp only [TodoRel])
    · simp only [Frame.enter, DRel]
    · simp only [Frame.enter, RoundRel]
  · cases h

theorem todo_kind {ρ : Places} {as : List AItem} {is : List Item} (h : TodoRel ρ as is) : (match is with | .call _ true _ _ :: _ => CallKind.wrapped | _ => CallKind.normal) = .normal := by
  cases as with
  | nil => simp only [TodoRel] at h; subst h; rfl
  | cons a as =>
    obtain ⟨i, rest, rfl, hi, _⟩ := h.uncons
    cases a <;> simp only [IRel] at hi <;> first | (subst hi; rfl) | (obtain ⟨p, _, rfl⟩ := hi; rfl)

theorem FW.kind {S : Sig} {ρ : Places} {af : AFrame} {fr : Frame} (h : FW S ρ af fr) : (match fr.todo with | .call _ true _ _ :: _ => CallKind.wrapped | _ => CallKind.normal) = .normal := by
  cases h with
  | plain h => exact todo_kind h.todo
  | wait ops done c rest k ht h hc hp => obtain ⟨is, e, _⟩ := h.todo; rw [e]

theorem setAll_sound {ρ : Places} {size : Nat} : ∀ {ps : List Nat} {args : List AV} {vs : List Value} {t : T AV} {A : Array Value}, VRelL ρ args vs → TRel ρ t size A →
    TRel ρ (setAll size t (ps.zip args)) size ((ps.zip vs).foldl (fun (A : Array Value) (x : Nat × Value) => A.setIfInBounds x.1 x.2) A)
  | [], args, vs, t, A, hv, h => by simpa [setAll] using h
  | p :: ps, args, vs, t, A, hv, h => by
    cases args with
    | nil => simp only [VRelL] at hv; subst hv; simpa [setAll] using h
    | cons a args =>
      obtain ⟨v, rest, rfl, hv1, hv2⟩ := hv.uncons
      simp only [List.zip_cons_cons, setAll, List.foldl_cons]
      exact setAll_sound hv2 (h.put p hv1)

theorem getLoop_some {H : AHeap} {l : Nat} {r : ALoop} (h : getLoop H l = some r) : H.get l = some (.loop r) := by
  unfold getLoop at h
  split at h
  · cases h; assumption
  · cases h

theorem loop_of {ρ : Places} {w0 w : World} {H : AHeap} (hH : HRel ρ w0 H w) {l : Nat} {r : ALoop} {p : Place} (h : getLoop H l = some r) (hp : ρ l = some p) : ∃ lp, w.heap[p.blk]? = some (.loop lp) ∧ LRel ρ r lp ∧ p.base = 0 := by
  obtain ⟨O, hO, hR⟩ := hH.obj l p _ hp (getLoop_some h)
  simp only [ORel] at hR
  obtain ⟨hb, lp, rfl, hl⟩ := hR
  exact ⟨lp, hO, hl, hb⟩

section
variable {P : Program} {E : Env} {ρ : Places} {w0 w : World}

/-- What an operation's result does to the frames. -/
theorem apply_sound (hE : EnvOK P E ρ) {af : AFrame} {callers : List AFrame} {fr : Frame} {fs cs0 : List Frame} (hfr : FW E.S ρ af fr) (hcs : CRel E.S ρ callers fs) {r : ARes} {H' : AHeap} {s : Sem Next}
    (hres : ResOK P ρ w0 w r H' s) {ms : List AMach} (h : apply E af callers (some (r, H')) = .next ms) :
    ∃ σ m' fr' fs' w', m' ∈ ms ∧ (stepG.apply P true fr (fs ++ cs0) none s w).bare = .go { frame := fr', callers := fs' ++ cs0, status := .running, dying := none } w' ∧ MRel P E σ w0 m' fr' fs' w' := by
  have hkind := hfr.kind
  cases r with
  | val x =>
    obtain ⟨σ, v, w', hle, hrun, hx, hh⟩ := hres
    simp only [apply, one] at h
    split at h
    · rename_i af' hf
      cases h
      refine ⟨σ, _, fr.finish v, fs, w', List.mem_singleton.2 rfl, ?_, ⟨finish_sound (hfr.mono hle) hx hf, hcs.mono hle, hh, hE.mono hle⟩⟩
      simp [stepG.apply, hrun]
    · cases h
  | skip =>
    obtain ⟨σ, w', hle, hrun, hh⟩ := hres
    simp only [apply, one] at h
    split at h
    · rename_i af' hf
      cases h
      refine ⟨σ, _, fr.finish Go.undef, fs, w', List.mem_singleton.2 rfl, ?_, ⟨finish_sound (hfr.mono hle) (VRel.undef σ) hf, hcs.mono hle, hh, hE.mono hle⟩⟩
      simp [stepG.apply, hrun]
    · cases h
  | enter f args =>
    obtain ⟨vs, hrun, hv, hh⟩ := hres
    simp only [apply] at h
    have hgo : (stepG.apply P true fr (fs ++ cs0) none s w).bare = .go { frame := Frame.enter P f vs.toArray .normal, callers := (fr :: fs) ++ cs0, status := .running, dying := none } w := by
      simp only [stepG.apply, Sem.runT_eq, if_true, hrun, GStep.bare_after, GStep.bare_go, List.cons_append]
      exact congrArg (fun k : CallKind => GStep.go { frame := Frame.enter P f vs.toArray k, callers := fr :: (fs ++ cs0), status := .running, dying := none } w) hkind
    cases hc : E.con f with
    | true =>
      rw [hc] at h
      cases h
      exact ⟨ρ, _, Frame.enter P f vs.toArray .normal, fr :: fs, w, List.mem_singleton.2 rfl, hgo, ⟨.known args vs [] rfl rfl hv rfl, by simp only [CRel]; exact ⟨fr, fs, rfl, hfr, hcs⟩, hh, hE⟩⟩
    | false =>
      rw [hc, cond_false] at h
      split at h
      · rename_i fn hfn
        simp only [one] at h
        split at h
        · rename_i af' hf
          cases h
          exact ⟨ρ, _, Frame.enter P f vs.toArray .normal, fr :: fs, w, List.mem_singleton.2 rfl, hgo, ⟨.plain (enter_sound hE hfn hf hv), by simp only [CRel]; exact ⟨fr, fs, rfl, hfr, hcs⟩, hh, hE⟩⟩
        · cases h
      · cases h
  | round l args =>
    obtain ⟨p, vs, hp, hv, hrun, hh⟩ := hres
    simp only [apply] at h
    split at h
    · rename_i lp hlp
      split at h
      · rename_i hlen
        rw [beq_iff] at hlen
        cases h
        obtain ⟨rlp, hb, hl, _⟩ := loop_of hh hlp hp
        have hget := run_getObj' (P := P) hb (fun _ _ _ e => by cases e)
        have hvl := hv.length
        have hpl : vs.toArray.size = rlp.params.size := by
          have := congrArg List.length hl.params
          simp at this ⊢
          omega
        have hy : (Instr.yield p.blk vs.toArray).run P w = .ok (.round p.blk rlp.fn ((rlp.params.zip vs.toArray).foldl (fun (A : Array Value) (x : Nat × Value) => A.setIfInBounds x.1 x.2) rlp.tmps) rlp.assign rlp.body) w := by
          simp only [Instr.yield, Instr.getLoop, Sem.run_bind, hget, Result.andThen_ok, Sem.run_pure, hpl, ne_eq, not_true_eq_false, if_false]
        refine ⟨ρ, _, Frame.round p.blk rlp.fn ((rlp.params.zip vs.toArray).foldl (fun (A : Array Value) (x : Nat × Value) => A.setIfInBounds x.1 x.2) rlp.tmps) rlp.assign rlp.body .normal, fr :: fs, w, List.mem_singleton.2 rfl, ?_, ⟨.plain ⟨?_, ?_, ?_, ?_, rfl, rfl, ?_⟩, by simp only [CRel]; exact ⟨fr, fs, rfl, hfr, hcs⟩, hh, hE⟩⟩
        · simp only [stepG.apply, Sem.runT_eq, if_true, hrun, hy, GStep.bare_after, GStep.bare_go, List.cons_append]
        · exact hl.fn
        · have := setAll_sound (ps := lp.params) hv hl.tmps
          simp only [Frame.round]
          rw [← Array.foldl_toList, Array.toList_zip, hl.params]
          exact this
        · simp only [Frame.round, hl.assign, hl.body]
          exact .cons (by simp only [IRel]) (.cons (by simp only [IRel]) (.cons (by simp only [IRel]) (by simp only [TodoRel])))
        · simp only [Frame.round, DRel]
        · simp only [Frame.round, RoundRel]; exact ⟨p, hp, rfl⟩
      · cases h
    · cases h
  | any l =>
    obtain ⟨x, H1, hm, σ, v, w', hle, hrun, hx, hh⟩ := hres
    simp only [apply] at h
    cases l with
    | nil => simp at hm
    | cons a l =>
      simp only at h
      split at h
      · rename_i ms' hms
        cases h
        have key : ∀ {l : List (AV × AHeap)} {ms : List AMach}, (l.mapM fun (y : AV × AHeap) => (af.finish y.1).map fun fr => (⟨fr, callers, y.2⟩ : AMach)) = some ms → (x, H1) ∈ l → ∃ af', af.finish x = some af' ∧ (⟨af', callers, H1⟩ : AMach) ∈ ms := by
          intro l
          induction l with
          | nil => intro ms _ hm; simp at hm
          | cons y l ih =>
            intro ms e hm
            simp only [List.mapM_cons, Option.bind_eq_bind, Option.bind_eq_some_iff, Option.pure_def, Option.some.injEq, Option.map_eq_some_iff] at e
            obtain ⟨m1, ⟨af', haf, rfl⟩, ms2, hms2, rfl⟩ := e
            rcases List.mem_cons.1 hm with rfl | hm
            · exact ⟨af', haf, by simp⟩
            · obtain ⟨af2, h1, h2⟩ := ih hms2 hm
              exact ⟨af2, h1, List.mem_cons_of_mem _ h2⟩
        obtain ⟨af', hf, hmem⟩ := key hms hm
        refine ⟨σ, _, fr.finish v, fs, w', hmem, ?_, ⟨finish_sound (hfr.mono hle) hx hf, hcs.mono hle, hh, hE.mono hle⟩⟩
        simp [stepG.apply, hrun]
      · cases h

/-- The results of a function. -/
theorem results_sound (hE : EnvOK P E ρ) {H : AHeap} (hH : HRel ρ w0 H w) {t : T AV} {size : Nat} {A : Array Value} (ht : TRel ρ t size A) : ∀ {rs : List ResultVar} {xs : List AV}, results E H t rs = some xs →
    ∃ vs, (rs.mapM (m := Sem) fun
      | .tmp t => pure (A.getD t Go.undef)
      | .cell a t => do Go.loadVar t (← asAddr (A.getD a Go.undef))).run P w = .ok vs w ∧ VRelL ρ xs vs
  | [], xs, h => by simp only [results] at h; cases h; exact ⟨[], by simp, .nil⟩
  | .tmp i :: rs, xs, h => by
    simp only [results] at h
    split at h
    · rename_i y ys hy hr
      cases h
      obtain ⟨vs, hrun, hv⟩ := results_sound hE hH ht hr
      refine ⟨A.getD i Go.undef :: vs, ?_, .cons (ht.get i y hy) hv⟩
      rw [List.mapM_cons]
      simp only [Sem.run_bind, Sem.run_pure, Result.andThen_ok, hrun]
    · cases h
  | .cell a u :: rs, xs, h => by
    simp only [results] at h
    split at h
    · rename_i b off htmp
      split at h
      · rename_i x ys hl hr
        cases h
        obtain ⟨vs, hrun, hv⟩ := results_sound hE hH ht hr
        have hg := ht.get a _ htmp
        simp only [VRel] at hg
        obtain ⟨p, hp, hg⟩ := hg
        obtain ⟨v, hrun2, hx⟩ := loadVar_sound hE.sig hH hl hp
        refine ⟨v :: vs, ?_, .cons hx hv⟩
        rw [List.mapM_cons]
        have e1 : (asAddr (A.getD a Go.undef)).run P w = .ok ⟨p.blk, p.base + off, none⟩ w := by rw [hg]; rfl
        simp only [Sem.run_bind, Sem.run_pure, Result.andThen_ok, hrun, e1, hrun2]
      · cases h
    · cases h

theorem resultOf_sound {xs : List AV} {vs : List Value} (h : VRelL ρ xs vs) : VRel ρ (resultOf xs) (if h : vs.toArray.size = 1 then vs.toArray[0] else .tuple vs.toArray) := by
  cases xs with
  | nil => simp only [VRelL] at h; subst h; simp [resultOf, VRel, VRelL.nil]
  | cons x xs =>
    obtain ⟨v, rest, rfl, hx, hr⟩ := h.uncons
    cases xs with
    | nil => simp only [VRelL] at hr; subst hr; simpa [resultOf] using hx
    | cons y ys =>
      obtain ⟨u, rest, rfl, hy, hr'⟩ := hr.uncons
      simp only [resultOf]
      rw [dif_neg (by simp)]
      simp only [VRel]
      exact ⟨_, h, rfl⟩

theorem results_run (hE : EnvOK P E ρ) {H : AHeap} (hH : HRel ρ w0 H w) {t : T AV} {size : Nat} {A : Array Value} (ht : TRel ρ t size A) {fn : Func} {xs : List AV} (h : results E H t fn.results.toList = some xs) :
    ∃ v, (Go.results fn A).run P w = .ok v w ∧ VRel ρ (resultOf xs) v := by
  obtain ⟨vs, hrun, hv⟩ := results_sound hE hH ht h
  refine ⟨_, ?_, resultOf_sound hv⟩
  unfold Go.results
  rw [Array.mapM_eq_mapM_toList]
  simp only [Sem.run_bind, Sem.run_map]
  refine (congrArg (fun r : Result (List Value) => (r.andThen fun a w' => Result.ok (List.toArray a) w').andThen fun a w' => (pure (if h : a.size = 1 then a[0] else Value.tuple a) : Sem Value).run P w') hrun).trans ?_
  simp

theorem DRel.uncons {d : Nat} {r : List Nat} {ds : List Deferred} (h : DRel ρ (d :: r) ds) : ∃ p rest, ds = { target := .collected p.blk, args := #[] } :: rest ∧ ρ d = some p ∧ DRel ρ r rest := by simpa only [DRel] using h

theorem CRel.uncons {S : Sig} {c : AFrame} {cs : List AFrame} {fs : List Frame} (h : CRel S ρ (c :: cs) fs) : ∃ f rest, fs = f :: rest ∧ FW S ρ c f ∧ CRel S ρ cs rest := by simpa only [CRel] using h

/-- What the model does there. -/
def realLeave (P : Program) (fr : Frame) (cs : List Frame) (w : World) (jump : Option Code) : GStep :=
  match fr.roundOf with
  | none => if jump matches none | some .ret then GStep.go { frame := { fr with mode := .returning }, callers := cs, status := .running, dying := none } w else .ended (.stuck "exit, goto: no such block or label" (fr.pos P)) w
  | some l => GStep.after (seen P fr.fn ((Instr.endRound l jump).runT P w #[]).2) (match ((Instr.endRound l jump).runT P w #[]).1 with
    | .ok v w => doReturn P true fr cs none v w
    | .halt _ w => .ended (.stuck "range over a function: no such loop" (fr.pos P)) w)

/-- The end of a round, or a jump out of it. -/
theorem leave_sound (hE : EnvOK P E ρ) {af : AFrame} {callers : List AFrame} {H : AHeap} {fr : Frame} {fs cs0 : List Frame} (hfr : FRel ρ af fr) (hcs : CRel E.S ρ callers fs) (hH : HRel ρ w0 H w) {jump : Option Code} {ms : List AMach}
    (h : leave af callers H jump = .next ms)
    (hstep : (stepG P true { frame := fr, callers := fs ++ cs0, status := .running, dying := none } w).bare = (realLeave P fr (fs ++ cs0) w jump).bare) :
    ∃ σ m' fr' fs' w', m' ∈ ms ∧ (stepG P true { frame := fr, callers := fs ++ cs0, status := .running, dying := none } w).bare = .go { frame := fr', callers := fs' ++ cs0, status := .running, dying := none } w' ∧ MRel P E σ w0 m' fr' fs' w' := by
  unfold leave at h
  have hround := hfr.round
  split at h
  · rename_i hr
    rw [hr] at hround
    simp only [RoundRel] at hround
    have hret : FRel ρ { af with ret := true } { fr with mode := .returning } := ⟨hfr.fn, hfr.tmps, hfr.todo, hfr.defers, rfl, hfr.kind, hfr.round⟩
    split at h
    · cases h
      refine ⟨ρ, _, { fr with mode := .returning }, fs, w, List.mem_singleton.2 rfl, ?_, ⟨.plain hret, hcs, hH, hE⟩⟩
      rw [hstep]; unfold realLeave; rw [hround]; rfl
    · cases h
      refine ⟨ρ, _, { fr with mode := .returning }, fs, w, List.mem_singleton.2 rfl, ?_, ⟨.plain hret, hcs, hH, hE⟩⟩
      rw [hstep]; unfold realLeave; rw [hround]; rfl
    · cases h
  · rename_i l hr
    rw [hr] at hround
    obtain ⟨p, hp, hround⟩ := hround
    cases hlp : getLoop H l with
    | none => simp [hlp] at h
    | some lp =>
      cases callers with
      | nil => simp [hlp] at h
      | cons c cs =>
        obtain ⟨rlp, hb, hl, hbase⟩ := loop_of hH hlp hp
        obtain ⟨cf, rest, rfl, hcf, hrest⟩ := hcs.uncons
        simp only [hlp, one] at h
        split at h
        · rename_i af' hf
          cases h
          obtain ⟨w', hset, hch⟩ := run_setObj' (P := P) (.loop { rlp with state := if jump.isNone then .ready else .done, pending := jump }) hb (fun _ _ _ e => by cases e)
          have hget := run_getObj' (P := P) hb (fun _ _ _ e => by cases e)
          have hrun : (Instr.endRound p.blk jump).run P w = .ok (.bool jump.isNone) w' := by
            simp only [Instr.endRound, Instr.getLoop, Sem.run_bind, hget, Result.andThen_ok, Sem.run_pure, hset]
          refine ⟨ρ, _, cf.finish (.bool jump.isNone), rest, w', List.mem_singleton.2 rfl, ?_, ⟨finish_sound hcf (by simp only [VRel]) hf, hrest, ?_, hE⟩⟩
          · rw [hstep]
            unfold realLeave
            rw [hround]
            simp only [Sem.runT_eq, hrun, GStep.bare_after, doReturn, hfr.kind, List.cons_append]
            rfl
          · refine hH.put hp (getLoop_some hlp) rfl ?_ hch
            simp only [ORel]
            exact ⟨hbase, _, rfl, ⟨rfl, rfl, hl.fn, hl.tmps, hl.params, hl.assign, hl.body, hl.defers⟩⟩
        · cases h

/-- The running frame's step. -/
def NextOK (P : Program) (E : Env) (w0 w : World) (fr : Frame) (fs cs0 : List Frame) (ms : List AMach) : Prop :=
  ∃ σ m' fr' fs' w', m' ∈ ms ∧ (stepG P true { frame := fr, callers := fs ++ cs0, status := .running, dying := none } w).bare = .go { frame := fr', callers := fs' ++ cs0, status := .running, dying := none } w' ∧ MRel P E σ w0 m' fr' fs' w'

/-- A step that turns the list of what is to be done alone. -/
theorem to_sound {m : AMach} {fr : Frame} {fs cs0 : List Frame} (hm : MRel0 P E ρ w0 m fr fs w) {todo : List AItem} {is : List Item} (ht : TodoRel ρ todo is)
    (hs : (stepG P true { frame := fr, callers := fs ++ cs0, status := .running, dying := none } w).bare = .go { frame := { fr with todo := is }, callers := fs ++ cs0, status := .running, dying := none } w) :
    NextOK P E w0 w fr fs cs0 [⟨{ m.fr with todo }, m.callers, m.H⟩] :=
  ⟨ρ, _, { fr with todo := is }, fs, w, List.mem_singleton.2 rfl, hs, ⟨.plain ⟨hm.fr.fn, hm.fr.tmps, ht, hm.fr.defers, hm.fr.mode, hm.fr.kind, hm.fr.round⟩, hm.cs, hm.heap, hm.env⟩⟩

/-- A loop over a function is entered: the function's call. -/
theorem range_enter (hE : EnvOK P E ρ) {af : AFrame} {callers : List AFrame} {fr fr' : Frame} {fs cs0 : List Frame} {l : Nat} {q : Place} (hq : ρ l = some q) (hfr : FRel ρ af fr') (hcs : CRel E.S ρ callers fs) {H : AHeap} {W : World} (hH : HRel ρ w0 H W)
    {g : AV} {f : Operand} (hg : VRel ρ g (fr'.eval f)) {ms : List AMach} (h : apply E af callers (invoke E H g [.yield l]) = .next ms)
    (hstep : ∀ s : GStep, (stepG.apply P true fr' (fs ++ cs0) none (do let d ← resolve fr'.eval { callee := .value f, args := #[.const (.func (.yield q.blk) #[] #[])], argTypes := #[] } 0; Go.invoke d.target d.args) W).bare = s →
      (stepG P true { frame := fr, callers := fs ++ cs0, status := .running, dying := none } w).bare = s) :
    NextOK P E w0 w fr fs cs0 ms := by
  cases hi : invoke E H g [.yield l] with
  | none => rw [hi] at h; cases h
  | some rh =>
    obtain ⟨r, H'⟩ := rh
    rw [hi] at h
    have hres := invoke_sound (P := P) (w := W) (vs := #[.func (.yield q.blk) #[] #[]]) hE hH hi hg (.cons (by simp only [VRel]; exact ⟨q, hq, rfl⟩) .nil)
    have hres' : ResOK P ρ w0 W r H' (do let d ← resolve fr'.eval { callee := .value f, args := #[.const (.func (.yield q.blk) #[] #[])], argTypes := #[] } 0; Go.invoke d.target d.args) := by
      refine hres.congr ?_
      simp [resolve, Frame.eval]
    obtain ⟨σ, m', fr2, fs2, w', hmem, hst, hmr⟩ := apply_sound (cs0 := cs0) hE (.plain hfr) hcs hres' h
    exact ⟨σ, m', fr2, fs2, w', hmem, hstep _ hst, hmr⟩

set_option maxHeartbeats 1000000 in
theorem step_plain {m : AMach} {fr : Frame} {fs cs0 : List Frame} (hm : MRel0 P E ρ w0 m fr fs w) {ms : List AMach} (h : step E m = .next ms) : NextOK P E w0 w fr fs cs0 ms := by
  obtain ⟨⟨afn, asize, atmps, atodo, adefers, around, aret⟩, callers, H⟩ := m
  obtain ⟨fn, A, todo, defers, mode, kind, roundOf⟩ := fr
  have hm' := hm
  obtain ⟨⟨h1, h2, h3, h4, h5, h6, h7⟩, hcs, hH, hE⟩ := hm
  simp only at h1 h2 h3 h4 h5 h6 h7 hcs hH
  subst h1 h6
  unfold step at h
  simp only at h
  cases aret with
  | true =>
    simp only [if_true] at h5
    subst h5
    simp only [cond_true] at h
    cases adefers with
    | cons d ds =>
      simp only at h
      obtain ⟨p, rest, rfl, hp, hr⟩ := h4.uncons
      split at h
      · rename_i hg
        cases h
        obtain ⟨O, hO, hR⟩ := hH.obj d p _ hp hg
        simp only [ORel] at hR
        obtain ⟨_, rfl⟩ := hR
        have hget := run_getObj' (P := P) hO (fun _ _ _ e => by cases e)
        obtain ⟨w', hset, hch⟩ := run_setObj' (P := P) (.deferred none) hO (fun _ _ _ e => by cases e)
        have hrun : (Instr.takeDeferred p.blk).run P w = .ok [] w' := by
          simp only [Instr.takeDeferred, Sem.run_bind, hget, Result.andThen_ok, hset, Sem.run_pure]
        refine ⟨ρ, _, { fn := fn, tmps := A, todo := todo, defers := rest, mode := .returning, kind := .normal, roundOf := roundOf }, fs, w', List.mem_singleton.2 rfl, ?_, ⟨.plain ⟨rfl, h2, h3, hr, rfl, rfl, h7⟩, hcs, ?_, hE⟩⟩
        · simp only [stepG, unwind, Sem.runT_eq, hrun, GStep.bare_after, GStep.bare_go, List.nil_append]
        · have hown := hH.own d p _ hp hg rfl
          refine ⟨⟨hch.os.trans hH.below.os, hch.tape.trans hH.below.tape, hch.output.trans hH.below.output, by rw [hch.size]; exact hH.below.size, fun k hk => (hch.other k (by omega)).trans (hH.below.block k hk)⟩, hH.lt, ?_, ?_, ?_⟩
          · intro s q o hs hg2
            rw [HRel.get_drop] at hg2
            split at hg2
            · cases hg2
            · rename_i hne
              obtain ⟨O2, hO2, hr2⟩ := hH.obj s q o hs hg2
              refine ⟨O2, (hch.other _ fun eb => ?_).trans hO2, hr2⟩
              have := (hH.inj d s p q _ o hp hs hg hg2 (Ne.symm hne) eb.symm).1
              cases this
          · exact (hH.drop d).inj
          · exact (hH.drop d).own
      · cases h
    | nil =>
      simp only [DRel] at h4
      subst h4
      simp only at h
      split at h
      · cases h
      · rename_i fnd hfn
        split at h
        · cases h
        · rename_i vs hvs
          cases callers with
          | nil => simp at h
          | cons c cs =>
            obtain ⟨cf, rest, rfl, hcf, hrest⟩ := hcs.uncons
            simp only [one] at h
            split at h
            · rename_i af' hf
              cases h
              obtain ⟨v, hrun, hv⟩ := results_run hE hH h2 hvs
              have hfnd := hE.fn _ _ hfn
              refine ⟨ρ, _, cf.finish v, rest, w, List.mem_singleton.2 rfl, ?_, ⟨finish_sound hcf hv hf, hrest, hH, hE⟩⟩
              simp only [stepG, unwind, hfnd, Sem.runT_eq, hrun, GStep.bare_after, doReturn, List.cons_append, GStep.bare_go]
            · cases h
  | false =>
    simp only [Bool.false_eq_true, if_false] at h5
    subst h5
    simp only [cond_false] at h
    cases atodo with
    | nil =>
      simp only [TodoRel] at h3
      subst h3
      refine leave_sound (jump := none) hE ⟨rfl, h2, by simp only [TodoRel], h4, rfl, rfl, h7⟩ hcs hH h ?_
      clear h
      simp only [stepG, stepG.exec]
      cases roundOf <;> rfl
    | cons a k =>
      obtain ⟨i, is, rfl, hi, hk⟩ := h3.uncons
      cases a with
      | code c =>
        simp only [IRel] at hi
        subst hi
        cases c with
        | skip =>
          cases h
          exact to_sound hm' hk (by simp [stepG, stepG.exec])
        | label l =>
          cases h
          exact to_sound hm' hk (by simp [stepG, stepG.exec])
        | seq x y =>
          cases h
          exact to_sound hm' (.cons (i := .code x) rfl (.cons (i := .code y) rfl hk)) (by simp [stepG, stepG.exec])
        | cond c x y =>
          simp only at h
          split at h
          · rename_i b hb
            cases h
            have hev := eval_sound (fr := { fn := fn, tmps := A, todo := .code (.cond c x y) :: is, defers := defers, mode := .run, kind := .normal, roundOf := roundOf }) hE h2 c _ hb
            simp only [VRel] at hev
            refine to_sound hm' (.cons (i := .code (if b then x else y)) (by cases b <;> simp only [IRel, cond_true, cond_false, if_true, Bool.false_eq_true, if_false]) hk) ?_
            simp [stepG, stepG.exec, hev]
          · cases h
        | block id x =>
          cases h
          exact to_sound hm' (.cons (i := .code x) rfl (.cons (i := .inBlock id) rfl hk)) (by simp [stepG, stepG.exec])
        | loop x =>
          cases h
          exact to_sound hm' (.cons (i := .code x) rfl (.cons (i := .inLoop x) rfl hk)) (by simp [stepG, stepG.exec])
        | scope x =>
          cases h
          exact to_sound hm' (.cons (i := .code x) rfl (.cons (i := .inScope x) rfl hk)) (by simp [stepG, stepG.exec])
        | exit id =>
          simp only at h
          have hx := exitTo_sound (id := id) hk
          split at h
          · rename_i k' hk'
            cases h
            obtain ⟨is', he, ht⟩ := hx.1 k' hk'
            exact to_sound hm' ht (by simp [stepG, stepG.exec, he])
          · rename_i hk'
            have he := hx.2 hk'
            refine leave_sound (jump := some (.exit id)) hE ⟨rfl, h2, .cons (by simp only [IRel]) hk, h4, rfl, rfl, h7⟩ hcs hH h ?_
            clear h
            simp only [stepG, stepG.exec, he, Option.elim]
            cases roundOf <;> rfl
        | goto l =>
          simp only at h
          have hx := gotoIn_sound (l := l) hk
          split at h
          · rename_i k' hk'
            cases h
            obtain ⟨is', he, ht⟩ := hx.1 k' hk'
            exact to_sound hm' ht (by simp [stepG, stepG.exec, he])
          · rename_i hk'
            have he := hx.2 hk'
            refine leave_sound (jump := some (.goto l)) hE ⟨rfl, h2, .cons (by simp only [IRel]) hk, h4, rfl, rfl, h7⟩ hcs hH h ?_
            clear h
            simp only [stepG, stepG.exec, he, Option.elim]
            cases roundOf <;> rfl
        | ret =>
          simp only at h
          refine leave_sound (jump := some .ret) hE ⟨rfl, h2, .cons (by simp only [IRel]) hk, h4, rfl, rfl, h7⟩ hcs hH h ?_
          clear h
          simp only [stepG, stepG.exec]
          cases roundOf <;> rfl
        | region id ops draw =>
          simp only at h
          cases draw with
          | true =>
            rw [cond_true] at h
            cases hb : backward E.S ops with
            | false => rw [hb] at h; cases h
            | true =>
              rw [hb, cond_true] at h
              cases h
              have hback : ∀ i, ∀ p ∈ predsAt ops i, p < i := fun i p hp => backward_lt hb hp
              obtain ⟨t, ht⟩ : ∃ t, t = w.tape w.drawn (.order fn id) := ⟨_, rfl⟩
              obtain ⟨hord, hall⟩ := linearise_spec hback t
              refine ⟨ρ, _, { fn := fn, tmps := A, todo := .inRegion ops (Region.linearise .any ops t) :: is, defers := defers, mode := .run, kind := .normal, roundOf := roundOf }, fs, w.drew, List.mem_singleton.2 rfl, ?_,
                ⟨.draw ops [] (Region.linearise .any ops t) k rfl ⟨⟨hord, fun i hi hn => absurd ((hall i).2 hi) hn, fun i hi hn => absurd ((hall i).2 hi) hn, fun i hi => absurd hi (List.not_mem_nil), fun i hi => absurd hi (List.not_mem_nil), hback⟩, rfl, ⟨h2.size, fun i _ => h2.get i⟩, ⟨is, rfl, hk⟩, h4, rfl, rfl, rfl, h7⟩ (fun j hj => absurd hj (List.not_mem_nil)), hcs, hH.drew, hE⟩⟩
              have hmx := hE.mixed
              simp [stepG, stepG.exec, choose, Sem.run, Question.forced, Question.cut, Region.schedule, hmx, ht]
          | false =>
            simp only [cond_false] at h
            cases h
            exact to_sound hm' (.cons (i := .inRegion ops (List.range ops.size)) rfl hk) (by simp [stepG, stepG.exec])
        | rangeFunc f ps x y =>
          simp only at h
          split at h
          · cases h
          · rename_i g hg
            have hgv := eval_sound (af := { fn := fn, size := asize, tmps := atmps, todo := .code (.rangeFunc f ps x y) :: k, defers := adefers, round := around, ret := false })
              (fr := { fn := fn, tmps := A, todo := .code (.rangeFunc f ps x y) :: is, defers := defers, mode := .run, kind := .normal, roundOf := roundOf }) hE h2 f g hg
            split at h
            · -- within a round
              rename_i l
              obtain ⟨p, hp, rfl⟩ := h7
              split at h
              · cases h
              · rename_i lp hlp
                obtain ⟨rlp, hb, hl, hbase⟩ := loop_of hH hlp hp
                obtain ⟨dp, hdp, hdd⟩ := hl.defers
                have hget := run_getObj' (P := P) hb (fun _ _ _ e => by cases e)
                have hrun : (Instr.enterLoop fn A ps x y (some p.blk)).run P w = .ok (w.heap.size, []) (w.alloc (.loop { state := .ready, pending := none, fn := fn, tmps := A, params := ps, assign := x, body := y, defers := rlp.defers })) := by
                  simp [Instr.enterLoop, Instr.getLoop, hget]
                have hle := hH.le_with ⟨w.heap.size, 0, 0, Go.undef⟩
                have hH1 : HRel (ρ.with H.next ⟨w.heap.size, 0, 0, Go.undef⟩) w0 (H.new (.loop { state := .ready, pending := none, fn := fn, tmps := atmps, size := asize, params := ps.toList, assign := x, body := y, defers := lp.defers }))
                    (w.alloc (.loop { state := .ready, pending := none, fn := fn, tmps := A, params := ps, assign := x, body := y, defers := rlp.defers })) :=
                  hH.new rfl (by simp only [ORel]; exact ⟨trivial, _, rfl, ⟨rfl, rfl, rfl, h2, rfl, rfl, rfl, dp, hdp, hdd⟩⟩) (Added.alloc w _)
                have hIR : IRel (ρ.with H.next ⟨w.heap.size, 0, 0, Go.undef⟩) (.inRange H.next) (.inRangeFunc w.heap.size) := by
                  simp only [IRel]; exact ⟨_, Places.with_same _ _ _, rfl⟩
                have hRR : RoundRel (ρ.with H.next ⟨w.heap.size, 0, 0, Go.undef⟩) (some l) (some p.blk) := by
                  simp only [RoundRel]; exact ⟨p, hle _ _ hp, rfl⟩
                have hF : FRel (ρ.with H.next ⟨w.heap.size, 0, 0, Go.undef⟩) { fn := fn, size := asize, tmps := atmps, todo := .inRange H.next :: k, defers := adefers, round := some l, ret := false }
                    { fn := fn, tmps := A, todo := .inRangeFunc w.heap.size :: is, defers := defers, mode := .run, kind := .normal, roundOf := some p.blk } :=
                  ⟨rfl, h2.mono hle, .cons hIR (hk.mono hle), h4.mono hle, rfl, rfl, hRR⟩
                refine range_enter (cs0 := cs0) (hE.mono hle) (l := H.next) (Places.with_same _ _ _) hF (hcs.mono hle) hH1 (hgv.mono hle) h fun s hs => ?_
                clear h
                simp only [stepG, stepG.exec, Sem.runT_eq, hrun, GStep.bare_after, List.nil_append]
                exact hs
            · -- the first one
              simp only [RoundRel] at h7
              subst h7
              have hrun : (Instr.enterLoop fn A ps x y none).run P w = .ok (w.heap.size + 1, [{ target := .collected w.heap.size, args := #[] }])
                  ((w.alloc (.deferred (some []))).alloc (.loop { state := .ready, pending := none, fn := fn, tmps := A, params := ps, assign := x, body := y, defers := w.heap.size })) := by
                simp [Instr.enterLoop]
              have hle1 := hH.le_with ⟨w.heap.size, 0, 0, Go.undef⟩
              have hH1 : HRel (ρ.with H.next ⟨w.heap.size, 0, 0, Go.undef⟩) w0 (H.new .dfr) (w.alloc (.deferred (some []))) :=
                hH.new rfl (by simp only [ORel]; exact ⟨trivial, trivial⟩) (Added.alloc w _)
              have hle2 := hH1.le_with ⟨w.heap.size + 1, 0, 0, Go.undef⟩
              have hle := Places.le_trans hle1 hle2
              have hd : (ρ.with H.next ⟨w.heap.size, 0, 0, Go.undef⟩) H.next = some ⟨w.heap.size, 0, 0, Go.undef⟩ := Places.with_same _ _ _
              have hH2 : HRel ((ρ.with H.next ⟨w.heap.size, 0, 0, Go.undef⟩).with (H.new .dfr).next ⟨w.heap.size + 1, 0, 0, Go.undef⟩) w0 ((H.new .dfr).new (.loop { state := .ready, pending := none, fn := fn, tmps := atmps, size := asize, params := ps.toList, assign := x, body := y, defers := H.next }))
                  ((w.alloc (.deferred (some []))).alloc (.loop { state := .ready, pending := none, fn := fn, tmps := A, params := ps, assign := x, body := y, defers := w.heap.size })) :=
                hH1.new (by simp) (by simp only [ORel]; exact ⟨trivial, _, rfl, ⟨rfl, rfl, rfl, h2.mono hle1, rfl, rfl, rfl, _, hd, rfl⟩⟩) (Added.alloc _ _)
              have hIR : IRel ((ρ.with H.next ⟨w.heap.size, 0, 0, Go.undef⟩).with (H.new .dfr).next ⟨w.heap.size + 1, 0, 0, Go.undef⟩) (.inRange (H.new .dfr).next) (.inRangeFunc (w.heap.size + 1)) := by
                simp only [IRel]; exact ⟨_, Places.with_same _ _ _, rfl⟩
              have hDR : DRel ((ρ.with H.next ⟨w.heap.size, 0, 0, Go.undef⟩).with (H.new .dfr).next ⟨w.heap.size + 1, 0, 0, Go.undef⟩) (H.next :: adefers) ({ target := .collected w.heap.size, args := #[] } :: defers) := by
                simp only [DRel]; exact ⟨_, _, rfl, hle2 _ _ hd, h4.mono hle⟩
              have hF : FRel ((ρ.with H.next ⟨w.heap.size, 0, 0, Go.undef⟩).with (H.new .dfr).next ⟨w.heap.size + 1, 0, 0, Go.undef⟩) { fn := fn, size := asize, tmps := atmps, todo := .inRange (H.new .dfr).next :: k, defers := H.next :: adefers, round := none, ret := false }
                  { fn := fn, tmps := A, todo := .inRangeFunc (w.heap.size + 1) :: is, defers := { target := .collected w.heap.size, args := #[] } :: defers, mode := .run, kind := .normal, roundOf := none } :=
                ⟨rfl, h2.mono hle, .cons hIR (hk.mono hle), hDR, rfl, rfl, rfl⟩
              refine range_enter (cs0 := cs0) (hE.mono hle) (l := (H.new .dfr).next) (Places.with_same _ _ _) hF (hcs.mono hle) hH2 (hgv.mono hle) h fun s hs => ?_
              clear h
              simp only [stepG, stepG.exec, Sem.runT_eq, hrun, GStep.bare_after, List.cons_append, List.nil_append]
              exact hs
        | refuse why => cases h
      | inBlock id =>
        simp only [IRel] at hi; subst hi
        cases h
        exact to_sound hm' hk (by simp [stepG, stepG.exec])
      | inLoop x =>
        simp only [IRel] at hi; subst hi
        cases h
        exact to_sound hm' (.cons (i := .code x) rfl (.cons (i := .inLoop x) rfl hk)) (by simp [stepG, stepG.exec])
      | inScope x =>
        simp only [IRel] at hi; subst hi
        cases h
        exact to_sound hm' hk (by simp [stepG, stepG.exec])
      | inRegion ops rest =>
        simp only [IRel] at hi; subst hi
        cases rest with
        | nil =>
          cases h
          exact to_sound hm' hk (by simp [stepG, stepG.exec])
        | cons j rest =>
          simp only at h
          have hfr : FRel ρ { fn := fn, size := asize, tmps := atmps, todo := .inRegion ops (j :: rest) :: k, defers := adefers, round := around, ret := false }
              { fn := fn, tmps := A, todo := .inRegion ops (j :: rest) :: is, defers := defers, mode := .run, kind := .normal, roundOf := roundOf } :=
            ⟨rfl, h2, .cons (by simp only [IRel]) hk, h4, rfl, rfl, h7⟩
          have skipped : ∀ ms, one (AFrame.finish { fn := fn, size := asize, tmps := atmps, todo := .inRegion ops (j :: rest) :: k, defers := adefers, round := around, ret := false } .undef) callers H = .next ms →
              ((ops[j]?).map (Region.wanted · (yielded ops A))).getD false = false →
              NextOK P E w0 w { fn := fn, tmps := A, todo := .inRegion ops (j :: rest) :: is, defers := defers, mode := .run, kind := .normal, roundOf := roundOf } fs cs0 ms := by
            intro ms h hw
            simp only [one] at h
            split at h
            · rename_i af' hf
              cases h
              refine ⟨ρ, _, _, fs, w, List.mem_singleton.2 rfl, ?_, ⟨finish_sound (.plain hfr) (VRel.undef ρ) hf, hcs, hH, hE⟩⟩
              simp only [stepG, stepG.exec, hw]
              rfl
            · cases h
          split at h
          · rename_i ho
            exact skipped ms h (by rw [ho]; rfl)
          · rename_i o ho
            cases hwo : wanted o ops atmps with
            | none => rw [hwo] at h; cases h
            | some bb =>
             rw [hwo] at h
             simp only at h
             have hwb := wanted_sound h2 hwo
             cases bb with
             | false =>
              rw [cond_false] at h
              exact skipped ms h (by rw [ho]; simp only [Option.map_some, Option.getD_some, hwb])
             | true =>
              rw [cond_true] at h
              cases hop : op E (AFrame.eval E { fn := fn, size := asize, tmps := atmps, todo := .inRegion ops (j :: rest) :: k, defers := adefers, round := around, ret := false }) H o.op with
              | none => rw [hop] at h; cases h
              | some rh =>
                obtain ⟨r, H'⟩ := rh
                rw [hop] at h
                have hev := eval_sound hE (af := { fn := fn, size := asize, tmps := atmps, todo := .inRegion ops (j :: rest) :: k, defers := adefers, round := around, ret := false })
                  (fr := { fn := fn, tmps := A, todo := .inRegion ops (j :: rest) :: is, defers := defers, mode := .run, kind := .normal, roundOf := roundOf }) h2
                have hres := op_sound (P := P) hE hH hev hop
                obtain ⟨σ, m', fr', fs', w', hmem, hst, hmr⟩ := apply_sound (cs0 := cs0) hE (.plain hfr) hcs hres h
                refine ⟨σ, m', fr', fs', w', hmem, ?_, hmr⟩
                rw [← hst]
                have hnd : ∀ c, o.op ≠ .defer c := by
                  intro c e
                  rw [e] at hop
                  simp [op] at hop
                clear h hop hm'
                simp only [stepG, stepG.exec, ho, Option.map_some, Option.getD_some, hwb, if_true, stepG.oper, Frame.oper?]
                cases roundOf with
                | none => rfl
                | some l =>
                  cases hoo : o.op <;> first | rfl | exact absurd hoo (hnd _)
      | inDraw ops done => simp only [IRel] at hi
      | inWait ops done c => simp only [IRel] at hi
      | probe ops done c => simp only [IRel] at hi
      | known args => simp only [IRel] at hi
      | inRange l => cases h
      | endRange l =>
        simp only [IRel] at hi
        obtain ⟨p, hp, rfl⟩ := hi
        simp only at h
        split at h
        · rename_i lp hlp
          obtain ⟨rlp, hb, hl, hbase⟩ := loop_of hH hlp hp
          have hget := run_getObj' (P := P) hb (fun _ _ _ e => by cases e)
          obtain ⟨w', hset, hch⟩ := run_setObj' (P := P) (.loop { rlp with state := .exhausted }) hb (fun _ _ _ e => by cases e)
          have main : lp.state ≠ .busy → ms = [⟨{ fn := fn, size := asize, tmps := atmps, todo := (match lp.pending with | some c => .code c :: k | none => k), defers := adefers, round := around, ret := false }, callers, H.put l (.loop { lp with state := .exhausted })⟩] →
              NextOK P E w0 w { fn := fn, tmps := A, todo := .endRangeFunc p.blk :: is, defers := defers, mode := .run, kind := .normal, roundOf := roundOf } fs cs0 ms := by
            intro hnb hms
            subst hms
            have hst : (rlp.state == .busy) = false := by
              rw [hl.state]
              cases hs : lp.state <;> first | rfl | exact absurd hs hnb
            have hrun : (Instr.endLoop p.blk).run P w = .ok lp.pending w' := by
              simp only [Instr.endLoop, Instr.getLoop, Sem.run_bind, hget, Result.andThen_ok, Sem.run_pure, hst, Bool.false_eq_true, if_false, hset]
              rw [hl.pending]
            refine ⟨ρ, _, { fn := fn, tmps := A, todo := (lp.pending.map Item.code).toList ++ is, defers := defers, mode := .run, kind := .normal, roundOf := roundOf }, fs, w', List.mem_singleton.2 rfl, ?_, ⟨.plain ⟨rfl, h2, ?_, h4, rfl, rfl, h7⟩, hcs, ?_, hE⟩⟩
            · simp only [stepG, stepG.exec, Sem.runT_eq, hrun, GStep.bare_after, GStep.bare_go]
            · cases lp.pending with
              | none => simpa using hk
              | some c => exact .cons (by simp only [IRel]) hk
            · refine hH.put hp (getLoop_some hlp) rfl ?_ hch
              simp only [ORel]
              exact ⟨hbase, _, rfl, ⟨rfl, hl.pending, hl.fn, hl.tmps, hl.params, hl.assign, hl.body, hl.defers⟩⟩
          split at h
          · cases h
          · rename_i hnb
            cases h
            exact main (fun e => hnb (by rw [e])) rfl
        · cases h
      | beginRound =>
        simp only [IRel] at hi; subst hi
        simp only at h
        split at h
        · rename_i l
          obtain ⟨p, hp, rfl⟩ := h7
          split at h
          · rename_i lp hlp
            split at h
            · rename_i hrd
              cases h
              obtain ⟨rlp, hb, hl, hbase⟩ := loop_of hH hlp hp
              have hget := run_getObj' (P := P) hb (fun _ _ _ e => by cases e)
              obtain ⟨w', hset, hch⟩ := run_setObj' (P := P) (.loop { rlp with state := .busy }) hb (fun _ _ _ e => by cases e)
              have hst : rlp.state = .ready := by rw [hl.state, hrd]
              have hrun : (do Instr.beginRound p.blk; pure Next.skip : Sem Next).run P w = .ok .skip w' := by
                simp only [Instr.beginRound, Instr.getLoop, Sem.run_bind, hget, Result.andThen_ok, Sem.run_pure, hset, hst]
              refine ⟨ρ, _, { fn := fn, tmps := A, todo := is, defers := defers, mode := .run, kind := .normal, roundOf := some p.blk }, fs, w', List.mem_singleton.2 rfl, ?_, ⟨.plain ⟨rfl, h2, hk, h4, rfl, rfl, by simp only [RoundRel]; exact ⟨p, hp, rfl⟩⟩, hcs, ?_, hE⟩⟩
              · have hres : ((do (some p.blk).elim (stuck "beginRound: no round") Instr.beginRound; pure .skip : Sem Next)).run P w = .ok .skip w' := hrun
                simp only [stepG, stepG.exec, stepG.apply, Sem.runT_eq, if_true, hres, GStep.bare_after]
                rfl
              · refine hH.put hp (getLoop_some hlp) rfl ?_ hch
                simp only [ORel]
                exact ⟨hbase, _, rfl, ⟨rfl, hl.pending, hl.fn, hl.tmps, hl.params, hl.assign, hl.body, hl.defers⟩⟩
            · cases h
          · cases h
        · cases h

end

end AM
end Go
