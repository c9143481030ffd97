/-
  An abstract machine over the model's code: its frames against the model's.
-/
import Derived.Test.YtogecpdhhlccaaaGreatDoorAmSound10
import Derived.Test.YtogecpdhhlccaaaGreatDoorAmOrder
import Derived.Test.YtogecpdhhlccaaaGreatDoorAmStep
import Derived.Calls
namespace Go
namespace AM
open Go.RowKit (Below)

def IRel (ρ : Places) : AItem → Item → Prop
  | .code c, i => i = .code c
  | .inBlock id, i => i = .inBlock id
  | .inLoop b, i => i = .inLoop b
  | .inScope b, i => i = .inScope b
  | .inRegion ops todo, i => i = .inRegion ops todo
  | .inDraw .., _ => False
  | .inWait .., _ => False
  | .probe .., _ => False
  | .known .., _ => False
  | .inRange l, i => ∃ p, ρ l = some p ∧ i = .inRangeFunc p.blk
  | .endRange l, i => ∃ p, ρ l = some p ∧ i = .endRangeFunc p.blk
  | .beginRound, i => i = .beginRound

def TodoRel (ρ : Places) : List AItem → List Item → Prop
  | [], is => is = []
  | a :: as, is => ∃ i rest, is = i :: rest ∧ IRel ρ a i ∧ TodoRel ρ as rest

def DRel (ρ : Places) : List Nat → List Deferred → Prop
  | [], ds => ds = []
  | d :: r, ds => ∃ p rest, ds = { target := .collected p.blk, args := #[] } :: rest ∧ ρ d = some p ∧ DRel ρ r rest

def RoundRel (ρ : Places) : Option Nat → Option Nat → Prop
  | none, r => r = none
  | some l, r => ∃ p, ρ l = some p ∧ r = some p.blk

structure FRel (ρ : Places) (af : AFrame) (fr : Frame) : Prop where
  fn : fr.fn = af.fn
  tmps : TRel ρ af.tmps af.size fr.tmps
  todo : TodoRel ρ af.todo fr.todo
  defers : DRel ρ af.defers fr.defers
  mode : fr.mode = if af.ret then .returning else .run
  kind : fr.kind = .normal
  round : RoundRel ρ af.round fr.roundOf

/-- What is left of a drawn order, against what the abstract machine has done. -/
structure DrawOK (S : Sig) (ops : Array Oper) (done rest : List Nat) : Prop where
  ord : Ord ops rest
  down : ∀ i, i < ops.size → i ∉ rest → ∀ p ∈ predsAt ops i, p ∉ rest
  sub : ∀ i, i < ops.size → i ∉ rest → i ∈ done
  calm : ∀ i, i ∈ done → i ∈ rest → calmAt S ops i = true
  closed : ∀ i, i ∈ done → ∀ p ∈ predsAt ops i, p ∈ done
  back : ∀ i, ∀ p ∈ predsAt ops i, p < i

/-- Temporaries that the model has not put yet. -/
def Late (ops : Array Oper) (done rest : List Nat) (d : Nat) : Prop := ∃ j, j ∈ done ∧ j ∈ rest ∧ dstAt ops j = some d

structure TLate (ρ : Places) (L : Nat → Prop) (t : T AV) (n : Nat) (A : Array Value) : Prop where
  size : A.size = n
  get : ∀ i, ¬ (L i ∧ i < n) → ∀ x, t.get i = some x → VRel ρ x (A.getD i Go.undef)

/-- A frame within a region whose order was drawn. -/
structure DF (S : Sig) (ρ : Places) (ops : Array Oper) (done rest : List Nat) (k : List AItem) (af : AFrame) (fr : Frame) : Prop where
  ok : DrawOK S ops done rest
  fn : fr.fn = af.fn
  tmps : TLate ρ (Late ops done rest) af.tmps af.size fr.tmps
  todo : ∃ is, fr.todo = .inRegion ops rest :: is ∧ TodoRel ρ k is
  defers : DRel ρ af.defers fr.defers
  ret : af.ret = false
  mode : fr.mode = .run
  kind : fr.kind = .normal
  round : RoundRel ρ af.round fr.roundOf

/-- It would give again what it gave. -/
def Settled (E : Env) (af : AFrame) (H : AHeap) (ops : Array Oper) (i : Nat) : Prop :=
  ∃ v, calmVal E af H ops i = some v ∧ ∀ d, dstAt ops i = some d → d < af.size → af.tmps.get d = some v

/-- The running frame. -/
inductive FX (P : Program) (E : Env) (ρ : Places) (H : AHeap) (af : AFrame) (fr : Frame) : Prop where
  | plain (h : FRel ρ af fr)
  | draw (ops : Array Oper) (done rest : List Nat) (k : List AItem) (ht : af.todo = .inDraw ops done :: k) (h : DF E.S ρ ops done rest k af fr) (hs : ∀ j, j ∈ done → j ∈ rest → Settled E af H ops j)
  | probe (ops : Array Oper) (done : List Nat) (c : Nat) (rest : List Nat) (k : List AItem) (ht : af.todo = .probe ops done c :: k) (h : DF E.S ρ ops done rest k af fr) (hc : c ∉ rest) (hn : c < ops.size)
  | known (args : List AV) (vs : List Value) (k : List AItem) (ht : af.todo = .known args :: k) (hr : af.ret = false) (hv : VRelL ρ args vs) (he : fr = Frame.enter P af.fn vs.toArray .normal)

/-- A frame that waits for what it called. -/
inductive FW (S : Sig) (ρ : Places) (af : AFrame) (fr : Frame) : Prop where
  | plain (h : FRel ρ af fr)
  | wait (ops : Array Oper) (done : List Nat) (c : Nat) (rest : List Nat) (k : List AItem) (ht : af.todo = .inWait ops done c :: k) (h : DF S ρ ops done (c :: rest) k af fr) (hc : c ∉ done) (hp : ∀ p ∈ predsAt ops c, p ∈ done)

def CRel (S : Sig) (ρ : Places) : List AFrame → List Frame → Prop
  | [], fs => fs = []
  | a :: as, fs => ∃ f rest, fs = f :: rest ∧ FW S ρ a f ∧ CRel S ρ as rest

theorem IRel.mono {ρ σ : Places} (h : ρ.le σ) {a : AItem} {i : Item} (k : IRel ρ a i) : IRel σ a i := by
  cases a <;> simp only [IRel] at k ⊢ <;> first | exact k | (obtain ⟨p, hp, e⟩ := k; exact ⟨p, h _ _ hp, e⟩)

theorem TodoRel.mono {ρ σ : Places} (h : ρ.le σ) : ∀ {as : List AItem} {is : List Item}, TodoRel ρ as is → TodoRel σ as is
  | [], _, k => by simpa only [TodoRel] using k
  | a :: as, _, k => by
    simp only [TodoRel] at k ⊢
    obtain ⟨i, rest, e, hi, hr⟩ := k
    exact ⟨i, rest, e, hi.mono h, hr.mono h⟩

theorem DRel.mono {ρ σ : Places} (h : ρ.le σ) : ∀ {as : List Nat} {ds : List Deferred}, DRel ρ as ds → DRel σ as ds
  | [], _, k => by simpa only [DRel] using k
  | a :: as, _, k => by
    simp only [DRel] at k ⊢
    obtain ⟨p, rest, e, hp, hr⟩ := k
    exact ⟨p, rest, e, h _ _ hp, hr.mono h⟩

theorem RoundRel.mono {ρ σ : Places} (h : ρ.le σ) {a b : Option Nat} (k : RoundRel ρ a b) : RoundRel σ a b := by
  cases a with
  | none => exact k
  | some l => obtain ⟨p, hp, e⟩ := k; exact ⟨p, h _ _ hp, e⟩

theorem FRel.mono {ρ σ : Places} (h : ρ.le σ) {af : AFrame} {fr : Frame} (k : FRel ρ af fr) : FRel σ af fr :=
  ⟨k.fn, k.tmps.mono h, k.todo.mono h, k.defers.mono h, k.mode, k.kind, k.round.mono h⟩

theorem TLate.mono {ρ σ : Places} (h : ρ.le σ) {L : Nat → Prop} {t : T AV} {size : Nat} {A : Array Value} (k : TLate ρ L t size A) : TLate σ L t size A :=
  ⟨k.size, fun i hi x e => (k.get i hi x e).mono h⟩

theorem DF.mono {S : Sig} {ρ σ : Places} (hle : ρ.le σ) {ops : Array Oper} {done rest : List Nat} {k : List AItem} {af : AFrame} {fr : Frame} (h : DF S ρ ops done rest k af fr) : DF S σ ops done rest k af fr :=
  ⟨h.ok, h.fn, h.tmps.mono hle, (let ⟨is, e, t⟩ := h.todo; ⟨is, e, t.mono hle⟩), h.defers.mono hle, h.ret, h.mode, h.kind, h.round.mono hle⟩

theorem FW.mono {S : Sig} {ρ σ : Places} (hle : ρ.le σ) {af : AFrame} {fr : Frame} (h : FW S ρ af fr) : FW S σ af fr := by
  cases h with
  | plain h => exact .plain (h.mono hle)
  | wait ops done c rest k ht h hc hp => exact .wait ops done c rest k ht (h.mono hle) hc hp

theorem FX.mono {P : Program} {E : Env} {ρ σ : Places} {H : AHeap} (hle : ρ.le σ) {af : AFrame} {fr : Frame} (h : FX P E ρ H af fr) : FX P E σ H af fr := by
  cases h with
  | plain h => exact .plain (h.mono hle)
  | draw ops done rest k ht h hs => exact .draw ops done rest k ht (h.mono hle) hs
  | probe ops done c rest k ht h hc hn => exact .probe ops done c rest k ht (h.mono hle) hc hn
  | known args vs k ht hr hv he => exact .known args vs k ht hr (VRelL.mono hle _ hv) he

theorem CRel.mono {S : Sig} {ρ σ : Places} (h : ρ.le σ) : ∀ {as : List AFrame} {fs : List Frame}, CRel S ρ as fs → CRel S σ as fs
  | [], _, k => by simpa only [CRel] using k
  | a :: as, _, k => by
    simp only [CRel] at k ⊢
    obtain ⟨f, rest, e, hf, hr⟩ := k
    exact ⟨f, rest, e, hf.mono h, hr.mono h⟩

theorem TodoRel.uncons {ρ : Places} {a : AItem} {as : List AItem} {is : List Item} (h : TodoRel ρ (a :: as) is) : ∃ i rest, is = i :: rest ∧ IRel ρ a i ∧ TodoRel ρ as rest := by simpa only [TodoRel] using h
theorem TodoRel.cons {ρ : Places} {a : AItem} {as : List AItem} {i : Item} {is : List Item} (h : IRel ρ a i) (k : TodoRel ρ as is) : TodoRel ρ (a :: as) (i :: is) := by simp only [TodoRel]; exact ⟨i, is, rfl, h, k⟩

/-- What the operands are. -/
theorem eval_sound {P : Program} {E : Env} {ρ : Places} (hE : EnvOK P E ρ) {af : AFrame} {fr : Frame} (h : TRel ρ af.tmps af.size fr.tmps) : EvOK ρ (af.eval E) fr.eval := by
  intro x a hx
  cases x with
  | tmp t => exact h.get t a hx
  | const v => exact ofConst_sound hx ρ
  | global g => exact hE.glob g a hx
  | func f => simp only [AFrame.eval, Option.some.injEq] at hx; subst hx; simp only [VRel, Frame.eval]; exact ⟨[], .nil, rfl⟩

theorem put_sound {ρ : Places} {af : AFrame} {A : Array Value} (h : TRel ρ af.tmps af.size A) (dst : Option Tmp) {x : AV} {v : Value} (hx : VRel ρ x v) :
    TRel ρ (af.put dst x).tmps (af.put dst x).size (match dst with | some d => A.setIfInBounds d v | none => A) := by
  cases dst with
  | none => exact h
  | some d =>
    have := h.put d hx
    simp only [AFrame.put]
    cases hb : Nat.blt d af.size with
    | true => rw [hb] at this; exact this
    | false => rw [hb] at this; exact this

theorem put_same (af : AFrame) (dst : Option Tmp) (x : AV) : (af.put dst x).fn = af.fn ∧ (af.put dst x).todo = af.todo ∧ (af.put dst x).defers = af.defers ∧ (af.put dst x).round = af.round ∧ (af.put dst x).ret = af.ret := by
  unfold AFrame.put
  cases dst with
  | none => exact ⟨rfl, rfl, rfl, rfl, rfl⟩
  | some d => cases hb : Nat.blt d af.size <;> simp only [hb] <;> exact ⟨rfl, rfl, rfl, rfl, rfl⟩

theorem TLate.put {ρ : Places} {L L' : Nat → Prop} {t : T AV} {size : Nat} {A : Array Value} (h : TLate ρ L t size A) (hL : ∀ i, ¬ (L' i ∧ i < size) → ¬ (L i ∧ i < size)) (d : Nat) {x : AV} {v : Value} (hx : VRel ρ x v) :
    TLate ρ L' (bif Nat.blt d size then t.set d x else t) size (A.setIfInBounds d v) := by
  refine ⟨by simpa using h.size, fun i hi y hy => ?_⟩
  by_cases e : i = d
  · subst e
    cases hb : Nat.blt i size with
    | true =>
      have hlt : i < A.size := by rw [h.size]; exact Nat.le_of_ble_eq_true hb
      rw [hb, cond_true, T.get_set, if_pos rfl] at hy
      cases hy
      simpa [hlt] using hx
    | false =>
      have hge : ¬ i < A.size := by
        rw [h.size]; intro hlt
        have : Nat.blt i size = true := Nat.ble_eq_true_of_le hlt
        rw [this] at hb; cases hb
      rw [hb, cond_false] at hy
      have := h.get i (hL i hi) y hy
      simpa [Array.setIfInBounds, hge] using this
  · have hy' : t.get i = some y := by
      cases hb : Nat.blt d size with
      | true => rw [hb, cond_true, T.get_set, if_neg e] at hy; exact hy
      | false => rw [hb, cond_false] at hy; exact hy
    have := h.get i (hL i hi) y hy'
    rw [Array.getD_eq_getD_getElem?, Array.getElem?_setIfInBounds_ne (Ne.symm e), ← Array.getD_eq_getD_getElem?]
    exact this

theorem put_late {ρ : Places} {L L' : Nat → Prop} {af : AFrame} {A : Array Value} (h : TLate ρ L af.tmps af.size A) (hL : ∀ i, ¬ (L' i ∧ i < af.size) → ¬ (L i ∧ i < af.size)) (dst : Option Tmp) {x : AV} {v : Value} (hx : VRel ρ x v) :
    TLate ρ L' (af.put dst x).tmps (af.put dst x).size (match dst with | some d => A.setIfInBounds d v | none => A) := by
  cases dst with
  | none => exact ⟨h.size, fun i hi => h.get i (hL i hi)⟩
  | some d =>
    have := h.put hL d hx
    simp only [AFrame.put]
    cases hb : Nat.blt d af.size with
    | true => rw [hb] at this; exact this
    | false => rw [hb] at this; exact this

theorem DrawOK.change {S : Sig} {ops : Array Oper} {done rest : List Nat} {c : Nat} (h : DrawOK S ops done (c :: rest)) (hp : ∀ p ∈ predsAt ops c, p ∈ done) : DrawOK S ops (c :: done) rest := by
  obtain ⟨hn, hcr, hpr, ho⟩ := h.ord
  refine ⟨ho, fun i hi hir p hpi hpr' => ?_, fun i hi hir => ?_, fun i hid hir => ?_, fun i hid p hpi => ?_, h.back⟩
  · by_cases e : i = c
    · subst e; exact hpr p hpi (List.mem_cons_of_mem _ hpr')
    · exact h.down i hi (by simp [e, hir]) p hpi (List.mem_cons_of_mem _ hpr')
  · by_cases e : i = c
    · subst e; exact List.mem_cons_self
    · exact List.mem_cons_of_mem _ (h.sub i hi (by simp [e, hir]))
  · rcases List.mem_cons.1 hid with e | hid
    · subst e; exact absurd hir hcr
    · exact h.calm i hid (List.mem_cons_of_mem _ hir)
  · rcases List.mem_cons.1 hid with e | hid
    · subst e; exact List.mem_cons_of_mem _ (hp p hpi)
    · exact List.mem_cons_of_mem _ (h.closed i hid p hpi)

/-- What a frame does with what was given. -/
theorem finish_sound {P : Program} {E : Env} {ρ : Places} {H : AHeap} {af af' : AFrame} {fr : Frame} (h : FW E.S ρ af fr) {x : AV} {v : Value} (hx : VRel ρ x v) (hf : af.finish x = some af') : FX P E ρ H af' (fr.finish v) := by
  obtain ⟨fn, A, todo, defers, mode, kind, roundOf⟩ := fr
  cases h with
  | wait ops done c rest k ht h hc hp =>
    obtain ⟨hok, h1, h2, ⟨is, rfl, hk⟩, h4, h5, h6, h7, h8⟩ := h
    simp only at h1 h2 h4 h6 h7 h8
    unfold AFrame.finish at hf
    simp only [ht] at hf
    cases hf
    have hL : ∀ i, ¬ (Late ops (c :: done) rest i ∧ i < af.size) → ¬ (Late ops done (c :: rest) i ∧ i < af.size) := by
      rintro i hi ⟨⟨j, hj, hjr, hd⟩, hlt⟩
      refine hi ⟨⟨j, List.mem_cons_of_mem _ hj, ?_, hd⟩, hlt⟩
      rcases List.mem_cons.1 hjr with e | hjr
      · subst e; exact absurd hj hc
      · exact hjr
    have hs := put_same af (dstAt ops c) x
    have hpt := put_late h2 hL (dstAt ops c) hx
    refine .probe ops (c :: done) c rest k rfl ⟨hok.change hp, ?_, ?_, ⟨is, rfl, hk⟩, ?_, ?_, h6, h7, ?_⟩ hok.ord.2.1 hok.ord.1
    · simp only [Frame.finish]; rw [h1]; exact hs.1.symm
    · simp only [Frame.finish]
      simp only [dstAt] at hpt ⊢
      cases hd : (ops[c]?).bind (·.dst) <;> simpa [hd] using hpt
    · simp only [Frame.finish]; rw [hs.2.2.1]; exact h4
    · rw [← h5]; exact hs.2.2.2.2
    · simp only [Frame.finish]; rw [hs.2.2.2.1]; exact h8
  | plain h =>
  refine .plain ?_
  obtain ⟨h1, h2, h3, h4, h5, h6, h7⟩ := h
  simp only at h1 h2 h3 h4 h5 h6 h7
  unfold AFrame.finish at hf
  split at hf
  · rename_i ops i rest k ht
    cases hf
    rw [ht] at h3
    obtain ⟨it, is, rfl, hi, hr⟩ := h3.uncons
    simp only [IRel] at hi; subst hi
    have hp := put_sound h2 ((ops[i]?).bind (·.dst)) hx
    have hs := put_same af ((ops[i]?).bind (·.dst)) x
    refine ⟨by simp only [Frame.finish]; rw [h1, hs.1], ?_, ?_, ?_, ?_, h6, ?_⟩
    · simp only [Frame.finish]
      cases hd : (ops[i]?).bind (·.dst) <;> simpa [hd] using hp
    · simp only [Frame.finish]
      exact .cons (by simp only [IRel]) hr
    · simp only [Frame.finish]; rw [hs.2.2.1]; exact h4
    · simp only [Frame.finish]; rw [h5, hs.2.2.2.2]
    · simp only [Frame.finish]; rw [hs.2.2.2.1]; exact h7
  · rename_i ops done c k ht
    rw [ht] at h3
    obtain ⟨it, is, rfl, hi, hr⟩ := h3.uncons
    simp only [IRel] at hi
  · rename_i l k ht
    cases hf
    rw [ht] at h3
    obtain ⟨it, is, rfl, hi, hr⟩ := h3.uncons
    simp only [IRel] at hi
    obtain ⟨p, hp, rfl⟩ := hi
    exact ⟨h1, h2, .cons (by simp only [IRel]; exact ⟨p, hp, rfl⟩) hr, h4, h5, h6, h7⟩
  · rename_i k ht
    cases hf
    rw [ht] at h3
    obtain ⟨it, is, rfl, hi, hr⟩ := h3.uncons
    simp only [IRel] at hi; subst hi
    exact ⟨h1, h2, hr, h4, h5, h6, h7⟩
  · cases hf

theorem exitTo_sound {ρ : Places} {id : Nat} : ∀ {k : List AItem} {is : List Item}, TodoRel ρ k is →
    (∀ k', exitTo id k = some k' → ∃ is', Go.exitTo id is = some is' ∧ TodoRel ρ k' is') ∧ (exitTo id k = none → Go.exitTo id is = none)
  | [], is, h => by simp only [TodoRel] at h; subst h; exact ⟨fun k' e => by simp [exitTo] at e, fun _ => rfl⟩
  | a :: k, is, h => by
    obtain ⟨i, rest, rfl, hi, hr⟩ := h.uncons
    have ih := exitTo_sound (id := id) hr
    cases a <;> simp only [IRel] at hi
    case inBlock j =>
      subst hi
      simp only [exitTo, Go.exitTo]
      split
      · exact ⟨fun k' e => (by cases e; exact ⟨rest, rfl, hr⟩), fun e => (by cases e)⟩
      · exact ih
    case inRange l => obtain ⟨p, _, rfl⟩ := hi; simpa only [exitTo, Go.exitTo] using ih
    case endRange l => obtain ⟨p, _, rfl⟩ := hi; simpa only [exitTo, Go.exitTo] using ih
    all_goals (subst hi; simpa only [exitTo, Go.exitTo] using ih)

theorem gotoIn_sound {ρ : Places} {l : Nat} : ∀ {k : List AItem} {is : List Item}, TodoRel ρ k is →
    (∀ k', gotoIn l k = some k' → ∃ is', Go.gotoIn l is = some is' ∧ TodoRel ρ k' is') ∧ (gotoIn l k = none → Go.gotoIn l is = none)
  | [], is, h => by simp only [TodoRel] at h; subst h; exact ⟨fun k' e => by simp [gotoIn] at e, fun _ => rfl⟩
  | a :: k, is, h => by
    obtain ⟨i, rest, rfl, hi, hr⟩ := h.uncons
    have ih := gotoIn_sound (l := l) hr
    cases a <;> simp only [IRel] at hi
    case inScope b =>
      subst hi
      simp only [gotoIn, Go.gotoIn]
      cases findLabel b l with
      | some c => exact ⟨fun k' e => (by cases e; exact ⟨_, rfl, .cons (by simp only [IRel]) (.cons (by simp only [IRel]) hr)⟩), fun e => (by cases e)⟩
      | none => exact ih
    case inRange q => obtain ⟨p, _, rfl⟩ := hi; simpa only [gotoIn, Go.gotoIn] using ih
    case endRange q => obtain ⟨p, _, rfl⟩ := hi; simpa only [gotoIn, Go.gotoIn] using ih
    all_goals (subst hi; simpa only [gotoIn, Go.gotoIn] using ih)

theorem wanted_at {ρ : Places} {t : T AV} {A : Array Value} {o : Oper} {ops : Array Oper} {b : Bool} (h : ∀ g want d, o.guard = some (g, want) → (ops[g]?).bind (·.dst) = some d → ∀ x, t.get d = some x → VRel ρ x (A.getD d Go.undef)) (hw : wanted o ops t = some b) : Region.wanted o (yielded ops A) = b := by
  unfold wanted at hw
  unfold Region.wanted
  cases hgd : o.guard with
  | none => rw [hgd] at hw; cases hw; rfl
  | some g =>
    obtain ⟨j, want⟩ := g
    rw [hgd] at hw
    simp only [yielded] at hw ⊢
    cases hd : (ops[j]?).bind (·.dst) with
    | none => rw [hd] at hw; cases hw; simp
    | some d =>
      rw [hd] at hw
      have hg := h j want d hgd hd
      simp only [Option.bind_some] at hw ⊢
      cases ht : t.get d with
      | none => rw [ht] at hw; cases hw
      | some x =>
        rw [ht] at hw
        have hg := hg x ht
        cases x with
        | bool b =>
          cases hw
          simp only [VRel] at hg
          cases hA : A[d]? with
          | none => rw [Array.getD_eq_getD_getElem?, hA] at hg; simp [Go.undef] at hg
          | some v =>
            have : v = .bool b := by simpa [hA] using hg
            subst this; simp
        | _ =>
          cases hw
          cases hA : A[d]? with
          | none => simp
          | some v =>
            have hv : A.getD d Go.undef = v := by simp [hA]
            rw [hv] at hg
            cases v with
            | bool b =>
              exfalso
              simp only [VRel] at hg
              first | (cases hg; done) | (obtain ⟨_, _, _, hh⟩ := hg; cases hh; done) | (obtain ⟨_, _, hg⟩ := hg; cases hg; done) | (obtain ⟨_, _, _, _, hg, _⟩ := hg; cases hg; done)
            | _ => simp

theorem wanted_sound {ρ : Places} {t : T AV} {size : Nat} {A : Array Value} (h : TRel ρ t size A) {o : Oper} {ops : Array Oper} {b : Bool} (hw : wanted o ops t = some b) : Region.wanted o (yielded ops A) = b :=
  wanted_at (fun _ _ d _ _ => h.get d) hw

end AM
end Go
