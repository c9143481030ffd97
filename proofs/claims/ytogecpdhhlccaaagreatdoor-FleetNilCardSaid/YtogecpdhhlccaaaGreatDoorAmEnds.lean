/-
  An abstract machine over the model's code: what all its runs end in, said for values that are not closed; a stepper that leaves what it can't decide as propositions.
-/
import Derived.Test.YtogecpdhhlccaaaGreatDoorAmRun
namespace Go
namespace AM
open Go.RowKit (Below)

/-- All runs come to what Q says. -/
inductive Ends (E : Env) (C : Specs) (Q : AMach → Prop) : AMach → Prop where
  | now {m : AMach} (h : Q m) : Ends E C Q m
  | next {m : AMach} {l : List AMach} (h : step E m = .next l) (k : ∀ m' ∈ l, Ends E C Q m') : Ends E C Q m
  | known {fr : AFrame} {c : AFrame} {cs : List AFrame} {H : AHeap} {args : List AV} {k : List AItem} {R : AV → AHeap → Prop} (ht : fr.todo = .known args :: k) (hr : fr.ret = false) (h : C fr.fn args H R)
      (hf : ∀ x H', R x H' → ∃ c', c.finish x = some c') (hk : ∀ x H' c', R x H' → c.finish x = some c' → Ends E C Q ⟨c', cs, H'⟩) : Ends E C Q ⟨fr, c :: cs, H⟩

/-- It ends in a value. -/
def Fin (E : Env) (k : FuncId → AV → AHeap → Prop) (m : AMach) : Prop := ∃ f x H, step E m = .done f x H ∧ k f x H

section
variable {P : Program} {E : Env} {w0 : World}

theorem ends_sound {C : Specs} (hC : ConOK P E w0 C) {Q : AMach → Prop} {m : AMach} (h : Ends E C Q m) : ∀ {ρ : Places} {w : World} {fr : Frame} {fs : List Frame} (cs0 : List Frame), MRel P E ρ w0 m fr fs w →
    ∃ σ m' fr' fs' w', Q m' ∧ Steps P (lone fr (fs ++ cs0) w) (lone fr' (fs' ++ cs0) w') ∧ MRel P E σ w0 m' fr' fs' w' := by
  induction h with
  | now h => intro ρ w fr fs cs0 hm; exact ⟨ρ, _, fr, fs, w, h, ⟨0, rfl⟩, hm⟩
  | next hs _ ih =>
    intro ρ w fr fs cs0 hm
    obtain ⟨σ, m', fr', fs', w', hmem, hst, hmr⟩ := step_sound (cs0 := cs0) hm hs
    obtain ⟨σ2, m2, fr2, fs2, w2, hq, hs2, hr2⟩ := ih m' hmem cs0 hmr
    exact ⟨σ2, m2, fr2, fs2, w2, hq, Steps.trans hst hs2, hr2⟩
  | known ht hr h hf _ ih =>
    intro ρ w fr fs cs0 hm
    obtain ⟨σ, c', fr', fs', w', x, H', hR, hc', hst, hmr⟩ := known_sound hC hm ht hr rfl h hf cs0
    obtain ⟨σ2, m2, fr2, fs2, w2, hq, hs2, hr2⟩ := ih x H' c' hR hc' cs0 hmr
    exact ⟨σ2, m2, fr2, fs2, w2, hq, Steps.trans hst hs2, hr2⟩

/-- A call is as the abstract machine's runs end. -/
theorem calls_of_ends {C : Specs} {k : AV → AHeap → Prop} {ρ : Places} {w : World} {H : AHeap} {f : FuncId} {fn : Func} {args : List AV} {vs : List Value} {af : AFrame}
    (hE : EnvOK P E ρ) (hC : ConOK P E w C) (hH : HRel ρ w H w) (hf : E.fn f = some fn) (he : enter f fn args = some af) (hv : VRelL ρ args vs) (hr : Ends E C (Fin E fun g x H => g = f ∧ k x H) ⟨af, [], H⟩) :
    Calls P f vs.toArray w fun
      | .returned v, w' => ∃ σ x H', k x H' ∧ VRel σ x v ∧ HRel σ w H' w'
      | _, _ => False := by
  intro cs
  have hm : MRel P E ρ w ⟨af, [], H⟩ (Frame.enter P f vs.toArray .normal) [] w := ⟨.plain (enter_sound hE hf he hv), by simp only [CRel], hH, hE⟩
  obtain ⟨σ, m', fr', fs', w', ⟨g, x, H', hd, rfl, hk⟩, hs, hmr⟩ := ends_sound hC hr cs hm
  obtain ⟨rfl, hff, hh, v, hx, hl⟩ := done_sound hmr hd
  exact ⟨.returned v, w', fr', ⟨σ, x, H', hk, hx, hh⟩, hs, hff, hl⟩
end

/-! The stepper. -/

def allK (κ : AMach → Prop) : List AMach → Prop
  | [] => True
  | [m] => κ m
  | m :: l => κ m ∧ allK κ l

def outK (κ : AMach → Prop) : AOut → Prop
  | .next l => allK κ l
  | _ => False

def boundK (v : AV) (top : Nat) (κ : Nat → Prop) : Prop := match v with
  | .int _ i => bif (decide (0 ≤ i) && decide (i ≤ top)) then κ i.toNat else False
  | _ => False

def loK (lo : Option AV) (h : Nat) (κ : Nat → Prop) : Prop := match lo with
  | some v => boundK v h κ
  | none => κ 0

def hiK (len : Nat) (hi : Option AV) (full : Bool) (m : Nat) (κ : Nat → Prop) : Prop := match hi with
  | some v => boundK v m κ
  | none => bif full then False else κ len

def boundsK (len top : Nat) (lo hi mx : Option AV) (κ : Nat → Nat → Nat → Prop) : Prop := match mx with
  | some v => boundK v top fun m => hiK len hi true m fun h => loK lo h fun l => κ l h m
  | none => hiK len hi false top fun h => loK lo h fun l => κ l h top

def sliceK (S : Sig) (t : TypeId) (x : AV) (lo hi mx : Option AV) (κ : AV → Prop) : Prop := match S.und t, x with
  | some .string, .str s => (match mx with
    | some _ => False
    | none => boundsK s.length s.length lo hi none fun l h _ => κ (.str ((s.drop l).take (h - l))))
  | some (.slice e), .slice r off len cap => (match S.size e with
    | some n => (match cap with
      | .exact c => boundsK len c lo hi mx fun l h m => κ (.slice r (off + l * n) (h - l) (.exact (m - l)))
      | .more k => bif Nat.beq k n then boundsK len len lo hi mx fun l h m => κ (.slice r (off + l * n) (h - l) (match mx with | some _ => .exact (m - l) | none => .more n)) else False)
    | none => False)
  | _, _ => match slice S t x lo hi mx with
    | some v => κ v
    | none => False

def opK (E : Env) (ρ : Operand → Option AV) (H : AHeap) (o : Op) (κ : ARes → AHeap → Prop) : Prop := match o with
  | .slice t x lo hi mx => (match ρ x, optOp ρ lo, optOp ρ hi, optOp ρ mx with
    | some v, some lo, some hi, some mx => sliceK E.S t v lo hi mx fun v => κ (.val v) H
    | _, _, _, _ => False)
  | o => match op E ρ H o with
    | some (r, H') => κ r H'
    | none => False

def calmK (E : Env) (fr : AFrame) (H : AHeap) (ops : Array Oper) (i : Nat) (κ : AV → Prop) : Prop := match ops[i]? with
  | none => False
  | some o => match wanted o ops fr.tmps with
    | none => False
    | some b => bif b then opK E (fr.eval E) H o.op fun r _ => (match r with
      | .val v => κ v
      | _ => False) else κ .undef

def changeK (E : Env) (fr : AFrame) (cs : List AFrame) (H : AHeap) (ops : Array Oper) (c : Nat) (κ : AMach → Prop) : Prop := match ops[c]? with
  | none => False
  | some o => match wanted o ops fr.tmps with
    | none => False
    | some b => bif b then opK E (fr.eval E) H o.op fun r H' => outK κ (apply E fr cs (some (r, H'))) else outK κ (one (fr.finish .undef) cs H)

def changesK (E : Env) (fr : AFrame) (cs : List AFrame) (H : AHeap) (ops : Array Oper) (done : List Nat) (k : List AItem) (κ : AMach → Prop) : List Plan → Prop
  | [] => True
  | [p] => changeK E { fr with todo := .inWait ops done p.i :: k } cs H ops p.i κ
  | p :: rs => changeK E { fr with todo := .inWait ops done p.i :: k } cs H ops p.i κ ∧ changesK E fr cs H ops done k κ rs

def drawK (E : Env) (fr : AFrame) (cs : List AFrame) (H : AHeap) (ops : Array Oper) (done : List Nat) (k : List AItem) (rs : List Plan) (κ : AMach → Prop) : Prop :=
  match rs.find? (·.calm) with
  | some p => calmK E fr H ops p.i fun v => κ ⟨{ fr.put (dstAt ops p.i) v with todo := .inDraw ops (p.i :: done) :: k }, cs, H⟩
  | none => match rs with
    | [] => κ ⟨{ fr with todo := k }, cs, H⟩
    | p :: rs => changesK E fr cs H ops done k κ (p :: rs)

def settledK (E : Env) (fr : AFrame) (H : AHeap) (ops : Array Oper) (i : Nat) (κ : Prop) : Prop :=
  calmK E fr H ops i fun v => match dstAt ops i with
    | none => κ
    | some d => bif Nat.blt d fr.size then (match fr.tmps.get d with
      | some x => v = x ∧ κ
      | none => False) else κ

def probedK (E : Env) (fr : AFrame) (H : AHeap) (ops : Array Oper) (done : List Nat) (c : Nat) (anc : List Nat) (κ : Prop) : List Plan → Prop
  | [] => κ
  | p :: ps => bif p.calm && (has done p.i && (!Nat.beq p.i c && !has anc p.i)) then settledK E fr H ops p.i (probedK E fr H ops done c anc κ ps) else probedK E fr H ops done c anc κ ps

def stepK (E : Env) (C : Specs) (m : AMach) (κ : AMach → Prop) : Prop :=
  bif m.fr.ret then outK κ (step E m) else
  match m.fr.todo with
  | .code (.cond c thn els) :: k => (match m.fr.eval E c with
    | some (.bool b) => bif b then κ ⟨{ m.fr with todo := .code thn :: k }, m.callers, m.H⟩ else κ ⟨{ m.fr with todo := .code els :: k }, m.callers, m.H⟩
    | _ => False)
  | .inDraw ops done :: k => drawK E m.fr m.callers m.H ops done k ((plan E.S ops).filter (Plan.ready done)) κ
  | .probe ops done c :: k => probedK E m.fr m.H ops done c (ancAt ops c) (κ ⟨{ m.fr with todo := .inDraw ops done :: k }, m.callers, m.H⟩) (plan E.S ops)
  | .inRegion ops (i :: r) :: k => changeK E { m.fr with todo := .inRegion ops (i :: r) :: k } m.callers m.H ops i κ
  | .known args :: _ => (match m.callers with
    | c :: cs => C m.fr.fn args m.H fun x H' => outK κ (one (c.finish x) cs H')
    | [] => False)
  | _ => outK κ (step E m)

end AM
end Go
