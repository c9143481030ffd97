/-
  An abstract machine over the model's code: its steps.
-/
import Derived.Test.YtogecpdhhlccaaaGreatDoorAmDraw
namespace Go
namespace AM

inductive AItem where
  | code (c : Code)
  | inBlock (id : Nat)
  | inLoop (body : Code)
  | inScope (body : Code)
  | inRegion (ops : Array Oper) (todo : List Nat)
  /-- its order was drawn; these are done -/
  | inDraw (ops : Array Oper) (done : List Nat)
  /-- one of them is being done -/
  | inWait (ops : Array Oper) (done : List Nat) (c : Nat)
  /-- one was done: what was done before may come after it -/
  | probe (ops : Array Oper) (done : List Nat) (c : Nat)
  /-- a call of which it is said elsewhere what it gives -/
  | known (args : List AV)
  | inRange (l : Nat)
  | endRange (l : Nat)
  | beginRound

structure AFrame where
  fn : FuncId
  size : Nat
  tmps : T AV
  todo : List AItem
  defers : List Nat
  round : Option Nat
  ret : Bool

structure AMach where
  fr : AFrame
  callers : List AFrame
  H : AHeap

inductive AOut where
  | next (l : List AMach)
  | done (f : FuncId) (v : AV) (H : AHeap)
  | stuck

def AFrame.eval (E : Env) (fr : AFrame) : Operand → Option AV
  | .tmp t => fr.tmps.get t
  | .const v => ofConst v
  | .global g => E.glob g
  | .func f => some (.func f [])

def AFrame.put (fr : AFrame) (dst : Option Tmp) (v : AV) : AFrame :=
  match dst with
  | some d => bif Nat.blt d fr.size then { fr with tmps := fr.tmps.set d v } else fr
  | none => fr

/-- What a frame does with what its operation, or its call, gave. -/
def AFrame.finish (fr : AFrame) (v : AV) : Option AFrame :=
  match fr.todo with
  | .inRegion ops (i :: rest) :: k => some { fr.put ((ops[i]?).bind (·.dst)) v with todo := .inRegion ops rest :: k }
  | .inWait ops done c :: k => some { fr.put (dstAt ops c) v with todo := .probe ops (c :: done) c :: k }
  | .inRange l :: k => some { fr with todo := .endRange l :: k }
  | .beginRound :: k => some { fr with todo := k }
  | _ => none

def exitTo (id : Nat) : List AItem → Option (List AItem)
  | .inBlock i :: k => if i == id then some k else exitTo id k
  | _ :: k => exitTo id k
  | [] => none

def gotoIn (l : Nat) : List AItem → Option (List AItem)
  | .inScope body :: k =>
    match findLabel body l with
    | some rest => some (.code rest :: .inScope body :: k)
    | none => gotoIn l k
  | _ :: k => gotoIn l k
  | [] => none

def setAll (size : Nat) (t : T AV) : List (Nat × AV) → T AV
  | [] => t
  | (d, v) :: r => setAll size (bif Nat.blt d size then t.set d v else t) r

def putArgs (t : T AV) : List AV → Nat → T AV
  | [], _ => t
  | v :: r, i => putArgs (t.set i v) r (i + 1)

def enter (f : FuncId) (fn : Func) (args : List AV) : Option AFrame :=
  match fn.body with
  | some c => some { fn := f, size := max fn.ntmps args.length, tmps := putArgs .leaf args 0, todo := [.code c], defers := [], round := none, ret := false }
  | none => none

def wanted (o : Oper) (ops : Array Oper) (t : T AV) : Option Bool :=
  match o.guard with
  | none => some true
  | some (j, want) => match (ops[j]?).bind (·.dst) with
    | some d => match t.get d with
      | some (.bool b) => some (b == want)
      | some _ => some false
      | none => none
    | none => some false

def getLoop (H : AHeap) (l : Nat) : Option ALoop :=
  match H.get l with
  | some (.loop r) => some r
  | _ => none

def one (fr : Option AFrame) (callers : List AFrame) (H : AHeap) : AOut :=
  match fr with
  | some fr => .next [⟨fr, callers, H⟩]
  | none => .stuck

def apply (E : Env) (fr : AFrame) (callers : List AFrame) : Res → AOut
  | some (.val v, H) => one (fr.finish v) callers H
  | some (.skip, H) => one (fr.finish .undef) callers H
  | some (.enter f args, H) => bif E.con f then .next [⟨{ fn := f, size := 0, tmps := .leaf, todo := [.known args], defers := [], round := none, ret := false }, fr :: callers, H⟩]
    else match E.fn f with
      | some fn => one (enter f fn args) (fr :: callers) H
      | none => .stuck
  | some (.round l args, H) => match getLoop H l with
    | some r =>
      if Nat.beq args.length r.params.length then
        .next [⟨{ fn := r.fn, size := r.size, tmps := setAll r.size r.tmps (r.params.zip args), todo := [.code r.assign, .beginRound, .code r.body], defers := [], round := some l, ret := false }, fr :: callers, H⟩]
      else .stuck
    | none => .stuck
  | some (.any l, _) => match l with
    | [] => .stuck
    | l => match l.mapM fun (v, H) => (fr.finish v).map fun fr => (⟨fr, callers, H⟩ : AMach) with
      | some ms => .next ms
      | none => .stuck
  | none => .stuck

/-- A frame has come to its end, or jumps out of itself. -/
def leave (fr : AFrame) (callers : List AFrame) (H : AHeap) (jump : Option Code) : AOut :=
  match fr.round with
  | none => match jump with
    | none => .next [⟨{ fr with ret := true }, callers, H⟩]
    | some .ret => .next [⟨{ fr with ret := true }, callers, H⟩]
    | _ => .stuck
  | some l => match getLoop H l, callers with
    | some r, c :: cs => one (c.finish (.bool jump.isNone)) cs (H.put l (.loop { r with state := if jump.isNone then .ready else .done, pending := jump }))
    | _, _ => .stuck

def results (E : Env) (H : AHeap) (t : T AV) : List ResultVar → Option (List AV)
  | [] => some []
  | .tmp i :: r => match t.get i, results E H t r with
    | some v, some vs => some (v :: vs)
    | _, _ => none
  | .cell a u :: r => match t.get a with
    | some (.ptr b off) => match loadVar E.S H u b off, results E H t r with
      | some v, some vs => some (v :: vs)
      | _, _ => none
    | _ => none

def resultOf : List AV → AV
  | [v] => v
  | vs => .tuple vs

/-- What an operation that leaves the heap as it is gives. -/
def calmVal (E : Env) (fr : AFrame) (H : AHeap) (ops : Array Oper) (i : Nat) : Option AV := match ops[i]? with
  | none => none
  | some o => match wanted o ops fr.tmps with
    | none => none
    | some b => bif b then (match op E (fr.eval E) H o.op with
      | some (.val v, _) => some v
      | _ => none) else some .undef

/-- It would give again what it gave. -/
def settledB (E : Env) (fr : AFrame) (H : AHeap) (ops : Array Oper) (i : Nat) : Bool := match calmVal E fr H ops i with
  | none => false
  | some v => match dstAt ops i with
    | none => true
    | some d => bif Nat.blt d fr.size then (match fr.tmps.get d with
      | some x => AV.beq v x
      | none => false) else true

def change (E : Env) (fr : AFrame) (callers : List AFrame) (H : AHeap) (ops : Array Oper) (c : Nat) : AOut := match ops[c]? with
  | none => .stuck
  | some o => match wanted o ops fr.tmps with
    | none => .stuck
    | some b => bif b then apply E fr callers (op E (fr.eval E) H o.op) else one (fr.finish .undef) callers H

def joinAll : List AOut → AOut
  | [] => .next []
  | .next l :: r => match joinAll r with
    | .next m => .next (l ++ m)
    | _ => .stuck
  | _ => .stuck

def stepDraw (E : Env) (fr : AFrame) (cs : List AFrame) (H : AHeap) (ops : Array Oper) (done : List Nat) (k : List AItem) (rs : List Plan) : AOut :=
  match rs.find? (·.calm) with
  | some p => match calmVal E fr H ops p.i with
    | some v => .next [⟨{ fr.put (dstAt ops p.i) v with todo := .inDraw ops (p.i :: done) :: k }, cs, H⟩]
    | none => .stuck
  | none => match rs with
    | [] => .next [⟨{ fr with todo := k }, cs, H⟩]
    | p :: rs => joinAll ((p :: rs).map fun p => change E { fr with todo := .inWait ops done p.i :: k } cs H ops p.i)

def probed (E : Env) (fr : AFrame) (H : AHeap) (ops : Array Oper) (done : List Nat) (c : Nat) (anc : List Nat) : Bool :=
  (plan E.S ops).all fun p => bif p.calm && (has done p.i && (!Nat.beq p.i c && !has anc p.i)) then settledB E fr H ops p.i else true

def step (E : Env) (m : AMach) : AOut :=
  let fr := m.fr
  let cs := m.callers
  let H := m.H
  let to (todo : List AItem) : AOut := .next [⟨{ fr with todo }, cs, H⟩]
  bif fr.ret then
    match fr.defers with
    | d :: ds => match H.get d with
      | some .dfr => .next [⟨{ fr with defers := ds }, cs, H.drop d⟩]
      | _ => .stuck
    | [] => match E.fn fr.fn with
      | none => .stuck
      | some fn => match results E H fr.tmps fn.results.toList with
        | none => .stuck
        | some vs => match cs with
          | [] => .done fr.fn (resultOf vs) H
          | c :: cs => one (c.finish (resultOf vs)) cs H
  else match fr.todo with
  | [] => leave fr cs H none
  | .code .ret :: _ => leave fr cs H (some .ret)
  | .code .skip :: k => to k
  | .code (.label _) :: k => to k
  | .inBlock _ :: k => to k
  | .inScope _ :: k => to k
  | .code (.seq a b) :: k => to (.code a :: .code b :: k)
  | .code (.cond c thn els) :: k => match fr.eval E c with
    | some (.bool b) => to (.code (bif b then thn else els) :: k)
    | _ => .stuck
  | .code (.block id body) :: k => to (.code body :: .inBlock id :: k)
  | .code (.loop body) :: k => to (.code body :: .inLoop body :: k)
  | .inLoop body :: k => to (.code body :: .inLoop body :: k)
  | .code (.scope body) :: k => to (.code body :: .inScope body :: k)
  | .code (.exit id) :: k => match exitTo id k with
    | some k => to k
    | none => leave fr cs H (some (.exit id))
  | .code (.goto l) :: k => match gotoIn l k with
    | some k => to k
    | none => leave fr cs H (some (.goto l))
  | .code (.rangeFunc f params assign body) :: k =>
    match fr.eval E f with
    | none => .stuck
    | some f =>
      match fr.round with
      | some l => match getLoop H l with
        | none => .stuck
        | some r =>
          let lp : ALoop := { state := .ready, pending := none, fn := fr.fn, tmps := fr.tmps, size := fr.size, params := params.toList, assign, body, defers := r.defers }
          let l := H.next
          apply E { fr with todo := .inRange l :: k } cs (invoke E (H.new (.loop lp)) f [.yield l])
      | none =>
        let d := H.next
        let H := H.new .dfr
        let lp : ALoop := { state := .ready, pending := none, fn := fr.fn, tmps := fr.tmps, size := fr.size, params := params.toList, assign, body, defers := d }
        let l := H.next
        apply E { fr with todo := .inRange l :: k, defers := d :: fr.defers } cs (invoke E (H.new (.loop lp)) f [.yield l])
  | .inRange _ :: _ => .stuck
  | .beginRound :: k => match fr.round with
    | some l => match getLoop H l with
      | some r => match r.state with
        | .ready => .next [⟨{ fr with todo := k }, cs, H.put l (.loop { r with state := .busy })⟩]
        | _ => .stuck
      | none => .stuck
    | none => .stuck
  | .endRange l :: k => match getLoop H l with
    | some r => match r.state with
      | .busy => .stuck
      | _ => .next [⟨{ fr with todo := (match r.pending with | some c => .code c :: k | none => k) }, cs, H.put l (.loop { r with state := .exhausted })⟩]
    | none => .stuck
  | .code (.refuse _) :: _ => .stuck
  | .code (.region _ ops draw) :: k => bif draw then (bif backward E.S ops then to (.inDraw ops [] :: k) else .stuck) else to (.inRegion ops (List.range ops.size) :: k)
  | .inDraw ops done :: k => stepDraw E fr cs H ops done k ((plan E.S ops).filter (Plan.ready done))
  | .inWait .. :: _ => .stuck
  | .known _ :: _ => .stuck
  | .probe ops done c :: k => bif probed E fr H ops done c (ancAt ops c) then to (.inDraw ops done :: k) else .stuck
  | .inRegion _ [] :: k => to k
  | .inRegion ops (i :: _) :: _ => match ops[i]? with
    | none => one (fr.finish .undef) cs H
    | some o => match wanted o ops fr.tmps with
      | none => .stuck
      | some b => bif b then apply E fr cs (op E (fr.eval E) H o.op) else one (fr.finish .undef) cs H

/-- All ways end, and each in what k takes. -/
def run (E : Env) (k : FuncId → AV → AHeap → Bool) : Nat → AMach → Bool
  | 0, _ => false
  | n + 1, m => match step E m with
    | .next [m] => run E k n m
    | .next l => l.all (run E k n)
    | .done f v H => k f v H
    | .stuck => false

end AM
end Go
