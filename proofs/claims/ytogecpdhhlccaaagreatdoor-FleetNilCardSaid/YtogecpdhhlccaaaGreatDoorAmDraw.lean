/-
  An abstract machine over the model's code: regions whose order is drawn. This text holds its words alone.
-/
import Derived.Test.YtogecpdhhlccaaaGreatDoorAmOps
namespace Go
namespace AM

mutual
def AV.beq : AV → AV → Bool
  | .bool a, .bool b => a == b
  | .int k n, .int l m => decide (k = l) && decide (n = m)
  | .str s, .str t => decide (s = t)
  | .nilptr, .nilptr => true
  | .ptr r o, .ptr s p => Nat.beq r s && Nat.beq o p
  | .nilslice, .nilslice => true
  | .slice r o n c, .slice s p m d => Nat.beq r s && (Nat.beq o p && (Nat.beq n m && Cap.beq c d))
  | .nilmap, .nilmap => true
  | .map r, .map s => Nat.beq r s
  | .func f cs, .func g ds => Nat.beq f g && AV.beqL cs ds
  | .yield l, .yield m => Nat.beq l m
  | .nilfunc, .nilfunc => true
  | .iface t v, .iface u w => Nat.beq t u && AV.beq v w
  | .nilif, .nilif => true
  | .agg cs, .agg ds => AV.beqL cs ds
  | .tuple cs, .tuple ds => AV.beqL cs ds
  | .sym r, .sym s => Nat.beq r s
  | _, _ => false
where Cap.beq : Cap → Cap → Bool
  | .exact a, .exact b => Nat.beq a b
  | .more a, .more b => Nat.beq a b
  | _, _ => false
def AV.beqL : List AV → List AV → Bool
  | [], [] => true
  | a :: as, b :: bs => AV.beq a b && AV.beqL as bs
  | _, _ => false
end

def has : List Nat → Nat → Bool
  | [], _ => false
  | a :: l, i => bif Nat.beq a i then true else has l i

/-- Operations that leave the heap as it is. -/
def calmKind (S : Sig) : Op → Bool
  | .move _ | .assign _ | .pick .. | .build .. | .load .. | .nilCheck _ | .binOp .. | .unOp .. | .makeInterface .. | .makeFunc .. | .slice .. | .fieldAddr .. | .field .. | .indexAddr .. | .index .. | .lookup .. | .extract .. | .entry _ | .sliceToArrayPointer .. => true
  | .convert _ d _ => match S.und d with
    | some (.slice _) => false
    | _ => true
  | .call c => match c.callee with
    | .builtin .len | .builtin .cap | .builtin .min | .builtin .max => true
    | _ => false
  | _ => false

def dstAt (ops : Array Oper) (i : Nat) : Option Tmp := (ops[i]?).bind (·.dst)

/-- The temporaries that an operation looks at. -/
def namesOf (ops : Array Oper) (o : Oper) : List Tmp :=
  (match o.guard with
   | some (g, _) => (dstAt ops g).toList
   | none => []) ++ o.op.operands.toList.filterMap fun | .tmp t => some t | _ => none

def predsOf (o : Oper) : List Nat := o.after.toList.filterMap fun e => bif Region.binds .any e then some e.on else none

def predsAt (ops : Array Oper) (i : Nat) : List Nat := match ops[i]? with
  | some o => predsOf o
  | none => []

/-- All that stand in an order before it: those of `need`, and what they stand after. -/
def ancGo (ops : Array Oper) : Nat → List Nat → List Nat
  | 0, need => need
  | j + 1, need => ancGo ops j (bif has need j then predsAt ops j ++ need else need)

def ancAt (ops : Array Oper) (i : Nat) : List Nat := ancGo ops i (predsAt ops i)

/-- What each operation looks at and gives. -/
structure Looks where
  names : List Tmp
  dst : Option Tmp
  preds : List Nat

def looksAt (ops : Array Oper) (i : Nat) : Looks := match ops[i]? with
  | some o => ⟨namesOf ops o, o.dst, predsOf o⟩
  | none => ⟨[], none, []⟩

def looks (ops : Array Oper) : List (Nat × Looks) := (List.range ops.size).map fun i => (i, looksAt ops i)

/-- Its place is its own: what looks there stands after it. -/
def ownPlace (ls : List (Nat × Looks)) (i : Nat) (dst : Option Tmp) : Bool := match dst with
  | none => true
  | some d => ls.all fun (j, l) => (bif has l.names d then has l.preds i else true) && (bif Nat.beq j i then true else match l.dst with
    | some e => !Nat.beq e d
    | none => true)

def calmAt (S : Sig) (ops : Array Oper) (i : Nat) : Bool := match ops[i]? with
  | some o => calmKind S o.op && ownPlace (looks ops) i o.dst
  | none => false

structure Plan where
  i : Nat
  preds : List Nat
  calm : Bool
  anc : List Nat

def planAt (S : Sig) (ops : Array Oper) (i : Nat) : Plan := ⟨i, predsAt ops i, calmAt S ops i, ancAt ops i⟩

def plan (S : Sig) (ops : Array Oper) : List Plan := (List.range ops.size).map (planAt S ops)

/-- Every operation stands after earlier ones alone. -/
def backward (S : Sig) (ops : Array Oper) : Bool := (plan S ops).all fun p => p.preds.all (Nat.blt · p.i)

def Plan.ready (done : List Nat) (p : Plan) : Bool := !has done p.i && p.preds.all (has done)

end AM
end Go
