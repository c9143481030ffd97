/-
  An abstract machine over the model's code: its heap, and what each operation does.
-/
import Derived.Test.YtogecpdhhlccaaaGreatDoorAmCore
namespace Go
namespace AM

/-- A loop over a function: what its rounds begin with. -/
structure ALoop where
  state : LoopState
  pending : Option Code
  fn : FuncId
  tmps : T AV
  size : Nat
  params : List Tmp
  assign : Code
  body : Code
  defers : Nat

/-- What a name stands for. -/
inductive AObj where
  | row (cells : List AV) (w : Bool)
  | map (es : List (AV × AV × Nat)) (clock : Nat)
  | iter (m : Option Nat) (since : Nat) (seen : List Nat) (stepped : Nat)
  | siter (s : List UInt8) (pos : Nat)
  | loop (l : ALoop)
  | dfr

structure AHeap where
  next : Nat
  t : T AObj

namespace AHeap
def empty : AHeap := ⟨0, .leaf⟩
def get (H : AHeap) (r : Nat) : Option AObj := H.t.get r
def put (H : AHeap) (r : Nat) (o : AObj) : AHeap := ⟨H.next, H.t.set r o⟩
def drop (H : AHeap) (r : Nat) : AHeap := ⟨H.next, H.t.del r⟩
def new (H : AHeap) (o : AObj) : AHeap := ⟨H.next + 1, H.t.set H.next o⟩
def row (H : AHeap) (r : Nat) : Option (List AV × Bool) :=
  match H.get r with
  | some (.row cs w) => some (cs, w)
  | _ => none
/-- n cells of a row from a place on. -/
def cells (H : AHeap) (r off n : Nat) : Option (List AV) :=
  match H.row r with
  | some (cs, _) => if off + n ≤ cs.length then some ((cs.drop off).take n) else none
  | none => none
def store (H : AHeap) (r off : Nat) (vs : List AV) : Option AHeap :=
  match H.row r with
  | some (cs, true) =>
    if off + vs.length ≤ cs.length && vs.all AV.oneCell then some (H.put r (.row (cs.take off ++ vs ++ cs.drop (off + vs.length)) true)) else none
  | _ => none
end AHeap

/-- What a part of one cell is. -/
inductive CellKind where
  | bool | int | str

/-- What is known of the types. -/
structure Sig where
  und : TypeId → Option TypeDesc
  size : TypeId → Option Nat
  bytes : TypeId → Option Nat
  zero : TypeId → Option AV
  /-- A type whose values are compared part by part, with nothing beside. -/
  plain : TypeId → Option (List CellKind)
  /-- A struct of fields of one cell, each a number, a text or a bool, none of them blank. -/
  keys : TypeId → Bool

/-- A constant of one cell. -/
def ofScalar : Value → Option AV
  | .bool b => some (.bool b)
  | .int k n => some (.int k n)
  | .string s => some (.str s.data.toList)
  | .pointer none => some .nilptr
  | .slice none 0 0 => some .nilslice
  | .map none => some .nilmap
  | .nilFunc => some .nilfunc
  | .nilIface => some .nilif
  | _ => none

def ofScalars : List Value → Option (List AV)
  | [] => some []
  | v :: vs => match ofScalar v, ofScalars vs with
    | some x, some xs => some (x :: xs)
    | _, _ => none

def ofConst : Value → Option AV
  | .agg cs => (ofScalars cs.toList).map .agg
  | .tuple vs => if vs.isEmpty then some (.tuple []) else none
  | v => ofScalar v

/-- The types as the program has them. -/
def Sig.of (P : Program) (plain : TypeId → Option (List CellKind)) (keys : TypeId → Bool) : Sig where
  und := P.underlying
  size t := (P.info? t).map (·.size)
  bytes t := (P.info? t).map (·.bytes)
  zero t := (P.info? t).bind fun i => i.zero.bind ofConst
  plain := plain
  keys := keys

def Sig.agg (S : Sig) (t : TypeId) : Option Bool :=
  match S.und t with
  | some (.struct _) => some true
  | some (.array _ _) => some true
  | some _ => some false
  | none => none

def Sig.field (S : Sig) (t : TypeId) (f : Nat) : Option (TypeId × Nat) :=
  match S.und t with
  | some (.struct fs) => match fs[f]? with
    | some f => some (f.type, f.offset)
    | none => none
  | _ => none

/-- A part of an aggregate's cells. -/
def part (S : Sig) (t : TypeId) (cs : List AV) (off : Nat) : Option AV :=
  match S.agg t with
  | some true => match S.size t with
    | some n => if off + n ≤ cs.length then some (.agg ((cs.drop off).take n)) else none
    | none => none
  | some false => cs[off]?
  | none => none

def loadVar (S : Sig) (H : AHeap) (t : TypeId) (r off : Nat) : Option AV :=
  match S.agg t with
  | some true => match S.size t with
    | some n => (H.cells r off n).map .agg
    | none => none
  | some false => match H.row r with
    | some (cs, _) => cs[off]?
    | none => none
  | none => none

def storeVar (S : Sig) (H : AHeap) (t : TypeId) (r off : Nat) (v : AV) : Option AHeap :=
  match S.size t with
  | some n => if Nat.beq v.cells.length n then H.store r off v.cells else none
  | none => none

/-- Parts laid into cells. -/
def fill (place : Nat → Option (Nat × Nat)) (cells : List AV) : List (Nat × AV) → Option (List AV)
  | [] => some cells
  | (i, v) :: rest => match place i with
    | none => none
    | some (off, size) =>
      if Nat.beq v.cells.length size && Nat.ble (off + v.cells.length) cells.length then
        fill place (cells.take off ++ v.cells ++ cells.drop (off + v.cells.length)) rest
      else none

def repeated (n : Nat) (cs : List AV) : List AV := match n with
  | 0 => []
  | n + 1 => cs ++ repeated n cs

/-- Where a struct's fields lie, and their sizes. -/
def places (S : Sig) : List Field → Option (List (Nat × Nat))
  | [] => some []
  | f :: fs => match S.size f.type, places S fs with
    | some n, some ps => some ((f.offset, n) :: ps)
    | _, _ => none

def build (S : Sig) (t : TypeId) (parts : List (Nat × AV)) : Option AV :=
  match S.und t, S.zero t with
  | some (.struct fs), some z => match places S fs.toList with
    | some ps => (fill (fun i => ps[i]?) z.cells parts).map .agg
    | none => none
  | some (.array _ e), some z => match S.size e with
    | some n => (fill (fun i => some (i * n, n)) z.cells parts).map .agg
    | none => none
  | _, _ => none

def buildSlice (S : Sig) (H : AHeap) (t : TypeId) (len : Nat) (parts : List (Nat × AV)) : Option (AV × AHeap) :=
  match S.und t with
  | some (.slice e) => match S.size e, S.zero e with
    | some n, some z =>
      if Nat.blt 0 n && Nat.ble (len * n) 16777216 && Nat.beq z.cells.length n then
        match fill (fun i => some (i * n, n)) (repeated len z.cells) parts with
        | some cs => some (.slice H.next 0 len (.exact len), H.new (.row cs true))
        | none => none
      else none
    | _, _ => none
  | _ => none

/-- Are parts of one cell, of this kind, the same? -/
def sameCell : CellKind → AV → AV → Option Bool
  | .int, .int k a, .int j b => if k = j then some (a == b) else none
  | .bool, .bool a, .bool b => some (a == b)
  | .str, .str a, .str b => some (a == b)
  | _, _, _ => none

theorem sameCell_inv {c : CellKind} {x y : AV} {b : Bool} (h : sameCell c x y = some b) :
    (c = .int ∧ ∃ k m n, x = .int k m ∧ y = .int k n ∧ b = (m == n)) ∨ (c = .bool ∧ ∃ m n, x = .bool m ∧ y = .bool n ∧ b = (m == n)) ∨ (c = .str ∧ ∃ m n, x = .str m ∧ y = .str n ∧ b = (m == n)) := by
  unfold sameCell at h
  split at h
  · split at h
    · rename_i e; subst e; cases h; exact .inl ⟨rfl, _, _, _, rfl, rfl, rfl⟩
    · cases h
  · cases h; exact .inr (.inl ⟨rfl, _, _, rfl, rfl, rfl⟩)
  · cases h; exact .inr (.inr ⟨rfl, _, _, rfl, rfl, rfl⟩)
  · cases h

/-- Are they of these kinds, and the same? -/
def sameCells : List CellKind → List AV → List AV → Option Bool
  | [], [], [] => some true
  | c :: cs, x :: xs, y :: ys => match sameCell c x y with
    | some true => sameCells cs xs ys
    | some false => some false
    | none => none
  | _, _, _ => none

/-- Are the values of a type the same? -/
def equal (S : Sig) (t : TypeId) (x y : AV) : Option Bool :=
  match S.und t with
  | some .bool => match x, y with
    | .bool a, .bool b => some (a == b)
    | _, _ => none
  | some (.int _) => match x, y with
    | .int k a, .int j b => if k = j then some (a == b) else none
    | _, _ => none
  | some .string => match x, y with
    | .str a, .str b => some (a == b)
    | _, _ => none
  | some (.pointer e) => match x, y with
    | .nilptr, .nilptr => some true
    | .nilptr, .ptr _ _ => some false
    | .ptr _ _, .nilptr => some false
    | .ptr r a, .ptr s b => match S.size e with
      | some n => if Nat.beq r s && Nat.blt 0 n then some (Nat.beq a b) else none
      | none => none
    | _, _ => none
  | some (.slice _) => match x, y with
    | .nilslice, .nilslice => some true
    | .nilslice, .slice .. => some false
    | .slice .., .nilslice => some false
    | _, _ => none
  | some (.map _ _) => match x, y with
    | .nilmap, .nilmap => some true
    | .nilmap, .map _ => some false
    | .map _, .nilmap => some false
    | _, _ => none
  | some (.func _ _ _) => match x, y with
    | .nilfunc, .nilfunc => some true
    | .nilfunc, .func .. => some false
    | .nilfunc, .yield _ => some false
    | .func .., .nilfunc => some false
    | .yield _, .nilfunc => some false
    | _, _ => none
  | some (.interface _) => match x, y with
    | .nilif, .iface .. => some false
    | .iface .., .nilif => some false
    | _, _ => none
  | some _ => match x, y with
    | .agg xs, .agg ys => match S.plain t with
      | some ks => sameCells ks xs ys
      | none => none
    | _, _ => none
  | none => none

def bytesLess : List UInt8 → List UInt8 → Bool
  | _, [] => false
  | [], _ :: _ => true
  | a :: x, b :: y => a < b || (a == b && bytesLess x y)

def intOp (op : BinOp) (k : IntKind) (a b : Int) : Option AV :=
  match op with
  | .add => some (.int k (k.wrap (a + b)))
  | .sub => some (.int k (k.wrap (a - b)))
  | .mul => some (.int k (k.wrap (a * b)))
  | .quo => if b = 0 then none else some (.int k (k.wrap (a.tdiv b)))
  | .rem => if b = 0 then none else some (.int k (a.tmod b))
  | .and => some (.int k (k.wrap (BitVec.ofInt k.bits a &&& BitVec.ofInt k.bits b).toNat))
  | .or => some (.int k (k.wrap (BitVec.ofInt k.bits a ||| BitVec.ofInt k.bits b).toNat))
  | .xor => some (.int k (k.wrap (BitVec.ofInt k.bits a ^^^ BitVec.ofInt k.bits b).toNat))
  | .andNot => some (.int k (k.wrap (BitVec.ofInt k.bits a &&& ~~~ BitVec.ofInt k.bits b).toNat))
  | .eql => some (.bool (a == b))
  | .neq => some (.bool (a != b))
  | .lss => some (.bool (a < b))
  | .leq => some (.bool (a ≤ b))
  | .gtr => some (.bool (a > b))
  | .geq => some (.bool (a ≥ b))
  | _ => none

def strOp (op : BinOp) (a b : List UInt8) : Option AV :=
  match op with
  | .add => if Nat.ble (a.length + b.length) 4611686018427387904 then some (.str (a ++ b)) else none
  | .eql => some (.bool (a == b))
  | .neq => some (.bool (!(a == b)))
  | .lss => some (.bool (bytesLess a b))
  | .leq => some (.bool (bytesLess a b || a == b))
  | .gtr => some (.bool (!(bytesLess a b || a == b)))
  | .geq => some (.bool (!bytesLess a b))
  | _ => none

def shiftOp (op : BinOp) (k : IntKind) (a b : Int) : Option AV :=
  if b < 0 then none else match op with
    | .shl => some (.int k (k.wrap (a * 2 ^ (min b.toNat k.bits))))
    | .shr => some (.int k (a.fdiv (2 ^ (min b.toNat k.bits))))
    | _ => none

def isConst : Operand → Bool
  | .const _ => true
  | _ => false

/-- Are values that are no numbers, and no texts, the same? -/
def eqlOp (S : Sig) (t : TypeId) (ox oy : Operand) (x y : AV) : Option AV :=
  match x, y with
  | .nilif, .nilif => match S.und t with
    | some (.interface _) => if isConst ox || isConst oy then some (.bool true) else none
    | _ => none
  | .int _ _, _ => none
  | .str _, _ => none
  | x, y => match equal S t x y with
    | some b => some (.bool b)
    | none => none

def binOp (S : Sig) (op : BinOp) (t : TypeId) (ox oy : Operand) (x y : AV) : Option AV :=
  match op, x, y with
  | .shl, .int k a, .int _ b => shiftOp .shl k a b
  | .shr, .int k a, .int _ b => shiftOp .shr k a b
  | op, .int k a, .int j b => if k = j then intOp op k a b else none
  | op, .str a, .str b => strOp op a b
  | .eql, x, y => eqlOp S t ox oy x y
  | .neq, x, y => match eqlOp S t ox oy x y with
    | some (.bool b) => some (.bool !b)
    | _ => none
  | _, _, _ => none

def unOp (op : UnOp) (x : AV) : Option AV :=
  match op, x with
  | .neg, .int k n => intOp .sub k 0 n
  | .xor, .int k n => intOp .xor k (if k.signed then -1 else k.max) n
  | .not, .bool b => some (.bool !b)
  | _, _ => none

/-- The numbers of bytes. -/
def bytesOf : List AV → Option (List UInt8)
  | [] => some []
  | .int .u8 n :: r => match bytesOf r with
    | some bs => some (UInt8.ofNat n.toNat :: bs)
    | none => none
  | _ => none

def byteCells (s : List UInt8) : List AV := s.map fun b => .int .u8 b.toNat

def convert (S : Sig) (H : AHeap) (src dst : TypeId) (x : AV) : Option (AV × AHeap) :=
  match S.und src, S.und dst, x with
  | some _, some (.int k), .int _ n => some (.int k (k.wrap n), H)
  | some _, some .string, .str s => some (.str s, H)
  | some _, some .string, .int _ n => some (.str (Utf8.encode n).data.toList, H)
  | some _, some (.slice e), .str s => match S.und e with
    | some (.int .u8) => some (.slice H.next 0 s.length (.more 1), H.new (.row (byteCells s) true))
    | _ => none
  | some (.slice e), some .string, x => match S.und e with
    | some (.int .u8) => match x with
      | .nilslice => some (.str [], H)
      | .slice r off len _ => match H.cells r off len with
        | some cs => (bytesOf cs).map fun b => (.str b, H)
        | none => none
      | _ => none
    | _ => none
  | _, _, _ => none

def intOf : AV → Option Int
  | .int _ n => some n
  | _ => none

/-- A bound between 0 and a top. -/
def bound (v : AV) (top : Nat) : Option Nat :=
  match v with
  | .int _ i => if 0 ≤ i && i ≤ top then some i.toNat else none
  | _ => none

/-- The bounds of a slice's parts: the capacity, as it stands; at most the length, where it isn't known. -/
def bounds (len top : Nat) (lo hi mx : Option AV) : Option (Nat × Nat × Nat) :=
  match (match mx with | some v => bound v top | none => some top) with
  | none => none
  | some m => match (match hi with | some v => bound v m | none => if mx.isSome then none else some len) with
    | none => none
    | some h => match (match lo with | some v => bound v h | none => some 0) with
      | none => none
      | some l => some (l, h, m)

def slice (S : Sig) (t : TypeId) (x : AV) (lo hi mx : Option AV) : Option AV :=
  match S.und t, x with
  | some .string, .str s => if mx.isSome then none else match bounds s.length s.length lo hi none with
    | some (l, h, _) => some (.str ((s.drop l).take (h - l)))
    | none => none
  | some (.slice e), .nilslice => match S.size e, bounds 0 0 lo hi mx with
    | some _, some _ => some .nilslice
    | _, _ => none
  | some (.slice e), .slice r off len cap => match S.size e with
    | some n => match cap with
      | .exact c => match bounds len c lo hi mx with
        | some (l, h, m) => some (.slice r (off + l * n) (h - l) (.exact (m - l)))
        | none => none
      | .more k => if Nat.beq k n then match bounds len len lo hi mx with
          | some (l, h, m) => some (.slice r (off + l * n) (h - l) (if mx.isSome then .exact (m - l) else .more n))
          | none => none
        else none
    | none => none
  | some (.pointer a), .ptr r off => match S.und a with
    | some (.array k e) => match S.size e, bounds k k lo hi mx with
      | some n, some (l, h, m) => some (.slice r (off + l * n) (h - l) (.exact (m - l)))
      | _, _ => none
    | _ => none
  | some (.array k e), .ptr r off => match S.size e, bounds k k lo hi mx with
    | some n, some (l, h, m) => some (.slice r (off + l * n) (h - l) (.exact (m - l)))
    | _, _ => none
  | _, _ => none

def indexAddr (S : Sig) (t : TypeId) (x : AV) (i : Int) : Option AV :=
  match S.und t, x with
  | some (.array k e), .ptr r off => match S.size e with
    | some n => if 0 ≤ i && i < k then some (.ptr r (off + i.toNat * n)) else none
    | none => none
  | some (.slice e), .slice r off len _ => match S.size e with
    | some n => if 0 ≤ i && i < len then some (.ptr r (off + i.toNat * n)) else none
    | none => none
  | _, _ => none

def index (S : Sig) (t : TypeId) (x : AV) (i : Int) : Option AV :=
  match S.und t, x with
  | some (.array k e), .agg cs => match S.size e with
    | some n => if 0 ≤ i && i < k then part S e cs (i.toNat * n) else none
    | none => none
  | some .string, .str s => if 0 ≤ i then match s[i.toNat]? with
      | some b => some (.int .u8 b.toNat)
      | none => none
    else none
  | _, _ => none

/-- Where a key is among a map's entries. -/
def find (S : Sig) (t : TypeId) (k : AV) : List (AV × AV × Nat) → Nat → Option (Option (Nat × AV × Nat))
  | [], _ => some none
  | (a, v, n) :: es, i => match equal S t k a with
    | some true => some (some (i, v, n))
    | some false => find S t k es (i + 1)
    | none => none

/-- Are the keys of a type looked at here: whole numbers, texts, and what is made of these. -/
def keyOk (S : Sig) (t : TypeId) (k : AV) : Bool :=
  match S.und t with
  | some .bool => true
  | some (.int _) => true
  | some .string => true
  | some (.struct fs) => S.keys t && (match k with | .agg cs => Nat.beq cs.length fs.size && cs.all (fun c => match c with | .int _ _ => true | .str _ => true | .bool _ => true | _ => false) | _ => false)
  | _ => false

def keyOf (S : Sig) (t : TypeId) : Option (TypeId × TypeId) :=
  match S.und t with
  | some (.map k e) => some (k, e)
  | _ => none

def mapUpdate (S : Sig) (H : AHeap) (t : TypeId) (m k v : AV) : Option AHeap :=
  match keyOf S t, m with
  | some (kt, _), .map r => match H.get r with
    | some (.map es clock) =>
      if keyOk S kt k then match find S kt k es 0 with
        | some (some (i, _, n)) => some (H.put r (.map (es.set i (k, v, n)) clock))
        | some none => some (H.put r (.map (es ++ [(k, v, clock)]) (clock + 1)))
        | none => none
      else none
    | _ => none
  | _, _ => none

def lookup (S : Sig) (H : AHeap) (t : TypeId) (m k : AV) (ok : Bool) : Option AV :=
  match keyOf S t with
  | some (kt, et) =>
    let es : Option (List (AV × AV × Nat)) := match m with
      | .nilmap => some []
      | .map r => match H.get r with
        | some (.map es _) => some es
        | _ => none
      | _ => none
    match es with
    | some es => if keyOk S kt k then match find S kt k es 0 with
        | some (some (_, v, _)) => some (bif ok then .tuple [v, .bool true] else v)
        | some none => match S.zero et with
          | some z => some (bif ok then .tuple [z, .bool false] else z)
          | none => none
        | none => none
      else none
    | none => none
  | none => none

/-- The entry of a key, laid if it lacks; its stamp. -/
def mapEntry (S : Sig) (H : AHeap) (t : TypeId) (m k : AV) : Option (AV × AHeap) :=
  match keyOf S t, m with
  | some (kt, et), .map r => match H.get r with
    | some (.map es clock) =>
      if keyOk S kt k then match find S kt k es 0 with
        | some (some (i, v, n)) => some (.tuple [v, .int .i64 n], H.put r (.map (es.set i (k, v, n)) clock))
        | some none => match S.zero et with
          | some z => some (.tuple [z, .int .i64 clock], H.put r (.map (es ++ [(k, z, clock)]) (clock + 1)))
          | none => none
        | none => none
      else none
    | _ => none
  | _, _ => none

/-- The entry of a stamp. -/
def stamped (n : Int) : List (AV × AV × Nat) → Nat → Option (Nat × AV × Nat)
  | [], _ => none
  | (k, _, b) :: es, i => bif (b : Int) == n then some (i, k, b) else stamped n es (i + 1)

def entryStore (H : AHeap) (m s v : AV) : Option AHeap :=
  match m, s with
  | .map r, .int _ n => match H.get r with
    | some (.map es clock) => match stamped n es 0 with
      | some (i, k, b) => some (H.put r (.map (es.set i (k, v, b)) clock))
      | none => none
    | _ => none
  | _, _ => none

/-- Elements behind a slice's: in their place, or in a new row; the slice's own row goes, where both may be. -/
def append (H : AHeap) (size bytes : Nat) (s : AV) (news : List AV) (m : Nat) : Option (AV × AHeap) :=
  if !(Nat.blt 0 size && news.all AV.oneCell && Nat.beq news.length (m * size)) then none else
  match s with
  | .nilslice =>
    if Nat.beq m 0 then some (.nilslice, H)
    else if Nat.ble (m * bytes) 17592186044416 && Nat.ble m 17592186044416 then some (.slice H.next 0 m (.more size), H.new (.row news true)) else none
  | .slice r off len cap =>
    if Nat.beq m 0 then some (.slice r off len cap, H)
    else if !(Nat.ble ((len + m) * bytes) 17592186044416 && Nat.ble (len + m) 17592186044416) then none
    else match cap, H.row r with
      | .exact c, some (cs, w) =>
        if Nat.ble (len + m) c then
          if w && Nat.ble (off + (len + m) * size) cs.length then
            some (.slice r off (len + m) (.exact c), H.put r (.row (cs.take (off + len * size) ++ news ++ cs.drop (off + (len + m) * size)) true))
          else none
        else if Nat.ble (off + len * size) cs.length then
          some (.slice H.next 0 (len + m) (.more size), H.new (.row ((cs.drop off).take (len * size) ++ news) true))
        else none
      | .more k, some (cs, w) =>
        if w && Nat.beq k size && Nat.beq (off + len * size) cs.length then
          some (.slice H.next 0 (len + m) (.more size), (H.drop r).new (.row (cs.drop off ++ news) true))
        else none
      | _, none => none
  | _ => none

/-- What may stand behind a slice at an append. -/
def appendable : TypeDesc → Bool
  | .slice _ => true
  | .string => true
  | _ => false

/-- What may be copied or appended. -/
def elems (H : AHeap) (size : Nat) (x : AV) : Option (Nat × List AV) :=
  match x with
  | .nilslice => some (0, [])
  | .slice r off n _ => (H.cells r off (n * size)).map fun cs => (n, cs)
  | .str s => if Nat.beq size 1 then some (s.length, byteCells s) else none
  | _ => none

inductive ARes where
  | val (v : AV)
  | skip
  | enter (f : FuncId) (args : List AV)
  | round (l : Nat) (args : List AV)
  /-- one of these, whichever -/
  | any (l : List (AV × AHeap))

/-- Functions without a text. -/
inductive Ext where
  | mapsClone | indexByteString | noEscape

structure Env where
  S : Sig
  fn : FuncId → Option Func
  ext : FuncId → Option Ext
  glob : Nat → Option AV
  /-- Calls of which it is said elsewhere what they give. -/
  con : FuncId → Bool

abbrev Res := Option (ARes × AHeap)

def val (H : AHeap) : Option AV → Res
  | some v => some (.val v, H)
  | none => none

def valH : Option (AV × AHeap) → Res
  | some (v, H) => some (.val v, H)
  | none => none

def skipH : Option AHeap → Res
  | some H => some (.skip, H)
  | none => none

def indexByteL (c : UInt8) : List UInt8 → Nat → Int
  | [], _ => -1
  | b :: r, i => if b == c then (i : Int) else indexByteL c r (i + 1)

def callExt (H : AHeap) (e : Ext) (args : List AV) : Res :=
  match e, args with
  | .mapsClone, [.iface t (.map r)] => match H.get r with
    | some (.map es clock) => some (.val (.iface t (.map H.next)), H.new (.map es clock))
    | _ => none
  | .indexByteString, [.str s, .int .u8 c] => some (.val (.int .i64 (indexByteL (UInt8.ofNat c.toNat) s 0)), H)
  | .noEscape, [v] => some (.val v, H)
  | _, _ => none

def callFunc (E : Env) (H : AHeap) (f : FuncId) (args : List AV) : Res :=
  match E.fn f with
  | some fn => match fn.body with
    | some _ => some (.enter f args, H)
    | none => match E.ext f with
      | some e => callExt H e args
      | none => none
  | none => none

def erased (f : Option (Nat × AV × Nat)) (es : List (AV × AV × Nat)) : List (AV × AV × Nat) :=
  match f with
  | some (i, _, _) => es.eraseIdx i
  | none => es

def lenOp (S : Sig) (H : AHeap) (t : TypeId) (x : AV) : Option AV :=
  match S.und t, x with
  | some .string, .str s => some (.int .i64 s.length)
  | some (.array n _), _ => some (.int .i64 n)
  | some (.slice _), .nilslice => some (.int .i64 0)
  | some (.slice _), .slice _ _ n _ => some (.int .i64 n)
  | some (.map _ _), .nilmap => some (.int .i64 0)
  | some (.map _ _), .map r => match H.get r with
    | some (.map es _) => some (.int .i64 es.length)
    | _ => none
  | _, _ => none

def capOp (S : Sig) (t : TypeId) (x : AV) : Option AV :=
  match S.und t, x with
  | some (.slice _), .nilslice => some (.int .i64 0)
  | some (.slice _), .slice _ _ _ (.exact c) => some (.int .i64 c)
  | _, _ => none

def builtin (E : Env) (H : AHeap) (b : Builtin) (ts : Array TypeId) (args : List AV) : Res :=
  match b, args with
  | .len, [x] => match ts[0]? with
    | some t => val H (lenOp E.S H t x)
    | none => none
  | .cap, [x] => match ts[0]? with
    | some t => val H (capOp E.S t x)
    | none => none
  | .append, [s, x] => match ts[0]?, ts[1]? with
    | some t, some u => match E.S.und t, E.S.und u with
      | some (.slice e), some d => match E.S.size e, E.S.bytes e, E.S.zero e with
        | some n, some b, some z => if Nat.beq z.cells.length n && appendable d then match elems H n x with
            | some (m, news) => valH (append H n b s news m)
            | none => none
          else none
        | _, _, _ => none
      | _, _ => none
    | _, _ => none
  | .copy, [.slice r off len _, x] => match ts[0]? with
    | some t => match E.S.und t with
      | some (.slice e) => match E.S.size e with
        | some n => match elems H n x with
          | some (m, cs) => match H.store r off (cs.take (min m len * n)) with
            | some H => some (.val (.int .i64 (min m len : Nat)), H)
            | none => none
          | none => none
        | none => none
      | _ => none
    | none => none
  | .min, [.int k a, .int _ b] => some (.val (.int k (if b < a then b else a)), H)
  | .max, [.int k a, .int _ b] => some (.val (.int k (if b > a then b else a)), H)
  | .delete, [.map r, k] => match ts[0]? with
    | some t => match keyOf E.S t, H.get r with
      | some (kt, _), some (.map es clock) => if keyOk E.S kt k then match find E.S kt k es 0 with
          | some f => some (.val (.tuple []), H.put r (.map (erased f es) clock))
          | none => none
        else none
      | _, _ => none
    | none => none
  | _, _ => none

def invoke (E : Env) (H : AHeap) (f : AV) (args : List AV) : Res :=
  match f with
  | .func f captured => callFunc E H f (args ++ captured)
  | .yield l => some (.round l args, H)
  | _ => none

def call (E : Env) (ρ : Operand → Option AV) (H : AHeap) (c : Call) : Res :=
  match c.args.toList.mapM ρ with
  | none => none
  | some args => match c.callee with
    | .builtin b => builtin E H b c.argTypes args
    | .value f => match ρ f with
      | some f => invoke E H f args
      | none => none
    | .invoke .. => none

def optOp (ρ : Operand → Option AV) : Option Operand → Option (Option AV)
  | none => some none
  | some x => (ρ x).map some

def range (E : Env) (H : AHeap) (t : TypeId) (x : AV) : Option (AV × AHeap) :=
  match E.S.und t, x with
  | some .string, .str s => some (.ptr H.next 0, H.new (.siter s 0))
  | some (.map _ _), .nilmap => some (.ptr H.next 0, H.new (.iter none 0 [] 0))
  | some (.map _ _), .map r => match H.get r with
    | some (.map _ clock) => some (.ptr H.next 0, H.new (.iter (some r) clock [] clock))
    | _ => none
  | _, _ => none

def next (H : AHeap) (it : AV) (isString : Bool) : Res :=
  match it with
  | .ptr r 0 => match H.get r, isString with
    | some (.siter s pos), true =>
      if pos < s.length then
        let (c, w) := Utf8.decode ⟨s.toArray⟩ pos
        some (.val (.tuple [.bool true, .int .i64 pos, .int .i32 c]), H.put r (.siter s (pos + w)))
      else some (.val (.tuple [.bool false]), H)
    | some (.iter none _ _ _), false => some (.val (.tuple [.bool false]), H)
    | some (.iter (some m) since seen last), false => match H.get m with
      | some (.map es clock) =>
        if !seen.isEmpty && !es.isEmpty && es.all (fun e => Nat.ble last e.2.2) then none else
        let left := es.filter fun e => !seen.any (Nat.beq e.2.2)
        let old := left.filter fun e => Nat.blt e.2.2 since
        let new := left.filter fun e => Nat.ble since e.2.2
        let step := fun (e : AV × AV × Nat) => (AV.tuple [.bool true, e.1, e.2.1], H.put r (.iter (some m) since (seen ++ [e.2.2]) clock))
        some (.any ((bif old.isEmpty then [(AV.tuple [.bool false], H)] else []) ++ (old ++ new).map step), H)
      | _ => none
    | _, _ => none
  | _ => none

def entry (H : AHeap) (it : AV) : Option AV :=
  match it with
  | .ptr r 0 => match H.get r with
    | some (.iter (some m) _ seen stepped) => match seen.getLast?, H.get m with
      | some stamp, some (.map es clock) => if Nat.beq clock stepped then
          (es.find? fun e => Nat.beq e.2.2 stamp).map fun e => .tuple [e.1, e.2.1]
        else none
      | _, _ => none
    | _ => none
  | _ => none

def op (E : Env) (ρ : Operand → Option AV) (H : AHeap) (o : Op) : Res :=
  match o with
  | .move x => val H (ρ x)
  | .assign x => val H (ρ x)
  | .pick c a b => match ρ c with
    | some (.bool true) => val H (ρ a)
    | some (.bool false) => val H (ρ b)
    | _ => none
  | .alloc t => match E.S.zero t with
    | some z => some (.val (.ptr H.next 0), H.new (.row z.cells true))
    | none => none
  | .box _ x => match ρ x with
    | some v => some (.val (.ptr H.next 0), H.new (.row v.cells true))
    | none => none
  | .build t parts => match parts.toList.mapM fun (i, x) => (ρ x).map fun v => (i, v) with
    | some ps => val H (build E.S t ps)
    | none => none
  | .buildSlice t n parts => match parts.toList.mapM fun (i, x) => (ρ x).map fun v => (i, v) with
    | some ps => valH (buildSlice E.S H t n ps)
    | none => none
  | .load t a => match ρ a with
    | some (.ptr r off) => val H (loadVar E.S H t r off)
    | _ => none
  | .store t a x => match ρ a, ρ x with
    | some (.ptr r off), some v => skipH (storeVar E.S H t r off v)
    | _, _ => none
  | .nilCheck x => match ρ x with
    | some (.ptr r off) => some (.val (.ptr r off), H)
    | some (.func f c) => some (.val (.func f c), H)
    | some (.map r) => some (.val (.map r), H)
    | _ => none
  | .binOp op t x y _ => match ρ x, ρ y with
    | some a, some b => val H (binOp E.S op t x y a b)
    | _, _ => none
  | .unOp op _ x => match ρ x with
    | some v => val H (unOp op v)
    | none => none
  | .convert s d x => match ρ x with
    | some v => valH (convert E.S H s d v)
    | none => none
  | .makeInterface t x => match E.S.und t, ρ x with
    | some (.interface _), _ => none
    | some _, some v => some (.val (.iface t v), H)
    | _, _ => none
  | .makeFunc (.func f) first cap => match cap.toList.mapM ρ with
    | some cs => if first.isEmpty then some (.val (.func f cs), H) else none
    | none => none
  | .makeMap _ r => match r with
    | none => some (.val (.map H.next), H.new (.map [] 0))
    | some _ => none
  | .makeSlice t l c => match E.S.und t, ρ l, ρ c with
    | some (.slice e), some (.int _ l), some (.int _ c) => match E.S.size e, E.S.bytes e, E.S.zero e with
      | some n, some b, some z =>
        if 0 ≤ l && l ≤ c && Nat.blt 0 n && Nat.ble (c.toNat * b) 17592186044416 && Nat.ble c.toNat 17592186044416 && Nat.beq z.cells.length n then
          some (.val (.slice H.next 0 l.toNat (.exact c.toNat)), H.new (.row (repeated c.toNat z.cells) true))
        else none
      | _, _, _ => none
    | _, _, _ => none
  | .slice t x lo hi mx => match ρ x, optOp ρ lo, optOp ρ hi, optOp ρ mx with
    | some v, some lo, some hi, some mx => val H (slice E.S t v lo hi mx)
    | _, _, _, _ => none
  | .fieldAddr t x f => match E.S.field t f, ρ x with
    | some (u, o), some (.ptr r off) => match E.S.size u with
      | some n => if Nat.blt 0 n then some (.val (.ptr r (off + o)), H) else none
      | none => none
    | _, _ => none
  | .field t x f => match E.S.field t f, ρ x with
    | some (u, o), some (.agg cs) => val H (part E.S u cs o)
    | _, _ => none
  | .indexAddr t x i => match ρ x, ρ i with
    | some v, some (.int _ i) => val H (indexAddr E.S t v i)
    | _, _ => none
  | .index t x i => match ρ x, ρ i with
    | some v, some (.int _ i) => val H (index E.S t v i)
    | _, _ => none
  | .lookup t m k ok => match ρ m, ρ k with
    | some m, some k => val H (lookup E.S H t m k ok)
    | _, _ => none
  | .mapUpdate t m k x => match ρ m, ρ k, ρ x with
    | some m, some k, some v => skipH (mapUpdate E.S H t m k v)
    | _, _, _ => none
  | .insert t m k x => match ρ m, ρ k, ρ x with
    | some m, some k, some v => skipH (mapUpdate E.S H t m k v)
    | _, _, _ => none
  | .mapEntry t m k => match ρ m, ρ k with
    | some m, some k => valH (mapEntry E.S H t m k)
    | _, _ => none
  | .entryStore _ m s x => match ρ m, ρ s, ρ x with
    | some m, some s, some v => skipH (entryStore H m s v)
    | _, _, _ => none
  | .range t x => match ρ x with
    | some v => valH (range E H t v)
    | none => none
  | .next it s => match ρ it with
    | some v => next H v s
    | none => none
  | .entry it => match ρ it with
    | some v => val H (entry H v)
    | none => none
  | .extract t i => match ρ t with
    | some (.tuple vs) => val H vs[i]?
    | _ => none
  | .call c => call E ρ H c
  | .sliceToArrayPointer t x => match E.S.und t, ρ x with
    | some (.array n _), some (.slice r off len _) => if Nat.ble n len && Nat.blt 0 n then some (.val (.ptr r off), H) else none
    | _, _ => none
  | _ => none

end AM
end Go
