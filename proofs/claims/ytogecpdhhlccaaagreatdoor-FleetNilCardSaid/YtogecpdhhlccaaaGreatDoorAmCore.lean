/-
  An abstract machine over the model's code: values whose addresses are names, rows whose capacity is not told, maps whose order is not told. This text holds its words alone.
-/
import GoSem.Step
namespace Go
namespace AM

/-- What is known of a slice's capacity: the number; or that elements of so many cells may lie behind. -/
inductive Cap where
  | exact (c : Nat)
  | more (size : Nat)
  deriving Inhabited

/-- A value: a name in the place of a block; a slice tells its capacity only where that is known. -/
inductive AV where
  | bool (b : Bool)
  | int (k : IntKind) (n : Int)
  | str (s : List UInt8)
  | nilptr
  | ptr (r off : Nat)
  | nilslice
  | slice (r off len : Nat) (cap : Cap)
  | nilmap
  | map (r : Nat)
  | func (f : FuncId) (captured : List AV)
  | yield (l : Nat)
  | nilfunc
  | iface (t : TypeId) (v : AV)
  | nilif
  | agg (cs : List AV)
  | tuple (vs : List AV)
  /-- a name of a value of one cell -/
  | sym (r : Nat)
  deriving Inhabited

/-- What a temporary holds that nothing was put into. -/
def AV.undef : AV := .tuple []

/-- Values that are carried as they stand. -/
def held : Value → Bool
  | .int .. | .string _ | .slice .. | .pointer _ | .map _ => true
  | _ => false

def AV.cells : AV → List AV
  | .agg cs => cs
  | v => [v]

def AV.oneCell : AV → Bool
  | .agg _ => false
  | .tuple _ => false
  | _ => true

/-- A tree with numbers for its keys. -/
inductive T (α : Type) where
  | leaf
  | node (v : Option α) (l r : T α)

namespace T
variable {α : Type}

def get : T α → Nat → Option α
  | .leaf, _ => none
  | .node v l r, n => bif Nat.beq n 0 then v else bif Nat.beq (n % 2) 1 then l.get (n / 2) else r.get (n / 2 - 1)

def setF (a : Option α) : Nat → T α → Nat → T α
  | 0, t, _ => t
  | f + 1, .leaf, n =>
    bif Nat.beq n 0 then .node a .leaf .leaf
    else bif Nat.beq (n % 2) 1 then .node none (setF a f .leaf (n / 2)) .leaf
    else .node none .leaf (setF a f .leaf (n / 2 - 1))
  | f + 1, .node v l r, n =>
    bif Nat.beq n 0 then .node a l r
    else bif Nat.beq (n % 2) 1 then .node v (setF a f l (n / 2)) r
    else .node v l (setF a f r (n / 2 - 1))

def set (t : T α) (n : Nat) (a : α) : T α := setF (some a) (n + 1) t n

/-- A key without its value. -/
def del (t : T α) (n : Nat) : T α := setF none (n + 1) t n

@[simp] theorem get_leaf (n : Nat) : (T.leaf : T α).get n = none := rfl

theorem get_setF (a : Option α) : ∀ (f : Nat) (t : T α) (n m : Nat), n < f → (setF a f t n).get m = if m = n then a else t.get m := by
  intro f
  induction f with
  | zero => intro t n m h; omega
  | succ f ih =>
    intro t n m h
    cases t with
    | leaf =>
      by_cases hn : n = 0
      · subst hn
        by_cases hm : m = 0
        · subst hm; simp [setF, get]
        · have hb : Nat.beq m 0 = false := by cases m <;> simp_all [Nat.beq]
          simp [setF, get, hb, hm]
      · have hb : Nat.beq n 0 = false := by cases n <;> simp_all [Nat.beq]
        by_cases h2 : n % 2 = 1
        · have hb2 : Nat.beq (n % 2) 1 = true := by simp [h2]
          simp only [setF, hb, hb2, cond_false, cond_true, get]
          rw [ih _ _ _ (by omega)]
          by_cases hm : m = 0
          · subst hm; simp [Nat.beq]; intro e; omega
          · have hbm : Nat.beq m 0 = false := by cases m <;> simp_all [Nat.beq]
            by_cases hm2 : m % 2 = 1
            · have hbm2 : Nat.beq (m % 2) 1 = true := by simp [hm2]
              simp only [hbm, hbm2, cond_false, cond_true]
              by_cases e : m = n
              · subst e; simp
              · have : m / 2 ≠ n / 2 := by omega
                simp [e, this]
            · have hbm2 : Nat.beq (m % 2) 1 = false := by cases h' : Nat.beq (m % 2) 1 <;> simp_all
              have : m ≠ n := by omega
              simp [hbm, hbm2, this]
        · have hb2 : Nat.beq (n % 2) 1 = false := by cases h' : Nat.beq (n % 2) 1 <;> simp_all
          simp only [setF, hb, hb2, cond_false, get]
          rw [ih _ _ _ (by omega)]
          by_cases hm : m = 0
          · subst hm; simp [Nat.beq]; intro e; omega
          · have hbm : Nat.beq m 0 = false := by cases m <;> simp_all [Nat.beq]
            by_cases hm2 : m % 2 = 1
            · have hbm2 : Nat.beq (m % 2) 1 = true := by simp [hm2]
              have : m ≠ n := by omega
              simp [hbm, hbm2, this]
            · have hbm2 : Nat.beq (m % 2) 1 = false := by cases h' : Nat.beq (m % 2) 1 <;> simp_all
              simp only [hbm, hbm2, cond_false]
              by_cases e : m = n
              · subst e; simp
              · have : m / 2 - 1 ≠ n / 2 - 1 := by omega
                simp [e, this]
    | node v l r =>
      by_cases hn : n = 0
      · subst hn
        by_cases hm : m = 0
        · subst hm; simp [setF, get]
        · have hb : Nat.beq m 0 = false := by cases m <;> simp_all [Nat.beq]
          simp [setF, get, hb, hm]
      · have hb : Nat.beq n 0 = false := by cases n <;> simp_all [Nat.beq]
        by_cases h2 : n % 2 = 1
        · have hb2 : Nat.beq (n % 2) 1 = true := by simp [h2]
          simp only [setF, hb, hb2, cond_false, cond_true, get]
          rw [ih _ _ _ (by omega)]
          by_cases hm : m = 0
          · subst hm; simp [Nat.beq]; intro e; omega
          · have hbm : Nat.beq m 0 = false := by cases m <;> simp_all [Nat.beq]
            by_cases hm2 : m % 2 = 1
            · have hbm2 : Nat.beq (m % 2) 1 = true := by simp [hm2]
              simp only [hbm, hbm2, cond_false, cond_true]
              by_cases e : m = n
              · subst e; simp
              · have : m / 2 ≠ n / 2 := by omega
                simp [e, this]
            · have hbm2 : Nat.beq (m % 2) 1 = false := by cases h' : Nat.beq (m % 2) 1 <;> simp_all
              have : m ≠ n := by omega
              simp [hbm, hbm2, this]
        · have hb2 : Nat.beq (n % 2) 1 = false := by cases h' : Nat.beq (n % 2) 1 <;> simp_all
          simp only [setF, hb, hb2, cond_false, get]
          rw [ih _ _ _ (by omega)]
          by_cases hm : m = 0
          · subst hm; simp [Nat.beq]; intro e; omega
          · have hbm : Nat.beq m 0 = false := by cases m <;> simp_all [Nat.beq]
            by_cases hm2 : m % 2 = 1
            · have hbm2 : Nat.beq (m % 2) 1 = true := by simp [hm2]
              have : m ≠ n := by omega
              simp [hbm, hbm2, this]
            · have hbm2 : Nat.beq (m % 2) 1 = false := by cases h' : Nat.beq (m % 2) 1 <;> simp_all
              simp only [hbm, hbm2, cond_false]
              by_cases e : m = n
              · subst e; simp
              · have : m / 2 - 1 ≠ n / 2 - 1 := by omega
                simp [e, this]

theorem get_set (t : T α) (n : Nat) (a : α) (m : Nat) : (t.set n a).get m = if m = n then some a else t.get m :=
  get_setF (some a) (n + 1) t n m (by omega)

theorem get_del (t : T α) (n m : Nat) : (t.del n).get m = if m = n then none else t.get m :=
  get_setF none (n + 1) t n m (by omega)

end T

end AM
end Go
