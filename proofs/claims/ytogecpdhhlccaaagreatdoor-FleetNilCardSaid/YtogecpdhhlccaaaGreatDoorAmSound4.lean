/-
  An abstract machine over the model's code: its operations against the model's, the fourth part.
-/
import Derived.Test.YtogecpdhhlccaaaGreatDoorAmSound3
namespace Go
namespace AM
open Go.RowKit (Below)

theorem toList_bytes (s : List UInt8) : (⟨s.toArray⟩ : ByteArray).toList = s := by
  rw [ByteArray.toList_eq]

theorem beq_bytes (a b : List UInt8) : ((⟨a.toArray⟩ : ByteArray) == ⟨b.toArray⟩) = (a == b) := by
  rw [beq_toListBytes, toList_bytes, toList_bytes]

section
variable {P : Program} {S : Sig} (hS : SigOK P S) {ρ : Places} {w0 w : World} {H : AHeap} (hH : HRel ρ w0 H w)

include hS in
theorem equal_sound {t : TypeId} {x y : AV} {v u : Value} {b : Bool} (h : equal S t x y = some b) (hv : VRel ρ x v) (hu : VRel ρ y u) : (Op.equal t v u).run P w = .ok b w := by
  unfold equal at h
  unfold Op.equal Op.maxDepth
  obtain ⟨d, hd0⟩ : ∃ d, (10000 : Nat) = d + 1 := ⟨9999, rfl⟩
  rw [hd0]
  split at h
  · rename_i hd
    split at h
    · cases h; simp only [VRel] at hv hu; subst hv hu; simp [Op.equalIn, run_und hS w hd]
    · cases h
  · rename_i k hd
    split at h
    · split at h
      · rename_i e; subst e; cases h; simp only [VRel] at hv hu; subst hv hu; simp [Op.equalIn, run_und hS w hd]
      · cases h
    · cases h
  · rename_i hd
    split at h
    · cases h; simp only [VRel] at hv hu; subst hv hu; simp [Op.equalIn, run_und hS w hd, beq_bytes]
    · cases h
  · rename_i e hd
    split at h
    · cases h; simp only [VRel] at hv hu; subst hv hu; simp [Op.equalIn, run_und hS w hd]
    · cases h; simp only [VRel] at hv hu; obtain ⟨p, _, rfl⟩ := hu; subst hv; simp [Op.equalIn, run_und hS w hd]
    · cases h; simp only [VRel] at hv hu; obtain ⟨p, _, rfl⟩ := hv; subst hu; simp [Op.equalIn, run_und hS w hd]
    · rename_i r1 a s1 b
      split at h
      · rename_i n hn
        split at h
        · rename_i hc
          cases h
          simp only [Bool.and_eq_true, beq_iff, blt_iff] at hc
          obtain ⟨rfl, hpos⟩ := hc
          simp only [VRel] at hv hu
          obtain ⟨p, hp, rfl⟩ := hv
          obtain ⟨q, hq, rfl⟩ := hu
          rw [hp] at hq; cases hq
          have e2 : ((⟨p.blk, p.base + a, none⟩ : Addr) == ⟨p.blk, p.base + b, none⟩) = Nat.beq a b := by
            by_cases e : a = b
            · subst e; simp
            · have : Nat.beq a b = false := by cases h' : Nat.beq a b <;> simp_all
              rw [this]
              rw [beq_eq_false_iff_ne]
              intro h; injection h; omega
          simp [Op.equalIn, run_und hS w hd, run_size hS w hn, show ¬ n = 0 from by omega, sameAddr, e2]
        · cases h
      · cases h
    · cases h
  · rename_i e hd
    split at h
    · cases h; simp only [VRel] at hv hu; subst hv hu; simp [Op.equalIn, run_und hS w hd]
    · cases h; simp only [VRel] at hv hu; obtain ⟨p, a, c, _, rfl, _⟩ := hu; subst hv; simp [Op.equalIn, run_und hS w hd]
    · cases h; simp only [VRel] at hv hu; obtain ⟨p, a, c, _, rfl, _⟩ := hv; subst hu; simp [Op.equalIn, run_und hS w hd]
    · cases h
  · rename_i e hd
    split at h
    · cases h; simp only [VRel] at hv hu; subst hv hu; simp [Op.equalIn, run_und hS w hd]
    · cases h; simp only [VRel] at hv hu; obtain ⟨p, _, rfl⟩ := hu; subst hv; simp [Op.equalIn, run_und hS w hd]
    · cases h; simp only [VRel] at hv hu; obtain ⟨p, _, rfl⟩ := hv; subst hu; simp [Op.equalIn, run_und hS w hd]
    · cases h
  · rename_i e hd
    split at h
    · cases h; simp only [VRel] at hv hu; subst hv hu; simp [Op.equalIn, run_und hS w hd]
    · cases h; simp only [VRel] at hv hu; obtain ⟨p, _, rfl⟩ := hu; subst hv; simp [Op.equalIn, run_und hS w hd]
    · cases h; simp only [VRel] at hv hu; obtain ⟨p, _, rfl⟩ := hu; subst hv; simp [Op.equalIn, run_und hS w hd]
    · cases h; simp only [VRel] at hv hu; obtain ⟨p, _, rfl⟩ := hv; subst hu; simp [Op.equalIn, run_und hS w hd]
    · cases h; simp only [VRel] at hv hu; obtain ⟨p, _, rfl⟩ := hv; subst hu; simp [Op.equalIn, run_und hS w hd]
    · cases h
  · rename_i e hd
    split at h
    · cases h; simp only [VRel] at hv hu; obtain ⟨p, _, rfl⟩ := hu; subst hv; simp [Op.equalIn, run_und hS w hd]
    · cases h; simp only [VRel] at hv hu; obtain ⟨p, _, rfl⟩ := hv; subst hu; simp [Op.equalIn, run_und hS w hd]
    · cases h
  · split at h
    · split at h
      · rename_i ks hp
        simp only [VRel] at hv hu
        obtain ⟨vs, hvs, rfl⟩ := hv
        obtain ⟨us, hus, rfl⟩ := hu
        rw [← hd0]; exact hS.plain t ks hp ρ w _ _ vs us b hvs hus h
      · cases h
    · cases h
  · cases h

theorem bytesLess_eq : ∀ a b : List UInt8, Op.bytesLess a b = bytesLess a b
  | _, [] => by simp [Op.bytesLess, bytesLess]
  | [], b :: bs => by simp [Op.bytesLess, bytesLess]
  | a :: x, b :: y => by simp [Op.bytesLess, bytesLess, bytesLess_eq x y]

theorem run_guard_int (op : BinOp) (t : TypeId) (x y : Operand) (k j : IntKind) (a b : Int) : (eqGuard op t x y (.int k a) (.int j b)).run P w = .ok () w := by
  cases op <;> simp [eqGuard]

theorem run_guard_str (op : BinOp) (t : TypeId) (x y : Operand) (a b : ByteArray) : (eqGuard op t x y (.string a) (.string b)).run P w = .ok () w := by
  cases op <;> simp [eqGuard]

theorem shift_sound {op : BinOp} {t : TypeId} {ox oy : Operand} {k yk : IntKind} {a b : Int} {x : AV} (hop : op = .shl ∨ op = .shr) (h : shiftOp op k a b = some x) :
    ∃ v, (do eqGuard op t ox oy (.int k a) (.int yk b); Go.binOp op t (.int k a) (.int yk b) : Sem Value).run P w = .ok v w ∧ VRel ρ x v := by
  unfold shiftOp at h
  split at h
  · cases h
  · rename_i hb
    rcases hop with rfl | rfl
    · cases h
      exact ⟨_, by simp [run_guard_int, Go.binOp, Op.shift, hb]; rfl, by simp only [VRel]⟩
    · cases h
      exact ⟨_, by simp [run_guard_int, Go.binOp, Op.shift, hb]; rfl, by simp only [VRel]⟩

theorem intOp_sound {op : BinOp} {t : TypeId} {ox oy : Operand} {k : IntKind} {a b : Int} {x : AV} (h : intOp op k a b = some x) :
    ∃ v, (do eqGuard op t ox oy (.int k a) (.int k b); Go.binOp op t (.int k a) (.int k b) : Sem Value).run P w = .ok v w ∧ VRel ρ x v := by
  unfold intOp at h
  cases op <;> simp only at h
  case add => cases h; exact ⟨_, by simp [run_guard_int, Go.binOp, Op.intArith]; rfl, by simp only [VRel]⟩
  case sub => cases h; exact ⟨_, by simp [run_guard_int, Go.binOp, Op.intArith]; rfl, by simp only [VRel]⟩
  case mul => cases h; exact ⟨_, by simp [run_guard_int, Go.binOp, Op.intArith]; rfl, by simp only [VRel]⟩
  case quo =>
    split at h
    · cases h
    · rename_i hb; cases h; exact ⟨_, by simp [run_guard_int, Go.binOp, Op.intDiv, hb]; rfl, by simp only [VRel]⟩
  case rem =>
    split at h
    · cases h
    · rename_i hb; cases h; exact ⟨_, by simp [run_guard_int, Go.binOp, Op.intDiv, hb]; rfl, by simp only [VRel]⟩
  case and => cases h; exact ⟨_, by simp only [Sem.run_bind, run_guard_int, Result.andThen_ok, Go.binOp, Op.intBits, ne_eq, not_true_eq_false, if_false, Sem.run_pure]; rfl, by simp only [VRel]⟩
  case or => cases h; exact ⟨_, by simp only [Sem.run_bind, run_guard_int, Result.andThen_ok, Go.binOp, Op.intBits, ne_eq, not_true_eq_false, if_false, Sem.run_pure]; rfl, by simp only [VRel]⟩
  case xor => cases h; exact ⟨_, by simp only [Sem.run_bind, run_guard_int, Result.andThen_ok, Go.binOp, Op.intBits, ne_eq, not_true_eq_false, if_false, Sem.run_pure]; rfl, by simp only [VRel]⟩
  case andNot => cases h; exact ⟨_, by simp only [Sem.run_bind, run_guard_int, Result.andThen_ok, Go.binOp, Op.intBits, ne_eq, not_true_eq_false, if_false, Sem.run_pure]; rfl, by simp only [VRel]⟩
  case eql => cases h; exact ⟨_, by simp [run_guard_int, Go.binOp, Op.intCmp]; rfl, by simp only [VRel]⟩
  case neq => cases h; exact ⟨_, by simp [run_guard_int, Go.binOp, Op.intCmp]; rfl, by simp only [VRel]⟩
  case lss => cases h; exact ⟨_, by simp [run_guard_int, Go.binOp, Op.intCmp]; rfl, by simp only [VRel]⟩
  case leq => cases h; exact ⟨_, by simp [run_guard_int, Go.binOp, Op.intCmp]; rfl, by simp only [VRel]⟩
  case gtr => cases h; exact ⟨_, by simp [run_guard_int, Go.binOp, Op.intCmp]; rfl, by simp only [VRel]⟩
  case geq => cases h; exact ⟨_, by simp [run_guard_int, Go.binOp, Op.intCmp]; rfl, by simp only [VRel]⟩
  all_goals cases h

theorem strOp_sound {op : BinOp} {t : TypeId} {ox oy : Operand} {a b : List UInt8} {x : AV} (h : strOp op a b = some x) :
    ∃ v, (do eqGuard op t ox oy (.string ⟨a.toArray⟩) (.string ⟨b.toArray⟩); Go.binOp op t (.string ⟨a.toArray⟩) (.string ⟨b.toArray⟩) : Sem Value).run P w = .ok v w ∧ VRel ρ x v := by
  unfold strOp at h
  cases op <;> simp only at h
  case add =>
    split at h
    · rename_i hc
      rw [ble_iff] at hc
      cases h
      have e1 : (⟨a.toArray⟩ : ByteArray).size = a.length := by simp [ByteArray.size]
      have e2 : (⟨b.toArray⟩ : ByteArray).size = b.length := by simp [ByteArray.size]
      refine ⟨.string (⟨a.toArray⟩ ++ ⟨b.toArray⟩), ?_, ?_⟩
      · have : ¬ ((a.length + b.length : Nat) : Int) > IntKind.i64.max := by
          have : IntKind.i64.max = 9223372036854775807 := by decide
          omega
        simp only [Sem.run_bind, run_guard_str, Result.andThen_ok, Go.binOp, Op.stringOp, e1, e2, if_neg this, Sem.run_pure]
      · simp only [VRel]
        congr 1
    · cases h
  case eql => cases h; exact ⟨_, by simp only [Sem.run_bind, run_guard_str, Result.andThen_ok, Go.binOp, Op.stringOp, Sem.run_pure, toList_bytes]; rfl, by simp only [VRel]⟩
  case neq => cases h; exact ⟨_, by simp only [Sem.run_bind, run_guard_str, Result.andThen_ok, Go.binOp, Op.stringOp, Sem.run_pure, toList_bytes]; rfl, by simp only [VRel]⟩
  case lss => cases h; exact ⟨_, by simp only [Sem.run_bind, run_guard_str, Result.andThen_ok, Go.binOp, Op.stringOp, Sem.run_pure, toList_bytes, bytesLess_eq]; rfl, by simp only [VRel]⟩
  case leq => cases h; exact ⟨_, by simp only [Sem.run_bind, run_guard_str, Result.andThen_ok, Go.binOp, Op.stringOp, Sem.run_pure, toList_bytes, bytesLess_eq]; rfl, by simp only [VRel]⟩
  case gtr => cases h; exact ⟨_, by simp only [Sem.run_bind, run_guard_str, Result.andThen_ok, Go.binOp, Op.stringOp, Sem.run_pure, toList_bytes, bytesLess_eq]; rfl, by simp only [VRel]⟩
  case geq => cases h; exact ⟨_, by simp only [Sem.run_bind, run_guard_str, Result.andThen_ok, Go.binOp, Op.stringOp, Sem.run_pure, toList_bytes, bytesLess_eq]; rfl, by simp only [VRel]⟩
  all_goals cases h

end

end AM
end Go
