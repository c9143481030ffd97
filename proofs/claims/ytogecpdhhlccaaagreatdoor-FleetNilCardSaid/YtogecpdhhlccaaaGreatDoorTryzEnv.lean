/-
  The seat's program for the abstract machine: what is known of its types, its functions and what it calls outside.
-/
import Derived.Test.YtogecpdhhlccaaaGreatDoorAmEnds2
import Derived.Test.YtogecpdhhlccaaaGreatDoorAmPlain
import Derived.KernelRfl
import Derived.Test.YtogecpdhhlccaaaGreatDoorProg
namespace Go.AM
open Go.Proofs

def plainZ (t : TypeId) : Option (List CellKind) :=
  bif Nat.beq t 22 then some (List.replicate 6 .int)
  else bif Nat.beq t 208 then some [.str, .int, .int, .int, .int, .int, .int]
  else bif Nat.beq t 167 then some [.int, .int]
  else bif Nat.beq t 45 then some [.int, .int]
  else none

def keysZ (t : TypeId) : Bool := bif Nat.beq t 167 then true else Nat.beq t 45

def extZ (f : FuncId) : Option Ext := match f with
  | 0 => none
  | _ => none

noncomputable def envZ (con : FuncId → Bool) : Env :=
  { S := Sig.of Tryz.prog plainZ keysZ, fn := fun f => Tryz.prog.funcs[f]?, ext := extZ, glob := fun _ => none, con := con }

theorem plainZ_cases {t : TypeId} {ks : List CellKind} (h : plainZ t = some ks) : (t = 22 ∧ ks = List.replicate 6 .int) ∨ (t = 208 ∧ ks = [.str, .int, .int, .int, .int, .int, .int]) ∨ (t = 167 ∧ ks = [.int, .int]) ∨ (t = 45 ∧ ks = [.int, .int]) := by
  unfold plainZ at h
  cases h1 : Nat.beq t 22 with
  | true => rw [h1, cond_true] at h; cases h; exact .inl ⟨Nat.eq_of_beq_eq_true h1, rfl⟩
  | false =>
    rw [h1, cond_false] at h
    cases h2 : Nat.beq t 208 with
    | true => rw [h2, cond_true] at h; cases h; exact .inr (.inl ⟨Nat.eq_of_beq_eq_true h2, rfl⟩)
    | false =>
      rw [h2, cond_false] at h
      cases h3 : Nat.beq t 167 with
      | true => rw [h3, cond_true] at h; cases h; exact .inr (.inr (.inl ⟨Nat.eq_of_beq_eq_true h3, rfl⟩))
      | false =>
        rw [h3, cond_false] at h
        cases h4 : Nat.beq t 45 with
        | true => rw [h4, cond_true] at h; cases h; exact .inr (.inr (.inr ⟨Nat.eq_of_beq_eq_true h4, rfl⟩))
        | false => rw [h4] at h; cases h

theorem keysZ_cases {t : TypeId} (h : keysZ t = true) : t = 167 ∨ t = 45 := by
  unfold keysZ at h
  cases h1 : Nat.beq t 167 with
  | true => exact .inl (Nat.eq_of_beq_eq_true h1)
  | false => rw [h1, cond_false] at h; exact .inr (Nat.eq_of_beq_eq_true h)

theorem intIs : KindIs Tryz.prog 3 .int := ⟨_, Tryz.underlying3⟩

theorem fields_of {P : Program} {t : TypeId} {fs : Array Go.Field} (h : P.underlying t = some (.struct fs)) : P.fieldsOf t = fs := by
  unfold Program.fieldsOf; rw [h]

theorem struct_of {P : Program} {t : TypeId} {fs : Array Go.Field} (h : P.underlying t = some (.struct fs)) : P.underlying t = some (.struct (P.fieldsOf t)) := by
  rw [fields_of h]; exact h

theorem infoZ3 : Tryz.prog.info? 3 = some Tryz.t3 := by kernel_rfl
theorem oneZ3 : Tryz.prog.cellsOf 3 = 1 := by kernel_rfl

theorem plainZ_ok : ∀ t ks, plainZ t = some ks → PlainAt Tryz.prog t ks := by
  intro t ks h
  rcases plainZ_cases h with ⟨rfl, rfl⟩ | ⟨rfl, rfl⟩ | ⟨rfl, rfl⟩ | ⟨rfl, rfl⟩
  · exact plain_array Tryz.underlying22 intIs infoZ3 oneZ3
  · refine plain_struct (struct_of Tryz.underlying208) Tryz.stoodInHeld208 ?_
    rw [fields_of Tryz.underlying208]
    exact ⟨rfl, by decide, Tryz.underlying9, rfl, by decide, intIs, rfl, by decide, intIs, rfl, by decide, intIs, rfl, by decide, intIs, rfl, by decide, intIs, rfl, by decide, intIs, trivial⟩
  · refine plain_struct (struct_of Tryz.underlying167) Tryz.stoodInHeld167 ?_
    rw [fields_of Tryz.underlying167]
    exact ⟨rfl, by decide, intIs, rfl, by decide, intIs, trivial⟩
  · refine plain_struct (struct_of Tryz.underlying45) Tryz.stoodInHeld45 ?_
    rw [fields_of Tryz.underlying45]
    exact ⟨rfl, by decide, intIs, rfl, by decide, intIs, trivial⟩

theorem sigZ : SigOK Tryz.prog (Sig.of Tryz.prog plainZ keysZ) := by
  refine Sig.of_ok (fun t ks h => ?_) plainZ_ok fun t fs h hu i f hi => ?_
  · rcases plainZ_cases h with ⟨rfl, _⟩ | ⟨rfl, _⟩ | ⟨rfl, _⟩ | ⟨rfl, _⟩
    · exact Tryz.eqGuardType22
    · exact Tryz.eqGuardType208
    · exact Tryz.eqGuardType167
    · exact Tryz.eqGuardType45
  · rcases keysZ_cases h with rfl | rfl
    · cases (Tryz.underlying167.symm.trans hu)
      match i, hi with
      | 0, hi => cases hi; exact ⟨rfl, .inr (.inl ⟨_, Tryz.underlying3⟩)⟩
      | 1, hi => cases hi; exact ⟨rfl, .inr (.inl ⟨_, Tryz.underlying3⟩)⟩
      | n + 2, hi => simp at hi
    · cases (Tryz.underlying45.symm.trans hu)
      match i, hi with
      | 0, hi => cases hi; exact ⟨rfl, .inr (.inl ⟨_, Tryz.underlying3⟩)⟩
      | 1, hi => cases hi; exact ⟨rfl, .inr (.inl ⟨_, Tryz.underlying3⟩)⟩
      | n + 2, hi => simp at hi

theorem namesZ : (Tryz.prog.funcs.toList.all fun fn => fn.body.isNone || !(fn.name == "runtime.NumGoroutine")) = true := by kernel_rfl

theorem envZ_ok (con : FuncId → Bool) (ρ : Places) : EnvOK Tryz.prog (envZ con) ρ where
  sig := sigZ
  fn f fn h := h
  name f fn h hb := by
    have hm : fn ∈ Tryz.prog.funcs.toList := Array.mem_toList_iff.2 (Array.mem_of_getElem? h)
    have := List.all_eq_true.1 namesZ fn hm
    intro e
    rw [e] at this
    cases hbb : fn.body with
    | none => exact hb hbb
    | some c => simp [hbb] at this
  ext f e fn h := by
    unfold envZ extZ at h
    simp only at h
    split at h <;> cases h
  glob g x h := by cases h
  mixed := by kernel_rfl

end Go.AM
