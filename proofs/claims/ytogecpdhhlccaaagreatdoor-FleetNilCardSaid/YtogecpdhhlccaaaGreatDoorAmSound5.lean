/-
  An abstract machine over the model's code: its operations against the model's, the fifth part.
-/
import Derived.Test.YtogecpdhhlccaaaGreatDoorAmSound4
namespace Go
namespace AM
open Go.RowKit (Below)

section
variable {P : Program} {S : Sig} (hS : SigOK P S) {ρ : Places} {w0 w : World} {H : AHeap} (hH : HRel ρ w0 H w)

include hS in
set_option maxHeartbeats 1000000 in
theorem eql_sound {t : TypeId} {ox oy : Operand} {x y : AV} {v u : Value} {b : Bool} (h : equal S t x y = some b) (hv : VRel ρ x v) (hu : VRel ρ y u) :
    (∀ k a j c, ¬ (x = .int k a ∧ y = .int j c)) → (∀ a c, ¬ (x = .str a ∧ y = .str c)) →
    (do eqGuard .eql t ox oy v u; Go.binOp .eql t v u : Sem Value).run P w = .ok (.bool b) w ∧ (do eqGuard .neq t ox oy v u; Go.binOp .neq t v u : Sem Value).run P w = .ok (.bool !b) w := by
  intro hni hns
  have he := equal_sound hS (w := w) h hv hu
  unfold equal at h
  split at h
  · split at h
    · simp only [VRel] at hv hu; subst hv hu; constructor <;> simp [eqGuard, Go.binOp, he]
    · cases h
  · split at h
    · exact absurd ⟨rfl, rfl⟩ (hni _ _ _ _)
    · cases h
  · split at h
    · exact absurd ⟨rfl, rfl⟩ (hns _ _)
    · cases h
  · split at h
    · simp only [VRel] at hv hu; subst hv hu; constructor <;> simp [eqGuard, Go.binOp, he]
    · simp only [VRel] at hv hu; obtain ⟨p, _, rfl⟩ := hu; subst hv; constructor <;> simp [eqGuard, Go.binOp, he]
    · simp only [VRel] at hv hu; obtain ⟨p, _, rfl⟩ := hv; subst hu; constructor <;> simp [eqGuard, Go.binOp, he]
    · simp only [VRel] at hv hu; obtain ⟨p, _, rfl⟩ := hv; obtain ⟨q, _, rfl⟩ := hu; constructor <;> simp [eqGuard, Go.binOp, he]
    · cases h
  · split at h
    · simp only [VRel] at hv hu; subst hv hu; constructor <;> simp [eqGuard, Go.binOp, he]
    · simp only [VRel] at hv hu; obtain ⟨p, a, c, _, rfl, _⟩ := hu; subst hv; constructor <;> simp [eqGuard, Go.binOp, he]
    · simp only [VRel] at hv hu; obtain ⟨p, a, c, _, rfl, _⟩ := hv; subst hu; constructor <;> simp [eqGuard, Go.binOp, he]
    · cases h
  · split at h
    · simp only [VRel] at hv hu; subst hv hu; constructor <;> simp [eqGuard, Go.binOp, he]
    · simp only [VRel] at hv hu; obtain ⟨p, _, rfl⟩ := hu; subst hv; constructor <;> simp [eqGuard, Go.binOp, he]
    · simp only [VRel] at hv hu; obtain ⟨p, _, rfl⟩ := hv; subst hu; constructor <;> simp [eqGuard, Go.binOp, he]
    · cases h
  · split at h
    · simp only [VRel] at hv hu; subst hv hu; constructor <;> simp [eqGuard, Go.binOp, he]
    · simp only [VRel] at hv hu; obtain ⟨p, _, rfl⟩ := hu; subst hv; constructor <;> simp [eqGuard, Go.binOp, he]
    · simp only [VRel] at hv hu; obtain ⟨p, _, rfl⟩ := hu; subst hv; constructor <;> simp [eqGuard, Go.binOp, he]
    · simp only [VRel] at hv hu; obtain ⟨p, _, rfl⟩ := hv; subst hu; constructor <;> simp [eqGuard, Go.binOp, he]
    · simp only [VRel] at hv hu; obtain ⟨p, _, rfl⟩ := hv; subst hu; constructor <;> simp [eqGuard, Go.binOp, he]
    · cases h
  · split at h
    · simp only [VRel] at hv hu; obtain ⟨p, _, rfl⟩ := hu; subst hv; constructor <;> simp [eqGuard, Go.binOp, he]
    · simp only [VRel] at hv hu; obtain ⟨p, _, rfl⟩ := hv; subst hu; constructor <;> simp [eqGuard, Go.binOp, he]
    · cases h
  · split at h
    · split at h
      · rename_i ks hp
        simp only [VRel] at hv hu
        obtain ⟨vs, hvs, rfl⟩ := hv
        obtain ⟨us, hus, rfl⟩ := hu
        have hg := hS.guard t ks hp
        constructor <;> simp [eqGuard, Go.binOp, he, hg]
      · cases h
    · cases h
  · cases h

theorem const_of {x : Operand} (h : isConst x = true) : ∃ v, x = .const v := by
  cases x with
  | const v => exact ⟨v, rfl⟩
  | _ => simp [isConst] at h

include hS in
theorem eqlOp_sound {t : TypeId} {ox oy : Operand} {x y z : AV} {v u : Value} (h : eqlOp S t ox oy x y = some z) (hv : VRel ρ x v) (hu : VRel ρ y u) :
    ∃ b, z = .bool b ∧ (do eqGuard .eql t ox oy v u; Go.binOp .eql t v u : Sem Value).run P w = .ok (.bool b) w ∧ (do eqGuard .neq t ox oy v u; Go.binOp .neq t v u : Sem Value).run P w = .ok (.bool !b) w := by
  unfold eqlOp at h
  split at h
  · simp only [VRel] at hv hu; subst hv hu
    split at h
    · rename_i ms hd
      split at h
      · rename_i hc
        cases h
        refine ⟨true, rfl, ?_⟩
        obtain ⟨d, hd0⟩ : ∃ d, (10000 : Nat) = d + 1 := ⟨9999, rfl⟩
        have he : (Op.equal t .nilIface .nilIface).run P w = .ok true w := by
          unfold Op.equal Op.maxDepth
          rw [hd0]
          simp [Op.equalIn, run_und hS w hd]
        rw [Bool.or_eq_true] at hc
        rcases hc with hc | hc
        · obtain ⟨c, rfl⟩ := const_of hc
          constructor <;> simp [eqGuard, Go.binOp, he]
        · obtain ⟨c, rfl⟩ := const_of hc
          constructor <;> simp [eqGuard, Go.binOp, he]
      · cases h
    · cases h
  · cases h
  · cases h
  · rename_i h1 h2 h3
    split at h
    · rename_i b he
      cases h
      refine ⟨b, rfl, eql_sound hS he hv hu ?_ ?_⟩
      · rintro k a j c ⟨rfl, rfl⟩
        first | exact h1 _ _ rfl | exact h2 _ _ rfl | exact h3 _ _ rfl
      · rintro a c ⟨rfl, rfl⟩
        first | exact h1 _ rfl | exact h2 _ rfl | exact h3 _ rfl
    · cases h

include hS in
theorem binOp_sound {op : BinOp} {t : TypeId} {ox oy : Operand} {x y z : AV} {v u : Value} (h : binOp S op t ox oy x y = some z) (hv : VRel ρ x v) (hu : VRel ρ y u) :
    ∃ r, (do eqGuard op t ox oy v u; Go.binOp op t v u : Sem Value).run P w = .ok r w ∧ VRel ρ z r := by
  unfold binOp at h
  split at h
  · simp only [VRel] at hv hu; subst hv hu; exact shift_sound (.inl rfl) h
  · simp only [VRel] at hv hu; subst hv hu; exact shift_sound (.inr rfl) h
  · simp only [VRel] at hv hu; subst hv hu
    split at h
    · rename_i e; subst e; exact intOp_sound h
    · cases h
  · simp only [VRel] at hv hu; subst hv hu; exact strOp_sound h
  · obtain ⟨b, rfl, h1, _⟩ := eqlOp_sound hS (w := w) h hv hu
    exact ⟨.bool b, h1, by simp only [VRel]⟩
  · split at h
    · rename_i b he
      cases h
      obtain ⟨c, hc, _, h2⟩ := eqlOp_sound hS (w := w) he hv hu
      cases hc
      exact ⟨.bool !b, h2, by simp only [VRel]⟩
    · cases h
  · cases h

theorem unOp_sound {op : UnOp} {x z : AV} {v : Value} (h : unOp op x = some z) (hv : VRel ρ x v) : ∃ r, (Op.unary op v).run P w = .ok r w ∧ VRel ρ z r := by
  unfold unOp at h
  split at h
  · simp only [VRel] at hv; subst hv
    simp only [intOp] at h; cases h
    exact ⟨_, by simp only [Op.unary, Op.intArith, Sem.run_pure]; rfl, by simp only [VRel]⟩
  · simp only [VRel] at hv; subst hv
    simp only [intOp] at h; cases h
    exact ⟨_, by simp only [Op.unary, Op.intBits, Sem.run_pure]; rfl, by simp only [VRel]⟩
  · simp only [VRel] at hv; subst hv
    cases h
    exact ⟨_, by simp [Op.unary]; rfl, by simp only [VRel]⟩
  · cases h

/-- The bytes of cells. -/
theorem bytesOf_run : ∀ {cs : List AV} {bs : List UInt8} {vs : List Value}, bytesOf cs = some bs → VRelL ρ cs vs → ∀ acc : ByteArray,
    (forIn (m := Sem) vs acc fun c s => match c with
      | .int .u8 n => pure (ForInStep.yield (s.push (UInt8.ofNat n.toNat)))
      | _ => do
        stuck "bytesToString: byte expected"
        pure (ForInStep.yield s)).run P w = .ok ⟨acc.data ++ bs.toArray⟩ w
  | [], bs, vs, h, hv, acc => by
    simp only [bytesOf] at h; cases h
    simp only [VRelL] at hv; subst hv
    simp
  | x :: cs, bs, vs, h, hv, acc => by
    obtain ⟨v, rest, rfl, hx, hr⟩ := hv.uncons
    unfold bytesOf at h
    split at h
    · rename_i e; cases e
    · rename_i n r e
      cases e
      split at h
      · rename_i bs' hb
        cases h
        simp only [VRel] at hx
        subst hx
        simp only [List.forIn_cons, Sem.run_bind, Sem.run_pure, Result.andThen_ok]
        rw [bytesOf_run hb hr]
        simp [ByteArray.push]
      · cases h
    · cases h

theorem byteCells_rel : ∀ s : List UInt8, VRelL ρ (byteCells s) (s.map fun b => Value.int .u8 (b.toNat : Int))
  | [] => by simp only [byteCells, List.map_nil]; exact .nil
  | b :: s => by
    have := byteCells_rel s
    simp only [byteCells, List.map_cons] at this ⊢
    exact .cons (by simp only [VRel]) this

theorem run_stringToBytes (s : List UInt8) (e : TypeId) (w : World) : ∃ cap w', s.length ≤ cap ∧ (Conv.stringToBytes e ⟨s.toArray⟩).run P w = .ok (.slice (some ⟨w.heap.size, 0, none⟩) s.length cap) w' ∧
    Added w (.cells ((s.map fun b => Value.int .u8 (b.toNat : Int)).toArray ++ Array.replicate (cap - s.length) (Value.int .u8 0)) e (cap, cap + 1)) w' := by
  have hsz : (⟨s.toArray⟩ : ByteArray).size = s.length := by simp [ByteArray.size]
  obtain ⟨cap, hcap⟩ : ∃ cap, (Question.appendCap s.length 0 e).cut (w.tape w.drawn (Question.appendCap s.length 0 e)) = cap := ⟨_, rfl⟩
  have hle : s.length ≤ cap := by rw [← hcap]; simp only [Question.cut]; omega
  obtain ⟨cs, hcs⟩ : ∃ cs, (s.map fun b => Value.int .u8 (b.toNat : Int)).toArray ++ Array.replicate (cap - s.length) (Value.int .u8 0) = cs := ⟨_, rfl⟩
  have hcsz : cs.size = cap := by rw [← hcs]; simp; omega
  have hcs' : (Array.map (fun b : UInt8 => Value.int .u8 (b.toNat : Int)) s.toArray) ++ Array.replicate (cap - s.length) (Value.int .u8 0) = cs := by rw [← hcs]; simp
  refine ⟨cap, (w.drew.alloc (.cells cs e)).freeze ⟨w.heap.size, cap, none⟩ 1, hle, ?_, ?_⟩
  · have hshape : (w.drew.alloc (.cells cs e)).shape? w.heap.size = some (e, cap) := by
      show (match (w.heap.push (.cells cs e))[w.heap.size]? with | some (.cells c elem _) => some (elem, c.size) | _ => none) = _
      simp [hcsz]
    simp only [Conv.stringToBytes, Sem.run_bind, run_choose, Question.forced, Bool.false_eq_true, if_false, Result.andThen_ok, hsz, hcap, newRow, run_newObj, Sem.run_pure, markStringish, run_shape, hcs']
    show ((match (w.drew.alloc (.cells cs e)).shape? w.heap.size with | some (_, n) => freeze ⟨w.heap.size, n, none⟩ 1 | x => pure PUnit.unit : Sem PUnit).run P (w.drew.alloc (.cells cs e))).andThen _ = _
    rw [hshape]
    rfl
  · rw [hcs]
    refine ⟨rfl, rfl, rfl, ?_, ?_, ?_⟩
    · simp [World.freeze]
    · show ((w.heap.push (.cells cs e)).modify w.heap.size _)[w.heap.size]? = _
      rw [Array.getElem?_modify, if_pos rfl]
      simp
    · intro k hk
      simp only [World.freeze, World.alloc, World.drew, Nat.one_ne_zero, if_false, Array.getElem?_modify]
      rw [if_neg (by omega), Array.getElem?_push, if_neg (by omega)]

include hS hH in
theorem convert_sound {src dst : TypeId} {x z : AV} {v : Value} {H' : AHeap} (h : convert S H src dst x = some (z, H')) (hv : VRel ρ x v) : ValOK P ρ w0 z H' (Go.convert src dst v) w := by
  unfold convert at h
  split at h
  · rename_i d k j n hs hd
    simp only [VRel] at hv; subst hv
    cases h
    refine .same hH (v := .int k (k.wrap n)) ?_ (by simp only [VRel])
    simp only [Go.convert, Sem.run_bind, run_und hS w hs, run_und hS w hd, Result.andThen_ok]
    cases d <;> simp [Conv.intToInt]
  · rename_i d s hs hd
    simp only [VRel] at hv; subst hv
    cases h
    refine .same hH (v := .string ⟨s.toArray⟩) ?_ (by simp only [VRel])
    simp only [Go.convert, Sem.run_bind, run_und hS w hs, run_und hS w hd, Result.andThen_ok]
    cases d <;> simp
  · rename_i d k n hs hd
    simp only [VRel] at hv; subst hv
    cases h
    refine .same hH (v := .string (Utf8.encode n)) ?_ (by simp only [VRel])
    simp only [Go.convert, Sem.run_bind, run_und hS w hs, run_und hS w hd, Result.andThen_ok]
    cases d <;> simp [Conv.intToString]
  · rename_i d e s hs hd
    simp only [VRel] at hv; subst hv
    split at h
    · rename_i he
      cases h
      have hrel := byteCells_rel (ρ := ρ) s
      obtain ⟨cap, w', hle, hrun, hadd⟩ := run_stringToBytes (P := P) s e w
      refine ⟨ρ.with H.next ⟨w.heap.size, 0, cap, Go.undef⟩, .slice (some ⟨w.heap.size, 0, none⟩) s.length cap, w', hH.le_with _, ?_, ?_, ?_⟩
      · simp only [Go.convert, Sem.run_bind, run_und hS w hs, run_und hS w hd, Result.andThen_ok, run_und hS w he]
        cases d <;> simp [hrun]
      · simp only [VRel]
        exact ⟨_, _, _, Places.with_same _ _ _, rfl, .inl ⟨rfl, hle, by decide, Nat.zero_le _, by simp⟩⟩
      · refine hH.new rfl ?_ hadd
        simp only [ORel]
        refine ⟨_, _, _, rfl, by simp; omega, by simp [byteCells]; omega, ⟨_, hrel, fun j hj => ?_⟩, fun _ j hj hk => ?_⟩
        · simp only [byteCells, List.length_map] at hj
          rw [Nat.zero_add, Array.getElem?_append_left (by simpa using hj)]
          simp
        · simp at hj; omega
    · cases h
  · rename_i e hs hd _ _
    split at h
    · rename_i he
      split at h
      · simp only [VRel] at hv; subst hv
        cases h
        refine .same hH (v := .string .empty) ?_ (by simp only [VRel]; rfl)
        simp [Go.convert, run_und hS w hs, run_und hS w hd, run_und hS w he, Conv.bytesToString]
      · rename_i r off len cap _ _
        split at h
        · rename_i cs hcs
          cases hb : bytesOf cs with
          | none => simp [hb] at h
          | some bs =>
            simp [hb] at h
            obtain ⟨rfl, rfl⟩ := h
            simp only [VRel] at hv
            obtain ⟨p, a, c, hp, rfl, hsl⟩ := hv
            obtain ⟨vs, hvs, hvl, hcl, hrun⟩ := cells_of hH hcs hp
            have hload : (loadCells a len).run P w = .ok vs.toArray w := by
              rcases hsl with ⟨rfl, _, _⟩ | ⟨rfl, _, _⟩
              · exact hrun P
              · have : vs = [] := List.length_eq_zero_iff.1 hvl
                subst this
                simp [loadCells, loadCellsFrom]
            refine .same hH (v := .string ⟨bs.toArray⟩) ?_ (by simp only [VRel])
            have hk := bytesOf_run (P := P) (w := w) hb hvs .empty
            simp only [Go.convert, Sem.run_bind, run_und hS w hs, run_und hS w hd, Result.andThen_ok, run_und hS w he, Conv.bytesToString, hload]
            rw [← Array.forIn_toList]
            refine (congrArg (fun r : Result ByteArray => r.andThen fun a w' => (pure (Value.string a) : Sem Value).run P w') hk).trans ?_
            simp
        · cases h
      · cases h
    · cases h
  · cases h

end

end AM
end Go
