/-
  An abstract machine over the model's code: its operations against the model's, the ninth part.
-/
import Derived.Test.YtogecpdhhlccaaaGreatDoorAmSound8
namespace Go
namespace AM
open Go.RowKit (Below)

/-- What a function without a text does. -/
def extSem : Ext → Array Value → Sem Value
  | .mapsClone => Extern.MapsClone.clone
  | .indexByteString => Extern.BytealgIndexByte.indexByte
  | .noEscape => Extern.AbiNoEscape.same

structure EnvOK (P : Program) (E : Env) (ρ : Places) : Prop where
  sig : SigOK P E.S
  fn : ∀ f fn, E.fn f = some fn → P.funcs[f]? = some fn
  name : ∀ f fn, E.fn f = some fn → fn.body ≠ none → fn.name ≠ "runtime.NumGoroutine"
  ext : ∀ f e fn, E.ext f = some e → E.fn f = some fn → fn.body = none → ∀ args w, (Go.callFunc f args).run P w = ((extSem e args).run P w).andThen fun v w' => .ok (.value v) w'
  glob : ∀ g x, E.glob g = some x → VRel ρ x (.pointer (some ⟨g, 0, none⟩))
  mixed : P.follows .mixedOrders = true

theorem EnvOK.mono {P : Program} {E : Env} {ρ σ : Places} (h : EnvOK P E ρ) (hle : ρ.le σ) : EnvOK P E σ :=
  ⟨h.sig, h.fn, h.name, h.ext, fun g x hg => (h.glob g x hg).mono hle, h.mixed⟩

/-- What an operation comes to. -/
def ResOK (P : Program) (ρ : Places) (w0 w : World) : ARes → AHeap → Sem Next → Prop
  | .val x, H', s => ∃ σ v w', ρ.le σ ∧ s.run P w = .ok (.value v) w' ∧ VRel σ x v ∧ HRel σ w0 H' w'
  | .skip, H', s => ∃ σ w', ρ.le σ ∧ s.run P w = .ok .skip w' ∧ HRel σ w0 H' w'
  | .enter f args, H', s => ∃ vs, s.run P w = .ok (.enter f vs.toArray) w ∧ VRelL ρ args vs ∧ HRel ρ w0 H' w
  | .round l args, H', s => ∃ p vs, ρ l = some p ∧ VRelL ρ args vs ∧ s.run P w = (Instr.yield p.blk vs.toArray).run P w ∧ HRel ρ w0 H' w
  | .any l, _, s => ∃ x H', (x, H') ∈ l ∧ ∃ σ v w', ρ.le σ ∧ s.run P w = .ok (.value v) w' ∧ VRel σ x v ∧ HRel σ w0 H' w'

section
variable {P : Program} {E : Env} {ρ : Places} (hE : EnvOK P E ρ) {w0 w : World} {H : AHeap} (hH : HRel ρ w0 H w)

/-- A value, as an operation's. -/
theorem ValOK.res {x : AV} {H' : AHeap} {s : Sem Value} (h : ValOK P ρ w0 x H' s w) : ResOK P ρ w0 w (.val x) H' (do pure (.value (← s))) := by
  obtain ⟨σ, v, w', hle, hrun, hx, hh⟩ := h
  exact ⟨σ, v, w', hle, by simp [hrun], hx, hh⟩

theorem UnitOK.res {H' : AHeap} {s : Sem Unit} (h : UnitOK P ρ w0 H' s w) : ResOK P ρ w0 w .skip H' (do s; pure .skip) := by
  obtain ⟨σ, w', hle, hrun, hh⟩ := h
  exact ⟨σ, w', hle, by simp [hrun], hh⟩

theorem AnyOK.res {l : List (AV × AHeap)} {H' : AHeap} {s : Sem Value} (h : AnyOK P ρ w0 l s w) : ResOK P ρ w0 w (.any l) H' (do pure (.value (← s))) := by
  obtain ⟨x, H1, hm, σ, v, w', hle, hrun, hx, hh⟩ := h
  exact ⟨x, H1, hm, σ, v, w', hle, by simp [hrun], hx, hh⟩

include hH in
theorem ofRun {x : AV} {v : Value} {s : Sem Value} (h : s.run P w = .ok v w) (hx : VRel ρ x v) : ResOK P ρ w0 w (.val x) H (do pure (.value (← s))) :=
  (ValOK.same hH h hx).res

theorem ResOK.congr {r : ARes} {H' : AHeap} {s s' : Sem Next} (h : ResOK P ρ w0 w r H' s) (e : s'.run P w = s.run P w) : ResOK P ρ w0 w r H' s' := by
  cases r <;> simp only [ResOK] at h ⊢ <;> rw [e] <;> exact h

include hE hH in
theorem makeSlice_sound {t : TypeId} {e : TypeId} {n b : Nat} {z : AV} {kl kc : IntKind} {l c : Int} (hu : E.S.und t = some (.slice e)) (hn : E.S.size e = some n) (hb : E.S.bytes e = some b) (hz : E.S.zero e = some z)
    (h : 0 ≤ l ∧ l ≤ c ∧ 0 < n ∧ c.toNat * b ≤ 17592186044416 ∧ c.toNat ≤ 17592186044416 ∧ z.cells.length = n) :
    ValOK P ρ w0 (.slice H.next 0 l.toNat (.exact c.toNat)) (H.new (.row (repeated c.toNat z.cells) true)) (Instr.makeSlice t (.int kl l) (.int kc c)) w := by
  obtain ⟨h0, hlc, hpos, hbytes, hmax, hzl⟩ := h
  obtain ⟨zv, hzv, hr⟩ := run_zero hE.sig w hz
  have hc := (hr ρ).cells
  have hcl := hc.length
  simp only [Array.length_toList] at hcl
  obtain ⟨us, hus, hul, hug⟩ := VRelL.repeated c.toNat hc
  simp only [Array.length_toList] at hul hug
  obtain ⟨i, hi, hib⟩ := hE.sig.bytes e b hb
  have hmax64 : IntKind.i64.max = 9223372036854775807 := by decide
  have wl : IntKind.i64.wrap l = l := by
    simp [IntKind.wrap, IntKind.bits, IntKind.signed]; omega
  have wc : IntKind.i64.wrap c = c := by
    simp [IntKind.wrap, IntKind.bits, IntKind.signed]; omega
  have heq : (if c.toNat * n = 0 then #[] else (Array.range (c.toNat * n)).map (zv.cells[· % zv.cells.size]!)) = us.toArray := by
    apply Array.ext_getElem?
    intro i
    have e1 : us.toArray[i]? = us[i]? := by simp
    rw [e1, hug i, hcl, hzl]
    by_cases hz0 : c.toNat * n = 0
    · simp [hz0]
    · rw [if_neg hz0]
      by_cases hlt : i < c.toNat * n
      · rw [if_pos hlt]
        have hm : i % n < zv.cells.size := by rw [hcl, hzl]; exact Nat.mod_lt _ hpos
        simp [hlt, hm]
      · rw [if_neg hlt]
        simp [hlt]
  refine ⟨_, .slice (some ⟨w.heap.size, 0, none⟩) l.toNat c.toNat, _, hH.le_with _, ?_, ?_, new_row hH hus e⟩
  · have hbc : ((b : Int) * c) = ((c.toNat * b : Nat) : Int) := by
      rw [Int.natCast_mul, Int.toNat_of_nonneg (by omega), Int.mul_comm]
    have hbl : ((b : Int) * l) ≤ ((c.toNat * b : Nat) : Int) := by
      rw [← hbc]; exact Int.mul_le_mul_of_nonneg_left hlc (by omega)
    have t1 : (c < 0 || (b : Int) * c > 2 ^ 48) = false := by
      simp only [Bool.or_eq_false_iff, decide_eq_false_iff_not]; omega
    simp only [Instr.makeSlice, Sem.run_bind, run_und hE.sig w hu, Result.andThen_ok, asInt, asIntOf, Sem.run_pure, run_info w hi, hib, wl, wc, t1, Bool.false_or]
    have t2 : (decide (l < 0) || decide (l > c)) = false := by
      simp only [Bool.or_eq_false_iff, decide_eq_false_iff_not]; omega
    simp only [t2, Bool.false_eq_true, if_false, Sem.run_ite, Sem.run_pure, Result.andThen_ok, run_askRoom, run_size hE.sig w hn, Sem.run_bind]
    by_cases hz0 : c.toNat * n = 0
    · rw [if_pos hz0] at heq
      have e0 : (Array.map (fun x => (#[] : Array Value)[x % (#[] : Array Value).size]!) (Array.range (c.toNat * n))) = us.toArray := by rw [hz0, ← heq]; simp
      rw [if_pos hz0, e0]
      simp [newRow]
    · rw [if_neg hz0] at heq
      rw [if_neg hz0]
      simp only [hzv, Result.andThen_ok, heq]
      simp [newRow]
  · simp only [VRel]
    exact ⟨_, _, _, Places.with_same _ _ _, rfl, .inl ⟨rfl, by omega, rfl⟩⟩

include hE hH in
theorem copy_sound {t u ty e : TypeId} {n m : Nat} {x : AV} {cs : List AV} {vx : Value} {r off len : Nat} {cap : Cap} {vd : Value} {H' : AHeap} (ht : E.S.und t = some (.slice e)) (hn : E.S.size e = some n) (he : elems H n x = some (m, cs))
    (hst : H.store r off (cs.take (min m len * n)) = some H') (hd : VRel ρ (.slice r off len cap) vd) (hx : VRel ρ x vx) : ValOK P ρ w0 (.int .i64 (min m len : Nat)) H' (Builtin.copy_ #[t, u] ty #[vd, vx]) w := by
  obtain ⟨hcl, hlen, hfirst⟩ := elems_sound hH he hx
  simp only [VRel] at hd
  obtain ⟨p, a, c, hp, rfl, hs⟩ := hd
  obtain ⟨vs, hvs, hvl, hrun⟩ := hfirst (min m len) (Nat.min_le_left _ _)
  have hmin : Nat.min m len = min m len := rfl
  rcases hs with ⟨rfl, _, _⟩ | ⟨rfl, _, _⟩
  · obtain ⟨w', hw', hst'⟩ := store_sound hH hst hp hvs
    refine ⟨ρ, .int .i64 (min m len : Nat), w', ρ.le_refl, ?_, by simp only [VRel], hw'⟩
    simp only [Builtin.copy_, List.getElem?_toArray, List.getElem?_cons_zero, List.getElem?_cons_succ, Sem.run_bind, run_und hE.sig w ht, Result.andThen_ok, hlen P, run_size hE.sig w hn, hmin, hrun P, hst' P, Sem.run_pure, goInt]
  · have h0 : min m 0 = 0 := Nat.min_zero m
    rw [h0] at hst hvl hrun ⊢
    simp only [Nat.zero_mul, List.take_zero] at hst hvl
    have hnil : vs = [] := List.length_eq_zero_iff.1 hvl
    subst hnil
    have hw' : HRel ρ w0 H' w := by
      obtain ⟨w', hw', hst'⟩ := store_sound hH hst hp (VRelL.nil (ρ := ρ))
      have := hst' default
      simp only [storeCells, Sem.run_pure] at this
      cases this
      exact hw'
    refine ⟨ρ, .int .i64 (0 : Nat), w, ρ.le_refl, ?_, by simp only [VRel], hw'⟩
    have hm0 : Nat.min m 0 = 0 := Nat.min_zero m
    simp only [Builtin.copy_, List.getElem?_toArray, List.getElem?_cons_zero, List.getElem?_cons_succ, Sem.run_bind, run_und hE.sig w ht, Result.andThen_ok, hlen P, run_size hE.sig w hn, hm0, hrun P, storeCells, Sem.run_pure, goInt]

theorem indexByteL_eq (c : UInt8) : ∀ (s : List UInt8) (k : Nat), indexByteL c s k = match s.findIdx? (fun b => b == c) with | some i => ((k + i : Nat) : Int) | none => -1
  | [], k => by simp [indexByteL]
  | b :: s, k => by
    simp only [indexByteL, List.findIdx?_cons]
    by_cases h : b == c
    · simp [h]
    · rw [if_neg h, if_neg h, indexByteL_eq c s (k + 1)]
      cases s.findIdx? (fun b => b == c) with
      | none => simp
      | some i =>
        simp only [Option.map_some]
        congr 1
        omega

theorem find_range (c : UInt8) (s : List UInt8) : ((List.range s.length).find? fun i => s[i]! == c) = s.findIdx? (fun b => b == c) := by
  cases h : s.findIdx? (fun b => b == c) with
  | none =>
    rw [List.find?_eq_none]
    intro i hi
    rw [List.findIdx?_eq_none_iff] at h
    have hlt : i < s.length := by simpa using hi
    have := h s[i] (List.getElem_mem hlt)
    simpa [hlt] using this
  | some i =>
    rw [List.findIdx?_eq_some_iff_getElem] at h
    obtain ⟨hlt, h1, h2⟩ := h
    rw [List.find?_range_eq_some]
    refine ⟨by simpa [hlt] using h1, by simpa using hlt, fun j hj => ?_⟩
    have := h2 j hj
    have hjl : j < s.length := by omega
    simpa [hjl] using this

theorem clone_eq (t : TypeId) (r : Nat) : Extern.MapsClone.clone #[.iface t (.map (some r))] = (do
    let .map entries clock ← getObj r | stuck "maps.clone: a map expected"
    pure (.iface t (.map (some (← newObj (.map entries clock)))))) := rfl

theorem indexByte_eq (b c : Value) : Extern.BytealgIndexByte.indexByte #[b, c] = (do
    let b ← Extern.Bytes.bytesOf b
    let c ← Extern.Bytes.asByte c
    match (List.range b.size).find? fun i => b[i]! == c with
    | some i => pure (goInt i)
    | none => pure (goInt (-1))) := rfl

theorem same_eq (v : Value) : Extern.AbiNoEscape.same #[v] = pure v := rfl

include hH in
theorem ext_sound {e : Ext} {args : List AV} {vs : List Value} {x : AV} {H' : AHeap} (h : callExt H e args = some (.val x, H')) (hv : VRelL ρ args vs) : ValOK P ρ w0 x H' (extSem e vs.toArray) w := by
  unfold callExt at h
  split at h
  · rename_i t r
    obtain ⟨v, rest, rfl, hv1, hv2⟩ := hv.uncons
    simp only [VRelL] at hv2; subst hv2
    simp only [VRel] at hv1
    obtain ⟨y, ⟨p, hp, rfl⟩, rfl⟩ := hv1
    split at h
    · rename_i es clock hg
      cases h
      obtain ⟨fs, hb, hes, hbase⟩ := map_of hH hg hp
      have hget := run_getObj' (P := P) hb (fun _ _ _ e => by cases e)
      refine ⟨ρ.with H.next ⟨w.heap.size, 0, 0, Go.undef⟩, .iface t (.map (some w.heap.size)), w.alloc (.map fs.toArray clock), hH.le_with _, ?_, ?_, ?_⟩
      · show (Extern.MapsClone.clone #[.iface t (.map (some p.blk))]).run P w = _
        rw [clone_eq]
        simp [hget]
      · simp only [VRel]; exact ⟨_, ⟨_, Places.with_same _ _ _, rfl⟩, rfl⟩
      · exact hH.new rfl (by simp only [ORel]; exact ⟨trivial, fs, rfl, hes⟩) (Added.alloc w _)
    · cases h
  · rename_i s c
    cases h
    obtain ⟨v, rest, rfl, hv1, hv2⟩ := hv.uncons
    obtain ⟨u, rest, rfl, hu1, hu2⟩ := hv2.uncons
    simp only [VRelL] at hu2; subst hu2
    simp only [VRel] at hv1 hu1; subst hv1 hu1
    refine .same hH (v := .int .i64 (indexByteL (UInt8.ofNat c.toNat) s 0)) ?_ (by simp only [VRel])
    have hsz : (⟨s.toArray⟩ : ByteArray).size = s.length := by simp [ByteArray.size]
    have hget : ∀ i, (⟨s.toArray⟩ : ByteArray)[i]! = s[i]! := fun i => by
      by_cases hlt : i < s.length
      · have hlt2 : i < (⟨s.toArray⟩ : ByteArray).size := by omega
        rw [getElem!_pos (⟨s.toArray⟩ : ByteArray) i hlt2, getElem!_pos s i hlt]
        exact Eq.refl _
      · have hlt2 : ¬ i < (⟨s.toArray⟩ : ByteArray).size := by omega
        rw [getElem!_neg (⟨s.toArray⟩ : ByteArray) i hlt2, getElem!_neg s i hlt]
    have hfind : ((List.range (⟨s.toArray⟩ : ByteArray).size).find? fun i => (⟨s.toArray⟩ : ByteArray)[i]! == c.toNat.toUInt8) = s.findIdx? (fun b => b == UInt8.ofNat c.toNat) := by
      rw [hsz, ← find_range]
      congr 1
      funext i
      rw [hget i]
    rw [indexByteL_eq]
    show (Extern.BytealgIndexByte.indexByte #[.string ⟨s.toArray⟩, .int .u8 c]).run P w = _
    rw [indexByte_eq]
    simp only [Extern.Bytes.bytesOf, Extern.Bytes.asByte, Sem.run_bind, Sem.run_pure, Result.andThen_ok, hfind]
    cases s.findIdx? (fun b => b == UInt8.ofNat c.toNat) with
    | none => simp [goInt]
    | some i => simp [goInt]
  · rename_i y
    cases h
    obtain ⟨v, rest, rfl, hv1, hv2⟩ := hv.uncons
    simp only [VRelL] at hv2; subst hv2
    exact .same hH (v := v) (by show (Extern.AbiNoEscape.same #[v]).run P w = _; rw [same_eq]; rfl) hv1
  · cases h

theorem callExt_val {e : Ext} {args : List AV} {r : ARes} {H' : AHeap} (h : callExt H e args = some (r, H')) : ∃ x, r = .val x := by
  unfold callExt at h
  split at h
  · split at h
    · cases h; exact ⟨_, rfl⟩
    · cases h
  · cases h; exact ⟨_, rfl⟩
  · cases h; exact ⟨_, rfl⟩
  · cases h

include hE hH in
theorem callFunc_sound {f : FuncId} {args : List AV} {vs : List Value} {r : ARes} {H' : AHeap} (h : callFunc E H f args = some (r, H')) (hv : VRelL ρ args vs) : ResOK P ρ w0 w r H' (Go.callFunc f vs.toArray) := by
  unfold callFunc at h
  split at h
  · rename_i fn hfn
    split at h
    · rename_i c hb
      cases h
      refine ⟨vs, ?_, hv, hH⟩
      have hn := hE.name f fn hfn (by rw [hb]; simp)
      simp [Go.callFunc, hE.fn f fn hfn, hn, hb]
    · rename_i hb
      split at h
      · rename_i e he
        obtain ⟨x, rfl⟩ := callExt_val h
        obtain ⟨σ, v, w', hle, hrun, hx, hh⟩ := ext_sound (P := P) hH h hv
        exact ⟨σ, v, w', hle, by rw [hE.ext f e fn he hfn hb, hrun]; rfl, hx, hh⟩
      · cases h
  · cases h

include hE hH in
theorem invoke_sound {f : AV} {args : List AV} {vf : Value} {vs : Array Value} {r : ARes} {H' : AHeap} (h : invoke E H f args = some (r, H')) (hf : VRel ρ f vf) (hv : VRelL ρ args vs.toList) :
    ResOK P ρ w0 w r H' (do let d ← Deferred.ofValue vf vs; Go.invoke d.target d.args) := by
  unfold invoke at h
  split at h
  · rename_i g cs
    simp only [VRel] at hf
    obtain ⟨us, hus, rfl⟩ := hf
    have := callFunc_sound (w := w) hE hH h (hv.append hus)
    refine this.congr ?_
    have e : (vs.toList ++ us).toArray = vs ++ us.toArray := by apply Array.ext'; simp
    rw [e]
    simp [Deferred.ofValue, Go.invoke]
  · rename_i l
    cases h
    simp only [VRel] at hf
    obtain ⟨p, hp, rfl⟩ := hf
    refine ⟨p, vs.toList, hp, hv, ?_, hH⟩
    simp [Deferred.ofValue, Go.invoke]
  · cases h

end

end AM
end Go
