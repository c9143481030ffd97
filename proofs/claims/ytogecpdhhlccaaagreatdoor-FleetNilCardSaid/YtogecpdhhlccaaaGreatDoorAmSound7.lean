/-
  An abstract machine over the model's code: its operations against the model's, the seventh part: maps.
-/
import Derived.Test.YtogecpdhhlccaaaGreatDoorAmSound6
namespace Go
namespace AM
open Go.RowKit (Below)

section
variable {P : Program} {S : Sig} (hS : SigOK P S) {ρ : Places} {w0 w : World} {H : AHeap} (hH : HRel ρ w0 H w)

theorem EsRel.uncons {e : AV × AV × Nat} {es : List (AV × AV × Nat)} {fs : List MapEntry} (h : EsRel ρ (e :: es) fs) :
    ∃ f rest, fs = f :: rest ∧ VRel ρ e.1 f.key ∧ VRel ρ e.2.1 f.val ∧ f.born = e.2.2 ∧ EsRel ρ es rest := by
  obtain ⟨k, v, n⟩ := e
  simpa only [EsRel] using h

theorem EsRel.cons {e : AV × AV × Nat} {es : List (AV × AV × Nat)} {f : MapEntry} {fs : List MapEntry} (hk : VRel ρ e.1 f.key) (hv : VRel ρ e.2.1 f.val) (hn : f.born = e.2.2) (h : EsRel ρ es fs) : EsRel ρ (e :: es) (f :: fs) := by
  obtain ⟨k, v, n⟩ := e
  simp only [EsRel]
  exact ⟨f, fs, rfl, hk, hv, hn, h⟩

theorem EsRel.nil : EsRel ρ [] [] := by simp only [EsRel]

theorem EsRel.length : ∀ {es : List (AV × AV × Nat)} {fs : List MapEntry}, EsRel ρ es fs → fs.length = es.length
  | [], _, h => by simp only [EsRel] at h; subst h; rfl
  | e :: es, _, h => by
    obtain ⟨f, rest, rfl, _, _, _, hr⟩ := h.uncons
    simp [EsRel.length hr]

theorem EsRel.get : ∀ {es : List (AV × AV × Nat)} {fs : List MapEntry}, EsRel ρ es fs → ∀ {i : Nat} {e : AV × AV × Nat}, es[i]? = some e → ∃ f, fs[i]? = some f ∧ VRel ρ e.1 f.key ∧ VRel ρ e.2.1 f.val ∧ f.born = e.2.2
  | [], _, _, i, e, h => by simp at h
  | x :: es, _, h, i, e, he => by
    obtain ⟨f, rest, rfl, hk, hv, hn, hr⟩ := h.uncons
    cases i with
    | zero => simp at he; subst he; exact ⟨f, by simp, hk, hv, hn⟩
    | succ i => simp at he; simpa using EsRel.get hr he

theorem EsRel.append : ∀ {es : List (AV × AV × Nat)} {fs : List MapEntry} {es' : List (AV × AV × Nat)} {fs' : List MapEntry}, EsRel ρ es fs → EsRel ρ es' fs' → EsRel ρ (es ++ es') (fs ++ fs')
  | [], _, _, _, h, k => by simp only [EsRel] at h; subst h; simpa using k
  | e :: es, _, _, _, h, k => by
    obtain ⟨f, rest, rfl, hk, hv, hn, hr⟩ := h.uncons
    simp only [List.cons_append]
    exact .cons hk hv hn (EsRel.append hr k)

theorem EsRel.set : ∀ {es : List (AV × AV × Nat)} {fs : List MapEntry} (i : Nat) {e : AV × AV × Nat} {f : MapEntry}, EsRel ρ es fs → VRel ρ e.1 f.key → VRel ρ e.2.1 f.val → f.born = e.2.2 → EsRel ρ (es.set i e) (fs.set i f)
  | [], _, i, _, _, h, _, _, _ => by simp only [EsRel] at h; subst h; simp [EsRel.nil]
  | x :: es, _, i, _, _, h, hk, hv, hn => by
    obtain ⟨g, rest, rfl, gk, gv, gn, hr⟩ := h.uncons
    cases i with
    | zero => simp only [List.set_cons_zero]; exact .cons hk hv hn hr
    | succ i => simp only [List.set_cons_succ]; exact .cons gk gv gn (EsRel.set i hr hk hv hn)

theorem EsRel.erase : ∀ {es : List (AV × AV × Nat)} {fs : List MapEntry} (i : Nat), EsRel ρ es fs → EsRel ρ (es.eraseIdx i) (fs.eraseIdx i)
  | [], _, i, h => by simp only [EsRel] at h; subst h; simp [EsRel.nil]
  | x :: es, _, i, h => by
    obtain ⟨g, rest, rfl, gk, gv, gn, hr⟩ := h.uncons
    cases i with
    | zero => simpa using hr
    | succ i => simp only [List.eraseIdx_cons_succ]; exact .cons gk gv gn (EsRel.erase i hr)

theorem EsRel.filter {q : Nat → Bool} : ∀ {es : List (AV × AV × Nat)} {fs : List MapEntry}, EsRel ρ es fs → EsRel ρ (es.filter fun e => q e.2.2) (fs.filter fun f => q f.born)
  | [], _, h => by simp only [EsRel] at h; subst h; simp [EsRel.nil]
  | x :: es, _, h => by
    obtain ⟨g, rest, rfl, gk, gv, gn, hr⟩ := h.uncons
    simp only [List.filter_cons, gn]
    split
    · exact .cons gk gv gn (EsRel.filter hr)
    · exact EsRel.filter hr

theorem EsRel.mem : ∀ {es : List (AV × AV × Nat)} {fs : List MapEntry}, EsRel ρ es fs → ∀ {f : MapEntry}, f ∈ fs → ∃ e, e ∈ es ∧ VRel ρ e.1 f.key ∧ VRel ρ e.2.1 f.val ∧ f.born = e.2.2
  | [], _, h, f, hf => by simp only [EsRel] at h; subst h; simp at hf
  | x :: es, _, h, f, hf => by
    obtain ⟨g, rest, rfl, gk, gv, gn, hr⟩ := h.uncons
    rcases List.mem_cons.1 hf with rfl | hf
    · exact ⟨x, by simp, gk, gv, gn⟩
    · obtain ⟨e, he, r⟩ := EsRel.mem hr hf
      exact ⟨e, List.mem_cons_of_mem _ he, r⟩

theorem EsRel.find {q : Nat → Bool} : ∀ {es : List (AV × AV × Nat)} {fs : List MapEntry}, EsRel ρ es fs → ∀ {e : AV × AV × Nat}, es.find? (fun e => q e.2.2) = some e → ∃ f, fs.find? (fun f => q f.born) = some f ∧ VRel ρ e.1 f.key ∧ VRel ρ e.2.1 f.val ∧ f.born = e.2.2
  | [], _, _, e, h => by simp at h
  | x :: es, _, h, e, he => by
    obtain ⟨g, rest, rfl, gk, gv, gn, hr⟩ := h.uncons
    simp only [List.find?_cons, gn] at he ⊢
    split at he
    · cases he; exact ⟨g, rfl, gk, gv, gn⟩
    · exact EsRel.find hr he

theorem EsRel.all {q : Nat → Bool} : ∀ {es : List (AV × AV × Nat)} {fs : List MapEntry}, EsRel ρ es fs → fs.all (fun f => q f.born) = es.all (fun e => q e.2.2)
  | [], _, h => by simp only [EsRel] at h; subst h; rfl
  | x :: es, _, h => by
    obtain ⟨g, rest, rfl, gk, gv, gn, hr⟩ := h.uncons
    simp only [List.all_cons, gn, EsRel.all hr]

/-- Parts that are the same have the same bits. -/
theorem sameBits_same {c : CellKind} {x y : AV} {v u : Value} (h : sameCell c x y = some true) (hv : VRel ρ x v) (hu : VRel ρ y u) (n : Nat) : Instr.sameBits n u v = true := by
  rcases sameCell_inv h with ⟨_, k, a, b, rfl, rfl, e⟩ | ⟨_, a, b, rfl, rfl, e⟩ | ⟨_, a, b, rfl, rfl, e⟩
  all_goals
    simp only [VRel] at hv hu; subst hv hu
    have e' := eq_of_beq e.symm
    subst e'
    simp [Instr.sameBits, beq_bytes]

theorem sameBits_all (n : Nat) : ∀ {ks : List CellKind} {xs ys : List AV} {vs us : List Value}, sameCells ks xs ys = some true → VRelL ρ xs vs → VRelL ρ ys us → us.length = vs.length ∧ (us.zip vs).all (fun (x : Value × Value) => Instr.sameBits n x.1 x.2) = true
  | ks, [], ys, vs, us, h, hv, hu => by
    simp only [VRelL] at hv; subst hv
    cases ys with
    | nil => simp only [VRelL] at hu; subst hu; simp
    | cons y ys => cases ks <;> simp [sameCells] at h
  | ks, x :: xs, ys, vs, us, h, hv, hu => by
    cases ks with
    | nil => simp [sameCells] at h
    | cons c ks =>
    cases ys with
    | nil => simp [sameCells] at h
    | cons y ys =>
      obtain ⟨v, vs', rfl, hv1, hv2⟩ := hv.uncons
      obtain ⟨u, us', rfl, hu1, hu2⟩ := hu.uncons
      simp only [sameCells] at h
      split at h
      · rename_i hs
        obtain ⟨hl, ha⟩ := sameBits_all n h hv2 hu2
        refine ⟨by simp [hl], ?_⟩
        simp only [List.zip_cons_cons, List.all_cons, Bool.and_eq_true]
        exact ⟨sameBits_same hs hv1 hu1 n, ha⟩
      · cases h
      · cases h

theorem key_stays {t : TypeId} {k a : AV} {kv av : Value} (he : equal S t k a = some true) (hk : keyOk S t k = true) (hv : VRel ρ k kv) (hu : VRel ρ a av) : (Instr.keyThatStays av kv).run P w = .ok kv w := by
  have hb : Instr.sameBits 10000 av kv = true := by
    unfold keyOk at hk
    unfold equal at he
    split at he
    · split at he
      · simp only [VRel] at hv hu; subst hv hu; simp at he; subst he; simp [Instr.sameBits]
      · cases he
    · split at he
      · split at he
        · rename_i e; subst e; simp only [VRel] at hv hu; subst hv hu; simp at he; subst he; simp [Instr.sameBits]
        · cases he
      · cases he
    · split at he
      · simp only [VRel] at hv hu; subst hv hu; simp at he; subst he; simp [Instr.sameBits, beq_bytes]
      · cases he
    all_goals (rename_i hd; try simp only [hd] at hk; try (simp at hk; done))
    · split at he
      · split at he
        · simp only [VRel] at hv hu
          obtain ⟨vs, hvs, rfl⟩ := hv
          obtain ⟨us, hus, rfl⟩ := hu
          obtain ⟨hl, ha⟩ := sameBits_all 9999 he hvs hus
          show Instr.sameBits (9999 + 1) _ _ = true
          simp [Instr.sameBits, hl]
          simpa using ha
        · cases he
      · cases he
  unfold Instr.keyThatStays
  rw [if_pos hb]
  rfl

/-- The checks of a struct's fields, one behind the other. -/
theorem checkFields (b : Bool) (n : Nat) (cs : Array Value) : ∀ (fs : List Field) (o : Nat), (∀ (i : Nat) (f : Field), fs[i]? = some f → f.offset = o + i ∧ (P.underlying f.type = some .bool ∨ (∃ k, P.underlying f.type = some (.int k)) ∨ P.underlying f.type = some .string)) →
    o + fs.length ≤ cs.size → ∀ w : World,
    (forIn (m := Sem) fs PUnit.unit fun f s => if f.name ≠ "_" then do
        Instr.checkKey b (n + 1) f.type (← Go.part f.type cs f.offset)
        pure (ForInStep.yield s)
      else pure (ForInStep.yield s)).run P w = .ok PUnit.unit w
  | [], o, _, _, w => by simp
  | f :: fs, o, h, hl, w => by
    have h0 := h 0 f (by simp)
    have ih := checkFields b n cs fs (o + 1) (fun i g hg => by have := h (i + 1) g (by simpa using hg); rw [show o + 1 + i = o + (i + 1) by omega]; exact this) (by simp at hl; omega) w
    simp only [List.length_cons] at hl
    have hlt : o < cs.size := by omega
    have hp : (Go.part f.type cs f.offset).run P w = .ok cs[o] w := by
      have h1 : f.offset = o := by simpa using h0.1
      rcases h0.2 with hu | ⟨k, hu⟩ | hu <;> simp [Go.part, isAgg, underlying, hu, h1, hlt]
    have hc : (Instr.checkKey b (n + 1) f.type cs[o]).run P w = .ok () w := by
      rcases h0.2 with hu | ⟨k, hu⟩ | hu <;> simp [Instr.checkKey, underlying, hu]
    simp only [List.forIn_cons, Sem.run_bind]
    by_cases hn : f.name = "_"
    · simp only [hn, ne_eq, not_true_eq_false, if_false, Sem.run_pure, Result.andThen_ok]
      exact ih
    · simp only [ne_eq, hn, not_false_eq_true, if_true, Sem.run_bind, hp, Result.andThen_ok, hc, Sem.run_pure]
      exact ih

include hS in
theorem checkKey_sound {t : TypeId} {k : AV} {v : Value} {b : Bool} (h : keyOk S t k = true) (hv : VRel ρ k v) : (Instr.checkKey b 10000 t v).run P w = .ok () w := by
  unfold keyOk at h
  obtain ⟨d, hd0⟩ : ∃ d, (10000 : Nat) = d + 1 + 1 := ⟨9998, rfl⟩
  rw [hd0]
  split at h
  · rename_i hd; simp [Instr.checkKey, run_und hS w hd]
  · rename_i hd; simp [Instr.checkKey, run_und hS w hd]
  · rename_i hd; simp [Instr.checkKey, run_und hS w hd]
  · rename_i fs hd
    rw [Bool.and_eq_true] at h
    obtain ⟨hk, h⟩ := h
    split at h
    · rename_i cs
      rw [Bool.and_eq_true, beq_iff] at h
      simp only [VRel] at hv
      obtain ⟨vs, hvs, rfl⟩ := hv
      have hl := hvs.length
      have hf := hS.keys t fs hk hd
      have := checkFields (P := P) b d vs.toArray fs.toList 0 (fun i f hf' => by simpa using hf i f (by simpa using hf')) (by simp; omega) w
      unfold Instr.checkKey
      simp only [Sem.run_bind, run_und hS w hd, Result.andThen_ok]
      rw [← Array.forIn_toList]
      rw [this]
      rfl
    · cases h
  · cases h

/-- What a search has found. -/
def FoundRel (ρ : Places) : Option (Nat × AV × Nat) → Option (Nat × Value) → Prop
  | none, r => r = none
  | some (i, v, _), r => ∃ u, r = some (i, u) ∧ VRel ρ v u

include hS in
theorem findAsking_sound {t : TypeId} {k : AV} {kv : Value} (hk : VRel ρ k kv) : ∀ {es : List (AV × AV × Nat)} {fs : List MapEntry} {i : Nat} {r : Option (Nat × AV × Nat)}, find S t k es i = some r → EsRel ρ es fs →
    ∃ r', (Instr.findAsking t kv fs i).run P w = .ok r' w ∧ FoundRel ρ r r'
  | [], fs, i, r, h, hr => by
    simp only [EsRel] at hr; subst hr
    simp only [find] at h; cases h
    exact ⟨none, by simp [Instr.findAsking], rfl⟩
  | (a, v, n) :: es, fs, i, r, h, hr => by
    obtain ⟨f, rest, rfl, fk, fv, fn, hrest⟩ := hr.uncons
    simp only [find] at h
    split at h
    · rename_i he
      cases h
      exact ⟨some (i, f.val), by simp [Instr.findAsking, equal_sound hS (w := w) he hk fk], ⟨f.val, rfl, fv⟩⟩
    · rename_i he
      obtain ⟨r', hrun, hf⟩ := findAsking_sound hk h hrest
      exact ⟨r', by simp [Instr.findAsking, equal_sound hS (w := w) he hk fk, hrun], hf⟩
    · cases h

theorem findNow_sound {t : TypeId} {d : TypeDesc} (hd : S.und t = some d) (hkind : d = .bool ∨ (∃ k, d = .int k) ∨ d = .string) {k : AV} {kv : Value} (hk : VRel ρ k kv) : ∀ {es : List (AV × AV × Nat)} {fs : List MapEntry} {i : Nat} {r : Option (Nat × AV × Nat)}, find S t k es i = some r → EsRel ρ es fs →
    ∃ r', Instr.findNow d kv fs i = some r' ∧ FoundRel ρ r r'
  | [], fs, i, r, h, hr => by
    simp only [EsRel] at hr; subst hr
    simp only [find] at h; cases h
    exact ⟨none, by simp [Instr.findNow], rfl⟩
  | (a, v, n) :: es, fs, i, r, h, hr => by
    obtain ⟨f, rest, rfl, fk, fv, fn, hrest⟩ := hr.uncons
    simp only at fk
    have hsame : ∀ b, equal S t k a = some b → Instr.sameNow d kv f.key = some b := by
      intro b he
      unfold equal at he
      rw [hd] at he
      rcases hkind with rfl | ⟨j, rfl⟩ | rfl
      · simp only at he
        split at he
        · cases he; simp only [VRel] at hk fk; rw [hk, fk]; rfl
        · cases he
      · simp only at he
        split at he
        · split at he
          · rename_i e; subst e; cases he; simp only [VRel] at hk fk; rw [hk, fk]; simp [Instr.sameNow]
          · cases he
        · cases he
      · simp only at he
        split at he
        · cases he; simp only [VRel] at hk fk; rw [hk, fk]; simp [Instr.sameNow, beq_bytes]
        · cases he
    simp only [find] at h
    split at h
    · rename_i he
      cases h
      exact ⟨some (i, f.val), by simp [Instr.findNow, hsame _ he], ⟨f.val, rfl, fv⟩⟩
    · rename_i he
      obtain ⟨r', hrun, hf⟩ := findNow_sound hd hkind hk h hrest
      exact ⟨r', by simp [Instr.findNow, hsame _ he, hrun], hf⟩
    · cases h

include hS in
theorem findKey_sound {t : TypeId} {k : AV} {kv : Value} (hk : VRel ρ k kv) (hok : keyOk S t k = true) {es : List (AV × AV × Nat)} {fs : List MapEntry} {r : Option (Nat × AV × Nat)} (h : find S t k es 0 = some r) (hr : EsRel ρ es fs) :
    ∃ r', (Instr.findKey t kv fs).run P w = .ok r' w ∧ FoundRel ρ r r' := by
  have hok' := hok
  unfold keyOk at hok
  have easy : ∀ d, S.und t = some d → (d = .bool ∨ (∃ k, d = .int k) ∨ d = .string) → ∃ r', (Instr.findKey t kv fs).run P w = .ok r' w ∧ FoundRel ρ r r' := by
    intro d hd hkind
    obtain ⟨r', hn, hf⟩ := findNow_sound hd hkind hk h hr
    exact ⟨r', by simp [Instr.findKey, run_und hS w hd, hn], hf⟩
  split at hok
  · rename_i hd; exact easy _ hd (.inl rfl)
  · rename_i j hd; exact easy _ hd (.inr (.inl ⟨j, rfl⟩))
  · rename_i hd; exact easy _ hd (.inr (.inr rfl))
  · rename_i ffs hd
    obtain ⟨r', hrun, hf⟩ := findAsking_sound hS (w := w) hk h hr
    cases fs with
    | nil =>
      have hes : es = [] := by have := hr.length; exact List.length_eq_zero_iff.1 (by simpa using this.symm)
      subst hes
      simp only [find] at h; cases h
      exact ⟨none, by simp [Instr.findKey, run_und hS w hd, Instr.findNow], rfl⟩
    | cons f fs =>
      have hnow : Instr.findNow (.struct ffs) kv (f :: fs) 0 = none := by simp [Instr.findNow, Instr.sameNow]
      exact ⟨r', by simp only [Instr.findKey, Sem.run_bind, run_und hS w hd, Result.andThen_ok, hnow, hrun], hf⟩
  · cases hok

theorem find_get {t : TypeId} {k : AV} : ∀ {es : List (AV × AV × Nat)} {i j : Nat} {v : AV} {n : Nat}, find S t k es i = some (some (j, v, n)) → i ≤ j ∧ ∃ a, es[j - i]? = some (a, v, n) ∧ equal S t k a = some true
  | [], i, j, v, n, h => by simp [find] at h
  | (a, u, m) :: es, i, j, v, n, h => by
    simp only [find] at h
    split at h
    · rename_i he
      cases h
      exact ⟨Nat.le_refl _, a, by simp, he⟩
    · obtain ⟨h1, b, h2, h3⟩ := find_get h
      refine ⟨by omega, b, ?_, h3⟩
      rw [show j - i = (j - (i + 1)) + 1 by omega]
      simpa using h2
    · cases h

/-- The block of a map. -/
theorem map_of {r clock : Nat} {p : Place} {es : List (AV × AV × Nat)} (hH : HRel ρ w0 H w) (hg : H.get r = some (.map es clock)) (hp : ρ r = some p) : ∃ fs, w.heap[p.blk]? = some (.map fs.toArray clock) ∧ EsRel ρ es fs ∧ p.base = 0 := by
  obtain ⟨O, hO, hR⟩ := hH.obj r p _ hp hg
  simp only [ORel] at hR
  obtain ⟨hb, fs, rfl, hf⟩ := hR
  exact ⟨fs, hO, hf, hb⟩

theorem run_getObj' {b : Nat} {o : Obj} (h : w.heap[b]? = some o) (hc : ∀ c e f, o ≠ .cells c e f) : (getObj b).run P w = .ok o w := by
  simp only [getObj, Sem.run, h]

/-- A block that is no row, replaced. -/
theorem run_setObj' {b : Nat} {o : Obj} (o' : Obj) (h : w.heap[b]? = some o) (hc : ∀ c e f, o ≠ .cells c e f) :
    ∃ w', (setObj b o').run P w = .ok () w' ∧ Changed w b o' w' := by
  refine ⟨{ w with heap := w.heap.setIfInBounds b o' }, ?_, ?_⟩
  · simp only [setObj, Sem.run, h]
  · have hlt := lt_of_some h
    refine ⟨rfl, rfl, rfl, by simp, ?_, fun k hk => ?_⟩
    · simp [hlt]
    · simp [Array.getElem?_setIfInBounds_ne (Ne.symm hk)]

theorem keyOf_some {t kt et : TypeId} (h : keyOf S t = some (kt, et)) : S.und t = some (.map kt et) := by
  unfold keyOf at h
  split at h
  · cases h; assumption
  · cases h

include hS hH in
theorem mapUpdate_sound {t : TypeId} {m k x : AV} {mv kv xv : Value} {H' : AHeap} (h : mapUpdate S H t m k x = some H') (hm : VRel ρ m mv) (hk : VRel ρ k kv) (hx : VRel ρ x xv) : UnitOK P ρ w0 H' (Instr.mapUpdate t mv kv xv) w := by
  unfold mapUpdate at h
  split at h
  · rename_i kt et r hko
    have hu := keyOf_some hko
    simp only [VRel] at hm
    obtain ⟨p, hp, rfl⟩ := hm
    split at h
    · rename_i es clock hg
      obtain ⟨fs, hb, hes, hbase⟩ := map_of hH hg hp
      split at h
      · rename_i hok
        have hck := checkKey_sound hS (w := w) (b := false) hok hk
        have hget := run_getObj' (P := P) hb (fun _ _ _ e => by cases e)
        split at h
        · rename_i i v n hf
          cases h
          obtain ⟨r', hrun, hfr⟩ := findKey_sound hS (w := w) hk hok hf hes
          obtain ⟨u, rfl, hv⟩ := hfr
          obtain ⟨_, a, ha, heq⟩ := find_get hf
          rw [Nat.sub_zero] at ha
          obtain ⟨f, hfi, fk, fv, fn⟩ := hes.get ha
          simp only at fk fv fn
          have hks := key_stays (P := P) (w := w) heq hok hk fk
          obtain ⟨w', hset, hch⟩ := run_setObj' (P := P) (.map (fs.set i { key := kv, val := xv, born := f.born }).toArray clock) hb (fun _ _ _ e => by cases e)
          refine ⟨ρ, w', ρ.le_refl, ?_, ?_⟩
          · have hmod : fs.toArray.modify i (fun e => { e with key := kv, val := xv }) = (fs.set i { key := kv, val := xv, born := f.born }).toArray := by
              apply Array.ext_getElem?
              intro j
              rw [Array.getElem?_modify]
              by_cases e : i = j
              · subst e
                have hlt : i < fs.length := (List.getElem?_eq_some_iff.1 hfi).1
                have hfe := (List.getElem?_eq_some_iff.1 hfi).2
                simp [hlt, hfe]
              · simp [e]
            have hfi' : fs.toArray[i]? = some f := by simpa using hfi
            have hrun' : (Instr.findKey kt kv fs.toArray.toList).run P w = .ok (some (i, u)) w := hrun
            simp only [Instr.mapUpdate, Sem.run_bind, run_und hS w hu, Result.andThen_ok, hget, hck, hrun', hfi', Option.map_some, Option.getD_some, hks, hmod, hset]
          · refine hH.put hp hg rfl ?_ hch
            simp only [ORel]
            exact ⟨hbase, _, rfl, hes.set i hk hx fn⟩
        · rename_i hf
          cases h
          obtain ⟨r', hrun, hfr⟩ := findKey_sound hS (w := w) hk hok hf hes
          simp only [FoundRel] at hfr; subst hfr
          obtain ⟨w', hset, hch⟩ := run_setObj' (P := P) (.map (fs ++ [({ key := kv, val := xv, born := clock } : MapEntry)]).toArray (clock + 1)) hb (fun _ _ _ e => by cases e)
          refine ⟨ρ, w', ρ.le_refl, ?_, ?_⟩
          · have hrun' : (Instr.findKey kt kv fs.toArray.toList).run P w = .ok none w := hrun
            have hset' : (setObj p.blk (.map (fs.toArray.push ({ key := kv, val := xv, born := clock } : MapEntry)) (clock + 1))).run P w = .ok () w' := by
              rw [← hset, List.push_toArray]
            simp only [Instr.mapUpdate, Sem.run_bind, run_und hS w hu, Result.andThen_ok, hget, hck, hrun', hset']
          · refine hH.put hp hg rfl ?_ hch
            simp only [ORel]
            exact ⟨hbase, _, rfl, hes.append (.cons hk hx rfl .nil)⟩
        · cases h
      · cases h
    · cases h
  · cases h

include hS in
/-- What is looked up among entries. -/
theorem lookup_among {t kt et : TypeId} {k x : AV} {kv : Value} {b : Bool} {es : List (AV × AV × Nat)} {fs : List MapEntry} (hu : S.und t = some (.map kt et)) (hes : EsRel ρ es fs) (hok : keyOk S kt k = true) (hk : VRel ρ k kv)
    (h : (match find S kt k es 0 with
      | some (some (_, v, _)) => some (bif b then AV.tuple [v, .bool true] else v)
      | some none => match S.zero et with
        | some z => some (bif b then AV.tuple [z, .bool false] else z)
        | none => none
      | none => none) = some x) :
    ∃ v, VRel ρ x v ∧ (do
      Instr.checkKey fs.toArray.isEmpty 10000 kt kv
      let (v, ok) ← match ← Instr.findKey kt kv fs.toArray.toList with
        | some (_, v) => pure (v, true)
        | none => pure (← zeroValue et, false)
      pure (if b then Value.tuple #[v, .bool ok] else v) : Sem Value).run P w = .ok v w := by
  have _ := hu
  have hck := checkKey_sound hS (w := w) (b := fs.toArray.isEmpty) hok hk
  have tup : ∀ (y : AV) (u : Value) (c : Bool), VRel ρ y u → VRel ρ (bif b then AV.tuple [y, .bool c] else y) (if b then Value.tuple #[u, .bool c] else u) := by
    intro y u c hy
    cases b
    · simpa using hy
    · simp only [cond_true, if_true, VRel]
      exact ⟨[u, .bool c], .cons hy (.cons (by simp only [VRel]) .nil), rfl⟩
  split at h
  · rename_i i v n hf
    cases h
    obtain ⟨r', hrun, hfr⟩ := findKey_sound hS (w := w) hk hok hf hes
    obtain ⟨u, rfl, hv⟩ := hfr
    refine ⟨_, tup v u true hv, ?_⟩
    have hrun' : (Instr.findKey kt kv fs.toArray.toList).run P w = .ok (some (i, u)) w := hrun
    simp only [Sem.run_bind, hck, Result.andThen_ok, hrun', Sem.run_pure]
  · rename_i hf
    obtain ⟨r', hrun, hfr⟩ := findKey_sound hS (w := w) hk hok hf hes
    simp only [FoundRel] at hfr; subst hfr
    split at h
    · rename_i z hz
      cases h
      obtain ⟨zv, hzv, hzr⟩ := run_zero hS w hz
      refine ⟨_, tup z zv false (hzr ρ), ?_⟩
      have hrun' : (Instr.findKey kt kv fs.toArray.toList).run P w = .ok none w := hrun
      simp only [Sem.run_bind, hck, Result.andThen_ok, hrun', Sem.run_pure, hzv]
    · cases h
  · cases h

include hS hH in
theorem lookup_sound {t : TypeId} {m k x : AV} {mv kv : Value} {b : Bool} (h : lookup S H t m k b = some x) (hm : VRel ρ m mv) (hk : VRel ρ k kv) : ∃ v, (Instr.lookup t mv kv b).run P w = .ok v w ∧ VRel ρ x v := by
  unfold lookup at h
  split at h
  · rename_i kt et hko
    have hu := keyOf_some hko
    cases m with
    | nilmap =>
      simp only at h
      split at h
      · rename_i hok
        simp only [VRel] at hm; subst hm
        obtain ⟨v, hv, hrun⟩ := lookup_among hS (w := w) (fs := []) hu .nil hok hk h
        refine ⟨v, ?_, hv⟩
        unfold Instr.lookup
        simp only [Sem.run_bind, run_und hS w hu, Result.andThen_ok, Sem.run_pure]
        simp only [Sem.run_bind] at hrun
        exact hrun
      · cases h
    | map r =>
      simp only [VRel] at hm
      obtain ⟨p, hp, rfl⟩ := hm
      simp only at h
      split at h
      · rename_i es hes0
        split at hes0
        · rename_i es' clock hg
          cases hes0
          obtain ⟨fs, hb, hes, hbase⟩ := map_of hH hg hp
          have hget := run_getObj' (P := P) hb (fun _ _ _ e => by cases e)
          split at h
          · rename_i hok
            obtain ⟨v, hv, hrun⟩ := lookup_among hS (w := w) hu hes hok hk h
            refine ⟨v, ?_, hv⟩
            unfold Instr.lookup
            simp only [Sem.run_bind, run_und hS w hu, Result.andThen_ok, hget, Sem.run_pure]
            simp only [Sem.run_bind] at hrun
            exact hrun
          · cases h
        · cases hes0
      · cases h
    | _ => simp at h
  · cases h

include hS hH in
theorem mapEntry_sound {t : TypeId} {m k x : AV} {mv kv : Value} {H' : AHeap} (h : mapEntry S H t m k = some (x, H')) (hm : VRel ρ m mv) (hk : VRel ρ k kv) : ValOK P ρ w0 x H' (Instr.mapEntry t mv kv) w := by
  unfold mapEntry at h
  split at h
  · rename_i kt et r hko
    have hu := keyOf_some hko
    simp only [VRel] at hm
    obtain ⟨p, hp, rfl⟩ := hm
    split at h
    · rename_i es clock hg
      obtain ⟨fs, hb, hes, hbase⟩ := map_of hH hg hp
      split at h
      · rename_i hok
        have hck := checkKey_sound hS (w := w) (b := false) hok hk
        have hget := run_getObj' (P := P) hb (fun _ _ _ e => by cases e)
        split at h
        · rename_i i v n hf
          cases h
          obtain ⟨r', hrun, hfr⟩ := findKey_sound hS (w := w) hk hok hf hes
          obtain ⟨u, rfl, hv⟩ := hfr
          obtain ⟨_, a, ha, heq⟩ := find_get hf
          rw [Nat.sub_zero] at ha
          obtain ⟨f, hfi, fk, fv, fn⟩ := hes.get ha
          simp only at fk fv fn
          have hks := key_stays (P := P) (w := w) heq hok hk fk
          obtain ⟨w', hset, hch⟩ := run_setObj' (P := P) (.map (fs.set i { key := kv, val := f.val, born := f.born }).toArray clock) hb (fun _ _ _ e => by cases e)
          refine ⟨ρ, .tuple #[u, .int .i64 n], w', ρ.le_refl, ?_, ?_, ?_⟩
          · have hmod : fs.toArray.modify i (fun e => { e with key := kv }) = (fs.set i { key := kv, val := f.val, born := f.born }).toArray := by
              apply Array.ext_getElem?
              intro j
              rw [Array.getElem?_modify]
              by_cases e : i = j
              · subst e
                have hlt : i < fs.length := (List.getElem?_eq_some_iff.1 hfi).1
                have hfe := (List.getElem?_eq_some_iff.1 hfi).2
                simp [hlt, hfe]
              · simp [e]
            have hfi' : fs.toArray[i]? = some f := by simpa using hfi
            have hrun' : (Instr.findKey kt kv fs.toArray.toList).run P w = .ok (some (i, u)) w := hrun
            simp only [Instr.mapEntry, Sem.run_bind, run_und hS w hu, Result.andThen_ok, hget, Sem.run_pure, hck, hrun', hfi', Option.map_some, Option.getD_some, hks, hmod]
            rw [hset]
            simp only [Result.andThen_ok, fn, goInt]
          · simp only [VRel]
            exact ⟨[u, .int .i64 n], .cons hv (.cons (by simp only [VRel]) .nil), rfl⟩
          · refine hH.put hp hg rfl ?_ hch
            simp only [ORel]
            exact ⟨hbase, _, rfl, hes.set i hk fv fn⟩
        · rename_i hf
          obtain ⟨r', hrun, hfr⟩ := findKey_sound hS (w := w) hk hok hf hes
          simp only [FoundRel] at hfr; subst hfr
          split at h
          · rename_i z hz
            cases h
            obtain ⟨zv, hzv, hzr⟩ := run_zero hS w hz
            obtain ⟨w', hset, hch⟩ := run_setObj' (P := P) (.map (fs ++ [({ key := kv, val := zv, born := clock } : MapEntry)]).toArray (clock + 1)) hb (fun _ _ _ e => by cases e)
            refine ⟨ρ, .tuple #[zv, .int .i64 clock], w', ρ.le_refl, ?_, ?_, ?_⟩
            · have hrun' : (Instr.findKey kt kv fs.toArray.toList).run P w = .ok none w := hrun
              have hset' : (setObj p.blk (.map (fs.toArray.push ({ key := kv, val := zv, born := clock } : MapEntry)) (clock + 1))).run P w = .ok () w' := by
                rw [← hset, List.push_toArray]
              simp only [Instr.mapEntry, Sem.run_bind, run_und hS w hu, Result.andThen_ok, hget, Sem.run_pure, hck, hrun', hzv, hset', goInt]
            · simp only [VRel]
              exact ⟨[zv, .int .i64 clock], .cons (hzr ρ) (.cons (by simp only [VRel]) .nil), rfl⟩
            · refine hH.put hp hg rfl ?_ hch
              simp only [ORel]
              exact ⟨hbase, _, rfl, hes.append (.cons hk (hzr ρ) rfl .nil)⟩
          · cases h
        · cases h
      · cases h
    · cases h
  · cases h

theorem stamped_get {n : Int} : ∀ {es : List (AV × AV × Nat)} {i j : Nat} {k : AV} {b : Nat}, stamped n es i = some (j, k, b) → i ≤ j ∧ (b : Int) = n ∧ (∃ v, es[j - i]? = some (k, v, b)) ∧ ∀ q, q < j - i → ∀ e, es[q]? = some e → (e.2.2 : Int) ≠ n
  | [], i, j, k, b, h => by simp [stamped] at h
  | (a, v, m) :: es, i, j, k, b, h => by
    simp only [stamped] at h
    cases hb : ((m : Int) == n) with
    | true =>
      rw [hb, cond_true] at h
      cases h
      exact ⟨Nat.le_refl _, by simpa using hb, ⟨v, by simp⟩, fun q hq => by omega⟩
    | false =>
      rw [hb, cond_false] at h
      obtain ⟨h1, h2, ⟨u, h3⟩, h4⟩ := stamped_get h
      refine ⟨by omega, h2, ⟨u, ?_⟩, fun q hq e he => ?_⟩
      · rw [show j - i = (j - (i + 1)) + 1 by omega]; simpa using h3
      · cases q with
        | zero => simp at he; subst he; simpa using hb
        | succ q => exact h4 q (by omega) e (by simpa using he)

include hH in
theorem entryStore_sound {t : TypeId} {m s x : AV} {mv sv xv : Value} {H' : AHeap} (h : entryStore H m s x = some H') (hm : VRel ρ m mv) (hs : VRel ρ s sv) (hx : VRel ρ x xv) : UnitOK P ρ w0 H' (Instr.entryStore t mv sv xv) w := by
  unfold entryStore at h
  split at h
  · rename_i r kk n
    simp only [VRel] at hm hs
    obtain ⟨p, hp, rfl⟩ := hm
    subst hs
    split at h
    · rename_i es clock hg
      obtain ⟨fs, hb, hes, hbase⟩ := map_of hH hg hp
      have hget := run_getObj' (P := P) hb (fun _ _ _ e => by cases e)
      split at h
      · rename_i i k b hst
        cases h
        obtain ⟨_, hbn, ⟨v, hi⟩, hbefore⟩ := stamped_get hst
        rw [Nat.sub_zero] at hi hbefore
        obtain ⟨f, hfi, fk, fv, fn⟩ := hes.get hi
        simp only at fk fv fn
        have hlt : i < fs.length := (List.getElem?_eq_some_iff.1 hfi).1
        have hfe := (List.getElem?_eq_some_iff.1 hfi).2
        have hfind : fs.toArray.findIdx? (fun e => (e.born : Int) == n) = some i := by
          rw [List.findIdx?_toArray, List.findIdx?_eq_some_iff_getElem]
          refine ⟨hlt, by rw [hfe, fn]; simpa using hbn, fun j hj => ?_⟩
          have hjl : j < es.length := by have := hes.length; omega
          have := hbefore j hj es[j] (List.getElem?_eq_getElem hjl)
          obtain ⟨g, hg1, _, _, hg4⟩ := hes.get (List.getElem?_eq_getElem hjl)
          have hge := (List.getElem?_eq_some_iff.1 hg1).2
          rw [hge, hg4]
          simpa using this
        obtain ⟨w', hset, hch⟩ := run_setObj' (P := P) (.map (fs.set i { key := f.key, val := xv, born := f.born }).toArray clock) hb (fun _ _ _ e => by cases e)
        refine ⟨ρ, w', ρ.le_refl, ?_, ?_⟩
        · have hmod : fs.toArray.modify i (fun e => { e with val := xv }) = (fs.set i { key := f.key, val := xv, born := f.born }).toArray := by
            apply Array.ext_getElem?
            intro j
            rw [Array.getElem?_modify]
            by_cases e : i = j
            · subst e; simp [hlt, hfe]
            · simp [e]
          simp only [Instr.entryStore, Sem.run_bind, hget, Result.andThen_ok, asInt, asIntOf, Sem.run_pure, hfind, hmod, hset]
        · refine hH.put hp hg rfl ?_ hch
          simp only [ORel]
          exact ⟨hbase, _, rfl, hes.set i fk hx fn⟩
      · cases h
    · cases h
  · cases h

end

end AM
end Go
