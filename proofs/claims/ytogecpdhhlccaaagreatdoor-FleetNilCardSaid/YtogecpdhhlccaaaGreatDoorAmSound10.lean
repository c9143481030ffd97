/-
  An abstract machine over the model's code: each operation against the model's.
-/
import Derived.Test.YtogecpdhhlccaaaGreatDoorAmSound9
namespace Go
namespace AM
open Go.RowKit (Below)

section
variable {P : Program} {E : Env} {ρ : Places} (hE : EnvOK P E ρ) {w0 w : World} {H : AHeap} (hH : HRel ρ w0 H w)

/-- The value of a function's call. -/
theorem asNext {s : Sem Value} {r : ARes} {H' : AHeap} (h : ResOK P ρ w0 w r H' (do pure (.value (← s)))) : ResOK P ρ w0 w r H' (do pure (.value (← s))) := h

include hE hH in
theorem lenOp_sound {ts : Array TypeId} {t ty : TypeId} {x z : AV} {v : Value} (ht : ts[0]? = some t) (h : lenOp E.S H t x = some z) (hv : VRel ρ x v) : ∃ u, (Builtin.len_ ts ty #[v]).run P w = .ok u w ∧ VRel ρ z u := by
  unfold lenOp at h
  split at h
  · rename_i s hu
    cases h; simp only [VRel] at hv; subst hv
    have hsz : (⟨s.toArray⟩ : ByteArray).size = s.length := by simp [ByteArray.size]
    exact ⟨.int .i64 s.length, by simp [Builtin.len_, ht, run_und hE.sig w hu, goInt, hsz], by simp only [VRel]⟩
  · rename_i n e hu
    cases h
    exact ⟨.int .i64 n, by simp [Builtin.len_, ht, run_und hE.sig w hu, goInt], by simp only [VRel]⟩
  · rename_i e hu
    cases h; simp only [VRel] at hv; subst hv
    exact ⟨_, by simp [Builtin.len_, ht, run_und hE.sig w hu, goInt]; rfl, by simp only [VRel]⟩
  · rename_i e r off n c hu
    cases h; simp only [VRel] at hv
    obtain ⟨p, a, c, _, rfl, _⟩ := hv
    exact ⟨.int .i64 n, by simp [Builtin.len_, ht, run_und hE.sig w hu, goInt], by simp only [VRel]⟩
  · rename_i a b hu
    cases h; simp only [VRel] at hv; subst hv
    exact ⟨_, by simp [Builtin.len_, ht, run_und hE.sig w hu, goInt]; rfl, by simp only [VRel]⟩
  · rename_i a b r hu
    split at h
    · rename_i es clock hg
      cases h; simp only [VRel] at hv
      obtain ⟨p, hp, rfl⟩ := hv
      obtain ⟨fs, hb, hes, hbase⟩ := map_of hH hg hp
      have hget := run_getObj' (P := P) hb (fun _ _ _ e => by cases e)
      have hl := hes.length
      exact ⟨.int .i64 es.length, by simp [Builtin.len_, ht, run_und hE.sig w hu, goInt, hget, hl], by simp only [VRel]⟩
    · cases h
  · cases h

include hE in
theorem capOp_sound {ts : Array TypeId} {t ty : TypeId} {x z : AV} {v : Value} (ht : ts[0]? = some t) (h : capOp E.S t x = some z) (hv : VRel ρ x v) : ∃ u, (Builtin.cap_ ts ty #[v]).run P w = .ok u w ∧ VRel ρ z u := by
  unfold capOp at h
  split at h
  · rename_i e hu
    cases h; simp only [VRel] at hv; subst hv
    exact ⟨_, by simp [Builtin.cap_, ht, run_und hE.sig w hu, goInt]; rfl, by simp only [VRel]⟩
  · rename_i e r off n k hu
    cases h; simp only [VRel] at hv
    obtain ⟨p, a, c, _, rfl, hs⟩ := hv
    have hk : c = k := by
      rcases hs with ⟨_, _, hk⟩ | ⟨_, h0, hk | ⟨_, hk, _⟩⟩
      · exact hk
      · cases hk; exact h0
      · cases hk
    subst hk
    exact ⟨.int .i64 c, by simp [Builtin.cap_, ht, run_und hE.sig w hu, goInt], by simp only [VRel]⟩
  · cases h

include hE hH in
theorem builtin_sound {b : Builtin} {ts : Array TypeId} {ty : TypeId} {cs : Array Bool} {args : List AV} {vs : List Value} {r : ARes} {H' : AHeap} (h : builtin E H b ts args = some (r, H')) (hv : VRelL ρ args vs) :
    ResOK P ρ w0 w r H' (Go.builtin b ts ty cs vs.toArray) := by
  unfold builtin at h
  split at h
  · -- len
    rename_i x
    obtain ⟨v, rest, rfl, hx, hr⟩ := hv.uncons
    simp only [VRelL] at hr; subst hr
    split at h
    · rename_i t ht
      cases hz : lenOp E.S H t x with
      | none => simp [hz, val] at h
      | some z =>
        simp only [hz, val, Option.some.injEq, Prod.mk.injEq] at h
        obtain ⟨rfl, rfl⟩ := h
        obtain ⟨u, hrun, hu⟩ := lenOp_sound (ty := ty) hE hH ht hz hx
        exact ofRun hH hrun hu
    · cases h
  · -- cap
    rename_i x
    obtain ⟨v, rest, rfl, hx, hr⟩ := hv.uncons
    simp only [VRelL] at hr; subst hr
    split at h
    · rename_i t ht
      cases hz : capOp E.S t x with
      | none => simp [hz, val] at h
      | some z =>
        simp only [hz, val, Option.some.injEq, Prod.mk.injEq] at h
        obtain ⟨rfl, rfl⟩ := h
        obtain ⟨u, hrun, hu⟩ := capOp_sound (w := w) (ty := ty) hE ht hz hx
        exact ofRun hH hrun hu
    · cases h
  · -- append
    rename_i s x
    obtain ⟨v, rest, rfl, hs, hr⟩ := hv.uncons
    obtain ⟨u, rest, rfl, hx, hr⟩ := hr.uncons
    simp only [VRelL] at hr; subst hr
    split at h
    · rename_i t1 t2 ht1 ht2
      split at h
      · rename_i e d hu1 hu2
        split at h
        · rename_i n by_ z hn hb hz
          split at h
          · rename_i hc
            rw [Bool.and_eq_true, beq_iff] at hc
            split at h
            · rename_i m news he
              cases ha : append H n by_ s news m with
              | none => simp [ha, valH] at h
              | some yh =>
                obtain ⟨y, H1⟩ := yh
                simp only [ha, valH, Option.some.injEq, Prod.mk.injEq] at h
                obtain ⟨rfl, rfl⟩ := h
                have := append_sound (P := P) (ty := ty) hE.sig hH hu1 hu2 hc.2 hn hb hz hc.1 he ha hs hx
                refine (ValOK.res this).congr ?_
                have e1 : Builtin.append_ ts ty #[v, u] = Builtin.append_ #[t1, t2] ty #[v, u] := by
                  unfold Builtin.append_; rw [ht1, ht2]; rfl
                show ((do pure (.value (← Builtin.append_ ts ty #[v, u])) : Sem Next)).run P w = _
                rw [e1]
            · cases h
          · cases h
        · cases h
      · cases h
    · cases h
  · -- copy
    rename_i r off len cap x
    obtain ⟨v, rest, rfl, hs, hr⟩ := hv.uncons
    obtain ⟨u, rest, rfl, hx, hr⟩ := hr.uncons
    simp only [VRelL] at hr; subst hr
    split at h
    · rename_i t ht
      split at h
      · rename_i e hu
        split at h
        · rename_i n hn
          split at h
          · rename_i m ccs he
            split at h
            · rename_i H1 hst
              cases h
              have := copy_sound (P := P) (u := 0) (ty := ty) hE hH hu hn he hst hs hx
              refine (ValOK.res this).congr ?_
              have e1 : Builtin.copy_ ts ty #[v, u] = Builtin.copy_ #[t, 0] ty #[v, u] := by
                unfold Builtin.copy_; rw [ht]; rfl
              show ((do pure (.value (← Builtin.copy_ ts ty #[v, u])) : Sem Next)).run P w = _
              rw [e1]
            · cases h
          · cases h
        · cases h
      · cases h
    · cases h
  · -- min
    rename_i k a j c
    obtain ⟨v, rest, rfl, hs, hr⟩ := hv.uncons
    obtain ⟨u, rest, rfl, hx, hr⟩ := hr.uncons
    simp only [VRelL] at hr; subst hr
    simp only [VRel] at hs hx; subst hs hx
    cases h
    have hx : VRel ρ (.int k (if c < a then c else a)) (.int k (if c < a then c else a)) := by simp only [VRel]
    exact ofRun (s := Builtin.min_ ts ty [.int k a, .int j c].toArray) hH (by simp [Builtin.min_, Builtin.min2]) hx
  · -- max
    rename_i k a j c
    obtain ⟨v, rest, rfl, hs, hr⟩ := hv.uncons
    obtain ⟨u, rest, rfl, hx, hr⟩ := hr.uncons
    simp only [VRelL] at hr; subst hr
    simp only [VRel] at hs hx; subst hs hx
    cases h
    have hx : VRel ρ (.int k (if c > a then c else a)) (.int k (if c > a then c else a)) := by simp only [VRel]
    exact ofRun (s := Builtin.max_ ts ty [.int k a, .int j c].toArray) hH (by simp [Builtin.max_, Builtin.max2]) hx
  · -- delete
    rename_i r k
    obtain ⟨v, rest, rfl, hs, hr⟩ := hv.uncons
    obtain ⟨u, rest, rfl, hx, hr⟩ := hr.uncons
    simp only [VRelL] at hr; subst hr
    split at h
    · rename_i t ht
      split at h
      · rename_i kt et es clock hko hg
        split at h
        · rename_i hok
          split at h
          · rename_i f hf
            cases h
            obtain ⟨w', hrun, hh⟩ := delete_sound (P := P) (ty := ty) hE.sig hH (keyOf_some hko) hg hok hf hs hx
            refine ⟨ρ, .tuple #[], w', ρ.le_refl, ?_, by simp only [VRel]; exact ⟨[], .nil, rfl⟩, hh⟩
            have e1 : Builtin.delete_ ts ty #[v, u] = Builtin.delete_ #[t, kt] ty #[v, u] := by
              unfold Builtin.delete_; rw [ht]; rfl
            show ((do pure (.value (← Builtin.delete_ ts ty #[v, u])) : Sem Next)).run P w = _
            rw [e1]
            simp [hrun]
          · cases h
        · cases h
      · cases h
    · cases h
  · cases h

theorem mapM_pairs {ev : Operand → Option AV} {rev : Operand → Value} (hev : EvOK ρ ev rev) : ∀ {l : List (Nat × Operand)} {ps : List (Nat × AV)}, (l.mapM fun (x : Nat × Operand) => (ev x.2).map fun v => (x.1, v)) = some ps →
    ps.map (·.1) = (l.map fun x => (x.1, rev x.2)).map (·.1) ∧ VRelL ρ (ps.map (·.2)) ((l.map fun x => (x.1, rev x.2)).map (·.2))
  | [], ps, h => by simp at h; subst h; exact ⟨rfl, .nil⟩
  | x :: l, ps, h => by
    simp only [List.mapM_cons, Option.bind_eq_bind, Option.bind_eq_some_iff, Option.pure_def, Option.some.injEq, Option.map_eq_some_iff] at h
    obtain ⟨a, ⟨y, hy, rfl⟩, qs, hqs, rfl⟩ := h
    obtain ⟨h1, h2⟩ := mapM_pairs hev hqs
    refine ⟨by simp only [List.map_cons, h1], ?_⟩
    simp only [List.map_cons]
    exact .cons (hev _ _ hy) h2

theorem optOp_rel {ev : Operand → Option AV} {rev : Operand → Value} (hev : EvOK ρ ev rev) {o : Option Operand} {r : Option AV} (h : optOp ev o = some r) :
    (∀ x, r = some x → ∃ v, o.map rev = some v ∧ VRel ρ x v) ∧ (r = none → o.map rev = none) := by
  cases o with
  | none => simp only [optOp] at h; cases h; exact ⟨fun x e => (by cases e), fun _ => rfl⟩
  | some y =>
    simp only [optOp, Option.map_eq_some_iff] at h
    obtain ⟨a, ha, rfl⟩ := h
    exact ⟨fun x e => (by cases e; exact ⟨_, rfl, hev _ _ ha⟩), fun e => (by cases e)⟩

theorem nextHandles {ty : TypeId} {it x : AV} {s : Bool} {vit : Value} {r : ARes} {H' : AHeap} (hH : HRel ρ w0 H w) (h : next H it s = some (r, H')) (hv : VRel ρ it vit) (hx : x = it) :
    ResOK P ρ w0 w r H' (do pure (.value (← Instr.next vit s ty))) := by
  subst hx
  unfold next at h
  split at h
  · rename_i q
    simp only [VRel] at hv
    obtain ⟨p, hp, rfl⟩ := hv
    split at h
    · rename_i str pos hg
      have hn := next_string (P := P) hH hg hp ty
      split at h
      · rename_i hlt
        cases h
        exact (hn.1 hlt).res
      · rename_i hlt
        cases h
        exact (hn.2 hlt).res
    · rename_i a b c hg
      cases h
      obtain ⟨O, hO, hR⟩ := hH.obj q p _ hp hg
      simp only [ORel] at hR
      obtain ⟨hb0, m', rfl, rfl⟩ := hR
      have hget := run_getObj' (P := P) hO (fun _ _ _ e => by cases e)
      refine ofRun hH (v := .tuple #[.bool false]) ?_ (by simp only [VRel]; exact ⟨[.bool false], .cons (by simp only [VRel]) .nil, rfl⟩)
      simp only [Instr.next, hb0, Nat.zero_add, Sem.run_bind, hget, Result.andThen_ok, Sem.run_pure]
    · rename_i m since seen last hg
      split at h
      · rename_i es clock hgm
        split at h
        · cases h
        · rename_i hall
          cases h
          exact (next_map (P := P) hH hg hgm hp ty (by simpa using hall)).res
      · cases h
    · cases h
  · cases h

include hE hH in
set_option maxHeartbeats 1000000 in
/-- EACH OPERATION. -/
theorem op_sound {ev : Operand → Option AV} {rev : Operand → Value} (hev : EvOK ρ ev rev) {o : Oper} {r : ARes} {H' : AHeap} (h : op E ev H o.op = some (r, H')) : ResOK P ρ w0 w r H' (execOp rev o) := by
  unfold execOp
  unfold op at h
  cases hop : o.op <;> simp only [hop] at h ⊢
  case move x =>
    cases hx : ev x with
    | none => simp [hx, val] at h
    | some a =>
      simp only [hx, val, Option.some.injEq, Prod.mk.injEq] at h
      obtain ⟨rfl, rfl⟩ := h
      exact ⟨ρ, rev x, w, ρ.le_refl, rfl, hev _ _ hx, hH⟩
  case assign x =>
    cases hx : ev x with
    | none => simp [hx, val] at h
    | some a =>
      simp only [hx, val, Option.some.injEq, Prod.mk.injEq] at h
      obtain ⟨rfl, rfl⟩ := h
      exact ⟨ρ, rev x, w, ρ.le_refl, rfl, hev _ _ hx, hH⟩
  case pick c a b =>
    split at h
    · rename_i hc
      have h1 := hev _ _ hc
      simp only [VRel] at h1
      cases hx : ev a with
      | none => simp [hx, val] at h
      | some z =>
        simp only [hx, val, Option.some.injEq, Prod.mk.injEq] at h
        obtain ⟨rfl, rfl⟩ := h
        exact ⟨ρ, rev a, w, ρ.le_refl, by simp [h1, asBool], hev _ _ hx, hH⟩
    · rename_i hc
      have h1 := hev _ _ hc
      simp only [VRel] at h1
      cases hx : ev b with
      | none => simp [hx, val] at h
      | some z =>
        simp only [hx, val, Option.some.injEq, Prod.mk.injEq] at h
        obtain ⟨rfl, rfl⟩ := h
        exact ⟨ρ, rev b, w, ρ.le_refl, by simp [h1, asBool], hev _ _ hx, hH⟩
    · cases h
  case alloc t =>
    split at h
    · rename_i z hz
      cases h
      exact (alloc_sound (P := P) hE.sig hH hz).res
    · cases h
  case box t x =>
    split at h
    · rename_i a hx
      cases h
      exact (box_sound (P := P) hH (hev _ _ hx)).res
    · cases h
  case build t parts =>
    split at h
    · rename_i ps hps
      cases hb : build E.S t ps with
      | none => simp [hb, val] at h
      | some z =>
        simp only [hb, val, Option.some.injEq, Prod.mk.injEq] at h
        obtain ⟨rfl, rfl⟩ := h
        obtain ⟨h1, h2⟩ := mapM_pairs hev hps
        have h1' : ps.map (·.1) = (parts.map fun (x : Nat × Operand) => (x.1, rev x.2)).toList.map (·.1) := by rw [Array.toList_map]; exact h1
        have h2' : VRelL ρ (ps.map (·.2)) ((parts.map fun (x : Nat × Operand) => (x.1, rev x.2)).toList.map (·.2)) := by rw [Array.toList_map]; exact h2
        obtain ⟨v, hrun, hv⟩ := build_sound hE.sig (w := w) hb h1' h2'
        exact ofRun hH hrun hv
    · cases h
  case buildSlice t n parts =>
    split at h
    · rename_i ps hps
      cases hb : buildSlice E.S H t n ps with
      | none => simp [hb, valH] at h
      | some z =>
        obtain ⟨z, H1⟩ := z
        simp only [hb, valH, Option.some.injEq, Prod.mk.injEq] at h
        obtain ⟨rfl, rfl⟩ := h
        obtain ⟨h1, h2⟩ := mapM_pairs hev hps
        have h1' : ps.map (·.1) = (parts.map fun (x : Nat × Operand) => (x.1, rev x.2)).toList.map (·.1) := by rw [Array.toList_map]; exact h1
        have h2' : VRelL ρ (ps.map (·.2)) ((parts.map fun (x : Nat × Operand) => (x.1, rev x.2)).toList.map (·.2)) := by rw [Array.toList_map]; exact h2
        exact (buildSlice_sound (P := P) hE.sig hH hb h1' h2').res
    · cases h
  case load t a =>
    split at h
    · rename_i q off ha
      have h1 := hev _ _ ha
      simp only [VRel] at h1
      obtain ⟨p, hp, h1⟩ := h1
      cases hl : loadVar E.S H t q off with
      | none => simp [hl, val] at h
      | some z =>
        simp only [hl, val, Option.some.injEq, Prod.mk.injEq] at h
        obtain ⟨rfl, rfl⟩ := h
        obtain ⟨v, hrun, hv⟩ := loadVar_sound hE.sig hH hl hp
        refine ofRun hH ?_ hv
        rw [h1]
        simp [Instr.loadAt, Instr.sureAddr, hrun]
    · cases h
  case store t a x =>
    split at h
    · rename_i q off z ha hx
      have h1 := hev _ _ ha
      simp only [VRel] at h1
      obtain ⟨p, hp, h1⟩ := h1
      cases hl : storeVar E.S H t q off z with
      | none => simp [hl, skipH] at h
      | some H1 =>
        simp only [hl, skipH, Option.some.injEq, Prod.mk.injEq] at h
        obtain ⟨rfl, rfl⟩ := h
        obtain ⟨w', hrun, hh⟩ := storeVar_sound hE.sig hH hl hp (hev _ _ hx)
        refine ⟨ρ, w', ρ.le_refl, ?_, hh⟩
        rw [h1]
        simp [Instr.storeAt, Instr.sureAddr, hrun]
    · cases h
  case nilCheck x =>
    split at h
    · rename_i q off hx
      cases h
      have h1 := hev _ _ hx
      have h2 := h1
      simp only [VRel] at h1
      obtain ⟨p, hp, h1⟩ := h1
      exact ⟨ρ, rev x, w, ρ.le_refl, by rw [h1]; rfl, h2, hH⟩
    · rename_i f c hx
      cases h
      have h1 := hev _ _ hx
      have h2 := h1
      simp only [VRel] at h1
      obtain ⟨p, hp, h1⟩ := h1
      exact ⟨ρ, rev x, w, ρ.le_refl, by rw [h1]; rfl, h2, hH⟩
    · rename_i q hx
      cases h
      have h1 := hev _ _ hx
      have h2 := h1
      simp only [VRel] at h1
      obtain ⟨p, hp, h1⟩ := h1
      exact ⟨ρ, rev x, w, ρ.le_refl, by rw [h1]; rfl, h2, hH⟩
    · cases h
  case binOp bop t x y u =>
    split at h
    · rename_i a b ha hb
      cases hz : binOp E.S bop t x y a b with
      | none => simp [hz, val] at h
      | some z =>
        simp only [hz, val, Option.some.injEq, Prod.mk.injEq] at h
        obtain ⟨rfl, rfl⟩ := h
        obtain ⟨v, hrun, hv⟩ := binOp_sound hE.sig (w := w) hz (hev _ _ ha) (hev _ _ hb)
        exact ofRun hH hrun hv
    · cases h
  case unOp uop t x =>
    split at h
    · rename_i a ha
      cases hz : unOp uop a with
      | none => simp [hz, val] at h
      | some z =>
        simp only [hz, val, Option.some.injEq, Prod.mk.injEq] at h
        obtain ⟨rfl, rfl⟩ := h
        obtain ⟨v, hrun, hv⟩ := unOp_sound (P := P) (w := w) hz (hev _ _ ha)
        exact ofRun hH hrun hv
    · cases h
  case convert s d x =>
    split at h
    · rename_i a ha
      cases hz : convert E.S H s d a with
      | none => simp [hz, valH] at h
      | some z =>
        obtain ⟨z, H1⟩ := z
        simp only [hz, valH, Option.some.injEq, Prod.mk.injEq] at h
        obtain ⟨rfl, rfl⟩ := h
        exact (convert_sound (P := P) hE.sig hH hz (hev _ _ ha)).res
    · cases h
  case makeInterface t x =>
    split at h
    · cases h
    · rename_i d a hn hd hx
      cases h
      refine ofRun hH (v := .iface t (rev x)) ?_ (by simp only [VRel]; exact ⟨_, hev _ _ hx, rfl⟩)
      simp only [Instr.makeInterface, Sem.run_bind, run_und hE.sig w hd, Result.andThen_ok]
      cases d <;> first | rfl | exact absurd rfl (hn _)
    · cases h
  case makeFunc fn first cap =>
    cases fn with
    | func f =>
      simp only at h
      split at h
      · rename_i cs hcs
        split at h
        · rename_i hf
          cases h
          have hf' : first = #[] := by simpa using hf
          subst hf'
          have hr := mapM_rel hev hcs
          refine ofRun hH (v := .func (.func f) #[] (cap.map rev)) (by simp [Instr.makeFunc]) ?_
          simp only [VRel]
          exact ⟨_, hr, by rw [← Array.toList_map]⟩
        · cases h
      · cases h
    | _ => simp at h
  case makeMap t rsv =>
    cases rsv with
    | none =>
      simp only [Option.some.injEq, Prod.mk.injEq] at h
      obtain ⟨rfl, rfl⟩ := h
      refine ValOK.res ⟨ρ.with H.next ⟨w.heap.size, 0, 0, Go.undef⟩, .map (some w.heap.size), w.alloc (.map #[] 0), hH.le_with _, ?_, ?_, ?_⟩
      · simp [Instr.makeMap]
      · simp only [VRel]; exact ⟨_, Places.with_same _ _ _, rfl⟩
      · exact hH.new rfl (by simp only [ORel]; exact ⟨trivial, [], rfl, .nil⟩) (Added.alloc w _)
    | some x => simp at h
  case makeSlice t l c =>
    split at h
    · rename_i e kl l' kc c' hu hl hc
      split at h
      · rename_i n b z hn hb hz
        split at h
        · rename_i hcond
          simp only [Bool.and_eq_true, decide_eq_true_eq, blt_iff, ble_iff, beq_iff] at hcond
          cases h
          have h1 := hev _ _ hl
          have h2 := hev _ _ hc
          simp only [VRel] at h1 h2
          have := makeSlice_sound (P := P) (kl := kl) (kc := kc) hE hH hu hn hb hz ⟨hcond.1.1.1.1.1, hcond.1.1.1.1.2, hcond.1.1.1.2, hcond.1.1.2, hcond.1.2, hcond.2⟩
          rw [h1, h2]
          exact this.res
        · cases h
      · cases h
    · cases h
  case slice t x lo hi mx =>
    split at h
    · rename_i v lo' hi' mx' hx hlo hhi hmx
      cases hz : slice E.S t v lo' hi' mx' with
      | none => simp [hz, val] at h
      | some z =>
        simp only [hz, val, Option.some.injEq, Prod.mk.injEq] at h
        obtain ⟨rfl, rfl⟩ := h
        have o1 := optOp_rel hev hlo
        have o2 := optOp_rel hev hhi
        have o3 := optOp_rel hev hmx
        obtain ⟨u, hrun, hu⟩ := slice_sound hE.sig (w := w) hz (hev _ _ hx) o1.1 o1.2 o2.1 o2.2 o3.1 o3.2
        exact ofRun hH hrun hu
    · cases h
  case fieldAddr t x f =>
    split at h
    · rename_i u o q off hf hx
      split at h
      · rename_i n hn
        split at h
        · rename_i hpos
          rw [blt_iff] at hpos
          cases h
          obtain ⟨v, hrun, hv⟩ := fieldAddr_sound hE.sig (w := w) hf hn hpos (hev _ _ hx)
          exact ofRun hH hrun hv
        · cases h
      · cases h
    · cases h
  case field t x f =>
    split at h
    · rename_i u o cs hf hx
      cases hz : part E.S u cs o with
      | none => simp [hz, val] at h
      | some z =>
        simp only [hz, val, Option.some.injEq, Prod.mk.injEq] at h
        obtain ⟨rfl, rfl⟩ := h
        obtain ⟨v, hrun, hv⟩ := fieldVal_sound hE.sig (w := w) hf hz (hev _ _ hx)
        exact ofRun hH hrun hv
    · cases h
  case indexAddr t x i =>
    split at h
    · rename_i v k i' hx hi
      cases hz : indexAddr E.S t v i' with
      | none => simp [hz, val] at h
      | some z =>
        simp only [hz, val, Option.some.injEq, Prod.mk.injEq] at h
        obtain ⟨rfl, rfl⟩ := h
        have h1 := hev _ _ hi
        simp only [VRel] at h1
        obtain ⟨u, hrun, hu⟩ := indexAddr_sound hE.sig (w := w) (k := k) hz (hev _ _ hx)
        rw [← h1] at hrun
        exact ofRun hH hrun hu
    · cases h
  case index t x i =>
    split at h
    · rename_i v k i' hx hi
      cases hz : index E.S t v i' with
      | none => simp [hz, val] at h
      | some z =>
        simp only [hz, val, Option.some.injEq, Prod.mk.injEq] at h
        obtain ⟨rfl, rfl⟩ := h
        have h1 := hev _ _ hi
        simp only [VRel] at h1
        obtain ⟨u, hrun, hu⟩ := index_sound hE.sig (w := w) (k := k) hz (hev _ _ hx)
        rw [← h1] at hrun
        exact ofRun hH hrun hu
    · cases h
  case lookup t m k ok =>
    split at h
    · rename_i m' k' hm hk
      cases hz : lookup E.S H t m' k' ok with
      | none => simp [hz, val] at h
      | some z =>
        simp only [hz, val, Option.some.injEq, Prod.mk.injEq] at h
        obtain ⟨rfl, rfl⟩ := h
        obtain ⟨u, hrun, hu⟩ := lookup_sound (P := P) hE.sig hH hz (hev _ _ hm) (hev _ _ hk)
        exact ofRun hH hrun hu
    · cases h
  case mapUpdate t m k x =>
    split at h
    · rename_i m' k' x' hm hk hx
      cases hz : mapUpdate E.S H t m' k' x' with
      | none => simp [hz, skipH] at h
      | some H1 =>
        simp only [hz, skipH, Option.some.injEq, Prod.mk.injEq] at h
        obtain ⟨rfl, rfl⟩ := h
        exact (mapUpdate_sound (P := P) hE.sig hH hz (hev _ _ hm) (hev _ _ hk) (hev _ _ hx)).res
    · cases h
  case insert t m k x =>
    split at h
    · rename_i m' k' x' hm hk hx
      cases hz : mapUpdate E.S H t m' k' x' with
      | none => simp [hz, skipH] at h
      | some H1 =>
        simp only [hz, skipH, Option.some.injEq, Prod.mk.injEq] at h
        obtain ⟨rfl, rfl⟩ := h
        exact (mapUpdate_sound (P := P) hE.sig hH hz (hev _ _ hm) (hev _ _ hk) (hev _ _ hx)).res
    · cases h
  case mapEntry t m k =>
    split at h
    · rename_i m' k' hm hk
      cases hz : mapEntry E.S H t m' k' with
      | none => simp [hz, valH] at h
      | some z =>
        obtain ⟨z, H1⟩ := z
        simp only [hz, valH, Option.some.injEq, Prod.mk.injEq] at h
        obtain ⟨rfl, rfl⟩ := h
        exact (mapEntry_sound (P := P) hE.sig hH hz (hev _ _ hm) (hev _ _ hk)).res
    · cases h
  case entryStore t m s x =>
    split at h
    · rename_i m' s' x' hm hs hx
      cases hz : entryStore H m' s' x' with
      | none => simp [hz, skipH] at h
      | some H1 =>
        simp only [hz, skipH, Option.some.injEq, Prod.mk.injEq] at h
        obtain ⟨rfl, rfl⟩ := h
        exact (entryStore_sound (P := P) hH hz (hev _ _ hm) (hev _ _ hs) (hev _ _ hx)).res
    · cases h
  case range t x =>
    split at h
    · rename_i v hx
      cases hz : range E H t v with
      | none => simp [hz, valH] at h
      | some z =>
        obtain ⟨z, H1⟩ := z
        simp only [hz, valH, Option.some.injEq, Prod.mk.injEq] at h
        obtain ⟨rfl, rfl⟩ := h
        exact (range_sound (P := P) hE.sig hH rfl hz (hev _ _ hx)).res
    · cases h
  case next it s =>
    split at h
    · rename_i v hx
      exact nextHandles (P := P) hH h (hev _ _ hx) rfl
    · cases h
  case entry it =>
    split at h
    · rename_i v hx
      cases hz : entry H v with
      | none => simp [hz, val] at h
      | some z =>
        simp only [hz, val, Option.some.injEq, Prod.mk.injEq] at h
        obtain ⟨rfl, rfl⟩ := h
        obtain ⟨u, hrun, hu⟩ := entry_sound (P := P) hH hz (hev _ _ hx)
        exact ofRun hH hrun hu
    · cases h
  case extract t i =>
    split at h
    · rename_i vs hx
      cases hz : vs[i]? with
      | none => simp [hz, val] at h
      | some z =>
        simp only [hz, val, Option.some.injEq, Prod.mk.injEq] at h
        obtain ⟨rfl, rfl⟩ := h
        have h1 := hev _ _ hx
        simp only [VRel] at h1
        obtain ⟨us, hus, h1⟩ := h1
        obtain ⟨u, hu1, hu2⟩ := hus.get hz
        refine ofRun hH ?_ hu2
        rw [h1]
        simp [Instr.extract, hu1]
    · cases h
  case call c =>
    unfold call at h
    split at h
    · cases h
    · rename_i args hargs
      have hr := mapM_rel hev hargs
      have hr' : VRelL ρ args (c.args.map rev).toList := by rw [Array.toList_map]; exact hr
      split at h
      · rename_i b hc
        have := builtin_sound (P := P) (ty := o.type) (cs := c.args.map fun | .const _ => true | _ => false) hE hH h hr'
        refine this.congr ?_
        have e : ((c.args.map rev).toList).toArray = c.args.map rev := rfl
        rw [e]
        simp only [resolve, hc, Sem.run_bind, Sem.run_pure, Result.andThen_ok, Go.invoke]
        rfl
      · rename_i f hc
        split at h
        · rename_i g hg
          have := invoke_sound (P := P) (w := w) hE hH h (hev _ _ hg) hr'
          refine this.congr ?_
          simp only [resolve, hc]
        · cases h
      · cases h
  case sliceToArrayPointer t x =>
    split at h
    · rename_i n e q off len cap hu hx
      split at h
      · rename_i hc
        simp only [Bool.and_eq_true, ble_iff, blt_iff] at hc
        cases h
        have h1 := hev _ _ hx
        simp only [VRel] at h1
        obtain ⟨p, a, c, hp, h1, hs⟩ := h1
        rcases hs with ⟨rfl, _, _⟩ | ⟨h0, _, _⟩
        · refine ofRun hH (v := .pointer (some ⟨p.blk, p.base + off, none⟩)) ?_ (by simp only [VRel]; exact ⟨p, hp, rfl⟩)
          rw [h1]
          simp [Instr.arrayAt, run_und hE.sig w hu, show ¬ len < n by omega]
        · omega
      · cases h
    · cases h
  all_goals cases h

end

end AM
end Go
