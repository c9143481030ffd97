/-
  An abstract machine over the model's code: its operations against the model's, the eighth part.
-/
import Derived.Test.YtogecpdhhlccaaaGreatDoorAmSound7
namespace Go
namespace AM
open Go.RowKit (Below)

section
variable {P : Program} {S : Sig} (hS : SigOK P S) {ρ : Places} {w0 w : World} {H : AHeap} (hH : HRel ρ w0 H w)

theorem beq_bool (a b : Nat) : Nat.beq a b = (a == b) := by
  cases h : Nat.beq a b with
  | true => rw [beq_iff] at h; simp [h]
  | false =>
    have : a ≠ b := fun e => by rw [beq_iff.2 e] at h; cases h
    simp [this]

theorem ble_bool (a b : Nat) : Nat.ble a b = decide (a ≤ b) := by
  cases h : Nat.ble a b with
  | true => rw [ble_iff] at h; simp [h]
  | false =>
    have : ¬ a ≤ b := fun e => by rw [ble_iff.2 e] at h; cases h
    simp [this]

theorem blt_bool (a b : Nat) : Nat.blt a b = decide (a < b) := by
  cases h : Nat.blt a b with
  | true => rw [blt_iff] at h; simp [h]
  | false =>
    have : ¬ a < b := fun e => by rw [blt_iff.2 e] at h; cases h
    simp [this]

include hS hH in
theorem delete_sound {t ty kt et : TypeId} {r clock : Nat} {es : List (AV × AV × Nat)} {k : AV} {mv kv : Value} {f : Option (Nat × AV × Nat)} (hu : S.und t = some (.map kt et)) (hg : H.get r = some (.map es clock)) (hok : keyOk S kt k = true)
    (hf : find S kt k es 0 = some f) (hm : VRel ρ (.map r) mv) (hk : VRel ρ k kv) :
    ∃ w', (Builtin.delete_ #[t, kt] ty #[mv, kv]).run P w = .ok (.tuple #[]) w' ∧ HRel ρ w0 (H.put r (.map (erased f es) clock)) w' := by
  simp only [VRel] at hm
  obtain ⟨p, hp, rfl⟩ := hm
  obtain ⟨fs, hb, hes, hbase⟩ := map_of hH hg hp
  have hget := run_getObj' (P := P) hb (fun _ _ _ e => by cases e)
  have hck := checkKey_sound hS (w := w) (b := fs.toArray.isEmpty) hok hk
  obtain ⟨r', hrun, hfr⟩ := findKey_sound hS (w := w) hk hok hf hes
  have hrun' : (Instr.findKey kt kv fs.toArray.toList).run P w = .ok r' w := hrun
  cases f with
  | some x =>
    obtain ⟨i, v, n⟩ := x
    obtain ⟨u, rfl, hv⟩ := hfr
    obtain ⟨w', hset, hch⟩ := run_setObj' (P := P) (.map (fs.toArray.eraseIdxIfInBounds i) clock) hb (fun _ _ _ e => by cases e)
    refine ⟨w', ?_, ?_⟩
    · simp only [Builtin.delete_, List.getElem?_toArray, List.getElem?_cons_zero, List.getElem?_cons_succ, Sem.run_bind, run_und hS w hu, Result.andThen_ok, hget, hck, hrun', hset, Sem.run_pure]
    · refine hH.put hp hg rfl ?_ hch
      simp only [ORel]
      exact ⟨hbase, fs.eraseIdx i, by simp, hes.erase i⟩
  | none =>
    simp only [FoundRel] at hfr; subst hfr
    obtain ⟨w', hset, hch⟩ := run_setObj' (P := P) (.map fs.toArray clock) hb (fun _ _ _ e => by cases e)
    refine ⟨w', ?_, ?_⟩
    · simp only [Builtin.delete_, List.getElem?_toArray, List.getElem?_cons_zero, List.getElem?_cons_succ, Sem.run_bind, run_und hS w hu, Result.andThen_ok, hget, hck, hrun', hset, Sem.run_pure]
    · refine hH.put hp hg rfl ?_ hch
      simp only [ORel]
      exact ⟨hbase, fs, rfl, hes⟩

include hS hH in
theorem range_sound {E : Env} (hE : E.S = S) {t : TypeId} {x z : AV} {v : Value} {H' : AHeap} (h : range E H t x = some (z, H')) (hv : VRel ρ x v) : ValOK P ρ w0 z H' (Instr.range t v) w := by
  unfold range at h
  rw [hE] at h
  split at h
  · rename_i s hu
    cases h
    simp only [VRel] at hv; subst hv
    refine ⟨ρ.with H.next ⟨w.heap.size, 0, 0, Go.undef⟩, .pointer (some ⟨w.heap.size, 0, none⟩), w.alloc (.stringIter ⟨s.toArray⟩ 0), hH.le_with _, ?_, ?_, ?_⟩
    · simp [Instr.range, run_und hS w hu]
    · simp only [VRel]; exact ⟨_, Places.with_same _ _ _, rfl⟩
    · exact hH.new rfl (by simp [ORel]) (Added.alloc w _)
  · rename_i a b hu
    cases h
    simp only [VRel] at hv; subst hv
    refine ⟨ρ.with H.next ⟨w.heap.size, 0, 0, Go.undef⟩, .pointer (some ⟨w.heap.size, 0, none⟩), w.alloc (.mapIter none 0 #[] 0), hH.le_with _, ?_, ?_, ?_⟩
    · simp [Instr.range, run_und hS w hu]
    · simp only [VRel]; exact ⟨_, Places.with_same _ _ _, rfl⟩
    · exact hH.new rfl (by simp [ORel]) (Added.alloc w _)
  · rename_i a b r hu
    split at h
    · rename_i es clock hg
      cases h
      simp only [VRel] at hv
      obtain ⟨p, hp, rfl⟩ := hv
      obtain ⟨fs, hb, hes, hbase⟩ := map_of hH hg hp
      have hget := run_getObj' (P := P) hb (fun _ _ _ e => by cases e)
      refine ⟨ρ.with H.next ⟨w.heap.size, 0, 0, Go.undef⟩, .pointer (some ⟨w.heap.size, 0, none⟩), w.alloc (.mapIter (some p.blk) clock #[] clock), hH.le_with _, ?_, ?_, ?_⟩
      · simp [Instr.range, run_und hS w hu, hget]
      · simp only [VRel]; exact ⟨_, Places.with_same _ _ _, rfl⟩
      · exact hH.new rfl (by simp only [ORel]; exact ⟨trivial, _, rfl, p, hp, rfl⟩) (Added.alloc w _)
    · cases h
  · cases h

include hH in
theorem entry_sound {x z : AV} {v : Value} (h : entry H x = some z) (hv : VRel ρ x v) : ∃ u, (Instr.entry v).run P w = .ok u w ∧ VRel ρ z u := by
  unfold entry at h
  split at h
  · rename_i r
    simp only [VRel] at hv
    obtain ⟨p, hp, rfl⟩ := hv
    split at h
    · rename_i m since seen stepped hg
      obtain ⟨O, hO, hR⟩ := hH.obj r p _ hp hg
      simp only [ORel] at hR
      obtain ⟨hb0, m', rfl, q, hq, rfl⟩ := hR
      have hget := run_getObj' (P := P) hO (fun _ _ _ e => by cases e)
      split at h
      · rename_i stamp es clock hst hgm
        obtain ⟨fs, hb, hes, hbase⟩ := map_of hH hgm hq
        have hget2 := run_getObj' (P := P) hb (fun _ _ _ e => by cases e)
        split at h
        · rename_i hc
          rw [beq_iff] at hc
          cases hf : es.find? (fun e => Nat.beq e.2.2 stamp) with
          | none => simp [hf] at h
          | some e =>
            simp [hf] at h; subst h
            obtain ⟨f, hff, fk, fv, fn⟩ := EsRel.find (q := fun n => Nat.beq n stamp) hes hf
            refine ⟨.tuple #[f.key, f.val], ?_, ?_⟩
            · have hback : seen.toArray.back? = some stamp := by simpa using hst
              have hfind : fs.toArray.find? (fun e => e.born == stamp) = some f := by
                rw [List.find?_toArray, ← hff]
                congr 1
                funext e
                exact (beq_bool _ _).symm
              simp only [Instr.entry, hb0, Nat.zero_add, Sem.run_bind, hget, Result.andThen_ok, hback, hget2]
              simp [hc, hfind]
            · simp only [VRel]
              exact ⟨[f.key, f.val], .cons fk (.cons fv .nil), rfl⟩
        · cases h
      · cases h
    · cases h
  · cases h

/-- What comes of one of several. -/
def AnyOK (P : Program) (ρ : Places) (w0 : World) (l : List (AV × AHeap)) (s : Sem Value) (w : World) : Prop :=
  ∃ x H', (x, H') ∈ l ∧ ValOK P ρ w0 x H' s w

/-- A step of a string's runes. -/
theorem next_string {r pos : Nat} {s : List UInt8} {p : Place} (hH : HRel ρ w0 H w) (hg : H.get r = some (.siter s pos)) (hp : ρ r = some p) (ty : TypeId) :
    (pos < s.length → ValOK P ρ w0 (.tuple [.bool true, .int .i64 pos, .int .i32 (Utf8.decode ⟨s.toArray⟩ pos).1]) (H.put r (.siter s (pos + (Utf8.decode ⟨s.toArray⟩ pos).2))) (Instr.next (.pointer (some ⟨p.blk, p.base + 0, none⟩)) true ty) w) ∧
    (¬ pos < s.length → ValOK P ρ w0 (.tuple [.bool false]) H (Instr.next (.pointer (some ⟨p.blk, p.base + 0, none⟩)) true ty) w) := by
  obtain ⟨O, hO, hR⟩ := hH.obj r p _ hp hg
  simp only [ORel] at hR
  obtain ⟨hb0, rfl⟩ := hR
  have hget := run_getObj' (P := P) hO (fun _ _ _ e => by cases e)
  have hsz : (⟨s.toArray⟩ : ByteArray).size = s.length := by simp [ByteArray.size]
  constructor
  · intro hlt
    obtain ⟨w', hset, hch⟩ := run_setObj' (P := P) (.stringIter ⟨s.toArray⟩ (pos + (Utf8.decode ⟨s.toArray⟩ pos).2)) hO (fun _ _ _ e => by cases e)
    refine ⟨ρ, .tuple #[.bool true, .int .i64 pos, .int .i32 (Utf8.decode ⟨s.toArray⟩ pos).1], w', ρ.le_refl, ?_, ?_, ?_⟩
    · simp only [Instr.next, hb0, Nat.zero_add, Sem.run_bind, hget, Result.andThen_ok, hsz, if_pos hlt, hset, Sem.run_pure, goInt]
    · simp only [VRel]
      exact ⟨[.bool true, .int .i64 pos, .int .i32 _], .cons (by simp only [VRel]) (.cons (by simp only [VRel]) (.cons (by simp only [VRel]) .nil)), rfl⟩
    · refine hH.put hp hg rfl ?_ hch
      simp only [ORel]
      exact ⟨hb0, trivial⟩
  · intro hlt
    refine .same hH (v := .tuple #[.bool false]) ?_ (by simp only [VRel]; exact ⟨[.bool false], .cons (by simp only [VRel]) .nil, rfl⟩)
    simp only [Instr.next, hb0, Nat.zero_add, Sem.run_bind, hget, Result.andThen_ok, hsz, if_neg hlt, Sem.run_pure]

/-- A step over a map. -/
theorem next_map {r m clock since last : Nat} {seen : List Nat} {es : List (AV × AV × Nat)} {p : Place} (hH : HRel ρ w0 H w) (hg : H.get r = some (.iter (some m) since seen last)) (hgm : H.get m = some (.map es clock)) (hp : ρ r = some p) (ty : TypeId)
    (hall : (!seen.isEmpty && !es.isEmpty && es.all (fun e => Nat.ble last e.2.2)) = false) :
    AnyOK P ρ w0 ((bif ((es.filter fun e => !seen.any (Nat.beq e.2.2)).filter fun e => Nat.blt e.2.2 since).isEmpty then [(AV.tuple [.bool false], H)] else []) ++
        (((es.filter fun e => !seen.any (Nat.beq e.2.2)).filter fun e => Nat.blt e.2.2 since) ++ ((es.filter fun e => !seen.any (Nat.beq e.2.2)).filter fun e => Nat.ble since e.2.2)).map
          fun e => (AV.tuple [.bool true, e.1, e.2.1], H.put r (.iter (some m) since (seen ++ [e.2.2]) clock)))
      (Instr.next (.pointer (some ⟨p.blk, p.base + 0, none⟩)) false ty) w := by
  obtain ⟨O, hO, hR⟩ := hH.obj r p _ hp hg
  simp only [ORel] at hR
  obtain ⟨hb0, m', rfl, q, hq, rfl⟩ := hR
  obtain ⟨fs, hb, hes, hbase⟩ := map_of hH hgm hq
  have hget := run_getObj' (P := P) hO (fun _ _ _ e => by cases e)
  have hget2 := run_getObj' (P := P) hb (fun _ _ _ e => by cases e)
  have hf1 := EsRel.filter (q := fun n => !seen.any (Nat.beq n)) hes
  have hold := EsRel.filter (q := fun n => Nat.blt n since) hf1
  have hnew := EsRel.filter (q := fun n => Nat.ble since n) hf1
  obtain ⟨left, hleft⟩ : ∃ l, fs.filter (fun f => !seen.any (Nat.beq f.born)) = l := ⟨_, rfl⟩
  rw [hleft] at hf1 hold hnew
  have e1 : fs.toArray.filter (fun e => !seen.toArray.contains e.born) = left.toArray := by
    rw [← hleft]
    apply Array.ext'
    simp only [Array.toList_filter]
    congr 1
    funext f
    congr 1
    rw [List.contains_toArray, List.contains_eq_any_beq]
    congr 1
    funext a
    exact (beq_bool _ _).symm
  have e2 : left.toArray.filter (fun e => decide (e.born < since)) = (left.filter fun f => Nat.blt f.born since).toArray := by
    apply Array.ext'
    simp [blt_bool]
  have e3 : left.toArray.filter (fun e => decide (e.born ≥ since)) = (left.filter fun f => Nat.ble since f.born).toArray := by
    apply Array.ext'
    simp [ble_bool]
  have e4 : (!seen.toArray.isEmpty && !fs.toArray.isEmpty && fs.toArray.all (fun e => decide (e.born ≥ last))) = false := by
    rw [← hall]
    have hl := hes.length
    have h1 : seen.toArray.isEmpty = seen.isEmpty := by simp
    have h2 : fs.toArray.isEmpty = es.isEmpty := by cases fs <;> cases es <;> simp_all
    have h3 : fs.toArray.all (fun e => decide (e.born ≥ last)) = es.all (fun e => Nat.ble last e.2.2) := by
      rw [← EsRel.all (q := fun n => Nat.ble last n) hes]
      simp [ble_bool]
    rw [h1, h2, h3]
  obtain ⟨oldL, hoL⟩ : ∃ l, left.filter (fun f => Nat.blt f.born since) = l := ⟨_, rfl⟩
  obtain ⟨newL, hnL⟩ : ∃ l, left.filter (fun f => Nat.ble since f.born) = l := ⟨_, rfl⟩
  rw [hoL] at hold e2
  rw [hnL] at hnew e3
  obtain ⟨cands, hcands⟩ : ∃ c : List (Option MapEntry), (if oldL.isEmpty then [none] else []) ++ (oldL ++ newL).map some = c := ⟨_, rfl⟩
  have e5 : ((if oldL.toArray.isEmpty then #[none] else #[]) ++ (oldL.toArray ++ newL.toArray).map some : Array (Option MapEntry)) = cands.toArray := by
    rw [← hcands]
    apply Array.ext'
    by_cases he : oldL = [] <;> simp [he]
  have hpos : 0 < cands.length := by
    rw [← hcands]
    cases oldL <;> simp
  -- the draw
  have hdraw : ∃ k W, k < cands.length ∧ (choose (.mapNext cands.toArray.size)).run P w = .ok k W ∧ W.heap = w.heap ∧ HRel ρ w0 H W := by
    rw [run_choose]
    have hsz : cands.toArray.size = cands.length := by simp
    rw [hsz]
    by_cases h1 : cands.length ≤ 1
    · exact ⟨0, w, hpos, by simp [Question.forced, h1], rfl, hH⟩
    · exact ⟨w.tape w.drawn (Question.mapNext cands.length) % cands.length, w.drew, Nat.mod_lt _ hpos, by simp [Question.forced, h1, Question.cut], rfl, hH.drew⟩
  obtain ⟨k, W, hk, hrun, hheap, hHW⟩ := hdraw
  have hO' : W.heap[p.blk]? = some (.mapIter (some q.blk) since seen.toArray last) := by rw [hheap]; exact hO
  have hcand : cands.toArray[k]? = some cands[k] := by simp [hk]
  have hmem : cands[k] ∈ cands := List.getElem_mem hk
  cases hc : cands[k] with
  | none =>
    rw [hc] at hcand hmem
    have hoe : oldL = [] := by
      rw [← hcands] at hmem
      cases oldL with
      | nil => rfl
      | cons a l => simp at hmem
    have hae : ((es.filter fun e => !seen.any (Nat.beq e.2.2)).filter fun e => Nat.blt e.2.2 since) = [] := by
      have := hold.length
      rw [hoe] at this
      exact List.length_eq_zero_iff.1 this.symm
    refine ⟨.tuple [.bool false], H, ?_, ρ, .tuple #[.bool false], W, ρ.le_refl, ?_, ?_, hHW⟩
    · rw [hae]; simp
    · simp only [Instr.next, hb0, Nat.zero_add, Sem.run_bind, hget, Result.andThen_ok, hget2, e4, e1, e2, e3, e5, Bool.false_eq_true, if_false, hrun, hcand, Sem.run_pure]
    · simp only [VRel]; exact ⟨[.bool false], .cons (by simp only [VRel]) .nil, rfl⟩
  | some f =>
    rw [hc] at hcand hmem
    have hf : f ∈ oldL ++ newL := by
      rw [← hcands] at hmem
      rcases List.mem_append.1 hmem with h | h
      · split at h <;> simp at h
      · simpa using h
    obtain ⟨e, he, fk, fv, fn⟩ := EsRel.mem (hold.append hnew) hf
    obtain ⟨w', hset, hch⟩ := run_setObj' (P := P) (.mapIter (some q.blk) since (seen.toArray.push f.born) clock) hO' (fun _ _ _ e => by cases e)
    refine ⟨.tuple [.bool true, e.1, e.2.1], H.put r (.iter (some m) since (seen ++ [e.2.2]) clock), ?_, ρ, .tuple #[.bool true, f.key, f.val], w', ρ.le_refl, ?_, ?_, ?_⟩
    · exact List.mem_append.2 (.inr (List.mem_map.2 ⟨e, he, rfl⟩))
    · simp only [Instr.next, hb0, Nat.zero_add, Sem.run_bind, hget, Result.andThen_ok, hget2, e4, e1, e2, e3, e5, Bool.false_eq_true, if_false, hrun, hcand, hset, Sem.run_pure]
    · simp only [VRel]; exact ⟨[.bool true, f.key, f.val], .cons (by simp only [VRel]) (.cons fk (.cons fv .nil)), rfl⟩
    · refine hHW.put hp hg rfl ?_ hch
      simp only [ORel]
      exact ⟨hb0, some q.blk, by rw [fn]; simp, q, hq, rfl⟩

end

end AM
end Go
