/-
  An abstract machine over the model's code: its operations against the model's, the sixth part.
-/
import Derived.Test.YtogecpdhhlccaaaGreatDoorAmSound5
import Derived.Laws.Append
namespace Go
namespace AM
open Go.RowKit (Below)

section
variable {P : Program} {S : Sig} (hS : SigOK P S) {ρ : Places} {w0 w : World} {H : AHeap} (hH : HRel ρ w0 H w)

theorem cells_prefix {H : AHeap} {r off n k : Nat} {cs : List AV} (h : H.cells r off n = some cs) (hk : k ≤ n) : H.cells r off k = some (cs.take k) := by
  unfold AHeap.cells at h ⊢
  split at h
  · rename_i all b hrow
    split at h
    · rename_i hle
      cases h
      rw [if_pos (by omega), List.take_take, Nat.min_eq_left hk]
    · cases h
  · cases h

include hH in
/-- The first cells of what is read of a slice. -/
theorem firstCells_slice {r off len n k size c : Nat} {cap : Cap} {p : Place} {a : Addr} {cs : List AV} (hp : ρ r = some p) (hs : SliceAt p off len cap a c) (h : H.cells r off (n * size) = some cs) (hk : k ≤ n) (hn : n ≤ len) :
    ∃ vs, VRelL ρ (cs.take (k * size)) vs ∧ vs.length = k * size ∧ ∀ (P : Program) (len' cap' : Nat), (Builtin.firstCells size k (.slice (some a) len' cap')).run P w = .ok vs.toArray w := by
  have h' := cells_prefix h (Nat.mul_le_mul_right size hk)
  obtain ⟨vs, hv, hl, _, hrun⟩ := cells_of hH h' hp
  refine ⟨vs, hv, hl, fun P len' cap' => ?_⟩
  simp only [Builtin.firstCells]
  rcases hs with ⟨rfl, _, _⟩ | ⟨h0, _, _⟩
  · exact hrun P
  · have : k = 0 := by omega
    subst this
    simp only [Nat.zero_mul] at hl ⊢
    have : vs = [] := List.length_eq_zero_iff.1 hl
    subst this
    simp [loadCells, loadCellsFrom]

include hH in
theorem elems_sound {size m : Nat} {x : AV} {cs : List AV} {v : Value} (h : elems H size x = some (m, cs)) (hv : VRel ρ x v) :
    cs.length = m * size ∧ (∀ P : Program, (Builtin.lenOf v).run P w = .ok m w) ∧ ∀ k, k ≤ m → ∃ vs, VRelL ρ (cs.take (k * size)) vs ∧ vs.length = k * size ∧ ∀ P : Program, (Builtin.firstCells size k v).run P w = .ok vs.toArray w := by
  unfold elems at h
  split at h
  · cases h
    simp only [VRel] at hv; subst hv
    refine ⟨by simp, fun P => by simp [Builtin.lenOf], fun k hk => ?_⟩
    have e : k = 0 := by omega
    subst e
    exact ⟨[], by simp [VRelL.nil], by simp, fun P => by simp [Builtin.firstCells]⟩
  · rename_i r off n cap
    cases hc : H.cells r off (n * size) with
    | none => simp [hc] at h
    | some cs' =>
      simp [hc] at h
      obtain ⟨rfl, rfl⟩ := h
      simp only [VRel] at hv
      obtain ⟨p, a, c, hp, rfl, hs⟩ := hv
      obtain ⟨_, _, _, hcl, _⟩ := cells_of hH hc hp
      refine ⟨hcl, fun P => by simp [Builtin.lenOf], fun k hk => ?_⟩
      obtain ⟨vs, h1, h2, h3⟩ := firstCells_slice hH hp hs hc hk (Nat.le_refl _)
      exact ⟨vs, h1, h2, fun P => h3 P _ _⟩
  · rename_i s
    split at h
    · rename_i h1
      rw [beq_iff] at h1
      subst h1
      cases h
      simp only [VRel] at hv; subst hv
      have hsz : (⟨s.toArray⟩ : ByteArray).size = s.length := by simp [ByteArray.size]
      refine ⟨by simp [byteCells], fun P => by simp [Builtin.lenOf, hsz], fun k hk => ?_⟩
      refine ⟨((s.take k).map fun b => Value.int .u8 (b.toNat : Int)), ?_, by simp; omega, fun P => ?_⟩
      · have := byteCells_rel (ρ := ρ) (s.take k)
        simpa [byteCells, List.map_take] using this
      · simp only [Builtin.firstCells]
        rw [extract_bytes]
        simp
    · cases h
  · cases h

/-- Zeroes behind a slice's elements. -/
theorem zeroCells_size (z : Array Value) (n : Nat) : (Builtin.zeroCells z n).size = n * z.size := by simp [Builtin.zeroCells]

include hS in
/-- An append that makes a new row. -/
theorem run_append_grow' {t u e : TypeId} {d : TypeDesc} {ty : TypeId} {n b : Nat} {z : AV} (ht : S.und t = some (.slice e)) (hu : S.und u = some d) (hd : appendable d = true)
    (hn : S.size e = some n) (hb : S.bytes e = some b) (hz : S.zero e = some z) (hzl : z.cells.length = n) {base : Option Addr} {sLen sCap m : Nat} {x : Value} {olds news : List Value}
    (hlen : (Builtin.lenOf x).run P w = .ok m w) (hold : (Builtin.firstCells n sLen (.slice base sLen sCap)).run P w.drew = .ok olds.toArray w.drew)
    (hnew : (Builtin.firstCells n m x).run P w.drew = .ok news.toArray w.drew)
    (hgrow : sCap < sLen + m) (hbytes : (sLen + m) * b ≤ 17592186044416) (hmax : sLen + m ≤ 17592186044416) :
    ∃ c rest w', sLen + m ≤ c ∧ rest.length = (c - (sLen + m)) * n ∧ (Builtin.append_ #[t, u] ty #[.slice base sLen sCap, x]).run P w = .ok (.slice (some ⟨w.heap.size, 0, none⟩) (sLen + m) c) w' ∧
      Added w (.cells (olds ++ news ++ rest).toArray e (0, 0)) w' := by
  obtain ⟨zv, hzv, hr⟩ := run_zero hS w.drew hz
  have hzs := (hr fun _ => Option.none).cells.length
  simp only [Array.length_toList] at hzs
  obtain ⟨i, hi, hib⟩ := hS.bytes e b hb
  obtain ⟨c, hc⟩ : ∃ c, (Question.appendCap (sLen + m) sCap e).cut (w.tape w.drawn (Question.appendCap (sLen + m) sCap e)) = c := ⟨_, rfl⟩
  have hle : sLen + m ≤ c := by rw [← hc]; simp only [Question.cut]; omega
  refine ⟨c, (Builtin.zeroCells zv.cells (c - (sLen + m))).toList, w.drew.alloc (.cells (olds ++ news ++ (Builtin.zeroCells zv.cells (c - (sLen + m))).toList).toArray e), hle, ?_, ?_, ?_⟩
  · simp [zeroCells_size, hzs, hzl]
  · have hfit := growslice_fits (bytes := b) hgrow (by omega)
    have hmm : ¬ ((sLen + m : Nat) : Int) > IntKind.i64.max := by
      have : IntKind.i64.max = 9223372036854775807 := by decide
      omega
    have hz0 : (∃ e', d = .slice e') ∨ d = .string := by cases d <;> simp_all [appendable]
    rcases hz0 with ⟨e', rfl⟩ | rfl
    all_goals
      simp only [Builtin.append_, List.getElem?_toArray, List.getElem?_cons_zero, List.getElem?_cons_succ, Sem.run_bind, run_und hS w ht, Result.andThen_ok, run_size hS w hn, run_und hS w hu, Sem.run_pure, Bool.false_eq_true, if_false, hlen]
      simp only [if_neg (show ¬ sLen + m ≤ sCap by omega)]
      simp only [Sem.run_bind, run_info w hi, Result.andThen_ok, hib, Sem.run_ite, if_neg (show ¬ Builtin.nextslicecap (sLen + m) sCap * b > 2 ^ 48 by omega), hmm, false_and, if_false, Sem.run_pure, run_choose, Question.forced, Bool.false_eq_true, hc, run_askRoom, Bool.not_false, if_true, World.drew_eq]
      simp only [run_info w.drew hi, Result.andThen_ok, hold, hnew, hzv, newRow, Sem.run_bind, run_newObj, Sem.run_pure]
      have harr : olds.toArray ++ news.toArray ++ Builtin.zeroCells zv.cells (c - (sLen + m)) = (olds ++ news ++ (Builtin.zeroCells zv.cells (c - (sLen + m))).toList).toArray := by
        apply Array.ext'
        simp
      rw [harr]
      rfl
  · exact (Added.alloc w.drew _).drew

include hS in
/-- An append that stays where it is. -/
theorem run_append_room' {t u e : TypeId} {d : TypeDesc} {ty : TypeId} {n : Nat} (ht : S.und t = some (.slice e)) (hu : S.und u = some d) (hd : appendable d = true)
    (hn : S.size e = some n) {base : Option Addr} {sLen sCap m : Nat} {x : Value} {news : List Value}
    (hlen : (Builtin.lenOf x).run P w = .ok m w) (hnew : (Builtin.firstCells n m x).run P w = .ok news.toArray w) (hroom : sLen + m ≤ sCap) {w' : World}
    (hst : match base with | some a => (storeCells (a.add (sLen * n)) news).run P w = .ok () w' | none => w' = w) :
    (Builtin.append_ #[t, u] ty #[.slice base sLen sCap, x]).run P w = .ok (.slice base (sLen + m) sCap) w' := by
  have hz0 : (∃ e', d = .slice e') ∨ d = .string := by cases d <;> simp_all [appendable]
  rcases hz0 with ⟨e', rfl⟩ | rfl
  all_goals
    simp only [Builtin.append_, List.getElem?_toArray, List.getElem?_cons_zero, List.getElem?_cons_succ, Sem.run_bind, run_und hS w ht, Result.andThen_ok, run_size hS w hn, run_und hS w hu, Sem.run_pure, Bool.false_eq_true, if_false, hlen]
    simp only [if_pos hroom]
    simp only [Sem.run_bind, Bool.not_false, if_true, hnew, Result.andThen_ok]
    cases base with
    | none => simp only at hst; subst hst; simp
    | some a => simp only at hst; simp [hst]

include hS hH in
theorem append_sound {t u e : TypeId} {d : TypeDesc} {ty : TypeId} {n b m : Nat} {z s x y : AV} {news : List AV} {vs vx : Value} {H' : AHeap} (ht : S.und t = some (.slice e)) (hu : S.und u = some d)
    (hd : appendable d = true) (hn : S.size e = some n) (hb : S.bytes e = some b) (hz : S.zero e = some z) (hzl : z.cells.length = n)
    (he : elems H n x = some (m, news)) (h : append H n b s news m = some (y, H')) (hvs : VRel ρ s vs) (hvx : VRel ρ x vx) : ValOK P ρ w0 y H' (Builtin.append_ #[t, u] ty #[vs, vx]) w := by
  obtain ⟨hnl, hlen, hfirst⟩ := elems_sound hH he hvx
  obtain ⟨nv, hnv, hnvl, hnrun⟩ := hfirst m (Nat.le_refl _)
  obtain ⟨_, _, hfirst2⟩ := elems_sound hH.drew he hvx
  obtain ⟨nv2, hnv2, hnvl2, hnrun2⟩ := hfirst2 m (Nat.le_refl _)
  have htk : news.take (m * n) = news := List.take_of_length_le (by omega)
  rw [htk] at hnv hnv2
  unfold append at h
  split at h
  · cases h
  · rename_i hc
    simp only [Bool.not_eq_true', Bool.not_eq_false, Bool.and_eq_true, blt_iff, beq_iff] at hc
    obtain ⟨⟨hpos, hone⟩, _⟩ := hc
    split at h
    · -- the nil slice
      simp only [VRel] at hvs; subst hvs
      split at h
      · rename_i hm
        rw [beq_iff] at hm
        subst hm
        cases h
        refine .same hH (v := .slice none 0 0) ?_ (by simp only [VRel])
        exact run_append_room' hS (w := w) ht hu hd hn (hlen P) (hnrun P) (by omega) rfl
      · rename_i hm
        rw [beq_iff] at hm
        split at h
        · rename_i hb2
          simp only [Bool.and_eq_true, ble_iff] at hb2
          cases h
          obtain ⟨c, rest, w', hle, hrl, hrun, hadd⟩ := run_append_grow' hS (w := w) (ty := ty) ht hu hd hn hb hz hzl (base := none) (sLen := 0) (sCap := 0) (olds := []) (hlen P) (by simp [Builtin.firstCells]) (hnrun2 P) (by omega) (by simpa using hb2.1) (by simpa using hb2.2)
          simp only [Nat.zero_add, List.nil_append] at hle hrl hrun hadd
          refine ⟨ρ.with H.next ⟨w.heap.size, 0, nv2.length + rest.length, Go.undef⟩, _, w', hH.le_with _, hrun, ?_, ?_⟩
          · simp only [VRel]
            refine ⟨_, _, _, Places.with_same _ _ _, rfl, .inl ⟨rfl, hle, hpos, Nat.zero_le _, ?_⟩⟩
            simp only [Nat.sub_zero, hnvl2, hrl]
            rw [← Nat.add_mul, show m + (c - m) = c by omega, Nat.mul_div_cancel _ hpos]
          · refine hH.new rfl ?_ hadd
            simp only [ORel]
            refine ⟨_, e, (0, 0), rfl, by simp, by omega, ⟨nv2, hnv2, fun j hj => ?_⟩, fun _ j _ hk => by omega⟩
            simp only [List.getElem?_toArray, Nat.zero_add]
            rw [List.getElem?_append_left (by omega)]
        · cases h
    · -- a slice
      rename_i r off len cap
      simp only [VRel] at hvs
      obtain ⟨p, a, c, hp, rfl, hsl⟩ := hvs
      have hlc : len ≤ c := by rcases hsl with ⟨_, hle, _⟩ | ⟨h0, hc0, _⟩ <;> omega
      split at h
      · rename_i hm
        rw [beq_iff] at hm
        subst hm
        cases h
        refine .same hH (v := .slice (some a) len c) ?_ (by simp only [VRel]; exact ⟨p, a, c, hp, rfl, hsl⟩)
        have hnil : nv = [] := List.length_eq_zero_iff.1 (by omega)
        subst hnil
        exact run_append_room' hS (w := w) ht hu hd hn (hlen P) (hnrun P) (by omega) (by simp [storeCells])
      · rename_i hm
        rw [beq_iff] at hm
        split at h
        · cases h
        · rename_i hb2
          simp only [Bool.not_eq_true', Bool.not_eq_false, Bool.and_eq_true, ble_iff] at hb2
          -- a new row
          have fresh : ∀ (H1 : AHeap) (olds : List AV), HRel ρ w0 H1 w → H1.next = H.next → c < len + m → H.cells r off (len * n) = some olds → y = .slice H.next 0 (len + m) (.more n) → H' = H1.new (.row (olds ++ news) true) →
              ValOK P ρ w0 y H' (Builtin.append_ #[t, u] ty #[.slice (some a) len c, vx]) w := by
            intro H1 olds hH1 hnx hgrow hcells hy hH2
            obtain ⟨ov, hov, hovl, hovrun⟩ := firstCells_slice hH.drew (k := len) (n := len) (size := n) hp hsl hcells (Nat.le_refl _) (Nat.le_refl _)
            obtain ⟨_, _, _, hcl, _⟩ := cells_of hH hcells hp
            rw [List.take_of_length_le (by omega)] at hov
            obtain ⟨c', rest, w', hle, hrl, hrun, hadd⟩ := run_append_grow' hS (w := w) (ty := ty) ht hu hd hn hb hz hzl (hlen P) (hovrun P len c) (hnrun2 P) hgrow hb2.1 hb2.2
            have hcat : VRelL ρ (olds ++ news) (ov ++ nv2) := hov.append hnv2
            have hsz : (ov ++ nv2).length = (len + m) * n := by simp [hovl, hnvl2, Nat.add_mul]
            subst hy hH2
            refine ⟨ρ.with H1.next ⟨w.heap.size, 0, (ov ++ nv2).length + rest.length, Go.undef⟩, _, w', hH1.le_with _, hrun, ?_, ?_⟩
            · rw [← hnx]
              simp only [VRel]
              refine ⟨_, _, _, Places.with_same _ _ _, rfl, .inl ⟨rfl, hle, hpos, Nat.zero_le _, ?_⟩⟩
              simp only [Nat.sub_zero, hsz, hrl]
              rw [← Nat.add_mul, show len + m + (c' - (len + m)) = c' by omega, Nat.mul_div_cancel _ hpos]
            · refine hH1.new rfl ?_ hadd
              simp only [ORel]
              have hl := hcat.length
              refine ⟨_, e, (0, 0), rfl, by simp; omega, by omega, ⟨_, hcat, fun j hj => ?_⟩, fun _ j _ hk => by omega⟩
              simp only [List.getElem?_toArray, Nat.zero_add]
              rw [List.getElem?_append_left (by omega)]
          split at h
          · -- a capacity that is known
            rename_i k cs wr hrow
            split at h
            · rename_i hroom
              rw [ble_iff] at hroom
              split at h
              · rename_i hc2
                simp only [Bool.and_eq_true, ble_iff] at hc2
                obtain ⟨rfl, hfit⟩ := hc2
                cases h
                rcases hsl with ⟨rfl, hle, hk⟩ | ⟨h0, hc0, hk⟩
                · simp only at hk
                  subst hk
                  obtain ⟨arr, e', fr, hblk, hb1, hb3, ⟨us, hus, hcu⟩, hfr⟩ := row_of hH hrow hp
                  have hul := hus.length
                  have hone' : ∀ v ∈ nv, v.oneCell' = true := by
                    intro v hv
                    obtain ⟨i, hi⟩ := List.getElem?_of_mem hv
                    have hlt : i < news.length := by have := (List.getElem?_eq_some_iff.1 hi).1; omega
                    obtain ⟨v2, hv1, hv2⟩ := hnv.get (List.getElem?_eq_getElem hlt)
                    rw [hi] at hv1; cases hv1
                    exact (hv2.oneCell (List.all_eq_true.1 hone _ (List.getElem_mem hlt))).1
                  have hmul : (len + m) * n = len * n + m * n := Nat.add_mul _ _ _
                  obtain ⟨arr', w', hrun, hch, hs2, hg⟩ := run_storeCells (P := P) (p.base + off + len * n) nv 0 w arr hblk hone' (by omega) (hfr rfl)
                  refine ⟨ρ, .slice (some ⟨p.blk, p.base + off, none⟩) (len + m) c, w', ρ.le_refl, ?_, ?_, ?_⟩
                  · refine run_append_room' hS (w := w) ht hu hd hn (hlen P) (hnrun P) (by omega) ?_
                    simp only [add_none]
                    exact hrun
                  · simp only [VRel]
                    exact ⟨p, _, _, hp, rfl, .inl ⟨rfl, by omega, rfl⟩⟩
                  · refine hH.put hp (row_some hrow) rfl ?_ hch
                    simp only [ORel]
                    refine ⟨arr', e', fr, rfl, by omega, by simp; omega, ⟨us.take (off + len * n) ++ nv ++ us.drop (off + (len + m) * n), ((hus.take _).append hnv).append (hus.drop _), fun j hj => ?_⟩, fun _ => by rw [hs2]; exact hfr rfl⟩
                    simp only [List.length_append, List.length_take, List.length_drop] at hj
                    rw [hg]
                    by_cases e1 : j < off + len * n
                    · rw [if_neg (by omega), hcu j (by omega), List.getElem?_append_left (by simp; omega), List.getElem?_append_left (by simp; omega), List.getElem?_take]
                      simp [e1]
                    · by_cases e2 : j < off + len * n + nv.length
                      · rw [if_pos (by omega), List.getElem?_append_left (by simp; omega), List.getElem?_append_right (by simp; omega)]
                        congr 1
                        simp; omega
                      · rw [if_neg (by omega), hcu j (by omega), List.getElem?_append_right (by simp; omega), List.getElem?_drop]
                        congr 1
                        simp; omega
                · rcases hk with hk | ⟨_, hk, _⟩
                  · cases hk; omega
                  · cases hk
              · cases h
            · rename_i hroom
              rw [ble_iff] at hroom
              split at h
              · rename_i hfit
                rw [ble_iff] at hfit
                cases h
                have hkc : c = k := by
                  rcases hsl with ⟨_, _, hk⟩ | ⟨h0, hc0, hk⟩
                  · exact hk
                  · rcases hk with hk | ⟨_, hk, _⟩
                    · cases hk; omega
                    · cases hk
                refine fresh H _ hH rfl (by omega) ?_ rfl rfl
                simp only [AHeap.cells, hrow, if_pos hfit]
              · cases h
          · -- one that is not
            rename_i k cs wr hrow
            split at h
            · rename_i hc2
              simp only [Bool.and_eq_true, beq_iff] at hc2
              obtain ⟨⟨rfl, rfl⟩, hfit⟩ := hc2
              cases h
              have hcells : H.cells r off (len * k) = some (cs.drop off) := by
                simp only [AHeap.cells, hrow, if_pos (Nat.le_of_eq hfit)]
                rw [List.take_of_length_le (by simp; omega)]
              by_cases hroom : len + m ≤ c
              · rcases hsl with ⟨rfl, hle, hk, hot, hcc⟩ | ⟨h0, hc0, _⟩
                · obtain ⟨arr, e', fr, hblk, hb1, hb3, ⟨us, hus, hcu⟩, hfr⟩ := row_of hH hrow hp
                  have hul := hus.length
                  have hone' : ∀ v ∈ nv, v.oneCell' = true := by
                    intro v hv
                    obtain ⟨i, hi⟩ := List.getElem?_of_mem hv
                    have hlt : i < news.length := by have := (List.getElem?_eq_some_iff.1 hi).1; omega
                    obtain ⟨v2, hv1, hv2⟩ := hnv.get (List.getElem?_eq_getElem hlt)
                    rw [hi] at hv1; cases hv1
                    exact (hv2.oneCell (List.all_eq_true.1 hone _ (List.getElem_mem hlt))).1
                  have hck : c * k ≤ p.tot - off := by rw [hcc]; exact Nat.div_mul_le_self _ _
                  have hmk : (len + m) * k ≤ c * k := Nat.mul_le_mul_right k hroom
                  have hmul : (len + m) * k = len * k + m * k := Nat.add_mul _ _ _
                  obtain ⟨arr', w', hrun, hch, hs2, hg⟩ := run_storeCells (P := P) (p.base + off + len * k) nv 0 w arr hblk hone' (by omega) (hfr rfl)
                  refine ⟨ρ.with H.next ⟨p.blk, p.base + off, p.tot - off, p.val⟩, .slice (some ⟨p.blk, p.base + off, none⟩) (len + m) c, w', hH.le_with _, ?_, ?_, ?_⟩
                  · refine run_append_room' hS (w := w) ht hu hd hn (hlen P) (hnrun P) (by omega) ?_
                    simp only [add_none]
                    exact hrun
                  · simp only [VRel]
                    exact ⟨_, _, _, Places.with_same _ _ _, rfl, .inl ⟨rfl, by omega, hk, Nat.zero_le _, by simpa using hcc⟩⟩
                  · refine hH.again hp (row_some hrow) rfl rfl ?_ hch
                    simp only [ORel]
                    have hdl : (us.drop off).length = len * k := by simp; omega
                    refine ⟨arr', e', fr, rfl, by omega, by simp; omega, ⟨us.drop off ++ nv, (hus.drop off).append hnv, fun j hj => ?_⟩, fun _ => by rw [hs2]; exact hfr rfl⟩
                    simp only [List.length_append, List.length_drop] at hj
                    rw [hg]
                    by_cases e1 : j < len * k
                    · rw [if_neg (by omega), List.getElem?_append_left (by omega), List.getElem?_drop, Nat.add_assoc, hcu (off + j) (by omega)]
                    · rw [if_pos (by omega), List.getElem?_append_right (by omega)]
                      congr 1
                      omega
                · omega
              · exact fresh (H.drop r) (cs.drop off) (hH.drop r) rfl (by omega) hcells rfl rfl
            · cases h
          · cases h
    · cases h

end

end AM
end Go
