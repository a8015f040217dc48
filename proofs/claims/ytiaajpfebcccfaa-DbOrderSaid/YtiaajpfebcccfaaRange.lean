/-
  Laws on ranging over a map of typed keys and values that is not changed meanwhile: each step hands out one of the entries that are left, whichever. No condition but that it is such a map.
-/
import Derived.Test.YtiaajpfebcccfaaMaps
import Derived.Test.YtiaajpfebcccfaaFr
import Derived.Maps.RangeRun
namespace Go.Proofs.Ytiaajpfebcccfaa
open Go.RowKit Go.Maps
open Go.MapKept (Stamped)

section
variable {P : Program} {w w' : World} {κ ν : Type} {ek : κ → Value} {ev : ν → Value} {l left : List (κ × ν)} {b r : Nat}

/-- Block r ranges over the map in block b, whose entries are l; left are still to come. -/
structure RangeAt (w : World) (r b : Nat) (ek : κ → Value) (ev : ν → Value) (l left : List (κ × ν)) : Prop where
  it : ∃ es clock seen, w.heap[b]? = some (.map es clock) ∧ es.toList.map (fun e => (e.key, e.val)) = l.map (fun x => (ek x.1, ev x.2)) ∧ Stamped es clock ∧
    w.heap[r]? = some (.mapIter (some b) clock seen clock) ∧ (es.toList.filter (fun e => !seen.contains e.born)).map (fun e => (e.key, e.val)) = left.map (fun x => (ek x.1, ev x.2)) ∧
    (seen.isEmpty = true ∨ es.isEmpty = false)

theorem RangeAt.lt (h : RangeAt w r b ek ev l left) : b < w.heap.size ∧ r < w.heap.size := by
  obtain ⟨es, clock, seen, hb, _, _, hr, _⟩ := h.it
  exact ⟨(Array.getElem?_eq_some_iff.1 hb).1, (Array.getElem?_eq_some_iff.1 hr).1⟩
theorem RangeAt.ne (h : RangeAt w r b ek ev l left) : r ≠ b := by
  obtain ⟨es, clock, seen, hb, _, _, hr, _⟩ := h.it
  rintro rfl
  rw [hb] at hr
  cases hr
theorem RangeAt.keep (h : RangeAt w r b ek ev l left) (h1 : w'.heap[b]? = w.heap[b]?) (h2 : w'.heap[r]? = w.heap[r]?) : RangeAt w' r b ek ev l left := ⟨by rw [h1, h2]; exact h.it⟩
theorem RangeAt.later (h : RangeAt w r b ek ev l left) (hb : Below w.heap.size w w') : RangeAt w' r b ek ev l left := h.keep (hb.block _ h.lt.1) (hb.block _ h.lt.2)

theorem MapAt.range {t kt et : TypeId} (ht : P.underlying t = some (.map kt et)) (h : MapAt w b ek ev l) :
    ∃ w', (Instr.range t (.map (some b))).run P w = .ok (.pointer (some ⟨w.heap.size, 0, none⟩)) w' ∧ RangeAt w' w.heap.size b ek ev l l ∧ Below w.heap.size w w' := by
  obtain ⟨es, clock, hb, hl, hs⟩ := h.blk
  have hg := MapKept.run_getObj_map (P := P) hb
  have hlt := h.lt
  refine ⟨w.alloc (.mapIter (some b) clock #[] clock), ?_, ⟨es, clock, #[], ?_, hl, hs, heap_alloc_new w _, ?_, .inl rfl⟩, (Below.refl _ _).alloc (Nat.le_refl _) _⟩
  · simp [Instr.range, run_underlying ht, hg, Result.andThen]
  · rw [Below.heap_alloc _ _ _ hlt]; exact hb
  · rw [List.filter_eq_self.2 (by simp)]
    exact hl

theorem grownBy_setObj_drew (w : World) (b : Nat) (o : Obj) (n : Nat) : w.grownBy { w with heap := w.heap.setIfInBounds b o, drawn := n } (some b) :=
  ⟨rfl, rfl, rfl, by simp, fun k _ hk => by
    have : b ≠ k := fun e => hk (by rw [e])
    simp [this]⟩

theorem run_getObj_iter {o : Obj} {m : Option Nat} {a : Nat} {s : Array Nat} {c : Nat} (hr : w.heap[r]? = some o) (ho : o = .mapIter m a s c) : (getObj r).run P w = .ok o w := by
  subst ho
  simp [getObj, Sem.run, hr]

theorem run_mapNext (P : Program) (w : World) (n : Nat) (hn : 0 < n) : ∃ j w1, (choose (.mapNext n)).run P w = .ok j w1 ∧ j < n ∧ w1.heap = w.heap ∧ w1.os = w.os ∧ w1.tape = w.tape ∧ w1.output = w.output ∧ (n = 1 → w1 = w) := by
  by_cases h1 : n ≤ 1
  · exact ⟨0, w, by simp [choose, Sem.run, Question.forced, h1], hn, rfl, rfl, rfl, rfl, fun _ => rfl⟩
  · exact ⟨(Question.mapNext n).cut (w.tape w.drawn (.mapNext n)), { w with drawn := w.drawn + 1 }, by simp [choose, Sem.run, Question.forced, h1], Nat.mod_lt _ hn, rfl, rfl, rfl, rfl, fun e => absurd e (by omega)⟩

theorem next_facts {es : Array MapEntry} {clock : Nat} {seen : Array Nat} (hs : Stamped es clock) (hse : seen.isEmpty = true ∨ es.isEmpty = false) :
    (!seen.isEmpty && !es.isEmpty && es.all (fun e => decide (e.born ≥ clock))) = false ∧
    (es.filter (fun e => !seen.contains e.born)).filter (fun e => decide (e.born < clock)) = es.filter (fun e => !seen.contains e.born) ∧
    (es.filter (fun e => !seen.contains e.born)).filter (fun e => decide (e.born ≥ clock)) = #[] := by
  have hb : ∀ e ∈ es, e.born < clock := fun e he => hs.1 e (by simpa using he)
  refine ⟨?_, ?_, ?_⟩
  · rcases hse with h | h
    · simp [h]
    · have hne : es.size ≠ 0 := by
        intro e
        rw [Array.isEmpty_iff_size_eq_zero.2 e] at h
        cases h
      have h0 : ¬ (clock ≤ es[0].born) := by
        have := hb es[0] (Array.getElem_mem _)
        omega
      have : (es.all (fun e => decide (e.born ≥ clock))) = false := by
        rw [Bool.eq_false_iff]
        intro ht
        rw [Array.all_eq_true] at ht
        have := ht 0 (by omega)
        simp at this
        exact h0 this
      rw [this]
      simp
  · apply Array.filter_eq_self.2
    intro e he
    have := hb e (Array.mem_filter.1 he).1
    simpa using this
  · apply Array.filter_eq_empty_iff.2
    intro e he
    have := hb e (Array.mem_filter.1 he).1
    simp
    exact this

/-- At its end. -/
theorem RangeAt.over {ty : TypeId} (h : RangeAt w r b ek ev l []) : (Instr.next (.pointer (some ⟨r, 0, none⟩)) false ty).run P w = .ok (.tuple #[.bool false]) w := by
  obtain ⟨es, clock, seen, hb, hl, hs, hr, hleft, hse⟩ := h.it
  have hg := MapKept.run_getObj_map (P := P) hb
  have hgr := run_getObj_iter (P := P) hr rfl
  obtain ⟨f1, f2, f3⟩ := next_facts hs hse
  have h0 : es.filter (fun e => !seen.contains e.born) = #[] := by
    apply Array.ext'
    rw [Array.toList_filter]
    simpa using hleft
  rw [h0] at f2 f3
  simp only [Instr.next, Sem.run_bind, hgr, hg, Result.andThen_ok, f1, h0, f2, f3]
  simp [Question.forced]
/-- A step: one of those that are left. -/
theorem RangeAt.next {ty : TypeId} (h : RangeAt w r b ek ev l left) (hne : left ≠ []) :
    ∃ i x w', (Instr.next (.pointer (some ⟨r, 0, none⟩)) false ty).run P w = .ok (.tuple #[.bool true, ek x.1, ev x.2]) w' ∧ left[i]? = some x ∧ RangeAt w' r b ek ev l (left.eraseIdx i) ∧ w.grownBy w' (some r) ∧ w'.heap.size = w.heap.size ∧
      (Instr.entry (.pointer (some ⟨r, 0, none⟩))).run P w' = .ok (.tuple #[ek x.1, ev x.2]) w' := by
  obtain ⟨es, clock, seen, hb, hl, hs, hr, hleft, hse⟩ := h.it
  have hg := MapKept.run_getObj_map (P := P) hb
  have hgr := run_getObj_iter (P := P) hr rfl
  obtain ⟨f1, f2, f3⟩ := next_facts hs hse
  generalize hL : es.filter (fun e => !seen.contains e.born) = L at f2 f3
  have hLl : L.toList.map (fun e => (e.key, e.val)) = left.map (fun x => (ek x.1, ev x.2)) := by rw [← hL, Array.toList_filter]; exact hleft
  have hsz : L.size = left.length := by simpa using congrArg List.length hLl
  have hpos : 0 < L.size := by rw [hsz]; exact List.length_pos_iff.2 hne
  have hem : L.isEmpty = false := by
    cases he : L.isEmpty
    · rfl
    · have := Array.isEmpty_iff_size_eq_zero.1 he
      omega
  obtain ⟨j, w1, hch, hj, e1, e2, e3, e4, _⟩ := run_mapNext P w L.size hpos
  have hrl : r < w1.heap.size := by rw [e1]; exact h.lt.2
  have hr1 : w1.heap[r]? = some (.mapIter (some b) clock seen clock) := by rw [e1]; exact hr
  have hset : (setObj r (.mapIter (some b) clock (seen.push L[j].born) clock)).run P w1 = .ok () { w1 with heap := w1.heap.setIfInBounds r (.mapIter (some b) clock (seen.push L[j].born) clock) } := by
    simp [setObj, Sem.run, hr1]
  have hLj : L.toList[j]? = some L[j] := by simp [hj]
  obtain ⟨x, hx, hk, hv⟩ := entry_at hLl hLj
  refine ⟨j, x, { w1 with heap := w1.heap.setIfInBounds r (.mapIter (some b) clock (seen.push L[j].born) clock) }, ?_, hx, ⟨es, clock, seen.push L[j].born, ?_, hl, hs, by simp [hrl], ?_, .inr ?_⟩, ?_, by simp [e1], ?_⟩
  · simp only [Instr.next, Sem.run_bind, hgr, hg, Result.andThen_ok, f1, hL, f2, f3]
    have hcand : ((if L.isEmpty = true then #[none] else #[]) ++ Array.map some (L ++ #[])) = L.map some := by simp [hem]
    rw [hcand]
    simp only [Array.size_map]
    simp only [Bool.false_eq_true, if_false, Sem.run_bind, hch, Result.andThen_ok]
    simp [hj, hset, hk, hv, Result.andThen]
  · rw [show ({ w1 with heap := w1.heap.setIfInBounds r (.mapIter (some b) clock (seen.push L[j].born) clock) } : World).heap = w1.heap.setIfInBounds r (.mapIter (some b) clock (seen.push L[j].born) clock) from rfl]
    rw [Array.getElem?_setIfInBounds_ne h.ne, e1]
    exact hb
  · have hnd : (L.toList.map (·.born)).Nodup := by
      rw [← hL, Array.toList_filter]
      exact List.Nodup.sublist (List.Sublist.map _ List.filter_sublist) hs.2.1
    have hflt : es.toList.filter (fun e => !(seen.push L[j].born).contains e.born) = L.toList.eraseIdx j := by
      have h1 : es.toList.filter (fun e => !(seen.push L[j].born).contains e.born) = L.toList.filter (fun e => decide (e.born ≠ L[j].born)) := by
        have hLt : L.toList = es.toList.filter (fun e => !seen.contains e.born) := by rw [← hL, Array.toList_filter]
        generalize L[j].born = bj
        rw [hLt, List.filter_filter]
        congr 1
        funext e
        rw [Array.contains_push]
        by_cases hbj : e.born = bj <;> simp [hbj]
      rw [h1]
      have h2 := filter_ne_of_nodup (l := L.toList.map (fun e => (e.born, e))) (by rw [List.map_map]; exact hnd) (j := j) (x := (L[j].born, L[j])) (by simp [hj])
      have h3 := congrArg (List.map (·.2)) h2
      rw [MapKept_eraseIdx_map] at h3
      simp only [mdel, List.map_map] at h3
      rw [List.filter_map, List.map_map] at h3
      simpa [Function.comp_def] using h3
    rw [hflt, MapKept_eraseIdx_map, MapKept_eraseIdx_map, hLl]
  · cases he : es.isEmpty
    · rfl
    · have h5 := Array.isEmpty_iff_size_eq_zero.1 he
      have h6 : L.size ≤ es.size := by rw [← hL]; exact Array.size_filter_le
      omega
  · refine ⟨e2, e3, e4, by simp [e1], fun k _ hk' => ?_⟩
    have : r ≠ k := fun e => hk' (by rw [e])
    simp [this, e1]
  · rw [← hk, ← hv]
    refine Go.run_entry_at _ r b clock seen es clock L[j] (by simp [hrl]) ?_ ?_ hs.2.1
    · rw [show ({ w1 with heap := w1.heap.setIfInBounds r (.mapIter (some b) clock (seen.push L[j].born) clock) } : World).heap = w1.heap.setIfInBounds r (.mapIter (some b) clock (seen.push L[j].born) clock) from rfl]
      rw [Array.getElem?_setIfInBounds_ne h.ne, e1]
      exact hb
    · have hm : ∀ y ∈ L.toList, y ∈ es.toList := by
        intro y hy
        rw [← hL, Array.toList_filter] at hy
        exact (List.mem_filter.1 hy).1
      exact hm _ (by simp)
end
end Go.Proofs.Ytiaajpfebcccfaa
