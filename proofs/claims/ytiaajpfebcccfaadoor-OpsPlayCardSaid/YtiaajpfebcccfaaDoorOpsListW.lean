/-
  What List answers: all operators of the table, sorted by name and type. Condition: the table's block holds a map of well-formed operators, at most 100000.
-/
import Derived.Test.YtiaajpfebcccfaaDoorSortRow
import Derived.Test.YtiaajpfebcccfaaDoorRange
import Derived.LoopTactic
namespace Go.Proofs.YtiaajpfebcccfaaDoor
open Go.RowKit Go.Maps Go.Lib Go.Sort
set_option maxRecDepth 100000

theorem Row.apart_iter {α κ ν : Type} {w : World} {B sz r b : Nat} {e : TypeId} {enc : α → List Value} {v : Value} {l : List α} {ek : κ → Value} {ev : ν → Value} {es left : List (κ × ν)}
    (h : Row w B e sz enc v l) (hr : RangeAt w r b ek ev es left) : v.ownBlock ≠ some r := by
  obtain ⟨es', clock, seen, _, _, _, hi, _⟩ := hr.it
  rcases h.own.2 with ⟨rfl, _⟩ | ⟨g, cap, cur, rfl, _, hgg, _⟩
  · simp [Value.ownBlock]
  · simp only [Value.ownBlock, ne_eq, Option.some.injEq]
    rintro rfl
    rw [hgg] at hi
    cases hi

theorem cell_alloc3 (w : World) (a b : Obj) (cs : Array Value) (t : TypeId) (i : Nat) (u : Value) (h : cs[i]? = some u) :
    ((((w.alloc a).alloc b).alloc (.cells cs t))).cell? ⟨w.heap.size + 1 + 1, i, none⟩ = some u := by
  have hb : ((((w.alloc a).alloc b).alloc (.cells cs t))).heap[w.heap.size + 1 + 1]? = some (.cells cs t (0, 0)) := by
    have := heap_alloc_new ((w.alloc a).alloc b) (.cells cs t)
    have e : ((w.alloc a).alloc b).heap.size = w.heap.size + 1 + 1 := by simp
    rw [e] at this
    exact this
  rw [cell_of_row _ _ i cs t (0, 0) hb]
  exact h

/-- What holds as List gathers. -/
structure ListInv (w : World) (bm r : Nat) (es : List (OpK × OpV)) (done : List DefT) (left : List (OpK × OpV)) (v : Value) (wr : World) : Prop where
  it : RangeAt wr r bm opk opv es left
  row : Row wr w.heap.size 67 3 encDef v done
  perm : (done ++ left.map defOf).Perm (es.map defOf)
  below : Below w.heap.size w wr
  r_ge : w.heap.size ≤ r
theorem ListInv.len {w wr : World} {bm r : Nat} {es left : List (OpK × OpV)} {done : List DefT} {v : Value} (h : ListInv w bm r es done left v wr) : done.length + left.length = es.length := by
  simpa using h.perm.length_eq

theorem erase_perm {α : Type} : ∀ (l : List α) (j : Nat) (x : α), l[j]? = some x → (x :: l.eraseIdx j).Perm l
  | [], j, x, h => by simp at h
  | y :: r, 0, x, h => by
    simp at h
    subst h
    exact List.Perm.refl _
  | y :: r, j + 1, x, h => by
    simp at h
    exact (List.Perm.swap y x _).trans (List.Perm.cons y (erase_perm r j x h))
theorem ListInv.step {w wr wn w' : World} {bm r j : Nat} {es left : List (OpK × OpV)} {done : List DefT} {v v' : Value} {x : OpK × OpV} {a b c : Obj} (h : ListInv w bm r es done left v wr) (hbm : bm < w.heap.size)
    (hitn : RangeAt wn r bm opk opv es (left.eraseIdx j)) (hgn : wr.grownBy wn (some r)) (hjx : left[j]? = some x) (hrow : Row w' w.heap.size 67 3 encDef v' (done ++ [defOf x])) (hg : (((wn.alloc a).alloc b).alloc c).grownBy w' v.ownBlock) :
    ListInv w bm r es (done ++ [defOf x]) (left.eraseIdx j) v' w' := by
  have hr := hitn.lt.2
  have hbl : ∀ k, k < wn.heap.size → some k ≠ v.ownBlock → w'.heap[k]? = wn.heap[k]? := by
    intro k hk hn
    rw [hg.block k (by simp; omega) hn, Below.heap_alloc _ _ k (by simp; omega), Below.heap_alloc _ _ k (by simp; omega), Below.heap_alloc _ _ k hk]
  have hlow : ∀ k, k < w.heap.size → some k ≠ v.ownBlock := fun k hk e => by
    have := (h.row.lt k e.symm).1
    omega
  have hwn : w.heap.size ≤ wn.heap.size := Nat.le_trans h.below.size hgn.size
  refine ⟨hitn.keep (hbl _ (by omega) (hlow _ hbm)) (hbl _ hr (h.row.apart_iter h.it).symm), hrow, ?_, ?_, h.r_ge⟩
  · have h1 := (erase_perm left j x hjx).map defOf
    rw [List.append_assoc]
    exact (List.Perm.append_left done h1).trans h.perm
  · have hr' := h.r_ge
    have hs := hg.size
    have hs2 : ((((wn.alloc a).alloc b).alloc c).heap.size) = wn.heap.size + 1 + 1 + 1 := by simp
    refine ⟨hg.os.trans (hgn.os.trans h.below.os), hg.tape.trans (hgn.tape.trans h.below.tape), hg.output.trans (hgn.output.trans h.below.output), by omega, fun k hk => ?_⟩
    rw [hbl k (by omega) (hlow k hk), hgn.block k (Nat.lt_of_lt_of_le hk h.below.size) (fun e => by cases e; omega)]
    exact h.below.block k hk

theorem def_info : ∃ i z, Tryd.prog.info? 67 = some i ∧ i.zero = some z ∧ i.size = 3 ∧ i.bytes = 32 ∧ z.cells.size = 3 := by
  refine ⟨_, _, rfl, rfl, ?_, ?_, ?_⟩ <;> kernel_rfl

set_option maxHeartbeats 1000000 in
theorem list_any (w : World) (bt bm : Nat) (es : List (OpK × OpV)) (hT : TabAt w bt bm es) (hn : es.length ≤ 100000) :
    Calls Tryd.prog 26 #[.pointer (some ⟨bt, 0, none⟩)] w fun e w' => ∃ v l, e = .returned v ∧ SlAt w' w'.heap.size 3 encDef v l ∧ l.Perm (es.map defOf) ∧ Sorted l ∧ Below w.heap.size w w' := by
  obtain ⟨i, z, hi, hz, hsi, hby, hzs⟩ := def_info
  have hbt := hT.lt
  have hbm := hT.map.lt
  have hlen := hT.map.len (P := Tryd.prog) (ty := 3) Tryd.underlying42
  obtain ⟨w1, hmk, hrow, hg1⟩ := Row.made (P := Tryd.prog) (w := w) (B := w.heap.size) (enc := encDef) Tryd.underlying65 hi hz hsi .i64 .i64 es.length (by rw [hby]; omega) (by unfold maxLen; omega) (Nat.le_refl _)
  have hb1 : Below w.heap.size w w1 := ⟨hg1.os, hg1.tape, hg1.output, hg1.size, fun k hk => hg1.block k hk (by simp)⟩
  obtain ⟨w2, hrg, hit, hb2⟩ := (hT.map.below hb1 hbm).range (P := Tryd.prog) Tryd.underlying42
  have hc := hT.cell
  have hc1 := hb1.cell (p := ⟨bt, 0, none⟩) hbt
  rw [hc] at hc1
  have hI : ListInv w bm w1.heap.size es [] es (.slice (some ⟨w.heap.size, 0, none⟩) 0 es.length) w2 :=
    ⟨hit, hrow.later hb2, List.Perm.refl _, hb1.trans (hb2.mono hb1.size), hb1.size⟩
  have HI := Lib.hid hI
  clear hT hI hb1 hg1 hrow hit hb2
  go_enter Tryd.func26, Tryd.ntmps26
  go_wp2_with fail
  go_loopw [3] (fun v wr => ∃ done left, ListInv w bm w1.heap.size es done left v wr) (fun v _ => es.length - sliceLen v)
  case atStart => exact ⟨_, _, HI.out⟩
  case round =>
    obtain ⟨done, left, hR⟩ := hrel
    have hlenR := hR.len
    have HR := Lib.hid hR
    clear hR HI
    by_cases hl : left = []
    · subst hl
      have hov := HR.out.it.over (P := Tryd.prog) (ty := 0)
      go_wp2_with fail
      refine (sortDefs_any wr _ done _ _ HR.out.row (by omega)).mono ?_
      rintro e w6 ⟨rfl, l', hp, hs, hS, hF⟩
      go_wp2_with fail
      go_ret
      refine ⟨_, l', rfl, hS, hp.trans (by simpa using HR.out.perm), hs, ?_⟩
      exact HR.out.below.trans (hF.below HR.out.below.size fun k hk e => by have := (HR.out.row.lt k e).1; omega)
    · obtain ⟨j, x, wn, hnx, hjx, hitn, hgn, hszn, hent⟩ := HR.out.it.next (P := Tryd.prog) (ty := 0) hl
      obtain ⟨⟨x1, x2⟩, ⟨x3, x4⟩⟩ := x
      simp only [opk, opv] at hnx hent
      have HN := Lib.hid hitn
      have HG := Lib.hid hgn
      have hwn : w.heap.size ≤ wn.heap.size := by rw [hszn]; exact HR.out.below.size
      have HW := Lib.hid (HR.out.row.kept hgn (.inr (HR.out.row.apart_iter HR.out.it)))
      clear hitn hgn hszn
      go_wp2_with (at_builtin; refine wpList_row rfl _ _ 65 rfl _ w.heap.size 67 i z 3 32 encDef Tryd.underlying65 hi hz hsi hby hzs (by decide) encDef_len encDef_one _ done (x3, x4, x2) rfl (((HW.out.alloc _).alloc _).alloc _) _ _ rfl (fun j u hu => cell_alloc3 _ _ _ _ _ j u (by simpa [encDef] using hu)) (by unfold maxLen; omega) (by omega) (Nat.le_trans hwn (by simp; omega)) ?_)
      intro v' w5 hrow5 hg5
      have HI5 := Lib.hid (HR.out.step hbm HN.out HG.out hjx hrow5 hg5)
      have hlen5 := HI5.out.len
      have hl5 := HI5.out.row.len
      have hl4 := HR.out.row.len
      clear hrow5 hg5
      go_wp2_with fail
      go_roundw
      case rel => exact ⟨_, _, HI5.out⟩
      case measure =>
        rw [List.length_append] at hl5 hlen5
        simp only [List.length_cons, List.length_nil] at hl5 hlen5
        have : 0 < left.length := List.length_pos_iff.2 hl
        omega
end Go.Proofs.YtiaajpfebcccfaaDoor
