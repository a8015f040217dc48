/-
  What the document's New answers: the operators that there are at first, as a list. No condition.
-/
import Derived.Test.YtiaajpfebcccfaaDoorPlayD
namespace Go.Proofs.YtiaajpfebcccfaaDoor
open Go.RowKit Go.Maps
set_option maxRecDepth 100000

def rNames : List (Int × Int × List (List UInt8)) := [(1200, 1, [[58, 45], [45, 45, 62]]), (1200, 4, [[58, 45], [63, 45]]), (1150, 4, [[100, 121, 110, 97, 109, 105, 99]]), (1100, 2, [[59]]), (1050, 2, [[45, 62]]), (1000, 2, [[44]]), (900, 5, [[92, 43]]),
  (700, 1, [[61], [92, 61], [61, 61], [92, 61, 61], [64, 60], [64, 62], [64, 61, 60], [64, 62, 61], [61, 46, 46], [105, 115], [61, 58, 61], [61, 92, 61], [60], [62], [61, 60], [62, 61]]), (500, 3, [[43], [45], [47, 92], [92, 47], [120, 111, 114]]),
  (400, 3, [[42], [47], [47, 47], [114, 101, 109], [109, 111, 100], [100, 105, 118], [60, 60], [62, 62]]), (200, 1, [[42, 42]]), (200, 2, [[94]]), (200, 5, [[45], [43], [92]])]
def rowD (r : Int × Int × List (List UInt8)) : List DefT := r.2.2.map fun n => (r.1, r.2.1, n)
def rInit : List DefT := rNames.flatMap rowD
theorem rInit_perm : rInit.Perm (opsInit.map defOf) := by decide +kernel
theorem rInit_snoc (k : Nat) (r : Int × Int × List (List UInt8)) (h : rNames[k]? = some r) : (rNames.take (k + 1)).flatMap rowD = (rNames.take k).flatMap rowD ++ rowD r := by
  rw [List.take_add_one, h, List.flatMap_append]
  simp
theorem rInit_len : ∀ k : Nat, k < 13 → ((rNames.take k).flatMap rowD).length ≤ 100 ∧ (rowD (rNames.getD k (0, 0, []))).length ≤ 100 := by
  have h : ∀ k : Fin 13, ((rNames.take k).flatMap rowD).length ≤ 100 ∧ (rowD (rNames.getD k (0, 0, []))).length ≤ 100 := by decide +kernel
  exact fun k hk => h ⟨k, hk⟩

def allocs : World → List Obj → World
  | w, [] => w
  | w, o :: r => allocs (w.alloc o) r
theorem allocs_size : ∀ (w : World) (l : List Obj), (allocs w l).heap.size = w.heap.size + l.length
  | w, [] => rfl
  | w, o :: r => by rw [allocs, allocs_size, List.length_cons]; simp; omega
theorem allocs_below : ∀ (w : World) (l : List Obj), Below w.heap.size w (allocs w l)
  | w, [] => Below.refl _ _
  | w, o :: r => ((Below.refl w.heap.size w).alloc (Nat.le_refl _) o).trans ((allocs_below (w.alloc o) r).mono (by simp))
theorem allocs_at : ∀ (w : World) (l : List Obj) (i : Nat) (o : Obj), l[i]? = some o → (allocs w l).heap[w.heap.size + i]? = some o
  | w, [], i, o, h => by simp at h
  | w, x :: r, 0, o, h => by
    simp at h
    subst h
    rw [allocs, Nat.add_zero, (allocs_below (w.alloc x) r).block w.heap.size (by simp)]
    exact heap_alloc_new w _
  | w, x :: r, i + 1, o, h => by
    have := allocs_at (w.alloc x) r i o (by simpa using h)
    rw [allocs, show w.heap.size + (i + 1) = (w.alloc x).heap.size + i by simp; omega]
    exact this
theorem allocs_cell (w : World) (l : List Obj) (i j : Nat) (cs : Array Value) (t : TypeId) (u : Value) (h : l[i]? = some (.cells cs t)) (hu : cs[j]? = some u) : (allocs w l).cell? ⟨w.heap.size + i, j, none⟩ = some u := by
  rw [cell_of_row _ _ j cs t (0, 0) (allocs_at w l i _ h)]
  exact hu

/-- The tables of names, priorities and types. -/
structure RN (u : World) (B : Nat) (r : Int × Int × List (List UInt8)) (i : Nat) : Prop where
  pri : u.cell? ⟨B + 15, i, none⟩ = some (.int .i64 r.1)
  typ : u.cell? ⟨B + 16, i, none⟩ = some (.int .i64 r.2.1)
  row : u.cell? ⟨B + 14, i, none⟩ = some (.slice (some ⟨B + (i + 1), 0, none⟩) r.2.2.length r.2.2.length)
  nms : ∀ j n, r.2.2[j]? = some n → u.cell? ⟨B + (i + 1), j, none⟩ = some (.string ⟨n.toArray⟩)

def rObjs (B : Nat) : List Obj :=
  [.cells #[.slice none 0 0] 58] ++ rNames.map (fun r => .cells (r.2.2.map fun n => Value.string ⟨n.toArray⟩).toArray 9) ++
  [.cells ((List.range 13).map fun i => Value.slice (some ⟨B + (i + 1), 0, none⟩) ((rNames.getD i (0, 0, [])).2.2.length) ((rNames.getD i (0, 0, [])).2.2.length)).toArray 48,
   .cells (rNames.map fun r => Value.int .i64 r.1).toArray 60, .cells (rNames.map fun r => Value.int .i64 r.2.1).toArray 60]
theorem rn_at (w : World) (i : Nat) (r : Int × Int × List (List UInt8)) (h : rNames[i]? = some r) : RN (allocs w (rObjs w.heap.size)) w.heap.size r i := by
  have hi : i < 13 := (List.getElem?_eq_some_iff.1 h).1
  refine ⟨?_, ?_, ?_, fun j n hj => ?_⟩
  · exact allocs_cell w _ 15 i (rNames.map fun r => Value.int .i64 r.1).toArray 60 _ rfl (by simp [h])
  · exact allocs_cell w _ 16 i (rNames.map fun r => Value.int .i64 r.2.1).toArray 60 _ rfl (by simp [h])
  · refine allocs_cell w _ 14 i _ 48 _ rfl ?_
    simp [hi, h]
  · refine allocs_cell w _ (i + 1) j (r.2.2.map fun n => Value.string ⟨n.toArray⟩).toArray 9 _ ?_ (by simp [hj])
    unfold rObjs
    rw [List.append_assoc, List.singleton_append, List.getElem?_cons_succ, List.getElem?_append_left (by rw [List.length_map]; exact hi), List.getElem?_map, h]
    rfl

/-- What holds as New appends. -/
structure NInv (w w0 : World) (u : World) (L : List DefT) (v : Value) : Prop where
  cell : u.cell? ⟨w.heap.size, 0, none⟩ = some v
  frozen : u.frozen? ⟨w.heap.size, 0, none⟩ = false
  row : Row u w0.heap.size 29 3 encDef v L
  fr : Fr (fun k => k = w.heap.size ∨ w0.heap.size ≤ k) w0 u
theorem NInv.rn {w w0 u : World} {L : List DefT} {v : Value} {r : Int × Int × List (List UInt8)} {i : Nat} (h : NInv w w0 u L v) (hr : RN w0 w.heap.size r i) : RN u w.heap.size r i := by
  have k : ∀ p : Addr, p.block ≠ w.heap.size → ∀ x, w0.cell? p = some x → u.cell? p = some x := fun p hp x hx => (h.fr.cell (World.block_lt_of_cell? w0 _ hx) (fun e => e.elim hp (fun e => by have := World.block_lt_of_cell? w0 _ hx; omega))).trans hx
  exact ⟨k _ (by simp only; omega) _ hr.pri, k _ (by simp only; omega) _ hr.typ, k _ (by simp only; omega) _ hr.row, fun j n hj => k _ (by simp only; omega) _ (hr.nms j n hj)⟩

theorem slDefs_one (w : World) (x : DefT) : SlDefs ((w.alloc (.cells #[.int .i64 x.1, .int .i64 x.2.1, .string ⟨x.2.2.toArray⟩] 29)).drew) (some ⟨w.heap.size, 0, none⟩) 1 1 [x] := by
  refine ⟨rfl, (fun h => by cases h), fun i y hy => ?_⟩
  obtain ⟨rfl, rfl⟩ : i = 0 ∧ y = x := by
    rcases Nat.eq_zero_or_pos i with rfl | h0
    · simp at hy; exact ⟨rfl, hy.symm⟩
    · rw [List.getElem?_eq_none (by simp; omega)] at hy; cases hy
  refine ⟨_, 0, rfl, by simp, fun j u hu => ?_⟩
  rw [Nat.zero_mul, Nat.add_zero, Nat.zero_add]
  exact cell_one w _ _ j u (by simpa [encDef] using hu)
theorem NInv.step {w w0 u u1 w9 : World} {L : List DefT} {v v9 : Value} {x : DefT} (h : NInv w w0 u L v) (hw0 : w.heap.size < w0.heap.size) (hb : Below u.heap.size u u1) (hr : Row w9 w0.heap.size 29 3 encDef v9 (L ++ [x])) (hg : u1.grownBy w9 v.ownBlock) :
    (w9.cell? ⟨w.heap.size, 0, none⟩ = some v ∧ w9.frozen? ⟨w.heap.size, 0, none⟩ = false) ∧ NInv w w0 (w9.setCell ⟨w.heap.size, 0, none⟩ v9) (L ++ [x]) v9 := by
  have hlt := World.block_lt_of_cell? u _ h.cell
  simp only at hlt
  have hF : Fr (fun k => k = w.heap.size ∨ w0.heap.size ≤ k) w0 w9 := (h.fr.step hb).grown hg (fun g e => .inl (.inr (h.row.lt g e).1))
  have hk : w9.heap[w.heap.size]? = u.heap[w.heap.size]? := (hg.block _ (Nat.lt_of_lt_of_le hlt hb.size) (fun e => by have := (h.row.lt _ e.symm).1; omega)).trans (hb.block _ hlt)
  have hc : w9.cell? ⟨w.heap.size, 0, none⟩ = some v := (World.cell?_of_block (a := ⟨w.heap.size, 0, none⟩) hk).trans h.cell
  have hf : w9.frozen? ⟨w.heap.size, 0, none⟩ = false := (World.frozen?_of_block (a := ⟨w.heap.size, 0, none⟩) hk).trans h.frozen
  refine ⟨⟨hc, hf⟩, World.cell?_setCell_same _ _ _ hc, by rw [World.frozen?_setCell]; exact hf, hr.away _ fun k hk => by have := (hr.lt k hk).1; simp only; omega, hF.setCell (p := ⟨w.heap.size, 0, none⟩) (.inl (.inl rfl)) _⟩

set_option maxHeartbeats 8000000 in
theorem rNew_any (w : World) :
    Calls Tryd.prog 6 #[] w fun e w' => ∃ rt, e = .returned (.pointer (some ⟨rt, 0, none⟩)) ∧ w.heap.size ≤ rt ∧ RTab w' rt rInit ∧ Below w.heap.size w w' := by
  have HN : Hid (∀ i r, rNames[i]? = some r → RN (allocs w (rObjs w.heap.size)) w.heap.size r i) := Lib.hid (rn_at w)
  obtain ⟨w0, hw0⟩ : ∃ w0, w0 = allocs w (rObjs w.heap.size) := ⟨_, rfl⟩
  have hs0 : w0.heap.size = w.heap.size + 17 := by rw [hw0, allocs_size]; rfl
  have hb0 : Below w.heap.size w w0 := by rw [hw0]; exact allocs_below _ _
  have hbt : w0.heap[w.heap.size]? = some (.cells #[.slice none 0 0] 58 (0, 0)) := by rw [hw0]; exact allocs_at w _ 0 _ rfl
  have HI0 : Hid (NInv w w0 w0 [] (.slice none 0 0)) := Lib.hid ⟨by rw [cell_of_row _ _ 0 _ _ _ hbt]; rfl, by simp [World.frozen?, hbt], Row.nil _ _ _ _ _, Fr.refl _ _⟩
  have HB0 := Lib.hid hb0
  have HN0 : Hid (∀ i r, rNames[i]? = some r → RN w0 w.heap.size r i) := by rw [hw0]; exact HN
  have hw0' : allocs w (rObjs w.heap.size) = w0 := hw0.symm
  have HW0 := Lib.hid hw0'
  clear hbt hb0 HN hw0 hw0'
  go_enter Tryd.func6, Tryd.ntmps6
  go_wp2_with fail
  change Code.wp _ _ _ _ (allocs w (rObjs w.heap.size))
  rw [HW0.out]
  clear HW0
  go_loopw [29] (fun i u => ∃ k : Nat, k ≤ 13 ∧ i = .int .i64 k ∧ ∃ v, NInv w w0 u ((rNames.take k).flatMap rowD) v) (fun i _ => 13 - (intOf i).toNat)
  case atStart => exact ⟨0, Nat.zero_le _, rfl, _, by simpa using HI0.out⟩
  case round =>
    obtain ⟨k, hk, rfl, v, hI⟩ := hrel
    by_cases hlt : k < 13
    · have hx := List.getElem?_eq_getElem (show k < rNames.length from hlt)
      have hl0 := (rInit_len k hlt).1
      have hl1 := (rInit_len k hlt).2
      rw [List.getD_eq_getElem?_getD, hx, Option.getD_some] at hl1
      have hsn := rInit_snoc k _ hx
      generalize rNames[k]'_ = r at hx hl1 hsn
      obtain ⟨c0, c1, c2, -⟩ := hI.rn (HN0.out k r hx)
      have HX := Lib.hid hx
      have HSN := Lib.hid hsn
      have HI := Lib.hid hI
      have hlt' : (k : Int) < 13 := by omega
      have hrl : (rowD r).length = r.2.2.length := by unfold rowD; rw [List.length_map]
      rw [hrl] at hl1
      generalize (rNames.take k).flatMap rowD = Lk at *
      clear hx hI hsn hrl
      go_wp2_with fail
      go_loopw [36] (fun i u => ∃ j : Nat, j ≤ r.2.2.length ∧ i = .int .i64 j ∧ ∃ v, NInv w w0 u (Lk ++ (rowD r).take j) v) (fun i _ => r.2.2.length - (intOf i).toNat)
      case atStart => exact ⟨0, Nat.zero_le _, rfl, _, by simpa using HI.out⟩
      case round =>
        obtain ⟨j, hj, rfl, v', hJ⟩ := hrel
        obtain ⟨wr', rfl⟩ : ∃ wr' : World, wr' = wr := ⟨_, rfl⟩
        by_cases hjl : j < r.2.2.length
        · have hy := List.getElem?_eq_getElem hjl
          generalize r.2.2[j] = n at hy
          obtain ⟨d0, d1, -, d3⟩ := hJ.rn (HN0.out k r HX.out)
          have dn := d3 j n hy
          have b0 := hJ.cell
          have b1 := hJ.frozen
          have hbl : w.heap.size < wr'.heap.size := World.block_lt_of_cell? wr' _ hJ.cell
          have hjl' : (j : Int) < (r.2.2.length : Int) := by omega
          obtain ⟨v9, w9, hr9, hR9, hg9⟩ := run_defs ((wr'.alloc (.cells #[.int .i64 r.1, .int .i64 r.2.1, .string ⟨n.toArray⟩] 29)).drew) w0.heap.size v' (Lk ++ (rowD r).take j) [(r.1, r.2.1, n)] _ 1 1 22 (hJ.row.later (((Below.refl _ _).alloc (Nat.le_refl _) _).drew)) (slDefs_one wr' (r.1, r.2.1, n)) (by rw [List.length_append, List.length_take]; omega) (by have := hJ.fr.size; simp; omega)
          obtain ⟨A9, cap9, e9⟩ := hR9.shape
          generalize (Lk ++ (rowD r).take j ++ [(r.1, r.2.1, n)]).length = n9 at e9
          subst e9
          obtain ⟨⟨b2, b3⟩, hJ9⟩ := hJ.step (by omega) (((Below.refl _ _).alloc (Nat.le_refl _) _).drew) hR9 hg9
          rw [List.append_assoc, show (rowD r).take j ++ [(r.1, r.2.1, n)] = (rowD r).take (j + 1) by
            rw [List.take_add_one]
            unfold rowD
            rw [List.getElem?_map, hy]
            rfl] at hJ9
          have HJ9 := Lib.hid hJ9
          clear hJ hR9 hg9 hJ9 hy d3
          go_wp2_with fail
          go_region_law (first | (refine step_run rfl (.tmp 44) (.tmp 53) 22 rfl (by rfl) (by rfl) hr9 ?_))
          all_goals
            go_wp2_with fail
            go_roundw
            case rel => exact ⟨j + 1, hjl, by go_num, _, HJ9.out⟩
            case measure => simp [intOf]; omega
        · have hjl' : ¬ (j : Int) < (r.2.2.length : Int) := by omega
          have HF : Hid (NInv w w0 wr' ((rNames.take (k + 1)).flatMap rowD) v') := Lib.hid (by
            rw [HSN.out]
            rw [List.take_of_length_le (by unfold rowD; rw [List.length_map]; omega)] at hJ
            exact hJ)
          clear hJ
          go_wp2_with fail
          go_roundw
          case rel => exact ⟨k + 1, hlt, by go_num, _, HF.out⟩
          case measure => simp [intOf]; omega
    · have hk13 : k = 13 := by omega
      subst hk13
      have HI := Lib.hid hI
      clear hI
      go_wp2_with fail
      go_ret
      have hF := HI.out.fr
      have hb : Below w.heap.size w wr := HB0.out.trans (hF.below (by omega) (fun k hk => by omega))
      exact ⟨_, rfl, Nat.le_refl _, ⟨_, HI.out.cell, HI.out.frozen, HI.out.row.down (by omega)⟩, hb⟩
end Go.Proofs.YtiaajpfebcccfaaDoor
