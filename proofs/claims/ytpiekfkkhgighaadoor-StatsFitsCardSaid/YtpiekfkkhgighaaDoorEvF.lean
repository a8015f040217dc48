/-
  What stats' Count, limit, Common and Fits answer: plain functions of the lists. Conditions: the slices can be read; the sizes that are named.
-/
import Derived.Test.YtpiekfkkhgighaaDoorEvE
namespace Go.Proofs.YtpiekfkkhgighaaDoor
open Go.RowKit
set_option maxRecDepth 100000

def cnt (k : Int) (l : List Ev) : Nat := l.countP fun e => decide (e.kind = k)
def bytesN (l : List Ev) : Nat := (l.map fun e => if e.kind = 4 then e.text.length else 0).sum
def countC (l : List Ev) : Array Value := #[.int .i64 (cnt 1 l), .int .i64 (cnt 2 l), .int .i64 (cnt 3 l), .int .i64 (cnt 4 l), .int .i64 (cnt 5 l), .int .i64 (cnt 6 l), .int .i64 (bytesN l)]
theorem cnt_snoc {l : List Ev} {i : Nat} {e : Ev} (h : l[i]? = some e) (k : Int) : cnt k (l.take (i + 1)) = cnt k (l.take i) + if e.kind = k then 1 else 0 := by
  obtain ⟨hk, rfl⟩ := List.getElem?_eq_some_iff.1 h
  unfold cnt
  rw [List.take_succ_eq_append_getElem hk, List.countP_append, List.countP_singleton]
  simp
theorem bytes_snoc {l : List Ev} {i : Nat} {e : Ev} (h : l[i]? = some e) : bytesN (l.take (i + 1)) = bytesN (l.take i) + if e.kind = 4 then e.text.length else 0 := by
  obtain ⟨hk, rfl⟩ := List.getElem?_eq_some_iff.1 h
  unfold bytesN
  rw [List.take_succ_eq_append_getElem hk, List.map_append, List.sum_append]
  simp
theorem cnt_le (k : Int) (l : List Ev) : cnt k l ≤ l.length := List.countP_le_length
theorem cnt_app (k : Int) (a b : List Ev) : cnt k (a ++ b) = cnt k a + cnt k b := List.countP_append
theorem bytes_app (a b : List Ev) : bytesN (a ++ b) = bytesN a + bytesN b := by unfold bytesN; rw [List.map_append, List.sum_append]
theorem bytes_le {l : List Ev} {T : Nat} (h : ∀ e ∈ l, e.text.length ≤ T) : bytesN l ≤ l.length * T := by
  induction l with
  | nil => simp [bytesN]
  | cons e r ih =>
    have h1 := ih (fun x hx => h x (List.mem_cons_of_mem _ hx))
    have h2 := h e (List.mem_cons_self ..)
    have h3 : bytesN (e :: r) = (if e.kind = 4 then e.text.length else 0) + bytesN r := by unfold bytesN; simp
    rw [h3, List.length_cons, Nat.succ_mul]
    split <;> omega
/-- What stands at a round's head. -/
structure CntInv (w : World) (l : List Ev) (k : Nat) (wr : World) : Prop where
  blk : wr.heap[w.heap.size + 1]? = some (.cells (countC (l.take k)) 56 (0, 0))
  res : wr.heap[w.heap.size]? = some (.cells #[.int .i64 0, .int .i64 0, .int .i64 0, .int .i64 0, .int .i64 0, .int .i64 0, .int .i64 0] 56 (0, 0))
  below : Below w.heap.size w wr
theorem CntInv.alloc {w wr : World} {l : List Ev} {k : Nat} (h : CntInv w l k wr) (o : Obj) : CntInv w l k (wr.alloc o) := by
  have h1 := (Array.getElem?_eq_some_iff.1 h.blk).1
  have hb : Below wr.heap.size wr (wr.alloc o) := (Below.refl _ _).alloc (Nat.le_refl _) _
  exact ⟨(hb.block _ h1).trans h.blk, (hb.block _ (by omega)).trans h.res, h.below.trans (hb.mono h.below.size)⟩
theorem blk_set {w : World} {b i : Nat} {cs : Array Value} {t : TypeId} {fr : Nat × Nat} (h : w.heap[b]? = some (.cells cs t fr)) (u : Value) : (w.setCell ⟨b, i, none⟩ u).heap[b]? = some (.cells (cs.setIfInBounds i u) t fr) := by
  simp [World.setCell, Array.getElem?_modify, h]
theorem seven_cells {w1 : World} {b : Nat} {a0 a1 a2 a3 a4 a5 a6 : Value} {t : TypeId} (h : w1.heap[b]? = some (.cells #[a0, a1, a2, a3, a4, a5, a6] t (0, 0))) :
    (w1.cell? ⟨b, 0, none⟩ = some a0 ∧ w1.cell? ⟨b, 1, none⟩ = some a1 ∧ w1.cell? ⟨b, 2, none⟩ = some a2 ∧ w1.cell? ⟨b, 3, none⟩ = some a3 ∧ w1.cell? ⟨b, 4, none⟩ = some a4 ∧ w1.cell? ⟨b, 5, none⟩ = some a5 ∧ w1.cell? ⟨b, 6, none⟩ = some a6) ∧ (∀ o, w1.frozen? ⟨b, o, none⟩ = false) := by
  have hf : ∀ o, w1.frozen? ⟨b, o, none⟩ = false := fun o => by simp [World.frozen?, h]
  exact ⟨⟨by rw [cell_of_row w1 b 0 _ t (0, 0) h]; rfl, by rw [cell_of_row w1 b 1 _ t (0, 0) h]; rfl, by rw [cell_of_row w1 b 2 _ t (0, 0) h]; rfl, by rw [cell_of_row w1 b 3 _ t (0, 0) h]; rfl, by rw [cell_of_row w1 b 4 _ t (0, 0) h]; rfl, by rw [cell_of_row w1 b 5 _ t (0, 0) h]; rfl, by rw [cell_of_row w1 b 6 _ t (0, 0) h]; rfl⟩, hf⟩

set_option maxHeartbeats 4000000 in
theorem count_any (w : World) (A : Option Addr) (n c : Nat) (l : List Ev) (hl : EvsAt w w.heap.size A n l) (hn : n ≤ 100000) (hs : ∀ e ∈ l, e.text.length ≤ 100000) :
    Calls Tryd.prog 31 #[.slice A n c] w fun e w' => e = .returned (.agg (countC l)) ∧ Below w.heap.size w w' := by
  have HL := Lib.hid hl
  have HS := Lib.hid hs
  clear hl hs
  have HI0 : Hid (CntInv w l 0 ((w.alloc (.cells #[.int .i64 0, .int .i64 0, .int .i64 0, .int .i64 0, .int .i64 0, .int .i64 0, .int .i64 0] 56)).alloc (.cells #[.int .i64 0, .int .i64 0, .int .i64 0, .int .i64 0, .int .i64 0, .int .i64 0, .int .i64 0] 56))) := by
    refine Lib.hid ⟨?_, ?_, ((Below.refl _ _).alloc (Nat.le_refl _) _).alloc (by simp) _⟩
    · have := heap_alloc_new (w.alloc (.cells #[.int .i64 0, .int .i64 0, .int .i64 0, .int .i64 0, .int .i64 0, .int .i64 0, .int .i64 0] 56)) (.cells #[.int .i64 0, .int .i64 0, .int .i64 0, .int .i64 0, .int .i64 0, .int .i64 0, .int .i64 0] 56)
      rw [show (w.alloc (.cells #[.int .i64 0, .int .i64 0, .int .i64 0, .int .i64 0, .int .i64 0, .int .i64 0, .int .i64 0] 56)).heap.size = w.heap.size + 1 by simp] at this
      exact this
    · rw [Below.heap_alloc _ _ _ (by simp)]
      exact heap_alloc_new w _
  go_enter Tryd.func31, Tryd.ntmps31
  go_wp2_with fail
  go_loopw [8] (fun i wr => ∃ k : Nat, k ≤ n ∧ i = .int .i64 k ∧ Hid (CntInv w l k wr)) (fun i _ => n - (intOf i).toNat)
  case atStart => exact ⟨0, Nat.zero_le _, rfl, HI0⟩
  case round =>
    clear HI0
    obtain ⟨k, hk, rfl, HI⟩ := hrel
    have hwr := HI.out.below.size
    have hlen := HL.out.len
    have htk : (l.take k).length ≤ k := List.length_take_le _ _
    have hb1 := cnt_le 1 (l.take k)
    have hb2 := cnt_le 2 (l.take k)
    have hb3 := cnt_le 3 (l.take k)
    have hb4 := cnt_le 4 (l.take k)
    have hb5 := cnt_le 5 (l.take k)
    have hb6 := cnt_le 6 (l.take k)
    have hby := bytes_le (l := l.take k) (fun e he => HS.out e (List.mem_of_mem_take he))
    have hby2 : bytesN (l.take k) ≤ 100000 * 100000 := Nat.le_trans hby (Nat.mul_le_mul_right _ (by omega))
    have hbk := HI.out.blk
    unfold countC at hbk
    have HN1 : Hid (∀ e, l[k]? = some e → countC (l.take (k + 1)) = #[.int .i64 ((cnt 1 (l.take k) + (if e.kind = 1 then 1 else 0) : Nat) : Int), .int .i64 ((cnt 2 (l.take k) + (if e.kind = 2 then 1 else 0) : Nat) : Int), .int .i64 ((cnt 3 (l.take k) + (if e.kind = 3 then 1 else 0) : Nat) : Int), .int .i64 ((cnt 4 (l.take k) + (if e.kind = 4 then 1 else 0) : Nat) : Int), .int .i64 ((cnt 5 (l.take k) + (if e.kind = 5 then 1 else 0) : Nat) : Int), .int .i64 ((cnt 6 (l.take k) + (if e.kind = 6 then 1 else 0) : Nat) : Int), .int .i64 ((bytesN (l.take k) + (if e.kind = 4 then e.text.length else 0) : Nat) : Int)]) :=
      Lib.hid fun e he => by unfold countC; rw [cnt_snoc he, cnt_snoc he, cnt_snoc he, cnt_snoc he, cnt_snoc he, cnt_snoc he, bytes_snoc he]
    have HCF : Hid (countC (l.take k) = #[.int .i64 (cnt 1 (l.take k)), .int .i64 (cnt 2 (l.take k)), .int .i64 (cnt 3 (l.take k)), .int .i64 (cnt 4 (l.take k)), .int .i64 (cnt 5 (l.take k)), .int .i64 (cnt 6 (l.take k)), .int .i64 (bytesN (l.take k))]) := Lib.hid rfl
    have hx7 : (bytesN (l.take k) : Int) ≤ 10000000000 := by omega
    generalize cnt 1 (l.take k) = x1 at *
    generalize cnt 2 (l.take k) = x2 at *
    generalize cnt 3 (l.take k) = x3 at *
    generalize cnt 4 (l.take k) = x4 at *
    generalize cnt 5 (l.take k) = x5 at *
    generalize cnt 6 (l.take k) = x6 at *
    generalize bytesN (l.take k) = x7 at *
    by_cases hlt : k < n
    · have hkl : k < l.length := by rw [HL.out.len]; exact hlt
      have hx := List.getElem?_eq_getElem hkl
      have hmem := HS.out l[k] (List.getElem_mem hkl)
      generalize l[k] = e at hx hmem
      obtain ⟨b, off, hA, hb, c0, c1⟩ := HL.out.at' k e hx
      rw [← HI.out.below.cell (p := ⟨b, off + k * 2, none⟩) hb] at c0
      rw [← HI.out.below.cell (p := ⟨b, off + k * 2 + 1, none⟩) hb] at c1
      have hlt' : (k : Int) < (n : Int) := by omega
      have HN := Lib.hid (HN1.out e hx)
      obtain ⟨⟨d0, d1, d2, d3, d4, d5, d6⟩, hf⟩ := seven_cells hbk
      have hlt2 : w.heap.size + 1 < wr.heap.size := (Array.getElem?_eq_some_iff.1 hbk).1
      have HBK := Lib.hid hbk
      have HRES := Lib.hid HI.out.res
      have hw7 : (x7 : Int) + (e.text.length : Int) ≤ 10000200000 := by omega
      clear hx hbk HN1 HCF hby hby2 hlen
      subst hA
      have hev : e.kind = 1 ∨ e.kind = 2 ∨ e.kind = 3 ∨ e.kind = 4 ∨ e.kind = 5 ∨ e.kind = 6 ∨ (e.kind ≠ 1 ∧ e.kind ≠ 2 ∧ e.kind ≠ 3 ∧ e.kind ≠ 4 ∧ e.kind ≠ 5 ∧ e.kind ≠ 6) := by omega
      generalize hek : e.kind = kd at *
      have HEK := Lib.hid hek
      clear hek
      rcases hev with rfl | rfl | rfl | rfl | rfl | rfl | ⟨n1, n2, n3, n4, n5, n6⟩
      · have HK1 := Lib.hid (blk_set (i := 0) HBK.out (.int .i64 ((x1 : Int) + 1)))
        have HN2 := HN.out
        simp only [Int.reduceEq, if_true, if_false, Nat.add_zero] at HN2
        have HN3 := Lib.hid HN2
        clear HN2
        go_wp2_with fail
        go_roundw
        case rel =>
          refine ⟨k + 1, hlt, by go_num, Lib.hid (CntInv.alloc ⟨?_, ?_, ?_⟩ _)⟩
          · rw [HN3.out]
            have := HK1.out
            simp at this ⊢
            exact this
          · rw [Below.heap_setCell _ _ _ _ (by simp)]
            exact HRES.out
          · exact HI.out.below.setCell (by simp) _
        case measure => simp [intOf]; omega
      · have HK1 := Lib.hid (blk_set (i := 1) HBK.out (.int .i64 ((x2 : Int) + 1)))
        have HN2 := HN.out
        simp only [Int.reduceEq, if_true, if_false, Nat.add_zero] at HN2
        have HN3 := Lib.hid HN2
        clear HN2
        go_wp2_with fail
        go_roundw
        case rel =>
          refine ⟨k + 1, hlt, by go_num, Lib.hid (CntInv.alloc ⟨?_, ?_, ?_⟩ _)⟩
          · rw [HN3.out]
            have := HK1.out
            simp at this ⊢
            exact this
          · rw [Below.heap_setCell _ _ _ _ (by simp)]
            exact HRES.out
          · exact HI.out.below.setCell (by simp) _
        case measure => simp [intOf]; omega
      · have HK1 := Lib.hid (blk_set (i := 2) HBK.out (.int .i64 ((x3 : Int) + 1)))
        have HN2 := HN.out
        simp only [Int.reduceEq, if_true, if_false, Nat.add_zero] at HN2
        have HN3 := Lib.hid HN2
        clear HN2
        go_wp2_with fail
        go_roundw
        case rel =>
          refine ⟨k + 1, hlt, by go_num, Lib.hid (CntInv.alloc ⟨?_, ?_, ?_⟩ _)⟩
          · rw [HN3.out]
            have := HK1.out
            simp at this ⊢
            exact this
          · rw [Below.heap_setCell _ _ _ _ (by simp)]
            exact HRES.out
          · exact HI.out.below.setCell (by simp) _
        case measure => simp [intOf]; omega
      · have HK1 := Lib.hid (blk_set (i := 6) (blk_set (i := 3) HBK.out (.int .i64 ((x4 : Int) + 1))) (.int .i64 ((x7 : Int) + (e.text.length : Int))))
        have HN2 := HN.out
        simp only [Int.reduceEq, if_true, if_false, Nat.add_zero] at HN2
        have HN3 := Lib.hid HN2
        clear HN2
        go_wp2_with fail
        go_roundw
        case rel =>
          refine ⟨k + 1, hlt, by go_num, Lib.hid (CntInv.alloc ⟨?_, ?_, ?_⟩ _)⟩
          · rw [HN3.out]
            have := HK1.out
            simp at this ⊢
            exact this
          · rw [Below.heap_setCell _ _ _ _ (by simp), Below.heap_setCell _ _ _ _ (by simp)]
            exact HRES.out
          · exact (HI.out.below.setCell (by simp) _).setCell (by simp) _
        case measure => simp [intOf]; omega
      · have HK1 := Lib.hid (blk_set (i := 4) HBK.out (.int .i64 ((x5 : Int) + 1)))
        have HN2 := HN.out
        simp only [Int.reduceEq, if_true, if_false, Nat.add_zero] at HN2
        have HN3 := Lib.hid HN2
        clear HN2
        go_wp2_with fail
        go_roundw
        case rel =>
          refine ⟨k + 1, hlt, by go_num, Lib.hid (CntInv.alloc ⟨?_, ?_, ?_⟩ _)⟩
          · rw [HN3.out]
            have := HK1.out
            simp at this ⊢
            exact this
          · rw [Below.heap_setCell _ _ _ _ (by simp)]
            exact HRES.out
          · exact HI.out.below.setCell (by simp) _
        case measure => simp [intOf]; omega
      · have HK1 := Lib.hid (blk_set (i := 5) HBK.out (.int .i64 ((x6 : Int) + 1)))
        have HN2 := HN.out
        simp only [Int.reduceEq, if_true, if_false, Nat.add_zero] at HN2
        have HN3 := Lib.hid HN2
        clear HN2
        go_wp2_with fail
        go_roundw
        case rel =>
          refine ⟨k + 1, hlt, by go_num, Lib.hid (CntInv.alloc ⟨?_, ?_, ?_⟩ _)⟩
          · rw [HN3.out]
            have := HK1.out
            simp at this ⊢
            exact this
          · rw [Below.heap_setCell _ _ _ _ (by simp)]
            exact HRES.out
          · exact HI.out.below.setCell (by simp) _
        case measure => simp [intOf]; omega
      · have q1 : (kd == 1) = false := beq_eq_false_iff_ne.2 n1
        have q2 : (kd == 2) = false := beq_eq_false_iff_ne.2 n2
        have q3 : (kd == 3) = false := beq_eq_false_iff_ne.2 n3
        have q4 : (kd == 4) = false := beq_eq_false_iff_ne.2 n4
        have q5 : (kd == 5) = false := beq_eq_false_iff_ne.2 n5
        have q6 : (kd == 6) = false := beq_eq_false_iff_ne.2 n6
        have HN2 := HN.out
        simp only [if_neg n1, if_neg n2, if_neg n3, if_neg n4, if_neg n5, if_neg n6, Nat.add_zero] at HN2
        have HN3 := Lib.hid HN2
        clear HN2 n1 n2 n3 n4 n5 n6
        go_wp2_with fail
        go_roundw
        case rel => exact ⟨k + 1, hlt, by go_num, Lib.hid (CntInv.alloc ⟨by rw [HN3.out]; exact HBK.out, HRES.out, HI.out.below⟩ _)⟩
        case measure => simp [intOf]; omega
    · have hkn : k = n := by omega
      subst hkn
      have e1 : l.take k = l := List.take_of_length_le (by rw [HL.out.len]; exact Nat.le_refl _)
      rw [e1] at HCF
      obtain ⟨⟨d0, d1, d2, d3, d4, d5, d6⟩, hf⟩ := seven_cells hbk
      obtain ⟨⟨r0, r1, r2, r3, r4, r5, r6⟩, hfr⟩ := seven_cells HI.out.res
      have hlt2 : w.heap.size + 1 < wr.heap.size := (Array.getElem?_eq_some_iff.1 hbk).1
      have hz := blk_set (i := 6) (blk_set (i := 5) (blk_set (i := 4) (blk_set (i := 3) (blk_set (i := 2) (blk_set (i := 1) (blk_set (i := 0) HI.out.res (.int .i64 (x1 : Int))) (.int .i64 (x2 : Int))) (.int .i64 (x3 : Int))) (.int .i64 (x4 : Int))) (.int .i64 (x5 : Int))) (.int .i64 (x6 : Int))) (.int .i64 (x7 : Int))
      obtain ⟨⟨z0, z1, z2, z3, z4, z5, z6⟩, -⟩ := seven_cells hz
      have HZ := Lib.hid (And.intro z0 (And.intro z1 (And.intro z2 (And.intro z3 (And.intro z4 (And.intro z5 z6))))))
      clear hbk e1 HN1 hby hby2 hz z0 z1 z2 z3 z4 z5 z6
      go_wp2_with fail
      obtain ⟨z0, z1, z2, z3, z4, z5, z6⟩ := HZ.out
      refine bodyPost_ret (v := .agg #[.int .i64 x1, .int .i64 x2, .int .i64 x3, .int .i64 x4, .int .i64 x5, .int .i64 x6, .int .i64 x7]) (by simp [results, Tryd.results31, go_sem, z0, z1, z2, z3, z4, z5, z6]) rfl ⟨by rw [HCF.out], ?_⟩
      repeat (refine Below.setCell ?_ (by simp) _)
      exact HI.out.below
end Go.Proofs.YtpiekfkkhgighaaDoor
