/-
  What stats' Show answers: events as a text, or an error. Conditions: the slice can be read; the table of bits and the index package's cell hold what is named; the sizes that are named.
-/
import Derived.Test.YtpiekfkkhgighaaDoorEvA
namespace Go.Proofs.YtpiekfkkhgighaaDoor
open Go.RowKit
set_option maxRecDepth 100000

def wordsV : Value := .agg #[.string ⟨#[]⟩, .string ⟨#[121, 101, 115]⟩, .string ⟨#[110, 111]⟩, .string ⟨#[119, 114, 111, 110, 103]⟩, .string ⟨#[111, 117, 116]⟩, .string ⟨#[114, 101, 115, 111, 117, 114, 99, 101]⟩, .string ⟨#[115, 121, 110, 116, 97, 120]⟩]
set_option maxHeartbeats 1000000 in
theorem kinds_any (w : World) : Calls Tryd.prog 40 #[] w fun e w' => e = .returned wordsV ∧ Below w.heap.size w w' := by
  go_enter Tryd.func40, Tryd.ntmps40
  go_wp2_with fail
  refine bodyPost_ret (v := wordsV) (by simp [results, Tryd.results40, go_sem, wordsV]) rfl ⟨rfl, ?_⟩
  repeat (refine Below.setCell ?_ (by simp) _)
  exact (Below.refl _ _).alloc (Nat.le_refl _) _
def wordI (k : Int) : List UInt8 := if 1 ≤ k ∧ k ≤ 6 then wordB k.toNat else []
set_option maxHeartbeats 1000000 in
theorem word_any (w : World) (k : Int) : Calls Tryd.prog 41 #[wordsV, .int .i64 k] w fun e w' => e = .returned (.string ⟨(wordI k).toArray⟩) ∧ Below w.heap.size w w' := by
  unfold wordsV wordI
  by_cases h : 1 ≤ k ∧ k ≤ 6
  · rw [if_pos h]
    rcases (show k = 1 ∨ k = 2 ∨ k = 3 ∨ k = 4 ∨ k = 5 ∨ k = 6 by omega) with rfl | rfl | rfl | rfl | rfl | rfl
    all_goals
      clear h
      go_enter Tryd.func41, Tryd.ntmps41
      go_wp2_with fail
      go_ret
      exact ⟨rfl, (Below.refl _ _).alloc (Nat.le_refl _) _⟩
  · rw [if_neg h]
    rcases (show k < 1 ∨ 6 < k by omega) with h1 | h1
    · clear h
      go_enter Tryd.func41, Tryd.ntmps41
      go_wp2_with fail
      go_ret
      exact ⟨rfl, (Below.refl _ _).alloc (Nat.le_refl _) _⟩
    · have h2 : decide (k < 1) = false := decide_eq_false (by omega)
      clear h
      go_enter Tryd.func41, Tryd.ntmps41
      go_wp2_with fail
      go_ret
      exact ⟨rfl, (Below.refl _ _).alloc (Nat.le_refl _) _⟩

theorem bld_fresh (w : World) : Lib.IsBuilder 95 5 w.heap.size w.heap.size (Lib.byteCells []) (w.alloc (.cells #[.pointer none, .slice none 0 0] 95)) :=
  .inl ⟨Nat.le_refl _, _, heap_alloc_new w _, World.ownsRow_nil _ _ _ _, by simp [Value.ownBlock]⟩
theorem bld_later {T e : TypeId} {B b : Nat} {bs : List Value} {w w' : World} (h : Lib.IsBuilder T e B b bs w) (hb : Below w.heap.size w w') : Lib.IsBuilder T e B b bs w' := by
  have key : ∀ p, Lib.BuilderAt T e B b p bs w → Lib.BuilderAt T e B b p bs w' := by
    rintro p ⟨hB, v, hbk, hown, hne⟩
    have hlt : b < w.heap.size := by
      rcases Nat.lt_or_ge b w.heap.size with h' | h'
      · exact h'
      · simp [Array.getElem?_eq_none h'] at hbk
    refine ⟨hB, v, by rw [hb.block b hlt]; exact hbk, ⟨hown.1, ?_⟩, hne⟩
    rcases hown.2 with hn | ⟨g, cap, cur, rfl, hg, hgg, rest⟩
    · exact .inl hn
    · have hglt : g < w.heap.size := (Array.getElem?_eq_some_iff.1 hgg).1
      exact .inr ⟨g, cap, cur, rfl, hg, by rw [hb.block g hglt]; exact hgg, rest⟩
  exact h.imp (key _) (key _)
theorem str_cells (l : List UInt8) : Lib.strCells ⟨l.toArray⟩ = Lib.byteCells l := rfl
theorem byte_cells_app (a b : List UInt8) : Lib.byteCells a ++ Lib.byteCells b = Lib.byteCells (a ++ b) := by
  unfold Lib.byteCells
  rw [List.map_append]
theorem byte_cells_len (a : List UInt8) : (Lib.byteCells a).length = a.length := by unfold Lib.byteCells; rw [List.length_map]
theorem flat_snoc {l : List Ev} {k : Nat} {e : Ev} (h : l[k]? = some e) : (l.take (k + 1)).flatMap lineB = (l.take k).flatMap lineB ++ lineB e ∧ (l.take (k + 1)).all okKind = ((l.take k).all okKind && okKind e) := by
  obtain ⟨hk, rfl⟩ := List.getElem?_eq_some_iff.1 h
  rw [List.take_succ_eq_append_getElem hk, List.flatMap_append, List.all_append]
  simp
theorem lineB_len (e : Ev) : (lineB e).length ≤ 13 + 5 * e.text.length := by
  have h1 := escs_len e.text
  have h2 : (wordB e.kind.toNat).length ≤ 8 := by unfold wordB; split <;> simp
  unfold lineB quoteB
  simp only [List.length_append, List.length_cons, List.length_nil]
  omega
theorem lines_len (T : Nat) : ∀ (l : List Ev), (∀ e ∈ l, e.text.length ≤ T) → (l.flatMap lineB).length ≤ l.length * (13 + 5 * T)
  | [], _ => by simp
  | e :: r, h => by
    have h1 := lines_len T r (fun x hx => h x (List.mem_cons_of_mem _ hx))
    have h2 := lineB_len e
    have h3 := h e (List.mem_cons_self ..)
    rw [List.flatMap_cons, List.length_append, List.length_cons, Nat.succ_mul]
    omega
theorem size_list (l : List UInt8) : (⟨l.toArray⟩ : ByteArray).size = l.length := by show l.toArray.size = _; simp
theorem ev_cells_ne (cs0 : Array Value) : ∀ cs fr, Obj.cells cs0 87 (0, 0) ≠ .cells cs 5 fr := by
  intro cs fr e
  injection e with _ h
  exact absurd h (by decide)
def showV : Option (List UInt8) → Value
  | some x => .tuple #[.string ⟨x.toArray⟩, .int .i64 0]
  | none => .tuple #[.string ⟨[].toArray⟩, .int .i64 2]
structure ShowInv (w : World) (l : List Ev) (k : Nat) (wr : World) : Prop where
  bld : Lib.IsBuilder 95 5 w.heap.size w.heap.size (Lib.byteCells ((l.take k).flatMap lineB)) wr
  below : Below w.heap.size w wr
  ok : (l.take k).all okKind = true
  lt : w.heap.size < wr.heap.size
theorem all_of_bad {l : List Ev} {k : Nat} {e : Ev} (h : l[k]? = some e) (hk : okKind e = false) : showB l = none := by
  unfold showB
  rw [if_neg]
  intro ha
  rw [List.all_eq_true] at ha
  have := ha e (List.mem_of_getElem? h)
  rw [hk] at this
  cases this
theorem wordI_ok {e : Ev} (h : okKind e = true) : wordI e.kind = wordB e.kind.toNat ∧ ∃ c r, wordB e.kind.toNat = c :: r := by
  have hk := okKind_cases h
  have h2 := of_decide_eq_true h
  refine ⟨by unfold wordI; rw [if_pos h2], ?_⟩
  rcases hk with h | h | h | h | h | h <;> (rw [h]; exact ⟨_, _, rfl⟩)

set_option maxHeartbeats 4000000 in
theorem show_any (w : World) (A : Option Addr) (n c : Nat) (l : List Ev) (hl : EvsAt w w.heap.size A n l) (hn : n ≤ 100000) (hs : ∀ e ∈ l, e.text.length ≤ 100000)
    (ht : w.cell? ⟨8, 15, none⟩ = some (.int .u8 4)) (hm : ∃ m : Int, w.cell? ⟨3, 0, none⟩ = some (.int .i64 m)) :
    Calls Tryd.prog 26 #[.slice A n c] w fun e w' => e = .returned (showV (showB l)) ∧ Below w.heap.size w w' := by
  have HL := Lib.hid hl
  have HS := Lib.hid hs
  have HT := Lib.hid ht
  have HM := Lib.hid hm
  clear hl hs ht hm
  go_enter Tryd.func26, Tryd.ntmps26
  go_wp2_with fail
  refine (kinds_any w).mono ?_
  rintro e w1 ⟨rfl, hb1⟩
  have hw1 := hb1.size
  have HL1 := Lib.hid ((HL.out.below hb1).up hw1)
  have HT1 := Lib.hid (tab_later HT.out hb1)
  have HM1 : Hid (∃ m : Int, w1.cell? ⟨3, 0, none⟩ = some (.int .i64 m)) := by
    obtain ⟨m, hm⟩ := HM.out
    exact Lib.hid ⟨m, (World.cell?_of_block (a := ⟨3, 0, none⟩) (hb1.block _ (World.block_lt_of_cell? w _ hm))).trans hm⟩
  have HB1 := Lib.hid hb1
  clear hb1 HL HT HM
  have HI0 : Hid (ShowInv w1 l 0 (w1.alloc (.cells #[.pointer none, .slice none 0 0] 95))) := Lib.hid ⟨bld_fresh w1, (Below.refl _ _).alloc (Nat.le_refl _) _, rfl, by simp⟩
  unfold wordsV
  go_wp2_with fail
  go_loopw [13] (fun i wr => ∃ k : Nat, k ≤ n ∧ i = .int .i64 k ∧ Hid (ShowInv w1 l k wr)) (fun i _ => n - (intOf i).toNat)
  case atStart => exact ⟨0, Nat.zero_le _, rfl, HI0⟩
  case round =>
    clear HI0
    obtain ⟨k, hk, rfl, HI⟩ := hrel
    have hwr := HI.out.lt
    by_cases hlt : k < n
    · have hkl : k < l.length := by rw [HL1.out.len]; exact hlt
      have hx := List.getElem?_eq_getElem hkl
      have hmem := HS.out l[k] (List.getElem_mem hkl)
      generalize l[k] = e at hx hmem
      obtain ⟨b, off, hA, hb, c0, c1⟩ := HL1.out.at' k e hx
      rw [← HI.out.below.cell (p := ⟨b, off + k * 2, none⟩) hb] at c0
      rw [← HI.out.below.cell (p := ⟨b, off + k * 2 + 1, none⟩) hb] at c1
      have hlt' : (k : Int) < (n : Int) := by omega
      have hacc := lines_len 100000 (l.take k) (fun e he => HS.out e (List.mem_of_mem_take he))
      have htk : (l.take k).length ≤ k := List.length_take_le _ _
      have HX := Lib.hid hx
      have HSN := Lib.hid (flat_snoc hx)
      obtain ⟨acc, hac⟩ : ∃ acc, (l.take k).flatMap lineB = acc := ⟨_, rfl⟩
      rw [hac] at hacc HSN
      have HAC := Lib.hid hac
      have hacc2 : acc.length ≤ 100000 * 500013 := Nat.le_trans hacc (by
        refine Nat.le_trans (Nat.mul_le_mul_right _ (show (l.take k).length ≤ 100000 by omega)) (by decide))
      clear hx hac hacc
      subst hA
      go_wp2_with fail
      refine (word_any _ e.kind).mono ?_
      rintro e1 w2 ⟨rfl, hb2⟩
      have hbv : w2.heap[wr.heap.size]? = some (.cells #[.int .i64 e.kind, .string ⟨e.text.toArray⟩] 87 (0, 0)) := by
        rw [hb2.block _ (by simp)]
        exact heap_alloc_new wr _
      have v0 : w2.cell? ⟨wr.heap.size, 0, none⟩ = some (.int .i64 e.kind) := by rw [cell_of_row w2 wr.heap.size 0 _ _ (0, 0) hbv]; rfl
      have v1 : w2.cell? ⟨wr.heap.size, 1, none⟩ = some (.string ⟨e.text.toArray⟩) := by rw [cell_of_row w2 wr.heap.size 1 _ _ (0, 0) hbv]; rfl
      have hw2 := hb2.size
      simp at hw2
      have hwr2 : Below wr.heap.size wr w2 := (((Below.refl _ _).alloc (Nat.le_refl _) _).trans (hb2.mono (by simp)))
      have HB2 := Lib.hid (HI.out.below.trans (hwr2.mono (by omega)))
      have HV := Lib.hid hbv
      have hbl := bld_later HI.out.bld hwr2
      rw [HAC.out] at hbl
      have HBL := Lib.hid hbl
      clear hb2 hwr2 hbl hbv c0 c1
      by_cases hok : okKind e = true
      · obtain ⟨hw, cW, rW, hW⟩ := wordI_ok hok
        rw [hw]
        have HSN2 : Hid ((l.take (k + 1)).flatMap lineB = acc ++ lineB e ∧ (l.take (k + 1)).all okKind = true) := Lib.hid ⟨HSN.out.1, by rw [HSN.out.2, HI.out.ok, hok]; rfl⟩
        have HLE : Hid (lineB e = wordB e.kind.toNat ++ [32] ++ quoteB e.text ++ [10]) := Lib.hid rfl
        have hwl : (wordB e.kind.toNat).length ≤ 8 := by unfold wordB; split <;> simp
        rw [hW] at HLE hwl ⊢
        clear hw hok HSN hW
        have hne : wr.heap.size ≠ w1.heap.size := by omega
        obtain ⟨W, hWW⟩ : ∃ W, cW :: rW = W := ⟨_, rfl⟩
        have hWe : W.isEmpty = false := by rw [← hWW]; rfl
        rw [hWW] at HLE hwl ⊢
        clear hWW
        go_wp2_with fail
        refine (wstr_any w1.heap.size w1.heap.size (Lib.byteCells acc) ⟨W.toArray⟩ w2 HBL.out (by rw [byte_cells_len, size_list]; omega) (by omega)).mono ?_
        rintro e2 w3 ⟨rfl, h3, hb3, ho3⟩
        rw [str_cells, byte_cells_app] at h3
        have HBL3 := Lib.hid h3
        have HB3 := Lib.hid (HB2.out.trans hb3)
        have HV3 := Lib.hid (ho3 _ _ HV.out hne (ev_cells_ne _))
        clear h3 hb3 ho3 HBL HV HB2 v0 v1
        go_wp2_with fail
        refine (wbyte_any w1.heap.size w1.heap.size (Lib.byteCells (acc ++ W)) 32 w3 (.inr HBL3.out) (by rw [byte_cells_len, List.length_append]; omega) HB3.out.size).mono ?_
        rintro e3 w4 ⟨rfl, h4, hb4, ho4⟩
        rw [show [Value.int .u8 32] = Lib.byteCells [32] from rfl, byte_cells_app] at h4
        have HBL4 := Lib.hid h4
        have hb14 := HB3.out.trans hb4
        have HB4 := Lib.hid hb14
        have hbv4 := ho4 _ _ HV3.out hne (ev_cells_ne _)
        have v1 : w4.cell? ⟨wr.heap.size, 1, none⟩ = some (.string ⟨e.text.toArray⟩) := by rw [cell_of_row w4 wr.heap.size 1 _ _ (0, 0) hbv4]; rfl
        have HT4 := Lib.hid (tab_later HT1.out hb14)
        have HM4 : Hid (∃ m : Int, w4.cell? ⟨3, 0, none⟩ = some (.int .i64 m)) := by
          obtain ⟨m, hm⟩ := HM1.out
          exact Lib.hid ⟨m, (World.cell?_of_block (a := ⟨3, 0, none⟩) (hb14.block _ (World.block_lt_of_cell? w1 _ hm))).trans hm⟩
        clear h4 hb4 ho4 hb14 hbv4 HBL3 HV3 HB3
        go_wp2_with fail
        refine (quoted_any w4 e.text (by omega) HT4.out HM4.out).mono ?_
        rintro e4 w5 ⟨rfl, hb5⟩
        have HBL5 := Lib.hid (bld_later (.inr HBL4.out) hb5)
        have HB5 := Lib.hid (HB4.out.trans (hb5.mono HB4.out.size))
        have hql : (quoteB e.text).length ≤ 2 + 5 * e.text.length := by
          have := escs_len e.text
          unfold quoteB
          simp only [List.length_append, List.length_cons, List.length_nil]
          omega
        generalize quoteB e.text = Q at *
        clear hb5 HBL4 HB4 v1 HT4 HM4
        go_wp2_with fail
        refine (wstr_any w1.heap.size w1.heap.size (Lib.byteCells (acc ++ W ++ [32])) ⟨Q.toArray⟩ w5 HBL5.out (by rw [byte_cells_len, size_list, List.length_append, List.length_append]; simp only [List.length_cons, List.length_nil]; omega) HB5.out.size).mono ?_
        rintro e5 w6 ⟨rfl, h6, hb6, -⟩
        rw [str_cells, byte_cells_app] at h6
        have HBL6 := Lib.hid h6
        have HB6 := Lib.hid (HB5.out.trans hb6)
        clear h6 hb6 HBL5 HB5
        go_wp2_with fail
        refine (wbyte_any w1.heap.size w1.heap.size (Lib.byteCells (acc ++ W ++ [32] ++ Q)) 10 w6 (.inr HBL6.out) (by rw [byte_cells_len, List.length_append, List.length_append, List.length_append]; simp only [List.length_cons, List.length_nil]; omega) HB6.out.size).mono ?_
        rintro e6 w7 ⟨rfl, h7, hb7, -⟩
        rw [show [Value.int .u8 10] = Lib.byteCells [10] from rfl, byte_cells_app] at h7
        have HI7 : Hid (ShowInv w1 l (k + 1) w7) := by
          have hb17 := HB6.out.trans hb7
          refine Lib.hid ⟨?_, hb17, HSN2.out.2, ?_⟩
          · rw [HSN2.out.1, HLE.out]
            simp only [List.append_assoc] at h7 ⊢
            exact .inr h7
          · exact (h7.lt)
        clear h7 hb7 HBL6 HB6
        go_wp2_with fail
        go_roundw
        case rel => exact ⟨k + 1, hlt, by go_num, HI7⟩
        case measure => simp [intOf]; omega
      · rw [Bool.not_eq_true] at hok
        have hwd : wordI e.kind = [] := by
          unfold wordI
          rw [if_neg (of_decide_eq_false hok)]
        have HSH := Lib.hid (all_of_bad HX.out hok)
        rw [hwd]
        have HB9 := Lib.hid (HB1.out.trans (HB2.out.mono hw1))
        clear hwd hok
        go_wp2_with fail
        go_ret2
        exact ⟨by rw [HSH.out]; rfl, HB9.out⟩
    · have hkn : k = n := by omega
      subst hkn
      have e1 : l.take k = l := List.take_of_length_le (by rw [HL1.out.len]; exact Nat.le_refl _)
      have HSH : Hid (showB l = some (l.flatMap lineB)) := Lib.hid (by
        unfold showB
        rw [if_pos (by have := HI.out.ok; rw [e1] at this; exact this)])
      have hbl := HI.out.bld
      rw [e1] at hbl
      have HBL := Lib.hid hbl
      clear hbl e1
      go_wp2_with fail
      refine (Tryd.Builder_String_any w1.heap.size w1.heap.size (l.flatMap lineB) wr HBL.out (Nat.le_of_lt hwr)).mono ?_
      rintro e w3 ⟨rfl, hb3⟩
      have HB3 := Lib.hid (HB1.out.trans ((HI.out.below.trans hb3).mono hw1))
      clear hb3
      go_wp2_with fail
      go_ret2
      exact ⟨by rw [HSH.out]; rfl, HB3.out⟩
end Go.Proofs.YtpiekfkkhgighaaDoor
