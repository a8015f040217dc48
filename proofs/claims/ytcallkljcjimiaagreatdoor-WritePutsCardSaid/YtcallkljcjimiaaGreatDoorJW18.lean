import Derived.Test.YtcallkljcjimiaaGreatDoorJW17
import Derived.Laws.EntriesVeiled
import Derived.Laws.OwnMore
namespace Go.Proofs.YtcallkljcjimiaaGreatDoor
open Go.RowKit Go.Maps
set_option maxRecDepth 100000
theorem term_all (es : List (OpK × OpV)) (way : Int) : ∀ n, TermC es way n
 | 0 => fun _ _ _ _ _ _ _ _ t _ h _ _ _ _ => by have := size_pos t; omega
 | n + 1 => term_any (comp_any (term_all es way n))
def putF (es : List (OpK × OpV)) (way : Int) (t : Tm) : List UInt8 × Int :=
 if ¬ (way = 0 ∨ way = 1 ∨ way = 2) then ([], 2) else if checkT t = 0 then (wrT es way t 1200, 0) else ([], checkT t)
theorem check_ok {t : Tm} (h : checkT t = 0) : t.may = true ∧ t.deep ≤ 2000 ∧ t.size ≤ 20000 := by
 unfold checkT at h
 split at h
 ·cases h
 ·split at h
  ·cases h
  ·split at h
   ·cases h
   ·rename_i h1 h2 h3
    exact ⟨by simpa using h1, by omega, by omega⟩
structure WrT (u : World) : Prop where
 kinds : KindsAt u
 pow : PowAt u
 bits : u.cell? ⟨6, 15, none⟩ = some (.int .u8 4)
theorem WrT.later {u u' : World} (h : WrT u) (hb : Below u.heap.size u u') : WrT u' :=
 ⟨h.kinds.later hb, h.pow.later hb, (hb.cell (p := ⟨6, 15, none⟩) (World.block_lt_of_cell? u _ h.bits)).trans h.bits⟩
set_option maxHeartbeats 8000000 in
theorem wput_any (u : World) (x : TV) (t : Tm) (bt bm : Nat) (es : List (OpK × OpV)) (way : Int) (hx : TermAt u u.heap.size x t) (hfit : t.fits = true) (hsz : t.size ≤ 10000000) (hdp : t.deep ≤ 10000000) (hT : WrT u) (hTab : TabAt u bt bm es) :
    Calls Tryz.prog 14 #[tvV x, .int .i64 way, .pointer (some ⟨bt, 0, none⟩)] u fun e u' => e = .returned (.tuple #[.string ⟨(putF es way t).1.toArray⟩, .int .i64 (putF es way t).2]) ∧ Below u.heap.size u u' := by
 obtain ⟨R, hR⟩ : ∃ R, R = putF es way t := ⟨_, rfl⟩
 rw [← hR]
 have HR := Lib.hid hR
 obtain ⟨W, hW⟩ : ∃ W, W = u.alloc (.cells #[.int .i64 x.k, .int .i64 x.n, .string ⟨x.s.toArray⟩, .slice x.A x.len x.cap] 28) := ⟨_, rfl⟩
 have hbW : Below u.heap.size u W := by rw [hW]; exact (Below.refl _ _).alloc (Nat.le_refl _) _
 have hx0 : W.heap[u.heap.size]? = some (.cells #[.int .i64 x.k, .int .i64 x.n, .string ⟨x.s.toArray⟩, .slice x.A x.len x.cap] 28 (0, 0)) := by rw [hW]; exact heap_alloc_new _ _
 obtain ⟨q, hq⟩ : ∃ q, q = u.heap.size := ⟨_, rfl⟩
 rw [← hq] at hx0
 have HX : Hid (TermAt W q x t) := Lib.hid (by rw [hq]; exact hx.blw hbW)
 have HB := Lib.hid hbW
 have HX0 := Lib.hid hx0
 have HFIT := Lib.hid (And.intro hfit (And.intro hsz hdp))
 have HT := Lib.hid (hT.later hbW)
 have HTAB := Lib.hid (hTab.later hbW)
 have HQ := Lib.hid hq
 have hqW : q < W.heap.size := (Array.getElem?_eq_some_iff.1 hx0).1
 have hck := check_any W x t ((HX.out).up (Nat.le_of_lt hqW)) hsz hdp
 obtain ⟨E, hE⟩ : ∃ E, E = checkT t := ⟨_, rfl⟩
 rw [← hE] at hck
 have HE := Lib.hid hE
 rw [tvV_lit] at hck ⊢
 have HCK := Lib.hid hck
 obtain ⟨f0, f1, f2, f3, -⟩ := four_at hx0
 clear hR hx hfit hsz hdp hT hTab hbW hx0 hck hE
 by_cases hway : way = 0 ∨ way = 1 ∨ way = 2
 ·by_cases hE0 : E = 0
  ·have b4 : (E != 0) = false := by rw [hE0]; rfl
   have HE0 := Lib.hid hE0
   clear hE0
   rcases hway with rfl | rfl | rfl
   ·go_enter Tryz.func14, Tryz.ntmps14
    go_upto_region 1 with fail
    rw [← hW, ← hq]
    clear hW hq
    go_wp2_with fail
    refine HCK.out.mono ?_
    rintro e W1 ⟨rfl, hb1⟩
    have HX1 := Lib.hid ((hb1.block q hqW).trans HX0.out)
    have HB1 := Lib.hid (HB.out.trans (hb1.mono HB.out.size))
    have hM := check_ok (HE.out.symm.trans HE0.out)
    have hR1 : R = (wrT es 0 t 1200, 0) := by rw [HR.out]; unfold putF; rw [if_neg (by decide), if_pos (HE.out.symm.trans HE0.out)]
    have HR1 := Lib.hid hR1
    have hT1 := HT.out.later hb1
    have hTab1 := HTAB.out.later hb1
    have hXX : TermAt W1 W1.heap.size x t := (HX.out.blw (hb1.mono (Nat.le_of_lt hqW))).up (by have := hb1.size; omega)
    obtain ⟨wb, hwb⟩ : ∃ wb, wb = W1.heap.size := ⟨_, rfl⟩
    obtain ⟨U, hU⟩ : ∃ U, U = W1.alloc (.cells #[.slice none 0 0, .int .i64 0, .pointer (some ⟨bt, 0, none⟩), .func (.func 32) #[.pointer (some ⟨wb, 0, none⟩)] #[]] 75) := ⟨_, rfl⟩
    have hbU : Below W1.heap.size W1 U := by rw [hU]; exact (Below.refl _ _).alloc (Nat.le_refl _) _
    have hu0 : U.heap[wb]? = some (.cells #[.slice none 0 0, .int .i64 0, .pointer (some ⟨bt, 0, none⟩), putV wb] 75 (0, 0)) := by rw [hU, hwb]; exact heap_alloc_new _ _
    have hU2 := hT1.later hbU
    have hqx : q < wb := by have := hb1.size; omega
    have HKU : Hid (WrK U wb (wb + 1) wb bt bm es 0 []) := Lib.hid (by
     refine ⟨⟨⟨none, 0, hu0, Row.nil _ _ _ _ _⟩, Nat.lt_succ_self _⟩, ⟨hTab1.later hbU, hU2.kinds, hU2.pow, hU2.bits⟩, ⟨?_, ?_, ?_, ?_, ?_⟩, Nat.le_refl _, ?_⟩
     ·rw [hwb]; exact hTab1.lt
     ·rw [hwb]; exact hTab1.map.lt
     ·rw [hwb]; exact hT1.kinds.lt
     ·rw [hwb]; exact hT1.pow.lt
     ·rw [hwb]; exact World.block_lt_of_cell? W1 _ hT1.bits
     ·have := (Array.getElem?_eq_some_iff.1 hu0).1; omega)
    have HXU : Hid (TermAt U wb x t) := Lib.hid (by rw [hwb]; exact hXX.blw hbU)
    have HBU := Lib.hid (HB1.out.trans (hbU.mono HB1.out.size))
    have HX2 := Lib.hid ((hbU.block q (by omega)).trans HX1.out)
    have HSZ : Hid (u.heap.size ≤ wb ∧ u.heap.size ≤ U.heap.size) := Lib.hid ⟨by have := HQ.out; omega, HBU.out.size⟩
    have HTC : Hid (Calls Tryz.prog 33 #[.pointer (some ⟨wb, 0, none⟩), .agg #[.int .i64 x.k, .int .i64 x.n, .string ⟨x.s.toArray⟩, .slice x.A x.len x.cap], .int .i64 1200] U fun e u' => e = .returned (.tuple #[]) ∧ WrAt u' (wb + 1) wb bt 0 ([] ++ wrT es 0 t 1200) ∧ Fr (WrS U (wb + 1) wb) U u') := Lib.hid (by
     rw [← tvV_lit]
     exact term_all es 0 t.size U wb (wb + 1) wb bt bm [] x t 1200 (Nat.le_refl _) ⟨hM.1, HFIT.out.1⟩ HXU.out HKU.out (by have := hM.2.2; simp only [List.length_nil]; omega))
    clear f0 f1 f2 f3 hb1 hM hR1 hT1 hTab1 hXX hbU hu0 hU2
    obtain ⟨f0, f1, f2, f3, -⟩ := four_at HX1.out
    go_upto_region 10 with fail
    rw [← hwb, ← hU]
    clear hU hwb f0 f1 f2 f3
    obtain ⟨f0, f1, f2, f3, -⟩ := four_at HX2.out
    go_wp2_with fail
    refine HTC.out.mono ?_
    rintro e W3 ⟨rfl, h1, h2⟩
    have hBF : Below u.heap.size u W3 := HBU.out.trans (WrS.below h2 HSZ.out.1 (by have := HSZ.out.1; omega) HSZ.out.2)
    have HBF := Lib.hid hBF
    obtain ⟨A9, c9, hb9, hr9⟩ := h1.blk
    rw [List.nil_append] at hb9 hr9
    have c0 : W3.cell? ⟨wb, 0, none⟩ = some (.slice A9 (wrT es 0 t 1200).length c9) := by rw [cell_of_row W3 wb 0 _ _ (0, 0) hb9]; rfl
    have hcv := Row.string Tryz.underlying72 Tryz.underlying5 Tryz.underlying9 hr9
    clear hBF h1 h2 hb9 hr9 f0 f1 f2 f3
    generalize wrT es 0 t 1200 = txt at *
    go_wp2_with fail
    go_ret2
    exact ⟨by rw [HR1.out]; rfl, HBF.out⟩
   ·go_enter Tryz.func14, Tryz.ntmps14
    go_upto_region 1 with fail
    rw [← hW, ← hq]
    clear hW hq
    go_wp2_with fail
    refine HCK.out.mono ?_
    rintro e W1 ⟨rfl, hb1⟩
    have HX1 := Lib.hid ((hb1.block q hqW).trans HX0.out)
    have HB1 := Lib.hid (HB.out.trans (hb1.mono HB.out.size))
    have hM := check_ok (HE.out.symm.trans HE0.out)
    have hR1 : R = (wrT es 1 t 1200, 0) := by rw [HR.out]; unfold putF; rw [if_neg (by decide), if_pos (HE.out.symm.trans HE0.out)]
    have HR1 := Lib.hid hR1
    have hT1 := HT.out.later hb1
    have hTab1 := HTAB.out.later hb1
    have hXX : TermAt W1 W1.heap.size x t := (HX.out.blw (hb1.mono (Nat.le_of_lt hqW))).up (by have := hb1.size; omega)
    obtain ⟨wb, hwb⟩ : ∃ wb, wb = W1.heap.size := ⟨_, rfl⟩
    obtain ⟨U, hU⟩ : ∃ U, U = W1.alloc (.cells #[.slice none 0 0, .int .i64 1, .pointer (some ⟨bt, 0, none⟩), .func (.func 32) #[.pointer (some ⟨wb, 0, none⟩)] #[]] 75) := ⟨_, rfl⟩
    have hbU : Below W1.heap.size W1 U := by rw [hU]; exact (Below.refl _ _).alloc (Nat.le_refl _) _
    have hu0 : U.heap[wb]? = some (.cells #[.slice none 0 0, .int .i64 1, .pointer (some ⟨bt, 0, none⟩), putV wb] 75 (0, 0)) := by rw [hU, hwb]; exact heap_alloc_new _ _
    have hU2 := hT1.later hbU
    have hqx : q < wb := by have := hb1.size; omega
    have HKU : Hid (WrK U wb (wb + 1) wb bt bm es 1 []) := Lib.hid (by
     refine ⟨⟨⟨none, 0, hu0, Row.nil _ _ _ _ _⟩, Nat.lt_succ_self _⟩, ⟨hTab1.later hbU, hU2.kinds, hU2.pow, hU2.bits⟩, ⟨?_, ?_, ?_, ?_, ?_⟩, Nat.le_refl _, ?_⟩
     ·rw [hwb]; exact hTab1.lt
     ·rw [hwb]; exact hTab1.map.lt
     ·rw [hwb]; exact hT1.kinds.lt
     ·rw [hwb]; exact hT1.pow.lt
     ·rw [hwb]; exact World.block_lt_of_cell? W1 _ hT1.bits
     ·have := (Array.getElem?_eq_some_iff.1 hu0).1; omega)
    have HXU : Hid (TermAt U wb x t) := Lib.hid (by rw [hwb]; exact hXX.blw hbU)
    have HBU := Lib.hid (HB1.out.trans (hbU.mono HB1.out.size))
    have HX2 := Lib.hid ((hbU.block q (by omega)).trans HX1.out)
    have HSZ : Hid (u.heap.size ≤ wb ∧ u.heap.size ≤ U.heap.size) := Lib.hid ⟨by have := HQ.out; omega, HBU.out.size⟩
    have HTC : Hid (Calls Tryz.prog 33 #[.pointer (some ⟨wb, 0, none⟩), .agg #[.int .i64 x.k, .int .i64 x.n, .string ⟨x.s.toArray⟩, .slice x.A x.len x.cap], .int .i64 1200] U fun e u' => e = .returned (.tuple #[]) ∧ WrAt u' (wb + 1) wb bt 1 ([] ++ wrT es 1 t 1200) ∧ Fr (WrS U (wb + 1) wb) U u') := Lib.hid (by
     rw [← tvV_lit]
     exact term_all es 1 t.size U wb (wb + 1) wb bt bm [] x t 1200 (Nat.le_refl _) ⟨hM.1, HFIT.out.1⟩ HXU.out HKU.out (by have := hM.2.2; simp only [List.length_nil]; omega))
    clear f0 f1 f2 f3 hb1 hM hR1 hT1 hTab1 hXX hbU hu0 hU2
    obtain ⟨f0, f1, f2, f3, -⟩ := four_at HX1.out
    go_upto_region 10 with fail
    rw [← hwb, ← hU]
    clear hU hwb f0 f1 f2 f3
    obtain ⟨f0, f1, f2, f3, -⟩ := four_at HX2.out
    go_wp2_with fail
    refine HTC.out.mono ?_
    rintro e W3 ⟨rfl, h1, h2⟩
    have hBF : Below u.heap.size u W3 := HBU.out.trans (WrS.below h2 HSZ.out.1 (by have := HSZ.out.1; omega) HSZ.out.2)
    have HBF := Lib.hid hBF
    obtain ⟨A9, c9, hb9, hr9⟩ := h1.blk
    rw [List.nil_append] at hb9 hr9
    have c0 : W3.cell? ⟨wb, 0, none⟩ = some (.slice A9 (wrT es 1 t 1200).length c9) := by rw [cell_of_row W3 wb 0 _ _ (0, 0) hb9]; rfl
    have hcv := Row.string Tryz.underlying72 Tryz.underlying5 Tryz.underlying9 hr9
    clear hBF h1 h2 hb9 hr9 f0 f1 f2 f3
    generalize wrT es 1 t 1200 = txt at *
    go_wp2_with fail
    go_ret2
    exact ⟨by rw [HR1.out]; rfl, HBF.out⟩
   ·go_enter Tryz.func14, Tryz.ntmps14
    go_upto_region 1 with fail
    rw [← hW, ← hq]
    clear hW hq
    go_wp2_with fail
    refine HCK.out.mono ?_
    rintro e W1 ⟨rfl, hb1⟩
    have HX1 := Lib.hid ((hb1.block q hqW).trans HX0.out)
    have HB1 := Lib.hid (HB.out.trans (hb1.mono HB.out.size))
    have hM := check_ok (HE.out.symm.trans HE0.out)
    have hR1 : R = (wrT es 2 t 1200, 0) := by rw [HR.out]; unfold putF; rw [if_neg (by decide), if_pos (HE.out.symm.trans HE0.out)]
    have HR1 := Lib.hid hR1
    have hT1 := HT.out.later hb1
    have hTab1 := HTAB.out.later hb1
    have hXX : TermAt W1 W1.heap.size x t := (HX.out.blw (hb1.mono (Nat.le_of_lt hqW))).up (by have := hb1.size; omega)
    obtain ⟨wb, hwb⟩ : ∃ wb, wb = W1.heap.size := ⟨_, rfl⟩
    obtain ⟨U, hU⟩ : ∃ U, U = W1.alloc (.cells #[.slice none 0 0, .int .i64 2, .pointer (some ⟨bt, 0, none⟩), .func (.func 32) #[.pointer (some ⟨wb, 0, none⟩)] #[]] 75) := ⟨_, rfl⟩
    have hbU : Below W1.heap.size W1 U := by rw [hU]; exact (Below.refl _ _).alloc (Nat.le_refl _) _
    have hu0 : U.heap[wb]? = some (.cells #[.slice none 0 0, .int .i64 2, .pointer (some ⟨bt, 0, none⟩), putV wb] 75 (0, 0)) := by rw [hU, hwb]; exact heap_alloc_new _ _
    have hU2 := hT1.later hbU
    have hqx : q < wb := by have := hb1.size; omega
    have HKU : Hid (WrK U wb (wb + 1) wb bt bm es 2 []) := Lib.hid (by
     refine ⟨⟨⟨none, 0, hu0, Row.nil _ _ _ _ _⟩, Nat.lt_succ_self _⟩, ⟨hTab1.later hbU, hU2.kinds, hU2.pow, hU2.bits⟩, ⟨?_, ?_, ?_, ?_, ?_⟩, Nat.le_refl _, ?_⟩
     ·rw [hwb]; exact hTab1.lt
     ·rw [hwb]; exact hTab1.map.lt
     ·rw [hwb]; exact hT1.kinds.lt
     ·rw [hwb]; exact hT1.pow.lt
     ·rw [hwb]; exact World.block_lt_of_cell? W1 _ hT1.bits
     ·have := (Array.getElem?_eq_some_iff.1 hu0).1; omega)
    have HXU : Hid (TermAt U wb x t) := Lib.hid (by rw [hwb]; exact hXX.blw hbU)
    have HBU := Lib.hid (HB1.out.trans (hbU.mono HB1.out.size))
    have HX2 := Lib.hid ((hbU.block q (by omega)).trans HX1.out)
    have HSZ : Hid (u.heap.size ≤ wb ∧ u.heap.size ≤ U.heap.size) := Lib.hid ⟨by have := HQ.out; omega, HBU.out.size⟩
    have HTC : Hid (Calls Tryz.prog 33 #[.pointer (some ⟨wb, 0, none⟩), .agg #[.int .i64 x.k, .int .i64 x.n, .string ⟨x.s.toArray⟩, .slice x.A x.len x.cap], .int .i64 1200] U fun e u' => e = .returned (.tuple #[]) ∧ WrAt u' (wb + 1) wb bt 2 ([] ++ wrT es 2 t 1200) ∧ Fr (WrS U (wb + 1) wb) U u') := Lib.hid (by
     rw [← tvV_lit]
     exact term_all es 2 t.size U wb (wb + 1) wb bt bm [] x t 1200 (Nat.le_refl _) ⟨hM.1, HFIT.out.1⟩ HXU.out HKU.out (by have := hM.2.2; simp only [List.length_nil]; omega))
    clear f0 f1 f2 f3 hb1 hM hR1 hT1 hTab1 hXX hbU hu0 hU2
    obtain ⟨f0, f1, f2, f3, -⟩ := four_at HX1.out
    go_upto_region 10 with fail
    rw [← hwb, ← hU]
    clear hU hwb f0 f1 f2 f3
    obtain ⟨f0, f1, f2, f3, -⟩ := four_at HX2.out
    go_wp2_with fail
    refine HTC.out.mono ?_
    rintro e W3 ⟨rfl, h1, h2⟩
    have hBF : Below u.heap.size u W3 := HBU.out.trans (WrS.below h2 HSZ.out.1 (by have := HSZ.out.1; omega) HSZ.out.2)
    have HBF := Lib.hid hBF
    obtain ⟨A9, c9, hb9, hr9⟩ := h1.blk
    rw [List.nil_append] at hb9 hr9
    have c0 : W3.cell? ⟨wb, 0, none⟩ = some (.slice A9 (wrT es 2 t 1200).length c9) := by rw [cell_of_row W3 wb 0 _ _ (0, 0) hb9]; rfl
    have hcv := Row.string Tryz.underlying72 Tryz.underlying5 Tryz.underlying9 hr9
    clear hBF h1 h2 hb9 hr9 f0 f1 f2 f3
    generalize wrT es 2 t 1200 = txt at *
    go_wp2_with fail
    go_ret2
    exact ⟨by rw [HR1.out]; rfl, HBF.out⟩
  ·have b4 : (E != 0) = true := bne_iff_ne.2 hE0
   have HE0 := Lib.hid hE0
   clear hE0
   rcases hway with rfl | rfl | rfl
   ·go_enter Tryz.func14, Tryz.ntmps14
    go_upto_region 1 with fail
    rw [← hW, ← hq]
    clear hW hq
    go_wp2_with fail
    refine HCK.out.mono ?_
    rintro e W1 ⟨rfl, hb1⟩
    have HB1 := Lib.hid (HB.out.trans (hb1.mono HB.out.size))
    have HR1 : Hid (R = ([], E)) := Lib.hid (by rw [HR.out]; unfold putF; rw [if_neg (by decide), if_neg (by rw [← HE.out]; exact HE0.out), HE.out])
    clear f0 f1 f2 f3 hb1
    go_wp2_with fail
    go_ret2
    exact ⟨by rw [HR1.out]; rfl, HB1.out⟩
   ·go_enter Tryz.func14, Tryz.ntmps14
    go_upto_region 1 with fail
    rw [← hW, ← hq]
    clear hW hq
    go_wp2_with fail
    refine HCK.out.mono ?_
    rintro e W1 ⟨rfl, hb1⟩
    have HB1 := Lib.hid (HB.out.trans (hb1.mono HB.out.size))
    have HR1 : Hid (R = ([], E)) := Lib.hid (by rw [HR.out]; unfold putF; rw [if_neg (by decide), if_neg (by rw [← HE.out]; exact HE0.out), HE.out])
    clear f0 f1 f2 f3 hb1
    go_wp2_with fail
    go_ret2
    exact ⟨by rw [HR1.out]; rfl, HB1.out⟩
   ·go_enter Tryz.func14, Tryz.ntmps14
    go_upto_region 1 with fail
    rw [← hW, ← hq]
    clear hW hq
    go_wp2_with fail
    refine HCK.out.mono ?_
    rintro e W1 ⟨rfl, hb1⟩
    have HB1 := Lib.hid (HB.out.trans (hb1.mono HB.out.size))
    have HR1 : Hid (R = ([], E)) := Lib.hid (by rw [HR.out]; unfold putF; rw [if_neg (by decide), if_neg (by rw [← HE.out]; exact HE0.out), HE.out])
    clear f0 f1 f2 f3 hb1
    go_wp2_with fail
    go_ret2
    exact ⟨by rw [HR1.out]; rfl, HB1.out⟩
 ·have HR1 : Hid (R = ([], 2)) := Lib.hid (by rw [HR.out]; unfold putF; rw [if_pos hway])
  have b1 : (way != 0) = true := bne_iff_ne.2 fun e => hway (.inl e)
  have b2 : (way != 1) = true := bne_iff_ne.2 fun e => hway (.inr (.inl e))
  have b3 : (way != 2) = true := bne_iff_ne.2 fun e => hway (.inr (.inr e))
  have b1' : (way == 0) = false := beq_eq_false_iff_ne.2 fun e => hway (.inl e)
  have b2' : (way == 1) = false := beq_eq_false_iff_ne.2 fun e => hway (.inr (.inl e))
  have b3' : (way == 2) = false := beq_eq_false_iff_ne.2 fun e => hway (.inr (.inr e))
  clear hway
  go_enter Tryz.func14, Tryz.ntmps14
  go_upto_region 1 with fail
  rw [← hW, ← hq]
  clear hW hq
  go_wp2_with fail
  go_ret2
  exact ⟨by rw [HR1.out]; rfl, HB.out⟩
def zTV : TV := ⟨0, 0, [], none, 0, 0⟩
def cTV (c : UInt8) : TV := ⟨2, c.toNat, [], none, 0, 0⟩
theorem zTV_rep (n : Nat) : ((List.replicate n zTV).flatMap encTV).length = n * 4 := by
 rw [length_flatMap_enc encTV_len, List.length_replicate]
theorem made_terms (z : Value) (hz : z.cells = #[.int .i64 0, .int .i64 0, .string ⟨#[]⟩, .slice none 0 0]) (n : Nat) : (madeCells z.cells (n * 4)).toList = (List.replicate n zTV).flatMap encTV := by
 rw [hz]
 apply List.ext_getElem?
 intro i
 by_cases hi : i < n * 4
 ·have h1 : i / 4 < n := by omega
  have h2 : i % 4 < 4 := Nat.mod_lt _ (by omega)
  have h3 : i / 4 * 4 + i % 4 = i := by omega
  have h4 : (List.replicate n zTV)[i / 4]? = some zTV := by rw [List.getElem?_replicate, if_pos h1]
  have e1 : (madeCells #[.int .i64 0, .int .i64 0, .string ⟨#[]⟩, .slice none 0 0] (n * 4)).toList[i]? = (encTV zTV)[i % 4]? := by
   rcases (show i % 4 = 0 ∨ i % 4 = 1 ∨ i % 4 = 2 ∨ i % 4 = 3 by omega) with e | e | e | e <;> simp [madeCells, hi, e, encTV, zTV]
  have h5 : i % 4 < (encTV zTV).length := by rw [encTV_len]; exact h2
  rw [e1, List.getElem?_eq_getElem h5]
  have := flatMap_get encTV_len _ _ _ _ _ h4 (List.getElem?_eq_getElem h5)
  rw [h3] at this
  exact this.symm
 ·rw [List.getElem?_eq_none (by simp [madeCells]; omega), List.getElem?_eq_none (by rw [zTV_rep]; omega)]
theorem term_info : ∃ i z, Tryz.prog.info? 28 = some i ∧ i.zero = some z ∧ i.size = 4 ∧ i.bytes = 56 ∧ z.cells = #[.int .i64 0, .int .i64 0, .string ⟨#[]⟩, .slice none 0 0] := by
 refine ⟨_, _, rfl, rfl, ?_, ?_, ?_⟩ <;> kernel_rfl
theorem run_terms (w : World) (n : Nat) (hn : n ≤ 1000000) :
    (Instr.makeSlice 26 (.int .i64 (n : Int)) (.int .i64 (n : Int))).run Tryz.prog w = .ok (.slice (some ⟨w.heap.size, 0, none⟩) n n) (w.alloc (.cells ((List.replicate n zTV).flatMap encTV).toArray 28)) := by
 obtain ⟨i, z, h1, h2, h3, h4, h5⟩ := term_info
 have := run_make (P := Tryz.prog) w 26 28 i z Tryz.underlying26 h1 h2 .i64 .i64 n n (by omega) (by omega) (by rw [h4]; omega) (by omega)
 simp only [Int.toNat_natCast, h3] at this
 rw [this]
 congr 3
 rw [← made_terms z h5 n]
theorem terms_row (w : World) (B n : Nat) (hB : B ≤ w.heap.size) (hn : n ≤ 1000000) : Row (w.alloc (.cells ((List.replicate n zTV).flatMap encTV).toArray 28)) B 28 4 encTV (.slice (some ⟨w.heap.size, 0, none⟩) n n) (List.replicate n zTV) := by
 refine ⟨?_, ?_⟩
 ·rw [zTV_rep, List.length_replicate]
 ·rw [List.length_replicate]
  refine .inr ⟨w.heap.size, n, ((List.replicate n zTV).flatMap encTV).toArray, rfl, hB, heap_alloc_new w _, Nat.le_refl _, by unfold maxLen; omega, ?_, ?_⟩
  ·rw [List.size_toArray, zTV_rep]
  ·exact List.take_of_length_le (by rw [zTV_rep]; exact Nat.le_refl _)
theorem row_code {w : World} {B g n cap k : Nat} {xs : List TV} (h : Row w B 28 4 encTV (.slice (some ⟨g, 0, none⟩) n cap) xs) (c : UInt8) (hk : xs[k]? = some zTV) :
    Row ((((w.setCell ⟨g, k * 4, none⟩ (.int .i64 2)).setCell ⟨g, k * 4 + 1, none⟩ (.int .i64 (c.toNat : Int))).setCell ⟨g, k * 4 + 2, none⟩ (.string ⟨#[]⟩)).setCell ⟨g, k * 4 + 3, none⟩ (.slice none 0 0)) B 28 4 encTV (.slice (some ⟨g, 0, none⟩) n cap) (xs.set k (cTV c)) := by
 have hl := (List.getElem?_eq_some_iff.1 hk).1
 have h1 := Row.put encTV_len h (j := 0) (y := ⟨2, 0, [], none, 0, 0⟩) (u := .int .i64 2) hk (by omega) rfl
 have h2 := Row.put encTV_len h1 (i := k) (j := 1) (x := ⟨2, 0, [], none, 0, 0⟩) (y := cTV c) (u := .int .i64 (c.toNat : Int)) (by rw [List.getElem?_set_self hl]) (by omega) rfl
 have h3 := Row.put encTV_len h2 (i := k) (j := 2) (x := cTV c) (y := cTV c) (u := .string ⟨#[]⟩) (by rw [List.getElem?_set_self (by simpa using hl)]) (by omega) rfl
 have h4 := Row.put encTV_len h3 (i := k) (j := 3) (x := cTV c) (y := cTV c) (u := .slice none 0 0) (by rw [List.getElem?_set_self (by simpa using hl)]) (by omega) rfl
 simpa using h4
theorem codes_terms (u : World) (S : Nat → Prop) (s : List UInt8) : TermsS u S (s.map cTV) (s.map fun c => intT c.toNat) := by
 refine ⟨by simp, fun i y t h1 h2 => ?_⟩
 rw [List.getElem?_map] at h1 h2
 cases hc : s[i]? with
 | none => rw [hc] at h1; cases h1
 | some c =>
  rw [hc] at h1 h2
  injection h1 with h1
  injection h2 with h2
  subst h1 h2
  exact .leaf _ _ _ _ _ _ _ (Nat.zero_le _)
structure CInv (W : World) (s : List UInt8) (k : Nat) (wr : World) : Prop where
 below : Below W.heap.size W wr
 row : Row wr W.heap.size 28 4 encTV (.slice (some ⟨W.heap.size, 0, none⟩) s.length s.length) ((s.take k).map cTV ++ List.replicate (s.length - k) zTV)
theorem CInv.round {W wr : World} {s : List UInt8} {k : Nat} {c : UInt8} (h : CInv W s k wr) (hc : s[k]? = some c) :
    CInv W s (k + 1) ((((wr.setCell ⟨W.heap.size, k * 4, none⟩ (.int .i64 2)).setCell ⟨W.heap.size, k * 4 + 1, none⟩ (.int .i64 (c.toNat : Int))).setCell ⟨W.heap.size, k * 4 + 2, none⟩ (.string ⟨#[]⟩)).setCell ⟨W.heap.size, k * 4 + 3, none⟩ (.slice none 0 0)) := by
 have hl := (List.getElem?_eq_some_iff.1 hc).1
 have hlen : ((s.take k).map cTV).length = k := by simp; omega
 refine ⟨(((h.below.setCell (p := ⟨W.heap.size, k * 4, none⟩) (Nat.le_refl _) _).setCell (p := ⟨W.heap.size, k * 4 + 1, none⟩) (Nat.le_refl _) _).setCell (p := ⟨W.heap.size, k * 4 + 2, none⟩) (Nat.le_refl _) _).setCell (p := ⟨W.heap.size, k * 4 + 3, none⟩) (Nat.le_refl _) _, ?_⟩
 have hz : ((s.take k).map cTV ++ List.replicate (s.length - k) zTV)[k]? = some zTV := by
  rw [List.getElem?_append_right (by omega), hlen, Nat.sub_self, List.getElem?_replicate, if_pos (by omega)]
 have h2 := row_code h.row c hz
 have e : ((s.take k).map cTV ++ List.replicate (s.length - k) zTV).set k (cTV c) = (s.take (k + 1)).map cTV ++ List.replicate (s.length - (k + 1)) zTV := by
  rw [List.set_append_right _ _ (by omega), hlen, Nat.sub_self, show s.length - k = (s.length - (k + 1)) + 1 by omega, List.replicate_succ, List.set_cons_zero, List.take_add_one, hc, List.map_append, List.append_assoc]
  rfl
 rw [e] at h2
 exact h2
set_option maxHeartbeats 8000000 in
theorem codes_any (u : World) (rb : Nat) (v : RdV) (ts : List Tok) (s : RdS) (B : Nat) (h : RdAt u rb v ts s B) (t : Tok) (hat : s.at' < ts.length) (hsh : t.s.length ≤ 1000000) (L : List Nat) (hL : ∀ k ∈ L, k < u.heap.size) :
    Calls Tryz.prog 51 #[.pointer (some ⟨rb, 0, none⟩), tokW t] u fun e u' => e = .returned (.tuple #[]) ∧ Fr (· = rb) u u' ∧ ∃ y', RdAt u' rb { v with x := y' } ts ((s.go 1).done (listT (t.s.map fun c => intT c.toNat) nilT) 0) B ∧ TermS u' (SOf u' L) y' (listT (t.s.map fun c => intT c.toNat) nilT) := by
 have HA := Lib.hid h
 have hf := h.few
 have hlt := h.blk.lt
 have c1 : u.cell? ⟨rb, 1, none⟩ = some (.int .i64 (s.at' : Int)) := h.blk.cell (i := 1) rfl
 have cf := h.blk.free
 have hwr : IntKind.i64.wrap ((s.at' : Int) + 1) = (s.at' : Int) + 1 := IntWalk.i64_in _ (by omega)
 have HL := Lib.hid hL
 obtain ⟨W, hW⟩ : ∃ W, W = (u.setCell ⟨rb, 1, none⟩ (.int .i64 ((s.at' : Int) + 1))).alloc (.cells #[.int .i64 t.kind, .int .i64 t.line, .int .i64 t.n, .string ⟨t.s.toArray⟩, .bool t.opn, .bool t.tight] 107) := ⟨_, rfl⟩
 have hgo : RdAt W rb v ts (s.go 1) B := by
  rw [hW]
  exact (h.put (v' := v) (s' := s.go 1) 1 _ (by simp [rdCells, RdS.go]) rfl rfl (by show s.at' + 1 ≤ _; omega)).later ((Below.refl _ _).alloc (Nat.le_refl _) _)
 have HG := Lib.hid hgo
 have HF : Hid (Fr (· = rb) u W) := by
  rw [hW]
  exact Lib.hid (((Fr.refl (· = rb) u).setCell (p := ⟨rb, 1, none⟩) (.inl rfl) _).alloc _)
 have hnew : W.heap[u.heap.size]? = some (.cells #[.int .i64 t.kind, .int .i64 t.line, .int .i64 t.n, .string ⟨t.s.toArray⟩, .bool t.opn, .bool t.tight] 107 (0, 0)) := by
  rw [hW]
  have := heap_alloc_new (u.setCell ⟨rb, 1, none⟩ (.int .i64 ((s.at' : Int) + 1))) (.cells #[.int .i64 t.kind, .int .i64 t.line, .int .i64 t.n, .string ⟨t.s.toArray⟩, .bool t.opn, .bool t.tight] 107)
  simpa using this
 have HN := Lib.hid hnew
 have hls : (t.s.length : Int) ≤ 9223372036854775807 := by omega
 have hmk := run_terms W t.s.length hsh
 have H0 : Hid (CInv W t.s 0 (W.alloc (.cells ((List.replicate t.s.length zTV).flatMap encTV).toArray 28))) := Lib.hid ⟨(Below.refl _ _).alloc (Nat.le_refl _) _, by simpa using terms_row W W.heap.size t.s.length (Nat.le_refl _) hsh⟩
 obtain ⟨n0, n1, n2, n3, n4, n5, nf⟩ := six_at hnew
 clear h hgo hnew
 unfold tokW
 go_enter Tryz.func51, Tryz.ntmps51
 go_upto_region 2 with fail
 rw [← hW]
 clear hW
 go_wp2_with fail
 go_loopw [19] (fun i wr => ∃ k, k ≤ t.s.length ∧ i = .int .i64 (k : Nat) ∧ Hid (CInv W t.s k wr)) (fun i _ => t.s.length - (intOf i).toNat)
 case atStart => exact ⟨0, Nat.zero_le _, rfl, H0⟩
 case round =>
  obtain ⟨k, hk, rfl, HI⟩ := hrel
  have HWR : Hid (Row wr W.heap.size 28 4 encTV (.slice (some ⟨W.heap.size, 0, none⟩) t.s.length t.s.length) ((t.s.take k).map cTV ++ List.replicate (t.s.length - k) zTV)) := Lib.hid HI.out.row
  have hul : u.heap.size < W.heap.size := World.block_lt_of_cell? W _ n0
  have w3 : wr.cell? ⟨u.heap.size, 3, none⟩ = some (.string ⟨t.s.toArray⟩) := (HI.out.below.cell (p := ⟨u.heap.size, 3, none⟩) hul).trans n3
  clear n0 n1 n2 n3 n4 n5 hmk
  by_cases hkl : k < t.s.length
  ·have hki : (k : Int) < (t.s.length : Int) := by omega
   have hk0 : (0 : Int) ≤ (k : Int) := by omega
   have hwk : IntKind.i64.wrap ((k : Int) + 1) = (k : Int) + 1 := IntWalk.i64_in _ (by omega)
   obtain ⟨c, hc, hgc⟩ : ∃ c, (⟨t.s.toArray⟩ : ByteArray)[k]'(by show k < t.s.toArray.size; simpa using hkl) = c ∧ t.s[k]? = some c := ⟨t.s[k], rfl, List.getElem?_eq_getElem hkl⟩
   have hlen : ((t.s.take k).map cTV).length = k := by simp; omega
   have hz : ((t.s.take k).map cTV ++ List.replicate (t.s.length - k) zTV)[k]? = some zTV := by
    rw [List.getElem?_append_right (by omega), hlen, Nat.sub_self, List.getElem?_replicate, if_pos (by omega)]
   obtain ⟨g, cap, hv, hBg, hgl, _, hcs⟩ := HWR.out.cells encTV_len (fun e => by rw [e] at hz; cases hz)
   injection hv with hv1 hv2 hv3
   injection hv1 with hv1
   injection hv1 with hv1
   subst hv1
   have q0 := hcs k zTV hz 0 _ rfl
   have q1 := hcs k zTV hz 1 _ rfl
   have q2 := hcs k zTV hz 2 _ rfl
   have q3 := hcs k zTV hz 3 _ rfl
   simp only [zTV, Nat.add_zero] at q0 q1 q2 q3
   obtain ⟨q0, f0⟩ := q0
   obtain ⟨q1, f1⟩ := q1
   obtain ⟨q2, f2⟩ := q2
   obtain ⟨q3, f3⟩ := q3
   have HN1 := Lib.hid (HI.out.round hgc)
   clear hcs hz hlen hv2 hv3 hgc
   have hwc : wrap64 (c.toNat : Int) = (c.toNat : Int) := IntWalk.wrap64_in _ (by have := c.toNat_lt; omega)
   go_wp2_with fail
   go_roundw
   case rel => exact ⟨k + 1, by omega, rfl, HN1⟩
   case measure =>
    simp only [intOf]
    omega
  ·have hke : k = t.s.length := by omega
   subst hke
   clear hk hkl
   have hr2 := HWR.out
   rw [Nat.sub_self, List.take_length, List.replicate_zero, List.append_nil] at hr2
   have HR2 := Lib.hid hr2
   have HFr := Lib.hid (HF.out.step HI.out.below)
   have HGr := Lib.hid (HG.out.later HI.out.below)
   clear hr2
   go_wp2_with fail
   refine (list_any wr L (fun k hk => Nat.lt_of_lt_of_le (HL.out k hk) HFr.out.size) (some ⟨W.heap.size, 0, none⟩) t.s.length t.s.length (t.s.map cTV) (t.s.map fun c => intT c.toNat) (SlTerms.row HR2.out) (codes_terms _ _ _) ⟨3, 0, [91, 93], none, 0, 0⟩ nilT (.leaf _ _ _ _ _ _ _ (by unfold maxLen; simp)) hsh).mono ?_
   rintro e w2 ⟨y', rfl, ht2, hb2⟩
   have HT2 := Lib.hid ht2
   have HG2 := Lib.hid (HGr.out.later hb2)
   have HF2 := Lib.hid (HFr.out.step hb2)
   clear ht2 hb2
   unfold tvV
   go_wp2_with fail
   refine (done_any w2 rb v ts (s.go 1) B HG2.out y' (listT (t.s.map fun c => intT c.toNat) nilT) 0).mono ?_
   rintro e w3 ⟨rfl, r1, r2⟩
   have R1 := Lib.hid r1
   have R2 := Lib.hid (HF2.out.trans r2)
   have HT3 : Hid (TermS w3 (SOf w3 L) y' (listT (t.s.map fun c => intT c.toNat) nilT)) := Lib.hid (HT2.out.step fun b hb => by
    have hne : b ≠ rb := hb.1.ne ⟨_, HG2.out.blk⟩ (by decide)
    have hk := r2.block b hb.1.lt hne
    exact ⟨⟨hb.1.keep hk, hb.2⟩, hk⟩)
   clear r1 r2
   go_wp2_with fail
   exact bodyPost_end (v := .tuple #[]) (by simp [results, Tryz.results51, go_sem]) rfl ⟨rfl, R2.out, y', R1.out, HT3.out⟩
open Go.RowKit
theorem number_out (u : World) (rb : Nat) (v : RdV) (ts : List Tok) (s : RdS) (B : Nat) (h : RdAt u rb v ts s B) (l : List FrV) (hrow : WRow u rb v.wv l) (t : Tok) (hat : s.at' < ts.length) :
    Calls Tryz.prog 49 #[.pointer (some ⟨rb, 0, none⟩), tokW t] u fun e u' => Fr (fun k => k = rb ∨ v.wv.ownBlock = some k) u u' ∧ PrimOut u' rb v ts s B l (if t.n < 0 then .error s.at' else .ok ((s.go 1).done (intT t.n) 0)) e := by
 refine (number_any u rb v ts s B h t hat).mono ?_
 rintro e u' ⟨hF, h1⟩
 refine ⟨hF.weak fun k hk => .inl hk, ?_⟩
 by_cases hn : t.n < 0
 ·rw [if_pos hn] at h1 ⊢
  exact ⟨h1.1, s, rfl, h1.2⟩
 ·rw [if_neg hn] at h1 ⊢
  exact ⟨h1.1, _, h1.2, rfl, rfl, rfl, rfl, rfl, rfl, rfl, .inr ⟨rfl, rfl, WRow.fr hrow hF, 2, t.n, [], rfl, rfl⟩⟩
end Go.Proofs.YtcallkljcjimiaaGreatDoor
