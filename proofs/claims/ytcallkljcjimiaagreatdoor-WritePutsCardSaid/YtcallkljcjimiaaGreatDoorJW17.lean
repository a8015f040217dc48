import Derived.Test.YtcallkljcjimiaaGreatDoorJW16
import Derived.Deep.LoopGhost
namespace Go.Proofs.YtcallkljcjimiaaGreatDoor
open Go.RowKit Go.Maps
set_option maxRecDepth 100000
theorem consF_fuel : ∀ (n f f' : Nat) (t : Tm), t.size ≤ n → t.size ≤ f → t.size ≤ f' → consF f t = consF f' t
 | 0, _, _, t, h, _, _ => by have := size_pos t; omega
 | n + 1, f, f', t, h, h1, h2 => by
  have := size_pos t
  obtain ⟨f, rfl⟩ : ∃ k, f = k + 1 := ⟨f - 1, by omega⟩
  obtain ⟨f', rfl⟩ : ∃ k, f' = k + 1 := ⟨f' - 1, by omega⟩
  unfold consF
  by_cases hc : consT t = true
  ·rw [if_pos hc, if_pos hc]
   have hl := (consT_len hc).2.2
   have ha := arg_size (t := t) (i := 1) (by omega)
   rw [consF_fuel n f f' (t.args.getD 1 noTm) (by omega) (by omega) (by omega)]
  ·rw [if_neg hc, if_neg hc]
theorem consF_step {t : Tm} (hc : consT t = true) : consF t.size t = (t.args.getD 0 noTm :: (consF (t.args.getD 1 noTm).size (t.args.getD 1 noTm)).1, (consF (t.args.getD 1 noTm).size (t.args.getD 1 noTm)).2) := by
 have := size_pos t
 have hl := (consT_len hc).2.2
 have ha := arg_size (t := t) (i := 1) (by omega)
 obtain ⟨f, hf⟩ : ∃ k, t.size = k + 1 := ⟨t.size - 1, by omega⟩
 rw [hf]
 conv => lhs; unfold consF
 rw [if_pos hc, consF_fuel _ f (t.args.getD 1 noTm).size (t.args.getD 1 noTm) (Nat.le_refl _) (by omega) (Nat.le_refl _)]
theorem consF_end {t : Tm} (hc : consT t = false) : consF t.size t = ([], t) := by
 have := size_pos t
 obtain ⟨f, hf⟩ : ∃ k, t.size = k + 1 := ⟨t.size - 1, by omega⟩
 rw [hf]
 unfold consF
 rw [if_neg (by rw [hc]; decide)]
theorem cons_sizes {t : Tm} (hc : consT t = true) : t.size = 1 + (t.args.getD 0 noTm).size + (t.args.getD 1 noTm).size := by
 have hl := (consT_len hc).2.2
 have hs := size_args t
 obtain ⟨k, n, s, l⟩ := t
 simp only [Tm.args] at hl hs ⊢
 match l, hl with
 | [a, b], _ =>
  rw [hs]
  simp [Tm.sizes]
  omega
theorem cons_args {w : World} {B : Nat} {x : TV} {t : Tm} (h : TermAt w B x t) (hc : consT t = true) :
    ∃ b off a0 a1, x.len = 2 ∧ x.A = some ⟨b, off, none⟩ ∧ b < B ∧ TermAt w B a0 (t.args.getD 0 noTm) ∧ TermAt w B a1 (t.args.getD 1 noTm) ∧
     (w.cell? ⟨b, off, none⟩ = some (.int .i64 a0.k) ∧ w.cell? ⟨b, off + 1, none⟩ = some (.int .i64 a0.n) ∧ w.cell? ⟨b, off + 2, none⟩ = some (.string ⟨a0.s.toArray⟩) ∧ w.cell? ⟨b, off + 3, none⟩ = some (.slice a0.A a0.len a0.cap)) ∧
     (w.cell? ⟨b, off + 4, none⟩ = some (.int .i64 a1.k) ∧ w.cell? ⟨b, off + 4 + 1, none⟩ = some (.int .i64 a1.n) ∧ w.cell? ⟨b, off + 4 + 2, none⟩ = some (.string ⟨a1.s.toArray⟩) ∧ w.cell? ⟨b, off + 4 + 3, none⟩ = some (.slice a1.A a1.len a1.cap)) := by
 obtain ⟨k1, k2, k3, k4, k5, ka⟩ := h.open
 obtain ⟨-, -, hl⟩ := consT_len hc
 have e0 : t.args[0]? = some (t.args.getD 0 noTm) := by rw [List.getD_eq_getElem?_getD, List.getElem?_eq_getElem (by omega)]; rfl
 have e1 : t.args[1]? = some (t.args.getD 1 noTm) := by rw [List.getD_eq_getElem?_getD, List.getElem?_eq_getElem (by omega)]; rfl
 obtain ⟨a0, b, off, hA, hb, ht0, hc0⟩ := ka 0 _ e0
 obtain ⟨a1, b', off', hA', hb', ht1, hc1⟩ := ka 1 _ e1
 rw [hA] at hA'
 injection hA' with hA'
 injection hA' with q1 q2
 subst q1 q2
 have z := fun j u hu => hc0 j u hu
 simp only [Nat.zero_mul, Nat.add_zero, Nat.one_mul] at z hc1
 exact ⟨b, off, a0, a1, by omega, hA, hb, ht0, ht1, ⟨z 0 _ rfl, z 1 _ rfl, z 2 _ rfl, z 3 _ rfl⟩, ⟨hc1 0 _ rfl, hc1 1 _ rfl, hc1 2 _ rfl, hc1 3 _ rfl⟩⟩
structure LsAt (g : Tm → Int → List UInt8) (u : World) (B0 B wb bt bm : Nat) (es : List (OpK × OpV)) (way : Int) (acc : List UInt8) (q : Nat) (t : Tm) (y : TV) (ty : Tm) (dn : List Tm) (w : World) : Prop where
 box : w.heap[q]? = some (.cells #[.int .i64 y.k, .int .i64 y.n, .string ⟨y.s.toArray⟩, .slice y.A y.len y.cap] 28 (0, 0))
 k : WrK w B0 B wb bt bm es way (acc ++ 91 :: commaF g dn)
 tm : TermAt w B0 y ty
 fr : Fr (WrS u B wb) u w
 wf : WfT ty
 lenB : (acc ++ 91 :: commaF g dn).length + 6000 * ty.size + 1 ≤ 10000000000
 sz : ty.size < t.size
 ne : dn ≠ []
 eq : consF t.size t = (dn ++ (consF ty.size ty).1, (consF ty.size ty).2)
theorem WrK.box {w : World} {B0 B wb bt bm q : Nat} {es : List (OpK × OpV)} {way : Int} {acc : List UInt8} (h : WrK w B0 B wb bt bm es way acc) {cs : Array Value} (hq : w.heap[q]? = some (.cells cs 28 (0, 0))) (hB : B0 ≤ q) (a0 a1 a2 a3 : Value) :
    WrK ((((w.setCell ⟨q, 0, none⟩ a0).setCell ⟨q, 1, none⟩ a1).setCell ⟨q, 2, none⟩ a2).setCell ⟨q, 3, none⟩ a3) B0 B wb bt bm es way acc := by
 have hne := h.ne hq (by decide)
 have hb : ∀ k, k ≠ q → ((((w.setCell ⟨q, 0, none⟩ a0).setCell ⟨q, 1, none⟩ a1).setCell ⟨q, 2, none⟩ a2).setCell ⟨q, 3, none⟩ a3).heap[k]? = w.heap[k]? := fun k hk => blk_set4_ne a0 a1 a2 a3 hk
 obtain ⟨A, c, k1, k2⟩ := h.at'.blk
 refine ⟨⟨⟨A, c, (hb wb (fun e => hne e.symm)).trans k1, k2.keep fun k hk => hb k ?_⟩, h.at'.wbB⟩, ?_, h.lo, h.b0, ?_⟩
 ·rintro rfl
  exact TyB.ne ⟨_, hq⟩ (k2.ty hk) (by decide) rfl
 ·refine h.env.keep h.lo ?_
  exact ((((Below.refl B0 w).setCell (p := ⟨q, 0, none⟩) hB _).setCell (p := ⟨q, 1, none⟩) hB _).setCell (p := ⟨q, 2, none⟩) hB _).setCell (p := ⟨q, 3, none⟩) hB _
 ·simpa using h.bu
set_option maxHeartbeats 8000000 in
theorem wlist_any {es : List (OpK × OpV)} {way : Int} {n : Nat} (hC : TermC es way n) (u : World) (B0 B wb bt bm : Nat) (acc : List UInt8) (x : TV) (t : Tm) (hn : t.size ≤ n + 1) (hw : WfT t) (hx : TermAt u B0 x t) (hc : consT t = true) (hK : WrK u B0 B wb bt bm es way acc) (hlen : acc.length + 6000 * t.size ≤ 10000000000) :
    Calls Tryz.prog 108 #[.pointer (some ⟨wb, 0, none⟩), tvV x] u fun e u' => e = .returned (.tuple #[]) ∧ WrAt u' B wb bt way (acc ++ listF (wrT es way) t) ∧ Fr (WrS u B wb) u u' := by
 obtain ⟨g, hg⟩ : ∃ g, g = wrT es way := ⟨_, rfl⟩
 have hgl : ∀ y : Tm, WfT y → ∀ m, (g y m).length ≤ 6000 * y.size := fun y hy m => by rw [hg]; exact wr_len es way y.size y m (Nat.le_refl _) hy
 rw [← hg]
 obtain ⟨L, hL⟩ : ∃ L, L = acc ++ listF g t := ⟨_, rfl⟩
 rw [← hL]
 have HL := Lib.hid hL
 have HGL := Lib.hid hgl
 have HC : Hid (∀ (v : World) (acc2 : List UInt8) (y : TV) (ty : Tm), ty.size < t.size → WfT ty → TermAt v B0 y ty → WrK v B0 B wb bt bm es way acc2 → acc2.length + 6000 * ty.size ≤ 10000000000 → Calls Tryz.prog 33 #[.pointer (some ⟨wb, 0, none⟩), .agg #[.int .i64 y.k, .int .i64 y.n, .string ⟨y.s.toArray⟩, .slice y.A y.len y.cap], .int .i64 999] v fun e v' => e = .returned (.tuple #[]) ∧ WrAt v' B wb bt way (acc2 ++ g ty 999) ∧ Fr (WrS v B wb) v v') := Lib.hid fun v acc2 y ty hm hwy hy hk hl => by
  rw [hg, ← tvV_lit]
  exact hC v B0 B wb bt bm acc2 y ty 999 (by omega) hwy hy hk hl
 have hsz := cons_sizes hc
 have hst := consF_step hc
 have hl2 := (consT_len hc).2.2
 have hw0 := hw.arg (i := 0) (by omega)
 have hw1 := hw.arg (i := 1) (by omega)
 have hb0 : B0 ≤ u.heap.size := Nat.le_trans hK.b0B hK.bu
 obtain ⟨W, hW⟩ : ∃ W, W = u.alloc (.cells #[.int .i64 x.k, .int .i64 x.n, .string ⟨x.s.toArray⟩, .slice x.A x.len x.cap] 28) := ⟨_, rfl⟩
 have hbW : Below u.heap.size u W := by rw [hW]; exact (Below.refl _ _).alloc (Nat.le_refl _) _
 have hx0 : W.heap[u.heap.size]? = some (.cells #[.int .i64 x.k, .int .i64 x.n, .string ⟨x.s.toArray⟩, .slice x.A x.len x.cap] 28 (0, 0)) := by rw [hW]; exact heap_alloc_new _ _
 have hKW := hK.later hbW
 have hxW : TermAt W B0 x t := hx.blw (hK.low (Fr.of_below _ hbW))
 obtain ⟨q, hq⟩ : ∃ q, q = u.heap.size := ⟨_, rfl⟩
 have hqB : B0 ≤ q := by omega
 have hneW : q ≠ wb := by rw [hq]; exact hKW.ne hx0 (by decide)
 rw [tvV_lit]
 have HKW := Lib.hid hKW
 have HXW := Lib.hid hxW
 have HX0 : Hid (W.heap[q]? = some (.cells #[.int .i64 x.k, .int .i64 x.n, .string ⟨x.s.toArray⟩, .slice x.A x.len x.cap] 28 (0, 0))) := Lib.hid (by rw [hq]; exact hx0)
 have HBW : Hid (Fr (WrS u B wb) u W) := Lib.hid (Fr.of_below _ hbW)
 have HQ : Hid (u.heap.size ≤ q ∧ B0 ≤ q ∧ q ≠ wb) := Lib.hid ⟨by omega, hqB, hneW⟩
 have HS := Lib.hid (And.intro hsz (And.intro hst (And.intro hw0 (And.intro hw1 (And.intro hlen hc)))))
 obtain ⟨c3, -, -⟩ := hKW.put3
 unfold putV at c3
 clear hg hgl hL hC hn hw hx hK hlen hsz hst hl2 hw0 hw1 hb0 hbW hx0 hKW hxW hqB hneW hc
 go_enter Tryz.func108, Tryz.ntmps108
 go_upto_region 1 with fail
 rw [← hW, ← hq]
 clear hW hq
 go_wp2_with fail
 refine (wadd_any W B wb bt way acc [91] HKW.out.at' HKW.out.bu (by have := HS.out.2.2.2.2.1; simp only [List.length_cons, List.length_nil]; omega)).mono ?_
 rintro e W1 ⟨rfl, h1, h2⟩
 have HK1 := Lib.hid (HKW.out.next h1 h2)
 have HB1 := Lib.hid (WrS.keep h2 HX0.out (by decide) HQ.out.2.2)
 have HF1 := Lib.hid (WrS.trans HBW.out h2)
 have hx1 := HXW.out.blw (HKW.out.low h2)
 obtain ⟨b, off, a0, a1, n2, hA, hbB, ht0, ht1, ⟨m0, m1, m2, m3⟩, -⟩ := cons_args hx1 HS.out.2.2.2.2.2
 have HX1 := Lib.hid (And.intro hx1 ht0)
 obtain ⟨f0, f1, f2, f3, -⟩ := four_at HB1.out
 rw [hA, n2] at f3
 have hbs : b < W1.heap.size := by have := HQ.out; have h5 := (Array.getElem?_eq_some_iff.1 HB1.out).1; omega
 have HA := Lib.hid (And.intro n2 hA)
 clear h1 h2 c3 hx1 ht0 ht1 n2 hA
 go_wp2_with fail
 refine (HC.out W1 _ a0 _ (by have := HS.out.1; omega) HS.out.2.2.1 HX1.out.2 HK1.out (by have := HS.out; simp only [List.length_append, List.length_cons, List.length_nil]; omega)).mono ?_
 rintro e W2 ⟨rfl, h1, h2⟩
 have HK2 := Lib.hid (HK1.out.next h1 h2)
 have HB2 := Lib.hid (WrS.keep h2 HB1.out (by decide) HQ.out.2.2)
 have HF2 := Lib.hid (WrS.trans HF1.out h2)
 have hx2 := HX1.out.1.blw (HK1.out.low h2)
 clear f0 f1 f2 f3 m0 m1 m2 m3 hbs h1 h2 hbB
 clear HA
 obtain ⟨b, off, a0', a1, n2, hA, hbB, -, ht1, -, ⟨m0, m1, m2, m3⟩⟩ := cons_args hx2 HS.out.2.2.2.2.2
 obtain ⟨f0, f1, f2, f3, zf⟩ := four_at HB2.out
 rw [hA, n2] at f3
 have hbs : b < W2.heap.size := by have := HQ.out; have h5 := (Array.getElem?_eq_some_iff.1 HB2.out).1; omega
 have HX2 := Lib.hid ht1
 have HLS : Hid (LsAt g u B0 B wb bt bm es way acc q t a1 (t.args.getD 1 noTm) [t.args.getD 0 noTm] ((((W2.setCell ⟨q, 0, none⟩ (.int .i64 a1.k)).setCell ⟨q, 1, none⟩ (.int .i64 a1.n)).setCell ⟨q, 2, none⟩ (.string ⟨a1.s.toArray⟩)).setCell ⟨q, 3, none⟩ (.slice a1.A a1.len a1.cap))) := Lib.hid (by
  obtain ⟨s1, s2, s3, s4, s5, s6⟩ := HS.out
  have hgl := HGL.out _ s3 999
  refine ⟨blk_set4 HB2.out rfl _ _ _ _, ?_, ?_, ?_, s4, ?_, by omega, by simp, by rw [s2]; rfl⟩
  ·have := HK2.out.box HB2.out HQ.out.2.1 (.int .i64 a1.k) (.int .i64 a1.n) (.string ⟨a1.s.toArray⟩) (.slice a1.A a1.len a1.cap)
   simpa [commaF] using this
  ·exact ht1.keep (Nat.le_refl _) fun k hk => blk_set4_ne _ _ _ _ (by have := HQ.out.2.1; omega)
  ·exact (((HF2.out.setCell (p := ⟨q, 0, none⟩) (.inr HQ.out.1) _).setCell (p := ⟨q, 1, none⟩) (.inr HQ.out.1) _).setCell (p := ⟨q, 2, none⟩) (.inr HQ.out.1) _).setCell (p := ⟨q, 3, none⟩) (.inr HQ.out.1) _
  ·simp only [commaF, List.length_append, List.length_cons]
   omega)
 clear n2 hA ht1 hx2 hbB HK1 HB1 HF1 HX1 HKW HXW HX0 HBW
 go_wp2_with fail
 go_loopg [] t.size (fun gk v => ∃ (y : TV) (ty : Tm) (dn : List Tm), Hid (LsAt g u B0 B wb bt bm es way acc q t y ty dn v ∧ ty.size ≤ gk))
 case atStart => exact ⟨_, _, _, Lib.hid ⟨HLS.out, Nat.le_of_lt HLS.out.sz⟩⟩
 case round =>
  obtain ⟨y, ty, dn, HH⟩ := hrel
  clear HLS HK2 HB2 HF2 HX2 f0 f1 f2 f3 zf m0 m1 m2 m3 hbs
  have HLA := Lib.hid HH.out.1
  have HGK := Lib.hid HH.out.2
  clear HH
  obtain ⟨f0, f1, f2, f3, zf⟩ := four_at HLA.out.box
  obtain ⟨c3, -, -⟩ := HLA.out.k.put3
  unfold putV at c3
  have HIS : Hid (Calls Tryz.prog 107 #[.agg #[.int .i64 y.k, .int .i64 y.n, .string ⟨y.s.toArray⟩, .slice y.A y.len y.cap]] wr fun e w' => e = .returned (.bool (consT ty)) ∧ Below wr.heap.size wr w') := Lib.hid (by
   rw [← tvV_lit]
   exact isl_any wr B0 y ty HLA.out.tm)
  cases hct : consT ty with
  | true =>
   rw [hct] at HIS
   have HCT := Lib.hid hct
   clear hct
   go_wp2_with fail
   refine HIS.out.mono ?_
   rintro e W1 ⟨rfl, hb1⟩
   have HK1 := Lib.hid (HLA.out.k.later hb1)
   have HB1 := Lib.hid ((hb1.block q (Array.getElem?_eq_some_iff.1 HLA.out.box).1).trans HLA.out.box)
   have HF1 := Lib.hid (WrS.step HLA.out.fr hb1)
   have HX1 := Lib.hid (HLA.out.tm.blw (HLA.out.k.low (Fr.of_below _ hb1)))
   clear f0 f1 f2 f3 zf c3 hb1 HIS
   obtain ⟨c3, -, -⟩ := HK1.out.put3
   unfold putV at c3
   go_wp2_with fail
   refine (wadd_any W1 B wb bt way _ [44] HK1.out.at' HK1.out.bu (by have := HLA.out.lenB; simp only [List.length_cons, List.length_nil]; omega)).mono ?_
   rintro e W2 ⟨rfl, h1, h2⟩
   have HK2 := Lib.hid (HK1.out.next h1 h2)
   have HB2 := Lib.hid (WrS.keep h2 HB1.out (by decide) HQ.out.2.2)
   have HF2 := Lib.hid (WrS.trans HF1.out h2)
   have hx2 := HX1.out.blw (HK1.out.low h2)
   obtain ⟨b, off, a0, a1, n2, hA, hbB, ht0, ht1, ⟨m0, m1, m2, m3⟩, -⟩ := cons_args hx2 HCT.out
   have HX2 := Lib.hid (And.intro hx2 ht0)
   obtain ⟨f0, f1, f2, f3, -⟩ := four_at HB2.out
   rw [hA, n2] at f3
   have hbs : b < W2.heap.size := by have := HQ.out; have h5 := (Array.getElem?_eq_some_iff.1 HB2.out).1; omega
   clear h1 h2 c3 hx2 ht0 ht1 n2 hA hbB
   have HCS := Lib.hid (And.intro (cons_sizes HCT.out) (And.intro (consF_step HCT.out) (And.intro (HLA.out.wf.arg (i := 0) (by have := (consT_len HCT.out).2.2; omega)) (HLA.out.wf.arg (i := 1) (by have := (consT_len HCT.out).2.2; omega)))))
   go_wp2_with fail
   refine (HC.out W2 _ a0 _ (by have := HCS.out.1; have := HLA.out.sz; omega) HCS.out.2.2.1 HX2.out.2 HK2.out (by have := HLA.out.lenB; have := HCS.out.1; rw [List.length_append]; simp only [List.length_cons, List.length_nil]; omega)).mono ?_
   rintro e W3 ⟨rfl, h1, h2⟩
   have HK3 := Lib.hid (HK2.out.next h1 h2)
   have HB3 := Lib.hid (WrS.keep h2 HB2.out (by decide) HQ.out.2.2)
   have HF3 := Lib.hid (WrS.trans HF2.out h2)
   have hx3 := HX2.out.1.blw (HK2.out.low h2)
   clear f0 f1 f2 f3 m0 m1 m2 m3 hbs h1 h2
   obtain ⟨b, off, a0', a1, n2, hA, hbB, -, ht1, -, ⟨m0, m1, m2, m3⟩⟩ := cons_args hx3 HCT.out
   obtain ⟨f0, f1, f2, f3, zf⟩ := four_at HB3.out
   rw [hA, n2] at f3
   have hbs : b < W3.heap.size := by have := HQ.out; have h5 := (Array.getElem?_eq_some_iff.1 HB3.out).1; omega
   have HLS : Hid (LsAt g u B0 B wb bt bm es way acc q t a1 (ty.args.getD 1 noTm) (dn ++ [ty.args.getD 0 noTm]) ((((W3.setCell ⟨q, 0, none⟩ (.int .i64 a1.k)).setCell ⟨q, 1, none⟩ (.int .i64 a1.n)).setCell ⟨q, 2, none⟩ (.string ⟨a1.s.toArray⟩)).setCell ⟨q, 3, none⟩ (.slice a1.A a1.len a1.cap)) ∧ (ty.args.getD 1 noTm).size ≤ gk - 1) := Lib.hid (by
    obtain ⟨s1, s2, s3, s4⟩ := HCS.out
    have hgl := HGL.out _ s3 999
    have hdl : dn.length ≠ 0 := by have := HLA.out.ne; simpa using this
    have htx : acc ++ 91 :: commaF g dn ++ [44] ++ g (ty.args.getD 0 noTm) 999 = acc ++ 91 :: commaF g (dn ++ [ty.args.getD 0 noTm]) := by
     rw [commaF_snoc, if_neg hdl]
     simp
    refine ⟨⟨blk_set4 HB3.out rfl _ _ _ _, ?_, ?_, ?_, s4, ?_, by have := HLA.out.sz; omega, by simp, ?_⟩, by have := HGK.out; omega⟩
    ·rw [← htx]
     exact HK3.out.box HB3.out HQ.out.2.1 (.int .i64 a1.k) (.int .i64 a1.n) (.string ⟨a1.s.toArray⟩) (.slice a1.A a1.len a1.cap)
    ·exact ht1.keep (Nat.le_refl _) fun k hk => blk_set4_ne _ _ _ _ (by have := HQ.out.2.1; omega)
    ·exact (((HF3.out.setCell (p := ⟨q, 0, none⟩) (.inr HQ.out.1) _).setCell (p := ⟨q, 1, none⟩) (.inr HQ.out.1) _).setCell (p := ⟨q, 2, none⟩) (.inr HQ.out.1) _).setCell (p := ⟨q, 3, none⟩) (.inr HQ.out.1) _
    ·rw [← htx]
     have := HLA.out.lenB
     simp only [List.length_append, List.length_cons, List.length_nil] at this ⊢
     omega
    ·rw [HLA.out.eq, s2]
     simp)
   have hgk : 0 < gk := by have := HGK.out; have := size_pos ty; omega
   clear n2 hA ht1 hx3 hbB HK1 HB1 HF1 HX1 HK2 HB2 HF2 HX2 HK3 HB3 HF3
   go_wp2_with fail
   go_roundg (gk - 1)
   case rel => exact ⟨_, _, _, HLS⟩
   all_goals omega
  | false =>
   rw [hct] at HIS
   have hLL : L = acc ++ 91 :: (commaF g dn ++ (tailF g ty ++ [93])) := by
    rw [HL.out]
    unfold listF
    rw [HLA.out.eq, consF_end hct]
    simp
   have HLL := Lib.hid hLL
   clear hct hLL
   go_wp2_with fail
   refine HIS.out.mono ?_
   rintro e W1 ⟨rfl, hb1⟩
   have HK1 := Lib.hid (HLA.out.k.later hb1)
   have HB1 := Lib.hid ((hb1.block q (Array.getElem?_eq_some_iff.1 HLA.out.box).1).trans HLA.out.box)
   have HF1 := Lib.hid (WrS.step HLA.out.fr hb1)
   have HX1 := Lib.hid (HLA.out.tm.blw (HLA.out.k.low (Fr.of_below _ hb1)))
   clear f0 f1 f2 f3 zf c3 hb1 HIS
   obtain ⟨f0, f1, f2, f3, zf⟩ := four_at HB1.out
   obtain ⟨c3, -, -⟩ := HK1.out.put3
   unfold putV at c3
   obtain ⟨e1, -, e3, -⟩ := HX1.out.open
   have HE := Lib.hid (And.intro e1 e3)
   clear e1 e3
   have hAD : Hid (∀ (v : World) (a2 : List UInt8), WrAt v B wb bt way a2 → Fr (WrS W1 B wb) W1 v → a2.length ≤ 60000000000 → Calls Tryz.prog 32 #[.pointer (some ⟨wb, 0, none⟩), .string ⟨#[93]⟩] v fun e v' => e = .returned (.tuple #[]) ∧ WrAt v' B wb bt way (a2 ++ [93]) ∧ Fr (WrS u B wb) u v') := Lib.hid fun v a2 ha hf hl => by
    have hk := HK1.out.next ha hf
    refine (wadd_any v B wb bt way a2 [93] hk.at' hk.bu (by simp only [List.length_cons, List.length_nil]; omega)).mono ?_
    rintro e v' ⟨rfl, h1, h2⟩
    exact ⟨rfl, h1, WrS.trans (WrS.trans HF1.out hf) h2⟩
   have HEND : Hid ((acc ++ 91 :: commaF g dn ++ [124] ++ g ty 999).length ≤ 60000000000) := Lib.hid (by
    have h1 := HLA.out.lenB
    have h2 := HGL.out _ HLA.out.wf 999
    simp only [List.length_append, List.length_cons, List.length_nil] at h1 ⊢
    omega)
   have hT : Hid (tailF g ty ≠ [] → Calls Tryz.prog 32 #[.pointer (some ⟨wb, 0, none⟩), .string ⟨#[124]⟩] W1 fun e v' => e = .returned (.tuple #[]) ∧ WrAt v' B wb bt way (acc ++ 91 :: commaF g dn ++ [124]) ∧ Fr (WrS W1 B wb) W1 v') := Lib.hid fun _ =>
    wadd_any W1 B wb bt way _ [124] HK1.out.at' HK1.out.bu (by have := HLA.out.lenB; simp only [List.length_cons, List.length_nil]; omega)
   by_cases hk3 : y.k = 3
   ·by_cases hs : y.s = [91, 93]
    ·have b1 : (y.k != 3) = false := by rw [hk3]; rfl
     have b2 : (y.s != [91, 93]) = false := by rw [hs]; rfl
     have b3 : (y.k == 3) = true := by rw [hk3]; rfl
     have b4 : (y.s == [91, 93]) = true := by rw [hs]; rfl
     have hLE : L = acc ++ 91 :: commaF g dn ++ [93] := by
      rw [HLL.out]
      unfold tailF
      rw [if_pos ⟨HE.out.1.trans hk3, HE.out.2.trans hs⟩]
      simp
     have HLE := Lib.hid hLE
     clear hk3 hs hLE
     go_wp2_with fail
     refine (hAD.out W1 _ HK1.out.at' (Fr.refl _ _) (by have := HLA.out.lenB; omega)).mono ?_
     rintro e W2 ⟨rfl, h1, h2⟩
     go_wp2_with fail
     go_end0
     exact ⟨rfl, by rw [HLE.out]; exact h1, h2⟩
    ·have b1 : (y.k != 3) = false := by rw [hk3]; rfl
     have b2 : (y.s != [91, 93]) = true := bne_iff_ne.2 hs
     have b3 : (y.k == 3) = true := by rw [hk3]; rfl
     have b4 : (y.s == [91, 93]) = false := beq_eq_false_iff_ne.2 hs
     have hTE : tailF g ty = 124 :: g ty 999 := by unfold tailF; rw [if_neg (fun h => hs (HE.out.2.symm.trans h.2))]
     have HTE := Lib.hid hTE
     clear hk3 hs hTE
     go_wp2_with fail
     refine (hT.out (by rw [HTE.out]; simp)).mono ?_
     rintro e W2 ⟨rfl, h1, h2⟩
     have HB2 := Lib.hid (WrS.keep h2 HB1.out (by decide) HQ.out.2.2)
     have HK2 := Lib.hid (HK1.out.next h1 h2)
     have HX2 := Lib.hid (HX1.out.blw (HK1.out.low h2))
     have HF2 := Lib.hid h2
     clear f0 f1 f2 f3 zf c3 h1 h2
     obtain ⟨f0, f1, f2, f3, zf⟩ := four_at HB2.out
     go_wp2_with fail
     refine (HC.out W2 _ y _ HLA.out.sz HLA.out.wf HX2.out HK2.out (by have := HLA.out.lenB; rw [List.length_append]; simp only [List.length_cons, List.length_nil]; omega)).mono ?_
     rintro e W3 ⟨rfl, h1, h2⟩
     have HK3 := Lib.hid (HK2.out.next h1 h2)
     have HF3 := Lib.hid (WrS.trans HF2.out h2)
     clear f0 f1 f2 f3 zf h1 h2
     obtain ⟨c3, -, -⟩ := HK3.out.put3
     unfold putV at c3
     go_wp2_with fail
     refine (hAD.out W3 _ HK3.out.at' HF3.out HEND.out).mono ?_
     rintro e W4 ⟨rfl, h1, h2⟩
     go_wp2_with fail
     go_end0
     exact ⟨rfl, by rw [HLL.out, HTE.out]; simpa using h1, h2⟩
   ·have b1 : (y.k != 3) = true := bne_iff_ne.2 hk3
    have hTE : tailF g ty = 124 :: g ty 999 := by unfold tailF; rw [if_neg (fun h => hk3 (HE.out.1.symm.trans h.1))]
    have HTE := Lib.hid hTE
    clear hk3 hTE
    go_wp2_with fail
    refine (hT.out (by rw [HTE.out]; simp)).mono ?_
    rintro e W2 ⟨rfl, h1, h2⟩
    have HB2 := Lib.hid (WrS.keep h2 HB1.out (by decide) HQ.out.2.2)
    have HK2 := Lib.hid (HK1.out.next h1 h2)
    have HX2 := Lib.hid (HX1.out.blw (HK1.out.low h2))
    have HF2 := Lib.hid h2
    clear f0 f1 f2 f3 zf c3 h1 h2
    obtain ⟨f0, f1, f2, f3, zf⟩ := four_at HB2.out
    go_wp2_with fail
    refine (HC.out W2 _ y _ HLA.out.sz HLA.out.wf HX2.out HK2.out (by have := HLA.out.lenB; rw [List.length_append]; simp only [List.length_cons, List.length_nil]; omega)).mono ?_
    rintro e W3 ⟨rfl, h1, h2⟩
    have HK3 := Lib.hid (HK2.out.next h1 h2)
    have HF3 := Lib.hid (WrS.trans HF2.out h2)
    clear f0 f1 f2 f3 zf h1 h2
    obtain ⟨c3, -, -⟩ := HK3.out.put3
    unfold putV at c3
    go_wp2_with fail
    refine (hAD.out W3 _ HK3.out.at' HF3.out HEND.out).mono ?_
    rintro e W4 ⟨rfl, h1, h2⟩
    go_wp2_with fail
    go_end0
    exact ⟨rfl, by rw [HLL.out, HTE.out]; simpa using h1, h2⟩
theorem operate_any {es : List (OpK × OpV)} {way : Int} {n : Nat} (hC : TermC es way n) (u : World) (B0 B wb bt bm : Nat) (acc : List UInt8) (x : TV) (t : Tm) (o : OpR) (hn : t.size ≤ n + 1) (hw : WfT t) (hx : TermAt u B0 x t) (ho : operF es way t = some o) (hK : WrK u B0 B wb bt bm es way acc) (hlen : acc.length + 6000 * t.size ≤ 10000000001) :
    Calls Tryz.prog 111 #[.pointer (some ⟨wb, 0, none⟩), opV o, .slice x.A x.len x.cap] u fun e u' => e = .returned (.tuple #[]) ∧ WrAt u' B wb bt way (acc ++ operateF es way (wrT es way) o t.args) ∧ Fr (WrS u B wb) u u' := by
 obtain ⟨h1, h2, h3⟩ := oper_name ho
 rcases h3 with ⟨h4 | h4, h5⟩ | ⟨h4, h5⟩
 ·exact operate_before hC u B0 B wb bt bm acc x t o hn hw hx h1 h4 h5 hK hlen
 ·exact operate_behind hC u B0 B wb bt bm acc x t o hn hw hx h1 h4 h5 hK hlen
 ·exact operate_between hC u B0 B wb bt bm acc x t o hn hw hx h1 h4 h5 hK hlen
set_option maxHeartbeats 16000000 in
theorem comp_any {es : List (OpK × OpV)} {way : Int} {n : Nat} (hC : TermC es way n) : CompC es way (n + 1) := by
 intro u B0 B wb bt bm acc x t most hn hw hk4 hx hK hlen
 obtain ⟨k1, k2, k3, k4, k5, -⟩ := hx.open
 rw [wr_4 hk4]
 obtain ⟨g, hg⟩ : ∃ g, g = wrT es way := ⟨_, rfl⟩
 rw [← hg]
 have hgl : ∀ y : Tm, WfT y → ∀ m, (g y m).length ≤ 6000 * y.size := fun y hy m => by rw [hg]; exact wr_len es way y.size y m (Nat.le_refl _) hy
 have hsl := hw.name.1
 have htl := text_len way hsl
 obtain ⟨T, hT⟩ : ∃ T, T = textF way t.s := ⟨_, rfl⟩
 rw [← hT] at htl
 obtain ⟨F, hF⟩ : ∃ F, F = acc ++ compF es way g t most := ⟨_, rfl⟩
 rw [← hF]
 obtain ⟨W, hW⟩ : ∃ W, W = u.alloc (.cells #[.int .i64 x.k, .int .i64 x.n, .string ⟨x.s.toArray⟩, .slice x.A x.len x.cap] 28) := ⟨_, rfl⟩
 have hbW : Below u.heap.size u W := by rw [hW]; exact (Below.refl _ _).alloc (Nat.le_refl _) _
 have hx0 : W.heap[u.heap.size]? = some (.cells #[.int .i64 x.k, .int .i64 x.n, .string ⟨x.s.toArray⟩, .slice x.A x.len x.cap] 28 (0, 0)) := by rw [hW]; exact heap_alloc_new _ _
 have hKW := hK.later hbW
 have hxW : TermAt W B0 x t := hx.blw (hK.low (Fr.of_below _ hbW))
 obtain ⟨q, hq⟩ : ∃ q, q = u.heap.size := ⟨_, rfl⟩
 rw [← hq] at hx0
 have hne : q ≠ wb := hKW.ne hx0 (by decide)
 have HSS : Hid (∀ a2 v, Hd W B wb bt way a2 v → v.cell? ⟨wb, 3, none⟩ = some (.func (.func 32) #[.pointer (some ⟨wb, 0, none⟩)] #[]) ∧ v.cell? ⟨wb, 1, none⟩ = some (.int .i64 way) ∧ v.cell? ⟨q, 0, none⟩ = some (.int .i64 x.k) ∧ v.cell? ⟨q, 1, none⟩ = some (.int .i64 x.n) ∧ v.cell? ⟨q, 2, none⟩ = some (.string ⟨x.s.toArray⟩) ∧ v.cell? ⟨q, 3, none⟩ = some (.slice x.A x.len x.cap)) := Lib.hid fun a2 v hv => by
  obtain ⟨e3, -, e1⟩ := (hKW.next hv.1 hv.2).put3
  obtain ⟨g0, g1, g2, g3, -⟩ := four_at (WrS.keep hv.2 hx0 (by decide) hne)
  exact ⟨e3, e1, g0, g1, g2, g3⟩
 have HTX : Hid (∀ a2 V v, Hd W B wb bt way a2 V → Below V.heap.size V v → Calls Tryz.prog 64 #[.pointer (some ⟨wb, 0, none⟩), .string ⟨x.s.toArray⟩] v fun e v' => e = .returned (.string ⟨T.toArray⟩) ∧ Below V.heap.size V v') := Lib.hid fun a2 V v hV hv => by
  have hk := hKW.next (hV.later hv).1 (hV.later hv).2
  rw [← k3]
  refine (text_any v B wb bt way a2 t.s hk.at' hsl hk.env.bits).mono ?_
  rintro e v' ⟨rfl, hb'⟩
  exact ⟨by rw [hT], hv.trans (hb'.mono hv.size)⟩
 have HAD : Hid (∀ a2 Z v, Hd W B wb bt way a2 v → a2.length + Z.length ≤ 100000000000 → Calls Tryz.prog 32 #[.pointer (some ⟨wb, 0, none⟩), .string ⟨Z.toArray⟩] v fun e v' => e = .returned (.tuple #[]) ∧ Hd W B wb bt way (a2 ++ Z) v') := Lib.hid fun a2 Z v hv hz => by
  have hk := hKW.next hv.1 hv.2
  refine (wadd_any v B wb bt way a2 Z hk.at' hk.bu hz).mono ?_
  rintro e v' ⟨rfl, h1, h2⟩
  exact ⟨rfl, h1, WrS.trans hv.2 h2⟩
 have HIT : Hid (∀ a2 v, Hd W B wb bt way a2 v → a2.length + 6000 * Tm.sizes t.args + 900 ≤ 10000000000 → Calls Tryz.prog 110 #[.pointer (some ⟨wb, 0, none⟩), .slice x.A x.len x.cap] v fun e v' => e = .returned (.tuple #[]) ∧ Hd W B wb bt way (a2 ++ commaF g t.args) v') := Lib.hid fun a2 v hv hz => by
  have hk := hKW.next hv.1 hv.2
  rw [hg]
  refine (witems_any hC v B0 B wb bt bm a2 x t (fun y hy => by have h1 := mem_sizes t.args y hy; have h2 := size_args t; omega) hw (hxW.blw (hKW.low hv.2)) hk hz).mono ?_
  rintro e v' ⟨rfl, h1, h2⟩
  exact ⟨rfl, h1, WrS.trans hv.2 h2⟩
 have HLI : Hid (consT t = true → ∀ v, Hd W B wb bt way acc v → Calls Tryz.prog 108 #[.pointer (some ⟨wb, 0, none⟩), .agg #[.int .i64 x.k, .int .i64 x.n, .string ⟨x.s.toArray⟩, .slice x.A x.len x.cap]] v fun e v' => e = .returned (.tuple #[]) ∧ Hd W B wb bt way (acc ++ listF g t) v') := Lib.hid fun hc v hv => by
  have hk := hKW.next hv.1 hv.2
  rw [hg, ← tvV_lit]
  refine (wlist_any hC v B0 B wb bt bm acc x t hn hw (hxW.blw (hKW.low hv.2)) hc hk hlen).mono ?_
  rintro e v' ⟨rfl, h1, h2⟩
  exact ⟨rfl, h1, WrS.trans hv.2 h2⟩
 have HOE : Hid (∀ o a2 v, operF es way t = some o → Hd W B wb bt way a2 v → a2.length ≤ acc.length + 1 → Calls Tryz.prog 111 #[.pointer (some ⟨wb, 0, none⟩), .agg #[.int .i64 o.side, .int .i64 o.pri, .string ⟨o.name.toArray⟩, .bool o.left, .bool o.right], .slice x.A x.len x.cap] v fun e v' => e = .returned (.tuple #[]) ∧ Hd W B wb bt way (a2 ++ operateF es way g o t.args) v') := Lib.hid fun o a2 v ho hv hz => by
  have hk := hKW.next hv.1 hv.2
  rw [hg]
  refine (operate_any hC v B0 B wb bt bm a2 x t o hn hw (hxW.blw (hKW.low hv.2)) ho hk (by omega)).mono ?_
  rintro e v' ⟨rfl, h1, h2⟩
  exact ⟨rfl, h1, WrS.trans hv.2 h2⟩
 have HOP : Hid (∀ a2 v, Hd W B wb bt way a2 v → Calls Tryz.prog 109 #[.pointer (some ⟨wb, 0, none⟩), .agg #[.int .i64 x.k, .int .i64 x.n, .string ⟨x.s.toArray⟩, .slice x.A x.len x.cap]] v fun e v' => e = .returned (opOut (operF es way t)) ∧ Below v.heap.size v v') := Lib.hid fun a2 v hv => by
  have hk := hKW.next hv.1 hv.2
  rw [← tvV_lit]
  exact woperator_any v B wb bt bm es way a2 hk.at' hk.env B0 x t (hxW.blw (hKW.low hv.2)) (Nat.le_trans hk.b0B hk.bu) (by rw [← k3]; exact hsl)
 have HIS : Hid (∀ v, Hd W B wb bt way acc v → Calls Tryz.prog 107 #[.agg #[.int .i64 x.k, .int .i64 x.n, .string ⟨x.s.toArray⟩, .slice x.A x.len x.cap]] v fun e v' => e = .returned (.bool (consT t)) ∧ Below v.heap.size v v') := Lib.hid fun v hv => by
  rw [← tvV_lit]
  exact isl_any v B0 x t (hxW.blw (hKW.low hv.2))
 have HTM : Hid (t.args.length = 1 → ∃ (b off : Nat) (y : TV), x.A = some ⟨b, off, none⟩ ∧ b < W.heap.size ∧ (∀ a2 v, Hd W B wb bt way a2 v → (v.cell? ⟨b, off, none⟩ = some (.int .i64 y.k) ∧ v.cell? ⟨b, off + 1, none⟩ = some (.int .i64 y.n) ∧ v.cell? ⟨b, off + 2, none⟩ = some (.string ⟨y.s.toArray⟩) ∧ v.cell? ⟨b, off + 3, none⟩ = some (.slice y.A y.len y.cap)) ∧ (a2.length ≤ acc.length + 1 → Calls Tryz.prog 33 #[.pointer (some ⟨wb, 0, none⟩), .agg #[.int .i64 y.k, .int .i64 y.n, .string ⟨y.s.toArray⟩, .slice y.A y.len y.cap], .int .i64 1200] v fun e v' => e = .returned (.tuple #[]) ∧ Hd W B wb bt way (a2 ++ g (t.args.getD 0 noTm) 1200) v'))) := Lib.hid fun hl => by
  obtain ⟨b, off, y, hA, hbB, hy, m0, m1, m2, m3⟩ := arg_at hxW (i := 0) (by omega)
  simp only [Nat.zero_mul, Nat.add_zero] at m0 m1 m2 m3
  refine ⟨b, off, y, hA, by have := hKW.b0B; have := hKW.bu; omega, fun a2 v hv => ?_⟩
  have hc : ∀ j, v.cell? ⟨b, j, none⟩ = W.cell? ⟨b, j, none⟩ := fun j => World.cell?_of_block (w := W) (a := ⟨b, j, none⟩) ((hKW.low hv.2).block b hbB)
  rw [hc, hc, hc, hc]
  refine ⟨⟨m0, m1, m2, m3⟩, fun hz => ?_⟩
  have hk := hKW.next hv.1 hv.2
  have hs := one_sizes hl
  rw [hg, ← tvV_lit]
  refine (hC v B0 B wb bt bm a2 y _ 1200 (by omega) (hw.arg (by omega)) (hy.blw (hKW.low hv.2)) hk (by omega)).mono ?_
  rintro e v' ⟨rfl, h1, h2⟩
  exact ⟨rfl, h1, WrS.trans hv.2 h2⟩
 have HBU : Hid (B ≤ W.heap.size) := Lib.hid hKW.bu
 have HVW : Hid (Hd W B wb bt way acc W) := Lib.hid ⟨hKW.at', Fr.refl _ _⟩
 have HFIN : Hid (∀ v, Fr (WrS W B wb) W v → Fr (WrS u B wb) u v) := Lib.hid fun v hv => WrS.trans (Fr.of_below _ hbW) hv
 have HLN : Hid (acc.length + 5002 + 6000 * Tm.sizes t.args + 950 ≤ 10000000000 ∧ T.length ≤ 5002 ∧ acc.length + 6000 * t.size ≤ 10000000000) := Lib.hid (by have := size_args t; omega)
 have HGC : Hid ((commaF g t.args).length ≤ 6000 * Tm.sizes t.args + 255) := Lib.hid (by
  have h1 := comma_len (g := g) t.args fun y hy => hgl y (hw.mem hy)
  have := hw.name.2
  omega)
 have HG1 : Hid (t.args.length = 1 → (g (t.args.getD 0 noTm) 1200).length + 6000 ≤ 6000 * t.size) := Lib.hid fun hl => by
  have h1 := hgl _ (hw.arg (i := 0) (by omega)) 1200
  have := one_sizes hl
  omega
 have HGO : Hid (∀ o, operF es way t = some o → (operateF es way g o t.args).length + 900 ≤ 6000 * t.size) := Lib.hid fun o ho => operate_len hw ho fun i hi m => hgl _ (hw.arg hi) m
 have HF : Hid (F = acc ++ compF es way g t most) := Lib.hid hF
 have HX : Hid (t.s = x.s ∧ t.args.length = x.len ∧ T = textF way t.s) := Lib.hid ⟨k3, k4, hT⟩
 have hbW2 : q < W.heap.size := (Array.getElem?_eq_some_iff.1 hx0).1
 clear hC hn hw hk4 hx hK hlen k1 k2 k3 k4 k5 hg hgl hsl htl hT hF hbW hx0 hKW hxW hne
 rw [tvV_lit]
 obtain ⟨Q, hQ⟩ : ∃ Q, Q = consT t := ⟨_, rfl⟩
 rw [← hQ] at HIS
 have HQ := Lib.hid hQ
 clear hQ
 cases Q with
 | true =>
  have HE : Hid (F = acc ++ listF g t) := Lib.hid (by rw [HF.out]; unfold compF; rw [if_pos HQ.out.symm])
  obtain ⟨x0, x1, x2, x3, x4, x5⟩ := HSS.out _ W HVW.out
  go_enter Tryz.func65, Tryz.ntmps65
  go_upto_region 1 with fail
  rw [← hW, ← hq]
  clear hW hq
  go_wp2_with fail
  refine (HIS.out W HVW.out).mono ?_
  rintro e W1 ⟨rfl, hb1⟩
  have HVW1 := Lib.hid (HVW.out.later hb1)
  clear x0 x1 x2 x3 x4 x5 hb1
  obtain ⟨x0, x1, x2, x3, x4, x5⟩ := HSS.out _ W1 HVW1.out
  go_wp2_with fail
  refine (HLI.out HQ.out.symm W1 HVW1.out).mono ?_
  rintro e W2 ⟨rfl, hg⟩
  have HVW2 := Lib.hid hg
  clear x0 x1 x2 x3 x4 x5 hg
  go_wp2_with fail
  (try simp only [Exit.inBlock, Exit.then])
  refine bodyPost_ret (v := .tuple #[]) (by simp [results, Tryz.results65, go_sem]) rfl ?_
  exact ⟨rfl, by rw [HE.out]; simpa using HVW2.out.1, HFIN.out _ HVW2.out.2⟩
 | false =>
  have HQF : Hid (¬ consT t = true) := Lib.hid (by rw [← HQ.out]; decide)
  by_cases hw2 : way = 2
  ·have b1 : (way != 2) = false := by rw [hw2]; rfl
   have b1' : (way == 2) = true := by rw [hw2]; rfl
   have hnb : ¬ (way ≠ 2 ∧ t.s = [123, 125] ∧ t.args.length = 1) := fun h => h.1 hw2
   clear hw2
   cases hO : operF es way t with
   | none =>
    rw [hO] at HOP
    have HE : Hid (F = acc ++ T ++ [40] ++ commaF g t.args ++ [41]) := Lib.hid (by rw [HF.out]; unfold compF; rw [if_neg HQF.out, if_neg hnb, hO, HX.out.2.2]; simp)
    unfold opOut opZ opV at HOP
    simp only [Option.getD_none, Option.isSome_none] at HOP
    clear hO hnb
    obtain ⟨x0, x1, x2, x3, x4, x5⟩ := HSS.out _ W HVW.out
    go_enter Tryz.func65, Tryz.ntmps65
    go_upto_region 1 with fail
    rw [← hW, ← hq]
    clear hW hq
    go_wp2_with fail
    refine (HIS.out W HVW.out).mono ?_
    rintro e W1 ⟨rfl, hb1⟩
    have HVW1 := Lib.hid (HVW.out.later hb1)
    clear x0 x1 x2 x3 x4 x5 hb1
    obtain ⟨x0, x1, x2, x3, x4, x5⟩ := HSS.out _ W1 HVW1.out
    go_wp2_with fail
    refine (HOP.out _ W1 HVW1.out).mono ?_
    rintro e W2 ⟨rfl, hb2⟩
    go_upto_region 9 with fail
    obtain ⟨V, hV⟩ : ∃ V, V = W2.alloc (.cells #[.int .i64 0, .int .i64 0, .string ⟨#[]⟩, .bool false, .bool false] 173) := ⟨_, rfl⟩
    have hbV : Below W1.heap.size W1 V := by rw [hV]; exact hb2.alloc hb2.size _
    have hp0 : V.heap[W2.heap.size]? = some (.cells #[.int .i64 0, .int .i64 0, .string ⟨#[]⟩, .bool false, .bool false] 173 (0, 0)) := by rw [hV]; exact heap_alloc_new _ _
    have HVV := Lib.hid (HVW1.out.later hbV)
    obtain ⟨p, hp⟩ : ∃ p, p = W2.heap.size := ⟨_, rfl⟩
    rw [← hp] at hp0
    rw [← hV, ← hp]
    have hpB : q < p := by have := hb2.size; have := HVW1.out.2.size; omega
    have HP0 := Lib.hid hp0
    clear hV hp hb2 hbV hp0 x0 x1 x2 x3 x4 x5
    obtain ⟨x0, x1, x2, x3, x4, x5⟩ := HSS.out _ V HVV.out
    go_wp2_with fail
    have hbr := Below.refl V.heap.size V
    have hbd : Below V.heap.size V V.drew := (Below.refl V.heap.size V).drew
    have HSV : Hid (∀ v, Below V.heap.size V v → v.cell? ⟨wb, 3, none⟩ = some (.func (.func 32) #[.pointer (some ⟨wb, 0, none⟩)] #[]) ∧ v.cell? ⟨wb, 1, none⟩ = some (.int .i64 way) ∧ v.cell? ⟨q, 0, none⟩ = some (.int .i64 x.k) ∧ v.cell? ⟨q, 1, none⟩ = some (.int .i64 x.n) ∧ v.cell? ⟨q, 2, none⟩ = some (.string ⟨x.s.toArray⟩) ∧ v.cell? ⟨q, 3, none⟩ = some (.slice x.A x.len x.cap)) := Lib.hid fun v hv => HSS.out _ v (HVV.out.later hv)
    have HTV : Hid (∀ v, Below V.heap.size V v → Calls Tryz.prog 64 #[.pointer (some ⟨wb, 0, none⟩), .string ⟨x.s.toArray⟩] v fun e v' => e = .returned (.string ⟨T.toArray⟩) ∧ Below V.heap.size V v') := Lib.hid fun v hv => HTX.out _ _ _ HVV.out hv
    have HAV : Hid (∀ v, Below V.heap.size V v → Calls Tryz.prog 32 #[.pointer (some ⟨wb, 0, none⟩), .string ⟨T.toArray⟩] v fun e v' => e = .returned (.tuple #[]) ∧ Hd W B wb bt way (acc ++ T) v') := Lib.hid fun v hv => HAD.out _ T v (HVV.out.later hv) (by have := HLN.out; first | omega | (simp only [List.length_cons, List.length_nil]; omega) | (simp only [List.length_append, List.length_cons, List.length_nil]; omega))
    go_region_held3 (fun v => v.cell? ⟨wb, 3, none⟩ = some (.func (.func 32) #[.pointer (some ⟨wb, 0, none⟩)] #[]) ∧ v.cell? ⟨wb, 1, none⟩ = some (.int .i64 way) ∧ v.cell? ⟨q, 0, none⟩ = some (.int .i64 x.k) ∧ v.cell? ⟨q, 1, none⟩ = some (.int .i64 x.n) ∧ v.cell? ⟨q, 2, none⟩ = some (.string ⟨x.s.toArray⟩) ∧ v.cell? ⟨q, 3, none⟩ = some (.slice x.A x.len x.cap))
     (first | (with_reducible exact HSV.out _ (by assumption)) | (with_reducible exact HSS.out _ _ (by assumption)))
     (first | (go_at_call 64; with_reducible refine (HTV.out _ (by assumption)).mono ?_; rintro e v1 ⟨rfl, hb1⟩) | (go_at_call 32; with_reducible refine (HAV.out _ (by assumption)).mono ?_; rintro e W3 ⟨rfl, hg⟩))
    have HVW3 := Lib.hid hg
    clear x0 x1 x2 x3 x4 x5 hbr hbd HSV HTV HAV hg
    obtain ⟨x0, x1, x2, x3, x4, x5⟩ := HSS.out _ W3 HVW3.out
    go_wp2_with fail
    refine (HAD.out _ [40] W3 HVW3.out (by have := HLN.out; first | omega | (simp only [List.length_cons, List.length_nil]; omega) | (simp only [List.length_append, List.length_cons, List.length_nil]; omega))).mono ?_
    rintro e W4 ⟨rfl, hg⟩
    have HVW4 := Lib.hid hg
    clear x0 x1 x2 x3 x4 x5 hg
    obtain ⟨x0, x1, x2, x3, x4, x5⟩ := HSS.out _ W4 HVW4.out
    go_wp2_with fail
    refine (HIT.out _ W4 HVW4.out (by have := HLN.out; first | omega | (simp only [List.length_cons, List.length_nil]; omega) | (simp only [List.length_append, List.length_cons, List.length_nil]; omega))).mono ?_
    rintro e W5 ⟨rfl, hg⟩
    have HVW5 := Lib.hid hg
    clear x0 x1 x2 x3 x4 x5 hg
    obtain ⟨x0, x1, x2, x3, x4, x5⟩ := HSS.out _ W5 HVW5.out
    go_wp2_with fail
    refine (HAD.out _ [41] W5 HVW5.out (by have h1 := HGC.out; have h2 := HLN.out; simp only [List.length_append, List.length_cons, List.length_nil]; omega)).mono ?_
    rintro e W6 ⟨rfl, hg⟩
    have HVW6 := Lib.hid hg
    clear x0 x1 x2 x3 x4 x5 hg
    go_wp2_with fail
    go_end0
    exact ⟨rfl, by rw [HE.out]; simpa using HVW6.out.1, HFIN.out _ HVW6.out.2⟩
   | some o =>
    by_cases hm : most < o.pri
    ·rw [hO] at HOP
     unfold opOut opV at HOP
     simp only [Option.getD_some, Option.isSome_some] at HOP
     have HOO := Lib.hid hO
     have HE : Hid (F = acc ++ [40] ++ operateF es way g o t.args ++ [41]) := Lib.hid (by rw [HF.out]; unfold compF; rw [if_neg HQF.out, if_neg hnb, hO]; simp only; rw [if_pos hm]; simp)
     have c1 : decide (most < o.pri) = true := decide_eq_true hm
     have HM := Lib.hid hm
     clear hO hnb hm
     obtain ⟨x0, x1, x2, x3, x4, x5⟩ := HSS.out _ W HVW.out
     go_enter Tryz.func65, Tryz.ntmps65
     go_upto_region 1 with fail
     rw [← hW, ← hq]
     clear hW hq
     go_wp2_with fail
     refine (HIS.out W HVW.out).mono ?_
     rintro e W1 ⟨rfl, hb1⟩
     have HVW1 := Lib.hid (HVW.out.later hb1)
     clear x0 x1 x2 x3 x4 x5 hb1
     obtain ⟨x0, x1, x2, x3, x4, x5⟩ := HSS.out _ W1 HVW1.out
     go_wp2_with fail
     refine (HOP.out _ W1 HVW1.out).mono ?_
     rintro e W2 ⟨rfl, hb2⟩
     go_upto_region 9 with fail
     obtain ⟨V, hV⟩ : ∃ V, V = W2.alloc (.cells #[.int .i64 o.side, .int .i64 o.pri, .string ⟨o.name.toArray⟩, .bool o.left, .bool o.right] 173) := ⟨_, rfl⟩
     have hbV : Below W1.heap.size W1 V := by rw [hV]; exact hb2.alloc hb2.size _
     have hp0 : V.heap[W2.heap.size]? = some (.cells #[.int .i64 o.side, .int .i64 o.pri, .string ⟨o.name.toArray⟩, .bool o.left, .bool o.right] 173 (0, 0)) := by rw [hV]; exact heap_alloc_new _ _
     have HVV := Lib.hid (HVW1.out.later hbV)
     obtain ⟨p, hp⟩ : ∃ p, p = W2.heap.size := ⟨_, rfl⟩
     rw [← hp] at hp0
     rw [← hV, ← hp]
     have hpB : q < p := by have := hb2.size; have := HVW1.out.2.size; omega
     have HP0 := Lib.hid hp0
     clear hV hp hb2 hbV hp0 x0 x1 x2 x3 x4 x5
     have HP1 : Hid (∀ a2 v, WrAt v B wb bt way a2 ∧ Fr (WrS V B wb) V v → v.heap[p]? = some (.cells #[.int .i64 o.side, .int .i64 o.pri, .string ⟨o.name.toArray⟩, .bool o.left, .bool o.right] 173 (0, 0)) ∧ Hd W B wb bt way a2 v) := Lib.hid fun a2 v hv => by
      have hne : p ≠ wb := by have := HVW.out.1.lt; have := HVV.out.1; rintro rfl; obtain ⟨A, c, k1, -⟩ := this.blk; rw [HP0.out] at k1; injection k1 with k1; injection k1 with k1; exact absurd (congrArg Array.size k1) (by simp)
      exact ⟨WrS.keep hv.2 HP0.out (by decide) hne, hv.1, WrS.trans HVV.out.2 hv.2⟩
     obtain ⟨x0, x1, x2, x3, x4, x5⟩ := HSS.out _ V HVV.out
     obtain ⟨z0, z1, z2, z3, z4, -⟩ := opc_at HP0.out
     go_wp2_with fail
     refine (wadd_any V B wb bt way acc [40] HVV.out.1 (Nat.le_trans HBU.out HVV.out.2.size) (by have := HLN.out; first | omega | (simp only [List.length_cons, List.length_nil]; omega) | (simp only [List.length_append, List.length_cons, List.length_nil]; omega))).mono ?_
     rintro e W3 ⟨rfl, h1, h2⟩
     have h3 := HP1.out _ W3 ⟨h1, h2⟩
     have HVW3 := Lib.hid h3.2
     clear x0 x1 x2 x3 x4 x5 z0 z1 z2 z3 z4
     obtain ⟨z0, z1, z2, z3, z4, -⟩ := opc_at h3.1
     clear h1 h2 h3
     obtain ⟨x0, x1, x2, x3, x4, x5⟩ := HSS.out _ W3 HVW3.out
     go_wp2_with fail
     refine (HOE.out o _ W3 HOO.out HVW3.out (by simp)).mono ?_
     rintro e W4 ⟨rfl, hg⟩
     have HVW4 := Lib.hid hg
     clear x0 x1 x2 x3 x4 x5 z0 z1 z2 z3 z4 hg
     obtain ⟨x0, x1, x2, x3, x4, x5⟩ := HSS.out _ W4 HVW4.out
     go_wp2_with fail
     refine (HAD.out _ [41] W4 HVW4.out (by have h1 := HGO.out o HOO.out; have h2 := HLN.out; simp only [List.length_append, List.length_cons, List.length_nil]; omega)).mono ?_
     rintro e W5 ⟨rfl, hg⟩
     have HVW5 := Lib.hid hg
     clear x0 x1 x2 x3 x4 x5 hg
     go_wp2_with fail
     go_end0
     exact ⟨rfl, by rw [HE.out]; simpa using HVW5.out.1, HFIN.out _ HVW5.out.2⟩
    ·rw [hO] at HOP
     unfold opOut opV at HOP
     simp only [Option.getD_some, Option.isSome_some] at HOP
     have HOO := Lib.hid hO
     have HE : Hid (F = acc ++ operateF es way g o t.args) := Lib.hid (by rw [HF.out]; unfold compF; rw [if_neg HQF.out, if_neg hnb, hO]; simp only; rw [if_neg hm])
     have c1 : decide (most < o.pri) = false := decide_eq_false hm
     have HM := Lib.hid hm
     clear hO hnb hm
     obtain ⟨x0, x1, x2, x3, x4, x5⟩ := HSS.out _ W HVW.out
     go_enter Tryz.func65, Tryz.ntmps65
     go_upto_region 1 with fail
     rw [← hW, ← hq]
     clear hW hq
     go_wp2_with fail
     refine (HIS.out W HVW.out).mono ?_
     rintro e W1 ⟨rfl, hb1⟩
     have HVW1 := Lib.hid (HVW.out.later hb1)
     clear x0 x1 x2 x3 x4 x5 hb1
     obtain ⟨x0, x1, x2, x3, x4, x5⟩ := HSS.out _ W1 HVW1.out
     go_wp2_with fail
     refine (HOP.out _ W1 HVW1.out).mono ?_
     rintro e W2 ⟨rfl, hb2⟩
     go_upto_region 9 with fail
     obtain ⟨V, hV⟩ : ∃ V, V = W2.alloc (.cells #[.int .i64 o.side, .int .i64 o.pri, .string ⟨o.name.toArray⟩, .bool o.left, .bool o.right] 173) := ⟨_, rfl⟩
     have hbV : Below W1.heap.size W1 V := by rw [hV]; exact hb2.alloc hb2.size _
     have hp0 : V.heap[W2.heap.size]? = some (.cells #[.int .i64 o.side, .int .i64 o.pri, .string ⟨o.name.toArray⟩, .bool o.left, .bool o.right] 173 (0, 0)) := by rw [hV]; exact heap_alloc_new _ _
     have HVV := Lib.hid (HVW1.out.later hbV)
     obtain ⟨p, hp⟩ : ∃ p, p = W2.heap.size := ⟨_, rfl⟩
     rw [← hp] at hp0
     rw [← hV, ← hp]
     have hpB : q < p := by have := hb2.size; have := HVW1.out.2.size; omega
     have HP0 := Lib.hid hp0
     clear hV hp hb2 hbV hp0 x0 x1 x2 x3 x4 x5
     have HP1 : Hid (∀ a2 v, WrAt v B wb bt way a2 ∧ Fr (WrS V B wb) V v → v.heap[p]? = some (.cells #[.int .i64 o.side, .int .i64 o.pri, .string ⟨o.name.toArray⟩, .bool o.left, .bool o.right] 173 (0, 0)) ∧ Hd W B wb bt way a2 v) := Lib.hid fun a2 v hv => by
      have hne : p ≠ wb := by have := HVW.out.1.lt; have := HVV.out.1; rintro rfl; obtain ⟨A, c, k1, -⟩ := this.blk; rw [HP0.out] at k1; injection k1 with k1; injection k1 with k1; exact absurd (congrArg Array.size k1) (by simp)
      exact ⟨WrS.keep hv.2 HP0.out (by decide) hne, hv.1, WrS.trans HVV.out.2 hv.2⟩
     obtain ⟨x0, x1, x2, x3, x4, x5⟩ := HSS.out _ V HVV.out
     obtain ⟨z0, z1, z2, z3, z4, -⟩ := opc_at HP0.out
     go_wp2_with fail
     refine (HOE.out o _ V HOO.out HVV.out (by omega)).mono ?_
     rintro e W4 ⟨rfl, hg⟩
     have HVW4 := Lib.hid hg
     clear x0 x1 x2 x3 x4 x5 z0 z1 z2 z3 z4 hg
     go_wp2_with fail
     go_end0
     exact ⟨rfl, by rw [HE.out]; simpa using HVW4.out.1, HFIN.out _ HVW4.out.2⟩
  by_cases hs : x.s = [123, 125]
  ·by_cases hl : x.len = 1
   ·have HE : Hid (F = acc ++ [123] ++ g (t.args.getD 0 noTm) 1200 ++ [125]) := Lib.hid (by rw [HF.out]; unfold compF; rw [if_neg HQF.out, if_pos ⟨hw2, HX.out.1.trans hs, HX.out.2.1.trans hl⟩]; simp)
    have b1 : (way != 2) = true := bne_iff_ne.2 hw2
    have b1' : (way == 2) = false := beq_eq_false_iff_ne.2 hw2
    have b2 : (x.s == [123, 125]) = true := by rw [hs]; rfl
    have b3 : ((x.len : Int) == 1) = true := by rw [hl]; rfl
    have HLL : Hid (t.args.length = 1) := Lib.hid (HX.out.2.1.trans hl)
    obtain ⟨b, off, y, hA, hbW, hty⟩ := HTM.out HLL.out
    have HTY := Lib.hid hty
    rw [hA, hl] at HSS HIS hW
    rw [hA, hl]
    clear hw2 hs hl hA hty
    obtain ⟨x0, x1, x2, x3, x4, x5⟩ := HSS.out _ W HVW.out
    go_enter Tryz.func65, Tryz.ntmps65
    go_upto_region 1 with fail
    rw [← hW, ← hq]
    clear hW hq
    go_wp2_with fail
    refine (HIS.out W HVW.out).mono ?_
    rintro e W1 ⟨rfl, hb1⟩
    have HVW1 := Lib.hid (HVW.out.later hb1)
    clear x0 x1 x2 x3 x4 x5 hb1
    obtain ⟨x0, x1, x2, x3, x4, x5⟩ := HSS.out _ W1 HVW1.out
    go_wp2_with fail
    refine (HAD.out _ [123] W1 HVW1.out (by have := HLN.out; first | omega | (simp only [List.length_cons, List.length_nil]; omega) | (simp only [List.length_append, List.length_cons, List.length_nil]; omega))).mono ?_
    rintro e W2 ⟨rfl, hg⟩
    have HVW2 := Lib.hid hg
    clear x0 x1 x2 x3 x4 x5 hg
    obtain ⟨x0, x1, x2, x3, x4, x5⟩ := HSS.out _ W2 HVW2.out
    obtain ⟨⟨m0, m1, m2, m3⟩, -⟩ := HTY.out _ W2 HVW2.out
    go_wp2_with fail
    refine ((HTY.out _ W2 HVW2.out).2 (by simp)).mono ?_
    rintro e W3 ⟨rfl, hg⟩
    have HVW3 := Lib.hid hg
    clear x0 x1 x2 x3 x4 x5 m0 m1 m2 m3 hg
    obtain ⟨x0, x1, x2, x3, x4, x5⟩ := HSS.out _ W3 HVW3.out
    go_wp2_with fail
    refine (HAD.out _ [125] W3 HVW3.out (by have h1 := HG1.out HLL.out; have h2 := HLN.out; simp only [List.length_append, List.length_cons, List.length_nil]; omega)).mono ?_
    rintro e W4 ⟨rfl, hg⟩
    have HVW4 := Lib.hid hg
    clear x0 x1 x2 x3 x4 x5 hg
    go_wp2_with fail
    (try simp only [Exit.inBlock, Exit.then])
    refine bodyPost_ret (v := .tuple #[]) (by simp [results, Tryz.results65, go_sem]) rfl ?_
    exact ⟨rfl, by rw [HE.out]; simpa using HVW4.out.1, HFIN.out _ HVW4.out.2⟩
   ·have b1 : (way != 2) = true := bne_iff_ne.2 hw2
    have b1' : (way == 2) = false := beq_eq_false_iff_ne.2 hw2
    have b2 : (x.s == [123, 125]) = true := by rw [hs]; rfl
    have b3 : ((x.len : Int) == 1) = false := beq_eq_false_iff_ne.2 (by omega)
    have hnb : ¬ (way ≠ 2 ∧ t.s = [123, 125] ∧ t.args.length = 1) := fun h => hl (HX.out.2.1.symm.trans h.2.2)
    clear hw2 hs hl
    cases hO : operF es way t with
    | none =>
     rw [hO] at HOP
     have HE : Hid (F = acc ++ T ++ [40] ++ commaF g t.args ++ [41]) := Lib.hid (by rw [HF.out]; unfold compF; rw [if_neg HQF.out, if_neg hnb, hO, HX.out.2.2]; simp)
     unfold opOut opZ opV at HOP
     simp only [Option.getD_none, Option.isSome_none] at HOP
     clear hO hnb
     obtain ⟨x0, x1, x2, x3, x4, x5⟩ := HSS.out _ W HVW.out
     go_enter Tryz.func65, Tryz.ntmps65
     go_upto_region 1 with fail
     rw [← hW, ← hq]
     clear hW hq
     go_wp2_with fail
     refine (HIS.out W HVW.out).mono ?_
     rintro e W1 ⟨rfl, hb1⟩
     have HVW1 := Lib.hid (HVW.out.later hb1)
     clear x0 x1 x2 x3 x4 x5 hb1
     obtain ⟨x0, x1, x2, x3, x4, x5⟩ := HSS.out _ W1 HVW1.out
     go_wp2_with fail
     refine (HOP.out _ W1 HVW1.out).mono ?_
     rintro e W2 ⟨rfl, hb2⟩
     go_upto_region 9 with fail
     obtain ⟨V, hV⟩ : ∃ V, V = W2.alloc (.cells #[.int .i64 0, .int .i64 0, .string ⟨#[]⟩, .bool false, .bool false] 173) := ⟨_, rfl⟩
     have hbV : Below W1.heap.size W1 V := by rw [hV]; exact hb2.alloc hb2.size _
     have hp0 : V.heap[W2.heap.size]? = some (.cells #[.int .i64 0, .int .i64 0, .string ⟨#[]⟩, .bool false, .bool false] 173 (0, 0)) := by rw [hV]; exact heap_alloc_new _ _
     have HVV := Lib.hid (HVW1.out.later hbV)
     obtain ⟨p, hp⟩ : ∃ p, p = W2.heap.size := ⟨_, rfl⟩
     rw [← hp] at hp0
     rw [← hV, ← hp]
     have hpB : q < p := by have := hb2.size; have := HVW1.out.2.size; omega
     have HP0 := Lib.hid hp0
     clear hV hp hb2 hbV hp0 x0 x1 x2 x3 x4 x5
     obtain ⟨x0, x1, x2, x3, x4, x5⟩ := HSS.out _ V HVV.out
     go_wp2_with fail
     have hbr := Below.refl V.heap.size V
     have hbd : Below V.heap.size V V.drew := (Below.refl V.heap.size V).drew
     have HSV : Hid (∀ v, Below V.heap.size V v → v.cell? ⟨wb, 3, none⟩ = some (.func (.func 32) #[.pointer (some ⟨wb, 0, none⟩)] #[]) ∧ v.cell? ⟨wb, 1, none⟩ = some (.int .i64 way) ∧ v.cell? ⟨q, 0, none⟩ = some (.int .i64 x.k) ∧ v.cell? ⟨q, 1, none⟩ = some (.int .i64 x.n) ∧ v.cell? ⟨q, 2, none⟩ = some (.string ⟨x.s.toArray⟩) ∧ v.cell? ⟨q, 3, none⟩ = some (.slice x.A x.len x.cap)) := Lib.hid fun v hv => HSS.out _ v (HVV.out.later hv)
     have HTV : Hid (∀ v, Below V.heap.size V v → Calls Tryz.prog 64 #[.pointer (some ⟨wb, 0, none⟩), .string ⟨x.s.toArray⟩] v fun e v' => e = .returned (.string ⟨T.toArray⟩) ∧ Below V.heap.size V v') := Lib.hid fun v hv => HTX.out _ _ _ HVV.out hv
     have HAV : Hid (∀ v, Below V.heap.size V v → Calls Tryz.prog 32 #[.pointer (some ⟨wb, 0, none⟩), .string ⟨T.toArray⟩] v fun e v' => e = .returned (.tuple #[]) ∧ Hd W B wb bt way (acc ++ T) v') := Lib.hid fun v hv => HAD.out _ T v (HVV.out.later hv) (by have := HLN.out; first | omega | (simp only [List.length_cons, List.length_nil]; omega) | (simp only [List.length_append, List.length_cons, List.length_nil]; omega))
     go_region_held3 (fun v => v.cell? ⟨wb, 3, none⟩ = some (.func (.func 32) #[.pointer (some ⟨wb, 0, none⟩)] #[]) ∧ v.cell? ⟨wb, 1, none⟩ = some (.int .i64 way) ∧ v.cell? ⟨q, 0, none⟩ = some (.int .i64 x.k) ∧ v.cell? ⟨q, 1, none⟩ = some (.int .i64 x.n) ∧ v.cell? ⟨q, 2, none⟩ = some (.string ⟨x.s.toArray⟩) ∧ v.cell? ⟨q, 3, none⟩ = some (.slice x.A x.len x.cap))
      (first | (with_reducible exact HSV.out _ (by assumption)) | (with_reducible exact HSS.out _ _ (by assumption)))
      (first | (go_at_call 64; with_reducible refine (HTV.out _ (by assumption)).mono ?_; rintro e v1 ⟨rfl, hb1⟩) | (go_at_call 32; with_reducible refine (HAV.out _ (by assumption)).mono ?_; rintro e W3 ⟨rfl, hg⟩))
     have HVW3 := Lib.hid hg
     clear x0 x1 x2 x3 x4 x5 hbr hbd HSV HTV HAV hg
     obtain ⟨x0, x1, x2, x3, x4, x5⟩ := HSS.out _ W3 HVW3.out
     go_wp2_with fail
     refine (HAD.out _ [40] W3 HVW3.out (by have := HLN.out; first | omega | (simp only [List.length_cons, List.length_nil]; omega) | (simp only [List.length_append, List.length_cons, List.length_nil]; omega))).mono ?_
     rintro e W4 ⟨rfl, hg⟩
     have HVW4 := Lib.hid hg
     clear x0 x1 x2 x3 x4 x5 hg
     obtain ⟨x0, x1, x2, x3, x4, x5⟩ := HSS.out _ W4 HVW4.out
     go_wp2_with fail
     refine (HIT.out _ W4 HVW4.out (by have := HLN.out; first | omega | (simp only [List.length_cons, List.length_nil]; omega) | (simp only [List.length_append, List.length_cons, List.length_nil]; omega))).mono ?_
     rintro e W5 ⟨rfl, hg⟩
     have HVW5 := Lib.hid hg
     clear x0 x1 x2 x3 x4 x5 hg
     obtain ⟨x0, x1, x2, x3, x4, x5⟩ := HSS.out _ W5 HVW5.out
     go_wp2_with fail
     refine (HAD.out _ [41] W5 HVW5.out (by have h1 := HGC.out; have h2 := HLN.out; simp only [List.length_append, List.length_cons, List.length_nil]; omega)).mono ?_
     rintro e W6 ⟨rfl, hg⟩
     have HVW6 := Lib.hid hg
     clear x0 x1 x2 x3 x4 x5 hg
     go_wp2_with fail
     go_end0
     exact ⟨rfl, by rw [HE.out]; simpa using HVW6.out.1, HFIN.out _ HVW6.out.2⟩
    | some o =>
     by_cases hm : most < o.pri
     ·rw [hO] at HOP
      unfold opOut opV at HOP
      simp only [Option.getD_some, Option.isSome_some] at HOP
      have HOO := Lib.hid hO
      have HE : Hid (F = acc ++ [40] ++ operateF es way g o t.args ++ [41]) := Lib.hid (by rw [HF.out]; unfold compF; rw [if_neg HQF.out, if_neg hnb, hO]; simp only; rw [if_pos hm]; simp)
      have c1 : decide (most < o.pri) = true := decide_eq_true hm
      have HM := Lib.hid hm
      clear hO hnb hm
      obtain ⟨x0, x1, x2, x3, x4, x5⟩ := HSS.out _ W HVW.out
      go_enter Tryz.func65, Tryz.ntmps65
      go_upto_region 1 with fail
      rw [← hW, ← hq]
      clear hW hq
      go_wp2_with fail
      refine (HIS.out W HVW.out).mono ?_
      rintro e W1 ⟨rfl, hb1⟩
      have HVW1 := Lib.hid (HVW.out.later hb1)
      clear x0 x1 x2 x3 x4 x5 hb1
      obtain ⟨x0, x1, x2, x3, x4, x5⟩ := HSS.out _ W1 HVW1.out
      go_wp2_with fail
      refine (HOP.out _ W1 HVW1.out).mono ?_
      rintro e W2 ⟨rfl, hb2⟩
      go_upto_region 9 with fail
      obtain ⟨V, hV⟩ : ∃ V, V = W2.alloc (.cells #[.int .i64 o.side, .int .i64 o.pri, .string ⟨o.name.toArray⟩, .bool o.left, .bool o.right] 173) := ⟨_, rfl⟩
      have hbV : Below W1.heap.size W1 V := by rw [hV]; exact hb2.alloc hb2.size _
      have hp0 : V.heap[W2.heap.size]? = some (.cells #[.int .i64 o.side, .int .i64 o.pri, .string ⟨o.name.toArray⟩, .bool o.left, .bool o.right] 173 (0, 0)) := by rw [hV]; exact heap_alloc_new _ _
      have HVV := Lib.hid (HVW1.out.later hbV)
      obtain ⟨p, hp⟩ : ∃ p, p = W2.heap.size := ⟨_, rfl⟩
      rw [← hp] at hp0
      rw [← hV, ← hp]
      have hpB : q < p := by have := hb2.size; have := HVW1.out.2.size; omega
      have HP0 := Lib.hid hp0
      clear hV hp hb2 hbV hp0 x0 x1 x2 x3 x4 x5
      have HP1 : Hid (∀ a2 v, WrAt v B wb bt way a2 ∧ Fr (WrS V B wb) V v → v.heap[p]? = some (.cells #[.int .i64 o.side, .int .i64 o.pri, .string ⟨o.name.toArray⟩, .bool o.left, .bool o.right] 173 (0, 0)) ∧ Hd W B wb bt way a2 v) := Lib.hid fun a2 v hv => by
       have hne : p ≠ wb := by have := HVW.out.1.lt; have := HVV.out.1; rintro rfl; obtain ⟨A, c, k1, -⟩ := this.blk; rw [HP0.out] at k1; injection k1 with k1; injection k1 with k1; exact absurd (congrArg Array.size k1) (by simp)
       exact ⟨WrS.keep hv.2 HP0.out (by decide) hne, hv.1, WrS.trans HVV.out.2 hv.2⟩
      obtain ⟨x0, x1, x2, x3, x4, x5⟩ := HSS.out _ V HVV.out
      obtain ⟨z0, z1, z2, z3, z4, -⟩ := opc_at HP0.out
      go_wp2_with fail
      refine (wadd_any V B wb bt way acc [40] HVV.out.1 (Nat.le_trans HBU.out HVV.out.2.size) (by have := HLN.out; first | omega | (simp only [List.length_cons, List.length_nil]; omega) | (simp only [List.length_append, List.length_cons, List.length_nil]; omega))).mono ?_
      rintro e W3 ⟨rfl, h1, h2⟩
      have h3 := HP1.out _ W3 ⟨h1, h2⟩
      have HVW3 := Lib.hid h3.2
      clear x0 x1 x2 x3 x4 x5 z0 z1 z2 z3 z4
      obtain ⟨z0, z1, z2, z3, z4, -⟩ := opc_at h3.1
      clear h1 h2 h3
      obtain ⟨x0, x1, x2, x3, x4, x5⟩ := HSS.out _ W3 HVW3.out
      go_wp2_with fail
      refine (HOE.out o _ W3 HOO.out HVW3.out (by simp)).mono ?_
      rintro e W4 ⟨rfl, hg⟩
      have HVW4 := Lib.hid hg
      clear x0 x1 x2 x3 x4 x5 z0 z1 z2 z3 z4 hg
      obtain ⟨x0, x1, x2, x3, x4, x5⟩ := HSS.out _ W4 HVW4.out
      go_wp2_with fail
      refine (HAD.out _ [41] W4 HVW4.out (by have h1 := HGO.out o HOO.out; have h2 := HLN.out; simp only [List.length_append, List.length_cons, List.length_nil]; omega)).mono ?_
      rintro e W5 ⟨rfl, hg⟩
      have HVW5 := Lib.hid hg
      clear x0 x1 x2 x3 x4 x5 hg
      go_wp2_with fail
      go_end0
      exact ⟨rfl, by rw [HE.out]; simpa using HVW5.out.1, HFIN.out _ HVW5.out.2⟩
     ·rw [hO] at HOP
      unfold opOut opV at HOP
      simp only [Option.getD_some, Option.isSome_some] at HOP
      have HOO := Lib.hid hO
      have HE : Hid (F = acc ++ operateF es way g o t.args) := Lib.hid (by rw [HF.out]; unfold compF; rw [if_neg HQF.out, if_neg hnb, hO]; simp only; rw [if_neg hm])
      have c1 : decide (most < o.pri) = false := decide_eq_false hm
      have HM := Lib.hid hm
      clear hO hnb hm
      obtain ⟨x0, x1, x2, x3, x4, x5⟩ := HSS.out _ W HVW.out
      go_enter Tryz.func65, Tryz.ntmps65
      go_upto_region 1 with fail
      rw [← hW, ← hq]
      clear hW hq
      go_wp2_with fail
      refine (HIS.out W HVW.out).mono ?_
      rintro e W1 ⟨rfl, hb1⟩
      have HVW1 := Lib.hid (HVW.out.later hb1)
      clear x0 x1 x2 x3 x4 x5 hb1
      obtain ⟨x0, x1, x2, x3, x4, x5⟩ := HSS.out _ W1 HVW1.out
      go_wp2_with fail
      refine (HOP.out _ W1 HVW1.out).mono ?_
      rintro e W2 ⟨rfl, hb2⟩
      go_upto_region 9 with fail
      obtain ⟨V, hV⟩ : ∃ V, V = W2.alloc (.cells #[.int .i64 o.side, .int .i64 o.pri, .string ⟨o.name.toArray⟩, .bool o.left, .bool o.right] 173) := ⟨_, rfl⟩
      have hbV : Below W1.heap.size W1 V := by rw [hV]; exact hb2.alloc hb2.size _
      have hp0 : V.heap[W2.heap.size]? = some (.cells #[.int .i64 o.side, .int .i64 o.pri, .string ⟨o.name.toArray⟩, .bool o.left, .bool o.right] 173 (0, 0)) := by rw [hV]; exact heap_alloc_new _ _
      have HVV := Lib.hid (HVW1.out.later hbV)
      obtain ⟨p, hp⟩ : ∃ p, p = W2.heap.size := ⟨_, rfl⟩
      rw [← hp] at hp0
      rw [← hV, ← hp]
      have hpB : q < p := by have := hb2.size; have := HVW1.out.2.size; omega
      have HP0 := Lib.hid hp0
      clear hV hp hb2 hbV hp0 x0 x1 x2 x3 x4 x5
      have HP1 : Hid (∀ a2 v, WrAt v B wb bt way a2 ∧ Fr (WrS V B wb) V v → v.heap[p]? = some (.cells #[.int .i64 o.side, .int .i64 o.pri, .string ⟨o.name.toArray⟩, .bool o.left, .bool o.right] 173 (0, 0)) ∧ Hd W B wb bt way a2 v) := Lib.hid fun a2 v hv => by
       have hne : p ≠ wb := by have := HVW.out.1.lt; have := HVV.out.1; rintro rfl; obtain ⟨A, c, k1, -⟩ := this.blk; rw [HP0.out] at k1; injection k1 with k1; injection k1 with k1; exact absurd (congrArg Array.size k1) (by simp)
       exact ⟨WrS.keep hv.2 HP0.out (by decide) hne, hv.1, WrS.trans HVV.out.2 hv.2⟩
      obtain ⟨x0, x1, x2, x3, x4, x5⟩ := HSS.out _ V HVV.out
      obtain ⟨z0, z1, z2, z3, z4, -⟩ := opc_at HP0.out
      go_wp2_with fail
      refine (HOE.out o _ V HOO.out HVV.out (by omega)).mono ?_
      rintro e W4 ⟨rfl, hg⟩
      have HVW4 := Lib.hid hg
      clear x0 x1 x2 x3 x4 x5 z0 z1 z2 z3 z4 hg
      go_wp2_with fail
      go_end0
      exact ⟨rfl, by rw [HE.out]; simpa using HVW4.out.1, HFIN.out _ HVW4.out.2⟩
  ·have b1 : (way != 2) = true := bne_iff_ne.2 hw2
   have b1' : (way == 2) = false := beq_eq_false_iff_ne.2 hw2
   have b2 : (x.s == [123, 125]) = false := beq_eq_false_iff_ne.2 hs
   have hnb : ¬ (way ≠ 2 ∧ t.s = [123, 125] ∧ t.args.length = 1) := fun h => hs (HX.out.1.symm.trans h.2.1)
   clear hw2 hs
   cases hO : operF es way t with
   | none =>
    rw [hO] at HOP
    have HE : Hid (F = acc ++ T ++ [40] ++ commaF g t.args ++ [41]) := Lib.hid (by rw [HF.out]; unfold compF; rw [if_neg HQF.out, if_neg hnb, hO, HX.out.2.2]; simp)
    unfold opOut opZ opV at HOP
    simp only [Option.getD_none, Option.isSome_none] at HOP
    clear hO hnb
    obtain ⟨x0, x1, x2, x3, x4, x5⟩ := HSS.out _ W HVW.out
    go_enter Tryz.func65, Tryz.ntmps65
    go_upto_region 1 with fail
    rw [← hW, ← hq]
    clear hW hq
    go_wp2_with fail
    refine (HIS.out W HVW.out).mono ?_
    rintro e W1 ⟨rfl, hb1⟩
    have HVW1 := Lib.hid (HVW.out.later hb1)
    clear x0 x1 x2 x3 x4 x5 hb1
    obtain ⟨x0, x1, x2, x3, x4, x5⟩ := HSS.out _ W1 HVW1.out
    go_wp2_with fail
    refine (HOP.out _ W1 HVW1.out).mono ?_
    rintro e W2 ⟨rfl, hb2⟩
    go_upto_region 9 with fail
    obtain ⟨V, hV⟩ : ∃ V, V = W2.alloc (.cells #[.int .i64 0, .int .i64 0, .string ⟨#[]⟩, .bool false, .bool false] 173) := ⟨_, rfl⟩
    have hbV : Below W1.heap.size W1 V := by rw [hV]; exact hb2.alloc hb2.size _
    have hp0 : V.heap[W2.heap.size]? = some (.cells #[.int .i64 0, .int .i64 0, .string ⟨#[]⟩, .bool false, .bool false] 173 (0, 0)) := by rw [hV]; exact heap_alloc_new _ _
    have HVV := Lib.hid (HVW1.out.later hbV)
    obtain ⟨p, hp⟩ : ∃ p, p = W2.heap.size := ⟨_, rfl⟩
    rw [← hp] at hp0
    rw [← hV, ← hp]
    have hpB : q < p := by have := hb2.size; have := HVW1.out.2.size; omega
    have HP0 := Lib.hid hp0
    clear hV hp hb2 hbV hp0 x0 x1 x2 x3 x4 x5
    obtain ⟨x0, x1, x2, x3, x4, x5⟩ := HSS.out _ V HVV.out
    go_wp2_with fail
    have hbr := Below.refl V.heap.size V
    have hbd : Below V.heap.size V V.drew := (Below.refl V.heap.size V).drew
    have HSV : Hid (∀ v, Below V.heap.size V v → v.cell? ⟨wb, 3, none⟩ = some (.func (.func 32) #[.pointer (some ⟨wb, 0, none⟩)] #[]) ∧ v.cell? ⟨wb, 1, none⟩ = some (.int .i64 way) ∧ v.cell? ⟨q, 0, none⟩ = some (.int .i64 x.k) ∧ v.cell? ⟨q, 1, none⟩ = some (.int .i64 x.n) ∧ v.cell? ⟨q, 2, none⟩ = some (.string ⟨x.s.toArray⟩) ∧ v.cell? ⟨q, 3, none⟩ = some (.slice x.A x.len x.cap)) := Lib.hid fun v hv => HSS.out _ v (HVV.out.later hv)
    have HTV : Hid (∀ v, Below V.heap.size V v → Calls Tryz.prog 64 #[.pointer (some ⟨wb, 0, none⟩), .string ⟨x.s.toArray⟩] v fun e v' => e = .returned (.string ⟨T.toArray⟩) ∧ Below V.heap.size V v') := Lib.hid fun v hv => HTX.out _ _ _ HVV.out hv
    have HAV : Hid (∀ v, Below V.heap.size V v → Calls Tryz.prog 32 #[.pointer (some ⟨wb, 0, none⟩), .string ⟨T.toArray⟩] v fun e v' => e = .returned (.tuple #[]) ∧ Hd W B wb bt way (acc ++ T) v') := Lib.hid fun v hv => HAD.out _ T v (HVV.out.later hv) (by have := HLN.out; first | omega | (simp only [List.length_cons, List.length_nil]; omega) | (simp only [List.length_append, List.length_cons, List.length_nil]; omega))
    go_region_held3 (fun v => v.cell? ⟨wb, 3, none⟩ = some (.func (.func 32) #[.pointer (some ⟨wb, 0, none⟩)] #[]) ∧ v.cell? ⟨wb, 1, none⟩ = some (.int .i64 way) ∧ v.cell? ⟨q, 0, none⟩ = some (.int .i64 x.k) ∧ v.cell? ⟨q, 1, none⟩ = some (.int .i64 x.n) ∧ v.cell? ⟨q, 2, none⟩ = some (.string ⟨x.s.toArray⟩) ∧ v.cell? ⟨q, 3, none⟩ = some (.slice x.A x.len x.cap))
     (first | (with_reducible exact HSV.out _ (by assumption)) | (with_reducible exact HSS.out _ _ (by assumption)))
     (first | (go_at_call 64; with_reducible refine (HTV.out _ (by assumption)).mono ?_; rintro e v1 ⟨rfl, hb1⟩) | (go_at_call 32; with_reducible refine (HAV.out _ (by assumption)).mono ?_; rintro e W3 ⟨rfl, hg⟩))
    have HVW3 := Lib.hid hg
    clear x0 x1 x2 x3 x4 x5 hbr hbd HSV HTV HAV hg
    obtain ⟨x0, x1, x2, x3, x4, x5⟩ := HSS.out _ W3 HVW3.out
    go_wp2_with fail
    refine (HAD.out _ [40] W3 HVW3.out (by have := HLN.out; first | omega | (simp only [List.length_cons, List.length_nil]; omega) | (simp only [List.length_append, List.length_cons, List.length_nil]; omega))).mono ?_
    rintro e W4 ⟨rfl, hg⟩
    have HVW4 := Lib.hid hg
    clear x0 x1 x2 x3 x4 x5 hg
    obtain ⟨x0, x1, x2, x3, x4, x5⟩ := HSS.out _ W4 HVW4.out
    go_wp2_with fail
    refine (HIT.out _ W4 HVW4.out (by have := HLN.out; first | omega | (simp only [List.length_cons, List.length_nil]; omega) | (simp only [List.length_append, List.length_cons, List.length_nil]; omega))).mono ?_
    rintro e W5 ⟨rfl, hg⟩
    have HVW5 := Lib.hid hg
    clear x0 x1 x2 x3 x4 x5 hg
    obtain ⟨x0, x1, x2, x3, x4, x5⟩ := HSS.out _ W5 HVW5.out
    go_wp2_with fail
    refine (HAD.out _ [41] W5 HVW5.out (by have h1 := HGC.out; have h2 := HLN.out; simp only [List.length_append, List.length_cons, List.length_nil]; omega)).mono ?_
    rintro e W6 ⟨rfl, hg⟩
    have HVW6 := Lib.hid hg
    clear x0 x1 x2 x3 x4 x5 hg
    go_wp2_with fail
    go_end0
    exact ⟨rfl, by rw [HE.out]; simpa using HVW6.out.1, HFIN.out _ HVW6.out.2⟩
   | some o =>
    by_cases hm : most < o.pri
    ·rw [hO] at HOP
     unfold opOut opV at HOP
     simp only [Option.getD_some, Option.isSome_some] at HOP
     have HOO := Lib.hid hO
     have HE : Hid (F = acc ++ [40] ++ operateF es way g o t.args ++ [41]) := Lib.hid (by rw [HF.out]; unfold compF; rw [if_neg HQF.out, if_neg hnb, hO]; simp only; rw [if_pos hm]; simp)
     have c1 : decide (most < o.pri) = true := decide_eq_true hm
     have HM := Lib.hid hm
     clear hO hnb hm
     obtain ⟨x0, x1, x2, x3, x4, x5⟩ := HSS.out _ W HVW.out
     go_enter Tryz.func65, Tryz.ntmps65
     go_upto_region 1 with fail
     rw [← hW, ← hq]
     clear hW hq
     go_wp2_with fail
     refine (HIS.out W HVW.out).mono ?_
     rintro e W1 ⟨rfl, hb1⟩
     have HVW1 := Lib.hid (HVW.out.later hb1)
     clear x0 x1 x2 x3 x4 x5 hb1
     obtain ⟨x0, x1, x2, x3, x4, x5⟩ := HSS.out _ W1 HVW1.out
     go_wp2_with fail
     refine (HOP.out _ W1 HVW1.out).mono ?_
     rintro e W2 ⟨rfl, hb2⟩
     go_upto_region 9 with fail
     obtain ⟨V, hV⟩ : ∃ V, V = W2.alloc (.cells #[.int .i64 o.side, .int .i64 o.pri, .string ⟨o.name.toArray⟩, .bool o.left, .bool o.right] 173) := ⟨_, rfl⟩
     have hbV : Below W1.heap.size W1 V := by rw [hV]; exact hb2.alloc hb2.size _
     have hp0 : V.heap[W2.heap.size]? = some (.cells #[.int .i64 o.side, .int .i64 o.pri, .string ⟨o.name.toArray⟩, .bool o.left, .bool o.right] 173 (0, 0)) := by rw [hV]; exact heap_alloc_new _ _
     have HVV := Lib.hid (HVW1.out.later hbV)
     obtain ⟨p, hp⟩ : ∃ p, p = W2.heap.size := ⟨_, rfl⟩
     rw [← hp] at hp0
     rw [← hV, ← hp]
     have hpB : q < p := by have := hb2.size; have := HVW1.out.2.size; omega
     have HP0 := Lib.hid hp0
     clear hV hp hb2 hbV hp0 x0 x1 x2 x3 x4 x5
     have HP1 : Hid (∀ a2 v, WrAt v B wb bt way a2 ∧ Fr (WrS V B wb) V v → v.heap[p]? = some (.cells #[.int .i64 o.side, .int .i64 o.pri, .string ⟨o.name.toArray⟩, .bool o.left, .bool o.right] 173 (0, 0)) ∧ Hd W B wb bt way a2 v) := Lib.hid fun a2 v hv => by
      have hne : p ≠ wb := by have := HVW.out.1.lt; have := HVV.out.1; rintro rfl; obtain ⟨A, c, k1, -⟩ := this.blk; rw [HP0.out] at k1; injection k1 with k1; injection k1 with k1; exact absurd (congrArg Array.size k1) (by simp)
      exact ⟨WrS.keep hv.2 HP0.out (by decide) hne, hv.1, WrS.trans HVV.out.2 hv.2⟩
     obtain ⟨x0, x1, x2, x3, x4, x5⟩ := HSS.out _ V HVV.out
     obtain ⟨z0, z1, z2, z3, z4, -⟩ := opc_at HP0.out
     go_wp2_with fail
     refine (wadd_any V B wb bt way acc [40] HVV.out.1 (Nat.le_trans HBU.out HVV.out.2.size) (by have := HLN.out; first | omega | (simp only [List.length_cons, List.length_nil]; omega) | (simp only [List.length_append, List.length_cons, List.length_nil]; omega))).mono ?_
     rintro e W3 ⟨rfl, h1, h2⟩
     have h3 := HP1.out _ W3 ⟨h1, h2⟩
     have HVW3 := Lib.hid h3.2
     clear x0 x1 x2 x3 x4 x5 z0 z1 z2 z3 z4
     obtain ⟨z0, z1, z2, z3, z4, -⟩ := opc_at h3.1
     clear h1 h2 h3
     obtain ⟨x0, x1, x2, x3, x4, x5⟩ := HSS.out _ W3 HVW3.out
     go_wp2_with fail
     refine (HOE.out o _ W3 HOO.out HVW3.out (by simp)).mono ?_
     rintro e W4 ⟨rfl, hg⟩
     have HVW4 := Lib.hid hg
     clear x0 x1 x2 x3 x4 x5 z0 z1 z2 z3 z4 hg
     obtain ⟨x0, x1, x2, x3, x4, x5⟩ := HSS.out _ W4 HVW4.out
     go_wp2_with fail
     refine (HAD.out _ [41] W4 HVW4.out (by have h1 := HGO.out o HOO.out; have h2 := HLN.out; simp only [List.length_append, List.length_cons, List.length_nil]; omega)).mono ?_
     rintro e W5 ⟨rfl, hg⟩
     have HVW5 := Lib.hid hg
     clear x0 x1 x2 x3 x4 x5 hg
     go_wp2_with fail
     go_end0
     exact ⟨rfl, by rw [HE.out]; simpa using HVW5.out.1, HFIN.out _ HVW5.out.2⟩
    ·rw [hO] at HOP
     unfold opOut opV at HOP
     simp only [Option.getD_some, Option.isSome_some] at HOP
     have HOO := Lib.hid hO
     have HE : Hid (F = acc ++ operateF es way g o t.args) := Lib.hid (by rw [HF.out]; unfold compF; rw [if_neg HQF.out, if_neg hnb, hO]; simp only; rw [if_neg hm])
     have c1 : decide (most < o.pri) = false := decide_eq_false hm
     have HM := Lib.hid hm
     clear hO hnb hm
     obtain ⟨x0, x1, x2, x3, x4, x5⟩ := HSS.out _ W HVW.out
     go_enter Tryz.func65, Tryz.ntmps65
     go_upto_region 1 with fail
     rw [← hW, ← hq]
     clear hW hq
     go_wp2_with fail
     refine (HIS.out W HVW.out).mono ?_
     rintro e W1 ⟨rfl, hb1⟩
     have HVW1 := Lib.hid (HVW.out.later hb1)
     clear x0 x1 x2 x3 x4 x5 hb1
     obtain ⟨x0, x1, x2, x3, x4, x5⟩ := HSS.out _ W1 HVW1.out
     go_wp2_with fail
     refine (HOP.out _ W1 HVW1.out).mono ?_
     rintro e W2 ⟨rfl, hb2⟩
     go_upto_region 9 with fail
     obtain ⟨V, hV⟩ : ∃ V, V = W2.alloc (.cells #[.int .i64 o.side, .int .i64 o.pri, .string ⟨o.name.toArray⟩, .bool o.left, .bool o.right] 173) := ⟨_, rfl⟩
     have hbV : Below W1.heap.size W1 V := by rw [hV]; exact hb2.alloc hb2.size _
     have hp0 : V.heap[W2.heap.size]? = some (.cells #[.int .i64 o.side, .int .i64 o.pri, .string ⟨o.name.toArray⟩, .bool o.left, .bool o.right] 173 (0, 0)) := by rw [hV]; exact heap_alloc_new _ _
     have HVV := Lib.hid (HVW1.out.later hbV)
     obtain ⟨p, hp⟩ : ∃ p, p = W2.heap.size := ⟨_, rfl⟩
     rw [← hp] at hp0
     rw [← hV, ← hp]
     have hpB : q < p := by have := hb2.size; have := HVW1.out.2.size; omega
     have HP0 := Lib.hid hp0
     clear hV hp hb2 hbV hp0 x0 x1 x2 x3 x4 x5
     have HP1 : Hid (∀ a2 v, WrAt v B wb bt way a2 ∧ Fr (WrS V B wb) V v → v.heap[p]? = some (.cells #[.int .i64 o.side, .int .i64 o.pri, .string ⟨o.name.toArray⟩, .bool o.left, .bool o.right] 173 (0, 0)) ∧ Hd W B wb bt way a2 v) := Lib.hid fun a2 v hv => by
      have hne : p ≠ wb := by have := HVW.out.1.lt; have := HVV.out.1; rintro rfl; obtain ⟨A, c, k1, -⟩ := this.blk; rw [HP0.out] at k1; injection k1 with k1; injection k1 with k1; exact absurd (congrArg Array.size k1) (by simp)
      exact ⟨WrS.keep hv.2 HP0.out (by decide) hne, hv.1, WrS.trans HVV.out.2 hv.2⟩
     obtain ⟨x0, x1, x2, x3, x4, x5⟩ := HSS.out _ V HVV.out
     obtain ⟨z0, z1, z2, z3, z4, -⟩ := opc_at HP0.out
     go_wp2_with fail
     refine (HOE.out o _ V HOO.out HVV.out (by omega)).mono ?_
     rintro e W4 ⟨rfl, hg⟩
     have HVW4 := Lib.hid hg
     clear x0 x1 x2 x3 x4 x5 z0 z1 z2 z3 z4 hg
     go_wp2_with fail
     go_end0
     exact ⟨rfl, by rw [HE.out]; simpa using HVW4.out.1, HFIN.out _ HVW4.out.2⟩
end Go.Proofs.YtcallkljcjimiaaGreatDoor
