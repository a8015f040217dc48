import Derived.Test.YtcallkljcjimiaaGreatDoorJW14
import Derived.Test.YtcallkljcjimiaaGreatDoorJW13
import Derived.Deep.Cut
import Derived.Deep.CutRange
import Derived.Deep.DeepCutAuto
namespace Go.Proofs.YtcallkljcjimiaaGreatDoor
open Go.RowKit Go.Maps
set_option maxRecDepth 100000
structure SlTerms (u : World) (A : Option Addr) (n : Nat) (xs : List TV) : Prop where
 len : xs.length = n
 at' : ∀ (i : Nat) (y : TV), xs[i]? = some y → ∃ b off, A = some ⟨b, off, none⟩ ∧ b < u.heap.size ∧ ∀ (j : Nat) x, (encTV y)[j]? = some x → u.cell? ⟨b, off + i * 4 + j, none⟩ = some x
theorem SlTerms.later {u u' : World} {A : Option Addr} {n : Nat} {xs : List TV} (h : SlTerms u A n xs) (hb : Below u.heap.size u u') : SlTerms u' A n xs :=
 ⟨h.len, fun i y hy => by
  obtain ⟨b, off, e1, e2, e3⟩ := h.at' i y hy
  exact ⟨b, off, e1, Nat.lt_of_lt_of_le e2 hb.size, fun j x hx => (hb.cell (p := ⟨b, off + i * 4 + j, none⟩) e2).trans (e3 j x hx)⟩⟩
theorem SlTerms.row {u : World} {B n c : Nat} {A : Option Addr} {xs : List TV} (h : Row u B 28 4 encTV (.slice A n c) xs) : SlTerms u A n xs := by
 refine ⟨h.len.symm, fun i y hy => ?_⟩
 obtain ⟨g, cap, e1, _, hg, _, hc⟩ := h.cells encTV_len (by rintro rfl; cases hy)
 injection e1 with e1 e2 e3
 exact ⟨g, 0, e1, hg, fun j x hx => by rw [Nat.zero_add]; exact (hc i y hy j x hx).1⟩
theorem SOf.later {u u' : World} {L : List Nat} (hb : Below u.heap.size u u') (b : Nat) (h : SOf u L b) : SOf u' L b ∧ u'.heap[b]? = u.heap[b]? :=
 ⟨⟨h.1.keep (hb.block b h.1.lt), h.2⟩, hb.block b h.1.lt⟩
theorem four_at {w1 : World} {b : Nat} {a0 a1 a2 a3 : Value} {t : TypeId} (h : w1.heap[b]? = some (.cells #[a0, a1, a2, a3] t (0, 0))) :
    w1.cell? ⟨b, 0, none⟩ = some a0 ∧ w1.cell? ⟨b, 1, none⟩ = some a1 ∧ w1.cell? ⟨b, 2, none⟩ = some a2 ∧ w1.cell? ⟨b, 3, none⟩ = some a3 ∧ (∀ o, w1.frozen? ⟨b, o, none⟩ = false) :=
 ⟨by rw [cell_of_row w1 b 0 _ t (0, 0) h]; rfl, by rw [cell_of_row w1 b 1 _ t (0, 0) h]; rfl, by rw [cell_of_row w1 b 2 _ t (0, 0) h]; rfl, by rw [cell_of_row w1 b 3 _ t (0, 0) h]; rfl, fun o => by simp [World.frozen?, h]⟩
theorem listT_cons (t : Tm) (l : List Tm) (tl : Tm) : listT (t :: l) tl = compT [46] [t, listT l tl] := rfl
theorem blk_set4 {w : World} {b : Nat} {cs : Array Value} {t : TypeId} (h : w.heap[b]? = some (.cells cs t (0, 0))) (hs : cs.size = 4) (a0 a1 a2 a3 : Value) :
    ((((w.setCell ⟨b, 0, none⟩ a0).setCell ⟨b, 1, none⟩ a1).setCell ⟨b, 2, none⟩ a2).setCell ⟨b, 3, none⟩ a3).heap[b]? = some (.cells #[a0, a1, a2, a3] t (0, 0)) := by
 rw [blk_put (blk_put (blk_put (blk_put h a0) a1) a2) a3]
 obtain ⟨l⟩ := cs
 obtain _ | ⟨x0, _ | ⟨x1, _ | ⟨x2, _ | ⟨x3, _ | ⟨x4, r⟩⟩⟩⟩⟩ := l <;> simp at hs ⊢
theorem blk_set4_ne {w : World} {b k : Nat} (a0 a1 a2 a3 : Value) (h : k ≠ b) :
    ((((w.setCell ⟨b, 0, none⟩ a0).setCell ⟨b, 1, none⟩ a1).setCell ⟨b, 2, none⟩ a2).setCell ⟨b, 3, none⟩ a3).heap[k]? = w.heap[k]? := by
 rw [Below.heap_setCell _ _ _ _ h, Below.heap_setCell _ _ _ _ h, Below.heap_setCell _ _ _ _ h, Below.heap_setCell _ _ _ _ h]
structure LInv (u : World) (L : List Nat) (l : List Tm) (tl : Tm) (a : Nat) (wr : World) (y' : TV) : Prop where
 t : TermS wr (SOf wr ((u.heap.size + 1) :: (u.heap.size + 2) :: L)) y' (listT (l.drop a) tl)
 below : Below u.heap.size u wr
 here : wr.heap[u.heap.size + 2]? = some (.cells #[.int .i64 y'.k, .int .i64 y'.n, .string ⟨y'.s.toArray⟩, .slice y'.A y'.len y'.cap] 28 (0, 0))
 res : wr.heap[u.heap.size + 1]? = some (.cells #[.int .i64 0, .int .i64 0, .string ⟨#[]⟩, .slice none 0 0] 28 (0, 0))
theorem LInv.lt {u : World} {L : List Nat} {l : List Tm} {tl : Tm} {a : Nat} {wr : World} {y' : TV} (h : LInv u L l tl a wr y') : u.heap.size + 2 < wr.heap.size := (Array.getElem?_eq_some_iff.1 h.here).1
theorem LInv.drew {u : World} {L : List Nat} {l : List Tm} {tl : Tm} {a : Nat} {wr : World} {y' : TV} (h : LInv u L l tl a wr y') : LInv u L l tl a wr.drew y' :=
 ⟨h.t.keep (fun _ hb => hb) fun _ _ => rfl, h.below.drew, h.here, h.res⟩
theorem LInv.round {u wr : World} {L : List Nat} {l : List Tm} {tl : Tm} {a : Nat} {y' ya : TV} {ta : Tm} (h : LInv u L l tl (a + 1) wr y') (hL : ∀ k ∈ L, k < u.heap.size) (hl : l[a]? = some ta) (hya : TermS u (SOf u L) ya ta) :
    LInv u L l tl a (((((wr.alloc (.cells #[.int .i64 ya.k, .int .i64 ya.n, .string ⟨ya.s.toArray⟩, .slice ya.A ya.len ya.cap, .int .i64 y'.k, .int .i64 y'.n, .string ⟨y'.s.toArray⟩, .slice y'.A y'.len y'.cap] 28)).setCell ⟨u.heap.size + 2, 0, none⟩ (.int .i64 4)).setCell ⟨u.heap.size + 2, 1, none⟩ (.int .i64 0)).setCell
     ⟨u.heap.size + 2, 2, none⟩ (.string ⟨#[46]⟩)).setCell ⟨u.heap.size + 2, 3, none⟩ (.slice (some ⟨wr.heap.size, 0, none⟩) 2 2)) ⟨4, 0, [46], some ⟨wr.heap.size, 0, none⟩, 2, 2⟩ := by
 have hlt := h.lt
 have hal : a < l.length := (List.getElem?_eq_some_iff.1 hl).1
 have e1 : l.drop a = ta :: l.drop (a + 1) := by
  rw [List.drop_eq_getElem_cons hal]
  have := (List.getElem?_eq_some_iff.1 hl).2
  rw [this]
 obtain ⟨w2, hw2⟩ : ∃ w2, w2 = wr.alloc (.cells #[.int .i64 ya.k, .int .i64 ya.n, .string ⟨ya.s.toArray⟩, .slice ya.A ya.len ya.cap, .int .i64 y'.k, .int .i64 y'.n, .string ⟨y'.s.toArray⟩, .slice y'.A y'.len y'.cap] 28) := ⟨_, rfl⟩
 have hsz : w2.heap.size = wr.heap.size + 1 := by rw [hw2]; simp
 have hold : ∀ k, k < wr.heap.size → w2.heap[k]? = wr.heap[k]? := fun k hk => by rw [hw2]; exact Below.heap_alloc _ _ _ hk
 have hnew : w2.heap[wr.heap.size]? = some (.cells #[.int .i64 ya.k, .int .i64 ya.n, .string ⟨ya.s.toArray⟩, .slice ya.A ya.len ya.cap, .int .i64 y'.k, .int .i64 y'.n, .string ⟨y'.s.toArray⟩, .slice y'.A y'.len y'.cap] 28 (0, 0)) := by rw [hw2]; exact heap_alloc_new wr _
 have hb2 : Below u.heap.size u w2 := by rw [hw2]; exact h.below.alloc h.below.size _
 rw [← hw2]
 clear hw2
 have hS : ∀ b, SOf wr ((u.heap.size + 1) :: (u.heap.size + 2) :: L) b → SOf w2 ((u.heap.size + 1) :: (u.heap.size + 2) :: L) b ∧ w2.heap[b]? = wr.heap[b]? := fun b hb => ⟨⟨hb.1.keep (hold b hb.1.lt), hb.2⟩, hold b hb.1.lt⟩
 have hS0 : ∀ b, SOf u L b → SOf w2 ((u.heap.size + 1) :: (u.heap.size + 2) :: L) b ∧ w2.heap[b]? = u.heap[b]? := fun b hb => by
  have hk := hb2.block b hb.1.lt
  refine ⟨⟨hb.1.keep hk, fun e => ?_⟩, hk⟩
  rcases List.mem_cons.1 e with e | e
  ·have := hb.1.lt; omega
  rcases List.mem_cons.1 e with e | e
  ·have := hb.1.lt; omega
  ·exact hb.2 e
 have ht : TermS w2 (SOf w2 ((u.heap.size + 1) :: (u.heap.size + 2) :: L)) ⟨4, 0, [46], some ⟨wr.heap.size, 0, none⟩, 2, 2⟩ (compT [46] [ta, listT (l.drop (a + 1)) tl]) := by
  have h2 : TermsS w2 (SOf w2 ((u.heap.size + 1) :: (u.heap.size + 2) :: L)) ([] ++ [ya] ++ [y']) ([] ++ [ta] ++ [listT (l.drop (a + 1)) tl]) := ((TermsS.nil _ _).snoc (hya.step hS0)).snoc (h.t.step hS)
  exact TermsS.block h2 hnew ⟨⟨_, hnew⟩, fun e => by
   rcases List.mem_cons.1 e with e | e
   ·omega
   rcases List.mem_cons.1 e with e | e
   ·omega
   ·have := hL _ e; have := h.below.size; omega⟩ [46] (by unfold maxLen; simp) 4 0 2
 have hW : ∀ k, k ≠ u.heap.size + 2 → (((((w2.setCell ⟨u.heap.size + 2, 0, none⟩ (.int .i64 4)).setCell ⟨u.heap.size + 2, 1, none⟩ (.int .i64 0)).setCell ⟨u.heap.size + 2, 2, none⟩ (.string ⟨#[46]⟩)).setCell ⟨u.heap.size + 2, 3, none⟩ (.slice (some ⟨wr.heap.size, 0, none⟩) 2 2))).heap[k]? = w2.heap[k]? :=
  fun k hk => blk_set4_ne _ _ _ _ hk
 refine ⟨?_, ?_, ?_, ?_⟩
 ·rw [e1, listT_cons]
  exact ht.step fun b hb => by
   have hne : b ≠ u.heap.size + 2 := fun e => hb.2 (by rw [e]; simp)
   exact ⟨⟨hb.1.keep (hW b hne), hb.2⟩, hW b hne⟩
 ·exact (((hb2.setCell (p := ⟨u.heap.size + 2, 0, none⟩) (by simp) _).setCell (p := ⟨u.heap.size + 2, 1, none⟩) (by simp) _).setCell (p := ⟨u.heap.size + 2, 2, none⟩) (by simp) _).setCell (p := ⟨u.heap.size + 2, 3, none⟩) (by simp) _
 ·exact blk_set4 ((hold _ hlt).trans h.here) rfl _ _ _ _
 ·rw [hW _ (by omega), hold _ (by omega)]
  exact h.res
set_option maxHeartbeats 8000000 in
theorem list_any (u : World) (L : List Nat) (hL : ∀ k ∈ L, k < u.heap.size) (A : Option Addr) (n c : Nat) (xs : List TV) (l : List Tm) (hs : SlTerms u A n xs) (hx : TermsS u (SOf u L) xs l) (y : TV) (tl : Tm) (hy : TermS u (SOf u L) y tl) (hn : n ≤ 1000000) :
    Calls Tryz.prog 91 #[.slice A n c, tvV y] u fun e u' => ∃ y', e = .returned (tvV y') ∧ TermS u' (SOf u' L) y' (listT l tl) ∧ Below u.heap.size u u' := by
 have hln : l.length = n := hx.1.symm.trans hs.len
 have HS := Lib.hid hs
 have HX := Lib.hid hx
 have HL := Lib.hid hL
 have hw0 : IntKind.i64.wrap ((n : Int) - 1) = (n : Int) - 1 := IntWalk.i64_in _ (by omega)
 have h0 : LInv u L l tl n (((u.alloc (.cells #[.int .i64 y.k, .int .i64 y.n, .string ⟨y.s.toArray⟩, .slice y.A y.len y.cap] 28)).alloc (.cells #[.int .i64 0, .int .i64 0, .string ⟨#[]⟩, .slice none 0 0] 28)).alloc (.cells #[.int .i64 y.k, .int .i64 y.n, .string ⟨y.s.toArray⟩, .slice y.A y.len y.cap] 28)) y := by
  have hb : Below u.heap.size u (((u.alloc (.cells #[.int .i64 y.k, .int .i64 y.n, .string ⟨y.s.toArray⟩, .slice y.A y.len y.cap] 28)).alloc (.cells #[.int .i64 0, .int .i64 0, .string ⟨#[]⟩, .slice none 0 0] 28)).alloc (.cells #[.int .i64 y.k, .int .i64 y.n, .string ⟨y.s.toArray⟩, .slice y.A y.len y.cap] 28)) :=
   (((Below.refl _ _).alloc (Nat.le_refl _) _).alloc (by simp) _).alloc (by simp; omega) _
  refine ⟨?_, hb, ?_, ?_⟩
  ·rw [show l.drop n = [] by rw [← hln, List.drop_length]]
   exact hy.step fun b hb' => by
    have hk := hb.block b hb'.1.lt
    refine ⟨⟨hb'.1.keep hk, fun e => ?_⟩, hk⟩
    rcases List.mem_cons.1 e with e | e
    ·have := hb'.1.lt; omega
    rcases List.mem_cons.1 e with e | e
    ·have := hb'.1.lt; omega
    ·exact hb'.2 e
  ·have := heap_alloc_new ((u.alloc (.cells #[.int .i64 y.k, .int .i64 y.n, .string ⟨y.s.toArray⟩, .slice y.A y.len y.cap] 28)).alloc (.cells #[.int .i64 0, .int .i64 0, .string ⟨#[]⟩, .slice none 0 0] 28)) (.cells #[.int .i64 y.k, .int .i64 y.n, .string ⟨y.s.toArray⟩, .slice y.A y.len y.cap] 28)
   simpa using this
  ·have := heap_alloc_new (u.alloc (.cells #[.int .i64 y.k, .int .i64 y.n, .string ⟨y.s.toArray⟩, .slice y.A y.len y.cap] 28)) (.cells #[.int .i64 0, .int .i64 0, .string ⟨#[]⟩, .slice none 0 0] 28)
   rw [Below.heap_alloc _ _ _ (by simp)]
   simpa using this
 have H0 := Lib.hid h0
 clear hs hx hL hy h0
 unfold tvV
 go_enter Tryz.func91, Tryz.ntmps91
 go_wp2_with fail
 go_loopw [6] (fun i wr => ∃ a, a ≤ n ∧ i = .int .i64 ((a : Int) - 1) ∧ Hid (∃ y', LInv u L l tl a wr y')) (fun i _ => (intOf i + 1).toNat)
 case atStart => exact ⟨n, Nat.le_refl _, rfl, Lib.hid ⟨y, H0.out⟩⟩
 case round =>
  obtain ⟨a, ha, rfl, HR⟩ := hrel
  obtain ⟨y', hI⟩ := HR.out
  have HI := Lib.hid hI
  have hlt := hI.lt
  obtain ⟨d0, d1, d2, d3, df⟩ := four_at hI.here
  obtain ⟨r0, r1, r2, r3, rf⟩ := four_at hI.res
  clear hI HR
  obtain _ | a := a
  ·go_wp2_with fail
   have hF : Below u.heap.size u ((((wr.setCell ⟨u.heap.size + 1, 0, none⟩ (.int .i64 y'.k)).setCell ⟨u.heap.size + 1, 1, none⟩ (.int .i64 y'.n)).setCell ⟨u.heap.size + 1, 2, none⟩ (.string ⟨y'.s.toArray⟩)).setCell ⟨u.heap.size + 1, 3, none⟩ (.slice y'.A y'.len y'.cap)) :=
    (((HI.out.below.setCell (p := ⟨u.heap.size + 1, 0, none⟩) (by simp) _).setCell (p := ⟨u.heap.size + 1, 1, none⟩) (by simp) _).setCell (p := ⟨u.heap.size + 1, 2, none⟩) (by simp) _).setCell (p := ⟨u.heap.size + 1, 3, none⟩) (by simp) _
   refine bodyPost_ret (v := .agg #[.int .i64 y'.k, .int .i64 y'.n, .string ⟨y'.s.toArray⟩, .slice y'.A y'.len y'.cap]) (by simp [results, Tryz.results91, go_sem, r0, r1, r2, r3]) rfl ⟨y', rfl, ?_, hF⟩
   refine HI.out.t.step fun b hb => ?_
   have hne : b ≠ u.heap.size + 1 := fun e => hb.2 (by rw [e]; simp)
   have hk := blk_set4_ne (w := wr) (.int .i64 y'.k) (.int .i64 y'.n) (.string ⟨y'.s.toArray⟩) (.slice y'.A y'.len y'.cap) hne
   exact ⟨⟨hb.1.keep hk, fun e => hb.2 (by simp [e])⟩, hk⟩
  ·have hai : a < xs.length := by rw [HS.out.len]; omega
   have hal : a < l.length := by omega
   obtain ⟨b, off, e1, e2, e3⟩ := HS.out.at' a _ (List.getElem?_eq_getElem hai)
   have hya := HX.out.2 a _ _ (List.getElem?_eq_getElem hai) (List.getElem?_eq_getElem hal)
   have hla := List.getElem?_eq_getElem hal
   generalize xs[a] = ya at e3 hya
   generalize l[a] = ta at hla hya
   subst e1
   have q0 : wr.cell? ⟨b, off + a * 4, none⟩ = some (.int .i64 ya.k) := (HI.out.below.cell (p := ⟨b, off + a * 4, none⟩) e2).trans (e3 0 _ rfl)
   have q1 : wr.cell? ⟨b, off + a * 4 + 1, none⟩ = some (.int .i64 ya.n) := (HI.out.below.cell (p := ⟨b, off + a * 4 + 1, none⟩) e2).trans (e3 1 _ rfl)
   have q2 : wr.cell? ⟨b, off + a * 4 + 2, none⟩ = some (.string ⟨ya.s.toArray⟩) := (HI.out.below.cell (p := ⟨b, off + a * 4 + 2, none⟩) e2).trans (e3 2 _ rfl)
   have q3 : wr.cell? ⟨b, off + a * 4 + 3, none⟩ = some (.slice ya.A ya.len ya.cap) := (HI.out.below.cell (p := ⟨b, off + a * 4 + 3, none⟩) e2).trans (e3 3 _ rfl)
   have hlast := (HI.out.round HL.out hla hya).drew
   rw [World.setCell_alloc_past _ _ _ _ hlt, World.setCell_alloc_past _ _ _ _ (by simpa using hlt), World.setCell_alloc_past _ _ _ _ (by simpa using hlt), World.setCell_alloc_past _ _ _ _ (by simpa using hlt)] at hlast
   have HN := Lib.hid hlast
   have ea : (((a + 1 : Nat) : Int) - 1) = (a : Int) := by omega
   have ha1 : (0 : Int) ≤ (a : Int) := by omega
   have ha2 : (a : Int) < (n : Int) := by omega
   have hwa : IntKind.i64.wrap ((a : Int) - 1) = (a : Int) - 1 := IntWalk.i64_in _ (by omega)
   rw [ea]
   clear hlast hya hla e3 e2
   go_wp2_with fail
   (refine wp_region_still_tail 5 (by kernel_rfl) (by kernel_rfl) ?_; simp only [List.take_succ_cons, List.take_zero, List.drop_succ_cons, List.drop_zero]; repeat (with_reducible refine wpStill_step ?_; intro KK hKK; go_simp; with_reducible refine hKK _ ?_; clear hKK KK)); try (with_reducible refine wpStill_nil ?_)
   go_wp2_with fail
   go_roundw
   case rel => exact ⟨a, by omega, rfl, Lib.hid ⟨_, HN.out⟩⟩
   case measure =>
    simp only [intOf]
    omega
def opV (o : OpR) : Value := .agg #[.int .i64 o.side, .int .i64 o.pri, .string ⟨o.name.toArray⟩, .bool o.left, .bool o.right]
def opZ : OpR := ⟨0, 0, [], false, false⟩
def opOut (o : Option OpR) : Value := .tuple #[opV (o.getD opZ), .bool o.isSome]
theorem opc_at {w1 : World} {b : Nat} {a0 a1 a2 a3 a4 : Value} {t : TypeId} (h : w1.heap[b]? = some (.cells #[a0, a1, a2, a3, a4] t (0, 0))) :
    w1.cell? ⟨b, 0, none⟩ = some a0 ∧ w1.cell? ⟨b, 1, none⟩ = some a1 ∧ w1.cell? ⟨b, 2, none⟩ = some a2 ∧ w1.cell? ⟨b, 3, none⟩ = some a3 ∧ w1.cell? ⟨b, 4, none⟩ = some a4 ∧ (∀ o, w1.frozen? ⟨b, o, none⟩ = false) :=
 ⟨by rw [cell_of_row w1 b 0 _ t (0, 0) h]; rfl, by rw [cell_of_row w1 b 1 _ t (0, 0) h]; rfl, by rw [cell_of_row w1 b 2 _ t (0, 0) h]; rfl, by rw [cell_of_row w1 b 3 _ t (0, 0) h]; rfl, by rw [cell_of_row w1 b 4 _ t (0, 0) h]; rfl, fun o => by simp [World.frozen?, h]⟩
theorem blk_set5 {w : World} {b : Nat} {x0 x1 x2 x3 x4 : Value} {t : TypeId} (h : w.heap[b]? = some (.cells #[x0, x1, x2, x3, x4] t (0, 0))) (a0 a1 a2 a3 a4 : Value) :
    (((((w.setCell ⟨b, 0, none⟩ a0).setCell ⟨b, 1, none⟩ a1).setCell ⟨b, 2, none⟩ a2).setCell ⟨b, 3, none⟩ a3).setCell ⟨b, 4, none⟩ a4).heap[b]? = some (.cells #[a0, a1, a2, a3, a4] t (0, 0)) := by
 rw [blk_put (blk_put (blk_put (blk_put (blk_put h a0) a1) a2) a3) a4]
 rfl
theorem five_below {w W : World} (h : Below w.heap.size w W) (b : Nat) (hb : w.heap.size ≤ b) (a0 a1 a2 a3 a4 : Value) :
    Below w.heap.size w (((((W.setCell ⟨b, 0, none⟩ a0).setCell ⟨b, 1, none⟩ a1).setCell ⟨b, 2, none⟩ a2).setCell ⟨b, 3, none⟩ a3).setCell ⟨b, 4, none⟩ a4) :=
 ((((h.setCell (p := ⟨b, 0, none⟩) hb _).setCell (p := ⟨b, 1, none⟩) hb _).setCell (p := ⟨b, 2, none⟩) hb _).setCell (p := ⟨b, 3, none⟩) hb _).setCell (p := ⟨b, 4, none⟩) hb _
set_option maxHeartbeats 8000000 in
theorem woperator_any (u : World) (B wb bt bm : Nat) (es : List (OpK × OpV)) (way : Int) (acc : List UInt8) (h : WrAt u B wb bt way acc) (hE : WrE u bt bm es) (Bx : Nat) (x : TV) (t : Tm) (hx : TermAt u Bx x t) (hBx : Bx ≤ u.heap.size) (hs : x.s.length ≤ 1000) :
    Calls Tryz.prog 109 #[.pointer (some ⟨wb, 0, none⟩), tvV x] u fun e u' => e = .returned (opOut (operF es way t)) ∧ Below u.heap.size u u' := by
 obtain ⟨A, c, hb, -⟩ := h.blk
 have hlt := h.lt
 obtain ⟨k1, k2, k3, k4, k5, -⟩ := hx.open
 have HX := Lib.hid hx
 have HE := Lib.hid hE
 have hcl := isl_any
 obtain ⟨q, hq⟩ : ∃ q, q = consT t := ⟨_, rfl⟩
 have HQ := Lib.hid hq
 obtain ⟨O, hO⟩ : ∃ O, O = operF es way t := ⟨_, rfl⟩
 rw [← hO]
 have HO := Lib.hid hO
 unfold operF at HO
 rw [k1, k3, k4, ← hq] at HO
 obtain ⟨W, hW⟩ : ∃ W, W = (u.alloc (.cells #[.int .i64 x.k, .int .i64 x.n, .string ⟨x.s.toArray⟩, .slice x.A x.len x.cap] 28)).alloc (.cells #[.int .i64 0, .int .i64 0, .string ⟨#[]⟩, .bool false, .bool false] 173) := ⟨_, rfl⟩
 have hbW : Below u.heap.size u W := by rw [hW]; exact ((Below.refl _ _).alloc (Nat.le_refl _) _).alloc (by simp) _
 have hr0 : W.heap[u.heap.size + 1]? = some (.cells #[.int .i64 0, .int .i64 0, .string ⟨#[]⟩, .bool false, .bool false] 173 (0, 0)) := by
  rw [hW]
  have := heap_alloc_new (u.alloc (.cells #[.int .i64 x.k, .int .i64 x.n, .string ⟨x.s.toArray⟩, .slice x.A x.len x.cap] 28)) (.cells #[.int .i64 0, .int .i64 0, .string ⟨#[]⟩, .bool false, .bool false] 173)
  rwa [World.size_alloc] at this
 have hx0 : W.heap[u.heap.size]? = some (.cells #[.int .i64 x.k, .int .i64 x.n, .string ⟨x.s.toArray⟩, .slice x.A x.len x.cap] 28 (0, 0)) := by
  rw [hW, Below.heap_alloc _ _ _ (by simp)]
  exact heap_alloc_new _ _
 have hwb0 : W.heap[wb]? = some (.cells #[.slice A acc.length c, .int .i64 way, .pointer (some ⟨bt, 0, none⟩), putV wb] 75 (0, 0)) := (hbW.block wb hlt).trans hb
 have hsW : u.heap.size + 1 < W.heap.size := by rw [hW]; simp
 obtain ⟨f0, f1, f2, f3, -⟩ := four_at hx0
 obtain ⟨z0, z1, z2, z3, z4, zf⟩ := opc_at hr0
 obtain ⟨c0, c1, c2, c3, -⟩ := four_at hwb0
 have HV := Lib.hid (And.intro hr0 hbW)
 have HXB := Lib.hid hx0
 have HWB := Lib.hid hwb0
 have HSW := Lib.hid hsW
 have hbr := Below.refl W.heap.size W
 have hbd : Below W.heap.size W W.drew := (Below.refl W.heap.size W).drew
 have HIS : Hid (∀ v, Below W.heap.size W v → Calls Tryz.prog 107 #[tvV x] v fun e v' => e = .returned (.bool q) ∧ Below W.heap.size W v') := Lib.hid fun v hv => by
  refine (isl_any v Bx x t (((HX.out.keep (Nat.le_refl _) fun k hk => (HV.out.2.block k (by omega))).keep (Nat.le_refl _) fun k hk => hv.block k (by have := HV.out.2.size; omega)))).mono ?_
  rintro e v' ⟨rfl, hb'⟩
  exact ⟨by rw [HQ.out], hv.trans (hb'.mono hv.size)⟩
 clear hO hE h hx hq hcl k1 k2 k3 k4 hbW hr0 hx0 hwb0 hb
 rw [tvV_lit] at HIS ⊢
 go_enter Tryz.func109, Tryz.ntmps109
 go_upto_region 1 with fail
 rw [← hW]
 clear hW
 by_cases hw : way = 2
 ·have hw' : (way == 2) = true := by rw [hw]; rfl
  have hon : O = none := by rw [HO.out, if_pos (.inl hw)]
  clear hw HO
  go_wp2_with fail
  have hC := blk_set5 HV.out.1 (.int .i64 0) (.int .i64 0) (.string ⟨#[]⟩) (.bool false) (.bool false)
  have hB := five_below HV.out.2 (u.heap.size + 1) (by omega) (.int .i64 0) (.int .i64 0) (.string ⟨#[]⟩) (.bool false) (.bool false)
  obtain ⟨z0, z1, z2, z3, z4, zf⟩ := opc_at hC
  refine ⟨rfl, .tuple #[.agg #[.int .i64 0, .int .i64 0, .string ⟨#[]⟩, .bool false, .bool false], .bool false], by simp [results, Tryz.results109, go_sem, z0, z1, z2, z3, z4], ?_⟩
  exact ⟨by rw [hon]; rfl, hB⟩
 have hw' : (way == 2) = false := beq_eq_false_iff_ne.2 hw
 by_cases hk : x.k = 4
 case neg =>
  have hk' : (x.k != 4) = true := bne_iff_ne.2 hk
  have hon : O = none := by rw [HO.out, if_pos (.inr (.inl hk))]
  clear hw hk HO
  go_wp2_with fail
  have hC := blk_set5 HV.out.1 (.int .i64 0) (.int .i64 0) (.string ⟨#[]⟩) (.bool false) (.bool false)
  have hB := five_below HV.out.2 (u.heap.size + 1) (by omega) (.int .i64 0) (.int .i64 0) (.string ⟨#[]⟩) (.bool false) (.bool false)
  obtain ⟨z0, z1, z2, z3, z4, zf⟩ := opc_at hC
  refine ⟨rfl, .tuple #[.agg #[.int .i64 0, .int .i64 0, .string ⟨#[]⟩, .bool false, .bool false], .bool false], by simp [results, Tryz.results109, go_sem, z0, z1, z2, z3, z4], ?_⟩
  exact ⟨by rw [hon]; rfl, hB⟩
 have hk' : (x.k != 4) = false := by rw [hk]; rfl
 have HK4 := Lib.hid hk
 have HWW := Lib.hid hw
 clear hk hw
 go_wp2_with fail
 refine (HIS.out W hbr).mono ?_
 rintro e W1 ⟨rfl, hb1⟩
 have HV1 := Lib.hid (And.intro ((hb1.block (u.heap.size + 1) HSW.out).trans HV.out.1) (HV.out.2.trans (hb1.mono HV.out.2.size)))
 have HXB1 := Lib.hid ((hb1.block u.heap.size (by have := HSW.out; omega)).trans HXB.out)
 have HWB1 := Lib.hid ((hb1.block wb (by have := HSW.out; omega)).trans HWB.out)
 have HE1 : Hid (∀ v, Below W1.heap.size W1 v → TabAt v bt bm es ∧ KindsAt v) := Lib.hid fun v hv => by
  have h2 := HV1.out.2
  exact ⟨(HE.out.tab.later h2).later hv, (HE.out.kinds.later h2).later hv⟩
 clear c0 c1 c2 c3 f0 f1 f2 f3 z0 z1 z2 z3 z4 zf hbr hbd hb1 HIS
 obtain ⟨f0, f1, f2, f3, -⟩ := four_at HXB1.out
 obtain ⟨z0, z1, z2, z3, z4, zf⟩ := opc_at HV1.out.1
 obtain ⟨c0, c1, c2, c3, -⟩ := four_at HWB1.out
 by_cases hqt : q = true
 ·have hon : O = none := by rw [HO.out, if_pos (.inr (.inr hqt))]
  subst hqt
  clear HO
  go_wp2_with fail
  have hC := blk_set5 HV1.out.1 (.int .i64 0) (.int .i64 0) (.string ⟨#[]⟩) (.bool false) (.bool false)
  have hB := five_below HV1.out.2 (u.heap.size + 1) (by omega) (.int .i64 0) (.int .i64 0) (.string ⟨#[]⟩) (.bool false) (.bool false)
  obtain ⟨z0, z1, z2, z3, z4, zf⟩ := opc_at hC
  refine ⟨rfl, .tuple #[.agg #[.int .i64 0, .int .i64 0, .string ⟨#[]⟩, .bool false, .bool false], .bool false], by simp [results, Tryz.results109, go_sem, z0, z1, z2, z3, z4], ?_⟩
  exact ⟨by rw [hon]; rfl, hB⟩
 have hqf : q = false := by simpa using hqt
 have hO1 : O = _ := HO.out.trans (if_neg (by rintro (e | e | e); exact HWW.out e; exact e HK4.out; exact hqt e))
 have HO1 := Lib.hid hO1
 subst hqf
 clear hO1 HO hqt HQ
 have hbr := Below.refl W1.heap.size W1
 have hbd : Below W1.heap.size W1 W1.drew := (Below.refl W1.heap.size W1).drew
 have cc : ∀ (p : Addr) (v : Value), W1.cell? p = some v → ∀ u, Below W1.heap.size W1 u → u.cell? p = some v := fun p v h u hb => (World.cell?_of_block (hb.block _ (World.block_lt_of_cell? W1 _ h))).trans h
 have HS : Hid (∀ v, Below W1.heap.size W1 v → v.cell? ⟨wb, 2, none⟩ = some (.pointer (some ⟨bt, 0, none⟩)) ∧ v.cell? ⟨u.heap.size, 2, none⟩ = some (.string ⟨x.s.toArray⟩)) := Lib.hid fun v hv => ⟨cc _ _ c2 v hv, cc _ _ f2 v hv⟩
 have HN : Hid (OkName x.s) := Lib.hid (by unfold OkName maxLen; omega)
 clear cc
 have H1 : Hid (W1.heap.size = W1.heap.size) := Lib.hid rfl
 obtain ⟨P1, hP1⟩ : ∃ P, P = (tsides es 1 x.s).1 := ⟨_, rfl⟩
 obtain ⟨P2, hP2⟩ : ∃ P, P = (tsides es 1 x.s).2.2 := ⟨_, rfl⟩
 obtain ⟨Q1, hQ1⟩ : ∃ P, P = (tsides es 3 x.s).1 := ⟨_, rfl⟩
 obtain ⟨Q2, hQ2⟩ : ∃ P, P = (tsides es 3 x.s).2.1 := ⟨_, rfl⟩
 obtain ⟨I1, hI1⟩ : ∃ P, P = (tsides es 2 x.s).1 := ⟨_, rfl⟩
 obtain ⟨I2, hI2⟩ : ∃ P, P = (tsides es 2 x.s).2.1 := ⟨_, rfl⟩
 obtain ⟨I3, hI3⟩ : ∃ P, P = (tsides es 2 x.s).2.2 := ⟨_, rfl⟩
 have hpre : Hid (∀ v, Below W1.heap.size W1 v → Calls Tryz.prog 96 #[.pointer (some ⟨bt, 0, none⟩), .string ⟨x.s.toArray⟩] v fun e v' => e = .returned (.tuple #[.int .i64 P1, .int .i64 P2]) ∧ Below W1.heap.size W1 v') := Lib.hid fun v hv => by
  refine (prefix_any v bt bm es (HE1.out v hv).1 (HE1.out v hv).2 x.s HN.out).mono ?_
  rintro e v' ⟨rfl, hb'⟩
  exact ⟨by rw [hP1, hP2], hv.trans (hb'.mono hv.size)⟩
 have hpost : Hid (∀ v, Below W1.heap.size W1 v → Calls Tryz.prog 127 #[.pointer (some ⟨bt, 0, none⟩), .string ⟨x.s.toArray⟩] v fun e v' => e = .returned (.tuple #[.int .i64 Q1, .int .i64 Q2]) ∧ Below W1.heap.size W1 v') := Lib.hid fun v hv => by
  refine (postfix_any v bt bm es (HE1.out v hv).1 (HE1.out v hv).2 x.s HN.out).mono ?_
  rintro e v' ⟨rfl, hb'⟩
  exact ⟨by rw [hQ1, hQ2], hv.trans (hb'.mono hv.size)⟩
 have hinf : Hid (∀ v, Below W1.heap.size W1 v → Calls Tryz.prog 126 #[.pointer (some ⟨bt, 0, none⟩), .string ⟨x.s.toArray⟩] v fun e v' => e = .returned (.tuple #[.int .i64 I1, .int .i64 I2, .int .i64 I3]) ∧ Below W1.heap.size W1 v') := Lib.hid fun v hv => by
  refine (infix_any v bt bm es (HE1.out v hv).1 (HE1.out v hv).2 x.s HN.out).mono ?_
  rintro e v' ⟨rfl, hb'⟩
  exact ⟨by rw [hI1, hI2, hI3], hv.trans (hb'.mono hv.size)⟩
 have HO2 : Hid (O = if x.len = 1 then (if 0 < P1 then some ⟨1, P1, x.s, false, false⟩ else if 0 < Q1 then some ⟨3, Q1, x.s, false, false⟩ else none) else if x.len = 2 then (if 0 < I1 then some ⟨2, I1, x.s, decide (I2 = I1), decide (I3 = I1)⟩ else none) else none) := Lib.hid (by rw [hP1, hQ1, hI1, hI2, hI3]; exact HO1.out)
 have HXC : Hid (∀ v, Below W1.heap.size W1 v → v.heap[u.heap.size]? = some (.cells #[.int .i64 x.k, .int .i64 x.n, .string ⟨x.s.toArray⟩, .slice x.A x.len x.cap] 28 (0, 0)) ∧ v.heap[u.heap.size + 1]? = some (.cells #[.int .i64 0, .int .i64 0, .string ⟨#[]⟩, .bool false, .bool false] 173 (0, 0)) ∧ Below u.heap.size u v) := Lib.hid fun v hv => by
  have h1 : u.heap.size + 1 < W1.heap.size := (Array.getElem?_eq_some_iff.1 HV1.out.1).1
  exact ⟨(hv.block _ (by omega)).trans HXB1.out, (hv.block _ h1).trans HV1.out.1, HV1.out.2.trans (hv.mono HV1.out.2.size)⟩
 clear hP1 hP2 hQ1 hQ2 hI1 hI2 hI3 H1
 by_cases hl1 : x.len = 1
 ·have b1 : ((x.len : Int) == 1) = true := by rw [hl1]; rfl
  have HO3 : Hid (O = if 0 < P1 then some ⟨1, P1, x.s, false, false⟩ else if 0 < Q1 then some ⟨3, Q1, x.s, false, false⟩ else none) := Lib.hid (by rw [HO2.out, if_pos hl1])
  clear hl1
  go_wp2_with fail
  go_region_held3 (fun v => v.cell? ⟨wb, 2, none⟩ = some (.pointer (some ⟨bt, 0, none⟩)) ∧ v.cell? ⟨u.heap.size, 2, none⟩ = some (.string ⟨x.s.toArray⟩))
   (first | (with_reducible exact HS.out _ (by assumption)))
   (first | (go_at_call 96; with_reducible refine (hpre.out _ (by assumption)).mono ?_; rintro e W2 ⟨rfl, hb2⟩))
  obtain ⟨r1, r2, r3⟩ := HXC.out W2 hb2
  have HV2 := Lib.hid (And.intro r2 r3)
  clear f0 f1 f2 f3 z0 z1 z2 z3 z4 zf
  obtain ⟨f0, f1, f2, f3, -⟩ := four_at r1
  obtain ⟨z0, z1, z2, z3, z4, zf⟩ := opc_at r2
  clear r1 r2 r3
  by_cases hp : 0 < P1
  ·have hon : O = some ⟨1, P1, x.s, false, false⟩ := by rw [HO3.out, if_pos hp]
   have HON := Lib.hid hon
   clear hon
   go_wp2_with fail
   have hC := blk_set5 HV2.out.1 (.int .i64 1) (.int .i64 P1) (.string ⟨x.s.toArray⟩) (.bool false) (.bool false)
   have hB := five_below HV2.out.2 (u.heap.size + 1) (by omega) (.int .i64 1) (.int .i64 P1) (.string ⟨x.s.toArray⟩) (.bool false) (.bool false)
   clear z0 z1 z2 z3 z4 zf
   obtain ⟨z0, z1, z2, z3, z4, zf⟩ := opc_at hC
   refine ⟨rfl, .tuple #[.agg #[.int .i64 1, .int .i64 P1, .string ⟨x.s.toArray⟩, .bool false, .bool false], .bool true], by simp [results, Tryz.results109, go_sem, z0, z1, z2, z3, z4], ?_⟩
   exact ⟨by rw [HON.out]; rfl, hB⟩
  have hp' : ¬ 0 < P1 := hp
  have HP0 := Lib.hid hp'
  go_wp2_with fail
  go_region_held3 (fun v => v.cell? ⟨wb, 2, none⟩ = some (.pointer (some ⟨bt, 0, none⟩)) ∧ v.cell? ⟨u.heap.size, 2, none⟩ = some (.string ⟨x.s.toArray⟩))
   (first | (with_reducible exact HS.out _ (by assumption)) | (with_reducible exact HS.out _ hb2.drew))
   (first | (go_at_call 127; with_reducible refine (hpost.out _ (by first | assumption | exact hb2.drew)).mono ?_; rintro e W3 ⟨rfl, hb3⟩))
  obtain ⟨r1, r2, r3⟩ := HXC.out W3 hb3
  have HV3 := Lib.hid (And.intro r2 r3)
  clear f0 f1 f2 f3 z0 z1 z2 z3 z4 zf
  obtain ⟨f0, f1, f2, f3, -⟩ := four_at r1
  obtain ⟨z0, z1, z2, z3, z4, zf⟩ := opc_at r2
  clear r1 r2 r3
  by_cases hq : 0 < Q1
  ·have hon : O = some ⟨3, Q1, x.s, false, false⟩ := by rw [HO3.out, if_neg (show ¬ 0 < P1 by have := HP0.out; omega), if_pos hq]
   have HON := Lib.hid hon
   clear hon
   go_wp2_with fail
   have hC := blk_set5 HV3.out.1 (.int .i64 3) (.int .i64 Q1) (.string ⟨x.s.toArray⟩) (.bool false) (.bool false)
   have hB := five_below HV3.out.2 (u.heap.size + 1) (by omega) (.int .i64 3) (.int .i64 Q1) (.string ⟨x.s.toArray⟩) (.bool false) (.bool false)
   clear z0 z1 z2 z3 z4 zf
   obtain ⟨z0, z1, z2, z3, z4, zf⟩ := opc_at hC
   refine ⟨rfl, .tuple #[.agg #[.int .i64 3, .int .i64 Q1, .string ⟨x.s.toArray⟩, .bool false, .bool false], .bool true], by simp [results, Tryz.results109, go_sem, z0, z1, z2, z3, z4], ?_⟩
   exact ⟨by rw [HON.out]; rfl, hB⟩
  have hq' : ¬ 0 < Q1 := hq
  have hon : O = none := by rw [HO3.out, if_neg (show ¬ 0 < P1 by have := HP0.out; omega), if_neg hq]
  have HON := Lib.hid hon
  clear hon
  go_wp2_with fail
  have hC := blk_set5 HV3.out.1 (.int .i64 0) (.int .i64 0) (.string ⟨#[]⟩) (.bool false) (.bool false)
  have hB := five_below HV3.out.2 (u.heap.size + 1) (by omega) (.int .i64 0) (.int .i64 0) (.string ⟨#[]⟩) (.bool false) (.bool false)
  clear z0 z1 z2 z3 z4 zf
  obtain ⟨z0, z1, z2, z3, z4, zf⟩ := opc_at hC
  refine ⟨rfl, .tuple #[.agg #[.int .i64 0, .int .i64 0, .string ⟨#[]⟩, .bool false, .bool false], .bool false], by simp [results, Tryz.results109, go_sem, z0, z1, z2, z3, z4], ?_⟩
  exact ⟨by rw [HON.out]; rfl, hB⟩
 have b1 : ((x.len : Int) == 1) = false := beq_eq_false_iff_ne.2 (by omega)
 by_cases hl2 : x.len = 2
 ·have b2 : ((x.len : Int) == 2) = true := by rw [hl2]; rfl
  have HO3 : Hid (O = if 0 < I1 then some ⟨2, I1, x.s, decide (I2 = I1), decide (I3 = I1)⟩ else none) := Lib.hid (by rw [HO2.out, if_neg hl1, if_pos hl2])
  clear hl1 hl2
  go_wp2_with fail
  go_region_held3 (fun v => v.cell? ⟨wb, 2, none⟩ = some (.pointer (some ⟨bt, 0, none⟩)) ∧ v.cell? ⟨u.heap.size, 2, none⟩ = some (.string ⟨x.s.toArray⟩))
   (first | (with_reducible exact HS.out _ (by assumption)))
   (first | (go_at_call 126; with_reducible refine (hinf.out _ (by assumption)).mono ?_; rintro e W2 ⟨rfl, hb2⟩))
  obtain ⟨r1, r2, r3⟩ := HXC.out W2 hb2
  have HV2 := Lib.hid (And.intro r2 r3)
  clear f0 f1 f2 f3 z0 z1 z2 z3 z4 zf
  obtain ⟨f0, f1, f2, f3, -⟩ := four_at r1
  obtain ⟨z0, z1, z2, z3, z4, zf⟩ := opc_at r2
  clear r1 r2 r3
  by_cases hp : 0 < I1
  ·have hon : O = some ⟨2, I1, x.s, I2 == I1, I3 == I1⟩ := by rw [HO3.out, if_pos hp]; rfl
   have HON := Lib.hid hon
   clear hon
   go_wp2_with fail
   have hC := blk_set5 HV2.out.1 (.int .i64 2) (.int .i64 I1) (.string ⟨x.s.toArray⟩) (.bool (I2 == I1)) (.bool (I3 == I1))
   have hB := five_below HV2.out.2 (u.heap.size + 1) (by omega) (.int .i64 2) (.int .i64 I1) (.string ⟨x.s.toArray⟩) (.bool (I2 == I1)) (.bool (I3 == I1))
   clear z0 z1 z2 z3 z4 zf
   obtain ⟨z0, z1, z2, z3, z4, zf⟩ := opc_at hC
   refine ⟨rfl, .tuple #[.agg #[.int .i64 2, .int .i64 I1, .string ⟨x.s.toArray⟩, .bool (I2 == I1), .bool (I3 == I1)], .bool true], by simp [results, Tryz.results109, go_sem, z0, z1, z2, z3, z4], ?_⟩
   exact ⟨by rw [HON.out]; rfl, hB⟩
  have hp' : ¬ 0 < I1 := hp
  have hon : O = none := by rw [HO3.out, if_neg hp]
  have HON := Lib.hid hon
  clear hon
  go_wp2_with fail
  have hC := blk_set5 HV2.out.1 (.int .i64 0) (.int .i64 0) (.string ⟨#[]⟩) (.bool false) (.bool false)
  have hB := five_below HV2.out.2 (u.heap.size + 1) (by omega) (.int .i64 0) (.int .i64 0) (.string ⟨#[]⟩) (.bool false) (.bool false)
  clear z0 z1 z2 z3 z4 zf
  obtain ⟨z0, z1, z2, z3, z4, zf⟩ := opc_at hC
  refine ⟨rfl, .tuple #[.agg #[.int .i64 0, .int .i64 0, .string ⟨#[]⟩, .bool false, .bool false], .bool false], by simp [results, Tryz.results109, go_sem, z0, z1, z2, z3, z4], ?_⟩
  exact ⟨by rw [HON.out]; rfl, hB⟩
 have b2 : ((x.len : Int) == 2) = false := beq_eq_false_iff_ne.2 (by omega)
 have hon : O = none := by rw [HO2.out, if_neg hl1, if_neg hl2]
 have HON := Lib.hid hon
 clear hon hl1 hl2
 go_wp2_with fail
 have hC := blk_set5 HV1.out.1 (.int .i64 0) (.int .i64 0) (.string ⟨#[]⟩) (.bool false) (.bool false)
 have hB := five_below HV1.out.2 (u.heap.size + 1) (by omega) (.int .i64 0) (.int .i64 0) (.string ⟨#[]⟩) (.bool false) (.bool false)
 clear z0 z1 z2 z3 z4 zf
 obtain ⟨z0, z1, z2, z3, z4, zf⟩ := opc_at hC
 refine ⟨rfl, .tuple #[.agg #[.int .i64 0, .int .i64 0, .string ⟨#[]⟩, .bool false, .bool false], .bool false], by simp [results, Tryz.results109, go_sem, z0, z1, z2, z3, z4], ?_⟩
 exact ⟨by rw [HON.out]; rfl, hB⟩
structure WrK (u : World) (B0 B wb bt bm : Nat) (es : List (OpK × OpV)) (way : Int) (acc : List UInt8) : Prop where
 at' : WrAt u B wb bt way acc
 env : WrE u bt bm es
 lo : WrLo B0 bt bm
 b0 : B0 ≤ wb
 bu : B ≤ u.heap.size
section
variable {u u' v : World} {B0 B wb bt bm : Nat} {es : List (OpK × OpV)} {way : Int} {acc acc' : List UInt8}
theorem WrK.b0B (h : WrK u B0 B wb bt bm es way acc) : B0 ≤ B := by have := h.b0; have := h.at'.wbB; omega
theorem WrK.low (h : WrK u B0 B wb bt bm es way acc) (hf : Fr (WrS u B wb) u u') : Below B0 u u' := WrS.below hf h.b0 h.b0B (Nat.le_trans h.b0B h.bu)
theorem WrK.next (h : WrK u B0 B wb bt bm es way acc) (ha : WrAt u' B wb bt way acc') (hf : Fr (WrS u B wb) u u') : WrK u' B0 B wb bt bm es way acc' :=
 ⟨ha, h.env.keep h.lo (h.low hf), h.lo, h.b0, Nat.le_trans h.bu hf.size⟩
theorem WrK.later (h : WrK u B0 B wb bt bm es way acc) (hb : Below u.heap.size u u') : WrK u' B0 B wb bt bm es way acc := h.next (h.at'.later hb) (Fr.of_below _ hb)
theorem WrK.put3 (h : WrK u B0 B wb bt bm es way acc) : u.cell? ⟨wb, 3, none⟩ = some (putV wb) ∧ u.cell? ⟨wb, 2, none⟩ = some (.pointer (some ⟨bt, 0, none⟩)) ∧ u.cell? ⟨wb, 1, none⟩ = some (.int .i64 way) := by
 obtain ⟨A, c, hb, -⟩ := h.at'.blk
 exact ⟨by rw [cell_of_row u wb 3 _ _ (0, 0) hb]; rfl, by rw [cell_of_row u wb 2 _ _ (0, 0) hb]; rfl, by rw [cell_of_row u wb 1 _ _ (0, 0) hb]; rfl⟩
theorem WrK.ne (h : WrK u B0 B wb bt bm es way acc) {cs : Array Value} {t : TypeId} {k : Nat} (hk : u.heap[k]? = some (.cells cs t (0, 0))) (ht : t ≠ 75) : k ≠ wb := by
 obtain ⟨A, c, hb, -⟩ := h.at'.blk
 exact TyB.ne ⟨_, hk⟩ ⟨_, hb⟩ ht
end
def TermC (es : List (OpK × OpV)) (way : Int) (n : Nat) : Prop :=
 ∀ (u : World) (B0 B wb bt bm : Nat) (acc : List UInt8) (x : TV) (t : Tm) (most : Int), t.size ≤ n → WfT t → TermAt u B0 x t → WrK u B0 B wb bt bm es way acc → acc.length + 6000 * t.size ≤ 10000000000 →
  Calls Tryz.prog 33 #[.pointer (some ⟨wb, 0, none⟩), tvV x, .int .i64 most] u fun e u' => e = .returned (.tuple #[]) ∧ WrAt u' B wb bt way (acc ++ wrT es way t most) ∧ Fr (WrS u B wb) u u'
def CompC (es : List (OpK × OpV)) (way : Int) (n : Nat) : Prop :=
 ∀ (u : World) (B0 B wb bt bm : Nat) (acc : List UInt8) (x : TV) (t : Tm) (most : Int), t.size ≤ n → WfT t → t.k = 4 → TermAt u B0 x t → WrK u B0 B wb bt bm es way acc → acc.length + 6000 * t.size ≤ 10000000000 →
  Calls Tryz.prog 65 #[.pointer (some ⟨wb, 0, none⟩), tvV x, .int .i64 most] u fun e u' => e = .returned (.tuple #[]) ∧ WrAt u' B wb bt way (acc ++ wrT es way t most) ∧ Fr (WrS u B wb) u u'
theorem cat_w (a b : List UInt8) : (⟨a.toArray⟩ ++ ⟨b.toArray⟩ : ByteArray) = ⟨(a ++ b).toArray⟩ := by
 apply ByteArray.ext
 simp
theorem wr_1 {es : List (OpK × OpV)} {way : Int} {t : Tm} {m : Int} (h : t.k = 1) : wrT es way t m = 95 :: Lib.itoa t.n := by rw [wrT_step]; unfold wrStep; rw [if_pos h]
theorem wr_2 {es : List (OpK × OpV)} {way : Int} {t : Tm} {m : Int} (h : t.k = 2) : wrT es way t m = Lib.itoa t.n := by rw [wrT_step]; unfold wrStep; rw [if_neg (by omega), if_pos h]
theorem wr_3 {es : List (OpK × OpV)} {way : Int} {t : Tm} {m : Int} (h : t.k = 3) : wrT es way t m = textF way t.s := by rw [wrT_step]; unfold wrStep; rw [if_neg (by omega), if_neg (by omega), if_pos h]
theorem wr_4 {es : List (OpK × OpV)} {way : Int} {t : Tm} {m : Int} (h : t.k = 4) : wrT es way t m = compF es way (wrT es way) t m := by rw [wrT_step]; unfold wrStep; rw [if_neg (by omega), if_neg (by omega), if_neg (by omega)]
set_option maxHeartbeats 8000000 in
theorem term_any {es : List (OpK × OpV)} {way : Int} {n : Nat} (hc : CompC es way n) : TermC es way n := by
 intro u B0 B wb bt bm acc x t most hn hw hx hK hlen
 obtain ⟨k1, k2, k3, k4, k5, -⟩ := hx.open
 have hkind := hw.kind
 have hfit := hw.n
 have hnm := hw.name.1
 obtain ⟨T, hT⟩ : ∃ T, T = wrT es way t most := ⟨_, rfl⟩
 rw [← hT]
 have hlt := hK.at'.lt
 obtain ⟨W, hW⟩ : ∃ W, W = u.alloc (.cells #[.int .i64 x.k, .int .i64 x.n, .string ⟨x.s.toArray⟩, .slice x.A x.len x.cap] 28) := ⟨_, rfl⟩
 have hbW : Below u.heap.size u W := by rw [hW]; exact (Below.refl _ _).alloc (Nat.le_refl _) _
 have hx0 : W.heap[u.heap.size]? = some (.cells #[.int .i64 x.k, .int .i64 x.n, .string ⟨x.s.toArray⟩, .slice x.A x.len x.cap] 28 (0, 0)) := by rw [hW]; exact heap_alloc_new _ _
 have hKW := hK.later hbW
 obtain ⟨f0, f1, f2, f3, -⟩ := four_at hx0
 obtain ⟨c3, c2, c1⟩ := hKW.put3
 have HBW := Lib.hid hbW
 have HKW := Lib.hid hKW
 have HX0 := Lib.hid hx0
 have hbr : Below W.heap.size W W := Below.refl _ _
 have hbd : Below W.heap.size W W.drew := (Below.refl W.heap.size W).drew
 have hlW : u.heap.size < W.heap.size := by rw [hW]; simp
 have hneW : u.heap.size ≠ wb := by omega
 have cc : ∀ (p : Addr) (v : Value), W.cell? p = some v → ∀ u, Below W.heap.size W u → u.cell? p = some v := fun p v h u hb => (World.cell?_of_block (hb.block _ (World.block_lt_of_cell? W _ h))).trans h
 have HS : Hid (∀ v, Below W.heap.size W v → v.cell? ⟨wb, 3, none⟩ = some (putV wb) ∧ v.cell? ⟨u.heap.size, 1, none⟩ = some (.int .i64 x.n) ∧ v.cell? ⟨u.heap.size, 2, none⟩ = some (.string ⟨x.s.toArray⟩)) := Lib.hid fun v hv => ⟨cc _ _ c3 v hv, cc _ _ f1 v hv, cc _ _ f2 v hv⟩
 have HS1 : Hid (∀ v, WrAt v B wb bt way (acc ++ T) ∧ Fr (WrS W B wb) W v → v.cell? ⟨wb, 3, none⟩ = some (putV wb) ∧ v.cell? ⟨u.heap.size, 1, none⟩ = some (.int .i64 x.n) ∧ v.cell? ⟨u.heap.size, 2, none⟩ = some (.string ⟨x.s.toArray⟩)) := Lib.hid fun v hv => by
  have h1 := (HKW.out.next hv.1 hv.2).put3.1
  have h2 := WrS.keep hv.2 HX0.out (by decide) hneW
  obtain ⟨-, g1, g2, -, -⟩ := four_at h2
  exact ⟨h1, g1, g2⟩
 have HADD : Hid (∀ v, Below W.heap.size W v → acc.length + T.length ≤ 100000000000 → Calls Tryz.prog 32 #[.pointer (some ⟨wb, 0, none⟩), .string ⟨T.toArray⟩] v fun e v' => e = .returned (.tuple #[]) ∧ WrAt v' B wb bt way (acc ++ T) ∧ Fr (WrS W B wb) W v') := Lib.hid fun v hv hl => by
  have hk := HKW.out.later hv
  refine (wadd_any v B wb bt way acc T hk.at' hk.bu hl).mono ?_
  rintro e v' ⟨rfl, h1, h2⟩
  exact ⟨rfl, h1, WrS.trans (Fr.of_below _ hv) h2⟩
 have hfin : ∀ v, Fr (WrS W B wb) W v → Fr (WrS u B wb) u v := fun v hv => WrS.trans (Fr.of_below _ HBW.out) hv
 have HFIN := Lib.hid hfin
 have HBU := Lib.hid hK.bu
 have HLEN : Hid (acc.length + T.length ≤ 100000000000) := Lib.hid (by rw [hT]; have := wr_len es way t.size t most (Nat.le_refl _) hw; omega)
 have hxn : (Lib.itoa x.n).length ≤ 30 := itoa_le (by rw [← k2]; exact hfit)
 have hk14 : x.k = 1 ∨ x.k = 2 ∨ x.k = 3 ∨ x.k = 4 := by rw [← k1]; exact hkind
 rcases hk14 with hk | hk | hk | hk
 ·obtain ⟨I, hI⟩ : ∃ I, I = Lib.itoa x.n := ⟨_, rfl⟩
  have hTT : T = 95 :: I := by rw [hT, wr_1 (k1.trans hk), k2, hI]
  have hIl : I.length ≤ 30 := by rw [hI]; exact hxn
  have hI1 : ¬ (9223372036854775807 < 1 + I.length) := by omega
  have hI2 : ¬ (9223372036854775806 < I.length) := by omega
  have HI := Lib.hid hI
  clear hI hxn
  have b1 : (x.k == 1) = true := by rw [hk]; rfl
  have HTT := Lib.hid hTT
  have HPR : Hid (∀ v, Below W.heap.size W v → Calls Tryz.prog 63 #[.int .i64 x.n] v fun e v' => e = .returned (.string ⟨I.toArray⟩) ∧ Below W.heap.size W v') := Lib.hid fun v hv => by
   refine (print_any v (HKW.out.later hv).env.pow x.n (by rw [← k2]; exact hfit.1) (by rw [← k2]; exact hfit.2)).mono ?_
   rintro e v' ⟨rfl, hb'⟩
   rw [HI.out]
   exact ⟨rfl, hv.trans (hb'.mono hv.size)⟩
  have HAD : Hid (∀ v, Below W.heap.size W v → Calls Tryz.prog 32 #[.pointer (some ⟨wb, 0, none⟩), .string (⟨#[95]⟩ ++ ⟨I.toArray⟩)] v fun e v' => e = .returned (.tuple #[]) ∧ WrAt v' B wb bt way (acc ++ T) ∧ Fr (WrS W B wb) W v') := Lib.hid fun v hv => by
   rw [show ((⟨#[95]⟩ : ByteArray) ++ ⟨I.toArray⟩) = ⟨T.toArray⟩ by rw [HTT.out]; exact cat_w [95] I]
   exact HADD.out v hv HLEN.out
  clear k1 k2 k3 k4 k5 hk hTT hT hx hw hK hKW hbW hx0 cc hfin hkind hfit hlen
  unfold putV at c3 HS HS1
  rw [tvV_lit]
  go_enter Tryz.func33, Tryz.ntmps33
  go_upto_region 4 with fail
  rw [← hW]
  clear hW
  go_region_held3 (fun v => v.cell? ⟨wb, 3, none⟩ = some (.func (.func 32) #[.pointer (some ⟨wb, 0, none⟩)] #[]) ∧ v.cell? ⟨u.heap.size, 1, none⟩ = some (.int .i64 x.n) ∧ v.cell? ⟨u.heap.size, 2, none⟩ = some (.string ⟨x.s.toArray⟩))
   (first | (with_reducible exact HS.out _ (by assumption)) | (with_reducible exact HS1.out _ (by assumption)))
   (first | (go_at_call 63; with_reducible refine (HPR.out _ (by assumption)).mono ?_; rintro e v1 ⟨rfl, hb1⟩) | (go_at_call 32; with_reducible refine (HAD.out _ (by assumption)).mono ?_; rintro e v2 ⟨rfl, h1, h2⟩; have hg := And.intro h1 h2))
  go_wp2_with fail
  go_end0
  exact ⟨rfl, h1, HFIN.out _ h2⟩
 ·have hTT : T = Lib.itoa x.n := by rw [hT, wr_2 (k1.trans hk), k2]
  have b1 : (x.k == 1) = false := by rw [hk]; rfl
  have b2 : (x.k == 2) = true := by rw [hk]; rfl
  have HTT := Lib.hid hTT
  have HPR : Hid (∀ v, Below W.heap.size W v → Calls Tryz.prog 63 #[.int .i64 x.n] v fun e v' => e = .returned (.string ⟨(Lib.itoa x.n).toArray⟩) ∧ Below W.heap.size W v') := Lib.hid fun v hv => by
   refine (print_any v (HKW.out.later hv).env.pow x.n (by rw [← k2]; exact hfit.1) (by rw [← k2]; exact hfit.2)).mono ?_
   rintro e v' ⟨rfl, hb'⟩
   exact ⟨rfl, hv.trans (hb'.mono hv.size)⟩
  have HAD : Hid (∀ v, Below W.heap.size W v → Calls Tryz.prog 32 #[.pointer (some ⟨wb, 0, none⟩), .string ⟨(Lib.itoa x.n).toArray⟩] v fun e v' => e = .returned (.tuple #[]) ∧ WrAt v' B wb bt way (acc ++ T) ∧ Fr (WrS W B wb) W v') := Lib.hid fun v hv => by
   rw [← HTT.out]
   exact HADD.out v hv HLEN.out
  clear k1 k2 k3 k4 k5 hk hTT hT hx hw hK hKW hbW hx0 cc hfin hkind hfit hlen
  unfold putV at c3 HS HS1
  rw [tvV_lit]
  go_enter Tryz.func33, Tryz.ntmps33
  go_upto_region 6 with fail
  rw [← hW]
  clear hW
  go_region_held3 (fun v => v.cell? ⟨wb, 3, none⟩ = some (.func (.func 32) #[.pointer (some ⟨wb, 0, none⟩)] #[]) ∧ v.cell? ⟨u.heap.size, 1, none⟩ = some (.int .i64 x.n) ∧ v.cell? ⟨u.heap.size, 2, none⟩ = some (.string ⟨x.s.toArray⟩))
   (first | (with_reducible exact HS.out _ (by assumption)) | (with_reducible exact HS1.out _ (by assumption)))
   (first | (go_at_call 63; with_reducible refine (HPR.out _ (by assumption)).mono ?_; rintro e v1 ⟨rfl, hb1⟩) | (go_at_call 32; with_reducible refine (HAD.out _ (by assumption)).mono ?_; rintro e v2 ⟨rfl, h1, h2⟩; have hg := And.intro h1 h2))
  go_wp2_with fail
  go_end0
  exact ⟨rfl, h1, HFIN.out _ h2⟩
 ·have hTT : T = textF way x.s := by rw [hT, wr_3 (k1.trans hk), k3]
  have b1 : (x.k == 1) = false := by rw [hk]; rfl
  have b2 : (x.k == 2) = false := by rw [hk]; rfl
  have b3 : (x.k == 3) = true := by rw [hk]; rfl
  have HTT := Lib.hid hTT
  have HPR : Hid (∀ v, Below W.heap.size W v → Calls Tryz.prog 64 #[.pointer (some ⟨wb, 0, none⟩), .string ⟨x.s.toArray⟩] v fun e v' => e = .returned (.string ⟨(textF way x.s).toArray⟩) ∧ Below W.heap.size W v') := Lib.hid fun v hv => by
   refine (text_any v B wb bt way acc x.s (HKW.out.later hv).at' (by rw [← k3]; exact hnm) (HKW.out.later hv).env.bits).mono ?_
   rintro e v' ⟨rfl, hb'⟩
   exact ⟨rfl, hv.trans (hb'.mono hv.size)⟩
  have HAD : Hid (∀ v, Below W.heap.size W v → Calls Tryz.prog 32 #[.pointer (some ⟨wb, 0, none⟩), .string ⟨(textF way x.s).toArray⟩] v fun e v' => e = .returned (.tuple #[]) ∧ WrAt v' B wb bt way (acc ++ T) ∧ Fr (WrS W B wb) W v') := Lib.hid fun v hv => by
   rw [← HTT.out]
   exact HADD.out v hv HLEN.out
  clear k1 k2 k3 k4 k5 hk hTT hT hx hw hK hKW hbW hx0 cc hfin hkind hfit hlen
  unfold putV at c3 HS HS1
  rw [tvV_lit]
  go_enter Tryz.func33, Tryz.ntmps33
  go_upto_region 8 with fail
  rw [← hW]
  clear hW
  go_region_held3 (fun v => v.cell? ⟨wb, 3, none⟩ = some (.func (.func 32) #[.pointer (some ⟨wb, 0, none⟩)] #[]) ∧ v.cell? ⟨u.heap.size, 1, none⟩ = some (.int .i64 x.n) ∧ v.cell? ⟨u.heap.size, 2, none⟩ = some (.string ⟨x.s.toArray⟩))
   (first | (with_reducible exact HS.out _ (by assumption)) | (with_reducible exact HS1.out _ (by assumption)))
   (first | (go_at_call 64; with_reducible refine (HPR.out _ (by assumption)).mono ?_; rintro e v1 ⟨rfl, hb1⟩) | (go_at_call 32; with_reducible refine (HAD.out _ (by assumption)).mono ?_; rintro e v2 ⟨rfl, h1, h2⟩; have hg := And.intro h1 h2))
  go_wp2_with fail
  go_end0
  exact ⟨rfl, h1, HFIN.out _ h2⟩
 ·have b1 : (x.k == 1) = false := by rw [hk]; rfl
  have b2 : (x.k == 2) = false := by rw [hk]; rfl
  have b3 : (x.k == 3) = false := by rw [hk]; rfl
  have HCO : Hid (∀ v, Below W.heap.size W v → Calls Tryz.prog 65 #[.pointer (some ⟨wb, 0, none⟩), .agg #[.int .i64 x.k, .int .i64 x.n, .string ⟨x.s.toArray⟩, .slice x.A x.len x.cap], .int .i64 most] v fun e v' => e = .returned (.tuple #[]) ∧ WrAt v' B wb bt way (acc ++ T) ∧ Fr (WrS W B wb) W v') := Lib.hid fun v hv => by
   have hk := HKW.out.later hv
   rw [← tvV_lit]
   have hb0 : B0 ≤ u.heap.size := Nat.le_trans HKW.out.b0B HBU.out
   have hx2 := hx.blw ((HBW.out.mono hb0).trans (hv.mono (Nat.le_trans hb0 HBW.out.size)))
   refine (hc v B0 B wb bt bm acc x t most hn hw (k1.trans ‹x.k = 4›) hx2 hk hlen).mono ?_
   rintro e v' ⟨rfl, h1, h2⟩
   exact ⟨rfl, by rw [hT]; exact h1, WrS.trans (Fr.of_below _ hv) h2⟩
  clear k1 k2 k3 k4 k5 hk hT hx hw hK hKW hbW hx0 cc hfin hkind hfit hlen
  unfold putV at c3 HS HS1
  rw [tvV_lit]
  go_enter Tryz.func33, Tryz.ntmps33
  go_upto_region 2 with fail
  rw [← hW]
  clear hW
  go_wp2_with fail
  refine (HCO.out W hbr).mono ?_
  rintro e W2 ⟨rfl, h1, h2⟩
  go_wp2_with fail
  go_end0
  exact ⟨rfl, h1, HFIN.out _ h2⟩
end Go.Proofs.YtcallkljcjimiaaGreatDoor
