import Derived.Test.YtcallkljcjimiaaGreatDoorJW37
import Derived.Test.YtcallkljcjimiaaGreatDoorRows
import Derived.WalkKit
import Derived.ProofKit
import Derived.OpenShut
namespace Go.Proofs.YtcallkljcjimiaaGreatDoor
open Go.RowKit Go.Maps
set_option maxRecDepth 100000
def GoodPost (u : World) (l : List PartT) (e : Ending) (u' : World) : Prop :=
 ∃ x : TV, e = .returned (tvV x) ∧ TermS u' (newB u.heap.size u') x (goodT l) ∧ Below u.heap.size u u'
theorem of_size (l : List PartT) : (ofT l).1.size ≤ 1 + 7 * (ofT l).2 := (ofF_thin _ l).2
set_option maxHeartbeats 8000000 in
theorem good_any (l : List PartT) (u : World) (A : Option Addr) (c : Nat) (hlc : l.length ≤ c) (hp : PartsAt u A l) (hl : l.length ≤ 100000) :
    Calls Tryz.prog 13 #[.slice A l.length c] u fun e u' => GoodPost u l e u' := by
 obtain ⟨R, hR⟩ : ∃ R : Ending → World → Prop, R = fun e u' => GoodPost u l e u' := ⟨_, rfl⟩
 rw [← hR]
 have HRR := Lib.hid hR
 clear hR
 obtain ⟨W, hW⟩ : ∃ W, W = u.alloc (.cells #[.int .i64 0, .int .i64 0, .string ⟨#[]⟩, .slice none 0 0] 28) := ⟨_, rfl⟩
 have hbW : Below u.heap.size u W := by rw [hW]; exact (Below.refl _ _).alloc (Nat.le_refl _) _
 obtain ⟨br, hbr⟩ : ∃ b, b = u.heap.size := ⟨_, rfl⟩
 have hr0 : W.heap[br]? = some (.cells #[.int .i64 0, .int .i64 0, .string ⟨#[]⟩, .slice none 0 0] 28 (0, 0)) := by rw [hW, hbr]; exact heap_alloc_new _ _
 have hC := of_all l.length l W A c (Nat.le_refl _) hlc (hp.later hbW)
 have hsz : (ofT l).1.size ≤ 1000000 := by have := of_size l; have := ofT_le l; omega
 have HC := Lib.hid hC
 have HBW := Lib.hid hbW
 have HR0 := Lib.hid hr0
 have HSZ := Lib.hid hsz
 have HB := Lib.hid hbr
 clear hC hbW hr0 hsz hp hl hlc
 go_enter Tryz.func13, Tryz.ntmps13
 go_upto_region 1 with fail
 rw [← hW, ← hbr]
 clear hW hbr
 go_wp2_with fail
 refine HC.out.mono ?_
 rintro e W1 ⟨x, rfl, hx, hb1⟩
 rw [tvV_lit]
 obtain ⟨V, hV⟩ : ∃ V, V = W1.alloc (.cells #[.int .i64 x.k, .int .i64 x.n, .string ⟨x.s.toArray⟩, .slice x.A x.len x.cap] 28) := ⟨_, rfl⟩
 obtain ⟨bx, hbx⟩ : ∃ b, b = W1.heap.size := ⟨_, rfl⟩
 have hbV : Below W1.heap.size W1 V := by rw [hV]; exact (Below.refl _ _).alloc (Nat.le_refl _) _
 have hx0 : V.heap[bx]? = some (.cells #[.int .i64 x.k, .int .i64 x.n, .string ⟨x.s.toArray⟩, .slice x.A x.len x.cap] 28 (0, 0)) := by rw [hV, hbx]; exact heap_alloc_new _ _
 have hxV : TermAt V V.heap.size x (ofT l).1 := ((hx.at (B := W1.heap.size) fun q hq => hq.2).blw hbV).up hbV.size
 have hM := mend_all (ofT l).1.size (ofT l).1 V x (Nat.le_refl _) (by have := HSZ.out; omega) hxV
 rw [tvV_lit] at hM
 have HM := Lib.hid hM
 have hrl : br < W.heap.size := (Array.getElem?_eq_some_iff.1 HR0.out).1
 have HBV : Hid (Below u.heap.size u V) := Lib.hid ((HBW.out.trans (hb1.mono HBW.out.size)).trans (hbV.mono (Nat.le_trans HBW.out.size hb1.size)))
 have HRV : Hid (V.heap[br]? = some (.cells #[.int .i64 0, .int .i64 0, .string ⟨#[]⟩, .slice none 0 0] 28 (0, 0))) := Lib.hid (by rw [hbV.block br (by have := hb1.size; omega), hb1.block br hrl]; exact HR0.out)
 have HX0 := Lib.hid hx0
 clear hM hx hb1 hbV hx0 hxV hrl
 go_upto_region 2 with fail
 rw [← hV, ← hbx]
 clear hV hbx
 obtain ⟨f0, f1, f2, f3, -⟩ := four_at HX0.out
 go_wp2_with fail
 refine HM.out.mono ?_
 rintro e W2 ⟨y, rfl, hy, hb2⟩
 have hrl : br < V.heap.size := (Array.getElem?_eq_some_iff.1 HRV.out).1
 have HR2 := Lib.hid ((hb2.block br hrl).trans HRV.out)
 have HFIN : Hid (GoodPost u l (.returned (tvV y)) ((((W2.setCell ⟨br, 0, none⟩ (.int .i64 y.k)).setCell ⟨br, 1, none⟩ (.int .i64 y.n)).setCell ⟨br, 2, none⟩ (.string ⟨y.s.toArray⟩)).setCell ⟨br, 3, none⟩ (.slice y.A y.len y.cap))) := Lib.hid (by
  have h0 := HB.out
  refine ⟨y, rfl, ?_, ?_⟩
  ·refine hy.keep (fun q hq => ⟨by have := hq.1; have := HBV.out.size; omega, ?_⟩) (fun q hq => blk_set4_ne _ _ _ _ (by have := hq.1; omega))
   have := hq.2
   simpa using this
  ·have h1 := HBV.out.trans (hb2.mono HBV.out.size)
   exact (((h1.setCell (p := ⟨br, 0, none⟩) (by simp only; omega) _).setCell (p := ⟨br, 1, none⟩) (by simp only; omega) _).setCell (p := ⟨br, 2, none⟩) (by simp only; omega) _).setCell (p := ⟨br, 3, none⟩) (by simp only; omega) _)
 have HC4 := Lib.hid (blk_set4 HR2.out rfl (.int .i64 y.k) (.int .i64 y.n) (.string ⟨y.s.toArray⟩) (.slice y.A y.len y.cap))
 rw [tvV_lit]
 clear f0 f1 f2 f3 hy hb2 hrl
 obtain ⟨r0, r1, r2, r3, rf⟩ := four_at HR2.out
 go_wp2_with fail
 obtain ⟨z0, z1, z2, z3, -⟩ := four_at HC4.out
 refine ⟨rfl, .agg #[.int .i64 y.k, .int .i64 y.n, .string ⟨y.s.toArray⟩, .slice y.A y.len y.cap], by simp [results, Tryz.results13, go_sem, z0, z1, z2, z3], ?_⟩
 rw [HRR.out]
 exact HFIN.out
theorem great_any (u : World) (A : Option Addr) (n c : Nat) : Calls Tryz.prog 10 #[.slice A n c] u fun e u' => e = .returned (.bool (decide (60 < n))) ∧ u' = u := by
 go_enter Tryz.func10, Tryz.ntmps10
 go_wp2_with fail
 go_ret
 exact ⟨by congr 2; simp; omega, rfl⟩
def PartsIn (u : World) (A : Option Addr) (n c : Nat) : Prop := n ≤ 60 → ∃ l : List PartT, l.length = n ∧ n ≤ c ∧ PartsAt u A l ∧ NumOk l
theorem put_good {es : List (OpK × OpV)} {way : Int} {t : Tm} (hw : way = 0 ∨ way = 1 ∨ way = 2) (h : checkT t = 0) : putF es way t = (wrT es way t 1200, 0) := by
 unfold putF
 rw [if_neg (fun e => e hw), if_pos h]
open Go.ChangeShapes Go.WideShapes Go.ChangeAt Go.RowKit
section
variable {H : Type} {enc : TypeId × Value → H} {P : Program}
theorem trodAll_below (hl : laidOutB P = true) {W W' : World} (hb : Below W.heap.size W W') : ∀ (ts : List TypeId) (vs : List Value) (ds : List (DataW H)) (ps : List MemPlace), (∀ t ∈ ts, P.readableRec t = true ∧ t < P.types.size) →
    DataW.TrodAll enc P W 0 (fun _ => true) true ts vs ds ps → (∀ x ∈ ps, x.block < W.heap.size) → DataW.TrodAll enc P W' 0 (fun b => decide (b < W.heap.size)) true ts vs ds ps
 | [], [], [], _, _, h, _ => h
 | [], [], _ :: _, _, _, h, _ => h.elim
 | [], _ :: _, _, _, _, h, _ => h.elim
 | _ :: _, [], _, _, _, h, _ => h.elim
 | _ :: _, _ :: _, [], _, _, h, _ => h.elim
 | t :: ts, v :: vs, d :: ds, ps, ht, h, hlt => by
  obtain ⟨p, q, h1, h2, rfl⟩ := h
  exact ⟨p, q, Below.trod hl (ht t (List.mem_cons_self ..)).1 (ht t (List.mem_cons_self ..)).2 h1 hb (fun x hx => hlt x (List.mem_append_left _ hx)),
   trodAll_below hl hb ts vs ds q (fun t' h' => ht t' (List.mem_cons_of_mem _ h')) h2 (fun x hx => hlt x (List.mem_append_right _ hx)), rfl⟩
theorem law_post (hl : laidOutB P = true) {f : Func} {s : ChangeSpec} {W W' : World} {args : Array Value} {ds gs : List (DataW H)} {before : List MemPlace} {tb : TypeId} (hbool : P.underlying tb = some .bool) (hres : f.resultTypes = #[tb])
    (hv : s.vars = []) (hW : DataW.Whole enc P f.params.toList s.vars false W args.toList ds gs before) (hb : Below W.heap.size W W')
    (hts : ∀ t ∈ f.params.toList, P.readableRec t = true ∧ t < P.types.size) (h1 : (s.fn H (ds ++ gs)).results = [.lit (.bool true)]) (h2 : (s.fn H (ds ++ gs)).args = ds) (h3 : (s.fn H (ds ++ gs)).vars = []) :
    s.post enc P f false true false false W args (.bool true) W' := by
 have hlt := hW.lt
 have hW' := hW
 obtain ⟨p, q, hA, hV, rfl, _, _⟩ := hW
 rw [hv] at hV
 have hV' := hV
 obtain ⟨hg, hq⟩ := trodVars_none hV
 subst hg
 subst hq
 refine ⟨ds, [], _, [], p, [], hW', ?_, ?_, ?_, hb.frame _, fun h => by cases h⟩
 ·rw [h1, hres]
  exact trodAll_mk1 (shut_bool hbool true)
 ·rw [h2]
  exact trodAll_below hl hb _ _ _ _ hts hA (fun x hx => hlt x (List.mem_append_left _ hx))
 ·rw [hv, h3]
  rfl
end
end Go.Proofs.YtcallkljcjimiaaGreatDoor
