import Derived.Test.YtiffopheamnngaaGreatDoorJT12
namespace Go.Proofs.YtiffopheamnngaaGreatDoor
open Go.RowKit Go.Maps
set_option maxRecDepth 100000
set_option maxHeartbeats 8000000 in
theorem rlist_any (u : World) (L : List Nat) (hL : ∀ k ∈ L, k < u.heap.size) (A : Option Addr) (n c : Nat) (xs : List TV) (l : List Tm) (hs : SlTerms u A n xs) (hx : TermsS u (SOf u L) xs l) (y : TV) (tl : Tm) (hy : TermS u (SOf u L) y tl) (hn : n ≤ 1000000) :
    Calls Tryz.prog 92 #[.slice A n c, tvV y] u fun e u' => ∃ y', e = .returned (tvV y') ∧ TermS u' (SOf u' L) y' (listT l tl) ∧ Below u.heap.size u u' := by
 have hln : l.length = n := hx.1.symm.trans hs.len
 have HS := Lib.hid hs
 have HX := Lib.hid hx
 have HL := Lib.hid hL
 have hw0 : IntKind.i64.wrap ((n : Int) - 1) = (n : Int) - 1 := IntWalk.i64_in _ (by omega)
 have h0 : LInv u L l tl n (((u.alloc (.cells #[.int .i64 y.k, .int .i64 y.n, .string ⟨y.s.toArray⟩, .slice y.A y.len y.cap] 34)).alloc (.cells #[.int .i64 0, .int .i64 0, .string ⟨#[]⟩, .slice none 0 0] 34)).alloc (.cells #[.int .i64 y.k, .int .i64 y.n, .string ⟨y.s.toArray⟩, .slice y.A y.len y.cap] 34)) y := by
  have hb : Below u.heap.size u (((u.alloc (.cells #[.int .i64 y.k, .int .i64 y.n, .string ⟨y.s.toArray⟩, .slice y.A y.len y.cap] 34)).alloc (.cells #[.int .i64 0, .int .i64 0, .string ⟨#[]⟩, .slice none 0 0] 34)).alloc (.cells #[.int .i64 y.k, .int .i64 y.n, .string ⟨y.s.toArray⟩, .slice y.A y.len y.cap] 34)) :=
   (((Below.refl _ _).alloc (Nat.le_refl _) _).alloc (by simp) _).alloc (by simp; omega) _
  refine ⟨?_, hb, ?_, ?_⟩
  ·rw [show l.drop n = [] by rw [← hln, List.drop_length]]
   exact hy.step fun b hb' => by
    have hk := hb.block b hb'.1.lt
    refine ⟨⟨hb'.1.keep hk, fun e => ?_⟩, hk⟩
    rcases List.mem_cons.1 e with e | e
    ·have := hb'.1.lt; omega
    rcases List.mem_cons.1 e with e | e
    ·have := hb'.1.lt; omega
    ·exact hb'.2 e
  ·have := heap_alloc_new ((u.alloc (.cells #[.int .i64 y.k, .int .i64 y.n, .string ⟨y.s.toArray⟩, .slice y.A y.len y.cap] 34)).alloc (.cells #[.int .i64 0, .int .i64 0, .string ⟨#[]⟩, .slice none 0 0] 34)) (.cells #[.int .i64 y.k, .int .i64 y.n, .string ⟨y.s.toArray⟩, .slice y.A y.len y.cap] 34)
   simpa using this
  ·have := heap_alloc_new (u.alloc (.cells #[.int .i64 y.k, .int .i64 y.n, .string ⟨y.s.toArray⟩, .slice y.A y.len y.cap] 34)) (.cells #[.int .i64 0, .int .i64 0, .string ⟨#[]⟩, .slice none 0 0] 34)
   rw [Below.heap_alloc _ _ _ (by simp)]
   simpa using this
 have H0 := Lib.hid h0
 clear hs hx hL hy h0
 unfold tvV
 go_enter Tryz.func92, Tryz.ntmps92
 go_wp2_with fail
 go_loopw [6] (fun i wr => ∃ a, a ≤ n ∧ i = .int .i64 ((a : Int) - 1) ∧ Hid (∃ y', LInv u L l tl a wr y')) (fun i _ => (intOf i + 1).toNat)
 case atStart => exact ⟨n, Nat.le_refl _, rfl, Lib.hid ⟨y, H0.out⟩⟩
 case round =>
  obtain ⟨a, ha, rfl, HR⟩ := hrel
  obtain ⟨y', hI⟩ := HR.out
  have HI := Lib.hid hI
  have hlt := hI.lt
  obtain ⟨d0, d1, d2, d3, df⟩ := four_at hI.here
  obtain ⟨r0, r1, r2, r3, rf⟩ := four_at hI.res
  clear hI HR
  obtain _ | a := a
  ·go_wp2_with fail
   have hF : Below u.heap.size u ((((wr.setCell ⟨u.heap.size + 1, 0, none⟩ (.int .i64 y'.k)).setCell ⟨u.heap.size + 1, 1, none⟩ (.int .i64 y'.n)).setCell ⟨u.heap.size + 1, 2, none⟩ (.string ⟨y'.s.toArray⟩)).setCell ⟨u.heap.size + 1, 3, none⟩ (.slice y'.A y'.len y'.cap)) :=
    (((HI.out.below.setCell (p := ⟨u.heap.size + 1, 0, none⟩) (by simp) _).setCell (p := ⟨u.heap.size + 1, 1, none⟩) (by simp) _).setCell (p := ⟨u.heap.size + 1, 2, none⟩) (by simp) _).setCell (p := ⟨u.heap.size + 1, 3, none⟩) (by simp) _
   refine bodyPost_ret (v := .agg #[.int .i64 y'.k, .int .i64 y'.n, .string ⟨y'.s.toArray⟩, .slice y'.A y'.len y'.cap]) (by simp [results, Tryz.results92, go_sem, r0, r1, r2, r3]) rfl ⟨y', rfl, ?_, hF⟩
   refine HI.out.t.step fun b hb => ?_
   have hne : b ≠ u.heap.size + 1 := fun e => hb.2 (by rw [e]; simp)
   have hk := blk_set4_ne (w := wr) (.int .i64 y'.k) (.int .i64 y'.n) (.string ⟨y'.s.toArray⟩) (.slice y'.A y'.len y'.cap) hne
   exact ⟨⟨hb.1.keep hk, fun e => hb.2 (by simp [e])⟩, hk⟩
  ·have hai : a < xs.length := by rw [HS.out.len]; omega
   have hal : a < l.length := by omega
   obtain ⟨b, off, e1, e2, e3⟩ := HS.out.at' a _ (List.getElem?_eq_getElem hai)
   have hya := HX.out.2 a _ _ (List.getElem?_eq_getElem hai) (List.getElem?_eq_getElem hal)
   have hla := List.getElem?_eq_getElem hal
   generalize xs[a] = ya at e3 hya
   generalize l[a] = ta at hla hya
   subst e1
   have q0 : wr.cell? ⟨b, off + a * 4, none⟩ = some (.int .i64 ya.k) := (HI.out.below.cell (p := ⟨b, off + a * 4, none⟩) e2).trans (e3 0 _ rfl)
   have q1 : wr.cell? ⟨b, off + a * 4 + 1, none⟩ = some (.int .i64 ya.n) := (HI.out.below.cell (p := ⟨b, off + a * 4 + 1, none⟩) e2).trans (e3 1 _ rfl)
   have q2 : wr.cell? ⟨b, off + a * 4 + 2, none⟩ = some (.string ⟨ya.s.toArray⟩) := (HI.out.below.cell (p := ⟨b, off + a * 4 + 2, none⟩) e2).trans (e3 2 _ rfl)
   have q3 : wr.cell? ⟨b, off + a * 4 + 3, none⟩ = some (.slice ya.A ya.len ya.cap) := (HI.out.below.cell (p := ⟨b, off + a * 4 + 3, none⟩) e2).trans (e3 3 _ rfl)
   have hlast := (HI.out.round HL.out hla hya).drew
   rw [World.setCell_alloc_past _ _ _ _ hlt, World.setCell_alloc_past _ _ _ _ (by simpa using hlt), World.setCell_alloc_past _ _ _ _ (by simpa using hlt), World.setCell_alloc_past _ _ _ _ (by simpa using hlt)] at hlast
   have HN := Lib.hid hlast
   have ea : (((a + 1 : Nat) : Int) - 1) = (a : Int) := by omega
   have ha1 : (0 : Int) ≤ (a : Int) := by omega
   have ha2 : (a : Int) < (n : Int) := by omega
   have hwa : IntKind.i64.wrap ((a : Int) - 1) = (a : Int) - 1 := IntWalk.i64_in _ (by omega)
   rw [ea]
   clear hlast hya hla e3 e2
   go_wp2_with fail
   (refine wp_region_still_tail 5 (by kernel_rfl) (by kernel_rfl) ?_; simp only [List.take_succ_cons, List.take_zero, List.drop_succ_cons, List.drop_zero]; repeat (with_reducible refine wpStill_step ?_; intro KK hKK; go_simp; with_reducible refine hKK _ ?_; clear hKK KK)); try (with_reducible refine wpStill_nil ?_)
   go_wp2_with fail
   go_roundw
   case rel => exact ⟨a, by omega, rfl, Lib.hid ⟨_, HN.out⟩⟩
   case measure =>
    simp only [intOf]
    omega
theorem newX_sof {s : Nat} {u : World} {X : List Nat} {b : Nat} (h : NewX s u (· ∈ X) b) : SOf u (List.range s ++ X) b :=
 ⟨h.2.1, fun e => by
  rcases List.mem_append.1 e with e | e
  ·have := List.mem_range.1 e; have := h.1; omega
  ·exact h.2.2 e⟩
theorem sof_newX {s : Nat} {u : World} {X : List Nat} {b : Nat} (h : SOf u (List.range s ++ X) b) : NewX s u (· ∈ X) b :=
 ⟨Nat.le_of_not_lt fun e => h.2 (List.mem_append_left _ (List.mem_range.2 e)), h.1, fun e => h.2 (List.mem_append_right _ e)⟩
theorem rlist_new (u : World) (s : Nat) (hs : s ≤ u.heap.size) (X : List Nat) (hX : ∀ k ∈ X, k < u.heap.size) (A : Option Addr) (n c : Nat) (xs : List TV) (l : List Tm) (hsl : SlTerms u A n xs) (hx : TermsS u (NewX s u (· ∈ X)) xs l) (y : TV) (tl : Tm) (hy : TermS u (NewX s u (· ∈ X)) y tl) (hn : n ≤ 1000000) :
    Calls Tryz.prog 92 #[.slice A n c, tvV y] u fun e u' => ∃ y', e = .returned (tvV y') ∧ TermS u' (NewX s u' (· ∈ X)) y' (listT l tl) ∧ Below u.heap.size u u' := by
 have hL : ∀ k ∈ List.range s ++ X, k < u.heap.size := fun k hk => by
  rcases List.mem_append.1 hk with e | e
  ·have := List.mem_range.1 e; omega
  ·exact hX k e
 refine (rlist_any u (List.range s ++ X) hL A n c xs l hsl (hx.keep (fun b hb => newX_sof hb) fun _ _ => rfl) y tl (hy.keep (fun b hb => newX_sof hb) fun _ _ => rfl) hn).mono ?_
 rintro e u' ⟨y', rfl, h1, h2⟩
 exact ⟨y', rfl, h1.keep (fun b hb => sof_newX hb) fun _ _ => rfl, h2⟩
set_option maxHeartbeats 4000000 in
theorem look_any {E : RqE} {u : World} {nv : Value} {q : QS} {bad : Bool} (h : RqAt E u nv q bad) :
    Calls Tryz.prog 37 #[.pointer (some ⟨E.rb, 0, none⟩)] u fun e u' => e = .returned (tokW (peekF E.ts q.at')) ∧ Below u.heap.size u u' := by
 obtain ⟨⟨c0, c1, -, -, -, -⟩, -⟩ := h.cells
 have hlt := h.lt
 have hf := h.few
 have hin := h.in'
 have HT := Lib.hid h.toks
 have hlu : E.B ≤ u.heap.size := by have := h.base; omega
 clear h
 obtain ⟨rb, B, ts, es, L, A, c, rt⟩ := E
 simp only at c0 c1 hlt hf hin HT hlu ⊢
 obtain ⟨m, hm⟩ : ∃ a, a = q.at' := ⟨_, rfl⟩
 rw [← hm] at c1 hin ⊢
 clear hm
 obtain ⟨n, hn⟩ : ∃ n, n = ts.length := ⟨_, rfl⟩
 rw [← hn] at c0 hf hin
 by_cases hlast : m < n
 ·have hg := List.getElem?_eq_getElem (hn ▸ hlast : m < ts.length)
  have hp : peekF ts m = ts[m]'(hn ▸ hlast) := by unfold peekF; rw [List.getD_eq_getElem?_getD, hg]; rfl
  rw [hp]
  generalize ts[m]'_ = t at hg
  obtain ⟨b, off, e1, e2, d0, d1, d2, d3, d4, d5⟩ := HT.out.at' _ t hg
  subst e1
  have hbl : b < u.heap.size := by omega
  have hl2 : (m : Int) < (n : Int) := by omega
  have hl3 : (0 : Int) ≤ (m : Int) := by omega
  have hwm : IntKind.i64.wrap (m : Int) = (m : Int) := IntWalk.i64_in _ (by omega)
  clear hg hp hn
  unfold tokW
  go_enter Tryz.func37, Tryz.ntmps37
  go_wp2_with fail
  go_quiet (fail)
  go_wp2_with fail
  have hbW : Below u.heap.size u ((u.alloc (.cells #[.int .i64 0, .int .i64 0, .int .i64 0, .string ⟨#[]⟩, .bool false, .bool false] 48)).drewN nq) := below_drewN' (below_alloc' (Below.refl _ _) _) nq
  have hnew : ((u.alloc (.cells #[.int .i64 0, .int .i64 0, .int .i64 0, .string ⟨#[]⟩, .bool false, .bool false] 48)).drewN nq).heap[u.heap.size]? = some (.cells #[.int .i64 0, .int .i64 0, .int .i64 0, .string ⟨#[]⟩, .bool false, .bool false] 48 (0, 0)) := heap_alloc_new u _
  generalize (u.alloc (.cells #[.int .i64 0, .int .i64 0, .int .i64 0, .string ⟨#[]⟩, .bool false, .bool false] 48)).drewN nq = W at hbW hnew ⊢
  have w0 := (hbW.cell (p := ⟨rb, 0, none⟩) hlt).trans c0
  have w1 := (hbW.cell (p := ⟨rb, 1, none⟩) hlt).trans c1
  have y0 := (hbW.cell (p := ⟨b, off + m * 6, none⟩) hbl).trans d0
  have y1 := (hbW.cell (p := ⟨b, off + m * 6 + 1, none⟩) hbl).trans d1
  have y2 := (hbW.cell (p := ⟨b, off + m * 6 + 2, none⟩) hbl).trans d2
  have y3 := (hbW.cell (p := ⟨b, off + m * 6 + 3, none⟩) hbl).trans d3
  have y4 := (hbW.cell (p := ⟨b, off + m * 6 + 4, none⟩) hbl).trans d4
  have y5 := (hbW.cell (p := ⟨b, off + m * 6 + 5, none⟩) hbl).trans d5
  obtain ⟨n0, n1, n2, n3, n4, n5, nf⟩ := six_at hnew
  have HBW := Lib.hid hbW
  clear c0 c1 d0 d1 d2 d3 d4 d5 hbW hnew
  (refine wp_region_still_tail 10 (by kernel_rfl) (by kernel_rfl) ?_; simp only [List.take_succ_cons, List.take_zero, List.drop_succ_cons, List.drop_zero]; repeat (with_reducible refine wpStill_step ?_; intro KK hKK; go_simp; with_reducible refine hKK _ ?_; clear hKK KK)); try (with_reducible refine wpStill_nil ?_)
  go_wp2_with fail
  have hul : u.heap.size < W.heap.size := World.block_lt_of_cell? W _ n0
  exact bodyPost_ret (v := .agg #[.int .i64 t.kind, .int .i64 t.line, .int .i64 t.n, .string ⟨t.s.toArray⟩, .bool t.opn, .bool t.tight]) (by simp [results, Tryz.results37, go_sem, n0, n1, n2, n3, n4, n5]) rfl
   ⟨rfl, ((((((HBW.out.setCell (p := ⟨u.heap.size, 0, none⟩) (Nat.le_refl _) _).setCell (p := ⟨u.heap.size, 1, none⟩) (Nat.le_refl _) _).setCell (p := ⟨u.heap.size, 2, none⟩) (Nat.le_refl _) _).setCell (p := ⟨u.heap.size, 3, none⟩) (Nat.le_refl _) _).setCell (p := ⟨u.heap.size, 4, none⟩) (Nat.le_refl _) _).setCell (p := ⟨u.heap.size, 5, none⟩) (Nat.le_refl _) _).drew⟩
 ·have hp : peekF ts m = noTok := by unfold peekF; rw [List.getD_eq_getElem?_getD, List.getElem?_eq_none (by omega)]; rfl
  rw [hp]
  have hl2 : ¬ (m : Int) < (n : Int) := by omega
  clear hp hn
  unfold tokW noTok
  go_enter Tryz.func37, Tryz.ntmps37
  go_wp2_with fail
  go_quiet (fail)
  have hbW : Below u.heap.size u ((u.alloc (.cells #[.int .i64 0, .int .i64 0, .int .i64 0, .string ⟨#[]⟩, .bool false, .bool false] 48)).drewN nq) := below_drewN' (below_alloc' (Below.refl _ _) _) nq
  have hnew : ((u.alloc (.cells #[.int .i64 0, .int .i64 0, .int .i64 0, .string ⟨#[]⟩, .bool false, .bool false] 48)).drewN nq).heap[u.heap.size]? = some (.cells #[.int .i64 0, .int .i64 0, .int .i64 0, .string ⟨#[]⟩, .bool false, .bool false] 48 (0, 0)) := heap_alloc_new u _
  generalize (u.alloc (.cells #[.int .i64 0, .int .i64 0, .int .i64 0, .string ⟨#[]⟩, .bool false, .bool false] 48)).drewN nq = W at hbW hnew ⊢
  obtain ⟨n0, n1, n2, n3, n4, n5, nf⟩ := six_at hnew
  have HBW := Lib.hid hbW
  clear hbW hnew
  go_wp2_with fail
  have hul : u.heap.size < W.heap.size := World.block_lt_of_cell? W _ n0
  exact bodyPost_ret (v := .agg #[.int .i64 0, .int .i64 0, .int .i64 0, .string ⟨#[]⟩, .bool false, .bool false]) (by simp [results, Tryz.results37, go_sem, n0, n1, n2, n3, n4, n5]) rfl
   ⟨rfl, (((((HBW.out.setCell (p := ⟨u.heap.size, 0, none⟩) (Nat.le_refl _) _).setCell (p := ⟨u.heap.size, 1, none⟩) (Nat.le_refl _) _).setCell (p := ⟨u.heap.size, 2, none⟩) (Nat.le_refl _) _).setCell (p := ⟨u.heap.size, 3, none⟩) (Nat.le_refl _) _).setCell (p := ⟨u.heap.size, 4, none⟩) (Nat.le_refl _) _).setCell (p := ⟨u.heap.size, 5, none⟩) (Nat.le_refl _) _⟩
section
variable {E : RqE} {u u' : World} {nv : Value} {q : QS} {bad : Bool}
theorem RqAt.step (h : RqAt E u nv q bad) (hlt : q.at' < E.ts.length) : RqAt E (u.setCell ⟨E.rb, 1, none⟩ (.int .i64 ((q.at' : Int) + 1))) nv (q.go 1) bad :=
 h.put 1 _ (by simp [rqCells, QS.go]) (by show q.at' + 1 ≤ _; omega) rfl ⟨h.cnt.1, by have := h.cnt.2; show q.cnt ≤ ((q.at' + 1 : Nat) : Int); omega⟩ (by have := h.nm; show q.names.length ≤ q.at' + 1; omega)
theorem RqAt.spoil (h : RqAt E u nv q bad) : RqAt E (u.setCell ⟨E.rb, 5, none⟩ (.bool true)) nv q true :=
 h.put 5 _ (by simp [rqCells]) h.in' rfl h.cnt h.nm
set_option maxHeartbeats 4000000 in
theorem punctQ_any (h : RqAt E u nv q bad) (c : UInt8) :
    Calls Tryz.prog 93 #[.pointer (some ⟨E.rb, 0, none⟩), .string ⟨#[c]⟩] u fun e u' => e = .returned (.bool (isP E.ts q.at' c)) ∧ Below u.heap.size u u' := by
 have HA := Lib.hid h
 clear h
 unfold isP
 go_enter Tryz.func93, Tryz.ntmps93
 go_wp2_with fail
 refine (look_any HA.out).mono ?_
 rintro e w1 ⟨rfl, hb⟩
 simp only [tokW]
 go_wp2_with fail
 all_goals rename_i hk6
 ·refine bodyPost_ret (v := .bool ((peekF E.ts q.at').s == [c])) (by simp [results, Tryz.results93, go_sem]) rfl ⟨?_, hb.alloc hb.size _⟩
  rw [decide_eq_true hk6, Bool.true_and]
  by_cases h2 : (peekF E.ts q.at').s = [c]
  ·rw [decide_eq_true h2, beq_iff_eq.2 h2]
  ·rw [decide_eq_false h2, beq_eq_false_iff_ne.2 h2]
 ·exact bodyPost_ret (v := .bool false) (by simp [results, Tryz.results93, go_sem]) rfl ⟨by rw [decide_eq_false hk6]; rfl, hb.alloc hb.size _⟩
set_option maxHeartbeats 4000000 in
theorem need_bad (h : RqAt E u nv q true) (c : UInt8) :
    Calls Tryz.prog 94 #[.pointer (some ⟨E.rb, 0, none⟩), .string ⟨#[c]⟩] u fun e u' => e = .returned (.tuple #[]) ∧ Below u.heap.size u u' := by
 obtain ⟨⟨-, -, -, -, -, c5⟩, -⟩ := h.cells
 clear h
 go_enter Tryz.func94, Tryz.ntmps94
 go_wp2_with fail
 exact bodyPost_ret (v := .tuple #[]) (by simp [results, Tryz.results94, go_sem]) rfl ⟨rfl, Below.refl _ _⟩
set_option maxHeartbeats 4000000 in
theorem need_any (h : RqAt E u nv q false) (c : UInt8) :
    Calls Tryz.prog 94 #[.pointer (some ⟨E.rb, 0, none⟩), .string ⟨#[c]⟩] u fun e u' => e = .returned (.tuple #[]) ∧ RqF E u nv u' nv ∧ (if isP E.ts q.at' c then RqAt E u' nv (q.go 1) false else RqAt E u' nv q true) := by
 have HA := Lib.hid h
 obtain ⟨⟨-, -, -, -, -, c5⟩, -⟩ := h.cells
 clear h
 cases hq : isP E.ts q.at' c with
 | true =>
  simp only [if_true]
  go_enter Tryz.func94, Tryz.ntmps94
  go_wp2_with fail
  refine (punctQ_any HA.out c).mono ?_
  rintro e w1 ⟨rfl, hb⟩
  rw [hq]
  have HA1 := Lib.hid (HA.out.later hb)
  have HB := Lib.hid hb
  have hl := isP_lt hq
  have hf := HA.out.few
  have hwr : IntKind.i64.wrap ((q.at' : Int) + 1) = (q.at' : Int) + 1 := IntWalk.i64_in _ (by omega)
  obtain ⟨⟨-, d1, -, -, -, -⟩, df⟩ := HA1.out.cells
  clear hb c5
  go_wp2_with fail
  exact bodyPost_end (v := .tuple #[]) (by simp [results, Tryz.results94, go_sem]) rfl ⟨rfl, (RqF.of_below E nv HB.out).set (.inl rfl) _, HA1.out.step hl⟩
 | false =>
  simp only [Bool.false_eq_true, if_false]
  go_enter Tryz.func94, Tryz.ntmps94
  go_wp2_with fail
  refine (punctQ_any HA.out c).mono ?_
  rintro e w1 ⟨rfl, hb⟩
  rw [hq]
  have HA1 := Lib.hid (HA.out.later hb)
  have HB := Lib.hid hb
  obtain ⟨⟨-, -, -, -, -, d5⟩, df⟩ := HA1.out.cells
  clear hb c5
  go_wp2_with fail
  exact bodyPost_ret (v := .tuple #[]) (by simp [results, Tryz.results94, go_sem]) rfl ⟨rfl, (RqF.of_below E nv HB.out).set (.inl rfl) _, HA1.out.spoil⟩
end
end Go.Proofs.YtiffopheamnngaaGreatDoor
namespace Go.Proofs.YtiffopheamnngaaGreatDoor
open Go.RowKit Go.Maps
set_option maxRecDepth 100000
def zTV : TV := ⟨0, 0, [], none, 0, 0⟩
def cTV (c : UInt8) : TV := ⟨2, c.toNat, [], none, 0, 0⟩
theorem zTV_rep (n : Nat) : ((List.replicate n zTV).flatMap encTV).length = n * 4 := by
 rw [length_flatMap_enc encTV_len, List.length_replicate]
theorem made_terms (z : Value) (hz : z.cells = #[.int .i64 0, .int .i64 0, .string ⟨#[]⟩, .slice none 0 0]) (n : Nat) : (madeCells z.cells (n * 4)).toList = (List.replicate n zTV).flatMap encTV := by
 rw [hz]
 apply List.ext_getElem?
 intro i
 by_cases hi : i < n * 4
 ·have h1 : i / 4 < n := by omega
  have h2 : i % 4 < 4 := Nat.mod_lt _ (by omega)
  have h3 : i / 4 * 4 + i % 4 = i := by omega
  have h4 : (List.replicate n zTV)[i / 4]? = some zTV := by rw [List.getElem?_replicate, if_pos h1]
  have e1 : (madeCells #[.int .i64 0, .int .i64 0, .string ⟨#[]⟩, .slice none 0 0] (n * 4)).toList[i]? = (encTV zTV)[i % 4]? := by
   rcases (show i % 4 = 0 ∨ i % 4 = 1 ∨ i % 4 = 2 ∨ i % 4 = 3 by omega) with e | e | e | e <;> simp [madeCells, hi, e, encTV, zTV]
  have h5 : i % 4 < (encTV zTV).length := by rw [encTV_len]; exact h2
  rw [e1, List.getElem?_eq_getElem h5]
  have := flatMap_get encTV_len _ _ _ _ _ h4 (List.getElem?_eq_getElem h5)
  rw [h3] at this
  exact this.symm
 ·rw [List.getElem?_eq_none (by simp [madeCells]; omega), List.getElem?_eq_none (by rw [zTV_rep]; omega)]
theorem term_info : ∃ i z, Tryz.prog.info? 34 = some i ∧ i.zero = some z ∧ i.size = 4 ∧ i.bytes = 56 ∧ z.cells = #[.int .i64 0, .int .i64 0, .string ⟨#[]⟩, .slice none 0 0] := by
 refine ⟨_, _, rfl, rfl, ?_, ?_, ?_⟩ <;> kernel_rfl
theorem run_terms (w : World) (n : Nat) (hn : n ≤ 1000000) :
    (Instr.makeSlice 32 (.int .i64 (n : Int)) (.int .i64 (n : Int))).run Tryz.prog w = .ok (.slice (some ⟨w.heap.size, 0, none⟩) n n) (w.alloc (.cells ((List.replicate n zTV).flatMap encTV).toArray 34)) := by
 obtain ⟨i, z, h1, h2, h3, h4, h5⟩ := term_info
 have := run_make (P := Tryz.prog) w 32 34 i z Tryz.underlying32 h1 h2 .i64 .i64 n n (by omega) (by omega) (by rw [h4]; omega) (by omega)
 simp only [Int.toNat_natCast, h3] at this
 rw [this]
 congr 3
 rw [← made_terms z h5 n]
theorem terms_row (w : World) (B n : Nat) (hB : B ≤ w.heap.size) (hn : n ≤ 1000000) : Row (w.alloc (.cells ((List.replicate n zTV).flatMap encTV).toArray 34)) B 34 4 encTV (.slice (some ⟨w.heap.size, 0, none⟩) n n) (List.replicate n zTV) := by
 refine ⟨?_, ?_⟩
 ·rw [zTV_rep, List.length_replicate]
 ·rw [List.length_replicate]
  refine .inr ⟨w.heap.size, n, ((List.replicate n zTV).flatMap encTV).toArray, rfl, hB, heap_alloc_new w _, Nat.le_refl _, by unfold maxLen; omega, ?_, ?_⟩
  ·rw [List.size_toArray, zTV_rep]
  ·exact List.take_of_length_le (by rw [zTV_rep]; exact Nat.le_refl _)
theorem row_code {w : World} {B g n cap k : Nat} {xs : List TV} (h : Row w B 34 4 encTV (.slice (some ⟨g, 0, none⟩) n cap) xs) (c : UInt8) (hk : xs[k]? = some zTV) :
    Row ((((w.setCell ⟨g, k * 4, none⟩ (.int .i64 2)).setCell ⟨g, k * 4 + 1, none⟩ (.int .i64 (c.toNat : Int))).setCell ⟨g, k * 4 + 2, none⟩ (.string ⟨#[]⟩)).setCell ⟨g, k * 4 + 3, none⟩ (.slice none 0 0)) B 34 4 encTV (.slice (some ⟨g, 0, none⟩) n cap) (xs.set k (cTV c)) := by
 have hl := (List.getElem?_eq_some_iff.1 hk).1
 have h1 := Row.put encTV_len h (j := 0) (y := ⟨2, 0, [], none, 0, 0⟩) (u := .int .i64 2) hk (by omega) rfl
 have h2 := Row.put encTV_len h1 (i := k) (j := 1) (x := ⟨2, 0, [], none, 0, 0⟩) (y := cTV c) (u := .int .i64 (c.toNat : Int)) (by rw [List.getElem?_set_self hl]) (by omega) rfl
 have h3 := Row.put encTV_len h2 (i := k) (j := 2) (x := cTV c) (y := cTV c) (u := .string ⟨#[]⟩) (by rw [List.getElem?_set_self (by simpa using hl)]) (by omega) rfl
 have h4 := Row.put encTV_len h3 (i := k) (j := 3) (x := cTV c) (y := cTV c) (u := .slice none 0 0) (by rw [List.getElem?_set_self (by simpa using hl)]) (by omega) rfl
 simpa using h4
theorem codes_terms (u : World) (S : Nat → Prop) (s : List UInt8) : TermsS u S (s.map cTV) (s.map fun c => intT c.toNat) := by
 refine ⟨by simp, fun i y t h1 h2 => ?_⟩
 rw [List.getElem?_map] at h1 h2
 cases hc : s[i]? with
 | none => rw [hc] at h1; cases h1
 | some c =>
  rw [hc] at h1 h2
  injection h1 with h1
  injection h2 with h2
  subst h1 h2
  exact .leaf _ _ _ _ _ _ _ (Nat.zero_le _)
structure CInv (W : World) (s : List UInt8) (k : Nat) (wr : World) : Prop where
 below : Below W.heap.size W wr
 row : Row wr W.heap.size 34 4 encTV (.slice (some ⟨W.heap.size, 0, none⟩) s.length s.length) ((s.take k).map cTV ++ List.replicate (s.length - k) zTV)
theorem CInv.round {W wr : World} {s : List UInt8} {k : Nat} {c : UInt8} (h : CInv W s k wr) (hc : s[k]? = some c) :
    CInv W s (k + 1) ((((wr.setCell ⟨W.heap.size, k * 4, none⟩ (.int .i64 2)).setCell ⟨W.heap.size, k * 4 + 1, none⟩ (.int .i64 (c.toNat : Int))).setCell ⟨W.heap.size, k * 4 + 2, none⟩ (.string ⟨#[]⟩)).setCell ⟨W.heap.size, k * 4 + 3, none⟩ (.slice none 0 0)) := by
 have hl := (List.getElem?_eq_some_iff.1 hc).1
 have hlen : ((s.take k).map cTV).length = k := by simp; omega
 refine ⟨(((h.below.setCell (p := ⟨W.heap.size, k * 4, none⟩) (Nat.le_refl _) _).setCell (p := ⟨W.heap.size, k * 4 + 1, none⟩) (Nat.le_refl _) _).setCell (p := ⟨W.heap.size, k * 4 + 2, none⟩) (Nat.le_refl _) _).setCell (p := ⟨W.heap.size, k * 4 + 3, none⟩) (Nat.le_refl _) _, ?_⟩
 have hz : ((s.take k).map cTV ++ List.replicate (s.length - k) zTV)[k]? = some zTV := by
  rw [List.getElem?_append_right (by omega), hlen, Nat.sub_self, List.getElem?_replicate, if_pos (by omega)]
 have h2 := row_code h.row c hz
 have e : ((s.take k).map cTV ++ List.replicate (s.length - k) zTV).set k (cTV c) = (s.take (k + 1)).map cTV ++ List.replicate (s.length - (k + 1)) zTV := by
  rw [List.set_append_right _ _ (by omega), hlen, Nat.sub_self, show s.length - k = (s.length - (k + 1)) + 1 by omega, List.replicate_succ, List.set_cons_zero, List.take_add_one, hc, List.map_append, List.append_assoc]
  rfl
 rw [e] at h2
 exact h2
set_option maxHeartbeats 8000000 in
theorem codes_any (u : World) (rb : Nat) (v : RdV) (ts : List Tok) (s : RdS) (B : Nat) (h : RdAt u rb v ts s B) (t : Tok) (hat : s.at' < ts.length) (hsh : t.s.length ≤ 1000000) (L : List Nat) (hL : ∀ k ∈ L, k < u.heap.size) :
    Calls Tryz.prog 29 #[.pointer (some ⟨rb, 0, none⟩), tokW t] u fun e u' => e = .returned (.tuple #[]) ∧ Fr (· = rb) u u' ∧ ∃ y', RdAt u' rb { v with x := y' } ts ((s.go 1).done (listT (t.s.map fun c => intT c.toNat) nilT) 0) B ∧ TermS u' (SOf u' L) y' (listT (t.s.map fun c => intT c.toNat) nilT) := by
 have HA := Lib.hid h
 have hf := h.few
 have hlt := h.blk.lt
 have c1 : u.cell? ⟨rb, 1, none⟩ = some (.int .i64 (s.at' : Int)) := h.blk.cell (i := 1) rfl
 have cf := h.blk.free
 have hwr : IntKind.i64.wrap ((s.at' : Int) + 1) = (s.at' : Int) + 1 := IntWalk.i64_in _ (by omega)
 have HL := Lib.hid hL
 obtain ⟨W, hW⟩ : ∃ W, W = (u.setCell ⟨rb, 1, none⟩ (.int .i64 ((s.at' : Int) + 1))).alloc (.cells #[.int .i64 t.kind, .int .i64 t.line, .int .i64 t.n, .string ⟨t.s.toArray⟩, .bool t.opn, .bool t.tight] 48) := ⟨_, rfl⟩
 have hgo : RdAt W rb v ts (s.go 1) B := by
  rw [hW]
  exact (h.put (v' := v) (s' := s.go 1) 1 _ (by simp [rdCells, RdS.go]) rfl rfl (by show s.at' + 1 ≤ _; omega)).later ((Below.refl _ _).alloc (Nat.le_refl _) _)
 have HG := Lib.hid hgo
 have HF : Hid (Fr (· = rb) u W) := by
  rw [hW]
  exact Lib.hid (((Fr.refl (· = rb) u).setCell (p := ⟨rb, 1, none⟩) (.inl rfl) _).alloc _)
 have hnew : W.heap[u.heap.size]? = some (.cells #[.int .i64 t.kind, .int .i64 t.line, .int .i64 t.n, .string ⟨t.s.toArray⟩, .bool t.opn, .bool t.tight] 48 (0, 0)) := by
  rw [hW]
  have := heap_alloc_new (u.setCell ⟨rb, 1, none⟩ (.int .i64 ((s.at' : Int) + 1))) (.cells #[.int .i64 t.kind, .int .i64 t.line, .int .i64 t.n, .string ⟨t.s.toArray⟩, .bool t.opn, .bool t.tight] 48)
  simpa using this
 have HN := Lib.hid hnew
 have hls : (t.s.length : Int) ≤ 9223372036854775807 := by omega
 have hmk := run_terms W t.s.length hsh
 have H0 : Hid (CInv W t.s 0 (W.alloc (.cells ((List.replicate t.s.length zTV).flatMap encTV).toArray 34))) := Lib.hid ⟨(Below.refl _ _).alloc (Nat.le_refl _) _, by simpa using terms_row W W.heap.size t.s.length (Nat.le_refl _) hsh⟩
 obtain ⟨n0, n1, n2, n3, n4, n5, nf⟩ := six_at hnew
 clear h hgo hnew
 unfold tokW
 go_enter Tryz.func29, Tryz.ntmps29
 go_upto_region 2 with fail
 rw [← hW]
 clear hW
 go_wp2_with fail
 go_loopw [19] (fun i wr => ∃ k, k ≤ t.s.length ∧ i = .int .i64 (k : Nat) ∧ Hid (CInv W t.s k wr)) (fun i _ => t.s.length - (intOf i).toNat)
 case atStart => exact ⟨0, Nat.zero_le _, rfl, H0⟩
 case round =>
  obtain ⟨k, hk, rfl, HI⟩ := hrel
  have HWR : Hid (Row wr W.heap.size 34 4 encTV (.slice (some ⟨W.heap.size, 0, none⟩) t.s.length t.s.length) ((t.s.take k).map cTV ++ List.replicate (t.s.length - k) zTV)) := Lib.hid HI.out.row
  have hul : u.heap.size < W.heap.size := World.block_lt_of_cell? W _ n0
  have w3 : wr.cell? ⟨u.heap.size, 3, none⟩ = some (.string ⟨t.s.toArray⟩) := (HI.out.below.cell (p := ⟨u.heap.size, 3, none⟩) hul).trans n3
  clear n0 n1 n2 n3 n4 n5 hmk
  by_cases hkl : k < t.s.length
  ·have hki : (k : Int) < (t.s.length : Int) := by omega
   have hk0 : (0 : Int) ≤ (k : Int) := by omega
   have hwk : IntKind.i64.wrap ((k : Int) + 1) = (k : Int) + 1 := IntWalk.i64_in _ (by omega)
   obtain ⟨c, hc, hgc⟩ : ∃ c, (⟨t.s.toArray⟩ : ByteArray)[k]'(by show k < t.s.toArray.size; simpa using hkl) = c ∧ t.s[k]? = some c := ⟨t.s[k], rfl, List.getElem?_eq_getElem hkl⟩
   have hlen : ((t.s.take k).map cTV).length = k := by simp; omega
   have hz : ((t.s.take k).map cTV ++ List.replicate (t.s.length - k) zTV)[k]? = some zTV := by
    rw [List.getElem?_append_right (by omega), hlen, Nat.sub_self, List.getElem?_replicate, if_pos (by omega)]
   obtain ⟨g, cap, hv, hBg, hgl, _, hcs⟩ := HWR.out.cells encTV_len (fun e => by rw [e] at hz; cases hz)
   injection hv with hv1 hv2 hv3
   injection hv1 with hv1
   injection hv1 with hv1
   subst hv1
   have q0 := hcs k zTV hz 0 _ rfl
   have q1 := hcs k zTV hz 1 _ rfl
   have q2 := hcs k zTV hz 2 _ rfl
   have q3 := hcs k zTV hz 3 _ rfl
   simp only [zTV, Nat.add_zero] at q0 q1 q2 q3
   obtain ⟨q0, f0⟩ := q0
   obtain ⟨q1, f1⟩ := q1
   obtain ⟨q2, f2⟩ := q2
   obtain ⟨q3, f3⟩ := q3
   have HN1 := Lib.hid (HI.out.round hgc)
   clear hcs hz hlen hv2 hv3 hgc
   have hwc : wrap64 (c.toNat : Int) = (c.toNat : Int) := IntWalk.wrap64_in _ (by have := c.toNat_lt; omega)
   go_wp2_with fail
   go_roundw
   case rel => exact ⟨k + 1, by omega, rfl, HN1⟩
   case measure =>
    simp only [intOf]
    omega
  ·have hke : k = t.s.length := by omega
   subst hke
   clear hk hkl
   have hr2 := HWR.out
   rw [Nat.sub_self, List.take_length, List.replicate_zero, List.append_nil] at hr2
   have HR2 := Lib.hid hr2
   have HFr := Lib.hid (HF.out.step HI.out.below)
   have HGr := Lib.hid (HG.out.later HI.out.below)
   clear hr2
   go_wp2_with fail
   refine (list_any wr L (fun k hk => Nat.lt_of_lt_of_le (HL.out k hk) HFr.out.size) (some ⟨W.heap.size, 0, none⟩) t.s.length t.s.length (t.s.map cTV) (t.s.map fun c => intT c.toNat) (SlTerms.row HR2.out) (codes_terms _ _ _) ⟨3, 0, [91, 93], none, 0, 0⟩ nilT (.leaf _ _ _ _ _ _ _ (by unfold maxLen; simp)) hsh).mono ?_
   rintro e w2 ⟨y', rfl, ht2, hb2⟩
   have HT2 := Lib.hid ht2
   have HG2 := Lib.hid (HGr.out.later hb2)
   have HF2 := Lib.hid (HFr.out.step hb2)
   clear ht2 hb2
   unfold tvV
   go_wp2_with fail
   refine (done_any w2 rb v ts (s.go 1) B HG2.out y' (listT (t.s.map fun c => intT c.toNat) nilT) 0).mono ?_
   rintro e w3 ⟨rfl, r1, r2⟩
   have R1 := Lib.hid r1
   have R2 := Lib.hid (HF2.out.trans r2)
   have HT3 : Hid (TermS w3 (SOf w3 L) y' (listT (t.s.map fun c => intT c.toNat) nilT)) := Lib.hid (HT2.out.step fun b hb => by
    have hne : b ≠ rb := hb.1.ne ⟨_, HG2.out.blk⟩ (by decide)
    have hk := r2.block b hb.1.lt hne
    exact ⟨⟨hb.1.keep hk, hb.2⟩, hk⟩)
   clear r1 r2
   go_wp2_with fail
   exact bodyPost_end (v := .tuple #[]) (by simp [results, Tryz.results29, go_sem]) rfl ⟨rfl, R2.out, y', R1.out, HT3.out⟩
end Go.Proofs.YtiffopheamnngaaGreatDoor
