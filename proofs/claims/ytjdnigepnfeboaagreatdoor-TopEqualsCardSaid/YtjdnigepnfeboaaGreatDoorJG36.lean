import Derived.Test.YtjdnigepnfeboaaGreatDoorJG33
import Derived.Test.YtjdnigepnfeboaaGreatDoorJG27
import Derived.Test.YtjdnigepnfeboaaGreatDoorJG32
namespace Go.Proofs.YtjdnigepnfeboaaGreatDoor
open Go.RowKit Go.Maps
set_option maxRecDepth 100000
variable [Base]
set_option linter.unusedSectionVars false
set_option maxHeartbeats 4000000 in
theorem answer_last (u : World) (rb : Nat) (r : RC) (l : List (Int × List UInt8)) (db ob : Nat) (spent : Int) (over : List UInt8) (h : RunSt u rb r l db ob spent over) (hnm : r.nm = .slice none 0 0) (ha : r.ans = 0) (hm : r.most = 1) (hl : l.length + 1 ≤ 100000) :
    Calls Tryz.prog 181 #[.pointer (some ⟨rb, 0, none⟩)] u fun e u' => e = .returned (.int .i64 3) ∧ ∃ v, RunSt u' rb { r with ev := v, ans := 1 } (l ++ [(1, [116, 114, 117, 101])]) db ob spent over ∧ TF evT u u' := by
 obtain ⟨P, hP⟩ : ∃ P : Ending → World → Prop, P = fun e u' => e = .returned (.int .i64 3) ∧ ∃ v, RunSt u' rb { r with ev := v, ans := 1 } (l ++ [(1, [116, 114, 117, 101])]) db ob spent over ∧ TF evT u u' := ⟨_, rfl⟩
 rw [← hP]
 have HP := Lib.hid hP
 obtain ⟨U, hU⟩ : ∃ U, U = u.alloc (.cells #[.pointer none, .slice none 0 0] 386) := ⟨_, rfl⟩
 have hbU : Below u.heap.size u U := by rw [hU]; exact (Below.refl _ _).alloc (Nat.le_refl _) _
 have hBl : Lib.IsBuilder 386 5 u.heap.size u.heap.size (Lib.byteCells []) U := by rw [hU]; exact bld_fresh u
 have hmm := mk_map2 U
 obtain ⟨W, hW⟩ : ∃ W, W = (U.alloc (.map #[] 0)).alloc (.cells #[.map (some U.heap.size), .int .i64 0] 325) := ⟨_, rfl⟩
 have hbW : Below U.heap.size U W := by rw [hW]; exact ((Below.refl _ _).alloc (Nat.le_refl _) _).alloc (by simp) _
 have hbuW : Below u.heap.size u W := hbU.trans (hbW.mono hbU.size)
 have HW : Hid (RunSt W rb r l db ob spent over ∧ Lib.IsBuilder 386 5 u.heap.size u.heap.size (Lib.byteCells []) W ∧ Below u.heap.size u W) := Lib.hid ⟨h.later hbuW, bld_later hBl hbW, hbuW⟩
 have c2 : W.cell? ⟨rb, 2, none⟩ = some (.slice none 0 0) := (HW.out.1.run.get 2).trans (by show some r.nm = _; rw [hnm])
 have HA := Lib.hid (And.intro h (And.intro ha (And.intro hm hl)))
 clear h hnm ha hm hl hP hbU hBl hbW hbuW
 go_enter Tryz.func181, Tryz.ntmps181
 go_upto_region 2 with fail
 rw [← hU]
 clear hU
 go_upto_region 3 with fail
 rw [← hW]
 clear hW hmm
 go_wp2_with fail
 clear c2
 go_loopw [21] (fun i wr => i = .int .i64 0 ∧ Hid (wr = W)) (fun _ _ => 0)
 case atStart => exact ⟨rfl, Lib.hid rfl⟩
 case round =>
  obtain ⟨rfl, HE⟩ := hrel
  obtain rfl := HE.out
  go_wp2_with fail
  refine (blen_any _ _ _ _ HW.out.2.1).mono ?_
  rintro e w1 ⟨rfl, rfl⟩
  go_wp2_with fail
  refine (bstr_any _ _ [] [116, 114, 117, 101] _ HW.out.2.1 (by simp) HW.out.2.2.size).mono ?_
  rintro e w1 ⟨⟨v, rfl⟩, h1, h2⟩
  have HB1 := Lib.hid (And.intro h1 (HW.out.2.2.trans h2))
  clear h1 h2
  go_wp2_with fail
  refine (Tryz.Builder_String_any _ _ [116, 114, 117, 101] w1 HB1.out.1 HB1.out.2.size).mono ?_
  rintro e w2 ⟨rfl, h3⟩
  have HB2 := Lib.hid (HB1.out.2.trans h3)
  have HR2 := Lib.hid (HA.out.1.later HB2.out)
  clear h3
  go_wp2_with fail
  refine (event_any w2 rb r l 1 [116, 114, 117, 101] HR2.out.run HR2.out.ev HR2.out.few.1 HR2.out.few.2.1).mono ?_
  rintro e w3 ⟨rfl, v3, g1, g2, g3⟩
  have HR3 : Hid (RunSt w3 rb { r with ev := v3 } (l ++ [(1, [116, 114, 117, 101])]) db ob spent over ∧ TF evT u w3) := Lib.hid ⟨⟨g1, g2, (g3.block ⟨_, HR2.out.mach⟩ (by decide)).trans HR2.out.mach, by simpa using HA.out.2.2.2, HR2.out.few.2⟩, (TF.of_below evT HB2.out).trans (g3.mono (by decide))⟩
  clear g1 g2 g3
  have c5 : w3.cell? ⟨rb, 5, none⟩ = some (.int .i64 0) := (HR3.out.1.run.get 5).trans (by show some (Value.int .i64 r.ans) = _; rw [HA.out.2.1])
  have cf := HR3.out.1.run.fz
  have hlt := HR3.out.1.run.lt
  obtain ⟨X, hX⟩ : ∃ X, X = w3.setCell ⟨rb, 5, none⟩ (.int .i64 1) := ⟨_, rfl⟩
  have h9 := HR3.out.1.put (r' := { r with ev := v3, ans := 1 }) 5 (.int .i64 1) rfl rfl rfl
  rw [← hX] at h9
  have HX : Hid (RunSt X rb { r with ev := v3, ans := 1 } (l ++ [(1, [116, 114, 117, 101])]) db ob spent over ∧ TF evT u X) := Lib.hid ⟨h9.1, HR3.out.2.trans (h9.2.mono (by decide))⟩
  clear h9
  go_upto_region 27 with fail
  rw [← hX]
  clear hX c5 cf hlt
  have d5 : X.cell? ⟨rb, 5, none⟩ = some (.int .i64 1) := HX.out.1.run.get 5
  have d4 : X.cell? ⟨rb, 4, none⟩ = some (.int .i64 1) := (HX.out.1.run.get 4).trans (by show some (Value.int .i64 r.most) = _; rw [HA.out.2.2.1])
  go_region
  go_wp2_with fail
  have HQ : Hid (P (.returned (.int .i64 3)) X.drew) := Lib.hid (by
   rw [HP.out]
   have hb : Below X.heap.size X X.drew := (Below.refl _ _).drew
   exact ⟨rfl, v3, HX.out.1.later hb, HX.out.2.later hb⟩)
  exact HQ.out
end Go.Proofs.YtjdnigepnfeboaaGreatDoor
namespace Go.Proofs.YtjdnigepnfeboaaGreatDoor
open Go.RowKit Go.Maps
set_option maxRecDepth 100000
variable [Base]
set_option linter.unusedSectionVars false
set_option maxHeartbeats 2000000 in
theorem steps_any (w : World) : Calls Tryz.prog 32 #[] w fun e w' => e = .returned (.agg stepC.toArray) ∧ Below w.heap.size w w' := by
 go_enter Tryz.func32, Tryz.ntmps32
 go_wp2_with fail
 obtain ⟨W, hW⟩ : ∃ W, W = w.alloc (.cells stepC.toArray 109) := ⟨_, rfl⟩
 have hb : Below w.heap.size w W := by rw [hW]; exact (Below.refl _ _).alloc (Nat.le_refl _) _
 have hz : W.heap[w.heap.size]? = some (.cells stepC.toArray 109 (0, 0)) := by rw [hW]; exact heap_alloc_new _ _
 have hc : ∀ i, W.cell? ⟨w.heap.size, i, none⟩ = stepC.toArray[i]? := fun i => cell_of_row _ _ i _ _ _ hz
 have f0 := (hc 0).trans rfl
 have f1 := (hc 1).trans rfl
 have f2 := (hc 2).trans rfl
 have f3 := (hc 3).trans rfl
 have f4 := (hc 4).trans rfl
 have f5 := (hc 5).trans rfl
 have f6 := (hc 6).trans rfl
 have f7 := (hc 7).trans rfl
 have f8 := (hc 8).trans rfl
 have f9 := (hc 9).trans rfl
 have f10 := (hc 10).trans rfl
 have f11 := (hc 11).trans rfl
 show bodyPost _ _ _ _ _ (w.alloc (.cells stepC.toArray 109))
 rw [← hW]
 exact bodyPost_ret (v := .agg stepC.toArray) (by simp [results, Tryz.results32, go_sem, f0, f1, f2, f3, f4, f5, f6, f7, f8, f9, f10, f11, stepC, fnV]) rfl ⟨rfl, hb⟩
set_option maxHeartbeats 2000000 in
theorem back_none (u : World) (rb : Nat) (r : RC) (l : List (Int × List UInt8)) (db ob : Nat) (spent : Int) (over : List UInt8) (C : Option Addr) (c : Nat) (h : RunSt u rb r l db ob spent over) (hc : r.ch = .slice C 0 c) (hl : l.length + 1 ≤ 100000) :
    Calls Tryz.prog 97 #[.pointer (some ⟨rb, 0, none⟩)] u fun e u' => e = .returned (.int .i64 3) ∧ ∃ v, RunSt u' rb { r with ev := v } (l ++ [(2, [])]) db ob spent over ∧ TF evT u u' := by
 obtain ⟨P, hP⟩ : ∃ P : Ending → World → Prop, P = fun e u' => e = .returned (.int .i64 3) ∧ ∃ v, RunSt u' rb { r with ev := v } (l ++ [(2, [])]) db ob spent over ∧ TF evT u u' := ⟨_, rfl⟩
 rw [← hP]
 have HP := Lib.hid hP
 have c8 : u.cell? ⟨rb, 8, none⟩ = some (.slice C 0 c) := (h.run.get 8).trans (by show some r.ch = _; rw [hc])
 have hlt := h.run.lt
 have HR := Lib.hid (And.intro h hl)
 clear h hc hl hP
 go_enter Tryz.func97, Tryz.ntmps97
 go_wp2_with fail
 go_loopw [2] (fun i wr => i = .int .i64 0 ∧ Hid (wr = u)) (fun _ _ => 0)
 case atStart => exact ⟨rfl, Lib.hid rfl⟩
 case round =>
  obtain ⟨rfl, HW⟩ := hrel
  obtain rfl := HW.out
  go_wp2_with fail
  refine (event_any _ rb r l 2 [] HR.out.1.run HR.out.1.ev HR.out.1.few.1 HR.out.1.few.2.1).mono ?_
  rintro e w2 ⟨rfl, v, h1, h2, h3⟩
  have HQ : Hid (P (.returned (.int .i64 3)) w2) := Lib.hid (by
   rw [HP.out]
   exact ⟨rfl, v, ⟨h1, h2, (h3.block ⟨_, HR.out.1.mach⟩ (by decide)).trans HR.out.1.mach, by simpa using HR.out.2, HR.out.1.few.2⟩, h3.mono (by decide)⟩)
  clear h1 h2 h3
  go_wp2_with fail
  exact HQ.out
end Go.Proofs.YtjdnigepnfeboaaGreatDoor
namespace Go.Proofs.YtjdnigepnfeboaaGreatDoor
open Go.RowKit Go.Maps
set_option maxRecDepth 100000
variable [Base]
set_option linter.unusedSectionVars false
def runZ (mb sb : Nat) (nm : Value) (vb : Nat) (most : Int) : Array Value := #[.pointer (some ⟨mb, 0, none⟩), .pointer (some ⟨sb, 0, none⟩), nm, .map (some vb), .int .i64 most, .int .i64 0, .slice none 0 0, .pointer none, .slice none 0 0, .int .i64 0, .int .i64 0, .string ⟨#[]⟩, .slice none 0 0, .int .i64 0, .nilFunc, .nilFunc, .nilFunc, .nilFunc, .nilFunc, .nilFunc, .nilFunc, .nilFunc, .nilFunc, .nilFunc, .nilFunc, .nilFunc, .map none]
theorem runZ_end (mb sb : Nat) (nm : Value) (vb : Nat) (most : Int) (bb : Nat) : (putAll (runZ mb sb nm vb most) 14 stepC).setIfInBounds 26 (.map (some bb)) = rnC { mb := mb, sb := sb, vb := vb, bb := bb, nm := nm, most := most, ans := 0, ev := .slice none 0 0, fr := .pointer none, ch := .slice none 0 0, b0 := .int .i64 0, b1 := .int .i64 0, b2 := .string ⟨#[]⟩, b3 := .slice none 0 0, loose := 0 } := by kernel_rfl
theorem runZ_26 (mb sb : Nat) (nm : Value) (vb : Nat) (most : Int) : (putAll (runZ mb sb nm vb most) 14 stepC)[26]? = some (.map none) := by kernel_rfl
structure RunNew (W : World) (rb mb db ob : Nat) (nm : Value) (most : Int) (r : RC) : Prop where
 st : RunSt W rb r [] db ob 0 []
 store : StAt r.sb 40000 W (.slice none 0 0) (.slice none 0 0) [] [] []
 vars : M6 W r.vb []
 blt : BltAt W r.bb rb
 mb : r.mb = mb
 nm : r.nm = nm
 most : r.most = most
 ans : r.ans = 0
 fr : r.fr = .pointer none
 ch : r.ch = .slice none 0 0
 loose : r.loose = 0
 apart : r.vb ≠ r.bb
def NamesAt (w : World) (A : Option Addr) (l : List (List UInt8 × Int)) : Prop := ∀ q x, l[q]? = some x → 0 ≤ x.2 ∧ ∃ g off, A = some ⟨g, off, none⟩ ∧ TyB w 99 g ∧ w.cell? ⟨g, off + q * 2, none⟩ = some (.string ⟨x.1.toArray⟩) ∧ w.cell? ⟨g, off + q * 2 + 1, none⟩ = some (.int .i64 x.2)
theorem NamesAt.keep {w w' : World} {A : Option Addr} {l : List (List UInt8 × Int)} (h : NamesAt w A l) (hb : ∀ b, TyB w 99 b → w'.heap[b]? = w.heap[b]?) : NamesAt w' A l := fun q x hq => by
 obtain ⟨h0, g, off, e, h1, h2, h3⟩ := h q x hq
 exact ⟨h0, g, off, e, h1.keep (hb g h1), (World.cell?_of_block (a := ⟨g, off + q * 2, none⟩) (hb g h1)).trans h2, (World.cell?_of_block (a := ⟨g, off + q * 2 + 1, none⟩) (hb g h1)).trans h3⟩
theorem NamesAt.later {w w' : World} {A : Option Addr} {l : List (List UInt8 × Int)} (h : NamesAt w A l) (hb : Below w.heap.size w w') : NamesAt w' A l := h.keep fun b hb' => hb.block b hb'.lt
set_option maxHeartbeats 8000000 in
theorem Run_any (w : World) (mb db ob : Nat) (x : TV) (t : Tm) (A : Option Addr) (c : Nat) (names : List (List UInt8 × Int)) (most : Int) (Q : Value → World → Prop) (hM : MachAt w mb db ob 0 []) (hx : TermS w (TyB w 27) x t) (hm : t.may = true) (hsz : t.size ≤ 2000) (hn : NamesAt w A names) (hnl : names.length ≤ 1000) (hmost : 1 ≤ most) (hB : Base.b ≤ mb)
    (hall : ∀ W rb r, Below w.heap.size w W → w.heap.size ≤ rb → w.heap.size ≤ r.vb → RunNew W rb mb db ob (.slice A names.length c) most r → Calls Tryz.prog 34 #[.pointer (some ⟨rb, 0, none⟩), tvV x] W fun e w' => e = .returned (.tuple #[]) ∧ ∃ r', RunAt w' rb r' ∧ Q r'.ev w') :
    Calls Tryz.prog 19 #[.pointer (some ⟨mb, 0, none⟩), tvV x, .slice A names.length c, .int .i64 most] w fun e w' => ∃ v, e = .returned (.tuple #[v, .int .i64 0]) ∧ Q v w' := by
 obtain ⟨P, hP⟩ : ∃ P : Ending → World → Prop, P = fun e w' => ∃ v, e = .returned (.tuple #[v, .int .i64 0]) ∧ Q v w' := ⟨_, rfl⟩
 rw [← hP]
 have HP := Lib.hid hP
 obtain ⟨U, hU⟩ : ∃ U, U = w.alloc (.cells #[.int .i64 x.k, .int .i64 x.n, .string ⟨x.s.toArray⟩, .slice x.A x.len x.cap] 27) := ⟨_, rfl⟩
 have hbU : Below w.heap.size w U := by rw [hU]; exact (Below.refl _ _).alloc (Nat.le_refl _) _
 have hz : U.heap[w.heap.size]? = some (.cells #[.int .i64 x.k, .int .i64 x.n, .string ⟨x.s.toArray⟩, .slice x.A x.len x.cap] 27 (0, 0)) := by rw [hU]; exact heap_alloc_new _ _
 obtain ⟨z0, z1, z2, z3, -⟩ := four_at hz
 have HZ := Lib.hid hz
 have HB := Lib.hid hbU
 have hMU := hM.later hbU
 obtain ⟨⟨c0, c1, c2, c3, c4, c5, c6, c7⟩, cf⟩ := hMU.cells
 have HM := Lib.hid hM
 have HX := Lib.hid (hx.keep (w' := U) (S' := TyB U 27) (fun b hb => hb.keep (hbU.block b hb.lt)) fun b hb => hbU.block b hb.lt)
 have HT := Lib.hid (And.intro hm hsz)
 have HN := Lib.hid hn
 have HALL := Lib.hid hall
 have hmost1 : ¬ most < 1 := by omega
 clear hP hx hm hsz hn hall hbU hz hMU hmost c2 c3 c5 c6
 unfold tvV
 go_enter Tryz.func19, Tryz.ntmps19
 go_upto_region 1 with fail
 rw [← hU]
 clear hU
 go_wp2_with fail
 refine (check_any U x t (HX.out.at fun b hb => hb.lt) (by have := HT.out.2; omega) (by have := HT.out.2; have := deep_size t; omega)).mono ?_
 rintro e w1 ⟨rfl, hb1⟩
 rw [checkT_ok HT.out.1 HT.out.2]
 have HB1 := Lib.hid (HB.out.trans (hb1.mono HB.out.size))
 have HZ1 := Lib.hid ((hb1.block _ (Array.getElem?_eq_some_iff.1 HZ.out).1).trans HZ.out)
 obtain ⟨y0, y1, y2, y3, -⟩ := four_at HZ1.out
 clear z0 z1 z2 z3 c0 c1 c4 c7 cf hb1 HZ HX
 go_wp2_with fail
 go_loopw [41] (fun i wr => ∃ q : Nat, i = .int .i64 (q : Nat) ∧ q ≤ names.length ∧ Hid (Below w.heap.size w wr ∧ wr.heap[w.heap.size]? = some (.cells #[.int .i64 x.k, .int .i64 x.n, .string ⟨x.s.toArray⟩, .slice x.A x.len x.cap] 27 (0, 0)))) (fun i _ => names.length - (intOf i).toNat)
 case atStart => exact ⟨0, rfl, Nat.zero_le _, Lib.hid ⟨HB1.out, HZ1.out⟩⟩
 case round =>
  obtain ⟨q, rfl, hq, HI⟩ := hrel
  clear y0 y1 y2 y3 HB1 HZ1
  by_cases hlt : q < names.length
  ·have hx := List.getElem?_eq_getElem hlt
   generalize names[q] = b at hx
   obtain ⟨h0, g, off, e1, h1, h2, h3⟩ := (HN.out.later HI.out.1) q b hx
   subst e1
   have h0' : ¬ b.2 < 0 := by omega
   have hgl := h1.lt
   have hlt1 : (q : Int) < (names.length : Int) := by omega
   have hge : (0 : Int) ≤ (q : Int) := by omega
   have hwq : IntKind.i64.wrap ((q : Int) + 1) = (q : Int) + 1 := IntWalk.i64_in _ (by omega)
   have HNX : Hid (∀ o : Obj, Below w.heap.size w (wr.alloc o) ∧ (wr.alloc o).heap[w.heap.size]? = some (.cells #[.int .i64 x.k, .int .i64 x.n, .string ⟨x.s.toArray⟩, .slice x.A x.len x.cap] 27 (0, 0))) := Lib.hid fun o => ⟨HI.out.1.alloc HI.out.1.size _, (Below.heap_alloc _ _ _ (Array.getElem?_eq_some_iff.1 HI.out.2).1).trans HI.out.2⟩
   obtain ⟨nm, nn⟩ := b
   simp only at h0 h0' h2 h3
   clear hx h0 h1
   go_wp2_with fail
   go_roundw
   case rel => exact ⟨q + 1, rfl, by omega, Lib.hid (HNX.out _)⟩
   case measure =>
    simp only [intOf]
    omega
  ·obtain rfl : q = names.length := by omega
   have hng : ¬ (names.length : Int) < (names.length : Int) := by omega
   have hMr := HM.out.later HI.out.1
   obtain ⟨⟨c0, c1, c2, c3, c4, c5, c6, c7⟩, cf⟩ := hMr.cells
   clear hlt c0 c1 c2 c3 c5 c6 hMr
   go_wp2_with fail
   refine (New_st wr 40000 (by omega) (by omega) (by have := HM.out.lt; have := HI.out.1.size; omega)).mono ?_
   rintro e w2 ⟨sb, rfl, hsb, hst, hb2⟩
   have HS2 := Lib.hid (And.intro hsb (And.intro hst hb2))
   clear hsb hst hb2 c4 c7 cf
   have hmk := mk_map w2
   obtain ⟨W3, hW3⟩ : ∃ W3, W3 = (w2.alloc (.map #[] 0)).alloc (.cells (runZ mb sb (.slice A names.length c) w2.heap.size most) 112) := ⟨_, rfl⟩
   obtain ⟨vb, hvb⟩ : ∃ vb, vb = w2.heap.size := ⟨_, rfl⟩
   obtain ⟨rb, hrb⟩ : ∃ rb, rb = w2.heap.size + 1 := ⟨_, rfl⟩
   have hb3 : Below w2.heap.size w2 W3 := by rw [hW3]; exact ((Below.refl _ _).alloc (Nat.le_refl _) _).alloc (by simp) _
   have hr3 : W3.heap[rb]? = some (.cells (runZ mb sb (.slice A names.length c) vb most) 112 (0, 0)) := by
    rw [hW3, hrb, hvb]
    have := heap_alloc_new (w2.alloc (.map #[] 0)) (.cells (runZ mb sb (.slice A names.length c) w2.heap.size most) 112)
    rwa [World.size_alloc] at this
   have hv3 : M6 W3 vb [] := by
    have h1 := M6.made w2
    rw [hW3, hvb]
    exact h1.later ((Below.refl _ _).alloc (Nat.le_refl _) _)
   have H3 := Lib.hid (And.intro hb3 (And.intro hr3 (And.intro hv3 (show vb = w2.heap.size ∧ rb = w2.heap.size + 1 from ⟨hvb, hrb⟩))))
   go_upto_region 20 with fail
   unfold runZ at hW3
   rw [← hW3, ← hrb]
   clear hW3 hvb hrb hb3 hr3 hv3 hmk
   go_wp2_with fail
   refine (steps_any W3).mono ?_
   rintro e w4 ⟨rfl, hb4⟩
   have hr4 := (hb4.block _ (Array.getElem?_eq_some_iff.1 H3.out.2.1).1).trans H3.out.2.1
   have hrl : rb < w4.heap.size := (Array.getElem?_eq_some_iff.1 hr4).1
   have hrz : ∀ o, w4.frozen? ⟨rb, o, none⟩ = false := fun o => by simp [World.frozen?, hr4]
   have hrc : ∀ i, w4.cell? ⟨rb, i, none⟩ = (runZ mb sb (.slice A names.length c) vb most)[i]? := fun i => cell_of_row _ _ i _ _ _ hr4
   obtain ⟨W5, hW5⟩ : ∃ W5, W5 = w4.setCells rb 14 stepC := ⟨_, rfl⟩
   have hst : (storeCells ⟨rb, 14, none⟩ stepC).run Tryz.prog w4 = .ok () W5 := by
    rw [hW5]
    refine run_storeCells_cells rb 14 stepC 0 w4 (fun j hj => ?_) (fun j _ => hrz _) (by decide)
    rw [hrc]
    have : (runZ mb sb (.slice A names.length c) vb most).size = 27 := rfl
    have hj' : j < 12 := hj
    rw [Array.getElem?_eq_getElem (by omega)]
    rfl
   clear hrc
   go_upto_region 21 with fail
   have h5 : W5.heap[rb]? = some (.cells (putAll (runZ mb sb (.slice A names.length c) vb most) 14 stepC) 112 (0, 0)) := by rw [hW5]; exact blk_setCells stepC w4 14 _ hr4
   have hf5 : Fr (· = rb) w4 W5 := by rw [hW5]; exact fr_setCells (S := (· = rb)) (.inl rfl) stepC w4 14 (Fr.refl _ _)
   have hb24 : Below w2.heap.size w2 w4 := H3.out.1.trans (hb4.mono H3.out.1.size)
   have hb25 : Below w2.heap.size w2 W5 := hb24.trans (hf5.below hb24.size fun k hk e => by have := H3.out.2.2.2; omega)
   have hv5 : M6 W5 vb [] := (H3.out.2.2.1.later hb4).fr hf5 (by have := H3.out.2.2.2; omega)
   have H5 := Lib.hid (And.intro h5 (And.intro hb25 hv5))
   have hrl5 : rb < W5.heap.size := (Array.getElem?_eq_some_iff.1 h5).1
   rw [← hW5]
   clear hW5 hst h5 hf5 hb24 hb25 hv5 hr4 hrl hrz hb4
   go_wp2_with fail
   refine (blt_any W5 (.pointer (some ⟨rb, 0, none⟩))).mono ?_
   rintro e w6 ⟨bb, rfl, hbb⟩
   have hB6 : Below W5.heap.size W5 w6 ∧ W5.heap.size ≤ bb := by
    obtain ⟨L6, hN6, -⟩ := hbb
    exact ⟨hN6.below, hN6.le⟩
   have hb6 := hB6.1
   have h6 := (hb6.block _ hrl5).trans H5.out.1
   have s26 : w6.cell? ⟨rb, 26, none⟩ = some (.map none) := (cell_of_row _ _ 26 _ _ _ h6).trans (runZ_26 ..)
   have s26f : ∀ o, w6.frozen? ⟨rb, o, none⟩ = false := fun o => by simp [World.frozen?, h6]
   have hrl6 : rb < w6.heap.size := (Array.getElem?_eq_some_iff.1 h6).1
   obtain ⟨X, hX⟩ : ∃ X, X = w6.setCell ⟨rb, 26, none⟩ (.map (some bb)) := ⟨_, rfl⟩
   have hbX : Below w2.heap.size w2 X := by
    rw [hX]
    exact (H5.out.2.1.trans (hb6.mono H5.out.2.1.size)).setCell (p := ⟨rb, 26, none⟩) (by have := H3.out.2.2.2; show w2.heap.size ≤ rb; omega) _
   have hk : ∀ k, k ≠ rb → X.heap[k]? = w6.heap[k]? := fun k hk => by rw [hX]; exact Below.heap_setCell _ _ _ _ hk
   obtain ⟨r0, hr0⟩ : ∃ r0 : RC, r0 = { mb := mb, sb := sb, vb := vb, bb := bb, nm := .slice A names.length c, most := most, ans := 0, ev := .slice none 0 0, fr := .pointer none, ch := .slice none 0 0, b0 := .int .i64 0, b1 := .int .i64 0, b2 := .string ⟨#[]⟩, b3 := .slice none 0 0, loose := 0 } := ⟨_, rfl⟩
   have hbwX : Below w.heap.size w X := HI.out.1.trans ((HS2.out.2.2.trans (hbX.mono HS2.out.2.2.size)).mono HI.out.1.size)
   have hbbl : W5.heap.size ≤ bb ∧ bb < w6.heap.size := ⟨hB6.2, (BltAt.of hbb).lt⟩
   have HRN : Hid (RunNew X rb mb db ob (.slice A names.length c) most r0) := Lib.hid (by
    rw [hr0]
    refine ⟨⟨?_, Row.nil _ _ _ _ _, HM.out.later hbwX, by simp, by have := H3.out.2.2.2; have := HI.out.1.size; have := HS2.out.2.2.size; have := HM.out.lt; show Base.b ≤ rb; omega, hB⟩, HS2.out.2.1.later hbX, ?_, ?_, rfl, rfl, rfl, rfl, rfl, rfl, rfl, ?_⟩
    ·have h9 := blk_put h6 (.map (some bb)) (i := 26)
     rw [← hX, runZ_end] at h9
     exact h9
    ·exact (H5.out.2.2.later hb6).keep (hk _ (by have := H3.out.2.2.2; show vb ≠ rb; omega))
    ·exact (BltAt.of hbb).keep (hk _ (by show bb ≠ rb; omega))
    ·have := H3.out.2.2.2
     show vb ≠ bb
     omega)
   have HZX := Lib.hid ((hbX.block _ (Nat.lt_of_lt_of_le (Array.getElem?_eq_some_iff.1 HI.out.2).1 HS2.out.2.2.size)).trans ((HS2.out.2.2.block _ (Array.getElem?_eq_some_iff.1 HI.out.2).1).trans HI.out.2))
   have HCA := Lib.hid (HALL.out X rb r0 hbwX (by have := H3.out.2.2.2; have := HI.out.1.size; have := HS2.out.2.2.size; omega) (by rw [hr0]; show w.heap.size ≤ vb; have := H3.out.2.2.2; have := HI.out.1.size; have := HS2.out.2.2.size; omega) HRN.out)
   unfold tvV at HCA
   clear hB6 hb6 h6 hbX hk hr0 hbwX hbbl hbb HRN HALL H5 H3 HS2 hrl5
   go_upto_region 22 with fail
   rw [← hX]
   clear hX s26 s26f hrl6
   obtain ⟨y0, y1, y2, y3, -⟩ := four_at HZX.out
   go_wp2_with fail
   refine HCA.out.mono ?_
   rintro e w7 ⟨rfl, r', hr', hQ⟩
   have HQQ : Hid (P (.returned (.tuple #[r'.ev, .int .i64 0])) w7) := Lib.hid (by rw [HP.out]; exact ⟨_, rfl, hQ⟩)
   have c6 : w7.cell? ⟨rb, 6, none⟩ = some r'.ev := hr'.get 6
   clear hr' hQ HCA y0 y1 y2 y3
   go_wp2_with fail
   exact HQQ.out
end Go.Proofs.YtjdnigepnfeboaaGreatDoor
namespace Go.Proofs.YtjdnigepnfeboaaGreatDoor
open Go.RowKit Go.Maps
set_option maxRecDepth 100000
variable [Base]
set_option linter.unusedSectionVars false
def tyA : List TypeId := [229, 224] ++ blT
def endE (ok : Bool) : Int × List UInt8 := if ok then (1, [116, 114, 117, 101]) else (2, [])
def HoldW (w0 : World) (mb db ob : Nat) (s : List UInt8) (x y : Tm) (v : Value) (w : World) : Prop :=
 ∃ (B : Nat) (l : List (Int × List UInt8)) (spent : Int) (over : List UInt8), Row w B 45 2 encV v l ∧ l.length ≤ 100000 ∧ MachAt w mb db ob spent over ∧ TF tyA w0 w ∧ (over ≠ [] ∨ ∃ ok, EqLaw s x y ok ∧ l = [endE ok])
theorem tf_vars {tys tyB : List TypeId} {w0 u u' : World} {vb : Nat} (hb : TF tyB w0 u) (hv : w0.heap.size ≤ vb) (hf : Fr (fun k => k = vb ∨ TyIn tys u k) u u') (ht : ∀ t ∈ tys, t ∈ tyB) : TF tyB w0 u' := by
 refine ⟨⟨hf.os.trans hb.fr.os, hf.tape.trans hb.fr.tape, hf.output.trans hb.fr.output, Nat.le_trans hb.size hf.size, fun k hk hn => ?_⟩⟩
 refine (hf.block k (Nat.lt_of_lt_of_le hk hb.size) fun e => ?_).trans (hb.fr.block k hk hn)
 rcases e with e | ⟨h0, t, h1, h2⟩
 ·omega
 ·exact hn (hb.back hk ⟨h0, t, ht t h1, h2⟩)
def H1 (w0 : World) (rb db ob : Nat) (r : RC) (cs : List Sc) (w : World) : Prop :=
 ∃ fb cv bv xs, RunSt w rb { r with fr := .pointer (some ⟨fb, 0, none⟩) } [] db ob 0 [] ∧ FrameAt w fb ((0 : Nat) : Int) 0 ∧ StAt r.sb 40000 w cv bv xs cs [] ∧ BltAt w r.bb rb ∧ TF tyA w0 w
def H2 (w0 : World) (rb db ob : Nat) (r : RC) (L : Bool → Prop) (ok : Bool) (w : World) : Prop :=
 RunSt w rb { r with fr := .pointer none, loose := 0 } [] db ob 1 [] ∧ L ok ∧ TF tyA w0 w
def HFin (w0 : World) (rb mb db ob : Nat) (s : List UInt8) (x y : Tm) (w : World) : Prop := ∃ r', RunAt w rb r' ∧ HoldW w0 mb db ob s x y r'.ev w
def HI (w0 : World) (rb mb db ob : Nat) (r : RC) (s : List UInt8) (x y : Tm) (n : Nat) (o : Int) (w : World) : Prop :=
 (n = 3 ∧ o = 0 ∧ H1 w0 rb db ob r (put0 (goal2 s x y)).2.cs w) ∨ (n = 2 ∧ o = outI true ∧ H2 w0 rb db ob r (EqLaw s x y) true w) ∨ (n = 2 ∧ o = outI false ∧ H2 w0 rb db ob r (EqLaw s x y) false w) ∨ (n = 0 ∧ o = 3 ∧ HFin w0 rb mb db ob s x y w)
section
variable {w0 w : World} {rb mb db ob : Nat} {r : RC} {s : List UInt8} {x y : Tm}
theorem fin_of {ok : Bool} {v : Value} {ans : Int} (h : RunSt w rb { r with fr := .pointer none, loose := 0, ev := v, ans := ans } [endE ok] db ob 1 []) (hm : r.mb = mb) (hl : EqLaw s x y ok) (hf : TF tyA w0 w) : HFin w0 rb mb db ob s x y w :=
 ⟨_, h.run, rb + 1, _, 1, [], h.ev, h.few.1, hm ▸ h.mach, hf, .inr ⟨ok, hl, rfl⟩⟩
theorem fin_lim {v : Value} {l : List (Int × List UInt8)} {which : List UInt8} {r' : RC} {spent : Int} (h : RunSt w rb { r' with ev := v } l db ob spent which) (hm : r'.mb = mb) (hw : which ≠ []) (hf : TF tyA w0 w) : HFin w0 rb mb db ob s x y w :=
 ⟨_, h.run, rb + 1, _, spent, which, h.ev, h.few.1, hm ▸ h.mach, hf, .inl hw⟩
end
def ucB : List UInt8 := [117, 110, 105, 102, 121, 95, 119, 105, 116, 104, 95, 111, 99, 99, 117, 114, 115, 95, 99, 104, 101, 99, 107]
def StepH (v : World) (rb db ob : Nat) (r : RC) (s : List UInt8) (x y : Tm) (e : Ending) (u' : World) : Prop :=
 TF blT v u' ∧ ((∃ ok, e = .returned (.int .i64 (outI ok)) ∧ EqLaw s x y ok ∧ RunSt u' rb r [] db ob 1 []) ∨ (e = .returned (.int .i64 3) ∧ ∃ v l' which, RunSt u' rb { r with ev := v } l' db ob 1 which ∧ which ≠ []))
theorem stepH_of {v u' : World} {rb db ob : Nat} {r : RC} {s : List UInt8} {x y : Tm} {e : Ending} {R : Bool → World → Prop} (hR : ∀ ok w, R ok w → EqLaw s x y ok) (h : ∃ v', Below v.heap.size v v' ∧ BltO v' rb r [] db ob 1 [] R e u') : StepH v rb db ob r s x y e u' := by
 obtain ⟨v', hb, hf, ho⟩ := h
 refine ⟨(TF.of_below blT hb).trans hf, ho.imp_left ?_⟩
 rintro ⟨ok, e1, h1, h2⟩
 exact ⟨ok, e1, hR _ _ h1, h2⟩
theorem step_hold {v : World} {rb db ob : Nat} {r : RC} {s : List UInt8} {x y : Tm} {a b c' : Nat} {A : Option Addr} {f cv bv : Value} {xs : List ScM} (h : RunSt v rb r [] db ob 1 []) (hs : StAt r.sb 40000 v cv bv xs (put0 (goal2 s x y)).2.cs []) (hB : BltAt v r.bb rb) (hA : ArgsAt v A [a, b]) (hp : Put2 s x y a b)
    (hm : x.may = true ∧ y.may = true) (hsz : x.size ≤ 900 ∧ y.size ≤ 900) (h4 : s = [61] ∨ s = [92, 61] ∨ s = [61, 61] ∨ s = ucB) :
    Calls Tryz.prog 69 #[.pointer (some ⟨rb, 0, none⟩), f, .agg #[.int .i64 4, .int .i64 0, .string ⟨s.toArray⟩, .slice none 0 0], .slice A 2 c'] v (StepH v rb db ob r s x y) := by
 rcases h4 with rfl | rfl | rfl | rfl
 ·exact (step_blt v rb r [] db ob 1 [] (EqR false r.sb 40000 _ a b) f ⟨4, 0, [61], none, 0, 0⟩ A c' _ h hB (by decide) (by decide) (.inl rfl) fun v' hb => equal_any v' rb 40000 r [] db ob 1 [] cv bv xs _ [] A a b c' (h.later hb) (by simp) (hs.later hb) (hA.later hb) hp.la hp.lb (by simp)).mono fun e u' ho => stepH_of (fun ok w ⟨_, _, _, _, _, _, _, _, hu⟩ => hp.eq hu) ho
 ·exact (step_blt v rb r [] db ob 1 [] (NeR _ a b) f ⟨4, 0, [92, 61], none, 0, 0⟩ A c' _ h hB (by decide) (by decide) (.inr (.inl rfl)) fun v' hb => unequal_any v' rb 40000 r [] db ob 1 [] cv bv xs _ [] A a b c' (h.later hb) (by simp) (hs.later hb) (hA.later hb) hp.la hp.lb (by simp)).mono fun e u' ho => stepH_of (fun ok w ⟨_, _, hu⟩ => hp.ne hu) ho
 ·obtain ⟨g, g0, g1, g2, g3, g4⟩ := hp.got
  have h6 : ∀ t : Tm, ∀ n ∈ vrT (vmT g t), ok6 n := fun t n hn => by
   obtain ⟨m, -, rfl⟩ := vrT_vm g t n hn
   have h1 := g0 m
   have h2 := g4 m
   have h3 := hs.few
   unfold ok6
   omega
  have hask := fun v' (hb : Below v.heap.size v v') => ask_eq v' rb 40000 r cv bv xs _ [] A a b c' _ _ (h.run.later hb) (hs.later hb) hp.vnil (hA.later hb) g1 g2 ⟨vmT_may g g0 x hm.1, vmT_may g g0 y hm.2⟩ ⟨h6 x, h6 y⟩ (by rw [vmT_size, vmT_size]; omega)
  refine (step_eq v rb r f 4 0 none 0 0 A c' (fun ok => ok = true ↔ x = y) h.run hB fun v' hb => (hask v' hb).mono ?_).mono ?_
  ·rintro e u' ⟨ok, e1, h1, h2⟩
   exact ⟨ok, e1, h1.trans (ren_same hm.1 hm.2 g0 g3), h2⟩
  ·rintro e u' ⟨ok, rfl, h1, h2⟩
   exact ⟨TF.of_below blT h2, .inl ⟨ok, rfl, law_same h1, h.later h2⟩⟩
 ·exact (step_blt v rb r [] db ob 1 [] (EqR true r.sb 40000 _ a b) f ⟨4, 0, ucB, none, 0, 0⟩ A c' _ h hB (by decide) (by decide) (.inr (.inr rfl)) fun v' hb => safely_any v' rb 40000 r [] db ob 1 [] cv bv xs _ [] A a b c' (h.later hb) (by simp) (hs.later hb) (hA.later hb) hp.la hp.lb (by simp)).mono fun e u' ho => stepH_of (fun ok w ⟨_, _, _, _, _, _, _, _, hu⟩ => hp.safe (by decide) hu) ho
theorem BltAt.fr {S : Nat → Prop} {u v : World} {bb rb : Nat} (h : BltAt u bb rb) (hf : Fr S u v) (hS : ∀ k, S k → k ≠ bb) : BltAt v bb rb := h.keep (hf.block _ h.lt fun e => hS _ e rfl)
theorem BltAt.ty {u : World} {bb rb : Nat} (h : BltAt u bb rb) {tys : List TypeId} {k : Nat} (hk : TyIn tys u k) : k ≠ bb := by
 obtain ⟨L, h1, -⟩ := h
 obtain ⟨-, t, -, h2⟩ := hk
 exact (h1.ne h2).symm
theorem kind4 {s : List UInt8} (h4 : s = [61] ∨ s = [92, 61] ∨ s = [61, 61] ∨ s = ucB) : kindF 4 s 2 = 0 ∧ s.length ≤ maxLen := by
 rcases h4 with rfl | rfl | rfl | rfl <;> exact ⟨by decide, by decide⟩
set_option maxHeartbeats 4000000 in
theorem hold_all (w0 W : World) (rb mb db ob : Nat) (r : RC) (s : List UInt8) (x y : Tm) (X : TV) (hN : RunNew W rb mb db ob (.slice none 0 0) 1 r) (hb : Below w0.heap.size w0 W) (hvb : w0.heap.size ≤ r.vb) (hX : TermS W (TyB W 27) X (goal2 s x y)) (hm : (goal2 s x y).may = true) (h6 : ∀ n ∈ vrT (goal2 s x y), ok6 n) (hsz : x.size ≤ 900 ∧ y.size ≤ 900) (h4 : s = [61] ∨ s = [92, 61] ∨ s = [61, 61] ∨ s = ucB) :
    Calls Tryz.prog 34 #[.pointer (some ⟨rb, 0, none⟩), tvV X] W fun e w' => e = .returned (.tuple #[]) ∧ ∃ r', RunAt w' rb r' ∧ HoldW w0 mb db ob s x y r'.ev w' := by
 obtain ⟨a, b, hp⟩ := put2 s x y hm
 have hm2 : x.may = true ∧ y.may = true := ⟨may_args hm x (by simp), may_args hm y (by simp)⟩
 obtain ⟨hk4, hsl⟩ := kind4 h4
 obtain ⟨eX1, eX2, eX3⟩ : X.k = 4 ∧ X.s = s ∧ X.len = 2 := by
  generalize hg : goal2 s x y = G at hX
  cases hX with
  | mk _ args xs h1 h2 h3 _ _ =>
   injection hg with q1 q2 q3 q4
   exact ⟨q1.symm, q3.symm, by rw [← h2, ← q4]; rfl⟩
 have hgs : (goal2 s x y).size = 1 + (x.size + (y.size + 0)) := by simp [Tm.size, Tm.sizes]
 have hmb := hN.mb
 refine (all_any W rb X (HI w0 rb mb db ob r s x y) (HFin w0 rb mb db ob s x y) (fun n o w h => ?_) (fun W' hW' => ?_) (fun n w h => ?_) (fun n w h => ?_)).mono fun e w' h => h
 ·rcases h with ⟨-, rfl, -⟩ | ⟨-, rfl, -⟩ | ⟨-, rfl, -⟩ | ⟨-, rfl, h⟩
  ·exact .inl rfl
  ·exact .inl rfl
  ·exact .inr (.inl rfl)
  ·exact .inr (.inr ⟨rfl, h⟩)
 ·refine (query_any W' rb 40000 r [] db ob 0 [] _ _ [] [] [] X (goal2 s x y) (hN.st.later hW') (hN.store.later hW') (hN.vars.later hW') (hX.keep (fun b hb => hb.keep (hW'.block b hb.lt)) fun b hb => hW'.block b hb.lt) hm h6 (by omega) (by simp only [List.length_nil]; omega) (by rw [eX2]; exact hsl) (by rw [eX3]; decide) (.inr eX1) (by rw [eX1, eX2, eX3, hk4]; decide)).mono ?_
  rintro e w ⟨rfl, fb, cv, bv, xs, g1, g2, g3, -, g5⟩
  refine ⟨3, 0, rfl, .inl ⟨rfl, rfl, fb, cv, bv, xs, g1, ?_, g3, ?_, ?_⟩⟩
  ·have := hp.root
   unfold put0 at this
   rw [this] at g2
   exact g2
  ·refine (hN.blt.later hW').fr g5 fun k hk => ?_
   rcases hk with rfl | hk
   ·exact hN.apart
   ·exact (hN.blt.later hW').ty hk
  ·exact tf_vars (TF.of_below tyA (hb.trans (hW'.mono hb.size))) hvb g5 (by decide)
 ·rcases h with ⟨rfl, -, fb, cv, bv, xs, g1, g2, g3, g4, g5⟩ | ⟨rfl, -, g1, g2, g3⟩ | ⟨-, h, -⟩ | ⟨-, h, -⟩
  ·refine next_goal w rb 40000 fb 0 0 _ [] db ob 0 [] cv bv xs _ [] _ 2 _ g1 g3 rfl g2 (.here hp.cell rfl) hp.cell rfl rfl ⟨by omega, by omega⟩ hk4 hsl ⟨by omega, by omega⟩ (fun e w ⟨_, o, _, h, _⟩ => ⟨o, h⟩) fun v A c' k1 k2 k3 k4 => ?_
   have hB : BltAt v r.bb rb := g4.fr k4.fr fun k hk => g4.ty hk
   refine (step_hold k1 k2 hB k3 hp hm2 hsz h4).mono ?_
   rintro e u' ⟨hf, ho⟩
   have hF : TF tyA w0 u' := (g5.trans (k4.mono (by decide))).trans (hf.mono (by decide))
   rcases ho with ⟨ok, rfl, h1, h2⟩ | ⟨rfl, ev, l', which, h1, h2⟩
   ·refine ⟨2, outI ok, by omega, rfl, ?_⟩
    cases ok with
    | true => exact .inr (.inl ⟨rfl, rfl, h2, h1, hF⟩)
    | false => exact .inr (.inr (.inl ⟨rfl, rfl, h2, h1, hF⟩))
   ·exact ⟨0, 3, by omega, rfl, .inr (.inr (.inr ⟨rfl, rfl, fin_lim h1 hmb h2 hF⟩))⟩
  ·refine (next_nil w rb _ g1.run rfl (fun e w' => ∃ m o, m < 2 ∧ e = .returned (.int .i64 o) ∧ HI w0 rb mb db ob r s x y m o w') (fun e w ⟨_, o, _, h, _⟩ => ⟨o, h⟩) ((answer_last w rb _ [] db ob 1 [] g1 hN.nm hN.ans hN.most (by simp)).mono ?_)).mono fun e w' h => h
   rintro e u' ⟨rfl, ev, h1, h2⟩
   exact ⟨0, 3, by omega, rfl, .inr (.inr (.inr ⟨rfl, rfl, fin_of (ok := true) h1 hmb g2 (g3.trans (h2.mono (by decide)))⟩))⟩
  ·cases h
  ·cases h
 ·rcases h with ⟨-, h, -⟩ | ⟨-, h, -⟩ | ⟨rfl, -, g1, g2, g3⟩ | ⟨-, h, -⟩
  ·cases h
  ·cases h
  ·refine (back_none w rb _ [] db ob 1 [] none 0 g1 hN.ch (by simp)).mono ?_
   rintro e u' ⟨rfl, ev, h1, h2⟩
   exact ⟨0, 3, by omega, rfl, .inr (.inr (.inr ⟨rfl, rfl, fin_of (ok := false) h1 hmb g2 (g3.trans (h2.mono (by decide)))⟩))⟩
  ·cases h
end Go.Proofs.YtjdnigepnfeboaaGreatDoor
namespace Go.Proofs.YtjdnigepnfeboaaGreatDoor
open Go.RowKit Go.Maps
set_option maxRecDepth 100000
theorem hpl_x (w : World) : Calls Tryz.prog 205 #[.string ⟨#[88]⟩, .string ⟨#[95]⟩] w fun e w' => e = .returned (.bool false) ∧ w' = w := by
 go_enter Tryz.func205, Tryz.ntmps205
 go_wp2_with fail
 go_ret
 exact ⟨by kernel_rfl, rfl⟩
theorem hp_x (w : World) : Calls Tryz.prog 110 #[.string ⟨#[88]⟩, .string ⟨#[95]⟩] w fun e w' => e = .returned (.bool false) ∧ w' = w := by
 go_enter Tryz.func110, Tryz.ntmps110
 go_wp2_with fail
 refine (hpl_x w).mono ?_
 rintro e w1 ⟨rfl, rfl⟩
 go_wp2_with fail
 go_ret
 exact ⟨rfl, rfl⟩
theorem int_tv {W : World} {S : Nat → Prop} {y : TV} {z : Int} (h : TermS W S y (.mk 2 z [] [])) : ∃ A c, y = ⟨2, z, [], A, 0, c⟩ := by
 generalize hg : Tm.mk 2 z [] [] = G at h
 cases h with
 | mk _ args xs h1 h2 h3 hc ht =>
  obtain ⟨k, n, s, A, l, c⟩ := y
  injection hg with q1 q2 q3 q4
  simp only at q1 q2 q3 h2
  subst q1 q2 q3 q4
  obtain rfl : l = 0 := h2.symm
  exact ⟨A, c, rfl⟩
set_option maxHeartbeats 1000000 in
theorem ren_int (w : World) (nb : Nat) (z : Int) (A : Option Addr) (c : Nat) : Calls Tryz.prog 222 #[.pointer (some ⟨nb, 0, none⟩), .agg #[.int .i64 2, .int .i64 z, .string ⟨#[]⟩, .slice A 0 c]] w fun e w' => e = .returned (.agg #[.int .i64 2, .int .i64 z, .string ⟨#[]⟩, .slice A 0 c]) ∧ Below w.heap.size w w' := by
 go_enter Tryz.func222, Tryz.ntmps222
 go_wp2_with fail
 obtain ⟨W, hW⟩ : ∃ W, W = ((w.alloc (.cells #[.int .i64 2, .int .i64 z, .string ⟨#[]⟩, .slice A 0 c] 27)).alloc (.cells #[.int .i64 2, .int .i64 z, .string ⟨#[]⟩, .slice A 0 c] 27)) := ⟨_, rfl⟩
 rw [← hW]
 have hz : W.heap[w.heap.size + 1]? = some (.cells #[.int .i64 2, .int .i64 z, .string ⟨#[]⟩, .slice A 0 c] 27 (0, 0)) := by
  rw [hW, ← World.size_alloc w (.cells #[.int .i64 2, .int .i64 z, .string ⟨#[]⟩, .slice A 0 c] 27)]
  exact heap_alloc_new _ _
 have hb : Below w.heap.size w W := by rw [hW]; exact ((Below.refl _ _).alloc (Nat.le_refl _) _).alloc (by simp) _
 obtain ⟨y0, y1, y2, y3, -⟩ := four_at hz
 clear hW hz
 exact bodyPost_ret (v := .agg #[.int .i64 2, .int .i64 z, .string ⟨#[]⟩, .slice A 0 c]) (by simp [results, Tryz.results222, go_sem, y0, y1, y2, y3]) rfl ⟨rfl, hb⟩
variable [Base]
set_option linter.unusedSectionVars false
omit [Base] in
theorem dig_len (z : Int) : (digB z).length = 1 := by unfold digB; split <;> rfl
def ansB (z : Int) : List UInt8 := [88, 32, 61, 32] ++ digB z
set_option maxHeartbeats 8000000 in
theorem answer_x {rb db ob : Nat} {r : RC} {u : World} {l : List (Int × List UInt8)} {spent : Int} {over : List UInt8} {cv bv : Value} {xs : List ScM} {cs : List Sc} {ys : List (Nat × Int)} {z : Int} {An : Option Addr} {cn : Nat} {m : List (Int × Int)} (hz : z = 1 ∨ z = 2)
    (h : RunSt u rb r l db ob spent over) (hnm : r.nm = .slice An 1 cn) (hN : NamesAt u An [([88], 0)]) (hv : M6 u r.vb m) (hm : mget m 0 = some 1) (hs : StAt r.sb 40000 u cv bv xs (boundC cs z) ys) (hp : PCs cs) (ha : r.ans = 0 ∨ r.ans = 1) (hmost : r.most = 5) (hl : l.length + 1 ≤ 100000) :
    Calls Tryz.prog 181 #[.pointer (some ⟨rb, 0, none⟩)] u fun e u' => e = .returned (.int .i64 1) ∧ ∃ v, RunSt u' rb { r with ev := v, ans := r.ans + 1 } (l ++ [(1, ansB z)]) db ob spent over ∧ TF evT u u' := by
 obtain ⟨P, hP⟩ : ∃ P : Ending → World → Prop, P = fun e u' => e = .returned (.int .i64 1) ∧ ∃ v, RunSt u' rb { r with ev := v, ans := r.ans + 1 } (l ++ [(1, ansB z)]) db ob spent over ∧ TF evT u u' := ⟨_, rfl⟩
 rw [← hP]
 have HP := Lib.hid hP
 obtain ⟨U, hU⟩ : ∃ U, U = u.alloc (.cells #[.pointer none, .slice none 0 0] 386) := ⟨_, rfl⟩
 have hbU : Below u.heap.size u U := by rw [hU]; exact (Below.refl _ _).alloc (Nat.le_refl _) _
 have hBl : Lib.IsBuilder 386 5 u.heap.size u.heap.size (Lib.byteCells []) U := by rw [hU]; exact bld_fresh u
 have hmm := mk_map2 U
 obtain ⟨W, hW⟩ : ∃ W, W = (U.alloc (.map #[] 0)).alloc (.cells #[.map (some U.heap.size), .int .i64 0] 325) := ⟨_, rfl⟩
 have hbW : Below U.heap.size U W := by rw [hW]; exact ((Below.refl _ _).alloc (Nat.le_refl _) _).alloc (by simp) _
 have hbuW : Below u.heap.size u W := hbU.trans (hbW.mono hbU.size)
 have HW : Hid (Lib.IsBuilder 386 5 u.heap.size u.heap.size (Lib.byteCells []) W ∧ Below u.heap.size u W) := Lib.hid ⟨bld_later hBl hbW, hbuW⟩
 have c2 : W.cell? ⟨rb, 2, none⟩ = some (.slice An 1 cn) := ((h.later hbuW).run.get 2).trans (by show some r.nm = _; rw [hnm])
 obtain ⟨-, g, off, rfl, hg, n0, n1⟩ := hN 0 _ rfl
 simp only [Nat.zero_mul, Nat.add_zero] at n0 n1
 have HN : Hid (∀ w, Below u.heap.size u w → w.cell? ⟨g, off, none⟩ = some (.string ⟨#[88]⟩) ∧ w.cell? ⟨g, off + 1, none⟩ = some (.int .i64 0)) := Lib.hid fun w hb => ⟨(hb.cell (p := ⟨g, off, none⟩) hg.lt).trans n0, (hb.cell (p := ⟨g, off + 1, none⟩) hg.lt).trans n1⟩
 have HH := Lib.hid (And.intro h (And.intro hv (And.intro hm (And.intro hs (And.intro hp (And.intro ha (And.intro hmost hl)))))))
 have HZ := Lib.hid hz
 obtain ⟨nb, hnb⟩ : ∃ nb, nb = U.heap.size + 1 := ⟨_, rfl⟩
 clear h hnm hN hv hm hs hp ha hmost hl hP hbU hBl hbW hbuW n0 n1 hg hz
 go_enter Tryz.func181, Tryz.ntmps181
 go_upto_region 2 with fail
 rw [← hU]
 clear hU
 go_upto_region 3 with fail
 rw [← hW, ← hnb]
 clear hW hmm hnb
 go_wp2_with fail
 clear c2
 go_loopw [21] (fun i wr => (i = .int .i64 0 ∧ Hid (Lib.IsBuilder 386 5 u.heap.size u.heap.size (Lib.byteCells []) wr ∧ Below u.heap.size u wr)) ∨ (i = .int .i64 1 ∧ Hid (Lib.IsBuilder 386 5 u.heap.size u.heap.size (Lib.byteCells (ansB z)) wr ∧ Below u.heap.size u wr))) (fun i _ => 1 - (intOf i).toNat)
 case atStart => exact .inl ⟨rfl, HW⟩
 case round =>
  clear HW
  rcases hrel with ⟨rfl, HE⟩ | ⟨rfl, HE⟩
  ·obtain ⟨n0, n1⟩ := HN.out wr HE.out.2
   obtain ⟨W1, hW1⟩ : ∃ W1, W1 = wr.alloc (.cells #[.string ⟨#[88]⟩, .int .i64 0] 99) := ⟨_, rfl⟩
   have hb1 : Below wr.heap.size wr W1 := by rw [hW1]; exact (Below.refl _ _).alloc (Nat.le_refl _) _
   have hz1 : W1.heap[wr.heap.size]? = some (.cells #[.string ⟨#[88]⟩, .int .i64 0] 99 (0, 0)) := by rw [hW1]; exact heap_alloc_new _ _
   obtain ⟨xb, hxb⟩ : ∃ xb, xb = wr.heap.size := ⟨_, rfl⟩
   rw [← hxb] at hz1
   have y0 : W1.cell? ⟨xb, 0, none⟩ = some (.string ⟨#[88]⟩) := (cell_of_row _ _ 0 _ _ _ hz1).trans rfl
   have y1 : W1.cell? ⟨xb, 1, none⟩ = some (.int .i64 0) := (cell_of_row _ _ 1 _ _ _ hz1).trans rfl
   have HB1 := Lib.hid (And.intro hb1 hz1)
   clear hb1 hz1
   go_upto_region 6 with fail
   rw [← hxb, ← hW1]
   clear hW1 hxb n0 n1
   go_wp2_with fail
   refine (hp_x _).mono ?_
   rintro e w1 ⟨rfl, rfl⟩
   obtain ⟨W2, hW2⟩ : ∃ W2, W2 = w1.alloc (.cells #[.int .i64 1, .int .i64 (-1), .string ⟨#[]⟩, .slice none 0 0] 27) := ⟨_, rfl⟩
   have hb2 : Below w1.heap.size w1 W2 := by rw [hW2]; exact (Below.refl _ _).alloc (Nat.le_refl _) _
   have hz2 : W2.heap[w1.heap.size]? = some (.cells #[.int .i64 1, .int .i64 (-1), .string ⟨#[]⟩, .slice none 0 0] 27 (0, 0)) := by rw [hW2]; exact heap_alloc_new _ _
   obtain ⟨tb, htb⟩ : ∃ tb, tb = w1.heap.size := ⟨_, rfl⟩
   rw [← htb] at hz2
   have hbr2 : Below wr.heap.size wr W2 := HB1.out.1.trans (hb2.mono HB1.out.1.size)
   have hbu2 : Below u.heap.size u W2 := HE.out.2.trans (hbr2.mono HE.out.2.size)
   have hzx := (hb2.block _ (Array.getElem?_eq_some_iff.1 HB1.out.2).1).trans HB1.out.2
   have hge : wr.heap.size ≤ tb := by rw [htb]; exact HB1.out.1.size
   have v1 : W2.cell? ⟨xb, 1, none⟩ = some (.int .i64 0) := (cell_of_row _ _ 1 _ _ _ hzx).trans rfl
   have r3 : W2.cell? ⟨rb, 3, none⟩ = some (.map (some r.vb)) := (HH.out.1.later hbu2).run.get 3
   have r1 : W2.cell? ⟨rb, 1, none⟩ = some (.pointer (some ⟨r.sb, 0, none⟩)) := (HH.out.1.later hbu2).run.get 1
   have hlk := (HH.out.2.1.later hbu2.drew).hit 0 ⟨by decide, by decide⟩ HH.out.2.2.1
   have HGE : Hid (Calls Tryz.prog 157 #[.pointer (some ⟨r.sb, 0, none⟩), .int .i64 1] W2.drew fun e w3 => ∃ A c, e = .returned (.tuple #[.agg #[.int .i64 2, .int .i64 z, .string ⟨#[]⟩, .slice A 0 c], .int .i64 0]) ∧ Below W2.heap.size W2 w3) := Lib.hid (by
    refine (Get_st (HH.out.2.2.2.1.later hbu2.drew) HH.out.2.2.2.2.1.bvnil HH.out.2.2.2.2.1.got (by simp [Tm.size, Tm.sizes])).mono ?_
    rintro e w3 ⟨y, rfl, k1, k2⟩
    obtain ⟨A, c, rfl⟩ := int_tv k1
    exact ⟨A, c, rfl, (Below.refl _ _).drew.trans k2⟩)
   have HB2 := Lib.hid (And.intro hbr2 (And.intro hz2 (And.intro hzx hge)))
   clear hb2 hz2 hbr2 hbu2 hzx hge HB1
   go_upto_region 8 with fail
   rw [← htb, ← hW2]
   clear hW2 htb y0 y1
   go_region
   clear hlk v1 r3
   go_wp2_with fail
   refine HGE.out.mono ?_
   rintro e w3 ⟨A, c, rfl, hb3⟩
   obtain ⟨W4, hW4⟩ : ∃ W4, W4 = w3.alloc (.cells #[.int .i64 2, .int .i64 z, .string ⟨#[]⟩, .slice A 0 c] 27) := ⟨_, rfl⟩
   have hb4 : Below w3.heap.size w3 W4 := by rw [hW4]; exact (Below.refl _ _).alloc (Nat.le_refl _) _
   have hz4 : W4.heap[w3.heap.size]? = some (.cells #[.int .i64 2, .int .i64 z, .string ⟨#[]⟩, .slice A 0 c] 27 (0, 0)) := by rw [hW4]; exact heap_alloc_new _ _
   have hb24 : Below W2.heap.size W2 W4 := hb3.trans (hb4.mono hb3.size)
   have hz24 := (hb24.block _ (Array.getElem?_eq_some_iff.1 HB2.out.2.1).1).trans HB2.out.2.1
   have hx24 := (hb24.block _ (Array.getElem?_eq_some_iff.1 HB2.out.2.2.1).1).trans HB2.out.2.2.1
   obtain ⟨s0, s1, s2, s3, -⟩ := four_at hz4
   obtain ⟨q0, q1, q2, q3, qf⟩ := four_at hz24
   have hlt := (Array.getElem?_eq_some_iff.1 hz24).1
   have HB4 := Lib.hid (And.intro (HB2.out.1.trans (hb24.mono HB2.out.1.size)) (And.intro hz24 hx24))
   clear hb3 hb4 hz4 hb24 hz24 hx24 HGE r1
   go_upto_region 13 with fail
   rw [← hW4]
   clear hW4
   go_upto_region 14 with fail
   obtain ⟨X, hX⟩ : ∃ X, X = ((((W4.setCell ⟨tb, 0, none⟩ (.int .i64 2)).setCell ⟨tb, 1, none⟩ (.int .i64 z)).setCell ⟨tb, 2, none⟩ (.string ⟨#[]⟩)).setCell ⟨tb, 3, none⟩ (.slice A 0 c)) := ⟨_, rfl⟩
   have hXz : X.heap[tb]? = some (.cells #[.int .i64 2, .int .i64 z, .string ⟨#[]⟩, .slice A 0 c] 27 (0, 0)) := by rw [hX]; exact blk_set4 HB4.out.2.1 rfl _ _ _ _
   have hXb : Below wr.heap.size wr X := by rw [hX]; exact (((HB4.out.1.setCell (p := ⟨tb, 0, none⟩) HB2.out.2.2.2 _).setCell (p := ⟨tb, 1, none⟩) HB2.out.2.2.2 _).setCell (p := ⟨tb, 2, none⟩) HB2.out.2.2.2 _).setCell (p := ⟨tb, 3, none⟩) HB2.out.2.2.2 _
   have hXx : X.heap[xb]? = some (.cells #[.string ⟨#[88]⟩, .int .i64 0] 99 (0, 0)) := by rw [hX]; exact (blk_set4_ne _ _ _ _ (TyB.ne (t := 99) ⟨_, HB4.out.2.2⟩ (t' := 27) ⟨_, HB4.out.2.1⟩ (by decide))).trans HB4.out.2.2
   rw [← hX]
   clear hX s0 s1 s2 s3 q0 q1 q2 q3 qf hlt
   obtain ⟨mb, hmb⟩ : ∃ mb, mb = r.mb := ⟨_, rfl⟩
   have HSV : Hid (∀ w, Below X.heap.size X w → (w.cell? ⟨rb, 0, none⟩ = some (.pointer (some ⟨mb, 0, none⟩)) ∧ w.cell? ⟨mb, 1, none⟩ = some (.pointer (some ⟨ob, 0, none⟩))) ∧ w.cell? ⟨tb, 0, none⟩ = some (.int .i64 2) ∧ w.cell? ⟨tb, 1, none⟩ = some (.int .i64 z) ∧ w.cell? ⟨tb, 2, none⟩ = some (.string ⟨#[]⟩) ∧ w.cell? ⟨tb, 3, none⟩ = some (.slice A 0 c)) := Lib.hid fun w hw => by
    have hr := HH.out.1.later (HE.out.2.trans ((hXb.trans (hw.mono hXb.size)).mono HE.out.2.size))
    obtain ⟨a, b, c, d, -⟩ := four_at ((hw.block _ (Array.getElem?_eq_some_iff.1 hXz).1).trans hXz)
    have hm := hr.mach.cells.1.2.1
    rw [← hmb] at hm
    exact ⟨⟨(hr.run.get 0).trans (by rw [hmb]; rfl), hm⟩, a, b, c, d⟩
   have d0 := (Below.refl X.heap.size X).drew
   have HREN : Hid (∀ w, Below X.heap.size X w → Calls Tryz.prog 222 #[.pointer (some ⟨nb, 0, none⟩), .agg #[.int .i64 2, .int .i64 z, .string ⟨#[]⟩, .slice A 0 c]] w fun e w' => e = .returned (.agg #[.int .i64 2, .int .i64 z, .string ⟨#[]⟩, .slice A 0 c]) ∧ Below X.heap.size X w') := Lib.hid fun w hw => by
    refine (ren_int w nb z A c).mono ?_
    rintro e w' ⟨rfl, h1⟩
    exact ⟨rfl, hw.trans (h1.mono hw.size)⟩
   have HPUT : Hid (∀ w, Below X.heap.size X w → Calls Tryz.prog 188 #[.agg #[.int .i64 2, .int .i64 z, .string ⟨#[]⟩, .slice A 0 c], .int .i64 1, .pointer (some ⟨ob, 0, none⟩)] w fun e w' => e = .returned (.tuple #[.string ⟨(digB z).toArray⟩, .int .i64 0]) ∧ Below X.heap.size X w') := Lib.hid fun w hw => by
    refine (wput_z HZ.out w ob A c).mono ?_
    rintro e w' ⟨rfl, h1⟩
    exact ⟨rfl, hw.trans (h1.mono hw.size)⟩
   have HXX := Lib.hid (And.intro hXb hXx)
   clear hXz hXb hXx hmb HB4 HB2
   go_region_held3 (fun w => (w.cell? ⟨rb, 0, none⟩ = some (.pointer (some ⟨mb, 0, none⟩)) ∧ w.cell? ⟨mb, 1, none⟩ = some (.pointer (some ⟨ob, 0, none⟩))) ∧ w.cell? ⟨tb, 0, none⟩ = some (.int .i64 2) ∧ w.cell? ⟨tb, 1, none⟩ = some (.int .i64 z) ∧ w.cell? ⟨tb, 2, none⟩ = some (.string ⟨#[]⟩) ∧ w.cell? ⟨tb, 3, none⟩ = some (.slice A 0 c))
    (first | (with_reducible exact HSV.out _ (by assumption)))
    (first | (go_at_call 222; with_reducible refine (HREN.out _ (by assumption)).mono ?_; rintro e w5 ⟨rfl, d1⟩) | (go_at_call 188; with_reducible refine (HPUT.out _ (by assumption)).mono ?_; rintro e w6 ⟨rfl, d2⟩))
   have hb6 : Below wr.heap.size wr w6 := HXX.out.1.trans (d2.mono HXX.out.1.size)
   have hx6 := (d2.block _ (Array.getElem?_eq_some_iff.1 HXX.out.2).1).trans HXX.out.2
   have x0 : w6.cell? ⟨xb, 0, none⟩ = some (.string ⟨#[88]⟩) := (cell_of_row _ _ 0 _ _ _ hx6).trans rfl
   have HB6 : Hid (Lib.IsBuilder 386 5 u.heap.size u.heap.size (Lib.byteCells []) w6 ∧ Below u.heap.size u w6) := Lib.hid ⟨bld_later HE.out.1 hb6, HE.out.2.trans (hb6.mono HE.out.2.size)⟩
   clear d0 d1 d2 hb6 hx6 HSV HREN HPUT HXX
   go_wp2_with fail
   refine (blen_any _ _ _ _ HB6.out.1).mono ?_
   rintro e w7 ⟨rfl, rfl⟩
   go_wp2_with fail
   refine (bstr_any _ _ [] [88] _ HB6.out.1 (by simp) HB6.out.2.size).mono ?_
   rintro e w8 ⟨⟨v8, rfl⟩, k1, k2⟩
   have HB8 := Lib.hid (And.intro k1 (HB6.out.2.trans k2))
   clear k1 k2 x0 HB6
   go_wp2_with fail
   refine (bstr_any _ _ ([] ++ [88]) [32, 61, 32] _ HB8.out.1 (by simp) HB8.out.2.size).mono ?_
   rintro e w9 ⟨⟨v9, rfl⟩, k1, k2⟩
   have HB9 := Lib.hid (And.intro k1 (HB8.out.2.trans k2))
   clear k1 k2 HB8
   go_wp2_with fail
   refine (bstr_any _ _ (([] ++ [88]) ++ [32, 61, 32]) (digB z) _ HB9.out.1 (by have := dig_len z; simp; omega) HB9.out.2.size).mono ?_
   rintro e w10 ⟨⟨v10, rfl⟩, k1, k2⟩
   have HB10 : Hid (Lib.IsBuilder 386 5 u.heap.size u.heap.size (Lib.byteCells (ansB z)) w10 ∧ Below u.heap.size u w10) := Lib.hid ⟨k1, HB9.out.2.trans k2⟩
   clear k1 k2 HB9
   go_wp2_with fail
   go_roundw
   case rel => exact .inr ⟨rfl, HB10⟩
   case measure => decide
  ·have hal : (ansB z).length = 5 := by unfold ansB; rw [List.length_append, dig_len]; rfl
   have HBL : Hid (Calls Tryz.prog 264 #[.pointer (some ⟨u.heap.size, 0, none⟩)] wr fun e w' => e = .returned (.int .i64 5) ∧ w' = wr) := Lib.hid (by
    have := blen_any _ _ _ _ HE.out.1
    rw [hal] at this
    exact this)
   clear hal
   go_wp2_with fail
   refine HBL.out.mono ?_
   rintro e w1 ⟨rfl, rfl⟩
   go_wp2_with fail
   refine (Tryz.Builder_String_any _ _ (ansB z) _ HE.out.1 HE.out.2.size).mono ?_
   rintro e w2 ⟨rfl, h3⟩
   have HB2 := Lib.hid (HE.out.2.trans h3)
   have HR2 := Lib.hid (HH.out.1.later HB2.out)
   clear h3
   go_wp2_with fail
   refine (event_any w2 rb r l 1 (ansB z) HR2.out.run HR2.out.ev HR2.out.few.1 HR2.out.few.2.1).mono ?_
   rintro e w3 ⟨rfl, v3, g1, g2, g3⟩
   have HR3 : Hid (RunSt w3 rb { r with ev := v3 } (l ++ [(1, ansB z)]) db ob spent over ∧ TF evT u w3) := Lib.hid ⟨⟨g1, g2, (g3.block ⟨_, HR2.out.mach⟩ (by decide)).trans HR2.out.mach, by simpa using HH.out.2.2.2.2.2.2.2, HR2.out.few.2⟩, (TF.of_below evT HB2.out).trans (g3.mono (by decide))⟩
   clear g1 g2 g3
   obtain ⟨an, han⟩ : ∃ an, an = r.ans := ⟨_, rfl⟩
   have HAN := Lib.hid han
   have c5 : w3.cell? ⟨rb, 5, none⟩ = some (.int .i64 an) := (HR3.out.1.run.get 5).trans (by rw [han]; rfl)
   have hwa : IntKind.i64.wrap (an + 1) = an + 1 := IntWalk.i64_in _ (by have := HH.out.2.2.2.2.2.1; rw [← han] at this; omega)
   have hne : (an + 1 == 5) = false := beq_false_of_ne (by have := HH.out.2.2.2.2.2.1; rw [← han] at this; omega)
   have cf := HR3.out.1.run.fz
   have hlt := HR3.out.1.run.lt
   obtain ⟨X, hX⟩ : ∃ X, X = w3.setCell ⟨rb, 5, none⟩ (.int .i64 (an + 1)) := ⟨_, rfl⟩
   have h9 := HR3.out.1.put (r' := { r with ev := v3, ans := an + 1 }) 5 (.int .i64 (an + 1)) rfl rfl rfl
   rw [← hX] at h9
   have HX : Hid (RunSt X rb { r with ev := v3, ans := an + 1 } (l ++ [(1, ansB z)]) db ob spent over ∧ TF evT u X) := Lib.hid ⟨h9.1, HR3.out.2.trans (h9.2.mono (by decide))⟩
   clear h9 han
   go_upto_region 27 with fail
   rw [← hX]
   clear hX c5 cf hlt
   have d5 : X.cell? ⟨rb, 5, none⟩ = some (.int .i64 (an + 1)) := HX.out.1.run.get 5
   have d4 : X.cell? ⟨rb, 4, none⟩ = some (.int .i64 5) := (HX.out.1.run.get 4).trans (by show some (Value.int .i64 r.most) = _; rw [HH.out.2.2.2.2.2.2.1])
   go_region
   go_wp2_with fail
   have HQ : Hid (P (.returned (.int .i64 1)) X.drew) := Lib.hid (by
    rw [HP.out, ← HAN.out]
    have hb : Below X.heap.size X X.drew := (Below.refl _ _).drew
    exact ⟨rfl, v3, HX.out.1.later hb, HX.out.2.later hb⟩)
   exact HQ.out
end Go.Proofs.YtjdnigepnfeboaaGreatDoor
