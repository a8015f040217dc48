import Derived.Test.YtjdnigepnfeboaaGreatDoorJG18
namespace Go.Proofs.YtjdnigepnfeboaaGreatDoor
open Go.RowKit Go.Maps
set_option maxRecDepth 100000
variable [Base]
set_option linter.unusedSectionVars false
def encQ (y : Nat × Nat) : List Value := [.int .i64 (y.1 : Nat), .int .i64 (y.2 : Nat)]
omit [Base] in
theorem encQ_len (x : Nat × Nat) : (encQ x).length = 2 := rfl
omit [Base] in
theorem encQ_one (x : Nat × Nat) : ∀ u ∈ encQ x, u.oneCell' = true := by
 intro u hu
 simp [encQ] at hu
 rcases hu with rfl | rfl <;> rfl
omit [Base] in
theorem pairU_info : ∃ i z, Tryz.prog.info? 493 = some i ∧ i.zero = some z ∧ i.size = 2 ∧ i.bytes = 16 ∧ z.cells.size = 2 := by
 refine ⟨_, _, rfl, rfl, ?_, ?_, ?_⟩ <;> kernel_rfl
structure UnAt (rb sb : Nat) (u : World) (safe : Bool) (w : Nat) (wv : Value) (ps : List (Nat × Nat)) : Prop where
 blk : u.heap[rb]? = some (.cells #[.pointer (some ⟨sb, 0, none⟩), .bool safe, .int .i64 (w : Nat), wv] 456 (0, 0))
 row : Row u (rb + 1) 493 2 encQ wv ps
 work : w ≤ 20000
 few : ps.length ≤ 100000000 ∧ Base.b ≤ rb
def unT : List TypeId := [456, 493]
section
variable {rb sb : Nat} {u u' : World} {safe : Bool} {w : Nat} {wv : Value} {ps : List (Nat × Nat)}
theorem UnAt.lt (h : UnAt rb sb u safe w wv ps) : rb < u.heap.size := (Array.getElem?_eq_some_iff.1 h.blk).1
theorem UnAt.ge (h : UnAt rb sb u safe w wv ps) : Base.b ≤ rb := h.few.2
theorem UnAt.cells (h : UnAt rb sb u safe w wv ps) : u.cell? ⟨rb, 0, none⟩ = some (.pointer (some ⟨sb, 0, none⟩)) ∧ u.cell? ⟨rb, 1, none⟩ = some (.bool safe) ∧ u.cell? ⟨rb, 2, none⟩ = some (.int .i64 (w : Nat)) ∧ u.cell? ⟨rb, 3, none⟩ = some wv ∧ ∀ o, u.frozen? ⟨rb, o, none⟩ = false := four_at h.blk
theorem UnAt.keep (h : UnAt rb sb u safe w wv ps) (hb : ∀ t b, t ∈ unT → TyB u t b → u'.heap[b]? = u.heap[b]?) : UnAt rb sb u' safe w wv ps :=
 ⟨(hb 456 rb (by decide) ⟨_, h.blk⟩).trans h.blk, h.row.keep fun k hk => hb 493 k (by decide) (h.row.ty hk), h.work, h.few⟩
theorem UnAt.later (h : UnAt rb sb u safe w wv ps) (hb : Below u.heap.size u u') : UnAt rb sb u' safe w wv ps := h.keep fun _ b _ ht => hb.block b ht.lt
theorem UnAt.tf {tys : List TypeId} (h : UnAt rb sb u safe w wv ps) (hf : TF tys u u') (hn : ∀ t ∈ unT, t ∉ tys) : UnAt rb sb u' safe w wv ps := h.keep fun t _ ht hb => hf.block hb (hn t ht)
set_option maxHeartbeats 4000000 in
theorem put_un (h : UnAt rb sb u safe w wv ps) (a b : Nat) (hm : ps.length + 1 ≤ 100000000) :
    Calls Tryz.prog 356 #[.pointer (some ⟨rb, 0, none⟩), .int .i64 (a : Nat), .int .i64 (b : Nat)] u fun e u' => e = .returned (.tuple #[]) ∧ (∃ wv', UnAt rb sb u' safe w wv' (ps ++ [(a, b)])) ∧ TF unT u u' := by
 obtain ⟨i0, z0, hi0, hz0, hz1, hz2, hz3⟩ := pairU_info
 obtain ⟨A2, cap2, hwv⟩ := h.row.shape
 subst hwv
 obtain ⟨-, -, -, c3, cf⟩ := h.cells
 have H := Lib.hid h
 have hl := h.lt
 clear h
 obtain ⟨P, hP⟩ : ∃ P : Ending → World → Prop, P = fun e u' => e = .returned (.tuple #[]) ∧ (∃ wv', UnAt rb sb u' safe w wv' (ps ++ [(a, b)])) ∧ TF unT u u' := ⟨_, rfl⟩
 rw [← hP]
 have HP := Lib.hid hP
 clear hP
 go_enter Tryz.func356, Tryz.ntmps356
 go_wp2_with (at_builtin; refine wpList_row rfl _ _ 454 rfl _ (rb + 1) 493 i0 z0 2 16 encQ Tryz.underlying454 hi0 hz0 hz1 hz2 hz3 (by decide) encQ_len encQ_one _ ps (a, b) rfl (H.out.row.alloc _) _ 1 rfl (fun j w hw => by rw [cell_made _ _ _ j w (by rw [← Array.getElem?_toList]; exact hw)]) (by unfold maxLen; omega) (by omega) (by simp; omega) ?_)
 intro v' w2 hr hg
 obtain ⟨A3, c3', rfl⟩ := hr.shape
 have hk : ∀ {b' t'}, TyB u t' b' → t' ≠ 493 → w2.heap[b']? = u.heap[b']? := fun {b' t'} hb hn => by
  rw [hg.block b' (by rw [World.size_alloc]; have := hb.lt; omega) fun e => hn (hb.same (H.out.row.ty e.symm)), Below.heap_alloc _ _ _ hb.lt]
 have hb2 : w2.heap[rb]? = _ := (hk (t' := 456) ⟨_, H.out.blk⟩ (by decide)).trans H.out.blk
 obtain ⟨s0, s1, s2, s3, sf⟩ := four_at hb2
 have hf2 : TF unT u w2 := ((TF.refl unT u).alloc _).grown hg fun g e => by
  obtain ⟨cs0, h0⟩ := H.out.row.ty e
  exact .inl ⟨by have := (H.out.row.lt g e).1; have := H.out.ge; omega, 493, by decide, cs0, by rw [Below.heap_alloc _ _ _ (Array.getElem?_eq_some_iff.1 h0).1]; exact h0⟩
 have hlw : rb < w2.heap.size := (Array.getElem?_eq_some_iff.1 hb2).1
 have HN : Hid (UnAt rb sb (w2.setCell ⟨rb, 3, none⟩ (.slice A3 (ps ++ [(a, b)]).length c3')) safe w (.slice A3 (ps ++ [(a, b)]).length c3') (ps ++ [(a, b)]) ∧ TF unT u (w2.setCell ⟨rb, 3, none⟩ (.slice A3 (ps ++ [(a, b)]).length c3'))) := Lib.hid
  ⟨⟨blk_put hb2 _, hr.keep fun k hk' => Below.heap_setCell _ _ _ _ ((hr.ty hk').ne (t' := 456) ⟨_, hb2⟩ (by decide)), H.out.work, ⟨by rw [List.length_append]; exact hm, H.out.ge⟩⟩, hf2.set (p := ⟨rb, 3, none⟩) (t := 456) ⟨_, hb2⟩ (by decide) H.out.ge _⟩
 have hlen : (ps ++ [(a, b)]).length = ps.length + 1 := by simp
 rw [hlen] at HN ⊢
 clear hr hg hb2 hf2 hk hlen
 go_wp2_with fail
 exact bodyPost_end (v := .tuple #[]) (by simp [results, Tryz.results356, go_sem]) rfl (by rw [HP.out]; exact ⟨rfl, ⟨_, HN.out.1⟩, HN.out.2⟩)
set_option maxHeartbeats 4000000 in
theorem look_un (h : UnAt rb sb u safe w wv ps) :
    Calls Tryz.prog 357 #[.pointer (some ⟨rb, 0, none⟩)] u fun e u' => (w = 20000 ∧ e = .returned (.bool false) ∧ u = u') ∨ (w < 20000 ∧ e = .returned (.bool true) ∧ UnAt rb sb u' safe (w + 1) wv ps ∧ TF unT u u' ∧ ∀ k, k ≠ rb → u'.heap[k]? = u.heap[k]?) := by
 obtain ⟨-, -, c2, -, cf⟩ := h.cells
 have hl := h.lt
 have hwk := h.work
 by_cases hw : w < 20000
 ·have hn : ¬ ((w : Int) ≥ 20000) := by omega
  have hwr : IntKind.i64.wrap ((w : Int) + 1) = (w : Int) + 1 := IntWalk.i64_in _ (by omega)
  have HN : Hid (UnAt rb sb (u.setCell ⟨rb, 2, none⟩ (.int .i64 ((w : Int) + 1))) safe (w + 1) wv ps ∧ TF unT u (u.setCell ⟨rb, 2, none⟩ (.int .i64 ((w : Int) + 1)))) := Lib.hid
   ⟨⟨blk_put h.blk _, h.row.keep fun k hk' => Below.heap_setCell _ _ _ _ ((h.row.ty hk').ne (t' := 456) ⟨_, h.blk⟩ (by decide)), hw, h.few⟩, (TF.refl unT u).set (p := ⟨rb, 2, none⟩) (t := 456) ⟨_, h.blk⟩ (by decide) h.ge _⟩
  clear h hwk
  obtain ⟨P, hP⟩ : ∃ P : Ending → World → Prop, P = fun e u' => (w = 20000 ∧ e = .returned (.bool false) ∧ u = u') ∨ (w < 20000 ∧ e = .returned (.bool true) ∧ UnAt rb sb u' safe (w + 1) wv ps ∧ TF unT u u' ∧ ∀ k, k ≠ rb → u'.heap[k]? = u.heap[k]?) := ⟨_, rfl⟩
  rw [← hP]
  have HP := Lib.hid hP
  clear hP
  go_enter Tryz.func357, Tryz.ntmps357
  go_wp2_with fail
  show P _ _
  rw [HP.out]
  exact .inr ⟨hw, rfl, HN.out.1, HN.out.2, fun k hk => Below.heap_setCell _ _ _ _ hk⟩
 ·obtain rfl : w = 20000 := by omega
  clear h hwk hw
  go_enter Tryz.func357, Tryz.ntmps357
  go_wp2_with fail
  go_ret
  first | exact .inl ⟨trivial, rfl, rfl⟩ | simp
end
section
variable {sb room : Nat} {u u' : World} {cv bv : Value} {xs : List ScM} {cs : List Sc} {ys : List (Nat × Int)}
set_option maxHeartbeats 2000000 in
theorem cell_un (h : StAt sb room u cv bv xs cs ys) {i : Nat} (hi : i < cs.length) : Calls Tryz.prog 326 #[.pointer (some ⟨sb, 0, none⟩), .int .i64 (i : Nat)] u fun e u' => e = .returned (.bool true) ∧ u = u' := by
 obtain ⟨j, hj⟩ := h.flw i hi
 have H := Lib.hid h
 have HJ := Lib.hid hj
 clear h hj
 go_enter Tryz.func326, Tryz.ntmps326
 go_wp2_with fail
 refine (Follow_any H.out HJ.out).mono ?_
 rintro e w1 ⟨rfl, rfl⟩
 have hj0 : (0 : Int) ≤ (j : Int) := by omega
 go_wp2_with fail
 go_ret
 exact ⟨rfl, rfl⟩
end
end Go.Proofs.YtjdnigepnfeboaaGreatDoor
namespace Go.Proofs.YtjdnigepnfeboaaGreatDoor
open Go.RowKit Go.Maps
set_option maxRecDepth 100000
variable [Base]
set_option linter.unusedSectionVars false
section
variable {rb sb room : Nat} {u u' : World} {safe : Bool} {w : Nat} {wv cv bv : Value} {ps : List (Nat × Nat)} {xs : List ScM} {cs : List Sc} {ys : List (Nat × Int)}
structure HasAt (rb sb : Nat) (u : World) (safe : Bool) (w0 : Nat) (wv : Value) (ps : List (Nat × Nat)) (cs : List Sc) (gk : Nat) (v : Value) (wr : World) (w' : Nat) (l : List Nat) : Prop where
 un : UnAt rb sb wr safe w' wv ps
 fr : TF unT u wr
 row : Row wr u.heap.size 3 1 encN v l
 in' : ∀ a ∈ l, a < cs.length
 few : l.length ≤ 1 + 255 * w'
 gas : w' + gk = 20001
 up : w0 ≤ w'
set_option maxHeartbeats 8000000 in
theorem has_un (h : UnAt rb sb u safe w wv ps) (hs : StAt sb room u cv bv xs cs ys) (v i : Nat) (hi : i < cs.length) :
    Calls Tryz.prog 405 #[.pointer (some ⟨rb, 0, none⟩), .int .i64 (v : Nat), .int .i64 (i : Nat)] u fun e u' => ∃ b z w', e = .returned (.tuple #[.bool b, .int .i64 z]) ∧ UnAt rb sb u' safe w' wv ps ∧ StAt sb room u' cv bv xs cs ys ∧ TF unT u u' ∧ w ≤ w' := by
 obtain ⟨i0, z0, hi0, hz0, hz1, hz2, hz3⟩ := int_info
 obtain ⟨P, hP⟩ : ∃ P : Ending → World → Prop, P = fun e u' => ∃ b z w', e = .returned (.tuple #[.bool b, .int .i64 z]) ∧ UnAt rb sb u' safe w' wv ps ∧ StAt sb room u' cv bv xs cs ys ∧ TF unT u u' ∧ w ≤ w' := ⟨_, rfl⟩
 rw [← hP]
 have HP := Lib.hid hP
 have hb0 : Below u.heap.size u (u.alloc (.cells #[.int .i64 (i : Nat)] 3)) := (Below.refl _ _).alloc (Nat.le_refl _) _
 have HI0 : Hid (HasAt rb sb u safe w wv ps cs (20001 - w) (.slice (some ⟨u.heap.size, 0, none⟩) 1 1) (u.alloc (.cells #[.int .i64 (i : Nat)] 3)) w [i]) := Lib.hid
  ⟨h.later hb0, (TF.refl _ _).alloc _, Row.one encN_len u i (Nat.le_refl _), fun a ha => by rw [List.mem_singleton] at ha; omega, by simp, by have := h.work; omega, Nat.le_refl _⟩
 have HST : Hid (∀ wr, TF unT u wr → StAt sb room wr cv bv xs cs ys) := Lib.hid fun wr hf => hs.tf hf (by decide)
 clear hP h hs hb0
 go_enter Tryz.func405, Tryz.ntmps405
 go_wp2_with fail
 go_loopg [8] (20001 - w) (fun gk x wr => ∃ (w' : Nat) (l : List Nat), Hid (HasAt rb sb u safe w wv ps cs gk x wr w' l))
 case atStart => exact ⟨w, [i], HI0⟩
 case round =>
  obtain ⟨w', l, HI⟩ := hrel
  clear HI0
  by_cases hl : l = []
  ·subst hl
   obtain ⟨A2, c2, e2⟩ := HI.out.row.shape
   subst e2
   go_wp2_with fail
   show P (.returned (.tuple #[.bool false, .int .i64 0])) wr
   rw [HP.out]
   exact ⟨false, 0, w', rfl, HI.out.un, HST.out _ HI.out.fr, HI.out.fr, HI.out.up⟩
  ·obtain ⟨l0, a, rfl⟩ : ∃ l0 a, l = l0 ++ [a] := ⟨_, _, (List.dropLast_concat_getLast hl).symm⟩
   obtain ⟨g, cap, e1, g1, g2, g3, g4⟩ := HI.out.row.cells encN_len hl
   rw [List.length_append, List.length_singleton] at e1 g3
   subst e1
   have q0 := (g4 l0.length a (by simp) 0 _ rfl).1
   rw [Nat.mul_one, Nat.add_zero] at q0
   obtain ⟨p0, -, -, -, -⟩ := HI.out.un.cells
   obtain ⟨j, hj⟩ := (HST.out _ HI.out.fr).flw a (HI.out.in' a (List.mem_append_right _ (List.mem_singleton.2 rfl)))
   have HJ := Lib.hid hj
   have hfw := HI.out.few
   rw [List.length_append, List.length_singleton] at hfw
   have hwk := HI.out.un.work
   have hw1 : IntKind.i64.wrap (l0.length : Int) = (l0.length : Int) := IntWalk.i64_in _ (by omega)
   have hn0 : (0 : Int) ≤ (l0.length : Int) := by omega
   have hn1 : (0 : Int) < (l0.length : Int) + 1 := by omega
   have hn2 : (l0.length : Int) < (l0.length : Int) + 1 := by omega
   have HS := Lib.hid (And.intro p0 q0)
   have hlw := HI.out.un.lt
   clear g4 hl hj p0 q0 hfw hwk
   go_upto_region 3 with fail
   go_region_held3 (fun v => v.cell? ⟨rb, 0, none⟩ = some (.pointer (some ⟨sb, 0, none⟩)) ∧ v.cell? ⟨g, l0.length, none⟩ = some (.int .i64 (a : Nat)))
    (first | (with_reducible exact HS.out) | exact HS.out)
    (first | (go_at_call 183; refine (Follow_any ((HST.out _ HI.out.fr).later (Below.refl _ _).drew) HJ.out).mono ?_; rintro e w1 ⟨rfl, rfl⟩))
   have HI1 : Hid (UnAt rb sb wr.drew safe w' wv ps ∧ StAt sb room wr.drew cv bv xs cs ys ∧ TF unT u wr.drew ∧ Row wr.drew u.heap.size 3 1 encN (.slice (some ⟨g, 0, none⟩) l0.length cap) l0) := Lib.hid
    ⟨HI.out.un.later (Below.refl _ _).drew, (HST.out _ HI.out.fr).later (Below.refl _ _).drew, HI.out.fr.drew, (Row.front encN_len HI.out.row).later (Below.refl _ _).drew⟩
   have HIN := Lib.hid (And.intro HI.out.in' (And.intro HI.out.few HI.out.gas))
   have HUP := Lib.hid HI.out.up
   clear HI HS hlw
   obtain ⟨W1, hW1⟩ : ∃ W, W = wr.drew := ⟨_, rfl⟩
   rw [← hW1] at HI1 ⊢
   clear hW1
   go_wp2_with fail
   refine (look_un HI1.out.1).mono ?_
   rintro e W2 h
   rcases h with ⟨h20, rfl, rfl⟩ | ⟨h20, rfl, hu2, hf2, -⟩
   ·clear h20
    go_wp2_with fail
    show P (.returned (.tuple #[.bool false, .int .i64 16])) W1
    rw [HP.out]
    exact ⟨false, 16, w', rfl, HI1.out.1, HI1.out.2.1, HI1.out.2.2.1, HUP.out⟩
   have HI2 : Hid (UnAt rb sb W2 safe (w' + 1) wv ps ∧ StAt sb room W2 cv bv xs cs ys ∧ TF unT u W2 ∧ Row W2 u.heap.size 3 1 encN (.slice (some ⟨g, 0, none⟩) l0.length cap) l0) := Lib.hid
    ⟨hu2, HI1.out.2.1.tf hf2 (by decide), HI1.out.2.2.1.trans hf2, hf2.row HI1.out.2.2.2 (by decide)⟩
   clear hu2 hf2 HI1
   by_cases hjv : j = v
   ·have hjb : ((j : Int) == (v : Int)) = true := by rw [hjv]; exact beq_self_eq_true _
    clear hjv
    go_wp2_with fail
    show P (.returned (.tuple #[.bool true, .int .i64 0])) W2
    rw [HP.out]
    exact ⟨true, 0, w' + 1, rfl, HI2.out.1, HI2.out.2.1, HI2.out.2.2.1, Nat.le_succ_of_le HUP.out⟩
   have hjb : ((j : Int) == (v : Int)) = false := beq_eq_false_iff_ne.2 (by omega)
   obtain ⟨c, hc, -⟩ := HJ.out.free
   have har := HI2.out.2.1.ar j c hc
   obtain ⟨p0, -, -, -, -⟩ := HI2.out.1.cells
   have HC := Lib.hid hc
   clear hjv hc
   go_wp2_with fail
   refine (look_st HI2.out.2.1 HJ.out.self HC.out (by omega)).mono ?_
   rintro e W3 ⟨A3, c3, rfl, ha3, hn3, hb3⟩
   obtain ⟨W4, hW4⟩ : ∃ W, W = W3.alloc (.cells #[.int .i64 (shF j c).k, .int .i64 (shF j c).n, .string ⟨(shF j c).s.toArray⟩, .slice (shF j c).A (shF j c).len (shF j c).cap] 27) := ⟨_, rfl⟩
   have hb4 : Below W3.heap.size W3 W4 := by rw [hW4]; exact (Below.refl _ _).alloc (Nat.le_refl _) _
   have hb24 : Below W2.heap.size W2 W4 := hb3.trans (hb4.mono hb3.size)
   have HI4 : Hid (UnAt rb sb W4 safe (w' + 1) wv ps ∧ (∀ b off, A3 = some ⟨b, off, none⟩ → b < W4.heap.size ∧ (Value.slice (some ⟨g, 0, none⟩) l0.length cap).ownBlock ≠ some b) ∧ TF unT u W4 ∧ Row W4 u.heap.size 3 1 encN (.slice (some ⟨g, 0, none⟩) l0.length cap) l0 ∧ ArgsAt W4 A3 c.args) := Lib.hid
    ⟨HI2.out.1.later hb24, fun b off e => ⟨Nat.lt_of_lt_of_le (hn3 b off e).2 hb4.size, fun e' => by have h1 := (hn3 b off e).1; have h2 := (HI2.out.2.2.2.lt g rfl).2; have e2 : g = b := Option.some.inj e'; omega⟩, HI2.out.2.2.1.later hb24, HI2.out.2.2.2.later hb24, ha3.later hb4⟩
   have HIA : Hid (∀ a ∈ c.args, a < cs.length) := Lib.hid (HI2.out.2.1.args j c HC.out)
   unfold tvV
   go_upto_region 10 with fail
   rw [← hW4]
   clear hW4 hb3 hb4 hb24 ha3 hn3 HI2 p0
   obtain ⟨n, hn⟩ : ∃ n, n = c.args.length := ⟨_, rfl⟩
   rw [← hn] at har ⊢
   have HN := Lib.hid hn
   have hwn : IntKind.i64.wrap ((n : Int) - 1) = (n : Int) - 1 := IntWalk.i64_in _ (by omega)
   clear hn
   obtain ⟨wl, hwl⟩ : ∃ wl : World, wl = wr := ⟨_, rfl⟩
   subst hwl
   go_wp2_with fail
   go_loopw [8, 12] (fun x y wi => ∃ (k : Nat) (l' : List Nat), y = .int .i64 ((k : Int) - 1) ∧ k ≤ n ∧ Hid (UnAt rb sb wi safe (w' + 1) wv ps ∧ (∀ b off, A3 = some ⟨b, off, none⟩ → b < wi.heap.size ∧ x.ownBlock ≠ some b) ∧ TF unT u wi ∧ Row wi u.heap.size 3 1 encN x l' ∧ ArgsAt wi A3 c.args ∧ (∀ a ∈ l', a < cs.length) ∧ l'.length + k = l0.length + n)) (fun _ y _ => (intOf y + 1).toNat)
   case atStart => exact ⟨n, l0, rfl, Nat.le_refl _, Lib.hid ⟨HI4.out.1, HI4.out.2.1, HI4.out.2.2.1, HI4.out.2.2.2.1, HI4.out.2.2.2.2, fun b hb => HIN.out.1 b (List.mem_append_left _ hb), rfl⟩⟩
   case round =>
    obtain ⟨k, l', rfl, hkn, HJ4⟩ := hrel
    clear HI4
    obtain _ | k := k
    ·have hng : ¬ (((0 : Nat) : Int) - 1 ≥ 0) := by omega
     have hgk : gk - 1 < gk := by have := HIN.out.2.2; omega
     have HNX : Hid (HasAt rb sb u safe w wv ps cs (gk - 1) u8 wr (w' + 1) l') := Lib.hid ⟨HJ4.out.1, HJ4.out.2.2.1, HJ4.out.2.2.2.1, HJ4.out.2.2.2.2.2.1, by have := HJ4.out.2.2.2.2.2.2; have := HIN.out.2.1; simp at this; omega, by have := HIN.out.2.2; omega, Nat.le_succ_of_le HUP.out⟩
     go_wp2_with fail
     go_roundg (gk - 1)
     case measure => exact hgk
     case rel => exact ⟨w' + 1, l', HNX⟩
    ·obtain ⟨a', ha'⟩ : ∃ a', c.args[k]? = some a' := ⟨_, List.getElem?_eq_getElem (by have := HN.out; omega)⟩
     obtain ⟨b, off, rfl, hb, q3⟩ := HJ4.out.2.2.2.2.1.at' k a' ha'
     obtain ⟨A8, c8, e8⟩ := HJ4.out.2.2.2.1.shape
     subst e8
     have hbl := hb.lt
     have HA' := Lib.hid ha'
     have ek : (((k + 1 : Nat) : Int) - 1) = (k : Int) := by omega
     have hk0 : (0 : Int) ≤ (k : Int) := by omega
     have hk1 : (k : Int) < (n : Int) := by omega
     have hwk1 : IntKind.i64.wrap ((k : Int) - 1) = (k : Int) - 1 := IntWalk.i64_in _ (by omega)
     have hlen := HJ4.out.2.2.2.2.2.2
     have hfew := HIN.out.2.1
     rw [List.length_append, List.length_singleton] at hfew
     have hsz := HJ4.out.2.2.1.size
     rw [ek]
     clear ha' hb
     go_wp2_with (at_builtin; refine wpList_row_lies rfl _ _ 157 rfl _ u.heap.size 3 i0 z0 1 8 encN Tryz.underlying157 hi0 hz0 hz1 hz2 hz3 (by decide) encN_len encN_one _ l' a' rfl (HJ4.out.2.2.2.1.alloc _) _ 1 rfl (fun j w hw => by rw [cell_made _ _ _ j w (by rw [← Array.getElem?_toList]; exact hw)]) (by unfold maxLen; omega) (by omega) (by simp; omega) ?_)
     intro g' cap' w5 hr hg hat
     have hba : Below wr.heap.size wr (wr.alloc (.cells #[.int .i64 (a' : Nat)] 3)) := (Below.refl _ _).alloc (Nat.le_refl _) _
     have hk5 : ∀ {b' t'}, TyB wr t' b' → (Value.slice A8 l'.length c8).ownBlock ≠ some b' → w5.heap[b']? = wr.heap[b']? := fun {b' t'} hb hn => by
      rw [hg.block b' (by rw [World.size_alloc]; have := hb.lt; omega) fun e => hn e.symm, Below.heap_alloc _ _ _ hb.lt]
     have hrow := HJ4.out.2.2.2.1
     have hu5 : UnAt rb sb w5 safe (w' + 1) wv ps := HJ4.out.1.keep fun t b' ht hb => hk5 hb fun e => by
      have h1 := (hrow.ty e).same hb
      subst h1
      exact absurd ht (by decide)
     have hf5 : TF unT u w5 := (HJ4.out.2.2.1.alloc _).grown hg fun g0 e => .inr (hrow.lt g0 e).1
     have hA5 : ArgsAt w5 (some ⟨b, off, none⟩) c.args := ⟨HJ4.out.2.2.2.2.1.nil, fun q x hx => by
      obtain ⟨b', off', e1, e2, e3⟩ := HJ4.out.2.2.2.2.1.at' q x hx
      have h1 := hk5 e2 (HJ4.out.2.1 b' off' e1).2
      exact ⟨b', off', e1, e2.keep h1, (World.cell?_of_block (a := ⟨b', off' + q, none⟩) h1).trans e3⟩⟩
     have hD5 : ∀ b' off', (some ⟨b, off, none⟩ : Option Addr) = some ⟨b', off', none⟩ → b' < w5.heap.size ∧ (Value.slice (some ⟨g', 0, none⟩) (l'.length + 1) cap').ownBlock ≠ some b' := fun b' off' e => by
      obtain ⟨h1, h2⟩ := HJ4.out.2.1 b' off' e
      have h3 := hg.size
      rw [World.size_alloc] at h3
      refine ⟨by omega, fun e' => ?_⟩
      have e2 : g' = b' := Option.some.inj e'
      rcases hat with h4 | h4
      ·exact h2 (h4.trans (by rw [e2]))
      ·have h5 : g' = wr.heap.size + 1 := by first | exact h4 | (rw [h4, World.size_alloc])
       omega
     have HN5 := Lib.hid (And.intro hu5 (And.intro hD5 (And.intro hf5 (And.intro hr (And.intro hA5 (And.intro (fun z hz => (List.mem_append.1 hz).elim (HJ4.out.2.2.2.2.2.1 z) fun hz => by rw [List.mem_singleton] at hz; rw [hz]; exact HIA.out a' (List.mem_of_getElem? HA'.out) : ∀ z ∈ l' ++ [a'], z < cs.length) (show (l' ++ [a']).length + k = l0.length + n by rw [List.length_append, List.length_singleton]; omega)))))))
     clear hr hg hat hba hk5 hrow hu5 hf5 hA5 hD5 hlen hfew hsz
     go_wp2_with fail
     go_roundw
     case rel => exact ⟨k, l' ++ [a'], rfl, by omega, HN5⟩
     case measure =>
      simp only [intOf]
      omega
end
end Go.Proofs.YtjdnigepnfeboaaGreatDoor
namespace Go.Proofs.YtjdnigepnfeboaaGreatDoor
open Go.RowKit Go.Maps
set_option maxRecDepth 100000
variable [Base]
set_option linter.unusedSectionVars false
def unS : List TypeId := unT ++ stT
section
variable {rb sb room : Nat} {u u' : World} {safe : Bool} {w : Nat} {wv cv bv : Value} {ps : List (Nat × Nat)} {xs : List ScM} {cs : List Sc} {ys : List (Nat × Int)}
def BindOut (rb sb room : Nat) (u : World) (safe : Bool) (w : Nat) (wv cv bv : Value) (ps : List (Nat × Nat)) (xs : List ScM) (cs : List Sc) (ys : List (Nat × Int)) (v t : Nat) (c : Sc) (e : Ending) (u' : World) : Prop :=
 (∃ z w', safe = true ∧ w ≤ w' ∧ e = .returned (.tuple #[.bool false, .int .i64 z]) ∧ UnAt rb sb u' safe w' wv ps ∧ StAt sb room u' cv bv xs cs ys ∧ TF unS u u') ∨
 (∃ w' bv' xs' tp, (safe = false → w' = w) ∧ w ≤ w' ∧ e = .returned (.tuple #[.bool true, .int .i64 0]) ∧ UnAt rb sb u' safe w' wv ps ∧ StAt sb room u' cv bv' xs' (putTo cs v c (some t)) (ys ++ [(v, tp)]) ∧ TF unS u u')
set_option maxHeartbeats 8000000 in
theorem bind_un (h : UnAt rb sb u safe w wv ps) (hs : StAt sb room u cv bv xs cs ys) {v t : Nat} {c : Sc} (hv : Root cs v v) (ht : Root cs t t) (hne : v ≠ t) (hc : cs[v]? = some c) (hk : c.k = 1) (hm : ys.length + 1 ≤ 100000000) (kd : Int) :
    Calls Tryz.prog 378 #[.pointer (some ⟨rb, 0, none⟩), .int .i64 (v : Nat), .int .i64 (t : Nat), .int .i64 kd] u fun e u' => BindOut rb sb room u safe w wv cv bv ps xs cs ys v t c e u' := by
 have H := Lib.hid (And.intro h hs)
 have HB : Hid (∀ u1, TF unT u u1 → StAt sb room u1 cv bv xs cs ys → Calls Tryz.prog 406 #[.pointer (some ⟨sb, 0, none⟩), .int .i64 (v : Nat), .int .i64 (t : Nat)] u1 fun e u' => e = .returned (.int .i64 0) ∧ (∃ bv' xs' tp, StAt sb room u' cv bv' xs' (putTo cs v c (some t)) (ys ++ [(v, tp)])) ∧ TF stT u1 u') := Lib.hid fun u1 _ h1 => bind_any h1 hv ht hne hc hk hm
 have HTL := Lib.hid ht.lt
 obtain ⟨p0, p1, -, -, -⟩ := h.cells
 have hl := h.lt
 clear h hs hv ht hc hk
 obtain ⟨P, hP⟩ : ∃ P : Ending → World → Prop, P = fun e u' => BindOut rb sb room u safe w wv cv bv ps xs cs ys v t c e u' := ⟨_, rfl⟩
 rw [← hP]
 have HP := Lib.hid hP
 clear hP
 have HEND : Hid (∀ u1 w1, TF unT u u1 → UnAt rb sb u1 safe w1 wv ps → (safe = false → w1 = w) ∧ w ≤ w1 → ∀ (e : Ending) u2, (e = .returned (.int .i64 0) ∧ (∃ bv' xs' tp, StAt sb room u2 cv bv' xs' (putTo cs v c (some t)) (ys ++ [(v, tp)])) ∧ TF stT u1 u2) → P (.returned (.tuple #[.bool true, .int .i64 0])) u2) := Lib.hid fun u1 w1 hf hu hw e u2 h3 => by
  obtain ⟨-, ⟨bv', xs', tp, h4⟩, h5⟩ := h3
  rw [HP.out]
  exact .inr ⟨w1, bv', xs', tp, hw.1, hw.2, rfl, hu.tf h5 (by decide), h4, (hf.mono fun _ hx => List.mem_append_left _ hx).trans (h5.mono fun _ hx => List.mem_append_right _ hx)⟩
 by_cases hsf : safe = true ∧ kd ≠ 1
 ·obtain ⟨rfl, hkd⟩ := hsf
  have hk1 : (kd != 1) = true := bne_iff_ne.2 hkd
  go_enter Tryz.func378, Tryz.ntmps378
  go_wp2_with fail
  refine (has_un H.out.1 H.out.2 v t HTL.out).mono ?_
  rintro e u1 ⟨b, z, w1, rfl, hu1, hs1, hf1, hw1⟩
  have HU := Lib.hid (And.intro hu1 (And.intro hs1 (And.intro hf1 hw1)))
  obtain ⟨q0, -, -, -, -⟩ := hu1.cells
  have hl1 := hu1.lt
  have HPF : Hid (P (.returned (.tuple #[.bool false, .int .i64 z])) u1) := Lib.hid (by
   rw [HP.out]
   exact .inl ⟨z, w1, rfl, hw1, rfl, hu1, hs1, hf1.mono fun _ hx => List.mem_append_left _ hx⟩)
  clear hu1 hs1 hf1 hw1
  cases b with
  | true =>
   go_wp2_with fail
   exact HPF.out
  | false =>
   by_cases hz : z = 0
   ·subst hz
    go_wp2_with fail
    refine (HB.out _ HU.out.2.2.1 HU.out.2.1).mono ?_
    intro e u2 h3
    have HQ := Lib.hid (HEND.out _ _ HU.out.2.2.1 HU.out.1 ⟨fun e => (by cases e), HU.out.2.2.2⟩ e u2 h3)
    obtain ⟨rfl, -, -⟩ := h3
    go_wp2_with fail
    exact HQ.out
   ·have hz1 : (z != 0) = true := bne_iff_ne.2 hz
    go_wp2_with fail
    exact HPF.out
 ·have hcase : safe = false ∨ kd = 1 := by
   cases safe with
   | false => exact .inl rfl
   | true => exact .inr (Decidable.byContradiction fun e => hsf ⟨rfl, e⟩)
  clear hsf
  rcases hcase with rfl | rfl
  ·go_enter Tryz.func378, Tryz.ntmps378
   go_wp2_with fail
   refine (HB.out _ (TF.refl _ _) H.out.2).mono ?_
   intro e u2 h3
   have HQ := Lib.hid (HEND.out _ _ (TF.refl _ _) H.out.1 ⟨fun _ => rfl, Nat.le_refl _⟩ e u2 h3)
   obtain ⟨rfl, -, -⟩ := h3
   go_wp2_with fail
   exact HQ.out
  ·cases safe with
   | false =>
    go_enter Tryz.func378, Tryz.ntmps378
    go_wp2_with fail
    refine (HB.out _ (TF.refl _ _) H.out.2).mono ?_
    intro e u2 h3
    have HQ := Lib.hid (HEND.out _ _ (TF.refl _ _) H.out.1 ⟨fun _ => rfl, Nat.le_refl _⟩ e u2 h3)
    obtain ⟨rfl, -, -⟩ := h3
    go_wp2_with fail
    exact HQ.out
   | true =>
    go_enter Tryz.func378, Tryz.ntmps378
    go_wp2_with fail
    refine (HB.out _ (TF.refl _ _) H.out.2).mono ?_
    intro e u2 h3
    have HQ := Lib.hid (HEND.out _ _ (TF.refl _ _) H.out.1 ⟨fun _ => rfl, Nat.le_refl _⟩ e u2 h3)
    obtain ⟨rfl, -, -⟩ := h3
    go_wp2_with fail
    exact HQ.out
end
end Go.Proofs.YtjdnigepnfeboaaGreatDoor
namespace Go.Proofs.YtjdnigepnfeboaaGreatDoor
open Go.RowKit Go.Maps
set_option maxRecDepth 100000
variable [Base]
set_option linter.unusedSectionVars false
omit [Base] in
theorem shF_k (j : Nat) (c : Sc) : (shF j c).k = c.k := by
 unfold shF
 split
 ·rename_i h
  exact h.symm
 ·rfl
omit [Base] in
theorem shF_ns (j : Nat) (c : Sc) (h : c.k ≠ 1) : (shF j c).n = c.n ∧ (shF j c).s = c.s := by
 unfold shF
 rw [if_neg h]
 exact ⟨rfl, rfl⟩
section
variable {rb sb room : Nat} {u u' : World} {safe : Bool} {w : Nat} {wv cv bv : Value} {ps : List (Nat × Nat)} {xs : List ScM} {cs : List Sc} {ys : List (Nat × Int)}
def OneOut (rb sb room : Nat) (u : World) (safe : Bool) (w : Nat) (ps : List (Nat × Nat)) (cs : List Sc) (ys : List (Nat × Int)) (a b : Nat) (e : Ending) (u' : World) : Prop :=
 ∃ (ok : Bool) (z : Int) (w' : Nat) (wv' cv' bv' : Value) (ps' : List (Nat × Nat)) (xs' : List ScM) (cs' : List Sc) (ys' : List (Nat × Int)),
  e = .returned (.tuple #[.bool ok, .int .i64 z]) ∧ UnAt rb sb u' safe w' wv' ps' ∧ StAt sb room u' cv' bv' xs' cs' ys' ∧ TF unS u u' ∧ w ≤ w' ∧ cs'.length = cs.length ∧ (∃ e', ys' = ys ++ e' ∧ ys'.length ≤ ys.length + 1) ∧ ps'.length ≤ ps.length + 255 ∧ (∀ p ∈ ps', p ∈ ps ∨ p.1 < cs.length ∧ p.2 < cs.length) ∧
  (ok = false → ∀ bs r w0, w0 + 1 = w → Uni safe cs bs ((a, b) :: r) w0 (false, z) cs bs) ∧
  (ok = true → ∃ d bs', ps' = ps ++ d.reverse ∧ ys'.map (·.1) = ys.map (·.1) ++ bs' ∧ ∀ bs r R cs9 bs9 w0, w0 + 1 = w → Uni safe cs' (bs ++ bs') (d ++ r) w' R cs9 bs9 → Uni safe cs bs ((a, b) :: r) w0 R cs9 bs9)
theorem OneOut.bind {a b ra rr v t : Nat} {x : Sc} {W : World} {e : Ending} (hf : TF unS u W) (hra : Root cs a ra) (hrr : Root cs b rr) (hne : ra ≠ rr) (hv : (v = ra ∧ t = rr) ∨ (v = rr ∧ t = ra)) (hx : cs[v]? = some x) (hk : x.k = 1) (h : BindOut rb sb room W safe w wv cv bv ps xs cs ys v t x e u') : OneOut rb sb room u safe w ps cs ys a b e u' := by
 rcases h with ⟨z, w', hs, hw, rfl, h1, h2, h3⟩ | ⟨w', bv', xs', tp, hw, hw2, rfl, h1, h2, h3⟩
 ·exact ⟨false, z, w', wv, cv, bv, ps, xs, cs, ys, rfl, h1, h2, hf.trans h3, hw, rfl, ⟨[], by simp, by omega⟩, by omega, fun p hp => .inl hp, fun _ bs r w0 _ => .occurs hs, fun e => (by cases e)⟩
 ·refine ⟨true, 0, w', wv, cv, bv', ps, xs', _, _, rfl, h1, h2, hf.trans h3, hw2, putTo_len .., ⟨[(v, tp)], rfl, by simp⟩, by omega, fun p hp => .inl hp, fun e => (by cases e), fun _ => ⟨[], [v], by simp, by simp, fun bs r R cs9 bs9 w0 e hU => ?_⟩⟩
  exact .bind hra hrr hne hv hx hk (fun es => by rw [hw es]; omega) hU
theorem OneOut.same {a b j : Nat} {W : World} (hf : TF unS u W) (hra : Root cs a j) (hrr : Root cs b j) (h : UnAt rb sb W safe w wv ps) (hs : StAt sb room W cv bv xs cs ys) : OneOut rb sb room u safe w ps cs ys a b (.returned (.tuple #[.bool true, .int .i64 0])) W :=
 ⟨true, 0, w, wv, cv, bv, ps, xs, cs, ys, rfl, h, hs, hf, Nat.le_refl _, rfl, ⟨[], by simp, by omega⟩, by omega, fun p hp => .inl hp, fun e => (by cases e), fun _ => ⟨[], [], by simp, by simp, fun bs r R cs9 bs9 w0 e hU => by subst e; rw [List.append_nil] at hU; exact .same hra hrr hU⟩⟩
theorem OneOut.clash {a b i j : Nat} {x y : Sc} {W : World} (hf : TF unS u W) (hra : Root cs a i) (hrr : Root cs b j) (hx : cs[i]? = some x) (hy : cs[j]? = some y) (hk : x.k ≠ 1) (hk' : y.k ≠ 1) (hn : ¬ (x.k = y.k ∧ x.n = y.n ∧ x.s = y.s ∧ x.args.length = y.args.length)) (h : UnAt rb sb W safe w wv ps) (hs : StAt sb room W cv bv xs cs ys) :
    OneOut rb sb room u safe w ps cs ys a b (.returned (.tuple #[.bool false, .int .i64 0])) W :=
 ⟨false, 0, w, wv, cv, bv, ps, xs, cs, ys, rfl, h, hs, hf, Nat.le_refl _, rfl, ⟨[], by simp, by omega⟩, by omega, fun p hp => .inl hp, fun _ bs r w0 _ => .clash hra hrr hx hy hk hk' hn, fun e => (by cases e)⟩
theorem OneOut.args {a b i j : Nat} {x y : Sc} {W : World} {wv' : Value} (hf : TF unS u W) (hra : Root cs a i) (hrr : Root cs b j) (hx : cs[i]? = some x) (hy : cs[j]? = some y) (hk : x.k ≠ 1) (hk' : y.k ≠ 1) (hn : x.k = y.k ∧ x.n = y.n ∧ x.s = y.s ∧ x.args.length = y.args.length) (h : UnAt rb sb W safe w wv' (ps ++ (x.args.zip y.args).reverse)) (hs : StAt sb room W cv bv xs cs ys) :
    OneOut rb sb room u safe w ps cs ys a b (.returned (.tuple #[.bool true, .int .i64 0])) W := by
 have h1 := hs.ar i x hx
 refine ⟨true, 0, w, wv', cv, bv, _, xs, cs, ys, rfl, h, hs, hf, Nat.le_refl _, rfl, ⟨[], by simp, by omega⟩, ?_, fun p hp => ?_, fun e => (by cases e), fun _ => ⟨x.args.zip y.args, [], rfl, by simp, fun bs r R cs9 bs9 w0 e hU => by subst e; rw [List.append_nil] at hU; exact .args hra hrr hx hy hk hk' hn hU⟩⟩
 ·rw [List.length_append, List.length_reverse, List.length_zip]
  omega
 ·rcases List.mem_append.1 hp with hp | hp
  ·exact .inl hp
  ·rw [List.mem_reverse] at hp
   obtain ⟨q, e1, e2⟩ := zip_at hp
   exact .inr ⟨hs.args i x hx _ (List.mem_of_getElem? e1), hs.args j y hy _ (List.mem_of_getElem? e2)⟩
end
end Go.Proofs.YtjdnigepnfeboaaGreatDoor
namespace Go.Proofs.YtjdnigepnfeboaaGreatDoor
open Go.RowKit Go.Maps
set_option maxRecDepth 100000
variable [Base]
set_option linter.unusedSectionVars false
omit [Base] in
theorem sizes_one : ∀ (l : List Tm) (t : Tm), Tm.sizes (l ++ [t]) = Tm.sizes l + t.size
 | [], t => by simp [Tm.sizes]
 | a :: r, t => by
  have := sizes_one r t
  simp only [List.cons_append, Tm.sizes]
  omega
omit [Base] in
theorem sizes_takeP : ∀ (q : Nat) (l : List Tm), Tm.sizes (l.take q) ≤ Tm.sizes l
 | 0, l => by simp [Tm.sizes]
 | q + 1, [] => by simp
 | q + 1, t :: r => by
  have := sizes_takeP q r
  simp only [List.take_succ_cons, Tm.sizes]
  omega
def GeAt (gb sb : Nat) (u : World) (parts : Nat) : Prop := u.heap[gb]? = some (.cells #[.pointer (some ⟨sb, 0, none⟩), .int .i64 (parts : Nat), .map none] 373 (0, 0))
omit [Base] in
theorem three_at {w1 : World} {b : Nat} {a0 a1 a2 : Value} {t : TypeId} (h : w1.heap[b]? = some (.cells #[a0, a1, a2] t (0, 0))) :
    w1.cell? ⟨b, 0, none⟩ = some a0 ∧ w1.cell? ⟨b, 1, none⟩ = some a1 ∧ w1.cell? ⟨b, 2, none⟩ = some a2 ∧ (∀ o, w1.frozen? ⟨b, o, none⟩ = false) :=
 ⟨by rw [cell_of_row w1 b 0 _ t (0, 0) h]; rfl, by rw [cell_of_row w1 b 1 _ t (0, 0) h]; rfl, by rw [cell_of_row w1 b 2 _ t (0, 0) h]; rfl, fun o => by simp [World.frozen?, h]⟩
def NewB (B : Nat) (u' : World) (b : Nat) : Prop := B ≤ b ∧ TyB u' 27 b
def VarNil (cs : List Sc) : Prop := ∀ (i : Nat) c, cs[i]? = some c → c.k = 1 → c.args = []
omit [Base] in
theorem got_open {cs : List Sc} {i : Nat} {t : Tm} (h : Got cs i t) (hv : VarNil cs) : ∃ (j : Nat) (c : Sc) (l : List Tm), Root cs i j ∧ cs[j]? = some c ∧ t = .mk (shF j c).k (shF j c).n (shF j c).s l ∧ l.length = c.args.length ∧ ∀ (q : Nat) a s, c.args[q]? = some a → l[q]? = some s → Got cs a s := by
 cases h with
 | @var _ j c hr hc hk => exact ⟨j, c, [], hr, hc, by unfold shF; rw [if_pos hk], by rw [hv j c hc hk]; rfl, fun q a s _ h => by simp at h⟩
 | @part _ j c l hr hc hk hl ha => exact ⟨j, c, l, hr, hc, by unfold shF; rw [if_neg hk], hl, ha⟩
def GetOut (gb sb : Nat) (u : World) (parts : Nat) (t : Tm) (e : Ending) (u' : World) : Prop :=
 ∃ y : TV, e = .returned (.tuple #[tvV y, .int .i64 0]) ∧ TermS u' (NewB u.heap.size u') y t ∧ GeAt gb sb u' (parts + t.size) ∧ Fr (fun k => k = gb) u u'
def GetC (gb sb room n : Nat) : Prop := ∀ (t : Tm) (u : World) (i deep parts : Nat) (cv bv : Value) (xs : List ScM) (cs : List Sc) (ys : List (Nat × Int)), t.size ≤ n → StAt sb room u cv bv xs cs ys → GeAt gb sb u parts → VarNil cs → Got cs i t → deep + t.size ≤ 2001 → parts + t.size ≤ 20000 →
 Calls Tryz.prog 252 #[.pointer (some ⟨gb, 0, none⟩), .int .i64 (i : Nat), .int .i64 (deep : Nat)] u (GetOut gb sb u parts t)
section
variable {gb sb room : Nat} {u u' : World} {cv bv : Value} {xs : List ScM} {cs : List Sc} {ys : List (Nat × Int)}
theorem StAt.fr1 (h : StAt sb room u cv bv xs cs ys) {p : Nat} (hg : GeAt gb sb u p) (hf : Fr (fun k => k = gb) u u') : StAt sb room u' cv bv xs cs ys :=
 h.keep fun t b ht hb => hf.block b hb.lt (hb.ne (t' := 373) ⟨_, hg⟩ fun e => by subst e; exact absurd ht (by decide))
omit [Base] in
theorem shF_len (j : Nat) (c : Sc) (h : c.s.length ≤ maxLen) : (shF j c).s.length ≤ maxLen := by
 unfold shF
 split
 ·exact Nat.zero_le _
 ·exact h
omit [Base] in
theorem shF_nil (j : Nat) (c : Sc) : (shF j c).A = none ∧ (shF j c).len = 0 ∧ (shF j c).cap = 0 := by
 unfold shF
 split <;> exact ⟨rfl, rfl, rfl⟩
omit [Base] in
theorem row_put4 {w : World} {B g n cap k : Nat} {xs : List TV} {x : TV} (h : Row w B 27 4 encTV (.slice (some ⟨g, 0, none⟩) n cap) xs) (y : TV) (hk : xs[k]? = some x) :
    Row ((((w.setCell ⟨g, k * 4, none⟩ (.int .i64 y.k)).setCell ⟨g, k * 4 + 1, none⟩ (.int .i64 y.n)).setCell ⟨g, k * 4 + 2, none⟩ (.string ⟨y.s.toArray⟩)).setCell ⟨g, k * 4 + 3, none⟩ (.slice y.A y.len y.cap)) B 27 4 encTV (.slice (some ⟨g, 0, none⟩) n cap) (xs.set k y) := by
 have hl := (List.getElem?_eq_some_iff.1 hk).1
 have h1 := Row.put encTV_len h (j := 0) (y := { x with k := y.k }) (u := .int .i64 y.k) hk (by omega) rfl
 have h2 := Row.put encTV_len h1 (i := k) (j := 1) (x := { x with k := y.k }) (y := { x with k := y.k, n := y.n }) (u := .int .i64 y.n) (by rw [List.getElem?_set_self hl]) (by omega) rfl
 have h3 := Row.put encTV_len h2 (i := k) (j := 2) (x := { x with k := y.k, n := y.n }) (y := { x with k := y.k, n := y.n, s := y.s }) (u := .string ⟨y.s.toArray⟩) (by rw [List.getElem?_set_self (by simpa using hl)]) (by omega) rfl
 have h4 := Row.put encTV_len h3 (i := k) (j := 3) (x := { x with k := y.k, n := y.n, s := y.s }) (y := y) (u := .slice y.A y.len y.cap) (by rw [List.getElem?_set_self (by simpa using hl)]) (by omega) rfl
 simpa using h4
omit [Base] in
theorem get_end {W : World} {p rk : Nat} {y : TV} {t : Tm} (hg : GeAt gb sb W p) (hf : Fr (fun k => k = gb) u W) (hr : W.heap[rk]? = some (.cells #[.int .i64 0, .int .i64 0, .string ⟨#[]⟩, .slice none 0 0] 27 (0, 0))) (hrk : u.heap.size ≤ rk) (ht : TermS W (fun b => NewB u.heap.size W b ∧ b ≠ rk) y t) :
    TermS ((((W.setCell ⟨rk, 0, none⟩ (.int .i64 y.k)).setCell ⟨rk, 1, none⟩ (.int .i64 y.n)).setCell ⟨rk, 2, none⟩ (.string ⟨y.s.toArray⟩)).setCell ⟨rk, 3, none⟩ (.slice y.A y.len y.cap)) (NewB u.heap.size ((((W.setCell ⟨rk, 0, none⟩ (.int .i64 y.k)).setCell ⟨rk, 1, none⟩ (.int .i64 y.n)).setCell ⟨rk, 2, none⟩ (.string ⟨y.s.toArray⟩)).setCell ⟨rk, 3, none⟩ (.slice y.A y.len y.cap))) y t ∧ GeAt gb sb ((((W.setCell ⟨rk, 0, none⟩ (.int .i64 y.k)).setCell ⟨rk, 1, none⟩ (.int .i64 y.n)).setCell ⟨rk, 2, none⟩ (.string ⟨y.s.toArray⟩)).setCell ⟨rk, 3, none⟩ (.slice y.A y.len y.cap)) p ∧
     Fr (fun k => k = gb) u ((((W.setCell ⟨rk, 0, none⟩ (.int .i64 y.k)).setCell ⟨rk, 1, none⟩ (.int .i64 y.n)).setCell ⟨rk, 2, none⟩ (.string ⟨y.s.toArray⟩)).setCell ⟨rk, 3, none⟩ (.slice y.A y.len y.cap)) := by
 have hgr : gb ≠ rk := fun e => by
  subst e
  unfold GeAt at hg
  rw [hr] at hg
  injection hg with hg
  injection hg with _ hg
  exact absurd hg (by decide)
 refine ⟨ht.keep (fun b hb => ⟨hb.1.1, hb.1.2.keep (blk_set4_ne _ _ _ _ hb.2)⟩) fun b hb => blk_set4_ne _ _ _ _ hb.2, (blk_set4_ne _ _ _ _ hgr).trans hg, ?_⟩
 exact (((hf.setCell (p := ⟨rk, 0, none⟩) (.inr hrk) _).setCell (p := ⟨rk, 1, none⟩) (.inr hrk) _).setCell (p := ⟨rk, 2, none⟩) (.inr hrk) _).setCell (p := ⟨rk, 3, none⟩) (.inr hrk) _
structure GlAt (gb sb rk xb tb n : Nat) (u W2 : World) (X : TV) (parts : Nat) (l : List Tm) (wr : World) (q : Nat) (zs : List TV) : Prop where
 ge : GeAt gb sb wr (parts + 1 + Tm.sizes (l.take q))
 fr : Fr (fun k => k = gb) u wr
 tf : TFB 0 [373, 27] W2 wr
 rk : wr.heap[rk]? = some (.cells #[.int .i64 0, .int .i64 0, .string ⟨#[]⟩, .slice none 0 0] 27 (0, 0))
 xb : wr.heap[xb]? = some (.cells #[.int .i64 X.k, .int .i64 X.n, .string ⟨X.s.toArray⟩, .slice (some ⟨tb, 0, none⟩) n n] 27 (0, 0))
 row : Row wr u.heap.size 27 4 encTV (.slice (some ⟨tb, 0, none⟩) n n) (zs ++ List.replicate (n - q) zTV)
 ts : TermsS wr (fun b => tb < b ∧ TyB wr 27 b) zs (l.take q)
 len : zs.length = q
omit [Base] in
theorem GlAt.after {rk xb tb n q : Nat} {W2 wr w5 : World} {X : TV} {parts : Nat} {l : List Tm} {zs : List TV} (h : GlAt gb sb rk xb tb n u W2 X parts l wr q zs) (hf : Fr (fun k => k = gb) wr.drew w5) (hq : q < n) :
    Row w5 u.heap.size 27 4 encTV (.slice (some ⟨tb, 0, none⟩) n n) (zs ++ List.replicate (n - q) zTV) ∧ (zs ++ List.replicate (n - q) zTV)[q]? = some zTV ∧ w5.cell? ⟨tb, q * 4, none⟩ = some (.int .i64 0) ∧ w5.cell? ⟨tb, q * 4 + 1, none⟩ = some (.int .i64 0) ∧ w5.cell? ⟨tb, q * 4 + 2, none⟩ = some (.string ⟨#[]⟩) ∧ w5.cell? ⟨tb, q * 4 + 3, none⟩ = some (.slice none 0 0) ∧ (∀ o, w5.frozen? ⟨tb, o, none⟩ = false) ∧ tb < w5.heap.size := by
 have hty : TyB wr 27 tb := h.row.ty rfl
 have hne : tb ≠ gb := hty.ne (t' := 373) ⟨_, h.ge⟩ (by decide)
 have hk := hf.block tb hty.lt hne
 have hr := h.row.keep (w' := w5) fun k hk' => by
  have e : tb = k := Option.some.inj hk'
  rw [← e]
  exact hk
 have hz : (zs ++ List.replicate (n - q) zTV)[q]? = some zTV := by
  rw [List.getElem?_append_right (by rw [h.len]; exact Nat.le_refl _), h.len, Nat.sub_self, List.getElem?_replicate, if_pos (by omega)]
 obtain ⟨g, cap, e, -, -, -, hc⟩ := hr.cells encTV_len (fun e => by rw [e] at hz; cases hz)
 injection e with e
 injection e with e
 injection e with e
 subst e
 obtain ⟨cs0, h0⟩ := hty.keep hk
 exact ⟨hr, hz, (hc q zTV hz 0 _ rfl).1, (hc q zTV hz 1 _ rfl).1, (hc q zTV hz 2 _ rfl).1, (hc q zTV hz 3 _ rfl).1, fun o => by simp [World.frozen?, h0], Nat.lt_of_lt_of_le hty.lt hf.size⟩
omit [Base] in
theorem GlAt.next {rk xb tb n q : Nat} {W2 wr w5 : World} {X y : TV} {parts : Nat} {l : List Tm} {zs : List TV} {s : Tm} (h : GlAt gb sb rk xb tb n u W2 X parts l wr q zs) (hf : Fr (fun k => k = gb) wr.drew w5) (ht : TermS w5 (NewB wr.drew.heap.size w5) y s) (hg : GeAt gb sb w5 (parts + 1 + Tm.sizes (l.take q) + s.size)) (hs : l[q]? = some s) (hq : q < n)
    (hr : Row w5 u.heap.size 27 4 encTV (.slice (some ⟨tb, 0, none⟩) n n) (zs ++ List.replicate (n - q) zTV)) (hz : (zs ++ List.replicate (n - q) zTV)[q]? = some zTV) (hxt : xb < tb) (hrx : rk < xb) :
    GlAt gb sb rk xb tb n u W2 X parts l ((((w5.setCell ⟨tb, q * 4, none⟩ (.int .i64 y.k)).setCell ⟨tb, q * 4 + 1, none⟩ (.int .i64 y.n)).setCell ⟨tb, q * 4 + 2, none⟩ (.string ⟨y.s.toArray⟩)).setCell ⟨tb, q * 4 + 3, none⟩ (.slice y.A y.len y.cap)) (q + 1) (zs ++ [y]) := by
 have hty : TyB wr 27 tb := h.row.ty rfl
 have hgt : TyB wr.drew 373 gb := ⟨_, h.ge⟩
 have hne : gb ≠ tb := fun e => hty.ne (t' := 373) ⟨_, h.ge⟩ (by decide) e.symm
 have hut := (h.row.lt tb rfl).1
 have hset : ∀ b, b ≠ tb → ((((w5.setCell ⟨tb, q * 4, none⟩ (.int .i64 y.k)).setCell ⟨tb, q * 4 + 1, none⟩ (.int .i64 y.n)).setCell ⟨tb, q * 4 + 2, none⟩ (.string ⟨y.s.toArray⟩)).setCell ⟨tb, q * 4 + 3, none⟩ (.slice y.A y.len y.cap)).heap[b]? = w5.heap[b]? := fun b hb => by
  rw [Below.heap_setCell _ _ _ _ hb, Below.heap_setCell _ _ _ _ hb, Below.heap_setCell _ _ _ _ hb, Below.heap_setCell _ _ _ _ hb]
 have htb5 : TyB w5 27 tb := hty.keep (hf.block tb hty.lt (Ne.symm hne))
 have hT : ∀ b, TyB wr 27 b → w5.heap[b]? = wr.heap[b]? := fun b hb => hf.block b hb.lt (hb.ne (t' := 373) ⟨_, h.ge⟩ (by decide))
 have htf5 : TFB 0 [373, 27] wr.drew w5 := ⟨hf.weak fun k e => ⟨Nat.zero_le _, 373, by decide, by rw [e]; exact hgt⟩⟩
 have hty1 : ∀ {w : World} (p : Addr) (v : Value), TyB w 27 tb → p.block = tb → TyB (w.setCell p v) 27 tb := fun {w} p v hb e => by
  obtain ⟨cs0, h0⟩ := hb
  obtain ⟨pb, po, pl⟩ := p
  simp only at e
  subst e
  cases pl with
  | none => exact ⟨_, blk_put h0 v⟩
  | some m => exact ⟨_, by simp [World.setCell, Array.getElem?_modify, h0]; rfl⟩
 refine ⟨?_, ?_, ?_, ?_, ?_, ?_, ?_, by rw [List.length_append, h.len]; rfl⟩
 ·have e : parts + 1 + Tm.sizes (l.take (q + 1)) = parts + 1 + Tm.sizes (l.take q) + s.size := by
   rw [List.take_add_one, hs]
   have := sizes_one (l.take q) s
   simp only [Option.toList_some]
   omega
  rw [e]
  exact (hset gb hne).trans hg
 ·exact ((((h.fr.drew.trans hf).setCell (p := ⟨tb, q * 4, none⟩) (.inr hut) _).setCell (p := ⟨tb, q * 4 + 1, none⟩) (.inr hut) _).setCell (p := ⟨tb, q * 4 + 2, none⟩) (.inr hut) _).setCell (p := ⟨tb, q * 4 + 3, none⟩) (.inr hut) _
 ·have h1 := hty1 ⟨tb, q * 4, none⟩ (.int .i64 y.k) htb5 rfl
  have h2 := hty1 ⟨tb, q * 4 + 1, none⟩ (.int .i64 y.n) h1 rfl
  have h3 := hty1 ⟨tb, q * 4 + 2, none⟩ (.string ⟨y.s.toArray⟩) h2 rfl
  exact ((((h.tf.drew.trans htf5).set (p := ⟨tb, q * 4, none⟩) htb5 (by decide) (Nat.zero_le _) _).set (p := ⟨tb, q * 4 + 1, none⟩) h1 (by decide) (Nat.zero_le _) _).set (p := ⟨tb, q * 4 + 2, none⟩) h2 (by decide) (Nat.zero_le _) _).set (p := ⟨tb, q * 4 + 3, none⟩) h3 (by decide) (Nat.zero_le _) _
 ·exact (hset rk (by omega)).trans ((hT rk ⟨_, h.rk⟩).trans h.rk)
 ·exact (hset xb (by omega)).trans ((hT xb ⟨_, h.xb⟩).trans h.xb)
 ·have h1 := row_put4 hr y hz
  have h2 : (zs ++ List.replicate (n - q) zTV).set q y = zs ++ [y] ++ List.replicate (n - (q + 1)) zTV := by
   rw [List.set_append_right _ _ (by rw [h.len]; exact Nat.le_refl _), h.len, Nat.sub_self, show n - q = (n - (q + 1)) + 1 by omega, List.replicate_succ, List.set_cons_zero, List.append_assoc]
   rfl
  rw [h2] at h1
  exact h1
 ·rw [List.take_add_one, hs]
  have hlt : tb < wr.heap.size := hty.lt
  refine (h.ts.keep (fun b hb => ⟨hb.1, hb.2.keep ((hset b (by omega)).trans (hT b hb.2))⟩) fun b hb => (hset b (by omega)).trans (hT b hb.2)).snoc ?_
  have hd : wr.drew.heap.size = wr.heap.size := rfl
  exact ht.keep (fun b hb => ⟨by have := hb.1; omega, hb.2.keep (hset b (by have := hb.1; omega))⟩) fun b hb => hset b (by have := hb.1; omega)
set_option maxHeartbeats 16000000 in
theorem get_step (m : Nat) (hC : GetC gb sb room m) (t : Tm) (u : World) (i deep parts : Nat) (hsz : t.size ≤ m + 1) (hs : StAt sb room u cv bv xs cs ys) (hg : GeAt gb sb u parts) (hv : VarNil cs) (ht : Got cs i t) (hd : deep + t.size ≤ 2001) (hp : parts + t.size ≤ 20000) :
    Calls Tryz.prog 252 #[.pointer (some ⟨gb, 0, none⟩), .int .i64 (i : Nat), .int .i64 (deep : Nat)] u (GetOut gb sb u parts t) := by
 obtain ⟨P, hP⟩ : ∃ P : Ending → World → Prop, P = GetOut gb sb u parts t := ⟨_, rfl⟩
 rw [← hP]
 have HP := Lib.hid hP
 obtain ⟨j, c, l, hr, hc, rfl, hl, ha⟩ := got_open ht hv
 obtain ⟨X, hX⟩ : ∃ X, X = shF j c := ⟨_, rfl⟩
 have hXs : X.s.length ≤ maxLen := by
  rw [hX]
  obtain ⟨g, cap, x, -, -, -, hx, ho, -⟩ := hs.at hc
  exact shF_len j c (by rw [← ho.s]; exact ho.short)
 have hX0 := shF_nil j c
 rw [← hX] at hX0 HP hsz hd hp
 have hsz' : 1 + Tm.sizes l ≤ m + 1 := by simpa only [Tm.size] using hsz
 have hd' : deep + (1 + Tm.sizes l) ≤ 2001 := by simpa only [Tm.size] using hd
 have hp' : parts + (1 + Tm.sizes l) ≤ 20000 := by simpa only [Tm.size] using hp
 obtain ⟨U, hU⟩ : ∃ U, U = u.alloc (.cells #[.int .i64 0, .int .i64 0, .string ⟨#[]⟩, .slice none 0 0] 27) := ⟨_, rfl⟩
 have hbU : Below u.heap.size u U := by rw [hU]; exact (Below.refl _ _).alloc (Nat.le_refl _) _
 have hz : U.heap[u.heap.size]? = some (.cells #[.int .i64 0, .int .i64 0, .string ⟨#[]⟩, .slice none 0 0] 27 (0, 0)) := by rw [hU]; exact heap_alloc_new _ _
 have hlg : gb < u.heap.size := (Array.getElem?_eq_some_iff.1 hg).1
 have hgU : GeAt gb sb U parts := (hbU.block _ hlg).trans hg
 obtain ⟨g0, g1, g2, gf⟩ := three_at hgU
 have hlgU : gb < U.heap.size := (Array.getElem?_eq_some_iff.1 hgU).1
 have hwp : IntKind.i64.wrap ((parts : Int) + 1) = (parts : Int) + 1 := IntWalk.i64_in _ (by omega)
 have hwd : IntKind.i64.wrap ((deep : Int) + 1) = (deep : Int) + 1 := IntWalk.i64_in _ (by omega)
 have hnd : ¬ ((deep : Int) > 2000) := by omega
 have hnp : ¬ ((parts : Int) + 1 > 20000) := by omega
 have HV : Hid (∀ W, W = U.setCell ⟨gb, 1, none⟩ (.int .i64 ((parts : Int) + 1)) → GeAt gb sb W (parts + 1) ∧ StAt sb room W cv bv xs cs ys ∧ Fr (fun k => k = gb) u W ∧ W.heap[u.heap.size]? = some (.cells #[.int .i64 0, .int .i64 0, .string ⟨#[]⟩, .slice none 0 0] 27 (0, 0))) := Lib.hid fun W hW => by
  rw [hW]
  have h1 : Fr (fun k => k = gb) U (U.setCell ⟨gb, 1, none⟩ (.int .i64 ((parts : Int) + 1))) := (Fr.refl (fun k => k = gb) U).setCell (p := ⟨gb, 1, none⟩) (.inl rfl) _
  exact ⟨blk_put hgU _, (hs.later hbU).fr1 hgU h1, (Fr.of_below _ hbU).trans h1, (Below.heap_setCell _ _ _ _ (by simp only; omega)).trans hz⟩
 have HA := Lib.hid (And.intro hr (And.intro hc (And.intro hl (And.intro ha hv))))
 have HX := Lib.hid (And.intro hX (And.intro hXs hX0))
 have HN := Lib.hid (And.intro hsz' (And.intro hd' hp'))
 have HM := Lib.hid hC
 have har := hs.ar j c hc
 clear hP hs hg hv ht hsz hd hp hr hc hl ha hXs hX0 hX hsz' hd' hp' hC hbU hz hgU
 go_enter Tryz.func252, Tryz.ntmps252
 go_upto_region 1 with fail
 rw [← hU]
 clear hU
 go_wp2_with fail
 obtain ⟨V, hV⟩ : ∃ V, V = U.setCell ⟨gb, 1, none⟩ (.int .i64 ((parts : Int) + 1)) := ⟨_, rfl⟩
 rw [← hV]
 have HV := Lib.hid (HV.out V hV)
 clear hV g0 g1 g2 gf hlgU hwp hnp hnd
 obtain ⟨rk, hrk⟩ : ∃ rk, rk = u.heap.size := ⟨_, rfl⟩
 rw [← hrk] at HV ⊢
 have HRK := Lib.hid hrk
 clear hrk
 refine (follow_any HV.out.2.1 HA.out.1).mono ?_
 rintro e w1 ⟨rfl, rfl⟩
 obtain ⟨g0, -, -, -⟩ := three_at HV.out.1
 have hlV : gb < V.heap.size := (Array.getElem?_eq_some_iff.1 HV.out.1).1
 go_wp2_with fail
 refine (shell_any HV.out.2.1 HA.out.2.1).mono ?_
 rintro e W1 ⟨rfl, hb1⟩
 rw [← HX.out.1]
 obtain ⟨W2, hW2⟩ : ∃ W, W = W1.alloc (.cells #[.int .i64 X.k, .int .i64 X.n, .string ⟨X.s.toArray⟩, .slice X.A X.len X.cap] 27) := ⟨_, rfl⟩
 obtain ⟨xb, hxb⟩ : ∃ xb, xb = W1.heap.size := ⟨_, rfl⟩
 have hb2 : Below V.heap.size V W2 := by rw [hW2]; exact hb1.alloc hb1.size _
 have H2 : Hid (GeAt gb sb W2 (parts + 1) ∧ StAt sb room W2 cv bv xs cs ys ∧ Fr (fun k => k = gb) u W2 ∧ W2.heap[rk]? = some (.cells #[.int .i64 0, .int .i64 0, .string ⟨#[]⟩, .slice none 0 0] 27 (0, 0)) ∧ W2.heap[xb]? = some (.cells #[.int .i64 X.k, .int .i64 X.n, .string ⟨X.s.toArray⟩, .slice X.A X.len X.cap] 27 (0, 0)) ∧ rk < xb ∧ u.heap.size ≤ rk) := Lib.hid (by
  have hl := (Array.getElem?_eq_some_iff.1 HV.out.2.2.2).1
  refine ⟨(hb2.block _ hlV).trans HV.out.1, HV.out.2.1.later hb2, HV.out.2.2.1.step hb2, (hb2.block _ hl).trans HV.out.2.2.2, by rw [hW2, hxb]; exact heap_alloc_new _ _, ?_, by rw [HRK.out]; exact Nat.le_refl _⟩
  rw [hxb]
  exact Nat.lt_of_lt_of_le hl hb1.size)
 clear hb2 hb1
 unfold tvV
 go_upto_region 8 with fail
 rw [← hW2, ← hxb]
 clear hW2 hxb g0 hlV
 obtain ⟨g, cap, x, hcv, -, hgl, -, -, -, -, -, -, d3, -, -⟩ := H2.out.2.1.at HA.out.2.1
 obtain ⟨-, s1, -, -⟩ := H2.out.2.1.cells
 rw [hcv] at s1
 have HAR : Hid (ArgsAt W2 x.A c.args) := Lib.hid (by
  obtain ⟨g', cap', x', hcv', -, -, hx', ho', -, -, -, -, d3', -, -⟩ := H2.out.2.1.at HA.out.2.1
  have e := hcv.symm.trans hcv'
  injection e with e1 e2 e3
  injection e1 with e1
  injection e1 with e1
  subst e1
  rw [d3] at d3'
  injection d3' with d3'
  injection d3' with q1 q2 q3
  rw [q1]
  exact ho'.args)
 obtain ⟨n, hn⟩ : ∃ n, n = c.args.length := ⟨_, rfl⟩
 have HNN := Lib.hid hn
 rw [← hn] at d3 har
 obtain ⟨g0, -, -, -⟩ := three_at H2.out.1
 obtain ⟨r0, r1, r2, r3, rf⟩ := four_at H2.out.2.2.2.1
 obtain ⟨x0, x1, x2, x3, xf⟩ := four_at H2.out.2.2.2.2.1
 have hl2 : gb < W2.heap.size := (Array.getElem?_eq_some_iff.1 H2.out.1).1
 have hls := H2.out.2.1.lt
 have hlr : rk < W2.heap.size := (Array.getElem?_eq_some_iff.1 H2.out.2.2.2.1).1
 have hlx : xb < W2.heap.size := (Array.getElem?_eq_some_iff.1 H2.out.2.2.2.2.1).1
 have hj1 : (j : Int) < (cs.length : Int) := by have := (List.getElem?_eq_some_iff.1 HA.out.2.1).1; omega
 have hj0 : (0 : Int) ≤ (j : Int) := by omega
 have hrx : rk ≠ xb := by have := H2.out.2.2.2.2.2.1; omega
 have hxr : xb ≠ rk := Ne.symm hrx
 clear hcv hn
 by_cases hn0 : n = 0
 ·subst hn0
  have HQ : Hid (P (.returned (.tuple #[tvV X, .int .i64 0])) ((((W2.setCell ⟨rk, 0, none⟩ (.int .i64 X.k)).setCell ⟨rk, 1, none⟩ (.int .i64 X.n)).setCell ⟨rk, 2, none⟩ (.string ⟨X.s.toArray⟩)).setCell ⟨rk, 3, none⟩ (.slice X.A X.len X.cap))) := Lib.hid (by
   have hl : l = [] := List.eq_nil_of_length_eq_zero (HA.out.2.2.1.trans HNN.out.symm)
   subst hl
   obtain ⟨e1, e2, e3⟩ := get_end (y := X) (t := .mk X.k X.n X.s []) H2.out.1 H2.out.2.2.1 H2.out.2.2.2.1 H2.out.2.2.2.2.2.2 (by
    have := TermS.leaf W2 (fun b => NewB u.heap.size W2 b ∧ b ≠ rk) X.k X.n X.s X.A X.cap HX.out.2.1
    rwa [show (⟨X.k, X.n, X.s, X.A, 0, X.cap⟩ : TV) = X by rw [← HX.out.2.2.2.1]] at this)
   rw [HP.out]
   exact ⟨X, rfl, e1, by simpa only [Tm.size, Tm.sizes] using e2, e3⟩)
  obtain ⟨WF, hWF⟩ : ∃ WF, WF = ((((W2.setCell ⟨rk, 0, none⟩ (.int .i64 X.k)).setCell ⟨rk, 1, none⟩ (.int .i64 X.n)).setCell ⟨rk, 2, none⟩ (.string ⟨X.s.toArray⟩)).setCell ⟨rk, 3, none⟩ (.slice X.A X.len X.cap)) := ⟨_, rfl⟩
  have hf := blk_set4 H2.out.2.2.2.1 rfl (.int .i64 X.k) (.int .i64 X.n) (.string ⟨X.s.toArray⟩) (.slice X.A X.len X.cap)
  rw [← hWF] at HQ hf
  have HWF := Lib.hid hWF
  clear hWF
  go_wp2_with fail
  rw [← HWF.out]
  obtain ⟨f0, f1, f2, f3, -⟩ := four_at hf
  exact bodyPost_ret (v := .tuple #[tvV X, .int .i64 0]) (by simp [results, Tryz.results252, go_sem, f0, f1, f2, f3, tvV]) rfl HQ.out
 ·have b1 : ((n : Int) == 0) = false := beq_eq_false_iff_ne.2 (by omega)
  have hmk := run_terms W2 n (by omega)
  obtain ⟨W3, hW3⟩ : ∃ W, W = W2.alloc (.cells ((List.replicate n zTV).flatMap encTV).toArray 27) := ⟨_, rfl⟩
  obtain ⟨tb, htb⟩ : ∃ tb, tb = W2.heap.size := ⟨_, rfl⟩
  have hb3 : Below W2.heap.size W2 W3 := by rw [hW3]; exact (Below.refl _ _).alloc (Nat.le_refl _) _
  have HI0 : Hid (GlAt gb sb rk xb tb n u W2 X parts l (W3.setCell ⟨xb, 3, none⟩ (.slice (some ⟨tb, 0, none⟩) n n)) 0 [] ∧ xb < tb) := Lib.hid (by
   have hx9 : xb < tb := by rw [htb]; exact hlx
   have hux : u.heap.size ≤ xb := by have := H2.out.2.2.2.2.2.1; have := H2.out.2.2.2.2.2.2; omega
   have hne : gb ≠ xb := by omega
   have h3x := (hb3.block _ hlx).trans H2.out.2.2.2.2.1
   have htf : TFB 0 [373, 27] W2 (W3.setCell ⟨xb, 3, none⟩ (.slice (some ⟨tb, 0, none⟩) n n)) := ((TFB.refl _ _).later hb3).set (p := ⟨xb, 3, none⟩) (t := 27) ⟨_, h3x⟩ (by decide) (Nat.zero_le _) _
   refine ⟨⟨?_, (H2.out.2.2.1.step hb3).setCell (p := ⟨xb, 3, none⟩) (.inr hux) _, htf, ?_, ?_, ?_, ?_, rfl⟩, hx9⟩
   ·rw [List.take_zero]
    exact (Below.heap_setCell _ _ _ _ hne).trans ((hb3.block _ hl2).trans H2.out.1)
   ·exact (Below.heap_setCell _ _ _ _ hrx).trans ((hb3.block _ hlr).trans H2.out.2.2.2.1)
   ·rw [blk_put h3x]
    rfl
   ·rw [List.nil_append, Nat.sub_zero, htb]
    have h1 := terms_row W2 u.heap.size n H2.out.2.2.1.size (by omega)
    rw [← hW3] at h1
    exact h1.keep fun k hk => Below.heap_setCell _ _ _ _ (by have e : W2.heap.size = k := Option.some.inj hk; simp only; omega)
   ·rw [List.take_zero]
    exact TermsS.nil _ _)
  rw [← hW3, ← htb] at hmk
  have x3' : W3.cell? ⟨xb, 3, none⟩ = some (.slice X.A X.len X.cap) := (World.cell?_of_block (w := W2) (a := ⟨xb, 3, none⟩) (hb3.block _ hlx)).trans x3
  have xf' : ∀ o, W3.frozen? ⟨xb, o, none⟩ = false := fun o => (World.frozen?_of_block (w := W2) (a := ⟨xb, o, none⟩) (hb3.block _ hlx)).trans (xf o)
  have hlx3 : xb < W3.heap.size := Nat.lt_of_lt_of_le hlx hb3.size
  clear hW3 htb hb3
  go_wp2_with fail
  clear hmk x3' xf' hlx3 x0 x1 x2 x3 xf r0 r1 r2 r3 rf g0 s1 d3 hlx hlr hls hl2 b1
  have HNX0 := Lib.hid (And.intro hrx hxr)
  clear hrx hxr
  go_loopw [62] (fun i wr => ∃ (q : Nat) (zs : List TV), i = .int .i64 (q : Nat) ∧ q ≤ n ∧ Hid (GlAt gb sb rk xb tb n u W2 X parts l wr q zs)) (fun i _ => n - (intOf i).toNat)
  case atStart => exact ⟨0, [], rfl, Nat.zero_le _, Lib.hid HI0.out.1⟩
  case round =>
   obtain ⟨q, zs, rfl, hq, HI⟩ := hrel
   have HXT := Lib.hid HI0.out.2
   clear HI0
   by_cases hlt : q < n
   ·obtain ⟨a, ha⟩ : ∃ a, c.args[q]? = some a := ⟨_, List.getElem?_eq_getElem (by rw [← HNN.out]; exact hlt)⟩
    obtain ⟨s, hs⟩ : ∃ s, l[q]? = some s := ⟨_, List.getElem?_eq_getElem (by rw [HA.out.2.2.1, ← HNN.out]; exact hlt)⟩
    obtain ⟨b, off, eA, hb, q9⟩ := (HAR.out.keep (u' := wr) fun b hb => HI.out.tf.block hb (by decide)).at' q a ha
    have hbl := hb.lt
    have hlt1 : (q : Int) < (n : Int) := by omega
    have hge : (0 : Int) ≤ (q : Int) := by omega
    have hwq : IntKind.i64.wrap ((q : Int) + 1) = (q : Int) + 1 := IntWalk.i64_in _ (by omega)
    have HAQ := Lib.hid (And.intro ha hs)
    have HSZ : Hid (Tm.sizes (l.take (q + 1)) = Tm.sizes (l.take q) + s.size ∧ Tm.sizes (l.take q) + s.size ≤ Tm.sizes l) := Lib.hid (by
     have h1 : Tm.sizes (l.take (q + 1)) = Tm.sizes (l.take q) + s.size := by
      rw [List.take_add_one, hs]
      exact sizes_one _ _
     exact ⟨h1, by rw [← h1]; exact sizes_takeP _ _⟩)
    have HSL : Hid (∀ v, Fr (fun k => k = gb ∨ k = tb) wr v → v.cell? ⟨xb, 3, none⟩ = some (.slice (some ⟨tb, 0, none⟩) n n)) := Lib.hid fun v hv => by
     have h1 := (Array.getElem?_eq_some_iff.1 HI.out.xb).1
     have h2 : xb ≠ gb := fun e => by
      have h3 := HI.out.ge
      unfold GeAt at h3
      rw [← e, HI.out.xb] at h3
      injection h3 with h3
      injection h3 with _ h3
      exact absurd h3 (by decide)
     have h4 := hv.block xb h1 (fun e => by have := HXT.out; rcases e with e | e; exact h2 e; omega)
     rw [cell_of_row v xb 3 _ _ (0, 0) (h4.trans HI.out.xb)]
     rfl
    have HCL : Hid (Calls Tryz.prog 252 #[.pointer (some ⟨gb, 0, none⟩), .int .i64 (a : Nat), .int .i64 ((deep : Int) + 1)] wr.drew (GetOut gb sb wr.drew (parts + 1 + Tm.sizes (l.take q)) s)) := Lib.hid (HM.out s wr.drew a (deep + 1) (parts + 1 + Tm.sizes (l.take q)) cv bv xs cs ys (by have := HSZ.out.2; have := HN.out.1; omega) (H2.out.2.1.tf HI.out.tf.drew (by decide)) HI.out.ge HA.out.2.2.2.2 (HA.out.2.2.2.1 q a s ha hs) (by have := HSZ.out.2; have := HN.out.2.1; omega) (by have := HSZ.out.2; have := HN.out.2.2; omega))
    have hlg2 : gb < wr.heap.size := (Array.getElem?_eq_some_iff.1 HI.out.ge).1
    have hlx2 : xb < wr.heap.size := (Array.getElem?_eq_some_iff.1 HI.out.xb).1
    rw [eA]
    clear ha hs hb
    go_wp2_with fail
    go_region_held3 (fun v => v.cell? ⟨xb, 3, none⟩ = some (.slice (some ⟨tb, 0, none⟩) n n))
     (first | (with_reducible exact HSL.out _ (Fr.refl _ _)) | (with_reducible exact HSL.out _ (Fr.refl _ _).drew) | (with_reducible exact HSL.out _ ((Fr.refl _ _).drew.trans (hf5.weak fun _ e => .inl e))) | exact HSL.out _ ((((((Fr.refl _ _).drew.trans (hf5.weak fun _ e => .inl e)).setCell (p := ⟨tb, q * 4, none⟩) (.inl (.inr rfl)) _).setCell (p := ⟨tb, q * 4 + 1, none⟩) (.inl (.inr rfl)) _).setCell (p := ⟨tb, q * 4 + 2, none⟩) (.inl (.inr rfl)) _).setCell (p := ⟨tb, q * 4 + 3, none⟩) (.inl (.inr rfl)) _))
     (first | (go_at_call 252; refine HCL.out.mono ?_; rintro e w5 ⟨y, rfl, ht5, hg5, hf5⟩; unfold tvV; obtain ⟨hr5, hz5, q0, q1, q2, q3, qf, hlt5⟩ := HI.out.after hf5 (by omega)))
    have HNX := Lib.hid (HI.out.next hf5 ht5 hg5 HAQ.out.2 (by omega) hr5 hz5 HXT.out H2.out.2.2.2.2.2.1)
    clear hr5 hz5 q0 q1 q2 q3 qf hlt5 ht5 hg5 hf5
    go_wp2_with fail
    go_roundw
    case rel => exact ⟨q + 1, zs ++ [y], rfl, by omega, HNX⟩
    case measure =>
     simp only [intOf]
     omega
   ·obtain rfl : q = n := by omega
    have hng : ¬ (q : Int) < (q : Int) := by omega
    obtain ⟨Y, hY⟩ : ∃ Y : TV, Y = ⟨X.k, X.n, X.s, some ⟨tb, 0, none⟩, q, q⟩ := ⟨_, rfl⟩
    obtain ⟨r0, r1, r2, r3, rf⟩ := four_at HI.out.rk
    obtain ⟨x0, x1, x2, x3, xf⟩ := four_at HI.out.xb
    have hlr : rk < wr.heap.size := (Array.getElem?_eq_some_iff.1 HI.out.rk).1
    have hlx : xb < wr.heap.size := (Array.getElem?_eq_some_iff.1 HI.out.xb).1
    have hrx := HNX0.out.1
    have hxr := HNX0.out.2
    have HQ : Hid (P (.returned (.tuple #[tvV Y, .int .i64 0])) ((((wr.setCell ⟨rk, 0, none⟩ (.int .i64 Y.k)).setCell ⟨rk, 1, none⟩ (.int .i64 Y.n)).setCell ⟨rk, 2, none⟩ (.string ⟨Y.s.toArray⟩)).setCell ⟨rk, 3, none⟩ (.slice Y.A Y.len Y.cap))) := Lib.hid (by
     have htk : l.take q = l := List.take_of_length_le (by rw [HA.out.2.2.1, ← HNN.out]; exact Nat.le_refl _)
     have hrow := HI.out.row
     rw [Nat.sub_self, List.replicate_zero, List.append_nil] at hrow
     have hts := HI.out.ts
     have hge := HI.out.ge
     rw [htk] at hts hge
     have h1 := H2.out.2.2.2.2.2
     have h2 := HXT.out
     have ht := TermsS.comp (S := fun b => NewB u.heap.size wr b ∧ b ≠ rk) (hts.keep (fun b hb => ⟨⟨by have := hb.1; omega, hb.2⟩, by have := hb.1; omega⟩) fun _ _ => rfl) hrow rfl (fun g hg => by
      have e : tb = g := Option.some.inj hg
      rw [← e]
      exact ⟨⟨by omega, hrow.ty rfl⟩, by omega⟩) X.s HX.out.2.1 X.k X.n
     rw [← hY] at ht
     obtain ⟨e1, e2, e3⟩ := get_end hge HI.out.fr HI.out.rk h1.2 ht
     rw [HP.out]
     refine ⟨Y, rfl, e1, ?_, e3⟩
     have e4 : parts + (Tm.mk X.k X.n X.s l).size = parts + 1 + Tm.sizes l := by simp only [Tm.size]; omega
     rw [e4]
     exact e2)
    obtain ⟨WF, hWF⟩ : ∃ WF, WF = ((((wr.setCell ⟨rk, 0, none⟩ (.int .i64 Y.k)).setCell ⟨rk, 1, none⟩ (.int .i64 Y.n)).setCell ⟨rk, 2, none⟩ (.string ⟨Y.s.toArray⟩)).setCell ⟨rk, 3, none⟩ (.slice Y.A Y.len Y.cap)) := ⟨_, rfl⟩
    have hf := blk_set4 HI.out.rk rfl (.int .i64 Y.k) (.int .i64 Y.n) (.string ⟨Y.s.toArray⟩) (.slice Y.A Y.len Y.cap)
    rw [← hWF] at HQ hf
    rw [hY] at hWF hf HQ
    have HWF := Lib.hid hWF
    have HF4 := Lib.hid hf
    clear hWF hY hlt hf
    go_wp2_with fail
    rw [← HWF.out]
    obtain ⟨f0, f1, f2, f3, -⟩ := four_at HF4.out
    exact bodyPost_ret (v := .tuple #[tvV ⟨X.k, X.n, X.s, some ⟨tb, 0, none⟩, q, q⟩, .int .i64 0]) (by simp [results, Tryz.results252, go_sem, f0, f1, f2, f3, tvV]) rfl HQ.out
theorem get_all (gb sb room : Nat) : ∀ n, GetC gb sb room n
 | 0 => fun t u i deep parts cv bv xs cs ys hs _ _ _ _ _ _ => by
  obtain ⟨k, n, s, l⟩ := t
  simp only [Tm.size] at hs
  omega
 | n + 1 => fun t u i deep parts cv bv xs cs ys hsz hs hg hv ht hd hp => get_step n (get_all gb sb room n) t u i deep parts hsz hs hg hv ht hd hp
end
end Go.Proofs.YtjdnigepnfeboaaGreatDoor
namespace Go.Proofs.YtjdnigepnfeboaaGreatDoor
open Go.RowKit Go.Maps
set_option maxRecDepth 100000
structure RnAt (nb mb : Nat) (u : World) (m : List (Int × Int)) : Prop where
 blk : u.heap[nb]? = some (.cells #[.map (some mb), .int .i64 (m.length : Nat)] 325 (0, 0))
 map : M6 u mb m
section
variable {nb mb : Nat} {u u' : World} {m : List (Int × Int)}
theorem RnAt.lt (h : RnAt nb mb u m) : nb < u.heap.size := (Array.getElem?_eq_some_iff.1 h.blk).1
theorem RnAt.keep (h : RnAt nb mb u m) (h1 : u'.heap[nb]? = u.heap[nb]?) (h2 : u'.heap[mb]? = u.heap[mb]?) : RnAt nb mb u' m := ⟨h1.trans h.blk, h.map.keep h2⟩
theorem RnAt.later (h : RnAt nb mb u m) (hb : Below u.heap.size u u') : RnAt nb mb u' m := h.keep (hb.block _ h.lt) (hb.block _ h.map.lt)
theorem RnAt.cells (h : RnAt nb mb u m) : u.cell? ⟨nb, 0, none⟩ = some (.map (some mb)) ∧ u.cell? ⟨nb, 1, none⟩ = some (.int .i64 (m.length : Nat)) ∧ ∀ o, u.frozen? ⟨nb, o, none⟩ = false :=
 ⟨by rw [cell_of_row u nb 0 _ _ (0, 0) h.blk]; rfl, by rw [cell_of_row u nb 1 _ _ (0, 0) h.blk]; rfl, fun o => by simp [World.frozen?, h.blk]⟩
theorem RnAt.ne (h : RnAt nb mb u m) {t : TypeId} {b : Nat} (hb : TyB u t b) (ht : t ≠ 325) : b ≠ nb ∧ b ≠ mb := ⟨hb.ne (t' := 325) ⟨_, h.blk⟩ ht, fun e => h.map.map.ne hb e.symm⟩
theorem RnAt.apart (h : RnAt nb mb u m) : nb ≠ mb := fun e => h.map.map.ne (t := 325) ⟨_, h.blk⟩ e.symm
def RenOut (nb mb : Nat) (u : World) (m : List (Int × Int)) (t : Tm) (e : Ending) (u' : World) : Prop :=
 ∃ y : TV, e = .returned (tvV y) ∧ TermS u' (NewB u.heap.size u') y (renT t m).1 ∧ RnAt nb mb u' (renT t m).2 ∧ Fr (fun k => k = nb ∨ k = mb) u u'
def RenC (nb mb n : Nat) : Prop := ∀ (t : Tm) (u : World) (x : TV) (m : List (Int × Int)), t.size ≤ n → TermS u (TyB u 27) x t → RnAt nb mb u m → t.may = true → (∀ n ∈ vrT t, ok6 n) → m.length + t.size ≤ 1000000 →
 Calls Tryz.prog 222 #[.pointer (some ⟨nb, 0, none⟩), tvV x] u (RenOut nb mb u m t)
theorem ren_end {W : World} {rk : Nat} {y : TV} {t : Tm} (hg : RnAt nb mb W m) (hf : Fr (fun k => k = nb ∨ k = mb) u W) (hr : W.heap[rk]? = some (.cells #[.int .i64 0, .int .i64 0, .string ⟨#[]⟩, .slice none 0 0] 27 (0, 0))) (hrk : u.heap.size ≤ rk) (ht : TermS W (fun b => NewB u.heap.size W b ∧ b ≠ rk) y t) :
    TermS ((((W.setCell ⟨rk, 0, none⟩ (.int .i64 y.k)).setCell ⟨rk, 1, none⟩ (.int .i64 y.n)).setCell ⟨rk, 2, none⟩ (.string ⟨y.s.toArray⟩)).setCell ⟨rk, 3, none⟩ (.slice y.A y.len y.cap)) (NewB u.heap.size ((((W.setCell ⟨rk, 0, none⟩ (.int .i64 y.k)).setCell ⟨rk, 1, none⟩ (.int .i64 y.n)).setCell ⟨rk, 2, none⟩ (.string ⟨y.s.toArray⟩)).setCell ⟨rk, 3, none⟩ (.slice y.A y.len y.cap))) y t ∧ RnAt nb mb ((((W.setCell ⟨rk, 0, none⟩ (.int .i64 y.k)).setCell ⟨rk, 1, none⟩ (.int .i64 y.n)).setCell ⟨rk, 2, none⟩ (.string ⟨y.s.toArray⟩)).setCell ⟨rk, 3, none⟩ (.slice y.A y.len y.cap)) m ∧
     Fr (fun k => k = nb ∨ k = mb) u ((((W.setCell ⟨rk, 0, none⟩ (.int .i64 y.k)).setCell ⟨rk, 1, none⟩ (.int .i64 y.n)).setCell ⟨rk, 2, none⟩ (.string ⟨y.s.toArray⟩)).setCell ⟨rk, 3, none⟩ (.slice y.A y.len y.cap)) := by
 obtain ⟨h1, h2⟩ := hg.ne (t := 27) ⟨_, hr⟩ (by decide)
 refine ⟨ht.keep (fun b hb => ⟨hb.1.1, hb.1.2.keep (blk_set4_ne _ _ _ _ hb.2)⟩) fun b hb => blk_set4_ne _ _ _ _ hb.2, hg.keep (blk_set4_ne _ _ _ _ (Ne.symm h1)) (blk_set4_ne _ _ _ _ (Ne.symm h2)), ?_⟩
 exact (((hf.setCell (p := ⟨rk, 0, none⟩) (.inr hrk) _).setCell (p := ⟨rk, 1, none⟩) (.inr hrk) _).setCell (p := ⟨rk, 2, none⟩) (.inr hrk) _).setCell (p := ⟨rk, 3, none⟩) (.inr hrk) _
set_option maxHeartbeats 16000000 in
theorem ren_var (u : World) (x : TV) (hk : x.k = 1) (hs0 : x.s = []) (hl0 : x.len = 0) (hn : ok6 x.n) (h : RnAt nb mb u m) (hm : m.length + 1 ≤ 1000000) :
    Calls Tryz.prog 222 #[.pointer (some ⟨nb, 0, none⟩), tvV x] u (RenOut nb mb u m (.mk 1 x.n [] [])) := by
 obtain ⟨P, hP⟩ : ∃ P : Ending → World → Prop, P = RenOut nb mb u m (.mk 1 x.n [] []) := ⟨_, rfl⟩
 rw [← hP]
 have HP := Lib.hid hP
 obtain ⟨k, n, s, A, len, c⟩ := x
 simp only at hk hs0 hl0 hn hP HP
 subst hk hs0 hl0
 obtain ⟨U, hU⟩ : ∃ U, U = (u.alloc (.cells #[.int .i64 1, .int .i64 n, .string ⟨#[]⟩, .slice A 0 c] 27)).alloc (.cells #[.int .i64 0, .int .i64 0, .string ⟨#[]⟩, .slice none 0 0] 27) := ⟨_, rfl⟩
 obtain ⟨xb, hxb⟩ : ∃ xb, xb = u.heap.size := ⟨_, rfl⟩
 obtain ⟨rk, hrk⟩ : ∃ rk, rk = u.heap.size + 1 := ⟨_, rfl⟩
 have hbU : Below u.heap.size u U := by rw [hU]; exact ((Below.refl _ _).alloc (Nat.le_refl _) _).alloc (by simp) _
 have hx : U.heap[xb]? = some (.cells #[.int .i64 1, .int .i64 n, .string ⟨#[]⟩, .slice A 0 c] 27 (0, 0)) := by
  rw [hU, hxb, Below.heap_alloc _ _ _ (by simp)]
  exact heap_alloc_new _ _
 have hr : U.heap[rk]? = some (.cells #[.int .i64 0, .int .i64 0, .string ⟨#[]⟩, .slice none 0 0] 27 (0, 0)) := by
  rw [hU, hrk]
  have := heap_alloc_new (u.alloc (.cells #[.int .i64 1, .int .i64 n, .string ⟨#[]⟩, .slice A 0 c] 27)) (.cells #[.int .i64 0, .int .i64 0, .string ⟨#[]⟩, .slice none 0 0] 27)
  rwa [World.size_alloc] at this
 have HXR : Hid (u.heap.size ≤ xb ∧ u.heap.size ≤ rk ∧ xb ≠ rk) := Lib.hid (by omega)
 have HU := Lib.hid (And.intro (h.later hbU) (And.intro hx (And.intro hr (Fr.of_below (fun k => k = nb ∨ k = mb) hbU))))
 obtain ⟨n0, n1, nf⟩ := (h.later hbU).cells
 have hlU := (h.later hbU).lt
 obtain ⟨x0, x1, x2, x3, xf⟩ := four_at hx
 have hlx : xb < U.heap.size := (Array.getElem?_eq_some_iff.1 hx).1
 have HEND : Hid (∀ (W : World) (a : Int) (m' : List (Int × Int)), renT (.mk 1 n [] []) m = (.mk 1 a [] [], m') → RnAt nb mb W m' → Fr (fun k => k = nb ∨ k = mb) u W → W.heap[rk]? = some (.cells #[.int .i64 0, .int .i64 0, .string ⟨#[]⟩, .slice none 0 0] 27 (0, 0)) →
     P (.returned (tvV ⟨1, a, [], A, 0, c⟩)) (((((W.setCell ⟨xb, 1, none⟩ (.int .i64 a)).setCell ⟨rk, 0, none⟩ (.int .i64 1)).setCell ⟨rk, 1, none⟩ (.int .i64 a)).setCell ⟨rk, 2, none⟩ (.string ⟨#[]⟩)).setCell ⟨rk, 3, none⟩ (.slice A 0 c))) := Lib.hid fun W a m' he hg hf hz => by
  have hxt : nb ≠ xb ∧ mb ≠ xb := ⟨by have := h.lt; omega, by have := h.map.lt; omega⟩
  obtain ⟨e1, e2, e3⟩ := ren_end (W := W.setCell ⟨xb, 1, none⟩ (.int .i64 a)) (rk := rk) (y := ⟨1, a, [], A, 0, c⟩) (t := .mk 1 a [] []) (hg.keep (Below.heap_setCell _ _ _ _ hxt.1) (Below.heap_setCell _ _ _ _ hxt.2)) (hf.setCell (p := ⟨xb, 1, none⟩) (.inr HXR.out.1) _) ((Below.heap_setCell _ _ _ _ (Ne.symm HXR.out.2.2)).trans hz) HXR.out.2.1 (TermS.leaf _ _ 1 a [] A c (Nat.zero_le _))
  rw [HP.out]
  refine ⟨_, rfl, ?_, ?_, e3⟩
  ·rw [he]; exact e1
  ·rw [he]; exact e2
 have hadd : IntKind.i64.wrap ((m.length : Int) + 1) = (m.length : Int) + 1 := IntWalk.i64_in _ (by omega)
 have hok : ok6 (m.length : Int) := ⟨by omega, by omega⟩
 clear hP h hbU hx hr
 unfold tvV
 go_enter Tryz.func222, Tryz.ntmps222
 go_upto_region 1 with fail
 rw [← hU, ← hxb, show xb + 1 = rk by omega]
 clear hU hxb hrk
 go_upto_region 2 with fail
 have HFIN : Hid (∀ (W : World) (a : Int), (W.setCell ⟨xb, 1, none⟩ (.int .i64 a)).heap[rk]? = some (.cells #[.int .i64 0, .int .i64 0, .string ⟨#[]⟩, .slice none 0 0] 27 (0, 0)) → (((((W.setCell ⟨xb, 1, none⟩ (.int .i64 a)).setCell ⟨rk, 0, none⟩ (.int .i64 1)).setCell ⟨rk, 1, none⟩ (.int .i64 a)).setCell ⟨rk, 2, none⟩ (.string ⟨#[]⟩)).setCell ⟨rk, 3, none⟩ (.slice A 0 c)).heap[rk]? = some (.cells #[.int .i64 1, .int .i64 a, .string ⟨#[]⟩, .slice A 0 c] 27 (0, 0))) := Lib.hid fun W a hz => blk_set4 hz rfl _ _ _ _
 have hrx : rk ≠ xb := Ne.symm HXR.out.2.2
 have hxr : xb ≠ rk := HXR.out.2.2
 cases hg : mget m n with
 | some a =>
  have k1 := (HU.out.1.map.later (Below.refl _ _).drew).look2 n hn
  rw [hg] at k1
  have k1 : (Instr.lookup 212 (.map (some mb)) (.int .i64 n) true).run Tryz.prog U.drew = .ok (.tuple #[.int .i64 a, .bool true]) U.drew := k1
  have HE : Hid (renT (.mk 1 n [] []) m = (.mk 1 a [] [], m)) := Lib.hid (by rw [renT, if_pos rfl, hg])
  clear hg
  go_region
  obtain ⟨V, hV⟩ : ∃ V, V = U.drew := ⟨_, rfl⟩
  have hbV : Below U.heap.size U V := by rw [hV]; exact (Below.refl _ _).drew
  rw [← hV]
  have hxV := (hbV.block _ hlx).trans HU.out.2.1
  have hrV := (hbV.block _ (Array.getElem?_eq_some_iff.1 HU.out.2.2.1).1).trans HU.out.2.2.1
  have HV := Lib.hid (And.intro (HU.out.1.later hbV) (HU.out.2.2.2.step hbV))
  clear hV hbV k1 n0 n1 nf hlU x0 x1 x2 x3 xf hlx hadd hok
  obtain ⟨x0, x1, x2, x3, xf⟩ := four_at hxV
  obtain ⟨r0, r1, r2, r3, rf⟩ := four_at hrV
  have hlx : xb < V.heap.size := (Array.getElem?_eq_some_iff.1 hxV).1
  have hlr : rk < V.heap.size := (Array.getElem?_eq_some_iff.1 hrV).1
  have HQ := Lib.hid (HEND.out V a m HE.out HV.out.1 HV.out.2 hrV)
  have HF := Lib.hid (HFIN.out V a ((Below.heap_setCell _ _ _ _ hrx).trans hrV))
  clear hxV hrV
  obtain ⟨WF, hWF⟩ : ∃ WF, WF = (((((V.setCell ⟨xb, 1, none⟩ (.int .i64 a)).setCell ⟨rk, 0, none⟩ (.int .i64 1)).setCell ⟨rk, 1, none⟩ (.int .i64 a)).setCell ⟨rk, 2, none⟩ (.string ⟨#[]⟩)).setCell ⟨rk, 3, none⟩ (.slice A 0 c)) := ⟨_, rfl⟩
  rw [← hWF] at HQ HF
  have HWF := Lib.hid hWF
  clear hWF
  go_wp2_with fail
  rw [← HWF.out]
  obtain ⟨f0, f1, f2, f3, -⟩ := four_at HF.out
  exact bodyPost_ret (v := tvV ⟨1, a, [], A, 0, c⟩) (by simp [results, Tryz.results222, go_sem, f0, f1, f2, f3, tvV]) rfl HQ.out
 | none =>
  have k1 := (HU.out.1.map.later (Below.refl _ _).drew).look2 n hn
  rw [hg] at k1
  have k1 : (Instr.lookup 212 (.map (some mb)) (.int .i64 n) true).run Tryz.prog U.drew = .ok (.tuple #[.int .i64 0, .bool false]) U.drew := k1
  have HE : Hid (renT (.mk 1 n [] []) m = (.mk 1 m.length [] [], m ++ [(n, (m.length : Int))])) := Lib.hid (by rw [renT, if_pos rfl, hg])
  have HMP : Hid (mput m n (m.length : Int) = m ++ [(n, (m.length : Int))]) := Lib.hid (by unfold mput; rw [hg]; rfl)
  clear hg
  go_region
  obtain ⟨V, hV⟩ : ∃ V, V = U.drew := ⟨_, rfl⟩
  have hbV : Below U.heap.size U V := by rw [hV]; exact (Below.refl _ _).drew
  rw [← hV]
  have hxV := (hbV.block _ hlx).trans HU.out.2.1
  have hrV := (hbV.block _ (Array.getElem?_eq_some_iff.1 HU.out.2.2.1).1).trans HU.out.2.2.1
  have HV := Lib.hid (And.intro (HU.out.1.later hbV) (And.intro (HU.out.2.2.2.step hbV) (And.intro hxV hrV)))
  clear hV hbV k1 n0 n1 nf hlU x0 x1 x2 x3 xf hlx
  obtain ⟨n0, n1, nf⟩ := HV.out.1.cells
  have hlV := HV.out.1.lt
  obtain ⟨x0, x1, x2, x3, xf⟩ := four_at hxV
  have hlx : xb < V.heap.size := (Array.getElem?_eq_some_iff.1 hxV).1
  obtain ⟨V2, hV2⟩ : ∃ V2, V2 = V.setCell ⟨nb, 1, none⟩ (.int .i64 ((m.length : Int) + 1)) := ⟨_, rfl⟩
  have hnx := HV.out.1.ne (t := 27) ⟨_, hxV⟩ (by decide)
  have hnr := HV.out.1.ne (t := 27) ⟨_, hrV⟩ (by decide)
  have hxV2 : V2.heap[xb]? = some (.cells #[.int .i64 1, .int .i64 n, .string ⟨#[]⟩, .slice A 0 c] 27 (0, 0)) := by rw [hV2]; exact (Below.heap_setCell _ _ _ _ hnx.1).trans hxV
  have hrV2 : V2.heap[rk]? = some (.cells #[.int .i64 0, .int .i64 0, .string ⟨#[]⟩, .slice none 0 0] 27 (0, 0)) := by rw [hV2]; exact (Below.heap_setCell _ _ _ _ hnr.1).trans hrV
  have hmV2 : M6 V2 mb m := HV.out.1.map.keep (by rw [hV2]; exact Below.heap_setCell _ _ _ _ (Ne.symm HV.out.1.apart))
  have hbV2 : V2.heap[nb]? = some (.cells #[.map (some mb), .int .i64 ((m.length : Int) + 1)] 325 (0, 0)) := by rw [hV2]; exact blk_put HV.out.1.blk _
  have hfV2 : Fr (fun k => k = nb ∨ k = mb) u V2 := by rw [hV2]; exact HV.out.2.1.setCell (p := ⟨nb, 1, none⟩) (.inl (.inl rfl)) _
  obtain ⟨W, k3, k4, k5, k6⟩ := (hmV2.later (Below.refl _ _).drew).put2 n hn (m.length : Int)
  rw [HMP.out] at k4
  have hkW : ∀ k, k < V2.heap.size → k ≠ mb → W.heap[k]? = V2.heap[k]? := fun k hk hn => k5.block k hk (fun e => hn (Option.some.inj e))
  have hxW := (hkW xb (Array.getElem?_eq_some_iff.1 hxV2).1 hnx.2).trans hxV2
  have hrW := (hkW rk (Array.getElem?_eq_some_iff.1 hrV2).1 hnr.2).trans hrV2
  have hgW : RnAt nb mb W (m ++ [(n, (m.length : Int))]) := ⟨by rw [List.length_append, List.length_singleton]; exact (hkW nb (Array.getElem?_eq_some_iff.1 hbV2).1 HV.out.1.apart).trans hbV2, k4⟩
  have hfW : Fr (fun k => k = nb ∨ k = mb) u W := hfV2.drew.grown k5 fun g e => .inl (.inr (Option.some.inj e).symm)
  have HQ := Lib.hid (HEND.out W m.length _ HE.out hgW hfW hrW)
  have HF := Lib.hid (HFIN.out W m.length ((Below.heap_setCell _ _ _ _ hrx).trans hrW))
  have HW := Lib.hid (And.intro hxW hrW)
  have HV2 := Lib.hid (And.intro hbV2 hxV2)
  clear hnx hnr hrV2 hmV2 hfV2 k4 k5 k6 hkW hgW hfW hxV hrV hadd hxV2 hbV2 hxW hrW
  have hadd : IntKind.i64.wrap ((m.length : Int) + 1) = (m.length : Int) + 1 := IntWalk.i64_in _ (by omega)
  go_upto_region 6 with fail
  rw [← hV2]
  clear hV2 x0 x1 x2 x3 xf hlx n0 n1 nf hlV hadd
  have n0 : V2.cell? ⟨nb, 0, none⟩ = some (.map (some mb)) := by rw [cell_of_row V2 nb 0 _ _ (0, 0) HV2.out.1]; rfl
  have hlV : nb < V2.heap.size := (Array.getElem?_eq_some_iff.1 HV2.out.1).1
  obtain ⟨x0, x1, x2, x3, xf⟩ := four_at HV2.out.2
  have hlx : xb < V2.heap.size := (Array.getElem?_eq_some_iff.1 HV2.out.2).1
  go_region
  clear k3 n0 hlV x0 x1 x2 x3 xf hlx
  obtain ⟨x0, x1, x2, x3, xf⟩ := four_at HW.out.1
  obtain ⟨r0, r1, r2, r3, rf⟩ := four_at HW.out.2
  have hlx : xb < W.heap.size := (Array.getElem?_eq_some_iff.1 HW.out.1).1
  have hlr : rk < W.heap.size := (Array.getElem?_eq_some_iff.1 HW.out.2).1
  obtain ⟨WF, hWF⟩ : ∃ WF, WF = (((((W.setCell ⟨xb, 1, none⟩ (.int .i64 (m.length : Int))).setCell ⟨rk, 0, none⟩ (.int .i64 1)).setCell ⟨rk, 1, none⟩ (.int .i64 (m.length : Int))).setCell ⟨rk, 2, none⟩ (.string ⟨#[]⟩)).setCell ⟨rk, 3, none⟩ (.slice A 0 c)) := ⟨_, rfl⟩
  rw [← hWF] at HQ HF
  have HWF := Lib.hid hWF
  clear hWF
  go_wp2_with fail
  rw [← HWF.out]
  obtain ⟨f0, f1, f2, f3, -⟩ := four_at HF.out
  exact bodyPost_ret (v := tvV ⟨1, (m.length : Int), [], A, 0, c⟩) (by simp [results, Tryz.results222, go_sem, f0, f1, f2, f3, tvV]) rfl HQ.out
end
end Go.Proofs.YtjdnigepnfeboaaGreatDoor
namespace Go.Proofs.YtjdnigepnfeboaaGreatDoor
open Go.RowKit Go.Maps
set_option maxRecDepth 100000
theorem renL_snoc : ∀ (l : List Tm) (t : Tm) (m : List (Int × Int)), renL (l ++ [t]) m = ((renL l m).1 ++ [(renT t (renL l m).2).1], (renT t (renL l m).2).2)
 | [], t, m => by rw [List.nil_append, renL, renL, renL]; rfl
 | a :: r, t, m => by rw [List.cons_append, renL, renL_snoc r t, renL]; rfl
mutual
theorem renT_len : ∀ (t : Tm) (m : List (Int × Int)), (renT t m).2.length ≤ m.length + t.size
 | .mk k n s l, m => by
  by_cases hk : k = 1
  ·rw [renT, if_pos hk]
   cases mget m n with
   | some a => simp only [Tm.size]; omega
   | none => simp only [Tm.size, List.length_append, List.length_singleton]; omega
  ·rw [renT, if_neg hk]
   have := renL_len l m
   simp only [Tm.size]
   omega
theorem renL_len : ∀ (l : List Tm) (m : List (Int × Int)), (renL l m).2.length ≤ m.length + Tm.sizes l
 | [], m => by rw [renL]; simp [Tm.sizes]
 | t :: r, m => by
  have h1 := renT_len t m
  have h2 := renL_len r (renT t m).2
  rw [renL]
  simp only [Tm.sizes]
  omega
end
structure RlAt (nb mb rk xb tb n : Nat) (u : World) (X : TV) (m : List (Int × Int)) (l : List Tm) (wr : World) (q : Nat) (zs : List TV) : Prop where
 rn : RnAt nb mb wr (renL (l.take q) m).2
 fr : Fr (fun k => k = nb ∨ k = mb) u wr
 rk : wr.heap[rk]? = some (.cells #[.int .i64 0, .int .i64 0, .string ⟨#[]⟩, .slice none 0 0] 27 (0, 0))
 xb : wr.heap[xb]? = some (.cells #[.int .i64 X.k, .int .i64 X.n, .string ⟨X.s.toArray⟩, .slice X.A X.len X.cap] 27 (0, 0))
 row : Row wr u.heap.size 27 4 encTV (.slice (some ⟨tb, 0, none⟩) n n) (zs ++ List.replicate (n - q) zTV)
 ts : TermsS wr (fun b => tb < b ∧ TyB wr 27 b) zs (renL (l.take q) m).1
 len : zs.length = q
section
variable {nb mb : Nat} {u u' : World} {m : List (Int × Int)}
theorem RlAt.after {rk xb tb n q : Nat} {wr V w5 : World} {X : TV} {l : List Tm} {zs : List TV} (h : RlAt nb mb rk xb tb n u X m l wr q zs) (hb : Below wr.heap.size wr V) (hf : Fr (fun k => k = nb ∨ k = mb) V w5) (hq : q < n) :
    Row w5 u.heap.size 27 4 encTV (.slice (some ⟨tb, 0, none⟩) n n) (zs ++ List.replicate (n - q) zTV) ∧ (zs ++ List.replicate (n - q) zTV)[q]? = some zTV ∧ w5.cell? ⟨tb, q * 4, none⟩ = some (.int .i64 0) ∧ w5.cell? ⟨tb, q * 4 + 1, none⟩ = some (.int .i64 0) ∧ w5.cell? ⟨tb, q * 4 + 2, none⟩ = some (.string ⟨#[]⟩) ∧ w5.cell? ⟨tb, q * 4 + 3, none⟩ = some (.slice none 0 0) ∧ (∀ o, w5.frozen? ⟨tb, o, none⟩ = false) ∧ tb < w5.heap.size := by
 have hty : TyB wr 27 tb := h.row.ty rfl
 obtain ⟨n1, n2⟩ := h.rn.ne hty (by decide)
 have hk := (hf.block tb (Nat.lt_of_lt_of_le hty.lt hb.size) (fun e => by rcases e with e | e; exact n1 e; exact n2 e)).trans (hb.block tb hty.lt)
 have hr := h.row.keep (w' := w5) fun k hk' => by
  have e : tb = k := Option.some.inj hk'
  rw [← e]
  exact hk
 have hz : (zs ++ List.replicate (n - q) zTV)[q]? = some zTV := by
  rw [List.getElem?_append_right (by rw [h.len]; exact Nat.le_refl _), h.len, Nat.sub_self, List.getElem?_replicate, if_pos (by omega)]
 obtain ⟨g, cap, e, -, -, -, hc⟩ := hr.cells encTV_len (fun e => by rw [e] at hz; cases hz)
 injection e with e
 injection e with e
 injection e with e
 subst e
 obtain ⟨cs0, h0⟩ := hty.keep hk
 exact ⟨hr, hz, (hc q zTV hz 0 _ rfl).1, (hc q zTV hz 1 _ rfl).1, (hc q zTV hz 2 _ rfl).1, (hc q zTV hz 3 _ rfl).1, fun o => by simp [World.frozen?, h0], Nat.lt_of_lt_of_le hty.lt (Nat.le_trans hb.size hf.size)⟩
theorem RlAt.next {rk xb tb n q : Nat} {wr V w5 : World} {X y : TV} {l : List Tm} {zs : List TV} {s : Tm} (h : RlAt nb mb rk xb tb n u X m l wr q zs) (hb : Below wr.heap.size wr V) (hf : Fr (fun k => k = nb ∨ k = mb) V w5) (ht : TermS w5 (NewB V.heap.size w5) y (renT s (renL (l.take q) m).2).1) (hg : RnAt nb mb w5 (renT s (renL (l.take q) m).2).2) (hs : l[q]? = some s) (hq : q < n)
    (hr : Row w5 u.heap.size 27 4 encTV (.slice (some ⟨tb, 0, none⟩) n n) (zs ++ List.replicate (n - q) zTV)) (hz : (zs ++ List.replicate (n - q) zTV)[q]? = some zTV) (hxt : xb < tb) (hrt : rk < tb) :
    RlAt nb mb rk xb tb n u X m l ((((w5.setCell ⟨tb, q * 4, none⟩ (.int .i64 y.k)).setCell ⟨tb, q * 4 + 1, none⟩ (.int .i64 y.n)).setCell ⟨tb, q * 4 + 2, none⟩ (.string ⟨y.s.toArray⟩)).setCell ⟨tb, q * 4 + 3, none⟩ (.slice y.A y.len y.cap)) (q + 1) (zs ++ [y]) := by
 have hty : TyB wr 27 tb := h.row.ty rfl
 have hut := (h.row.lt tb rfl).1
 have hset : ∀ b, b ≠ tb → ((((w5.setCell ⟨tb, q * 4, none⟩ (.int .i64 y.k)).setCell ⟨tb, q * 4 + 1, none⟩ (.int .i64 y.n)).setCell ⟨tb, q * 4 + 2, none⟩ (.string ⟨y.s.toArray⟩)).setCell ⟨tb, q * 4 + 3, none⟩ (.slice y.A y.len y.cap)).heap[b]? = w5.heap[b]? := fun b hb => by
  rw [Below.heap_setCell _ _ _ _ hb, Below.heap_setCell _ _ _ _ hb, Below.heap_setCell _ _ _ _ hb, Below.heap_setCell _ _ _ _ hb]
 have hT : ∀ b, TyB wr 27 b → w5.heap[b]? = wr.heap[b]? := fun b hb' => by
  obtain ⟨n1, n2⟩ := h.rn.ne hb' (by decide)
  exact (hf.block b (Nat.lt_of_lt_of_le hb'.lt hb.size) (fun e => by rcases e with e | e; exact n1 e; exact n2 e)).trans (hb.block b hb'.lt)
 obtain ⟨n1, n2⟩ := h.rn.ne hty (by decide)
 have hsn : renL (l.take (q + 1)) m = ((renL (l.take q) m).1 ++ [(renT s (renL (l.take q) m).2).1], (renT s (renL (l.take q) m).2).2) := by
  rw [List.take_add_one, hs]
  exact renL_snoc _ _ _
 refine ⟨?_, ?_, ?_, ?_, ?_, ?_, by rw [List.length_append, h.len]; rfl⟩
 ·rw [hsn]
  exact hg.keep (hset nb (Ne.symm n1)) (hset mb (Ne.symm n2))
 ·exact (((((h.fr.step hb).trans hf).setCell (p := ⟨tb, q * 4, none⟩) (.inr hut) _).setCell (p := ⟨tb, q * 4 + 1, none⟩) (.inr hut) _).setCell (p := ⟨tb, q * 4 + 2, none⟩) (.inr hut) _).setCell (p := ⟨tb, q * 4 + 3, none⟩) (.inr hut) _
 ·exact (hset rk (by omega)).trans ((hT rk ⟨_, h.rk⟩).trans h.rk)
 ·exact (hset xb (by omega)).trans ((hT xb ⟨_, h.xb⟩).trans h.xb)
 ·have h1 := row_put4 hr y hz
  have h2 : (zs ++ List.replicate (n - q) zTV).set q y = zs ++ [y] ++ List.replicate (n - (q + 1)) zTV := by
   rw [List.set_append_right _ _ (by rw [h.len]; exact Nat.le_refl _), h.len, Nat.sub_self, show n - q = (n - (q + 1)) + 1 by omega, List.replicate_succ, List.set_cons_zero, List.append_assoc]
   rfl
  rw [h2] at h1
  exact h1
 ·rw [hsn]
  have hlt : tb < wr.heap.size := hty.lt
  have hVs := hb.size
  refine (h.ts.keep (fun b hb => ⟨hb.1, hb.2.keep ((hset b (by omega)).trans (hT b hb.2))⟩) fun b hb => (hset b (by omega)).trans (hT b hb.2)).snoc ?_
  exact ht.keep (fun b hb => ⟨by have := hb.1; omega, hb.2.keep (hset b (by have := hb.1; omega))⟩) fun b hb => hset b (by have := hb.1; omega)
set_option maxHeartbeats 16000000 in
theorem ren_step (M : Nat) (hC : RenC nb mb M) (t : Tm) (u : World) (x : TV) (hsz : t.size ≤ M + 1) (hk : x.k ≠ 1) (hx : TermS u (TyB u 27) x t) (h : RnAt nb mb u m) (hm : t.may = true) (hv : ∀ n ∈ vrT t, ok6 n) (hml : m.length + t.size ≤ 1000000) :
    Calls Tryz.prog 222 #[.pointer (some ⟨nb, 0, none⟩), tvV x] u (RenOut nb mb u m t) := by
 obtain ⟨P, hP⟩ : ∃ P : Ending → World → Prop, P = RenOut nb mb u m t := ⟨_, rfl⟩
 rw [← hP]
 have HP := Lib.hid hP
 cases hx with
 | mk _ l xa h1 h2 h3 hc ht =>
 obtain ⟨k, n0, s, A, n, c⟩ := x
 simp only at hk h1 h2 h3 hc ht HP hsz hm hv hml hP
 have HA : Hid ((∀ (i : Nat) a, l[i]? = some a → a.may = true ∧ (∀ n ∈ vrT a, ok6 n)) ∧ Tm.sizes l ≤ M ∧ m.length + Tm.sizes l ≤ 1000000 ∧ l.length = n ∧ n ≤ 255 ∧ renT (.mk k n0 s l) m = (.mk k n0 s (renL l m).1, (renL l m).2) ∧ s.length ≤ maxLen) := Lib.hid (by
  have hsz : 1 + Tm.sizes l ≤ M + 1 := by simpa only [Tm.size] using hsz
  have hml : m.length + (1 + Tm.sizes l) ≤ 1000000 := by simpa only [Tm.size] using hml
  refine ⟨fun i a ha => ⟨may_args hm a (List.mem_of_getElem? ha), fun n hn => hv n ?_⟩, by omega, by omega, h2, ?_, by rw [renT, if_neg hk], h3⟩
  ·rw [vrT]
   exact List.mem_append_right _ (vrL_mem (List.mem_of_getElem? ha) hn)
  ·rw [← h2]
   exact may_len hm)
 have HXS := Lib.hid (And.intro h1 (And.intro hc ht))
 have HM := Lib.hid hC
 obtain ⟨U, hU⟩ : ∃ U, U = (u.alloc (.cells #[.int .i64 k, .int .i64 n0, .string ⟨s.toArray⟩, .slice A n c] 27)).alloc (.cells #[.int .i64 0, .int .i64 0, .string ⟨#[]⟩, .slice none 0 0] 27) := ⟨_, rfl⟩
 obtain ⟨xb, hxb⟩ : ∃ xb, xb = u.heap.size := ⟨_, rfl⟩
 obtain ⟨rk, hrk⟩ : ∃ rk, rk = u.heap.size + 1 := ⟨_, rfl⟩
 have hbU : Below u.heap.size u U := by rw [hU]; exact ((Below.refl _ _).alloc (Nat.le_refl _) _).alloc (by simp) _
 have hxx : U.heap[xb]? = some (.cells #[.int .i64 k, .int .i64 n0, .string ⟨s.toArray⟩, .slice A n c] 27 (0, 0)) := by
  rw [hU, hxb, Below.heap_alloc _ _ _ (by simp)]
  exact heap_alloc_new _ _
 have hr : U.heap[rk]? = some (.cells #[.int .i64 0, .int .i64 0, .string ⟨#[]⟩, .slice none 0 0] 27 (0, 0)) := by
  rw [hU, hrk]
  have := heap_alloc_new (u.alloc (.cells #[.int .i64 k, .int .i64 n0, .string ⟨s.toArray⟩, .slice A n c] 27)) (.cells #[.int .i64 0, .int .i64 0, .string ⟨#[]⟩, .slice none 0 0] 27)
  rwa [World.size_alloc] at this
 have HXR : Hid (u.heap.size ≤ xb ∧ u.heap.size ≤ rk ∧ xb ≠ rk) := Lib.hid (by omega)
 have HT0 : Hid (∀ b, TyB u 27 b → ¬ (b = nb ∨ b = mb)) := Lib.hid fun b hb e => by
  obtain ⟨n1, n2⟩ := h.ne hb (by decide)
  rcases e with e | e
  ·exact n1 e
  ·exact n2 e
 have HU := Lib.hid (And.intro (h.later hbU) (And.intro hxx (And.intro hr (Fr.of_below (fun k => k = nb ∨ k = mb) hbU))))
 obtain ⟨x0, x1, x2, x3, xf⟩ := four_at hxx
 obtain ⟨r0, r1, r2, r3, rf⟩ := four_at hr
 have hlx : xb < U.heap.size := (Array.getElem?_eq_some_iff.1 hxx).1
 have hlr : rk < U.heap.size := (Array.getElem?_eq_some_iff.1 hr).1
 have b1 : (k == 1) = false := beq_eq_false_iff_ne.2 hk
 have hn255 := HA.out.2.2.2.2.1
 clear hP h1 h2 h3 hc ht h hm hv hml hsz hC hbU hxx hr hk
 unfold tvV
 go_enter Tryz.func222, Tryz.ntmps222
 go_upto_region 1 with fail
 rw [← hU, ← hxb, show xb + 1 = rk by omega]
 clear hU hxb hrk
 by_cases hn0 : n = 0
 ·subst hn0
  have HQ : Hid (P (.returned (tvV ⟨k, n0, s, A, 0, c⟩)) ((((U.setCell ⟨rk, 0, none⟩ (.int .i64 k)).setCell ⟨rk, 1, none⟩ (.int .i64 n0)).setCell ⟨rk, 2, none⟩ (.string ⟨s.toArray⟩)).setCell ⟨rk, 3, none⟩ (.slice A 0 c))) := Lib.hid (by
   have hl : l = [] := List.eq_nil_of_length_eq_zero HA.out.2.2.2.1
   subst hl
   obtain ⟨e1, e2, e3⟩ := ren_end (y := ⟨k, n0, s, A, 0, c⟩) (t := .mk k n0 s []) HU.out.1 HU.out.2.2.2 HU.out.2.2.1 HXR.out.2.1 (TermS.leaf _ _ k n0 s A c HA.out.2.2.2.2.2.2)
   rw [HP.out]
   refine ⟨_, rfl, ?_, ?_, e3⟩
   ·rw [HA.out.2.2.2.2.2.1, renL]; exact e1
   ·rw [HA.out.2.2.2.2.2.1, renL]; exact e2)
  have HF := Lib.hid (blk_set4 HU.out.2.2.1 rfl (.int .i64 k) (.int .i64 n0) (.string ⟨s.toArray⟩) (.slice A 0 c))
  have hrx : rk ≠ xb := Ne.symm HXR.out.2.2
  have hxr : xb ≠ rk := HXR.out.2.2
  obtain ⟨WF, hWF⟩ : ∃ WF, WF = ((((U.setCell ⟨rk, 0, none⟩ (.int .i64 k)).setCell ⟨rk, 1, none⟩ (.int .i64 n0)).setCell ⟨rk, 2, none⟩ (.string ⟨s.toArray⟩)).setCell ⟨rk, 3, none⟩ (.slice A 0 c)) := ⟨_, rfl⟩
  rw [← hWF] at HQ HF
  have HWF := Lib.hid hWF
  clear hWF
  go_wp2_with fail
  rw [← HWF.out]
  obtain ⟨f0, f1, f2, f3, -⟩ := four_at HF.out
  exact bodyPost_ret (v := tvV ⟨k, n0, s, A, 0, c⟩) (by simp [results, Tryz.results222, go_sem, f0, f1, f2, f3, tvV]) rfl HQ.out
 ·have hgt : (n : Int) > 0 := by omega
  have hgt2 : decide (0 < n) = true := decide_eq_true (by omega)
  have hmk := run_terms U n (by omega)
  obtain ⟨W3, hW3⟩ : ∃ W, W = U.alloc (.cells ((List.replicate n zTV).flatMap encTV).toArray 27) := ⟨_, rfl⟩
  obtain ⟨tb, htb⟩ : ∃ tb, tb = U.heap.size := ⟨_, rfl⟩
  have hb3 : Below U.heap.size U W3 := by rw [hW3]; exact (Below.refl _ _).alloc (Nat.le_refl _) _
  have HI0 : Hid (RlAt nb mb rk xb tb n u ⟨k, n0, s, A, n, c⟩ m l W3 0 [] ∧ xb < tb ∧ rk < tb) := Lib.hid (by
   refine ⟨⟨by rw [List.take_zero, renL]; exact HU.out.1.later hb3, HU.out.2.2.2.step hb3, (hb3.block _ hlr).trans HU.out.2.2.1, (hb3.block _ hlx).trans HU.out.2.1, ?_, ?_, rfl⟩, by omega, by omega⟩
   ·rw [List.nil_append, Nat.sub_zero, htb, hW3]
    exact terms_row U u.heap.size n HU.out.2.2.2.size (by omega)
   ·rw [List.take_zero, renL]
    exact TermsS.nil _ _)
  rw [← hW3, ← htb] at hmk
  have hx3 := (hb3.block _ hlx).trans HU.out.2.1
  have hlx3 : xb < W3.heap.size := Nat.lt_of_lt_of_le hlx hb3.size
  obtain ⟨-, -, -, x3', xf'⟩ := four_at hx3
  clear hW3 htb hb3 hx3 r0 r1 r2 r3 rf hlr
  go_wp2_with fail
  clear hmk x0 x1 x2 x3 xf x3' xf' hlx hlx3 hgt hgt2 b1
  go_loopw [56] (fun i wr => ∃ (q : Nat) (zs : List TV), i = .int .i64 (q : Nat) ∧ q ≤ n ∧ Hid (RlAt nb mb rk xb tb n u ⟨k, n0, s, A, n, c⟩ m l wr q zs)) (fun i _ => n - (intOf i).toNat)
  case atStart => exact ⟨0, [], rfl, Nat.zero_le _, Lib.hid HI0.out.1⟩
  case round =>
   obtain ⟨q, zs, rfl, hq, HI⟩ := hrel
   have HXT := Lib.hid HI0.out.2
   clear HI0
   by_cases hlt : q < n
   ·obtain ⟨a, ha⟩ : ∃ a, l[q]? = some a := ⟨_, List.getElem?_eq_getElem (by rw [HA.out.2.2.2.1]; exact hlt)⟩
    obtain ⟨y, hy⟩ : ∃ y, xa[q]? = some y := ⟨_, List.getElem?_eq_getElem (by rw [HXS.out.1]; exact hlt)⟩
    obtain ⟨b, off, eA, hb, hcc⟩ := HXS.out.2.1 q y hy
    have hkT : ∀ b, TyB u 27 b → wr.heap[b]? = u.heap[b]? := fun b hb => HI.out.fr.block b hb.lt (HT0.out b hb)
    have hcell : ∀ (j : Nat) v, (encTV y)[j]? = some v → wr.cell? ⟨b, off + q * 4 + j, none⟩ = some v := fun j v hv => (World.cell?_of_block (a := ⟨b, off + q * 4 + j, none⟩) (hkT b hb)).trans (hcc j v hv)
    have y0 := hcell 0 _ rfl
    have y1 := hcell 1 _ rfl
    have y2 := hcell 2 _ rfl
    have y3 := hcell 3 _ rfl
    rw [Nat.add_zero] at y0
    have hbl : b < wr.heap.size := Nat.lt_of_lt_of_le hb.lt HI.out.fr.size
    have HT := Lib.hid ((HXS.out.2.2 q y a hy ha).keep (w' := wr) (S' := TyB wr 27) (fun b hb => hb.keep (hkT b hb)) hkT)
    obtain ⟨V, hV⟩ : ∃ V, V = wr.alloc (.cells #[.int .i64 y.k, .int .i64 y.n, .string ⟨y.s.toArray⟩, .slice y.A y.len y.cap] 27) := ⟨_, rfl⟩
    have hbV : Below wr.heap.size wr V := by rw [hV]; exact (Below.refl _ _).alloc (Nat.le_refl _) _
    have hzV : V.heap[wr.heap.size]? = some (.cells #[.int .i64 y.k, .int .i64 y.n, .string ⟨y.s.toArray⟩, .slice y.A y.len y.cap] 27 (0, 0)) := by rw [hV]; exact heap_alloc_new _ _
    obtain ⟨v0, v1, v2, v3, -⟩ := four_at hzV
    have hlt1 : (q : Int) < (n : Int) := by omega
    have hge : (0 : Int) ≤ (q : Int) := by omega
    have hwq : IntKind.i64.wrap ((q : Int) + 1) = (q : Int) + 1 := IntWalk.i64_in _ (by omega)
    have HTV : Hid (TermS V (TyB V 27) y a) := Lib.hid (HT.out.keep (fun b hb => hb.keep (hbV.block b hb.lt)) fun b hb => hbV.block b hb.lt)
    have HBV := Lib.hid hbV
    have HAQ := Lib.hid ha
    have HCL : Hid (Calls Tryz.prog 222 #[.pointer (some ⟨nb, 0, none⟩), tvV y] V (RenOut nb mb V (renL (l.take q) m).2 a)) := Lib.hid (HM.out a V y _ (by
     have h1 : Tm.sizes (l.take q) + a.size = Tm.sizes (l.take (q + 1)) := by rw [List.take_add_one, ha]; exact (sizes_one _ _).symm
     have h2 := sizes_takeP (q + 1) l
     have h3 := HA.out.2.1
     omega) HTV.out (HI.out.rn.later hbV) (HA.out.1 q a ha).1 (HA.out.1 q a ha).2 (by
     have h1 : Tm.sizes (l.take q) + a.size = Tm.sizes (l.take (q + 1)) := by rw [List.take_add_one, ha]; exact (sizes_one _ _).symm
     have h2 := sizes_takeP (q + 1) l
     have h3 := HA.out.2.2.1
     have h4 := renL_len (l.take q) m
     omega))
    clear hcc hkT hcell hy ha hb hzV hbV
    subst eA
    go_upto_region 13 with fail
    rw [← hV]
    clear hV
    go_wp2_with fail
    refine HCL.out.mono ?_
    rintro e w5 ⟨z, rfl, ht5, hg5, hf5⟩
    unfold tvV
    obtain ⟨hr5, hz5, q0, q1, q2, q3, qf, hlt5⟩ := HI.out.after HBV.out hf5 hlt
    have HNX := Lib.hid (HI.out.next HBV.out hf5 ht5 hg5 HAQ.out hlt hr5 hz5 HXT.out.1 HXT.out.2)
    clear hr5 hz5 ht5 hg5 hf5 y0 y1 y2 y3 v0 v1 v2 v3 hbl
    go_upto_region 14 with fail
    clear q0 q1 q2 q3 qf hlt5 hlt1 hge
    obtain ⟨W9, hW9⟩ : ∃ W9, W9 = ((((w5.setCell ⟨tb, q * 4, none⟩ (.int .i64 z.k)).setCell ⟨tb, q * 4 + 1, none⟩ (.int .i64 z.n)).setCell ⟨tb, q * 4 + 2, none⟩ (.string ⟨z.s.toArray⟩)).setCell ⟨tb, q * 4 + 3, none⟩ (.slice z.A z.len z.cap)) := ⟨_, rfl⟩
    rw [← hW9] at HNX ⊢
    clear hW9
    go_wp2_with fail
    go_roundw
    case rel => exact ⟨q + 1, zs ++ [z], rfl, by omega, HNX⟩
    case measure =>
     simp only [intOf]
     omega
   ·obtain rfl : q = n := by omega
    have hng : ¬ (q : Int) < (q : Int) := by omega
    obtain ⟨r0, r1, r2, r3, rf⟩ := four_at HI.out.rk
    obtain ⟨x0, x1, x2, x3, xf⟩ := four_at HI.out.xb
    have hlr : rk < wr.heap.size := (Array.getElem?_eq_some_iff.1 HI.out.rk).1
    have hlx : xb < wr.heap.size := (Array.getElem?_eq_some_iff.1 HI.out.xb).1
    have hrx : rk ≠ xb := Ne.symm HXR.out.2.2
    have hxr : xb ≠ rk := HXR.out.2.2
    have HQ : Hid (P (.returned (tvV ⟨k, n0, s, some ⟨tb, 0, none⟩, q, q⟩)) (((((wr.setCell ⟨xb, 3, none⟩ (.slice (some ⟨tb, 0, none⟩) q q)).setCell ⟨rk, 0, none⟩ (.int .i64 k)).setCell ⟨rk, 1, none⟩ (.int .i64 n0)).setCell ⟨rk, 2, none⟩ (.string ⟨s.toArray⟩)).setCell ⟨rk, 3, none⟩ (.slice (some ⟨tb, 0, none⟩) q q)) ∧ (((((wr.setCell ⟨xb, 3, none⟩ (.slice (some ⟨tb, 0, none⟩) q q)).setCell ⟨rk, 0, none⟩ (.int .i64 k)).setCell ⟨rk, 1, none⟩ (.int .i64 n0)).setCell ⟨rk, 2, none⟩ (.string ⟨s.toArray⟩)).setCell ⟨rk, 3, none⟩ (.slice (some ⟨tb, 0, none⟩) q q)).heap[rk]? = some (.cells #[.int .i64 k, .int .i64 n0, .string ⟨s.toArray⟩, .slice (some ⟨tb, 0, none⟩) q q] 27 (0, 0))) := Lib.hid (by
     have htk : l.take q = l := List.take_of_length_le (by rw [HA.out.2.2.2.1]; exact Nat.le_refl _)
     have hrow := HI.out.row
     rw [Nat.sub_self, List.replicate_zero, List.append_nil] at hrow
     have hts := HI.out.ts
     have hrn := HI.out.rn
     rw [htk] at hts hrn
     have h2 := HXT.out
     have hw : ∀ b, b ≠ xb → (wr.setCell ⟨xb, 3, none⟩ (.slice (some ⟨tb, 0, none⟩) q q)).heap[b]? = wr.heap[b]? := fun b hb => Below.heap_setCell _ _ _ _ hb
     obtain ⟨n1, n2⟩ := hrn.ne (t := 27) ⟨_, HI.out.xb⟩ (by decide)
     have hrow' := hrow.keep (w' := wr.setCell ⟨xb, 3, none⟩ (.slice (some ⟨tb, 0, none⟩) q q)) fun g hg => by
      have e : tb = g := Option.some.inj hg
      exact hw g (by omega)
     have ht := TermsS.comp (S := fun b => NewB u.heap.size (wr.setCell ⟨xb, 3, none⟩ (.slice (some ⟨tb, 0, none⟩) q q)) b ∧ b ≠ rk) (hts.keep (fun b hb => ⟨⟨by have := hb.1; have := HXR.out; omega, hb.2.keep (hw b (by have := hb.1; omega))⟩, by have := hb.1; omega⟩) fun b hb => hw b (by have := hb.1; omega)) hrow' rfl (fun g hg => by
      have e : tb = g := Option.some.inj hg
      rw [← e]
      exact ⟨⟨by have := HXR.out; omega, hrow'.ty rfl⟩, by omega⟩) s HA.out.2.2.2.2.2.2 k n0
     have hrk' := (hw rk hrx).trans HI.out.rk
     obtain ⟨e1, e2, e3⟩ := ren_end (hrn.keep (hw nb (Ne.symm n1)) (hw mb (Ne.symm n2))) (HI.out.fr.setCell (p := ⟨xb, 3, none⟩) (.inr HXR.out.1) _) hrk' HXR.out.2.1 ht
     rw [HP.out]
     refine ⟨⟨_, rfl, ?_, ?_, e3⟩, blk_set4 hrk' rfl _ _ _ _⟩
     ·rw [HA.out.2.2.2.2.2.1]; exact e1
     ·rw [HA.out.2.2.2.2.2.1]; exact e2)
    obtain ⟨WF, hWF⟩ : ∃ WF, WF = (((((wr.setCell ⟨xb, 3, none⟩ (.slice (some ⟨tb, 0, none⟩) q q)).setCell ⟨rk, 0, none⟩ (.int .i64 k)).setCell ⟨rk, 1, none⟩ (.int .i64 n0)).setCell ⟨rk, 2, none⟩ (.string ⟨s.toArray⟩)).setCell ⟨rk, 3, none⟩ (.slice (some ⟨tb, 0, none⟩) q q)) := ⟨_, rfl⟩
    rw [← hWF] at HQ
    have HWF := Lib.hid hWF
    clear hWF hlt
    go_wp2_with fail
    rw [← HWF.out]
    obtain ⟨f0, f1, f2, f3, -⟩ := four_at HQ.out.2
    exact bodyPost_ret (v := tvV ⟨k, n0, s, some ⟨tb, 0, none⟩, q, q⟩) (by simp [results, Tryz.results222, go_sem, f0, f1, f2, f3, tvV]) rfl HQ.out.1
theorem ren_all (nb mb : Nat) : ∀ n, RenC nb mb n
 | 0 => fun t u x m hs _ _ _ _ _ => by
  obtain ⟨k, n, s, l⟩ := t
  simp only [Tm.size] at hs
  omega
 | n + 1 => fun t u x m hsz hx h hm hv hml => by
  by_cases hk : x.k = 1
  ·cases hx with
   | mk _ args xa h1 h2 h3 hc ht =>
    obtain ⟨m1, -, -⟩ := may_leaf hm
    obtain ⟨hs0, rfl⟩ := m1 hk
    have e : Tm.mk x.k x.n x.s [] = .mk 1 x.n [] [] := by rw [hk, hs0]
    rw [e] at hv hml ⊢
    exact ren_var u x hk hs0 h2.symm (hv _ (by rw [vrT, if_pos rfl]; exact List.mem_append_left _ (List.mem_singleton.2 rfl))) h (by simpa [Tm.size, Tm.sizes] using hml)
  ·exact ren_step n (ren_all nb mb n) t u x hsz hk hx h hm hv hml
end
end Go.Proofs.YtjdnigepnfeboaaGreatDoor
