import Derived.Test.YtiffopheamnngaaGreatDoorJT10
namespace Go.Proofs.YtiffopheamnngaaGreatDoor
open Go.RowKit
set_option maxRecDepth 100000
theorem rdat_grown {W W' w9 : World} {rb : Nat} {v : RdV} {ts : List Tok} {s : RdS} {B : Nat} {row : Option Nat} (h : RdAt W rb v ts s B) (hb : Below W.heap.size W W') (hg : W'.grownBy w9 row) (hrow : ∀ k, row = some k → k ≠ rb ∧ B ≤ k) : RdAt w9 rb v ts s B :=
 (h.later hb).keep (hg.block rb (Nat.lt_of_lt_of_le h.blk.lt hb.size) (fun e => (hrow rb e.symm).1 rfl)) fun k hk => hg.block k (by have := h.blk.lt; have := h.base; have := hb.size; omega) fun e => by
   have := (hrow k e.symm).2
   omega
def encB (x : List UInt8 × Int) : List Value := [.string ⟨x.1.toArray⟩, .int .i64 x.2]
theorem encB_one (x : List UInt8 × Int) : ∀ u ∈ encB x, u.oneCell' = true := by
 intro u hu
 simp only [encB, List.mem_cons, List.mem_nil_iff, or_false] at hu
 rcases hu with rfl | rfl <;> rfl
theorem bind_info : ∃ i z, Tryz.prog.info? 54 = some i ∧ i.zero = some z ∧ i.size = 2 ∧ i.bytes = 24 ∧ z.cells.size = 2 := by
 refine ⟨_, _, rfl, rfl, ?_, ?_, ?_⟩ <;> kernel_rfl
abbrev NRow (u : World) (rb : Nat) (nv : Value) (l : List (List UInt8 × Int)) : Prop := Row u (rb + 1) 54 2 encB nv l
theorem vars_grown {W W' w9 : World} {mb : Nat} {l : List (List UInt8 × Int)} {row : Option Nat} (h : VarsAt W mb l) (hb : Below W.heap.size W W') (hg : W'.grownBy w9 row) (hne : row ≠ some mb) : VarsAt w9 mb l :=
 ⟨h.map.keep ((hg.block mb (Nat.lt_of_lt_of_le h.map.lt hb.size) (fun e => hne e.symm)).trans (hb.block _ h.map.lt)), h.ok⟩
theorem fr_grown {S : Nat → Prop} {u W W' w9 : World} {row : Option Nat} (h : Fr S u W) (hb : Below W.heap.size W W') (hg : W'.grownBy w9 row) (hr : ∀ g, row = some g → S g) : Fr S u w9 := (h.step hb).grown hg fun g e => .inl (hr g e)
set_option maxHeartbeats 8000000 in
theorem named_new (u : World) (rb : Nat) (v : RdV) (ts : List Tok) (s : RdS) (B : Nat) (h : RdAt u rb v ts s B) (t : Tok) (hat : s.at' < ts.length) (mb : Nat) (hvb : v.vb = .map (some mb)) (hv : VarsAt u mb s.vars) (hmb : mb ≠ rb) (hmB : B ≤ mb) (hok : okS t.s) (hts : t.s ≠ [95]) (hn : mget s.vars t.s = none) (hc0 : 0 ≤ s.cnt) (hc1 : s.cnt ≤ 1000000) (hnm : NRow u rb v.nv s.names) (hnl : s.names.length ≤ 100000) (hnb : v.nv.ownBlock ≠ some mb) :
    Calls Tryz.prog 28 #[.pointer (some ⟨rb, 0, none⟩), tokW t] u fun e u' => e = .returned (.tuple #[]) ∧ ∃ nv', RdAt u' rb { v with nv := nv', x := ⟨1, s.cnt, [], none, 0, 0⟩ } ts (({ s.go 1 with cnt := s.cnt + 1, vars := s.vars ++ [(t.s, s.cnt)], names := s.names ++ [(t.s, s.cnt)] } : RdS).done (varT s.cnt) 0) B ∧ NRow u' rb nv' (s.names ++ [(t.s, s.cnt)]) ∧ VarsAt u' mb (s.vars ++ [(t.s, s.cnt)]) ∧ Fr (fun k => k = rb ∨ k = mb ∨ v.nv.ownBlock = some k) u u' := by
 have b95 : (t.s == [95]) = false := beq_eq_false_iff_ne.2 hts
 have hwc : IntKind.i64.wrap (s.cnt + 1) = s.cnt + 1 := IntWalk.i64_in _ (by omega)
 have HA := Lib.hid h
 have hf := h.few
 have hlt := h.blk.lt
 have c1 : u.cell? ⟨rb, 1, none⟩ = some (.int .i64 (s.at' : Int)) := h.blk.cell (i := 1) rfl
 have cf := h.blk.free
 have hwr : IntKind.i64.wrap ((s.at' : Int) + 1) = (s.at' : Int) + 1 := IntWalk.i64_in _ (by omega)
 obtain ⟨W, hW⟩ : ∃ W, W = (u.setCell ⟨rb, 1, none⟩ (.int .i64 ((s.at' : Int) + 1))).alloc (.cells #[.int .i64 t.kind, .int .i64 t.line, .int .i64 t.n, .string ⟨t.s.toArray⟩, .bool t.opn, .bool t.tight] 48) := ⟨_, rfl⟩
 have hgo : RdAt W rb v ts (s.go 1) B := by
  rw [hW]
  exact (h.put (v' := v) (s' := s.go 1) 1 _ (by simp [rdCells, RdS.go]) rfl rfl (by show s.at' + 1 ≤ _; omega)).later ((Below.refl _ _).alloc (Nat.le_refl _) _)
 have HG := Lib.hid hgo
 have HF : Hid (Fr (· = rb) u W) := by
  rw [hW]
  exact Lib.hid (((Fr.refl (· = rb) u).setCell (p := ⟨rb, 1, none⟩) (.inl rfl) _).alloc _)
 have hnew : W.heap[u.heap.size]? = some (.cells #[.int .i64 t.kind, .int .i64 t.line, .int .i64 t.n, .string ⟨t.s.toArray⟩, .bool t.opn, .bool t.tight] 48 (0, 0)) := by
  rw [hW]
  have := heap_alloc_new (u.setCell ⟨rb, 1, none⟩ (.int .i64 ((s.at' : Int) + 1))) (.cells #[.int .i64 t.kind, .int .i64 t.line, .int .i64 t.n, .string ⟨t.s.toArray⟩, .bool t.opn, .bool t.tight] 48)
  simpa using this
 obtain ⟨n0, n1, n2, n3, n4, n5, nf⟩ := six_at hnew
 have hvW : VarsAt W mb s.vars := ⟨hv.map.keep (HF.out.block mb hv.map.lt (by omega)), hv.ok⟩
 have hlk := vars_look (u := W.drew) (b := mb) (l := s.vars) ⟨hvW.map.drew, hv.ok⟩ t.s hok
 rw [hn] at hlk
 simp only [Option.getD_none, Option.isSome_none] at hlk
 have hvU : VarsAt (W.setCell ⟨rb, 14, none⟩ (.int .i64 (s.cnt + 1))).drew.drew mb s.vars := ⟨((hvW.map.setCell (p := ⟨rb, 14, none⟩) (by simp; omega) _).drew).drew, hv.ok⟩
 obtain ⟨w9, hup, hV9, hG9, hs9⟩ := vars_put hvU t.s hok s.cnt hn
 have d14 : W.cell? ⟨rb, 14, none⟩ = some (.int .i64 s.cnt) := HG.out.blk.cell (i := 14) rfl
 have df := HG.out.blk.free
 have d9 : W.cell? ⟨rb, 12, none⟩ = some (.map (some mb)) := (HG.out.blk.cell (i := 12) rfl).trans (congrArg some hvb)
 have hW9 : Below W.heap.size W (W.setCell ⟨rb, 14, none⟩ (.int .i64 (s.cnt + 1))).drew.drew → True := fun _ => trivial
 have h14 : RdAt (W.setCell ⟨rb, 14, none⟩ (.int .i64 (s.cnt + 1))).drew.drew rb v ts { s.go 1 with cnt := s.cnt + 1 } B := (HG.out.put (v' := v) (s' := { s.go 1 with cnt := s.cnt + 1 }) 14 (.int .i64 (s.cnt + 1)) (by simp [rdCells, RdS.go]) rfl rfl HG.out.in').later ((Below.refl _ _).drew.drew)
 have h9 := rdat_grown h14 (Below.refl _ _) hG9 (fun k hk => by cases hk; exact ⟨hmb, hmB⟩)
 have H9 := Lib.hid h9
 have hF9 : Fr (fun k => k = rb ∨ k = mb) u w9 := (((HF.out.setCell (p := ⟨rb, 14, none⟩) (.inl rfl) (.int .i64 (s.cnt + 1))).drew.drew.weak fun k hk => .inl hk).grown hG9 fun g hg => .inl (.inr (by cases hg; rfl)))
 have HF9 := Lib.hid hF9
 have hN9 : NRow w9 rb v.nv s.names := Row.keep hnm fun k hk => hF9.block k (hnm.lt k hk).2 fun e => by
  rcases e with e | e
  ·have := (hnm.lt k hk).1; omega
  ·exact hnb (by rw [hk, e])
 obtain ⟨A, cap, hsh⟩ := hnm.shape
 have HN9 := Lib.hid hN9
 have e13 : w9.cell? ⟨rb, 13, none⟩ = some v.nv := h9.blk.cell (i := 13) rfl
 have e9f := h9.blk.free
 have htk : w9.cell? ⟨u.heap.size, 3, none⟩ = some (.string ⟨t.s.toArray⟩) := by
  have hul : u.heap.size < W.heap.size := World.block_lt_of_cell? W _ n0
  rw [World.cell?_of_block (w := (W.setCell ⟨rb, 14, none⟩ (.int .i64 (s.cnt + 1))).drew.drew) (hG9.block _ (by simpa using hul) (by simp; have := hvW.map.lt; have := hv.map.lt; omega))]
  rw [← n3]
  exact World.cell?_of_block (Below.heap_setCell _ _ _ _ (by simp only; omega))
 have hw9l : rb < w9.heap.size := h9.blk.lt
 have HV9 := Lib.hid hV9
 have hnb' : (Value.slice A s.names.length cap).ownBlock ≠ some mb := by rw [← hsh]; exact hnb
 have hno : ∀ g, (Value.slice A s.names.length cap).ownBlock = some g → g = rb ∨ g = mb ∨ v.nv.ownBlock = some g := fun g hg => .inr (.inr (by rw [hsh]; exact hg))
 have HNO := Lib.hid hno
 have HNB := Lib.hid hnb'
 clear h hgo hnew hv hW9 h14 h9 hF9 hN9 hnm hnb' hno
 obtain ⟨i0, z0, hi0, hz0, hz1, hz2, hz3⟩ := bind_info
 unfold tokW
 go_enter Tryz.func28, Tryz.ntmps28
 go_wp2_with fail
 rw [← hW]
 clear hW
 go_region
 go_wp2_with fail
 go_region
 go_wp2_with fail
 clear hup hlk hvU hvW hV9 hG9 hs9
 rw [hsh] at e13
 go_region_law
     ((refine step_append_lies _ (by rfl) _ _ _ (by rfl) (rb + 1) 54 i0 _ 2 24 Tryz.underlying35 hi0 hz0 hz1 hz2 hz3 (by omega) (.slice A s.names.length cap) s.names.length (s.names.flatMap encB) (by rfl) (by rw [← hsh]; exact (Row.later HN9.out (by (repeat (first | exact Below.refl _ _ | refine Below.drew ?_ | refine Below.alloc ?_ (Nat.le_refl _) _)))).own)
         ⟨w9.heap.size, 0, none⟩ 1 1 (encB (t.s, s.cnt)) (by rfl) (by rfl) (World.news_of_block (cs := (encB (t.s, s.cnt)).toArray) (t := 54) (fr := (0, 0)) (by exact heap_alloc_new w9 _)) (encB_one _)
         (by omega) (by unfold maxLen; omega) (by omega) (by simp; omega) (w9.heap.size + 1) (by simp) ?_; intro gg cap2 w10 hown hgrow hat10 hlt10; obtain ⟨hc10, hf10⟩ : w10.cell? ⟨rb, 13, none⟩ = some (.slice A s.names.length cap) ∧ w10.frozen? ⟨rb, 13, none⟩ = false := ⟨((rdat_grown H9.out (by (repeat (first | exact Below.refl _ _ | refine Below.drew ?_ | refine Below.alloc ?_ (Nat.le_refl _) _))) hgrow (fun k hk => by have := HN9.out.lt k (by rw [hsh]; exact hk); have := H9.out.base; exact ⟨by omega, by omega⟩)).blk.cell (i := 13) rfl).trans (congrArg some hsh), (rdat_grown H9.out (by (repeat (first | exact Below.refl _ _ | refine Below.drew ?_ | refine Below.alloc ?_ (Nat.le_refl _) _))) hgrow (fun k hk => by have := HN9.out.lt k (by rw [hsh]; exact hk); have := H9.out.base; exact ⟨by omega, by omega⟩)).blk.free 13⟩))
 all_goals
  go_wp2_with fail
  have g1 := rdat_grown H9.out (by (repeat (first | exact Below.refl _ _ | refine Below.drew ?_ | refine Below.alloc ?_ (Nat.le_refl _) _))) hgrow (fun k hk => by have := HN9.out.lt k (by rw [hsh]; exact hk); have := H9.out.base; exact ⟨by omega, by omega⟩)
  have g2 := g1.put (v' := { v with nv := .slice (some ⟨gg, 0, none⟩) (s.names.length + 1) cap2 }) (s' := { s.go 1 with cnt := s.cnt + 1, vars := s.vars ++ [(t.s, s.cnt)], names := s.names ++ [(t.s, s.cnt)] }) 13 (.slice (some ⟨gg, 0, none⟩) (s.names.length + 1) cap2) (by simp [rdCells, RdS.go]) rfl rfl g1.in'
  have gv := vars_grown HV9.out (by (repeat (first | exact Below.refl _ _ | refine Below.drew ?_ | refine Below.alloc ?_ (Nat.le_refl _) _))) hgrow HNB.out
  have gf := fr_grown (HF9.out.weak fun k hk => hk.elim .inl fun e => .inr (.inl e)) (by (repeat (first | exact Below.refl _ _ | refine Below.drew ?_ | refine Below.alloc ?_ (Nat.le_refl _) _))) hgrow HNO.out
  have GV : Hid (VarsAt (w10.setCell ⟨rb, 13, none⟩ (.slice (some ⟨gg, 0, none⟩) (s.names.length + 1) cap2)) mb (s.vars ++ [(t.s, s.cnt)])) := Lib.hid ⟨gv.map.setCell (p := ⟨rb, 13, none⟩) (by simp only; omega) _, gv.ok⟩
  have GF := Lib.hid (gf.setCell (p := ⟨rb, 13, none⟩) (.inl (.inl rfl)) (.slice (some ⟨gg, 0, none⟩) (s.names.length + 1) cap2))
  clear gv gf
  refine (done_any _ rb _ ts _ B g2 ⟨1, s.cnt, [], none, 0, 0⟩ (varT s.cnt) 0).mono ?_
  rintro e w1 ⟨rfl, r1, r2⟩
  have R1 := Lib.hid r1
  have hr10 : NRow w10 rb (.slice (some ⟨gg, 0, none⟩) (s.names.length + 1) cap2) (s.names ++ [(t.s, s.cnt)]) := ⟨by rw [List.length_append, List.flatMap_append]; simpa using hown⟩
  have hne10 : (Value.slice (some ⟨gg, 0, none⟩) (s.names.length + 1) cap2).ownBlock ≠ some rb := fun e => by have := (hr10.lt rb e).1; omega
  have hr11 := Row.keep hr10 (w' := w10.setCell ⟨rb, 13, none⟩ (.slice (some ⟨gg, 0, none⟩) (s.names.length + 1) cap2)) fun k hk => Below.heap_setCell _ _ _ _ fun e => hne10 (by rw [hk]; exact congrArg some e)
  have RN := Lib.hid (Row.keep hr11 (w' := w1) fun k hk => r2.block k (hr11.lt k hk).2 fun e => hne10 (by rw [hk, e]))
  have RV : Hid (VarsAt w1 mb (s.vars ++ [(t.s, s.cnt)])) := Lib.hid ⟨GV.out.map.keep (r2.block mb GV.out.map.lt (by omega)), GV.out.ok⟩
  have RF := Lib.hid (GF.out.trans (r2.weak fun k hk => .inl hk))
  clear r1 r2 hr10 hr11 hne10
  go_wp2_with fail
  exact bodyPost_end (v := .tuple #[]) (by simp [results, Tryz.results28, go_sem]) rfl ⟨rfl, _, R1.out, RN.out, RV.out, RF.out⟩
open Go.RowKit Go.Maps
def TyB (u : World) (t : TypeId) (b : Nat) : Prop := ∃ cs, u.heap[b]? = some (.cells cs t (0, 0))
theorem TyB.ne {u : World} {t t' : TypeId} {b b' : Nat} (h : TyB u t b) (h' : TyB u t' b') (hn : t ≠ t') : b ≠ b' := by
 rintro rfl
 obtain ⟨c, h⟩ := h
 obtain ⟨c', h'⟩ := h'
 rw [h] at h'
 injection h' with h'
 injection h' with _ h'
 exact hn h'
theorem TyB.keep {u u' : World} {t : TypeId} {b : Nat} (h : TyB u t b) (hb : u'.heap[b]? = u.heap[b]?) : TyB u' t b := by
 obtain ⟨c, h⟩ := h
 exact ⟨c, hb.trans h⟩
theorem TyB.lt {u : World} {t : TypeId} {b : Nat} (h : TyB u t b) : b < u.heap.size := by
 obtain ⟨c, h⟩ := h
 exact (Array.getElem?_eq_some_iff.1 h).1
theorem Row.ty {α : Type} {w : World} {B sz : Nat} {e : TypeId} {enc : α → List Value} {v : Value} {l : List α} (h : Row w B e sz enc v l) {g : Nat} (hg : v.ownBlock = some g) : TyB w e g := by
 rcases h.own.2 with ⟨rfl, _⟩ | ⟨g', cap, cur, rfl, _, hgg, _⟩
 ·cases hg
 ·injection hg with hg
  subst hg
  exact ⟨cur, hgg⟩
theorem MapAt.ne {κ ν : Type} {u : World} {b b' : Nat} {ek : κ → Value} {ev : ν → Value} {l : List (κ × ν)} {t : TypeId} (h : MapAt u b ek ev l) (h' : TyB u t b') : b ≠ b' := by
 rintro rfl
 obtain ⟨es, clock, h1, _⟩ := h.blk
 obtain ⟨c, h2⟩ := h'
 rw [h1] at h2
 cases h2
def obF (f : FrV) : Option Nat := (Value.slice f.A f.len f.cap).ownBlock
def opL (fl : List FrV) : List Nat := fl.filterMap obF
theorem opL_app (a b : List FrV) : opL (a ++ b) = opL a ++ opL b := List.filterMap_append
theorem opL_mem {fl : List FrV} {f : FrV} {k : Nat} (hf : f ∈ fl) (hk : obF f = some k) : k ∈ opL fl := List.mem_filterMap.2 ⟨f, hf, hk⟩
def SOf (u : World) (L : List Nat) (b : Nat) : Prop := TyB u 34 b ∧ b ∉ L
theorem SOf.step {W : Nat → Prop} {u u' : World} {L L' : List Nat} (hF : Fr W u u') (hW : ∀ b, W b → ¬ SOf u L b) (hL : ∀ b ∈ L', b ∈ L ∨ u.heap.size ≤ b) (b : Nat) (h : SOf u L b) : SOf u' L' b ∧ u'.heap[b]? = u.heap[b]? := by
 have hk := hF.block b h.1.lt fun e => hW b e h
 refine ⟨⟨h.1.keep hk, fun e => ?_⟩, hk⟩
 rcases hL b e with e | e
 ·exact h.2 e
 ·have := h.1.lt; omega
theorem TermS.step {u u' : World} {S S' : Nat → Prop} {x : TV} {t : Tm} (h : TermS u S x t) (hs : ∀ b, S b → S' b ∧ u'.heap[b]? = u.heap[b]?) : TermS u' S' x t := h.keep (fun b hb => (hs b hb).1) fun b hb => (hs b hb).2
theorem TermsS.step {u u' : World} {S S' : Nat → Prop} {x : List TV} {t : List Tm} (h : TermsS u S x t) (hs : ∀ b, S b → S' b ∧ u'.heap[b]? = u.heap[b]?) : TermsS u' S' x t := h.keep (fun b hb => (hs b hb).1) fun b hb => (hs b hb).2
structure TieF (u : World) (rb : Nat) (S : Nat → Prop) (f : FrV) (w : WaitF) : Prop where
 use : f.use = w.use
 most : f.most = w.most
 name : f.name = w.name
 pri : f.pri = w.pri
 short : w.name.length ≤ maxLen
 row : ∃ xs, Row u (rb + 1) 34 4 encTV (.slice f.A f.len f.cap) xs ∧ TermsS u S xs w.l
inductive Ties (u : World) (rb : Nat) (S : Nat → Prop) : List FrV → List WaitF → Prop
 | nil : Ties u rb S [] []
 | cons {f : FrV} {w : WaitF} {fs : List FrV} {ws : List WaitF} (h : TieF u rb S f w) (hr : Ties u rb S fs ws) : Ties u rb S (f :: fs) (w :: ws)
theorem TieF.step {u u' : World} {rb : Nat} {S S' : Nat → Prop} {f : FrV} {w : WaitF} (h : TieF u rb S f w) (hf : ∀ k, obF f = some k → u'.heap[k]? = u.heap[k]?) (hs : ∀ b, S b → S' b ∧ u'.heap[b]? = u.heap[b]?) : TieF u' rb S' f w := by
 obtain ⟨xs, h1, h2⟩ := h.row
 exact ⟨h.use, h.most, h.name, h.pri, h.short, xs, h1.keep hf, h2.step hs⟩
theorem Ties.step {u u' : World} {rb : Nat} {S S' : Nat → Prop} {fs : List FrV} {ws : List WaitF} (h : Ties u rb S fs ws) (hf : ∀ f ∈ fs, ∀ k, obF f = some k → u'.heap[k]? = u.heap[k]?) (hs : ∀ b, S b → S' b ∧ u'.heap[b]? = u.heap[b]?) : Ties u' rb S' fs ws := by
 induction h with
 | nil => exact .nil
 | cons h1 _ ih => exact .cons (h1.step (hf _ (by simp)) hs) (ih fun f h => hf f (by simp [h]))
theorem Ties.ty {u : World} {rb : Nat} {S : Nat → Prop} {fs : List FrV} {ws : List WaitF} (h : Ties u rb S fs ws) : ∀ f ∈ fs, ∀ k, obF f = some k → TyB u 34 k ∧ rb < k := by
 induction h with
 | nil => intro f h; cases h
 | cons h1 _ ih =>
  intro f hf k hk
  rcases List.mem_cons.1 hf with rfl | hf
  ·obtain ⟨xs, h2, _⟩ := h1.row
   exact ⟨h2.ty hk, (h2.lt k hk).1⟩
  ·exact ih f hf k hk
theorem Ties.len {u : World} {rb : Nat} {S : Nat → Prop} {fs : List FrV} {ws : List WaitF} (h : Ties u rb S fs ws) : fs.length = ws.length := by
 induction h with
 | nil => rfl
 | cons _ _ ih => simp [ih]
structure RdE where
 rb : Nat
 B : Nat
 ts : List Tok
 bt : Nat
 bm : Nat
 es : List (OpK × OpV)
 bb : Nat
 mb : Nat
 fix : List (Nat × Array Value × TypeId)
def opsOf (es : List (OpK × OpV)) : OpsF := ⟨fun n => ((tsides es 1 n).1, (tsides es 1 n).2.2), fun n => tsides es 2 n, fun n => ((tsides es 3 n).1, (tsides es 3 n).2.1)⟩
def okI (n : Int) : Prop := -9223372036854775808 ≤ n ∧ n ≤ 9223372036854775807
theorem intKE : KE Tryz.prog 3 evI okI :=
 ⟨int_keyed Tryz.underlying3, fun _ hk => ⟨_, keyOf_int_mk Tryz.underlying3 (int_wf hk.1 hk.2)⟩, fun a b h => by simpa [evI] using h⟩
def begL : List (Int × Nat) := [(3, 27), (4, 28), (5, 29), (6, 30), (1, 31), (2, 31)]
def evF (rb : Nat) (n : Nat) : Value := .func (.func n) #[.pointer (some ⟨rb, 0, none⟩)] #[]
theorem begL_ok : ∀ x ∈ begL, okI x.1 := by
 intro x hx
 simp only [begL, List.mem_cons, List.mem_nil_iff, or_false] at hx
 unfold okI
 rcases hx with rfl | rfl | rfl | rfl | rfl | rfl <;> (simp only; omega)
theorem beg_look {u : World} {b rb : Nat} (h : MapAt u b evI (evF rb) begL) (k : Int) (hk : okI k) :
    (Instr.lookup 69 (.map (some b)) (.int .i64 k) true).run Tryz.prog u = .ok (.tuple #[((mget begL k).map (evF rb)).getD .nilFunc, .bool (mget begL k).isSome]) u := by
 have := h.lookup (t := 69) intKE Tryz.underlying69 (z := .nilFunc) (fun u => by kernel_rfl) begL_ok (k := k) hk true
 simp only [if_true] at this
 exact this
def opE (E : RdE) (fl : List FrV) : List Nat := opL fl ++ E.fix.map (·.1)
structure RdInv (E : RdE) (u : World) (v : RdV) (s : RdS) (fl : List FrV) : Prop where
 r : RdAt u E.rb v E.ts s E.B
 row : WRow u E.rb v.wv fl
 vb : v.vb = .map (some E.mb)
 ob : v.ob = .pointer (some ⟨E.bt, 0, none⟩)
 bv : v.bv = .map (some E.bb)
 mbr : E.mb ≠ E.rb
 Bmb : E.B ≤ E.mb
 rbb : E.rb < E.bb
 mbb : E.mb ≠ E.bb
 vars : VarsAt u E.mb s.vars
 beg : MapAt u E.bb evI (evF E.rb) begL
 nm : NRow u E.rb v.nv s.names
 tab : TabAt u E.bt E.bm E.es
 kinds : KindsAt u
 btr : E.bt < E.B
 bmr : E.bm < E.B
 kr : 0 < E.B
 tie : Ties u E.rb (SOf u (opE E fl)) fl.reverse s.wait
 x : TermS u (SOf u (opE E fl)) v.x s.t
 fix : ∀ p ∈ E.fix, u.heap[p.1]? = some (.cells p.2.1 p.2.2 (0, 0)) ∧ p.1 ∉ opL fl ∧ p.2.2 ≠ 72 ∧ p.2.2 ≠ 120 ∧ p.2.2 ≠ 54
 nd : (opL fl).Nodup
 short : ∀ t ∈ E.ts, t.s.length ≤ 1000000
 num : ∀ t ∈ E.ts, (-9223372036854775808 ≤ t.n ∧ t.n ≤ 9223372036854775807) ∧ okI t.kind
 left : leftF E.ts s ≤ 60001
 ll : ∀ w ∈ s.wait, w.l.length + leftF E.ts s ≤ 60002
 c0 : 0 ≤ s.cnt
 cn : s.cnt + (leftF E.ts s : Int) ≤ 60001
 nn : s.names.length + leftF E.ts s ≤ 60001
section
variable {E : RdE} {u u' : World} {v : RdV} {s : RdS} {fl : List FrV}
theorem RdInv.rty (h : RdInv E u v s fl) : TyB u 72 E.rb := ⟨_, h.r.blk⟩
theorem RdInv.open_ty (h : RdInv E u v s fl) {k : Nat} (hk : k ∈ opL fl) : TyB u 34 k ∧ E.rb < k := by
 obtain ⟨f, hf, hk⟩ := List.mem_filterMap.1 hk
 exact h.tie.ty f (by simpa using hf) k hk
theorem RdInv.waits (h : RdInv E u v s fl) : fl.length ≤ 60001 := by
 have h1 := h.tie.len
 have h2 := h.left
 unfold leftF at h2
 rw [List.length_reverse] at h1
 omega
def WSet (E : RdE) (v : RdV) (L : List Nat) (k : Nat) : Prop := k = E.rb ∨ v.wv.ownBlock = some k ∨ v.nv.ownBlock = some k ∨ k = E.mb ∨ k ∈ L
theorem RdInv.wset (h : RdInv E u v s fl) {L : List Nat} (hL : ∀ k ∈ L, k ∈ opL fl) (b : Nat) (hb : WSet E v L b) : ¬ SOf u (opE E fl) b := by
 rintro ⟨h1, h2⟩
 rcases hb with rfl | hb | hb | rfl | hb
 ·exact h1.ne h.rty (by decide) rfl
 ·exact h1.ne (h.row.ty hb) (by decide) rfl
 ·exact h1.ne (h.nm.ty hb) (by decide) rfl
 ·exact h.vars.map.ne h1 rfl
 ·exact h2 (List.mem_append_left _ (hL b hb))
theorem RdInv.old (h : RdInv E u v s fl) {L : List Nat} (hL : ∀ k ∈ L, k ∈ opL fl) (b : Nat) (hb : b < E.B) : ¬ WSet E v L b := by
 have hB := h.r.base
 rintro (rfl | hw | hw | rfl | hw)
 ·omega
 ·have := (h.row.lt b hw).1; omega
 ·have := (h.nm.lt b hw).1; omega
 ·have := h.Bmb; omega
 ·have := (h.open_ty (hL b hw)).2; omega
structure BelE (E : RdE) (u u' : World) : Prop where
 b : Below E.B u u'
 fix : ∀ p ∈ E.fix, u'.heap[p.1]? = u.heap[p.1]?
theorem BelE.trans {w : World} (h : BelE E u u') (k : BelE E u' w) : BelE E u w := ⟨h.b.trans k.b, fun p hp => (k.fix p hp).trans (h.fix p hp)⟩
theorem RdInv.fixW (h : RdInv E u v s fl) {L : List Nat} (hL : ∀ k ∈ L, k ∈ opL fl) (p : Nat × Array Value × TypeId) (hp : p ∈ E.fix) : p.1 < u.heap.size ∧ ¬ WSet E v L p.1 := by
 obtain ⟨h1, h2, h3, h4, h5⟩ := h.fix p hp
 have ht : TyB u p.2.2 p.1 := ⟨_, h1⟩
 refine ⟨ht.lt, ?_⟩
 rintro (e | e | e | e | e)
 ·exact ht.ne h.rty h3 e
 ·exact ht.ne (h.row.ty e) h4 rfl
 ·exact ht.ne (h.nm.ty e) h5 rfl
 ·exact h.vars.map.ne ht e.symm
 ·exact h2 (hL _ e)
theorem RdInv.below (h : RdInv E u v s fl) {L : List Nat} (hL : ∀ k ∈ L, k ∈ opL fl) (hF : Fr (WSet E v L) u u') : BelE E u u' :=
 ⟨hF.below (Nat.le_trans h.r.base (Nat.le_of_lt h.r.blk.lt)) fun k hk => h.old hL k hk, fun p hp => hF.block p.1 (h.fixW hL p hp).1 (h.fixW hL p hp).2⟩
theorem RdInv.step (h : RdInv E u v s fl) {L : List Nat} (hL : ∀ k ∈ L, k ∈ opL fl) (hF : Fr (WSet E v L) u u') {v' : RdV} {s' : RdS} {fl' : List FrV} (r : RdAt u' E.rb v' E.ts s' E.B) (row : WRow u' E.rb v'.wv fl')
    (evb : v'.vb = v.vb) (eob : v'.ob = v.ob) (ebv : v'.bv = v.bv) (vars : VarsAt u' E.mb s'.vars) (nm : NRow u' E.rb v'.nv s'.names)
    (hl : ∀ b ∈ opL fl', b ∈ opL fl ∨ u.heap.size ≤ b) (tie : Ties u' E.rb (SOf u' (opE E fl')) fl'.reverse s'.wait) (x : TermS u' (SOf u' (opE E fl')) v'.x s'.t) (nd : (opL fl').Nodup)
    (hless : leftF E.ts s' < leftF E.ts s) (ll : ∀ w ∈ s'.wait, (∃ w0 ∈ s.wait, w.l.length ≤ w0.l.length + 1) ∨ w.l.length ≤ 1)
    (hc : s'.cnt = s.cnt ∨ s'.cnt = s.cnt + 1) (hn : s'.names.length ≤ s.names.length + 1) : RdInv E u' v' s' fl' where
 r := r
 row := row
 vb := evb.trans h.vb
 ob := eob.trans h.ob
 bv := ebv.trans h.bv
 mbr := h.mbr
 Bmb := h.Bmb
 rbb := h.rbb
 mbb := h.mbb
 vars := vars
 beg := h.beg.keep (hF.block E.bb h.beg.lt (by
  rintro (e | e | e | e | e)
  ·have := h.rbb; omega
  ·exact h.beg.ne (h.row.ty e) rfl
  ·exact h.beg.ne (h.nm.ty e) rfl
  ·exact h.mbb e.symm
  ·exact h.beg.ne (h.open_ty (hL _ e)).1 rfl))
 nm := nm
 tab := h.tab.below (h.below hL hF).b h.btr h.bmr
 kinds := h.kinds.below (h.below hL hF).b h.kr
 btr := h.btr
 bmr := h.bmr
 kr := h.kr
 tie := tie
 x := x
 nd := nd
 fix := fun p hp => by
  obtain ⟨h1, h2, h3, h4, h5⟩ := h.fix p hp
  obtain ⟨k1, k2⟩ := h.fixW hL p hp
  refine ⟨(hF.block p.1 k1 k2).trans h1, fun e => ?_, h3, h4, h5⟩
  ·rcases hl _ e with e | e
   ·exact h2 e
   ·omega
 short := h.short
 num := h.num
 left := by have := h.left; omega
 ll := fun w hw => by
  rcases ll w hw with ⟨w0, h0, h1⟩ | h1
  ·have := h.ll w0 h0; omega
  ·have := h.left; omega
 c0 := by have := h.c0; omega
 cn := by have := h.cn; omega
 nn := by have := h.nn; omega
theorem RdInv.keepS (h : RdInv E u v s fl) {L : List Nat} (hL : ∀ k ∈ L, k ∈ opL fl) (hF : Fr (WSet E v L) u u') {fl' : List FrV} (hl : ∀ b ∈ opL fl', b ∈ opL fl ∨ u.heap.size ≤ b) :
    ∀ b, SOf u (opE E fl) b → SOf u' (opE E fl') b ∧ u'.heap[b]? = u.heap[b]? := SOf.step hF (h.wset hL) fun b hb => by
 rcases List.mem_append.1 hb with hb | hb
 ·exact (hl b hb).imp (fun e => List.mem_append_left _ e) id
 ·exact .inl (List.mem_append_right _ hb)
theorem RdInv.keepV (h : RdInv E u v s fl) (hF : Fr (fun k => k = E.rb ∨ v.wv.ownBlock = some k) u u') : VarsAt u' E.mb s.vars := ⟨h.vars.map.keep (hF.block E.mb h.vars.map.lt (by
    rintro (e | e)
    ·exact h.mbr e
    ·exact h.vars.map.ne (h.row.ty e) rfl)), h.vars.ok⟩
theorem RdInv.keepN (h : RdInv E u v s fl) (hF : Fr (fun k => k = E.rb ∨ v.wv.ownBlock = some k) u u') : NRow u' E.rb v.nv s.names := Row.keep h.nm fun k hk => hF.block k (h.nm.lt k hk).2 (by
    rintro (e | e)
    ·have := (h.nm.lt k hk).1; omega
    ·exact (h.nm.ty hk).ne (h.row.ty e) (by decide) rfl)
theorem fr_w {L : List Nat} (hF : Fr (fun k => k = E.rb ∨ v.wv.ownBlock = some k) u u') : Fr (WSet E v L) u u' := hF.weak fun _ hk => hk.elim .inl fun e => .inr (.inl e)
theorem RdInv.keepT (h : RdInv E u v s fl) (hF : Fr (fun k => k = E.rb ∨ v.wv.ownBlock = some k) u u') {fl' : List FrV} (hl : ∀ b ∈ opL fl', b ∈ opL fl ∨ u.heap.size ≤ b) : Ties u' E.rb (SOf u' (opE E fl')) fl.reverse s.wait :=
 h.tie.step (fun f hf k hk => by
  obtain ⟨h1, h2⟩ := h.tie.ty f hf k hk
  refine hF.block k h1.lt ?_
  rintro (e | e)
  ·omega
  ·exact h1.ne (h.row.ty e) (by decide) rfl) (h.keepS (L := []) (fun _ hk => by cases hk) (fr_w hF) hl)
end
def RdOut (E : RdE) (u u' : World) (r : Except Nat RdS) (e : Ending) : Prop :=
 BelE E u u' ∧ match r with
  | .error a => e = gaveUp ∧ ∃ s' v', s'.at' = a ∧ RdAt u' E.rb v' E.ts s' E.B
  | .ok s' => e = .returned (.tuple #[]) ∧ ∃ v' fl', RdInv E u' v' s' fl'
section
variable {E : RdE} {u u' : World} {v : RdV} {s : RdS} {fl : List FrV}
theorem opL_frOf (fl : List FrV) (w : WaitF) : opL (fl ++ [frOf w]) = opL fl := by
 rw [opL_app]
 show opL fl ++ [] = opL fl
 simp
theorem RdInv.prim (h : RdInv E u v s fl) {r : Except Nat RdS} {e : Ending} (hF : Fr (fun k => k = E.rb ∨ v.wv.ownBlock = some k) u u') (ho : PrimOut u' E.rb v E.ts s E.B fl r e)
    (hr : ∀ s', r = .ok s' → s'.vars = s.vars ∧ s'.names = s.names ∧ s'.cnt = s.cnt ∧ leftF E.ts s' < leftF E.ts s ∧ (∀ w, s'.wait = w :: s.wait → w.name.length ≤ maxLen) ∧ (s'.wait = s.wait → s'.t.s.length ≤ maxLen)) : RdOut E u u' r e := by
 have hnil : ∀ k ∈ ([] : List Nat), k ∈ opL fl := fun k hk => by cases hk
 refine ⟨h.below hnil (fr_w hF), ?_⟩
 cases r with
 | error a =>
  obtain ⟨h1, s', h2, h3⟩ := ho
  exact ⟨h1, s', v, h2, h3⟩
 | ok s' =>
  obtain ⟨h1, v', h2, hc, hob, hbv, hvb, hnv, _, _, h3⟩ := ho
  obtain ⟨q1, q2, q3, q4, q5, q6⟩ := hr s' rfl
  refine ⟨h1, v', ?_⟩
  rcases h3 with ⟨ex, et, w, ew, el, hrow⟩ | ⟨ewv, ew, hrow, k, n, y, ex, et⟩
  ·have hl : ∀ b ∈ opL (fl ++ [frOf w]), b ∈ opL fl ∨ u.heap.size ≤ b := fun b hb => .inl (by rw [opL_frOf] at hb; exact hb)
   refine ⟨fl ++ [frOf w], h.step hnil (fr_w hF) h2 hrow hvb hob hbv (by rw [q1]; exact h.keepV hF) (by rw [hnv, q2]; exact h.keepN hF) hl ?_ ?_ (by rw [opL_frOf]; exact h.nd) q4 ?_ (.inl q3) (by rw [q2]; omega)⟩
   ·rw [List.reverse_append, ew]
    exact .cons ⟨rfl, rfl, rfl, rfl, q5 w ew, [], Row.nil _ _ _ _ _, by rw [el]; exact TermsS.nil _ _⟩ (h.keepT hF hl)
   ·rw [ex, et]
    exact h.x.step (h.keepS hnil (fr_w hF) hl)
   ·intro w' hw'
    rw [ew] at hw'
    rcases List.mem_cons.1 hw' with rfl | hw'
    ·right; rw [el]; simp
    ·exact .inl ⟨w', hw', by omega⟩
  ·have hl : ∀ b ∈ opL fl, b ∈ opL fl ∨ u.heap.size ≤ b := fun b hb => .inl hb
   refine ⟨fl, h.step hnil (fr_w hF) h2 hrow hvb hob hbv (by rw [q1]; exact h.keepV hF) (by rw [hnv, q2]; exact h.keepN hF) hl (by rw [ew]; exact h.keepT hF hl) ?_ h.nd q4 (fun w' hw' => .inl ⟨w', by rw [← ew]; exact hw', by omega⟩) (.inl q3) (by rw [q2]; omega)⟩
   rw [ex, et]
   exact .leaf _ _ _ _ _ _ _ (by have := q6 ew; rw [et] at this; exact this)
end
end Go.Proofs.YtiffopheamnngaaGreatDoor
namespace Go.Proofs.YtiffopheamnngaaGreatDoor
structure PlainOut (s s' : RdS) : Prop where
 vars : s'.vars = s.vars
 names : s'.names = s.names
 cnt : s'.cnt = s.cnt
 wait : ∀ w, s'.wait = w :: s.wait → w.name.length ≤ maxLen
 t : s'.wait = s.wait → s'.t.s.length ≤ maxLen
theorem list_ne {α : Type} (x : α) (l : List α) : l ≠ x :: l := fun h => by
 have := congrArg List.length h
 simp at this
theorem plain_await (s : RdS) (k : Nat) (u : Int) (nm : List UInt8) (p m : Int) (hn : nm.length ≤ maxLen) : PlainOut s ((s.go k).await ⟨u, 0, nm, p, []⟩ m) :=
 ⟨rfl, rfl, rfl, fun w hw => by
  have h : WaitF.mk u s.most nm p [] :: s.wait = w :: s.wait := hw
  injection h with h
  subst h
  exact hn, fun hw => absurd hw.symm (list_ne _ _)⟩
theorem plain_done (s : RdS) (k : Nat) (t : Tm) (p : Int) (hn : t.s.length ≤ maxLen) : PlainOut s ((s.go k).done t p) :=
 ⟨rfl, rfl, rfl, fun _ hw => absurd hw (list_ne _ _), fun _ => hn⟩
theorem peek_short {ts : List Tok} (hs : ∀ t ∈ ts, t.s.length ≤ 1000000) (i : Nat) : (peekF ts i).s.length ≤ 1000000 := by
 unfold peekF
 rw [List.getD_eq_getElem?_getD]
 cases h : ts[i]? with
 | none => simp [noTok]
 | some t => exact hs t (List.mem_of_getElem? h)
theorem go_go (s : RdS) (a b : Nat) : (s.go a).go b = s.go (a + b) := by simp [RdS.go, Nat.add_assoc]
theorem short_max {n : Nat} (h : n ≤ 1000000) : n + 1 ≤ maxLen := by unfold maxLen; omega
theorem args_plain {ts : List Tok} {s s' : RdS} {k : Nat} {nm : List UInt8} (hn : nm.length ≤ maxLen) (h : argsF ts (s.go k) nm = .ok s') : PlainOut s s' := by
 obtain ⟨rfl, _⟩ := args_ok h
 rw [go_go]
 exact plain_await s _ _ _ _ _ hn
theorem pair_plain {ts : List Tok} {s s' : RdS} {c : UInt8} (hs : ∀ t ∈ ts, t.s.length ≤ 1000000) (h : pairF ts s c = .ok s') : PlainOut s s' := by
 have hn : ((peekF ts s.at').s ++ [c]).length ≤ maxLen := by
  rw [List.length_append]
  exact short_max (peek_short hs _)
 unfold pairF at h
 dsimp only at h
 split at h
 ·exact args_plain hn h
 ·injection h with h
  subst h
  exact plain_done s _ _ _ hn
theorem punct_plain {ts : List Tok} {s s' : RdS} {x : List UInt8} (hs : ∀ t ∈ ts, t.s.length ≤ 1000000) (h : punctF ts s x = .ok s') : PlainOut s s' := by
 have h0 : ([] : List UInt8).length ≤ maxLen := Nat.zero_le _
 unfold punctF at h
 split at h
 ·injection h with h
  subst h
  exact plain_await s _ _ _ _ _ h0
 ·split at h
  ·split at h
   ·exact pair_plain hs h
   ·injection h with h
    subst h
    exact plain_await s _ _ _ _ _ h0
  ·split at h
   ·split at h
    ·exact pair_plain hs h
    ·injection h with h
     subst h
     exact plain_await s _ _ _ _ _ h0
   ·cases h
theorem atom_plain {o : OpsF} {ts : List Tok} {s s' : RdS} {t : Tok} (ht : t.s.length ≤ 1000000) (h : atomF o ts s t = .ok s') : PlainOut s s' := by
 have hn : t.s.length ≤ maxLen := Nat.le_of_succ_le (short_max ht)
 unfold atomF at h
 dsimp only at h
 split at h
 ·injection h with h
  subst h
  exact plain_done s _ _ _ (Nat.zero_le _)
 ·split at h
  ·exact args_plain hn h
  ·split at h
   ·injection h with h
    subst h
    exact plain_await s _ _ _ _ _ hn
   ·injection h with h
    subst h
    exact plain_done s _ _ _ hn
end Go.Proofs.YtiffopheamnngaaGreatDoor
