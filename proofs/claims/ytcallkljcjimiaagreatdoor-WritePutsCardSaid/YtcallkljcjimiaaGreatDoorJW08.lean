import Derived.Test.YtcallkljcjimiaaGreatDoorJW07
namespace Go.Proofs.YtcallkljcjimiaaGreatDoor
open Go.RowKit
set_option maxRecDepth 100000
set_option maxHeartbeats 8000000 in
theorem named_known (u : World) (rb : Nat) (v : RdV) (ts : List Tok) (s : RdS) (B : Nat) (h : RdAt u rb v ts s B) (t : Tok) (hat : s.at' < ts.length) (mb : Nat) (hvb : v.vb = .map (some mb)) (hv : VarsAt u mb s.vars) (hmb : mb ≠ rb) (hok : okS t.s) (n : Int) (hn : mget s.vars t.s = some n) :
    Calls Tryz.prog 50 #[.pointer (some ⟨rb, 0, none⟩), tokW t] u fun e u' => e = .returned (.tuple #[]) ∧ RdAt u' rb { v with x := ⟨1, n, [], none, 0, 0⟩ } ts ((s.go 1).done (varT n) 0) B ∧ Fr (· = rb) u u' := by
 have HA := Lib.hid h
 have hf := h.few
 have hlt := h.blk.lt
 have c1 : u.cell? ⟨rb, 1, none⟩ = some (.int .i64 (s.at' : Int)) := h.blk.cell (i := 1) rfl
 have cf := h.blk.free
 have hwr : IntKind.i64.wrap ((s.at' : Int) + 1) = (s.at' : Int) + 1 := IntWalk.i64_in _ (by omega)
 obtain ⟨W, hW⟩ : ∃ W, W = (u.setCell ⟨rb, 1, none⟩ (.int .i64 ((s.at' : Int) + 1))).alloc (.cells #[.int .i64 t.kind, .int .i64 t.line, .int .i64 t.n, .string ⟨t.s.toArray⟩, .bool t.opn, .bool t.tight] 107) := ⟨_, rfl⟩
 have hgo : RdAt W rb v ts (s.go 1) B := by
  rw [hW]
  exact (h.put (v' := v) (s' := s.go 1) 1 _ (by simp [rdCells, RdS.go]) rfl rfl (by show s.at' + 1 ≤ _; omega)).later ((Below.refl _ _).alloc (Nat.le_refl _) _)
 have HG := Lib.hid hgo
 have HF : Hid (Fr (· = rb) u W) := by
  rw [hW]
  exact Lib.hid (((Fr.refl (· = rb) u).setCell (p := ⟨rb, 1, none⟩) (.inl rfl) _).alloc _)
 have hnew : W.heap[u.heap.size]? = some (.cells #[.int .i64 t.kind, .int .i64 t.line, .int .i64 t.n, .string ⟨t.s.toArray⟩, .bool t.opn, .bool t.tight] 107 (0, 0)) := by
  rw [hW]
  have := heap_alloc_new (u.setCell ⟨rb, 1, none⟩ (.int .i64 ((s.at' : Int) + 1))) (.cells #[.int .i64 t.kind, .int .i64 t.line, .int .i64 t.n, .string ⟨t.s.toArray⟩, .bool t.opn, .bool t.tight] 107)
  simpa using this
 obtain ⟨n0, n1, n2, n3, n4, n5, nf⟩ := six_at hnew
 have hlk := vars_look (u := W.drew) (b := mb) (l := s.vars) ⟨(hv.map.keep (w' := W) (HF.out.block mb hv.map.lt hmb)).drew, hv.ok⟩ t.s hok
 rw [hn] at hlk
 simp only [Option.getD_some, Option.isSome_some] at hlk
 have d9 : W.cell? ⟨rb, 12, none⟩ = some (.map (some mb)) := (HG.out.blk.cell (i := 12) rfl).trans (congrArg some hvb)
 clear h hgo hnew hv
 unfold tokW
 go_enter Tryz.func50, Tryz.ntmps50
 go_wp2_with fail
 rw [← hW]
 clear hW
 go_region
 go_wp2_with fail
 refine (done_any _ rb v ts _ B (HG.out.later (Below.refl _ _).drew) ⟨1, n, [], none, 0, 0⟩ (varT n) 0).mono ?_
 rintro e w1 ⟨rfl, r1, r2⟩
 have R1 := Lib.hid r1
 have R2 := Lib.hid (HF.out.drew.trans r2)
 clear r1 r2
 go_wp2_with fail
 exact bodyPost_end (v := .tuple #[]) (by simp [results, Tryz.results50, go_sem]) rfl ⟨rfl, R1.out, R2.out⟩
set_option maxHeartbeats 8000000 in
theorem named_blank (u : World) (rb : Nat) (v : RdV) (ts : List Tok) (s : RdS) (B : Nat) (h : RdAt u rb v ts s B) (t : Tok) (hat : s.at' < ts.length) (mb : Nat) (hvb : v.vb = .map (some mb)) (hv : VarsAt u mb s.vars) (hmb : mb ≠ rb) (hts : t.s = [95]) (hn : mget s.vars t.s = none) (hc0 : 0 ≤ s.cnt) (hc1 : s.cnt ≤ 1000000) :
    Calls Tryz.prog 50 #[.pointer (some ⟨rb, 0, none⟩), tokW t] u fun e u' => e = .returned (.tuple #[]) ∧ RdAt u' rb { v with x := ⟨1, s.cnt, [], none, 0, 0⟩ } ts (({ s.go 1 with cnt := s.cnt + 1 } : RdS).done (varT s.cnt) 0) B ∧ Fr (· = rb) u u' := by
 have hok : okS t.s := by unfold okS; rw [hts]; simp
 have hwc : IntKind.i64.wrap (s.cnt + 1) = s.cnt + 1 := IntWalk.i64_in _ (by omega)
 have HA := Lib.hid h
 have hf := h.few
 have hlt := h.blk.lt
 have c1 : u.cell? ⟨rb, 1, none⟩ = some (.int .i64 (s.at' : Int)) := h.blk.cell (i := 1) rfl
 have cf := h.blk.free
 have hwr : IntKind.i64.wrap ((s.at' : Int) + 1) = (s.at' : Int) + 1 := IntWalk.i64_in _ (by omega)
 obtain ⟨W, hW⟩ : ∃ W, W = (u.setCell ⟨rb, 1, none⟩ (.int .i64 ((s.at' : Int) + 1))).alloc (.cells #[.int .i64 t.kind, .int .i64 t.line, .int .i64 t.n, .string ⟨t.s.toArray⟩, .bool t.opn, .bool t.tight] 107) := ⟨_, rfl⟩
 have hgo : RdAt W rb v ts (s.go 1) B := by
  rw [hW]
  exact (h.put (v' := v) (s' := s.go 1) 1 _ (by simp [rdCells, RdS.go]) rfl rfl (by show s.at' + 1 ≤ _; omega)).later ((Below.refl _ _).alloc (Nat.le_refl _) _)
 have HG := Lib.hid hgo
 have HF : Hid (Fr (· = rb) u W) := by
  rw [hW]
  exact Lib.hid (((Fr.refl (· = rb) u).setCell (p := ⟨rb, 1, none⟩) (.inl rfl) _).alloc _)
 have hnew : W.heap[u.heap.size]? = some (.cells #[.int .i64 t.kind, .int .i64 t.line, .int .i64 t.n, .string ⟨t.s.toArray⟩, .bool t.opn, .bool t.tight] 107 (0, 0)) := by
  rw [hW]
  have := heap_alloc_new (u.setCell ⟨rb, 1, none⟩ (.int .i64 ((s.at' : Int) + 1))) (.cells #[.int .i64 t.kind, .int .i64 t.line, .int .i64 t.n, .string ⟨t.s.toArray⟩, .bool t.opn, .bool t.tight] 107)
  simpa using this
 obtain ⟨n0, n1, n2, n3, n4, n5, nf⟩ := six_at hnew
 have hlk := vars_look (u := W.drew) (b := mb) (l := s.vars) ⟨(hv.map.keep (w' := W) (HF.out.block mb hv.map.lt hmb)).drew, hv.ok⟩ t.s hok
 rw [hn] at hlk
 simp only [Option.getD_none, Option.isSome_none] at hlk
 have d14 : W.cell? ⟨rb, 14, none⟩ = some (.int .i64 s.cnt) := HG.out.blk.cell (i := 14) rfl
 have df := HG.out.blk.free
 have d9 : W.cell? ⟨rb, 12, none⟩ = some (.map (some mb)) := (HG.out.blk.cell (i := 12) rfl).trans (congrArg some hvb)
 have n3' := n3
 rw [hts] at hlk n3
 clear h hgo hnew hv n3'
 unfold tokW
 rw [hts] at hW
 rw [hts]
 go_enter Tryz.func50, Tryz.ntmps50
 go_wp2_with fail
 rw [← hW]
 clear hW
 go_region
 go_wp2_with fail
 have h2 : RdAt (W.setCell ⟨rb, 14, none⟩ (.int .i64 (s.cnt + 1))).drew rb v ts { s.go 1 with cnt := s.cnt + 1 } B := (HG.out.put (v' := v) (s' := { s.go 1 with cnt := s.cnt + 1 }) 14 (.int .i64 (s.cnt + 1)) (by simp [rdCells, RdS.go]) rfl rfl HG.out.in').later (Below.refl _ _).drew
 refine (done_any _ rb v ts _ B h2 ⟨1, s.cnt, [], none, 0, 0⟩ (varT s.cnt) 0).mono ?_
 rintro e w1 ⟨rfl, r1, r2⟩
 have R1 := Lib.hid r1
 have R2 := Lib.hid ((HF.out.setCell (p := ⟨rb, 14, none⟩) (.inl rfl) (.int .i64 (s.cnt + 1))).drew.trans r2)
 clear r1 r2 h2
 go_wp2_with fail
 exact bodyPost_end (v := .tuple #[]) (by simp [results, Tryz.results50, go_sem]) rfl ⟨rfl, R1.out, R2.out⟩
theorem rdat_grown {W W' w9 : World} {rb : Nat} {v : RdV} {ts : List Tok} {s : RdS} {B : Nat} {row : Option Nat} (h : RdAt W rb v ts s B) (hb : Below W.heap.size W W') (hg : W'.grownBy w9 row) (hrow : ∀ k, row = some k → k ≠ rb ∧ B ≤ k) : RdAt w9 rb v ts s B :=
 (h.later hb).keep (hg.block rb (Nat.lt_of_lt_of_le h.blk.lt hb.size) (fun e => (hrow rb e.symm).1 rfl)) fun k hk => hg.block k (by have := h.blk.lt; have := h.base; have := hb.size; omega) fun e => by
   have := (hrow k e.symm).2
   omega
def encB (x : List UInt8 × Int) : List Value := [.string ⟨x.1.toArray⟩, .int .i64 x.2]
theorem encB_one (x : List UInt8 × Int) : ∀ u ∈ encB x, u.oneCell' = true := by
 intro u hu
 simp only [encB, List.mem_cons, List.mem_nil_iff, or_false] at hu
 rcases hu with rfl | rfl <;> rfl
theorem bind_info : ∃ i z, Tryz.prog.info? 157 = some i ∧ i.zero = some z ∧ i.size = 2 ∧ i.bytes = 24 ∧ z.cells.size = 2 := by
 refine ⟨_, _, rfl, rfl, ?_, ?_, ?_⟩ <;> kernel_rfl
abbrev NRow (u : World) (rb : Nat) (nv : Value) (l : List (List UInt8 × Int)) : Prop := Row u (rb + 1) 157 2 encB nv l
theorem vars_grown {W W' w9 : World} {mb : Nat} {l : List (List UInt8 × Int)} {row : Option Nat} (h : VarsAt W mb l) (hb : Below W.heap.size W W') (hg : W'.grownBy w9 row) (hne : row ≠ some mb) : VarsAt w9 mb l :=
 ⟨h.map.keep ((hg.block mb (Nat.lt_of_lt_of_le h.map.lt hb.size) (fun e => hne e.symm)).trans (hb.block _ h.map.lt)), h.ok⟩
theorem fr_grown {S : Nat → Prop} {u W W' w9 : World} {row : Option Nat} (h : Fr S u W) (hb : Below W.heap.size W W') (hg : W'.grownBy w9 row) (hr : ∀ g, row = some g → S g) : Fr S u w9 := (h.step hb).grown hg fun g e => .inl (hr g e)
set_option maxHeartbeats 8000000 in
theorem named_new (u : World) (rb : Nat) (v : RdV) (ts : List Tok) (s : RdS) (B : Nat) (h : RdAt u rb v ts s B) (t : Tok) (hat : s.at' < ts.length) (mb : Nat) (hvb : v.vb = .map (some mb)) (hv : VarsAt u mb s.vars) (hmb : mb ≠ rb) (hmB : B ≤ mb) (hok : okS t.s) (hts : t.s ≠ [95]) (hn : mget s.vars t.s = none) (hc0 : 0 ≤ s.cnt) (hc1 : s.cnt ≤ 1000000) (hnm : NRow u rb v.nv s.names) (hnl : s.names.length ≤ 100000) (hnb : v.nv.ownBlock ≠ some mb) :
    Calls Tryz.prog 50 #[.pointer (some ⟨rb, 0, none⟩), tokW t] u fun e u' => e = .returned (.tuple #[]) ∧ ∃ nv', RdAt u' rb { v with nv := nv', x := ⟨1, s.cnt, [], none, 0, 0⟩ } ts (({ s.go 1 with cnt := s.cnt + 1, vars := s.vars ++ [(t.s, s.cnt)], names := s.names ++ [(t.s, s.cnt)] } : RdS).done (varT s.cnt) 0) B ∧ NRow u' rb nv' (s.names ++ [(t.s, s.cnt)]) ∧ VarsAt u' mb (s.vars ++ [(t.s, s.cnt)]) ∧ Fr (fun k => k = rb ∨ k = mb ∨ v.nv.ownBlock = some k) u u' := by
 have b95 : (t.s == [95]) = false := beq_eq_false_iff_ne.2 hts
 have hwc : IntKind.i64.wrap (s.cnt + 1) = s.cnt + 1 := IntWalk.i64_in _ (by omega)
 have HA := Lib.hid h
 have hf := h.few
 have hlt := h.blk.lt
 have c1 : u.cell? ⟨rb, 1, none⟩ = some (.int .i64 (s.at' : Int)) := h.blk.cell (i := 1) rfl
 have cf := h.blk.free
 have hwr : IntKind.i64.wrap ((s.at' : Int) + 1) = (s.at' : Int) + 1 := IntWalk.i64_in _ (by omega)
 obtain ⟨W, hW⟩ : ∃ W, W = (u.setCell ⟨rb, 1, none⟩ (.int .i64 ((s.at' : Int) + 1))).alloc (.cells #[.int .i64 t.kind, .int .i64 t.line, .int .i64 t.n, .string ⟨t.s.toArray⟩, .bool t.opn, .bool t.tight] 107) := ⟨_, rfl⟩
 have hgo : RdAt W rb v ts (s.go 1) B := by
  rw [hW]
  exact (h.put (v' := v) (s' := s.go 1) 1 _ (by simp [rdCells, RdS.go]) rfl rfl (by show s.at' + 1 ≤ _; omega)).later ((Below.refl _ _).alloc (Nat.le_refl _) _)
 have HG := Lib.hid hgo
 have HF : Hid (Fr (· = rb) u W) := by
  rw [hW]
  exact Lib.hid (((Fr.refl (· = rb) u).setCell (p := ⟨rb, 1, none⟩) (.inl rfl) _).alloc _)
 have hnew : W.heap[u.heap.size]? = some (.cells #[.int .i64 t.kind, .int .i64 t.line, .int .i64 t.n, .string ⟨t.s.toArray⟩, .bool t.opn, .bool t.tight] 107 (0, 0)) := by
  rw [hW]
  have := heap_alloc_new (u.setCell ⟨rb, 1, none⟩ (.int .i64 ((s.at' : Int) + 1))) (.cells #[.int .i64 t.kind, .int .i64 t.line, .int .i64 t.n, .string ⟨t.s.toArray⟩, .bool t.opn, .bool t.tight] 107)
  simpa using this
 obtain ⟨n0, n1, n2, n3, n4, n5, nf⟩ := six_at hnew
 have hvW : VarsAt W mb s.vars := ⟨hv.map.keep (HF.out.block mb hv.map.lt (by omega)), hv.ok⟩
 have hlk := vars_look (u := W.drew) (b := mb) (l := s.vars) ⟨hvW.map.drew, hv.ok⟩ t.s hok
 rw [hn] at hlk
 simp only [Option.getD_none, Option.isSome_none] at hlk
 have hvU : VarsAt (W.setCell ⟨rb, 14, none⟩ (.int .i64 (s.cnt + 1))).drew.drew mb s.vars := ⟨((hvW.map.setCell (p := ⟨rb, 14, none⟩) (by simp; omega) _).drew).drew, hv.ok⟩
 obtain ⟨w9, hup, hV9, hG9, hs9⟩ := vars_put hvU t.s hok s.cnt hn
 have d14 : W.cell? ⟨rb, 14, none⟩ = some (.int .i64 s.cnt) := HG.out.blk.cell (i := 14) rfl
 have df := HG.out.blk.free
 have d9 : W.cell? ⟨rb, 12, none⟩ = some (.map (some mb)) := (HG.out.blk.cell (i := 12) rfl).trans (congrArg some hvb)
 have hW9 : Below W.heap.size W (W.setCell ⟨rb, 14, none⟩ (.int .i64 (s.cnt + 1))).drew.drew → True := fun _ => trivial
 have h14 : RdAt (W.setCell ⟨rb, 14, none⟩ (.int .i64 (s.cnt + 1))).drew.drew rb v ts { s.go 1 with cnt := s.cnt + 1 } B := (HG.out.put (v' := v) (s' := { s.go 1 with cnt := s.cnt + 1 }) 14 (.int .i64 (s.cnt + 1)) (by simp [rdCells, RdS.go]) rfl rfl HG.out.in').later ((Below.refl _ _).drew.drew)
 have h9 := rdat_grown h14 (Below.refl _ _) hG9 (fun k hk => by cases hk; exact ⟨hmb, hmB⟩)
 have H9 := Lib.hid h9
 have hF9 : Fr (fun k => k = rb ∨ k = mb) u w9 := (((HF.out.setCell (p := ⟨rb, 14, none⟩) (.inl rfl) (.int .i64 (s.cnt + 1))).drew.drew.weak fun k hk => .inl hk).grown hG9 fun g hg => .inl (.inr (by cases hg; rfl)))
 have HF9 := Lib.hid hF9
 have hN9 : NRow w9 rb v.nv s.names := Row.keep hnm fun k hk => hF9.block k (hnm.lt k hk).2 fun e => by
  rcases e with e | e
  ·have := (hnm.lt k hk).1; omega
  ·exact hnb (by rw [hk, e])
 obtain ⟨A, cap, hsh⟩ := hnm.shape
 have HN9 := Lib.hid hN9
 have e13 : w9.cell? ⟨rb, 13, none⟩ = some v.nv := h9.blk.cell (i := 13) rfl
 have e9f := h9.blk.free
 have htk : w9.cell? ⟨u.heap.size, 3, none⟩ = some (.string ⟨t.s.toArray⟩) := by
  have hul : u.heap.size < W.heap.size := World.block_lt_of_cell? W _ n0
  rw [World.cell?_of_block (w := (W.setCell ⟨rb, 14, none⟩ (.int .i64 (s.cnt + 1))).drew.drew) (hG9.block _ (by simpa using hul) (by simp; have := hvW.map.lt; have := hv.map.lt; omega))]
  rw [← n3]
  exact World.cell?_of_block (Below.heap_setCell _ _ _ _ (by simp only; omega))
 have hw9l : rb < w9.heap.size := h9.blk.lt
 have HV9 := Lib.hid hV9
 have hnb' : (Value.slice A s.names.length cap).ownBlock ≠ some mb := by rw [← hsh]; exact hnb
 have hno : ∀ g, (Value.slice A s.names.length cap).ownBlock = some g → g = rb ∨ g = mb ∨ v.nv.ownBlock = some g := fun g hg => .inr (.inr (by rw [hsh]; exact hg))
 have HNO := Lib.hid hno
 have HNB := Lib.hid hnb'
 clear h hgo hnew hv hW9 h14 h9 hF9 hN9 hnm hnb' hno
 obtain ⟨i0, z0, hi0, hz0, hz1, hz2, hz3⟩ := bind_info
 unfold tokW
 go_enter Tryz.func50, Tryz.ntmps50
 go_wp2_with fail
 rw [← hW]
 clear hW
 go_region
 go_wp2_with fail
 go_region
 go_wp2_with fail
 clear hup hlk hvU hvW hV9 hG9 hs9
 rw [hsh] at e13
 go_region_law
     ((refine step_append_lies _ (by rfl) _ _ _ (by rfl) (rb + 1) 157 i0 _ 2 24 Tryz.underlying48 hi0 hz0 hz1 hz2 hz3 (by omega) (.slice A s.names.length cap) s.names.length (s.names.flatMap encB) (by rfl) (by rw [← hsh]; exact (Row.later HN9.out (by (repeat (first | exact Below.refl _ _ | refine Below.drew ?_ | refine Below.alloc ?_ (Nat.le_refl _) _)))).own)
         ⟨w9.heap.size, 0, none⟩ 1 1 (encB (t.s, s.cnt)) (by rfl) (by rfl) (World.news_of_block (cs := (encB (t.s, s.cnt)).toArray) (t := 157) (fr := (0, 0)) (by exact heap_alloc_new w9 _)) (encB_one _)
         (by omega) (by unfold maxLen; omega) (by omega) (by simp; omega) (w9.heap.size + 1) (by simp) ?_; intro gg cap2 w10 hown hgrow hat10 hlt10; obtain ⟨hc10, hf10⟩ : w10.cell? ⟨rb, 13, none⟩ = some (.slice A s.names.length cap) ∧ w10.frozen? ⟨rb, 13, none⟩ = false := ⟨((rdat_grown H9.out (by (repeat (first | exact Below.refl _ _ | refine Below.drew ?_ | refine Below.alloc ?_ (Nat.le_refl _) _))) hgrow (fun k hk => by have := HN9.out.lt k (by rw [hsh]; exact hk); have := H9.out.base; exact ⟨by omega, by omega⟩)).blk.cell (i := 13) rfl).trans (congrArg some hsh), (rdat_grown H9.out (by (repeat (first | exact Below.refl _ _ | refine Below.drew ?_ | refine Below.alloc ?_ (Nat.le_refl _) _))) hgrow (fun k hk => by have := HN9.out.lt k (by rw [hsh]; exact hk); have := H9.out.base; exact ⟨by omega, by omega⟩)).blk.free 13⟩))
 all_goals
  go_wp2_with fail
  have g1 := rdat_grown H9.out (by (repeat (first | exact Below.refl _ _ | refine Below.drew ?_ | refine Below.alloc ?_ (Nat.le_refl _) _))) hgrow (fun k hk => by have := HN9.out.lt k (by rw [hsh]; exact hk); have := H9.out.base; exact ⟨by omega, by omega⟩)
  have g2 := g1.put (v' := { v with nv := .slice (some ⟨gg, 0, none⟩) (s.names.length + 1) cap2 }) (s' := { s.go 1 with cnt := s.cnt + 1, vars := s.vars ++ [(t.s, s.cnt)], names := s.names ++ [(t.s, s.cnt)] }) 13 (.slice (some ⟨gg, 0, none⟩) (s.names.length + 1) cap2) (by simp [rdCells, RdS.go]) rfl rfl g1.in'
  have gv := vars_grown HV9.out (by (repeat (first | exact Below.refl _ _ | refine Below.drew ?_ | refine Below.alloc ?_ (Nat.le_refl _) _))) hgrow HNB.out
  have gf := fr_grown (HF9.out.weak fun k hk => hk.elim .inl fun e => .inr (.inl e)) (by (repeat (first | exact Below.refl _ _ | refine Below.drew ?_ | refine Below.alloc ?_ (Nat.le_refl _) _))) hgrow HNO.out
  have GV : Hid (VarsAt (w10.setCell ⟨rb, 13, none⟩ (.slice (some ⟨gg, 0, none⟩) (s.names.length + 1) cap2)) mb (s.vars ++ [(t.s, s.cnt)])) := Lib.hid ⟨gv.map.setCell (p := ⟨rb, 13, none⟩) (by simp only; omega) _, gv.ok⟩
  have GF := Lib.hid (gf.setCell (p := ⟨rb, 13, none⟩) (.inl (.inl rfl)) (.slice (some ⟨gg, 0, none⟩) (s.names.length + 1) cap2))
  clear gv gf
  refine (done_any _ rb _ ts _ B g2 ⟨1, s.cnt, [], none, 0, 0⟩ (varT s.cnt) 0).mono ?_
  rintro e w1 ⟨rfl, r1, r2⟩
  have R1 := Lib.hid r1
  have hr10 : NRow w10 rb (.slice (some ⟨gg, 0, none⟩) (s.names.length + 1) cap2) (s.names ++ [(t.s, s.cnt)]) := ⟨by rw [List.length_append, List.flatMap_append]; simpa using hown⟩
  have hne10 : (Value.slice (some ⟨gg, 0, none⟩) (s.names.length + 1) cap2).ownBlock ≠ some rb := fun e => by have := (hr10.lt rb e).1; omega
  have hr11 := Row.keep hr10 (w' := w10.setCell ⟨rb, 13, none⟩ (.slice (some ⟨gg, 0, none⟩) (s.names.length + 1) cap2)) fun k hk => Below.heap_setCell _ _ _ _ fun e => hne10 (by rw [hk]; exact congrArg some e)
  have RN := Lib.hid (Row.keep hr11 (w' := w1) fun k hk => r2.block k (hr11.lt k hk).2 fun e => hne10 (by rw [hk, e]))
  have RV : Hid (VarsAt w1 mb (s.vars ++ [(t.s, s.cnt)])) := Lib.hid ⟨GV.out.map.keep (r2.block mb GV.out.map.lt (by omega)), GV.out.ok⟩
  have RF := Lib.hid (GF.out.trans (r2.weak fun k hk => .inl hk))
  clear r1 r2 hr10 hr11 hne10
  go_wp2_with fail
  exact bodyPost_end (v := .tuple #[]) (by simp [results, Tryz.results50, go_sem]) rfl ⟨rfl, _, R1.out, RN.out, RV.out, RF.out⟩
inductive TermS (w : World) (S : Nat → Prop) : TV → Tm → Prop
 | mk (x : TV) (args : List Tm) (xs : List TV) (h1 : xs.length = x.len) (h2 : args.length = x.len) (h3 : x.s.length ≤ maxLen)
     (hc : ∀ (i : Nat) (y : TV), xs[i]? = some y → ∃ b off, x.A = some ⟨b, off, none⟩ ∧ S b ∧ ∀ (j : Nat) u, (encTV y)[j]? = some u → w.cell? ⟨b, off + i * 4 + j, none⟩ = some u)
     (ht : ∀ (i : Nat) (y : TV) (t : Tm), xs[i]? = some y → args[i]? = some t → TermS w S y t) : TermS w S x (.mk x.k x.n x.s args)
section
variable {w w' : World} {S S' : Nat → Prop} {x : TV} {t : Tm}
theorem TermS.keep (h : TermS w S x t) (hS : ∀ b, S b → S' b) (hb : ∀ b, S b → w'.heap[b]? = w.heap[b]?) : TermS w' S' x t := by
 induction h with
 | mk x args xs h1 h2 h3 hc ht ih =>
  refine .mk x args xs h1 h2 h3 (fun i y hy => ?_) ih
  obtain ⟨b, off, e1, e2, e3⟩ := hc i y hy
  exact ⟨b, off, e1, hS b e2, fun j u hu => (World.cell?_of_block (a := ⟨b, off + i * 4 + j, none⟩) (hb b e2)).trans (e3 j u hu)⟩
theorem TermS.at (h : TermS w S x t) {B : Nat} (hS : ∀ b, S b → b < B) : TermAt w B x t := by
 induction h with
 | mk x args xs h1 h2 h3 hc ht ih =>
  refine .mk x args xs h1 h2 h3 (fun i y hy => ?_) ih
  obtain ⟨b, off, e1, e2, e3⟩ := hc i y hy
  exact ⟨b, off, e1, hS b e2, e3⟩
theorem TermS.leaf (w : World) (S : Nat → Prop) (k n : Int) (s : List UInt8) (A : Option Addr) (c : Nat) (hs : s.length ≤ maxLen) : TermS w S ⟨k, n, s, A, 0, c⟩ (.mk k n s []) :=
 .mk ⟨k, n, s, A, 0, c⟩ [] [] rfl rfl hs (fun i y h => by simp at h) (fun i y t h => by simp at h)
def TermsS (w : World) (S : Nat → Prop) (xs : List TV) (l : List Tm) : Prop := xs.length = l.length ∧ ∀ (i : Nat) (y : TV) (t : Tm), xs[i]? = some y → l[i]? = some t → TermS w S y t
theorem TermsS.nil (w : World) (S : Nat → Prop) : TermsS w S [] [] := ⟨rfl, fun i y t h => by simp at h⟩
theorem TermsS.keep {xs : List TV} {l : List Tm} (h : TermsS w S xs l) (hS : ∀ b, S b → S' b) (hb : ∀ b, S b → w'.heap[b]? = w.heap[b]?) : TermsS w' S' xs l :=
 ⟨h.1, fun i y t h1 h2 => (h.2 i y t h1 h2).keep hS hb⟩
theorem TermsS.snoc {xs : List TV} {l : List Tm} (h : TermsS w S xs l) (hx : TermS w S x t) : TermsS w S (xs ++ [x]) (l ++ [t]) := by
 refine ⟨by rw [List.length_append, List.length_append, h.1]; rfl, fun i y u h1 h2 => ?_⟩
 by_cases hi : i < xs.length
 ·rw [List.getElem?_append_left hi] at h1
  rw [List.getElem?_append_left (by rw [← h.1]; exact hi)] at h2
  exact h.2 i y u h1 h2
 ·have hi2 : i = xs.length := by
   have := (List.getElem?_eq_some_iff.1 h1).1
   simp at this
   omega
  subst hi2
  rw [List.getElem?_append_right (Nat.le_refl _), Nat.sub_self] at h1
  rw [h.1, List.getElem?_append_right (Nat.le_refl _), Nat.sub_self] at h2
  have e1 : x = y := by simpa using h1
  have e2 : t = u := by simpa using h2
  subst e1 e2
  exact hx
theorem TermsS.comp {B : Nat} {v : Value} {xs : List TV} {l : List Tm} {A : Option Addr} {n c : Nat} (h : TermsS w S xs l) (hr : Row w B 28 4 encTV v xs) (hv : v = .slice A n c) (hS : ∀ g, v.ownBlock = some g → S g) (s : List UInt8) (hs : s.length ≤ maxLen) (k m : Int) :
    TermS w S ⟨k, m, s, A, n, c⟩ (.mk k m s l) := by
 subst hv
 have hlen : n = xs.length := hr.len
 refine .mk ⟨k, m, s, A, n, c⟩ l xs hlen.symm (by rw [← h.1, hlen]) hs (fun i y hy => ?_) h.2
 obtain ⟨g, cap, e1, _, _, _, hc⟩ := hr.cells encTV_len (by rintro rfl; cases hy)
 injection e1 with e1 e2 e3
 refine ⟨g, 0, e1, hS g (by rw [e1]; rfl), fun j u hu => ?_⟩
 rw [Nat.zero_add]
 exact (hc i y hy j u hu).1
theorem TermsS.block {xs : List TV} {l : List Tm} {g : Nat} (h : TermsS w S xs l) (hg : w.heap[g]? = some (.cells (xs.flatMap encTV).toArray 28 (0, 0))) (hS : S g) (s : List UInt8) (hs : s.length ≤ maxLen) (k m : Int) (c : Nat) :
    TermS w S ⟨k, m, s, some ⟨g, 0, none⟩, xs.length, c⟩ (.mk k m s l) := by
 refine .mk ⟨k, m, s, some ⟨g, 0, none⟩, xs.length, c⟩ l xs rfl h.1.symm hs (fun i y hy => ⟨g, 0, rfl, hS, fun j u hu => ?_⟩) h.2
 rw [Nat.zero_add, cell_of_row w g (i * 4 + j) _ _ (0, 0) hg]
 have := flatMap_get encTV_len xs i j y u hy hu
 simpa using this
end
end Go.Proofs.YtcallkljcjimiaaGreatDoor
