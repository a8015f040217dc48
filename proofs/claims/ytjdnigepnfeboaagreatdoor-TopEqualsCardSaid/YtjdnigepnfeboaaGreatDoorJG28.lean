import Derived.Test.YtjdnigepnfeboaaGreatDoorJG09
import Derived.Test.YtjdnigepnfeboaaGreatDoorJG15
import Derived.Test.YtjdnigepnfeboaaGreatDoorJG18
namespace Go.Proofs.YtjdnigepnfeboaaGreatDoor
open Go.RowKit Go.Maps
set_option maxRecDepth 100000
def evI (n : Int) : Value := .int .i64 n
structure VarsAt (u : World) (b : Nat) (l : List (List UInt8 × Int)) : Prop where
 map : MapAt u b ekS evI l
 ok : ∀ x ∈ l, okS x.1
theorem vars_look {u : World} {b : Nat} {l : List (List UInt8 × Int)} (h : VarsAt u b l) (k : List UInt8) (hk : okS k) :
    (Instr.lookup 132 (.map (some b)) (.string ⟨k.toArray⟩) true).run Tryz.prog u = .ok (.tuple #[.int .i64 ((mget l k).getD 0), .bool (mget l k).isSome]) u := by
 have := h.map.lookup (t := 132) strKE Tryz.underlying132 (z := .int .i64 0) (fun u => by kernel_rfl) h.ok (k := k) hk true
 simp only [if_true] at this
 rw [show ((mget l k).map evI).getD (.int .i64 0) = .int .i64 ((mget l k).getD 0) by cases mget l k <;> rfl] at this
 exact this
theorem vars_put {u : World} {b : Nat} {l : List (List UInt8 × Int)} (h : VarsAt u b l) (k : List UInt8) (hk : okS k) (n : Int) (hn : mget l k = none) :
    ∃ w', (Instr.mapUpdate 132 (.map (some b)) (.string ⟨k.toArray⟩) (.int .i64 n)).run Tryz.prog u = .ok () w' ∧ VarsAt w' b (l ++ [(k, n)]) ∧ u.grownBy w' (some b) ∧ w'.heap.size = u.heap.size := by
 obtain ⟨w', h1, h2, h3, h4⟩ := MapAt.update (P := Tryz.prog) (t := 132) strKE Tryz.underlying132 h.map h.ok (k := k) hk n
 have hp : mput l k n = l ++ [(k, n)] := by simp [mput, hn]
 rw [hp] at h2
 refine ⟨w', h1, ⟨h2, fun x hx => ?_⟩, h3, h4⟩
 rcases List.mem_append.1 hx with hx | hx
 ·exact h.ok x hx
 ·simp only [List.mem_singleton] at hx
  subst hx
  exact hk
open Go.RowKit
theorem rdat_grown {W W' w9 : World} {rb : Nat} {v : RdV} {ts : List Tok} {s : RdS} {B : Nat} {row : Option Nat} (h : RdAt W rb v ts s B) (hb : Below W.heap.size W W') (hg : W'.grownBy w9 row) (hrow : ∀ k, row = some k → k ≠ rb ∧ B ≤ k) : RdAt w9 rb v ts s B :=
 (h.later hb).keep (hg.block rb (Nat.lt_of_lt_of_le h.blk.lt hb.size) (fun e => (hrow rb e.symm).1 rfl)) fun k hk => hg.block k (by have := h.blk.lt; have := h.base; have := hb.size; omega) fun e => by
   have := (hrow k e.symm).2
   omega
def encB (x : List UInt8 × Int) : List Value := [.string ⟨x.1.toArray⟩, .int .i64 x.2]
theorem encB_one (x : List UInt8 × Int) : ∀ u ∈ encB x, u.oneCell' = true := by
 intro u hu
 simp only [encB, List.mem_cons, List.mem_nil_iff, or_false] at hu
 rcases hu with rfl | rfl <;> rfl
theorem bind_info : ∃ i z, Tryz.prog.info? 99 = some i ∧ i.zero = some z ∧ i.size = 2 ∧ i.bytes = 24 ∧ z.cells.size = 2 := by
 refine ⟨_, _, rfl, rfl, ?_, ?_, ?_⟩ <;> kernel_rfl
abbrev NRow (u : World) (rb : Nat) (nv : Value) (l : List (List UInt8 × Int)) : Prop := Row u (rb + 1) 99 2 encB nv l
theorem vars_grown {W W' w9 : World} {mb : Nat} {l : List (List UInt8 × Int)} {row : Option Nat} (h : VarsAt W mb l) (hb : Below W.heap.size W W') (hg : W'.grownBy w9 row) (hne : row ≠ some mb) : VarsAt w9 mb l :=
 ⟨h.map.keep ((hg.block mb (Nat.lt_of_lt_of_le h.map.lt hb.size) (fun e => hne e.symm)).trans (hb.block _ h.map.lt)), h.ok⟩
theorem fr_grown {S : Nat → Prop} {u W W' w9 : World} {row : Option Nat} (h : Fr S u W) (hb : Below W.heap.size W W') (hg : W'.grownBy w9 row) (hr : ∀ g, row = some g → S g) : Fr S u w9 := (h.step hb).grown hg fun g e => .inl (hr g e)
set_option maxHeartbeats 8000000 in
theorem named_new (u : World) (rb : Nat) (v : RdV) (ts : List Tok) (s : RdS) (B : Nat) (h : RdAt u rb v ts s B) (t : Tok) (hat : s.at' < ts.length) (mb : Nat) (hvb : v.vb = .map (some mb)) (hv : VarsAt u mb s.vars) (hmb : mb ≠ rb) (hmB : B ≤ mb) (hok : okS t.s) (hts : t.s ≠ [95]) (hn : mget s.vars t.s = none) (hc0 : 0 ≤ s.cnt) (hc1 : s.cnt ≤ 1000000) (hnm : NRow u rb v.nv s.names) (hnl : s.names.length ≤ 100000) (hnb : v.nv.ownBlock ≠ some mb) :
    Calls Tryz.prog 50 #[.pointer (some ⟨rb, 0, none⟩), tokW t] u fun e u' => e = .returned (.tuple #[]) ∧ ∃ nv', RdAt u' rb { v with nv := nv', x := ⟨1, s.cnt, [], none, 0, 0⟩ } ts (({ s.go 1 with cnt := s.cnt + 1, vars := s.vars ++ [(t.s, s.cnt)], names := s.names ++ [(t.s, s.cnt)] } : RdS).done (varT s.cnt) 0) B ∧ NRow u' rb nv' (s.names ++ [(t.s, s.cnt)]) ∧ VarsAt u' mb (s.vars ++ [(t.s, s.cnt)]) ∧ Fr (fun k => k = rb ∨ k = mb ∨ v.nv.ownBlock = some k) u u' := by
 have b95 : (t.s == [95]) = false := beq_eq_false_iff_ne.2 hts
 have hwc : IntKind.i64.wrap (s.cnt + 1) = s.cnt + 1 := IntWalk.i64_in _ (by omega)
 have HA := Lib.hid h
 have hf := h.few
 have hlt := h.blk.lt
 have c1 : u.cell? ⟨rb, 1, none⟩ = some (.int .i64 (s.at' : Int)) := h.blk.cell (i := 1) rfl
 have cf := h.blk.free
 have hwr : IntKind.i64.wrap ((s.at' : Int) + 1) = (s.at' : Int) + 1 := IntWalk.i64_in _ (by omega)
 obtain ⟨W, hW⟩ : ∃ W, W = (u.setCell ⟨rb, 1, none⟩ (.int .i64 ((s.at' : Int) + 1))).alloc (.cells #[.int .i64 t.kind, .int .i64 t.line, .int .i64 t.n, .string ⟨t.s.toArray⟩, .bool t.opn, .bool t.tight] 127) := ⟨_, rfl⟩
 have hgo : RdAt W rb v ts (s.go 1) B := by
  rw [hW]
  exact (h.put (v' := v) (s' := s.go 1) 1 _ (by simp [rdCells, RdS.go]) rfl rfl (by show s.at' + 1 ≤ _; omega)).later ((Below.refl _ _).alloc (Nat.le_refl _) _)
 have HG := Lib.hid hgo
 have HF : Hid (Fr (· = rb) u W) := by
  rw [hW]
  exact Lib.hid (((Fr.refl (· = rb) u).setCell (p := ⟨rb, 1, none⟩) (.inl rfl) _).alloc _)
 have hnew : W.heap[u.heap.size]? = some (.cells #[.int .i64 t.kind, .int .i64 t.line, .int .i64 t.n, .string ⟨t.s.toArray⟩, .bool t.opn, .bool t.tight] 127 (0, 0)) := by
  rw [hW]
  have := heap_alloc_new (u.setCell ⟨rb, 1, none⟩ (.int .i64 ((s.at' : Int) + 1))) (.cells #[.int .i64 t.kind, .int .i64 t.line, .int .i64 t.n, .string ⟨t.s.toArray⟩, .bool t.opn, .bool t.tight] 127)
  simpa using this
 obtain ⟨n0, n1, n2, n3, n4, n5, nf⟩ := six_at hnew
 have hvW : VarsAt W mb s.vars := ⟨hv.map.keep (HF.out.block mb hv.map.lt (by omega)), hv.ok⟩
 have hlk := vars_look (u := W.drew) (b := mb) (l := s.vars) ⟨hvW.map.drew, hv.ok⟩ t.s hok
 rw [hn] at hlk
 simp only [Option.getD_none, Option.isSome_none] at hlk
 have hvU : VarsAt (W.setCell ⟨rb, 14, none⟩ (.int .i64 (s.cnt + 1))).drew.drew mb s.vars := ⟨((hvW.map.setCell (p := ⟨rb, 14, none⟩) (by simp; omega) _).drew).drew, hv.ok⟩
 obtain ⟨w9, hup, hV9, hG9, hs9⟩ := vars_put hvU t.s hok s.cnt hn
 have d14 : W.cell? ⟨rb, 14, none⟩ = some (.int .i64 s.cnt) := HG.out.blk.cell (i := 14) rfl
 have df := HG.out.blk.free
 have d9 : W.cell? ⟨rb, 12, none⟩ = some (.map (some mb)) := (HG.out.blk.cell (i := 12) rfl).trans (congrArg some hvb)
 have hW9 : Below W.heap.size W (W.setCell ⟨rb, 14, none⟩ (.int .i64 (s.cnt + 1))).drew.drew → True := fun _ => trivial
 have h14 : RdAt (W.setCell ⟨rb, 14, none⟩ (.int .i64 (s.cnt + 1))).drew.drew rb v ts { s.go 1 with cnt := s.cnt + 1 } B := (HG.out.put (v' := v) (s' := { s.go 1 with cnt := s.cnt + 1 }) 14 (.int .i64 (s.cnt + 1)) (by simp [rdCells, RdS.go]) rfl rfl HG.out.in').later ((Below.refl _ _).drew.drew)
 have h9 := rdat_grown h14 (Below.refl _ _) hG9 (fun k hk => by cases hk; exact ⟨hmb, hmB⟩)
 have H9 := Lib.hid h9
 have hF9 : Fr (fun k => k = rb ∨ k = mb) u w9 := (((HF.out.setCell (p := ⟨rb, 14, none⟩) (.inl rfl) (.int .i64 (s.cnt + 1))).drew.drew.weak fun k hk => .inl hk).grown hG9 fun g hg => .inl (.inr (by cases hg; rfl)))
 have HF9 := Lib.hid hF9
 have hN9 : NRow w9 rb v.nv s.names := Row.keep hnm fun k hk => hF9.block k (hnm.lt k hk).2 fun e => by
  rcases e with e | e
  ·have := (hnm.lt k hk).1; omega
  ·exact hnb (by rw [hk, e])
 obtain ⟨A, cap, hsh⟩ := hnm.shape
 have HN9 := Lib.hid hN9
 have e13 : w9.cell? ⟨rb, 13, none⟩ = some v.nv := h9.blk.cell (i := 13) rfl
 have e9f := h9.blk.free
 have htk : w9.cell? ⟨u.heap.size, 3, none⟩ = some (.string ⟨t.s.toArray⟩) := by
  have hul : u.heap.size < W.heap.size := World.block_lt_of_cell? W _ n0
  rw [World.cell?_of_block (w := (W.setCell ⟨rb, 14, none⟩ (.int .i64 (s.cnt + 1))).drew.drew) (hG9.block _ (by simpa using hul) (by simp; have := hvW.map.lt; have := hv.map.lt; omega))]
  rw [← n3]
  exact World.cell?_of_block (Below.heap_setCell _ _ _ _ (by simp only; omega))
 have hw9l : rb < w9.heap.size := h9.blk.lt
 have HV9 := Lib.hid hV9
 have hnb' : (Value.slice A s.names.length cap).ownBlock ≠ some mb := by rw [← hsh]; exact hnb
 have hno : ∀ g, (Value.slice A s.names.length cap).ownBlock = some g → g = rb ∨ g = mb ∨ v.nv.ownBlock = some g := fun g hg => .inr (.inr (by rw [hsh]; exact hg))
 have HNO := Lib.hid hno
 have HNB := Lib.hid hnb'
 clear h hgo hnew hv hW9 h14 h9 hF9 hN9 hnm hnb' hno
 obtain ⟨i0, z0, hi0, hz0, hz1, hz2, hz3⟩ := bind_info
 unfold tokW
 go_enter Tryz.func50, Tryz.ntmps50
 go_wp2_with fail
 rw [← hW]
 clear hW
 go_region
 go_wp2_with fail
 go_region
 go_wp2_with fail
 clear hup hlk hvU hvW hV9 hG9 hs9
 rw [hsh] at e13
 go_region_law
     ((refine step_append_lies _ (by rfl) _ _ _ (by rfl) (rb + 1) 99 i0 _ 2 24 Tryz.underlying38 hi0 hz0 hz1 hz2 hz3 (by omega) (.slice A s.names.length cap) s.names.length (s.names.flatMap encB) (by rfl) (by rw [← hsh]; exact (Row.later HN9.out (by (repeat (first | exact Below.refl _ _ | refine Below.drew ?_ | refine Below.alloc ?_ (Nat.le_refl _) _)))).own)
         ⟨w9.heap.size, 0, none⟩ 1 1 (encB (t.s, s.cnt)) (by rfl) (by rfl) (World.news_of_block (cs := (encB (t.s, s.cnt)).toArray) (t := 99) (fr := (0, 0)) (by exact heap_alloc_new w9 _)) (encB_one _)
         (by omega) (by unfold maxLen; omega) (by omega) (by simp; omega) (w9.heap.size + 1) (by simp) ?_; intro gg cap2 w10 hown hgrow hat10 hlt10; obtain ⟨hc10, hf10⟩ : w10.cell? ⟨rb, 13, none⟩ = some (.slice A s.names.length cap) ∧ w10.frozen? ⟨rb, 13, none⟩ = false := ⟨((rdat_grown H9.out (by (repeat (first | exact Below.refl _ _ | refine Below.drew ?_ | refine Below.alloc ?_ (Nat.le_refl _) _))) hgrow (fun k hk => by have := HN9.out.lt k (by rw [hsh]; exact hk); have := H9.out.base; exact ⟨by omega, by omega⟩)).blk.cell (i := 13) rfl).trans (congrArg some hsh), (rdat_grown H9.out (by (repeat (first | exact Below.refl _ _ | refine Below.drew ?_ | refine Below.alloc ?_ (Nat.le_refl _) _))) hgrow (fun k hk => by have := HN9.out.lt k (by rw [hsh]; exact hk); have := H9.out.base; exact ⟨by omega, by omega⟩)).blk.free 13⟩))
 all_goals
  go_wp2_with fail
  have g1 := rdat_grown H9.out (by (repeat (first | exact Below.refl _ _ | refine Below.drew ?_ | refine Below.alloc ?_ (Nat.le_refl _) _))) hgrow (fun k hk => by have := HN9.out.lt k (by rw [hsh]; exact hk); have := H9.out.base; exact ⟨by omega, by omega⟩)
  have g2 := g1.put (v' := { v with nv := .slice (some ⟨gg, 0, none⟩) (s.names.length + 1) cap2 }) (s' := { s.go 1 with cnt := s.cnt + 1, vars := s.vars ++ [(t.s, s.cnt)], names := s.names ++ [(t.s, s.cnt)] }) 13 (.slice (some ⟨gg, 0, none⟩) (s.names.length + 1) cap2) (by simp [rdCells, RdS.go]) rfl rfl g1.in'
  have gv := vars_grown HV9.out (by (repeat (first | exact Below.refl _ _ | refine Below.drew ?_ | refine Below.alloc ?_ (Nat.le_refl _) _))) hgrow HNB.out
  have gf := fr_grown (HF9.out.weak fun k hk => hk.elim .inl fun e => .inr (.inl e)) (by (repeat (first | exact Below.refl _ _ | refine Below.drew ?_ | refine Below.alloc ?_ (Nat.le_refl _) _))) hgrow HNO.out
  have GV : Hid (VarsAt (w10.setCell ⟨rb, 13, none⟩ (.slice (some ⟨gg, 0, none⟩) (s.names.length + 1) cap2)) mb (s.vars ++ [(t.s, s.cnt)])) := Lib.hid ⟨gv.map.setCell (p := ⟨rb, 13, none⟩) (by simp only; omega) _, gv.ok⟩
  have GF := Lib.hid (gf.setCell (p := ⟨rb, 13, none⟩) (.inl (.inl rfl)) (.slice (some ⟨gg, 0, none⟩) (s.names.length + 1) cap2))
  clear gv gf
  refine (done_any _ rb _ ts _ B g2 ⟨1, s.cnt, [], none, 0, 0⟩ (varT s.cnt) 0).mono ?_
  rintro e w1 ⟨rfl, r1, r2⟩
  have R1 := Lib.hid r1
  have hr10 : NRow w10 rb (.slice (some ⟨gg, 0, none⟩) (s.names.length + 1) cap2) (s.names ++ [(t.s, s.cnt)]) := ⟨by rw [List.length_append, List.flatMap_append]; simpa using hown⟩
  have hne10 : (Value.slice (some ⟨gg, 0, none⟩) (s.names.length + 1) cap2).ownBlock ≠ some rb := fun e => by have := (hr10.lt rb e).1; omega
  have hr11 := Row.keep hr10 (w' := w10.setCell ⟨rb, 13, none⟩ (.slice (some ⟨gg, 0, none⟩) (s.names.length + 1) cap2)) fun k hk => Below.heap_setCell _ _ _ _ fun e => hne10 (by rw [hk]; exact congrArg some e)
  have RN := Lib.hid (Row.keep hr11 (w' := w1) fun k hk => r2.block k (hr11.lt k hk).2 fun e => hne10 (by rw [hk, e]))
  have RV : Hid (VarsAt w1 mb (s.vars ++ [(t.s, s.cnt)])) := Lib.hid ⟨GV.out.map.keep (r2.block mb GV.out.map.lt (by omega)), GV.out.ok⟩
  have RF := Lib.hid (GF.out.trans (r2.weak fun k hk => .inl hk))
  clear r1 r2 hr10 hr11 hne10
  go_wp2_with fail
  exact bodyPost_end (v := .tuple #[]) (by simp [results, Tryz.results50, go_sem]) rfl ⟨rfl, _, R1.out, RN.out, RV.out, RF.out⟩
def opsOf (es : List (OpK × OpV)) : OpsF := ⟨fun n => ((tsides es 1 n).1, (tsides es 1 n).2.2), fun n => tsides es 2 n, fun n => ((tsides es 3 n).1, (tsides es 3 n).2.1)⟩
def okI (n : Int) : Prop := -9223372036854775808 ≤ n ∧ n ≤ 9223372036854775807
theorem intKE : KE Tryz.prog 3 evI okI :=
 ⟨int_keyed Tryz.underlying3, fun _ hk => ⟨_, keyOf_int_mk Tryz.underlying3 (int_wf hk.1 hk.2)⟩, fun a b h => by simpa [evI] using h⟩
def begL : List (Int × Nat) := [(3, 49), (4, 50), (5, 51), (6, 52), (1, 53), (2, 53)]
def evF (rb : Nat) (n : Nat) : Value := .func (.func n) #[.pointer (some ⟨rb, 0, none⟩)] #[]
theorem begL_ok : ∀ x ∈ begL, okI x.1 := by
 intro x hx
 simp only [begL, List.mem_cons, List.mem_nil_iff, or_false] at hx
 unfold okI
 rcases hx with rfl | rfl | rfl | rfl | rfl | rfl <;> (simp only; omega)
theorem beg_look {u : World} {b rb : Nat} (h : MapAt u b evI (evF rb) begL) (k : Int) (hk : okI k) :
    (Instr.lookup 133 (.map (some b)) (.int .i64 k) true).run Tryz.prog u = .ok (.tuple #[((mget begL k).map (evF rb)).getD .nilFunc, .bool (mget begL k).isSome]) u := by
 have := h.lookup (t := 133) intKE Tryz.underlying133 (z := .nilFunc) (fun u => by kernel_rfl) begL_ok (k := k) hk true
 simp only [if_true] at this
 exact this
end Go.Proofs.YtjdnigepnfeboaaGreatDoor
namespace Go.Proofs.YtjdnigepnfeboaaGreatDoor
open Go.RowKit Go.Maps
set_option maxRecDepth 100000
def clV (x : TV) (nv : Value) (line next : Int) : Value := .agg #[.int .i64 x.k, .int .i64 x.n, .string ⟨x.s.toArray⟩, .slice x.A x.len x.cap, nv, .int .i64 line, .int .i64 next]
theorem catch_idle (p q r t : Value) (w : World) :
    CallsD Tryz.prog 54 #[p, q, r, t] .returning w fun e u' w' => e = .returned (.tuple #[]) ∧ u' = .returning ∧ w' = w := by
 refine callsD_of_wpS Tryz.func54 rfl fun c₀ cs hu => ?_
 apply wpS_seq
 apply wpS_region
 simp [wpOpsS, go_sem, recoverD, hu, Tryz.ntmps54, Exit.thenS]
 refine wpS_of_wp ?_
 go_wp2
 cases c₀
 simp_all [bodyPostS, results, Tryz.results54]
theorem fr_set7 {S : Nat → Prop} {w W : World} (h : Fr S w W) {b : Nat} (hb : S b) (a0 a1 a2 a3 a4 a5 a6 : Value) :
    Fr S w (((((((W.setCell ⟨b, 0, none⟩ a0).setCell ⟨b, 1, none⟩ a1).setCell ⟨b, 2, none⟩ a2).setCell ⟨b, 3, none⟩ a3).setCell ⟨b, 4, none⟩ a4).setCell ⟨b, 5, none⟩ a5).setCell ⟨b, 6, none⟩ a6) :=
 ((((((h.setCell (p := ⟨b, 0, none⟩) (.inl hb) _).setCell (p := ⟨b, 1, none⟩) (.inl hb) _).setCell (p := ⟨b, 2, none⟩) (.inl hb) _).setCell (p := ⟨b, 3, none⟩) (.inl hb) _).setCell (p := ⟨b, 4, none⟩) (.inl hb) _).setCell (p := ⟨b, 5, none⟩) (.inl hb) _).setCell (p := ⟨b, 6, none⟩) (.inl hb) _
def ins (b rb : Nat) (k : Int) (n : Nat) (w w' : World) : Prop :=
 (Instr.mapUpdate 133 (.map (some b)) (.int .i64 k) (.func (.func n) #[.pointer (some ⟨rb, 0, none⟩)] #[])).run Tryz.prog w = .ok () w'
theorem beg_step {w : World} {b rb : Nat} {l : List (Int × Nat)} (h : MapAt w b evI (evF rb) l) (hok : ∀ x ∈ l, okI x.1) (k : Int) (hk : okI k) (n : Nat) :
    ∃ w', ins b rb k n w w' ∧ MapAt w' b evI (evF rb) (mput l k n) ∧ Fr (· = b) w w' ∧ w'.heap.size = w.heap.size := by
 obtain ⟨w', h1, h2, h3, h4⟩ := MapAt.update (P := Tryz.prog) (t := 133) intKE Tryz.underlying133 h hok hk n
 exact ⟨w', h1, h2, (Fr.refl _ _).grown h3 fun g hg => .inl (by cases hg; rfl), h4⟩
theorem beg_fill {w : World} {b rb : Nat} (h : MapAt w b evI (evF rb) ([] : List (Int × Nat))) :
    ∃ w1 w2 w3 w4 w5 w6, ins b rb 3 49 w w1 ∧ ins b rb 4 50 w1 w2 ∧ ins b rb 5 51 w2 w3 ∧ ins b rb 6 52 w3 w4 ∧ ins b rb 1 53 w4 w5 ∧ ins b rb 2 53 w5 w6 ∧
     MapAt w6 b evI (evF rb) begL ∧ Fr (· = b) w w1 ∧ Fr (· = b) w w2 ∧ Fr (· = b) w w3 ∧ Fr (· = b) w w4 ∧ Fr (· = b) w w5 ∧ Fr (· = b) w w6 ∧ w6.heap.size = w.heap.size := by
 have ok : ∀ k : Int, 0 ≤ k → k ≤ 10 → okI k := fun k h1 h2 => ⟨by omega, by omega⟩
 obtain ⟨w1, a1, m1, f1, s1⟩ := beg_step h (fun x hx => by cases hx) 3 (ok 3 (by omega) (by omega)) 49
 obtain ⟨w2, a2, m2, f2, s2⟩ := beg_step m1 (by intro x hx; simp [mput, mget] at hx; subst hx; exact ok _ (by simp) (by simp)) 4 (ok 4 (by omega) (by omega)) 50
 obtain ⟨w3, a3, m3, f3, s3⟩ := beg_step m2 (by intro x hx; simp [mput, mget] at hx; rcases hx with rfl | rfl <;> exact ok _ (by simp) (by simp)) 5 (ok 5 (by omega) (by omega)) 51
 obtain ⟨w4, a4, m4, f4, s4⟩ := beg_step m3 (by intro x hx; simp [mput, mget] at hx; rcases hx with rfl | rfl | rfl <;> exact ok _ (by simp) (by simp)) 6 (ok 6 (by omega) (by omega)) 52
 obtain ⟨w5, a5, m5, f5, s5⟩ := beg_step m4 (by intro x hx; simp [mput, mget] at hx; rcases hx with rfl | rfl | rfl | rfl <;> exact ok _ (by simp) (by simp)) 1 (ok 1 (by omega) (by omega)) 53
 obtain ⟨w6, a6, m6, f6, s6⟩ := beg_step m5 (by intro x hx; simp [mput, mget] at hx; rcases hx with rfl | rfl | rfl | rfl | rfl <;> exact ok _ (by simp) (by simp)) 2 (ok 2 (by omega) (by omega)) 53
 have g2 := f1.trans f2
 have g3 := g2.trans f3
 have g4 := g3.trans f4
 have g5 := g4.trans f5
 refine ⟨w1, w2, w3, w4, w5, w6, a1, a2, a3, a4, a5, a6, ?_, f1, g2, g3, g4, g5, g5.trans f6, by omega⟩
 have e : mput (mput (mput (mput (mput (mput ([] : List (Int × Nat)) 3 49) 4 50) 5 51) 6 52) 1 53) 2 53 = begL := by decide
 rw [← e]
 exact m6
structure PartT where
 k : Int
 n : Int
 s : List UInt8
 a : Nat
def ofLoop (g : List PartT → Tm × Nat) : Nat → List PartT → List Tm × Nat
 | 0, _ => ([], 0)
 | i + 1, l => ((g l).1 :: (ofLoop g i (l.drop (g l).2)).1, (g l).2 + (ofLoop g i (l.drop (g l).2)).2)
def ofF : Nat → List PartT → Tm × Nat
 | 0, _ => (atomT [97], 0)
 | _ + 1, [] => (atomT [97], 0)
 | f + 1, p :: r => (.mk p.k p.n p.s (ofLoop (ofF f) (p.a % 8) r).1, 1 + (ofLoop (ofF f) (p.a % 8) r).2)
def ofT (l : List PartT) : Tm × Nat := ofF l.length l
mutual
def mendT : Tm → Tm
 | .mk k n s l =>
  if 20 < s.length then atomT [97]
  else if k = 1 then varT (max 0 n)
  else if k = 2 then intT n
  else if k = 3 then atomT s
  else if k = 4 then (if l.length = 0 then atomT [97] else compT s (mendL l))
  else atomT [97]
def mendL : List Tm → List Tm
 | [] => []
 | t :: r => mendT t :: mendL r
end
def goodT (l : List PartT) : Tm := mendT (ofT l).1
theorem ofLoop_le {g : List PartT → Tm × Nat} (hg : ∀ l, (g l).2 ≤ l.length) : ∀ (i : Nat) (l : List PartT), (ofLoop g i l).2 ≤ l.length ∧ (ofLoop g i l).1.length = i
 | 0, _ => ⟨Nat.zero_le _, rfl⟩
 | i + 1, l => by
  have h1 := hg l
  obtain ⟨h2, h3⟩ := ofLoop_le hg i (l.drop (g l).2)
  rw [List.length_drop] at h2
  unfold ofLoop
  refine ⟨by simp only; omega, by simp only [List.length_cons, h3]⟩
theorem ofF_le : ∀ (f : Nat) (l : List PartT), (ofF f l).2 ≤ l.length
 | 0, _ => Nat.zero_le _
 | _ + 1, [] => Nat.zero_le _
 | f + 1, p :: r => by
  have := (ofLoop_le (ofF_le f) (p.a % 8) r).1
  unfold ofF
  simp only [List.length_cons]
  omega
theorem ofLoop_congr {g h : List PartT → Tm × Nat} (n : Nat) (hgh : ∀ l, l.length ≤ n → g l = h l) : ∀ (i : Nat) (l : List PartT), l.length ≤ n → ofLoop g i l = ofLoop h i l
 | 0, _, _ => rfl
 | i + 1, l, hl => by
  unfold ofLoop
  rw [hgh l hl, ofLoop_congr n hgh i _ (by rw [List.length_drop]; omega)]
theorem ofF_fuel : ∀ (n f g : Nat) (l : List PartT), l.length ≤ n → l.length ≤ f → l.length ≤ g → ofF f l = ofF g l
 | n, f, g, [], _, _, _ => by cases f <;> cases g <;> rfl
 | 0, _, _, p :: r, h, _, _ => by simp at h
 | n + 1, f, g, p :: r, h, hf, hg => by
  rw [List.length_cons] at h hf hg
  obtain ⟨f, rfl⟩ : ∃ k, f = k + 1 := ⟨f - 1, by omega⟩
  obtain ⟨g, rfl⟩ : ∃ k, g = k + 1 := ⟨g - 1, by omega⟩
  unfold ofF
  rw [ofLoop_congr (g := ofF f) (h := ofF g) r.length (fun l hl => ofF_fuel n f g l (by omega) (by omega) (by omega)) (p.a % 8) r (Nat.le_refl _)]
theorem ofT_cons (p : PartT) (r : List PartT) : ofT (p :: r) = (.mk p.k p.n p.s (ofLoop ofT (p.a % 8) r).1, 1 + (ofLoop ofT (p.a % 8) r).2) := by
 unfold ofT
 rw [List.length_cons, ofF]
 rw [ofLoop_congr (g := ofF r.length) (h := fun l => ofF l.length l) r.length (fun l hl => ofF_fuel r.length r.length l.length l hl hl (Nat.le_refl _)) (p.a % 8) r (Nat.le_refl _)]
theorem ofT_le (l : List PartT) : (ofT l).2 ≤ l.length := ofF_le _ l
theorem ofLoop_snoc (g : List PartT → Tm × Nat) : ∀ (i : Nat) (l : List PartT), ofLoop g (i + 1) l = ((ofLoop g i l).1 ++ [(g (l.drop (ofLoop g i l).2)).1], (ofLoop g i l).2 + (g (l.drop (ofLoop g i l).2)).2)
 | 0, l => by simp [ofLoop]
 | i + 1, l => by
  have ih := ofLoop_snoc g i (l.drop (g l).2)
  rw [ofLoop, ih, ofLoop]
  simp only [List.drop_drop, List.cons_append, Prod.mk.injEq]
  refine ⟨trivial, by omega⟩
mutual
theorem mend_size : ∀ t : Tm, (mendT t).size ≤ t.size
 | .mk k n s l => by
  have h1 := mends_size l
  have h2 : ∀ s : List UInt8, (atomT s).size = 1 := fun _ => rfl
  have h3 : (Tm.mk k n s l).size = 1 + Tm.sizes l := rfl
  rw [mendT, h3]
  split
  ·rw [h2]; omega
  ·split
   ·show 1 ≤ _; omega
   ·split
    ·show 1 ≤ _; omega
    ·split
     ·rw [h2]; omega
     ·split
      ·split
       ·rw [h2]; omega
       ·show 1 + Tm.sizes (mendL l) ≤ _
        omega
      ·rw [h2]; omega
theorem mends_size : ∀ l : List Tm, Tm.sizes (mendL l) ≤ Tm.sizes l
 | [] => Nat.le_refl _
 | t :: r => by
  have h1 := mend_size t
  have h2 := mends_size r
  rw [mendL, Tm.sizes, Tm.sizes]
  omega
end
theorem mendL_len : ∀ l : List Tm, (mendL l).length = l.length
 | [] => rfl
 | t :: r => by rw [mendL, List.length_cons, List.length_cons, mendL_len r]
mutual
def Tm.thin : Tm → Bool | .mk _ _ _ l => decide (l.length ≤ 255) && Tm.thins l
def Tm.thins : List Tm → Bool | [] => true | t :: r => t.thin && Tm.thins r
end
mutual
theorem mend_may : ∀ t : Tm, t.thin = true → (mendT t).may = true
 | .mk k n s l, h => by
  rw [Tm.thin, Bool.and_eq_true, decide_eq_true_eq] at h
  have h1 := mends_may l h.2
  have h2 := mendL_len l
  have ha : (atomT [97]).may = true := by decide
  rw [mendT]
  split
  ·exact ha
  ·rename_i hs
   split
   ·show (Tm.mk 1 (max 0 n) [] []).may = true
    rw [Tm.may]
    unfold mayP
    simp [Tm.mays]
    omega
   ·split
    ·show (Tm.mk 2 n [] []).may = true
     rw [Tm.may]
     unfold mayP
     simp [Tm.mays]
    ·split
     ·show (Tm.mk 3 0 s []).may = true
      rw [Tm.may]
      unfold mayP
      simp [Tm.mays]
      omega
     ·split
      ·split
       ·exact ha
       ·rename_i hl
        show (Tm.mk 4 0 s (mendL l)).may = true
        rw [Tm.may, h1]
        unfold mayP
        simp
        omega
      ·exact ha
theorem mends_may : ∀ l : List Tm, Tm.thins l = true → Tm.mays (mendL l) = true
 | [], _ => rfl
 | t :: r, h => by
  rw [Tm.thins, Bool.and_eq_true] at h
  rw [mendL, Tm.mays, mend_may t h.1, mends_may r h.2]
  rfl
end
theorem ofLoop_thin {g : List PartT → Tm × Nat} (hg : ∀ l, (g l).1.thin = true ∧ (g l).1.size ≤ 1 + 7 * (g l).2) : ∀ (i : Nat) (l : List PartT), Tm.thins (ofLoop g i l).1 = true ∧ Tm.sizes (ofLoop g i l).1 ≤ i + 7 * (ofLoop g i l).2
 | 0, _ => ⟨rfl, Nat.zero_le _⟩
 | i + 1, l => by
  obtain ⟨h1, h2⟩ := hg l
  obtain ⟨h3, h4⟩ := ofLoop_thin hg i (l.drop (g l).2)
  unfold ofLoop
  refine ⟨?_, ?_⟩
  ·simp only [Tm.thins, h1, h3, Bool.and_self]
  ·simp only [Tm.sizes]
   omega
theorem ofF_thin : ∀ (f : Nat) (l : List PartT), (ofF f l).1.thin = true ∧ (ofF f l).1.size ≤ 1 + 7 * (ofF f l).2
 | 0, _ => ⟨rfl, Nat.le_refl _⟩
 | _ + 1, [] => ⟨rfl, Nat.le_refl _⟩
 | f + 1, p :: r => by
  obtain ⟨h1, h2⟩ := ofLoop_thin (ofF_thin f) (p.a % 8) r
  have h3 := (ofLoop_le (ofF_le f) (p.a % 8) r).2
  have h4 : p.a % 8 < 8 := Nat.mod_lt _ (by decide)
  unfold ofF
  refine ⟨?_, ?_⟩
  ·simp only [Tm.thin, h1, Bool.and_true, decide_eq_true_eq]
   omega
  ·simp only [Tm.size]
   omega
theorem good_ok (l : List PartT) : (goodT l).may = true ∧ (goodT l).size ≤ 1 + 7 * l.length := by
 obtain ⟨h1, h2⟩ := ofF_thin l.length l
 have h3 := ofF_le l.length l
 refine ⟨mend_may _ h1, Nat.le_trans (mend_size _) ?_⟩
 show (ofF l.length l).1.size ≤ _
 omega
open Go.RowKit
noncomputable def sameTm (t u : Tm) : Bool := @decide (t = u) (Classical.propDecidable _)
theorem sameTm_iff (t u : Tm) : sameTm t u = true ↔ t = u := by
 unfold sameTm
 exact @decide_eq_true_iff _ (Classical.propDecidable _)
theorem sameTm_self (t : Tm) : sameTm t t = true := (sameTm_iff t t).2 rfl
theorem sameTm_false {t u : Tm} (h : t ≠ u) : sameTm t u = false := by
 cases hb : sameTm t u with
 | false => rfl
 | true => exact absurd ((sameTm_iff t u).1 hb) h
theorem s10_drew {w : World} {p0 p1 p2 p3 p4 p5 p6 p7 p8 p9 : Addr} {x0 x1 x2 x3 x4 x5 x6 x7 x8 x9 : Option Value} (h : w.cell? p0 = x0 ∧ w.cell? p1 = x1 ∧ w.cell? p2 = x2 ∧ w.cell? p3 = x3 ∧ w.cell? p4 = x4 ∧ w.cell? p5 = x5 ∧ w.cell? p6 = x6 ∧ w.cell? p7 = x7 ∧ w.cell? p8 = x8 ∧ w.cell? p9 = x9) :
    w.drew.cell? p0 = x0 ∧ w.drew.cell? p1 = x1 ∧ w.drew.cell? p2 = x2 ∧ w.drew.cell? p3 = x3 ∧ w.drew.cell? p4 = x4 ∧ w.drew.cell? p5 = x5 ∧ w.drew.cell? p6 = x6 ∧ w.drew.cell? p7 = x7 ∧ w.drew.cell? p8 = x8 ∧ w.drew.cell? p9 = x9 := h
theorem cell_later {w w' : World} {p : Addr} {x : Value} (h : w.cell? p = some x) (hb : Below w.heap.size w w') : w'.cell? p = some x := (hb.cell (World.block_lt_of_cell? w _ h)).trans h
theorem s10_later {w w' : World} {p0 p1 p2 p3 p4 p5 p6 p7 p8 p9 : Addr} {x0 x1 x2 x3 x4 x5 x6 x7 x8 x9 : Value} (h : w.cell? p0 = some x0 ∧ w.cell? p1 = some x1 ∧ w.cell? p2 = some x2 ∧ w.cell? p3 = some x3 ∧ w.cell? p4 = some x4 ∧ w.cell? p5 = some x5 ∧ w.cell? p6 = some x6 ∧ w.cell? p7 = some x7 ∧ w.cell? p8 = some x8 ∧ w.cell? p9 = some x9) (hb : Below w.heap.size w w') :
    w'.cell? p0 = some x0 ∧ w'.cell? p1 = some x1 ∧ w'.cell? p2 = some x2 ∧ w'.cell? p3 = some x3 ∧ w'.cell? p4 = some x4 ∧ w'.cell? p5 = some x5 ∧ w'.cell? p6 = some x6 ∧ w'.cell? p7 = some x7 ∧ w'.cell? p8 = some x8 ∧ w'.cell? p9 = some x9 :=
 ⟨cell_later h.1 hb, cell_later h.2.1 hb, cell_later h.2.2.1 hb, cell_later h.2.2.2.1 hb, cell_later h.2.2.2.2.1 hb, cell_later h.2.2.2.2.2.1 hb, cell_later h.2.2.2.2.2.2.1 hb, cell_later h.2.2.2.2.2.2.2.1 hb, cell_later h.2.2.2.2.2.2.2.2.1 hb, cell_later h.2.2.2.2.2.2.2.2.2 hb⟩
structure SmAt (w wr : World) (x y : TV) (l m : List Tm) (k : Nat) : Prop where
 below : Below w.heap.size w wr
 b0 : wr.cell? ⟨w.heap.size, 3, none⟩ = some (.slice x.A x.len x.cap)
 b1 : wr.cell? ⟨w.heap.size + 1, 3, none⟩ = some (.slice y.A y.len y.cap)
 same : ∀ i, i < k → l[i]? = m[i]?
set_option maxHeartbeats 8000000 in
theorem same_any : ∀ (n : Nat) (t u : Tm) (x y : TV) (w : World), t.size ≤ n → t.size ≤ 10000000 → u.size ≤ 10000000 → TermAt w w.heap.size x t → TermAt w w.heap.size y u →
    Calls Tryz.prog 11 #[tvV x, tvV y] w fun e w' => e = .returned (.bool (sameTm t u)) ∧ Below w.heap.size w w' := by
 intro n
 induction n with
 | zero => intro t u x y w h; have := size_pos t; omega
 | succ n ih =>
  intro t u x y w hn hst hsu hx hy
  obtain ⟨k1, k2, k3, k4, k5, k6⟩ := hx.open
  obtain ⟨j1, j2, j3, j4, j5, j6⟩ := hy.open
  have hta : t.args.length + 1 ≤ t.size := args_size t
  have hua : u.args.length + 1 ≤ u.size := args_size u
  have hxl : (x.len : Int) ≤ 10000000 := by omega
  have hyl : (y.len : Int) ≤ 10000000 := by omega
  obtain ⟨q, hq⟩ : ∃ q, q = sameTm t u := ⟨_, rfl⟩
  rw [← hq]
  have HQ := Lib.hid hq
  clear hq
  by_cases e1 : x.k = y.k
  case neg =>
   have hne : q = false := HQ.out.trans (sameTm_false fun e => e1 (by rw [← k1, ← j1, e]))
   have b1 : (x.k != y.k) = true := bne_iff_ne.2 e1
   clear HQ k6 j6
   unfold tvV
   go_enter Tryz.func11, Tryz.ntmps11
   go_wp2_with fail
   go_ret
   exact ⟨by rw [hne]; rfl, ((Below.refl _ _).alloc (Nat.le_refl _) _).alloc (by simp) _⟩
  have b1 : (x.k != y.k) = false := by rw [e1]; simp
  by_cases e2 : x.n = y.n
  case neg =>
   have hne : q = false := HQ.out.trans (sameTm_false fun e => e2 (by rw [← k2, ← j2, e]))
   have b2 : (x.n != y.n) = true := bne_iff_ne.2 e2
   clear e1
   clear HQ k6 j6
   unfold tvV
   go_enter Tryz.func11, Tryz.ntmps11
   go_wp2_with fail
   go_ret
   exact ⟨by rw [hne]; rfl, ((Below.refl _ _).alloc (Nat.le_refl _) _).alloc (by simp) _⟩
  have b2 : (x.n != y.n) = false := by rw [e2]; simp
  by_cases e3 : x.s = y.s
  case neg =>
   have hne : q = false := HQ.out.trans (sameTm_false fun e => e3 (by rw [← k3, ← j3, e]))
   have b3 : (x.s != y.s) = true := bne_iff_ne.2 e3
   have b3' : (x.s == y.s) = false := beq_eq_false_iff_ne.2 e3
   clear e1 e2
   clear HQ k6 j6
   unfold tvV
   go_enter Tryz.func11, Tryz.ntmps11
   go_wp2_with fail
   go_ret
   exact ⟨by rw [hne]; rfl, ((Below.refl _ _).alloc (Nat.le_refl _) _).alloc (by simp) _⟩
  have b3 : (x.s != y.s) = false := by rw [e3]; simp
  have b3' : (x.s == y.s) = true := by rw [e3]; simp
  by_cases e4 : x.len = y.len
  case neg =>
   have hne : q = false := HQ.out.trans (sameTm_false fun e => e4 (by rw [← k4, ← j4, e]))
   have b4 : (x.len != y.len) = true := bne_iff_ne.2 e4
   have b4' : ((x.len : Int) != (y.len : Int)) = true := bne_iff_ne.2 (by omega)
   clear e1 e2 e3
   clear HQ k6 j6
   unfold tvV
   go_enter Tryz.func11, Tryz.ntmps11
   go_wp2_with fail
   go_ret
   exact ⟨by rw [hne]; rfl, ((Below.refl _ _).alloc (Nat.le_refl _) _).alloc (by simp) _⟩
  obtain ⟨xk, xn, xs, xA, xl, xc⟩ := x
  obtain ⟨yk, yn, ys, yA, yl, yc⟩ := y
  simp only at *
  subst e1 e2 e3 e4
  clear b1 b2 b3 b3'
  have HK := Lib.hid k6
  have HJ := Lib.hid j6
  have hT : ∀ v : Tm, v = .mk v.k v.n v.s v.args := fun v => by cases v; rfl
  have HEQ : Hid (t = u ↔ t.args = u.args) := Lib.hid ⟨fun e => by rw [e], fun e => by rw [hT t, hT u, e, k1, k2, k3, j1, j2, j3]⟩
  have HST := Lib.hid (And.intro hn (And.intro hst hsu))
  have hlt : t.args.length = u.args.length := k4.trans j4.symm
  have h0 : SmAt w ((w.alloc (.cells #[.int .i64 xk, .int .i64 xn, .string ⟨xs.toArray⟩, .slice xA xl xc] 27)).alloc (.cells #[.int .i64 xk, .int .i64 xn, .string ⟨xs.toArray⟩, .slice yA xl yc] 27)) ⟨xk, xn, xs, xA, xl, xc⟩ ⟨xk, xn, xs, yA, xl, yc⟩ t.args u.args 0 := by
   refine ⟨((Below.refl _ _).alloc (Nat.le_refl _) _).alloc (by simp) _, ?_, ?_, fun i hi => absurd hi (Nat.not_lt_zero _)⟩
   ·exact cell_later (cell_made w _ _ 3 _ rfl) ((Below.refl _ _).alloc (Nat.le_refl _) _)
   ·have := cell_made (w.alloc (.cells #[.int .i64 xk, .int .i64 xn, .string ⟨xs.toArray⟩, .slice xA xl xc] 27)) #[.int .i64 xk, .int .i64 xn, .string ⟨xs.toArray⟩, .slice yA xl yc] 27 3 (.slice yA xl yc) rfl
    rw [World.size_alloc] at this
    exact this
  have H0 := Lib.hid h0
  have HX := Lib.hid hx
  have HY := Lib.hid hy
  have HIH := Lib.hid ih
  clear k6 j6 h0 hx hy ih hn hst hsu k1 k2 k3 j1 j2 j3
  unfold tvV
  go_enter Tryz.func11, Tryz.ntmps11
  go_wp2_with fail
  go_loopw [37] (fun i wr => ∃ k : Nat, k ≤ xl ∧ i = .int .i64 (k : Nat) ∧ Hid (SmAt w wr ⟨xk, xn, xs, xA, xl, xc⟩ ⟨xk, xn, xs, yA, xl, yc⟩ t.args u.args k)) (fun i _ => xl - (intOf i).toNat)
  case atStart => exact ⟨0, Nat.zero_le _, rfl, H0⟩
  case round =>
   obtain ⟨k, hk, rfl, HR⟩ := hrel
   by_cases hkl : k < xl
   ·have hi1 : k < t.args.length := by omega
    have hi2 : k < u.args.length := by omega
    obtain ⟨xe, b, off, a1, a2, a3, a4⟩ := HK.out k _ (List.getElem?_eq_getElem hi1)
    obtain ⟨ye, b', off', c1, c2, c3, c4⟩ := HJ.out k _ (List.getElem?_eq_getElem hi2)
    have hz1 := List.getElem?_eq_getElem hi1
    have hz2 := List.getElem?_eq_getElem hi2
    have hsz1 : t.args[k].size ≤ n ∧ t.args[k].size ≤ 10000000 := by
     have h1 := mem_sizes t.args _ (List.getElem_mem hi1)
     have h2 := size_args t
     have := HST.out.1
     have := HST.out.2.1
     omega
    have hsz2 : u.args[k].size ≤ 10000000 := by
     have h1 := mem_sizes u.args _ (List.getElem_mem hi2)
     have h2 := size_args u
     have := HST.out.2.2
     omega
    generalize t.args[k] = tk at *
    generalize u.args[k] = uk at *
    subst a1 c1
    have hbw := HR.out.below
    have hsx : ∀ j v, (encTV xe)[j]? = some v → wr.cell? ⟨b, off + k * 4 + j, none⟩ = some v := fun j v hv => (hbw.cell (p := ⟨b, off + k * 4 + j, none⟩) a2).trans (a4 j v hv)
    have hsy : ∀ j v, (encTV ye)[j]? = some v → wr.cell? ⟨b', off' + k * 4 + j, none⟩ = some v := fun j v hv => (hbw.cell (p := ⟨b', off' + k * 4 + j, none⟩) c2).trans (c4 j v hv)
    have HS := Lib.hid (And.intro HR.out.b0 (And.intro HR.out.b1 (And.intro (hsx 0 _ rfl) (And.intro (hsx 1 _ rfl) (And.intro (hsx 2 _ rfl) (And.intro (hsx 3 _ rfl) (And.intro (hsy 0 _ rfl) (And.intro (hsy 1 _ rfl) (And.intro (hsy 2 _ rfl) (hsy 3 _ rfl))))))))))
    simp only [Nat.add_zero] at HS
    have hkI : (k : Int) < (xl : Int) := by omega
    have hk0 : (0 : Int) ≤ (k : Int) := by omega
    have hwk : IntKind.i64.wrap ((k : Int) + 1) = (k : Int) + 1 := IntWalk.i64_in _ (by omega)
    have HCALL : Hid (∀ W, Below wr.heap.size wr W → Calls Tryz.prog 11 #[.agg #[.int .i64 xe.k, .int .i64 xe.n, .string ⟨xe.s.toArray⟩, .slice xe.A xe.len xe.cap], .agg #[.int .i64 ye.k, .int .i64 ye.n, .string ⟨ye.s.toArray⟩, .slice ye.A ye.len ye.cap]] W fun e w' => e = .returned (.bool (sameTm tk uk)) ∧ Below W.heap.size W w') := Lib.hid fun W hW => by
     have h1 := hbw.trans (hW.mono hbw.size)
     exact HIH.out tk uk xe ye W hsz1.1 hsz1.2 hsz2 ((a3.keep (Nat.le_refl _) h1.block).up h1.size) ((c3.keep (Nat.le_refl _) h1.block).up h1.size)
    obtain ⟨z, hz⟩ : ∃ z, z = sameTm tk uk := ⟨_, rfl⟩
    rw [← hz] at HCALL
    have HZ := Lib.hid hz
    have HZZ := Lib.hid (And.intro hz1 hz2)
    clear a2 a3 a4 c2 c3 c4 hsx hsy hz hz1 hz2 hsz1 hsz2 hbw
    go_upto_region 6 with fail
    go_region_held3 (fun v => v.cell? ⟨w.heap.size, 3, none⟩ = some (.slice (some ⟨b, off, none⟩) xl xc) ∧ v.cell? ⟨w.heap.size + 1, 3, none⟩ = some (.slice (some ⟨b', off', none⟩) xl yc) ∧ v.cell? ⟨b, off + k * 4, none⟩ = some (.int .i64 xe.k) ∧ v.cell? ⟨b, off + k * 4 + 1, none⟩ = some (.int .i64 xe.n) ∧ v.cell? ⟨b, off + k * 4 + 2, none⟩ = some (.string ⟨xe.s.toArray⟩) ∧ v.cell? ⟨b, off + k * 4 + 3, none⟩ = some (.slice xe.A xe.len xe.cap) ∧
        v.cell? ⟨b', off' + k * 4, none⟩ = some (.int .i64 ye.k) ∧ v.cell? ⟨b', off' + k * 4 + 1, none⟩ = some (.int .i64 ye.n) ∧ v.cell? ⟨b', off' + k * 4 + 2, none⟩ = some (.string ⟨ye.s.toArray⟩) ∧ v.cell? ⟨b', off' + k * 4 + 3, none⟩ = some (.slice ye.A ye.len ye.cap))
     (first | (with_reducible exact HS.out) | (with_reducible exact s10_drew HS.out) | (with_reducible exact s10_later (s10_drew HS.out) hb2) | (with_reducible exact s10_drew (s10_later (s10_drew HS.out) hb2)))
     (first | (go_at_call 11; refine (HCALL.out _ (Below.refl _ _).drew).mono ?_; rintro e w2 ⟨rfl, hb2⟩))
    have hb3 := below_call' (Below.refl wr.heap.size wr).drew hb2
    have HB3 := Lib.hid hb3
    clear hb2 hb3
    cases z with
    | false =>
     have hne : q = false := HQ.out.trans (sameTm_false fun e => by
      have h1 := HEQ.out.1 e
      have h2 := HZZ.out
      rw [h1, h2.2] at h2
      have h3 : uk = tk := by simpa using h2.1
      have h4 := HZ.out
      rw [h3, sameTm_self] at h4
      cases h4)
     clear HQ
     go_wp2_with fail
     go_ret
     exact ⟨by rw [hne]; rfl, HR.out.below.trans (HB3.out.mono HR.out.below.size)⟩
    | true =>
     have hN : SmAt w w2 ⟨xk, xn, xs, some ⟨b, off, none⟩, xl, xc⟩ ⟨xk, xn, xs, some ⟨b', off', none⟩, xl, yc⟩ t.args u.args (k + 1) :=
      ⟨HR.out.below.trans (HB3.out.mono HR.out.below.size), cell_later HR.out.b0 HB3.out, cell_later HR.out.b1 HB3.out, fun i hi => by
       rcases Nat.lt_succ_iff_lt_or_eq.1 hi with h | h
       ·exact HR.out.same i h
       ·subst h
        rw [HZZ.out.1, HZZ.out.2, (sameTm_iff _ _).1 HZ.out.symm]⟩
     have HN := Lib.hid hN
     clear hN
     go_wp2_with fail
     go_roundw
     case rel => exact ⟨k + 1, by omega, rfl, HN⟩
     case measure =>
      simp only [intOf]
      omega
   ·have hqe : q = true := HQ.out.trans ((sameTm_iff _ _).2 (HEQ.out.2 (List.ext_getElem? fun i => by
     by_cases hi : i < k
     ·exact HR.out.same i hi
     ·rw [List.getElem?_eq_none (by omega), List.getElem?_eq_none (by omega)])))
    clear HQ
    go_wp2_with fail
    go_ret
    exact ⟨by rw [hqe]; rfl, HR.out.below⟩
end Go.Proofs.YtjdnigepnfeboaaGreatDoor
