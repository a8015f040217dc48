import Derived.Test.YtjdnigepnfeboaaGreatDoorJG12
import Derived.Deep.CutRange
import Derived.Deep.DrawnRows
namespace Go.Proofs.YtjdnigepnfeboaaGreatDoor
open Go.RowKit Go.Maps
set_option maxRecDepth 100000
attribute [local go_sem ↓] Go.wp_at_zero Go.wp_at_succ
section
variable {w u : World} {S : Nat → Prop} {B db mb pb bx bz : Nat} {time : Int} {es : List (PK × Nat)} {cv : Value} {cls : List ClV} {kind ver : Int} {ov : Value} {ord : List Int} {x y : TV}
theorem DbAddSt.cl_term {w9 : World} (h : DbAddSt w S B db mb pb bx bz time es cv cls kind ver ov ord x y u) (hg : u.grownBy w9 cv.ownBlock) (v : Value) (k : Nat) (cs : Array Value) (hk : u.heap[k]? = some (.cells cs 27 (0, 0))) :
    (w9.setCell ⟨db, 2, none⟩ v).heap[k]? = u.heap[k]? := by
 rw [Deep.blk_setCell_other _ _ _ _ (ne_types hk h.db'.blk (by decide))]
 exact hg.block k (Array.getElem?_eq_some_iff.1 hk).1 (fun e => by
  obtain ⟨_, cur, hc⟩ := h.cl.block e.symm
  exact ne_types hk hc (by decide) rfl)
theorem DbAddSt.od_term {w9 : World} (h : DbAddSt w S B db mb pb bx bz time es cv cls kind ver ov ord x y u) (hF : Fr (fun k => ov.ownBlock = some k) u w9) (v : Value) (k : Nat) (cs : Array Value) (hk : u.heap[k]? = some (.cells cs 27 (0, 0))) :
    (w9.setCell ⟨pb, 2, none⟩ v).heap[k]? = u.heap[k]? := by
 rw [Deep.blk_setCell_other _ _ _ _ (show k ≠ pb from ne_types hk (show u.heap[pb]? = some (.cells _ 159 (0, 0)) from h.pr) (by decide))]
 exact hF.block k (Array.getElem?_eq_some_iff.1 hk).1 (fun e => by
  obtain ⟨_, cur, hc⟩ := h.od.block e
  exact ne_types hk hc (by decide) rfl)
end
def kindOf (kind : Int) (dyn : Bool) : Int := if kind = 0 then (if dyn = true then 2 else 1) else kind
def AddPost (w : World) (S : Nat → Prop) (B db mb : Nat) (time : Int) (esf : Nat → List (PK × Nat)) (P : Nat → Prop) (cls : List ClV) (kind : Int) (ord : List Int) (x y : TV) (ax ay : Option (Int × Int × List UInt8)) (front dyn : Bool) (e : Ending) (w' : World) : Prop :=
 ∃ pb bx bz x' y' cv' ov', e = .returned (.tuple #[.int .i64 cls.length, .int .i64 0]) ∧ P pb ∧
     DbAddSt w S B db mb pb bx bz (time + 1) (esf pb) cv' (cls ++ [⟨x', y', time + 1, -1⟩]) (kindOf kind dyn) (time + 1) ov' (if front = true then (cls.length : Int) :: ord else ord ++ [(cls.length : Int)]) x' y' w' ∧
     CopyAt w.heap.size w' x x' ax ∧ CopyAt w.heap.size w' y y' ay
set_option maxHeartbeats 16000000 in
theorem dbadd_any (w : World) (S : Nat → Prop) (B db mb : Nat) (time : Int) (es : List (PK × Nat)) (A : Option Addr) (N c : Nat) (cls : List ClV) (kind ver : Int) (ov : Value) (ord : List Int) (hD : DbAt w db mb time es (.slice A N c)) (hcl : Row w B 163 10 encCl (.slice A N c) cls)
    (hod : Row w B 3 1 encI ov ord) (hB : B ≤ w.heap.size) (x y : TV) (ax ay : Option (Int × Int × List UInt8)) (hx : SrcAt w x ax) (hy : SrcAt w y ay) (hcx : checkT (tmOf x ax) = 0) (hcy : checkT (tmOf y ay) = 0) (hk : x.k = 3 ∨ x.k = 4) (hSx : ∀ u, Fr S w u → SrcAt u x ax) (hSy : ∀ u, Fr S w u → SrcAt u y ay)
    (hN : cls.length < 4096) (ho : ord.length ≤ 10000) (ht : 0 ≤ time ∧ time ≤ 100000) (front dyn : Bool) (hdb : S db) (hmb : S mb) (hscv : ∀ g, (Value.slice A N c).ownBlock = some g → S g) (hsov : ∀ g, ov.ownBlock = some g → S g)
    (P : Nat → Prop) (esf : Nat → List (PK × Nat)) (hP : ∀ pb, P pb → S pb ∨ w.heap.size ≤ pb)
    (hget : ∀ u, Below w.heap.size w u → Calls Tryz.prog 65 #[.pointer (some ⟨db, 0, none⟩), .string ⟨x.s.toArray⟩, .int .i64 x.len] u fun e u' => ∃ pb, e = .returned (.pointer (some ⟨pb, 0, none⟩)) ∧ P pb ∧ DbAt u' db mb time (esf pb) (.slice A N c) ∧ PrAt u' pb kind ver ov 0 ∧ Fr (· = mb) u u') :
    Calls Tryz.prog 29 #[.pointer (some ⟨db, 0, none⟩), tvV x, tvV y, .bool front, .bool dyn] w (AddPost w S B db mb time esf P cls kind ord x y ax ay front dyn) := by
 have hNl : N = cls.length := by
  obtain ⟨A', c', e1⟩ := hcl.shape
  injection e1
 obtain ⟨W0, hW0⟩ : ∃ W0, allocs w [.cells (encTV x).toArray 27, .cells (encTV y).toArray 27] = W0 := ⟨_, rfl⟩
 have hb0 : Below w.heap.size w W0 := by rw [← hW0]; exact allocs_below _ _
 have h0 : W0.heap[w.heap.size]? = some (.cells (encTV x).toArray 27 (0, 0)) := by rw [← hW0]; exact allocs_at w _ 0 _ rfl
 have h1 : W0.heap[w.heap.size + 1]? = some (.cells (encTV y).toArray 27 (0, 0)) := by rw [← hW0]; exact allocs_at w _ 1 _ rfl
 have HMAY := Lib.hid (dbmay_ok W0 db mb time es A N c (hD.later hb0) (by omega) x y ax ay (hx.later hb0) (hy.later hb0) hcx hcy hk)
 have HF := Lib.hid (flat_of h0 h1)
 have HH0 := Lib.hid (And.intro h0 h1)
 have HX := Lib.hid hSx
 have HY := Lib.hid hSy
 have HCL := Lib.hid (hcl.later hb0)
 have HOD := Lib.hid (hod.later hb0)
 have HD := Lib.hid (hD.later hb0)
 have HB0 := Lib.hid hb0
 have HW0 := Lib.hid hW0
 have HGET := Lib.hid hget
 have HP := Lib.hid hP
 have HS := Lib.hid (And.intro hdb (And.intro hmb (And.intro hscv hsov)))
 obtain ⟨ht0, ht1⟩ := ht
 clear hSx hSy hD hcl hod hx hy hcx hcy hk hdb hmb hscv hsov hP hget hb0 h0 h1 hW0
 rw [tvV_lit, tvV_lit]
 go_enter Tryz.func29, Tryz.ntmps29
 obtain ⟨b0, b1, b2, b3, b4, b5, b6, b7⟩ := HF.out
 go_wp2_with fail
 change Calls _ _ _ (allocs w [.cells (encTV x).toArray 27, .cells (encTV y).toArray 27]) _
 rw [HW0.out]
 clear HW0
 refine HMAY.out.mono ?_
 rintro e u1 ⟨rfl, hb1⟩
 have HB1 := Lib.hid hb1
 obtain ⟨b0, b1, b2, b3, b4, b5, b6, b7⟩ := flat_later HF.out hb1
 clear hb1
 go_wp2_with fail
 refine (HGET.out _ (HB0.out.trans (HB1.out.mono HB0.out.size))).mono ?_
 rintro e u2 ⟨pb, rfl, hPp, hD2, hp2, hF2⟩
 have hm1 := (HD.out.later HB1.out).map
 have hI2 : DbAddSt w S B db mb pb w.heap.size (w.heap.size + 1) time (esf pb) (.slice A N c) cls kind ver ov ord x y u2 := by
  obtain ⟨s1, s2, s3, s4⟩ := HS.out
  have hx1 := (HB1.out.block _ (Array.getElem?_eq_some_iff.1 HH0.out.1).1).trans HH0.out.1
  have hz1 := (HB1.out.block _ (Array.getElem?_eq_some_iff.1 HH0.out.2).1).trans HH0.out.2
  have hc1 := HCL.out.later HB1.out
  have ho1 := HOD.out.later HB1.out
  refine ⟨hD2, hp2, hc1.keep fun g hg => hF2.block g (hc1.lt g hg).2 ?_, ho1.keep fun g hg => hF2.block g (ho1.lt g hg).2 ?_, (hF2.block _ (Array.getElem?_eq_some_iff.1 hx1).1 (ne_map hx1 hm1)).trans hx1, (hF2.block _ (Array.getElem?_eq_some_iff.1 hz1).1 (ne_map hz1 hm1)).trans hz1, by omega,
   (Fr.of_below S (HB0.out.trans (HB1.out.mono HB0.out.size))).trans (hF2.weak fun k hk => by rw [hk]; exact s2), fun g hg => .inl (s3 g hg), fun g hg => .inl (s4 g hg), s1, s2, HP.out pb hPp, Nat.le_refl _, by omega⟩
  ·obtain ⟨_, cur, hc⟩ := hc1.block hg
   exact ne_map hc hm1
  ·obtain ⟨_, cur, hc⟩ := ho1.block hg
   exact ne_map hc hm1
 have HI2 := Lib.hid hI2
 have HPP := Lib.hid hPp
 obtain ⟨p0, p1, p2, p3, pf⟩ := hI2.pr.cells
 have hpl := hI2.pr.lt
 have hw2 := hI2.fr.size
 clear hI2 hD2 hp2 hF2 hm1 hPp b0 b1 b2 b3 b4 b5 b6 b7 HD HF HH0 HCL HOD HGET HP HS HMAY
 go_upto_if 35 with fail
 go_cut [] from 36 (fun u => Hid (DbAddSt w S B db mb pb w.heap.size (w.heap.size + 1) time (esf pb) (.slice A N c) cls (kindOf kind dyn) ver ov ord x y u))
 case first =>
  by_cases hk0 : kind = 0
  ·subst hk0
   cases dyn
   ·go_wp2_with fail
    go_meet
    exact Lib.hid (HI2.out.setPr 0 (.int .i64 1) rfl)
   ·go_wp2_with fail
    go_meet
    exact Lib.hid ((HI2.out.setPr 0 (.int .i64 1) (kind' := 1) (ver' := ver) rfl).setPr 0 (.int .i64 2) rfl)
  ·have hkb : (kind == 0) = false := by simpa using hk0
   have HK0 := Lib.hid hk0
   clear hk0
   go_wp2_with fail
   go_meet
   unfold kindOf
   rw [if_neg HK0.out]
   exact HI2
 case rest =>
  obtain ⟨u3, rfl⟩ : ∃ u3 : World, u3 = wc := ⟨_, rfl⟩
  have HI3 := hcut
  clear hcut HI2 p0 p1 p2 p3 pf
  obtain ⟨p0, p1, p2, p3, pf⟩ := HI3.out.pr.cells
  obtain ⟨c0, c1, c2, cf⟩ := HI3.out.db'.cells
  obtain ⟨b0, b1, b2, b3, b4, b5, b6, b7⟩ := HI3.out.flat
  have hdp := HI3.out.dp
  have hxd : w.heap.size ≠ db := ne_types HI3.out.hx HI3.out.db'.blk (by decide)
  have hzd : w.heap.size + 1 ≠ db := ne_types HI3.out.hz HI3.out.db'.blk (by decide)
  have hxp : w.heap.size ≠ pb := ne_types HI3.out.hx (show u3.heap[pb]? = some (.cells _ 159 (0, 0)) from HI3.out.pr) (by decide)
  have hzp : w.heap.size + 1 ≠ pb := ne_types HI3.out.hz (show u3.heap[pb]? = some (.cells _ 159 (0, 0)) from HI3.out.pr) (by decide)
  have HI4 := Lib.hid ((HI3.out.setDb (time + 1)).setPr 1 (.int .i64 (time + 1)) (kind' := kindOf kind dyn) (ver' := time + 1) rfl)
  have HS3 := HI3.out.fr.size
  have HNUM := Lib.hid (number_src _ x y ax ay (HX.out _ HI4.out.fr) (HY.out _ HI4.out.fr))
  rw [tvV_lit, tvV_lit] at HNUM
  go_wp2_with fail
  refine HNUM.out.mono ?_
  rintro e u6 ⟨x', y', rfl, hcx, hcy, hb6⟩
  rw [tvV_lit, tvV_lit]
  have HI6 := Lib.hid (HI4.out.later hb6)
  have HCX := Lib.hid hcx
  have HCY := Lib.hid hcy
  clear p0 p1 p2 p3 pf c0 c1 c2 cf b0 b1 b2 b3 b4 b5 b6 b7 hcx hcy hb6 HNUM
  obtain ⟨b0, b1, b2, b3, bf⟩ := four_cells HI6.out.hx
  obtain ⟨b4, b5, b6, b7, bf'⟩ := four_cells HI6.out.hz
  obtain ⟨u7, hu7⟩ : ∃ u7, u7 = ((((((((u6.setCell ⟨w.heap.size, 0, none⟩ (.int .i64 x'.k)).setCell ⟨w.heap.size, 1, none⟩ (.int .i64 x'.n)).setCell ⟨w.heap.size, 2, none⟩ (.string ⟨x'.s.toArray⟩)).setCell ⟨w.heap.size, 3, none⟩ (.slice x'.A x'.len x'.cap)).setCell ⟨w.heap.size + 1, 0, none⟩ (.int .i64 y'.k)).setCell ⟨w.heap.size + 1, 1, none⟩ (.int .i64 y'.n)).setCell ⟨w.heap.size + 1, 2, none⟩ (.string ⟨y'.s.toArray⟩)).setCell ⟨w.heap.size + 1, 3, none⟩ (.slice y'.A y'.len y'.cap)) := ⟨_, rfl⟩
  have HI7 : Hid (DbAddSt w S B db mb pb w.heap.size (w.heap.size + 1) (time + 1) (esf pb) (.slice A N c) cls (kindOf kind dyn) (time + 1) ov ord x' y' u7) := by rw [hu7]; exact Lib.hid ((HI6.out.setX x').setY y')
  have hzz : w.heap.size + 1 < u6.heap.size := (Array.getElem?_eq_some_iff.1 HI6.out.hz).1
  have HU : Hid (∀ k : Nat, (u3.setCell ⟨db, 0, none⟩ (.int .i64 (time + 1))).heap.size ≤ k → u7.heap[k]? = u6.heap[k]?) := by
   have hs3 : w.heap.size + 1 < u3.heap.size := (Array.getElem?_eq_some_iff.1 HI3.out.hz).1
   refine Lib.hid fun k hk => ?_
   have hk' : u3.heap.size ≤ k := by simpa [World.setCell] using hk
   rw [hu7]
   rw [Deep.blk_setCell_other _ _ _ _ (show k ≠ w.heap.size + 1 by omega), Deep.blk_setCell_other _ _ _ _ (show k ≠ w.heap.size + 1 by omega), Deep.blk_setCell_other _ _ _ _ (show k ≠ w.heap.size + 1 by omega), Deep.blk_setCell_other _ _ _ _ (show k ≠ w.heap.size + 1 by omega),
    Deep.blk_setCell_other _ _ _ _ (show k ≠ w.heap.size by omega), Deep.blk_setCell_other _ _ _ _ (show k ≠ w.heap.size by omega), Deep.blk_setCell_other _ _ _ _ (show k ≠ w.heap.size by omega), Deep.blk_setCell_other _ _ _ _ (show k ≠ w.heap.size by omega)]
  go_wp2_with fail
  rw [← hu7]
  clear b0 b1 b2 b3 b4 b5 b6 b7 bf bf' hu7 hzz HI4 HI3 HB0 HB1
  obtain ⟨c0, c1, c2, cf⟩ := HI7.out.db'.cells
  obtain ⟨b0, b1, b2, b3, b4, b5, b6, b7⟩ := HI7.out.flat
  have hdl : db < u7.heap.size := HI7.out.db'.lt
  have hxl : w.heap.size < u7.heap.size := (Array.getElem?_eq_some_iff.1 HI7.out.hx).1
  have hzl : w.heap.size + 1 < u7.heap.size := (Array.getElem?_eq_some_iff.1 HI7.out.hz).1
  have hwl : w.heap.size ≤ u7.heap.size := by omega
  obtain ⟨i0, z0, hi0, hz0, hz1, hz2, hz3⟩ := cl_info
  have hbb : Below u7.heap.size u7 ((u7.alloc (.cells (encCl ⟨x', y', time + 1, -1⟩).toArray 163)).drew) := ((Below.refl _ _).alloc (Nat.le_refl _) _).drew
  obtain ⟨g9, cap9, w9, hr9, hR9, hg9, ho9⟩ := Row.push (P := Tryz.prog) 144 Tryz.underlying144 hi0 hz0 hz1 hz2 hz3 (by decide) encCl_len encCl_one
   (w := (u7.alloc (.cells (encCl ⟨x', y', time + 1, -1⟩).toArray 163)).drew) (HI7.out.later hbb).cl ⟨x', y', time + 1, -1⟩ u7.heap.size 1
   (fun j u hu => cell_made u7 _ _ j u (by simpa using hu)) (by unfold maxLen; omega) (by omega) (by simp; omega)
  have hcl9 := (HI7.out.later hbb).setCl hR9 hg9 (by
   rcases ho9 with h | h
   ·exact .inl (by rw [h]; rfl)
   ·exact .inr ⟨g9, rfl, by rw [h]; exact Nat.le_refl _⟩)
  obtain ⟨⟨q2, qf⟩, hI9⟩ := hcl9
  have hT9 := fun k cs hk => (HI7.out.later hbb).cl_term hg9 (.slice (some ⟨g9, 0, none⟩) (cls.length + 1) cap9) k cs hk
  have hr9 : (Builtin.append_ #[144, 144] 144 #[.slice A N c, .slice (some ⟨u7.heap.size, 0, none⟩) 1 1]).run Tryz.prog (u7.alloc (.cells #[.int .i64 x'.k, .int .i64 x'.n, .string ⟨x'.s.toArray⟩, .slice x'.A x'.len x'.cap, .int .i64 y'.k, .int .i64 y'.n, .string ⟨y'.s.toArray⟩, .slice y'.A y'.len y'.cap, .int .i64 (time + 1), .int .i64 (-1)] 163)).drew = .ok (.slice (some ⟨g9, 0, none⟩) (cls.length + 1) cap9) w9 := hr9
  have HI9 := Lib.hid hI9
  have HT9 := Lib.hid hT9
  have hK4 : w9.cell? ⟨db, 0, none⟩ = some (.int .i64 (time + 1)) ∧ Flat w.heap.size (w.heap.size + 1) x' y' w9 := by
   obtain ⟨d0, _, _, _⟩ := hI9.db'.cells
   have hxd9 : w.heap.size ≠ db := hxd
   have hfl := hI9.flat
   have e1 := Deep.blk_setCell_other w9 ⟨db, 2, none⟩ (.slice (some ⟨g9, 0, none⟩) (cls.length + 1) cap9) w.heap.size hxd
   have e2 := Deep.blk_setCell_other w9 ⟨db, 2, none⟩ (.slice (some ⟨g9, 0, none⟩) (cls.length + 1) cap9) (w.heap.size + 1) hzd
   refine ⟨?_, flat_of (e1 ▸ hI9.hx) (e2 ▸ hI9.hz)⟩
   rw [World.cell?_setCell_other _ _ _ _ (by simp)] at d0
   exact d0
  have HK4 := Lib.hid hK4
  have HK5 : Hid ((w9.setCell ⟨db, 2, none⟩ (.slice (some ⟨g9, 0, none⟩) (cls.length + 1) cap9)).cell? ⟨db, 0, none⟩ = some (.int .i64 (time + 1)) ∧ Flat w.heap.size (w.heap.size + 1) x' y' (w9.setCell ⟨db, 2, none⟩ (.slice (some ⟨g9, 0, none⟩) (cls.length + 1) cap9))) := Lib.hid ⟨hI9.db'.cells.1, hI9.flat⟩
  have HK2 : Hid ((u7.alloc (.cells #[.int .i64 x'.k, .int .i64 x'.n, .string ⟨x'.s.toArray⟩, .slice x'.A x'.len x'.cap, .int .i64 y'.k, .int .i64 y'.n, .string ⟨y'.s.toArray⟩, .slice y'.A y'.len y'.cap, .int .i64 (time + 1), .int .i64 (-1)] 163)).drew.cell? ⟨db, 0, none⟩ = some (.int .i64 (time + 1)) ∧ Flat w.heap.size (w.heap.size + 1) x' y' (u7.alloc (.cells #[.int .i64 x'.k, .int .i64 x'.n, .string ⟨x'.s.toArray⟩, .slice x'.A x'.len x'.cap, .int .i64 y'.k, .int .i64 y'.n, .string ⟨y'.s.toArray⟩, .slice y'.A y'.len y'.cap, .int .i64 (time + 1), .int .i64 (-1)] 163)).drew) := Lib.hid ⟨(HI7.out.later hbb).db'.cells.1, (HI7.out.later hbb).flat⟩
  have HK1 : Hid (u7.drew.cell? ⟨db, 0, none⟩ = some (.int .i64 (time + 1)) ∧ Flat w.heap.size (w.heap.size + 1) x' y' u7.drew) := Lib.hid ⟨c0, HI7.out.flat⟩
  clear hI9 hT9 hR9 hg9 ho9 hbb hNl hK4
  go_cut [] from 68 (fun u => u = w9.setCell ⟨db, 2, none⟩ (.slice (some ⟨g9, 0, none⟩) (cls.length + 1) cap9))
  case first =>
   clear HK1 HK2 HK4 HK5 HI6 HI7 HCX HCY HU HX HY HPP
   go_region_law (first | (refine step_run rfl (.tmp 72) (.tmp 80) 144 rfl (by rfl) (by rfl) hr9 ?_))
   all_goals
    go_wp2_with fail
    go_meet
    rfl
  case rest =>
   obtain ⟨u10, rfl⟩ : ∃ u10 : World, u10 = wc := ⟨_, rfl⟩
   obtain ⟨A2, c2', rfl⟩ := HI7.out.od.shape
   have HI10 : Hid (DbAddSt w S B db mb pb w.heap.size (w.heap.size + 1) (time + 1) (esf pb) (.slice (some ⟨g9, 0, none⟩) (cls.length + 1) cap9) (cls ++ [⟨x', y', time + 1, -1⟩]) (kindOf kind dyn) (time + 1) (.slice A2 ord.length c2') ord x' y' u10) := by
    rw [hcut]; exact HI9
   have HT10 : Hid (∀ (k : Nat) cs, (u7.alloc (.cells (encCl ⟨x', y', time + 1, -1⟩).toArray 163)).drew.heap[k]? = some (Obj.cells cs 27 (0, 0)) → u10.heap[k]? = (u7.alloc (.cells (encCl ⟨x', y', time + 1, -1⟩).toArray 163)).drew.heap[k]?) := by
    rw [hcut]; exact HT9
   clear hcut HI9 HT9 HK1 HK2 HK4 HK5 c0 c1 c2 cf b0 b1 b2 b3 b4 b5 b6 b7 hi0 hz0 hz1 hz2 hz3 q2 qf hr9
   obtain ⟨i1, z1, hi1, hz4, hz5, hz6, hz7⟩ := dbint_info
   have hbi : Below u10.heap.size u10 ((u10.alloc (.cells #[.int .i64 (cls.length : Int)] 3)).drew) := ((Below.refl _ _).alloc (Nat.le_refl _) _).drew
   have hBu : B ≤ u10.heap.size := by have := HI10.out.fr.size; omega
   have HC10 : Hid (CopyAt w.heap.size u10 x x' ax ∧ CopyAt w.heap.size u10 y y' ay) := by
    have hk : ∀ (k : Nat) cs, u6.heap[k]? = some (Obj.cells cs 27 (0, 0)) → ((u3.setCell ⟨db, 0, none⟩ (.int .i64 (time + 1))).setCell ⟨pb, 1, none⟩ (.int .i64 (time + 1))).heap.size ≤ k → u10.heap[k]? = u6.heap[k]? := fun k cs hk hle => by
     have e1 := HU.out k (by simpa [World.setCell] using hle)
     have e2 : (u7.alloc (.cells (encCl ⟨x', y', time + 1, -1⟩).toArray 163)).drew.heap[k]? = u7.heap[k]? := (((Below.refl _ _).alloc (Nat.le_refl _) _).drew : Below u7.heap.size u7 _).block k ((Array.getElem?_eq_some_iff.1 (e1.trans hk)).1)
     rw [HT10.out k cs (e2.trans (e1.trans hk)), e2, e1]
    exact Lib.hid ⟨HCX.out.keep (by simpa [World.setCell] using HS3) hk, HCY.out.keep (by simpa [World.setCell] using HS3) hk⟩
   have HPr : Hid (∀ ov' w9, DbAddSt w S B db mb pb w.heap.size (w.heap.size + 1) (time + 1) (esf pb) (.slice (some ⟨g9, 0, none⟩) (cls.length + 1) cap9) (cls ++ [⟨x', y', time + 1, -1⟩]) (kindOf kind dyn) (time + 1) ov' (if front = true then (cls.length : Int) :: ord else ord ++ [(cls.length : Int)]) x' y' w9 → (∀ (k : Nat) cs, u10.heap[k]? = some (Obj.cells cs 27 (0, 0)) → w9.heap[k]? = u10.heap[k]?) →
       AddPost w S B db mb time esf P cls kind ord x y ax ay front dyn (Ending.returned (.tuple #[.int .i64 cls.length, .int .i64 0])) w9) :=
    Lib.hid fun ov' w9 h k => ⟨pb, _, _, x', y', _, ov', rfl, HPP.out, h, HC10.out.1.keep (Nat.le_refl _) (fun j cs hj _ => k j cs hj), HC10.out.2.keep (Nat.le_refl _) (fun j cs hj _ => k j cs hj)⟩
   cases front
   ·obtain ⟨gi, capi, w11, hr11, hR11, hg11, ho11⟩ := Row.push (P := Tryz.prog) 157 Tryz.underlying157 hi1 hz4 hz5 hz6 hz7 (by decide) encI_len encI_one
     (w := (u10.alloc (.cells #[.int .i64 (cls.length : Int)] 3))) (HI10.out.later ((Below.refl _ _).alloc (Nat.le_refl _) _)).od (cls.length : Int) u10.heap.size 1
     (fun j u hu => cell_made u10 _ _ j u (by simpa [encI] using hu)) (by unfold maxLen; omega) (by omega) (by simp; omega)
    have hI11 := (HI10.out.later ((Below.refl _ _).alloc (Nat.le_refl _) (.cells #[.int .i64 (cls.length : Int)] 3))).setOd hR11 (Fr.grown (Fr.refl _ _) hg11 (fun g hg => .inl hg)) (by
     rcases ho11 with h | h
     ·exact .inl (by rw [h]; rfl)
     ·exact .inr ⟨gi, rfl, by rw [h]; exact Nat.le_refl _⟩)
    have HK : Hid (∀ (k : Nat) cs, u10.heap[k]? = some (Obj.cells cs 27 (0, 0)) → (w11.setCell ⟨pb, 2, none⟩ (.slice (some ⟨gi, 0, none⟩) (ord.length + 1) capi)).heap[k]? = u10.heap[k]?) := Lib.hid fun k cs hk => by
     have hk1 := ((Below.refl _ _).alloc (Nat.le_refl _) (.cells #[.int .i64 (cls.length : Int)] 3) : Below u10.heap.size u10 _).block k (Array.getElem?_eq_some_iff.1 hk).1
     rw [← hk1]
     exact (HI10.out.later ((Below.refl _ _).alloc (Nat.le_refl _) (.cells #[.int .i64 (cls.length : Int)] 3))).od_term (Fr.grown (Fr.refl _ _) hg11 (fun g hg => .inl hg)) _ k cs (hk1.trans hk)
    obtain ⟨⟨q2, qf⟩, hI12⟩ := hI11
    have HI12 := Lib.hid hI12
    clear hI12 hR11 hg11 ho11 hbi
    obtain ⟨p0, p1, p2, p3, pf⟩ := HI10.out.pr.cells
    have hpl10 := HI10.out.pr.lt
    go_wp2_with (refine wpList_run (by rfl) (.tmp 103) (.tmp 105) 157 (by rfl) (by rfl) (by rfl) hr11 ?_)
    go_ret2
    exact HPr.out _ _ HI12.out HK.out
   ·have HINS : Hid (Calls Tryz.prog 67 #[.slice A2 ord.length c2', .int .i64 0, .slice (some ⟨u10.heap.size, 0, none⟩) 1 1] ((u10.alloc (.cells #[.int .i64 (cls.length : Int)] 3)).drew) fun e w11 => ∃ A3 c3, e = .returned (.slice A3 (ord.length + 1) c3) ∧ (w11.cell? ⟨pb, 2, none⟩ = some (.slice A2 ord.length c2') ∧ w11.frozen? ⟨pb, 2, none⟩ = false) ∧
         DbAddSt w S B db mb pb w.heap.size (w.heap.size + 1) (time + 1) (esf pb) (.slice (some ⟨g9, 0, none⟩) (cls.length + 1) cap9) (cls ++ [⟨x', y', time + 1, -1⟩]) (kindOf kind dyn) (time + 1) (.slice A3 (ord.length + 1) c3) ((cls.length : Int) :: ord) x' y' (w11.setCell ⟨pb, 2, none⟩ (.slice A3 (ord.length + 1) c3)) ∧
         ∀ (k : Nat) cs, u10.heap[k]? = some (Obj.cells cs 27 (0, 0)) → (w11.setCell ⟨pb, 2, none⟩ (.slice A3 (ord.length + 1) c3)).heap[k]? = u10.heap[k]?) := by
     refine Lib.hid ((insert_front _ B _ ord (HI10.out.later hbi).od u10.heap.size (cls.length : Int) (heap_alloc_new u10 _) (fun e => by have := (HI10.out.od.lt _ e).2; omega) (by omega) (Nat.le_trans hBu hbi.size)).mono ?_)
     rintro e w11 ⟨v', rfl, hr, hF, ho⟩
     obtain ⟨A3, c3, rfl⟩ := hr.shape
     obtain ⟨hq, hI⟩ := (HI10.out.later hbi).setOd hr hF (by
      rcases ho with h | h
      ·exact .inl h
      ·exact .inr ⟨_, h, Nat.le_refl _⟩)
     refine ⟨A3, c3, rfl, hq, hI, fun k cs hk => ?_⟩
     have hk1 := hbi.block k (Array.getElem?_eq_some_iff.1 hk).1
     rw [← hk1]
     exact (HI10.out.later hbi).od_term hF _ k cs (hk1.trans hk)
    clear hbi hi1 hz4 hz5 hz6 hz7
    obtain ⟨p0, p1, p2, p3, pf⟩ := HI10.out.pr.cells
    have hpl10 := HI10.out.pr.lt
    go_wp2_with fail
    go_region_with ((with_reducible refine HINS.out.mono ?_); rintro e w11 ⟨A3, c3, rfl, ⟨q2, qf⟩, hI, hk⟩; have HI12 := Lib.hid hI; have HK12 := Lib.hid hk; clear hI hk)
    all_goals
     go_wp2_with fail
     go_ret2
     exact HPr.out _ _ HI12.out HK12.out
end Go.Proofs.YtjdnigepnfeboaaGreatDoor
