import Derived.Test.YtcallkljcjimiaaGreatDoorJW12
import Derived.Shelf.Strconv.Itoa4
import Derived.Test.YtcallkljcjimiaaGreatDoorProg
import Derived.WalkKit
import Derived.WalkSmall
import Derived.Lib.Hide
import Derived.Lib.AppendStr
import Derived.Deep.RegionHeld3
namespace Go.Proofs
open Go.Shelf
def Tryz.lays173_ren : Go.Shelf.Ren := ⟨fun | 173 => 105 | 246 => 132 | 283 => 148 | 284 => 149 | 285 => 150 | 286 => 151 | 129 => 158 | 317 => 157 | 318 => 159 | 319 => 160 | 320 => 161 | 337 => 163 | 338 => 164 | n => n, fun | 2 => 2 | 3 => 3 | 9 => 9 | 4 => 4 | 171 => 218 | 0 => 0 | 53 => 202 | 37 => 72 | 5 => 5 | 173 => 221 | 212 => 228 | 51 => 181 | 20 => 20 | 213 => 229 | 46 => 64 | 232 => 234 | 233 => 235 | n => n, fun | 17 => 4 | 18 => 5 | 19 => 6 | n => n⟩
theorem Tryz.lays173 : Go.Proofs.LaysM.n173 Tryz.prog Tryz.lays173_ren := {
 mixed := by kernel_rfl
 f129 := Tryz.func158.trans (congrArg some (by kernel_rfl))
 f173 := Tryz.func105.trans (congrArg some (by kernel_rfl))
 f246 := Tryz.func132.trans (congrArg some (by kernel_rfl))
 f283 := Tryz.func148.trans (congrArg some (by kernel_rfl))
 f284 := Tryz.func149.trans (congrArg some (by kernel_rfl))
 f285 := Tryz.func150.trans (congrArg some (by kernel_rfl))
 f286 := Tryz.func151.trans (congrArg some (by kernel_rfl))
 f317 := Tryz.func157.trans (congrArg some (by kernel_rfl))
 f318 := Tryz.func159.trans (congrArg some (by kernel_rfl))
 f319 := Tryz.func160.trans (congrArg some (by kernel_rfl))
 f320 := Tryz.func161.trans (congrArg some (by kernel_rfl))
 f337 := Tryz.func163.trans (congrArg some (by kernel_rfl))
 f338 := Tryz.func164.trans (congrArg some (by kernel_rfl))
 t0 := Tryz.underlying0
 a0 := Tryz.isAgg0
 z0 := Tryz.sizeOf0
 v0 := Tryz.zeroValue0
 t2 := Tryz.underlying2
 a2 := Tryz.isAgg2
 z2 := Tryz.sizeOf2
 v2 := Tryz.zeroValue2
 t3 := Tryz.underlying3
 a3 := Tryz.isAgg3
 z3 := Tryz.sizeOf3
 v3 := Tryz.zeroValue3
 t4 := Tryz.underlying4
 a4 := Tryz.isAgg4
 z4 := Tryz.sizeOf4
 v4 := Tryz.zeroValue4
 t5 := Tryz.underlying5
 a5 := Tryz.isAgg5
 z5 := Tryz.sizeOf5
 v5 := Tryz.zeroValue5
 t9 := Tryz.underlying9
 a9 := Tryz.isAgg9
 z9 := Tryz.sizeOf9
 v9 := Tryz.zeroValue9
 t20 := Tryz.underlying20
 a20 := Tryz.isAgg20
 z20 := Tryz.sizeOf20
 v20 := Tryz.zeroValue20
 t37 := Tryz.underlying72
 a37 := Tryz.isAgg72
 z37 := Tryz.sizeOf72
 v37 := Tryz.zeroValue72
 t46 := Tryz.underlying64
 a46 := Tryz.isAgg64
 z46 := Tryz.sizeOf64
 v46 := Tryz.zeroValue64
 t51 := Tryz.underlying181
 a51 := Tryz.isAgg181
 z51 := Tryz.sizeOf181
 v51 := Tryz.zeroValue181
 t53 := Tryz.underlying202
 a53 := Tryz.isAgg202
 z53 := Tryz.sizeOf202
 v53 := Tryz.zeroValue202
 t171 := Tryz.underlying218
 a171 := Tryz.isAgg218
 z171 := Tryz.sizeOf218
 v171 := Tryz.zeroValue218
 t173 := Tryz.underlying221
 a173 := Tryz.isAgg221
 z173 := Tryz.sizeOf221
 v173 := Tryz.zeroValue221
 t212 := Tryz.underlying228
 a212 := Tryz.isAgg228
 z212 := Tryz.sizeOf228
 v212 := Tryz.zeroValue228
 t213 := Tryz.underlying229
 a213 := Tryz.isAgg229
 z213 := Tryz.sizeOf229
 t232 := Tryz.underlying234
 a232 := Tryz.isAgg234
 z232 := Tryz.sizeOf234
 v232 := Tryz.zeroValue234
 t233 := Tryz.underlying235
 a233 := Tryz.isAgg235
 z233 := Tryz.sizeOf235
 v233 := Tryz.zeroValue235
 g17 := by kernel_rfl
 g18 := by kernel_rfl
 g19 := by kernel_rfl
 i0 := by kernel_rfl
 i2 := by kernel_rfl
 i3 := by kernel_rfl
 i4 := by kernel_rfl
 i5 := by kernel_rfl
 i9 := by kernel_rfl
 i20 := by kernel_rfl
 i37 := by kernel_rfl
 i46 := by kernel_rfl
 i51 := by kernel_rfl
 i53 := by kernel_rfl
 i171 := by kernel_rfl
 i173 := by kernel_rfl
 i212 := by kernel_rfl
 i232 := by kernel_rfl
 i233 := by kernel_rfl
 m17 := by kernel_rfl
 m18 := by kernel_rfl
 m19 := by kernel_rfl }
open Go.RowKit in
theorem Tryz.strconv_FormatInt_10 (n : Int) (h0 : -9223372036854775808 ≤ n) (h1 : n ≤ 9223372036854775807) (w : World) (htab : Lib.TabIs Tryz.prog w "internal/strconv.uint64pow10" .u64 Lib.pow10Tab) :
    Calls Tryz.prog 105 #[.int .i64 n, .int .i64 10] w fun e w' => e = .returned (.string ⟨(Lib.itoa n).toArray⟩) ∧ ∃ k os, w' = Sort.grow (w.drewN k) os := Any.strconv_FormatInt_10 Tryz.lays173 n h0 h1 w htab
end Go.Proofs
namespace Go.Proofs.YtcallkljcjimiaaGreatDoor
open Go.RowKit
set_option maxRecDepth 100000
def PowAt (w : World) : Prop := Lib.TabIs Tryz.prog w "internal/strconv.uint64pow10" .u64 Lib.pow10Tab
theorem PowAt.keep {w w' : World} (h : PowAt w) (hb : w'.heap[4]? = w.heap[4]?) : PowAt w' := by
 unfold PowAt Lib.TabIs World.var? at h ⊢
 have hg : Tryz.prog.globalNamed "internal/strconv.uint64pow10" = some 4 := by kernel_rfl
 rw [hg] at h ⊢
 simp only [Option.bind_some] at h ⊢
 rw [hb]
 exact h
theorem PowAt.lt {w : World} (h : PowAt w) : 4 < w.heap.size := by
 unfold PowAt Lib.TabIs World.var? at h
 have hg : Tryz.prog.globalNamed "internal/strconv.uint64pow10" = some 4 := by kernel_rfl
 rw [hg] at h
 simp only [Option.bind_some] at h
 rcases Nat.lt_or_ge 4 w.heap.size with hlt | hge
 ·exact hlt
 ·rw [Array.getElem?_eq_none hge] at h
  cases h
theorem PowAt.later {w w' : World} (h : PowAt w) (hb : Below w.heap.size w w') : PowAt w' := h.keep (hb.block _ h.lt)
theorem below_grow (w : World) (k : Nat) (os : Array Obj) : Below w.heap.size w (Sort.grow (w.drewN k) os) := by
 refine ⟨rfl, rfl, rfl, ?_, fun i hi => ?_⟩
 ·show w.heap.size ≤ (w.heap ++ os).size
  rw [Array.size_append]
  omega
 ·show (w.heap ++ os)[i]? = w.heap[i]?
  rw [Array.getElem?_append_left hi]
set_option maxHeartbeats 1000000 in
theorem print_any (w : World) (hP : PowAt w) (n : Int) (h0 : -9223372036854775808 ≤ n) (h1 : n ≤ 9223372036854775807) :
    Calls Tryz.prog 63 #[.int .i64 n] w fun e w' => e = .returned (.string ⟨(Lib.itoa n).toArray⟩) ∧ Below w.heap.size w w' := by
 go_enter Tryz.func63, Tryz.ntmps63
 go_wp2_with fail
 refine (Tryz.strconv_FormatInt_10 n h0 h1 w hP).mono ?_
 rintro e w1 ⟨rfl, k, os, rfl⟩
 have hb := below_grow w k os
 generalize Sort.grow (w.drewN k) os = w1 at hb ⊢
 go_wp2_with fail
 go_ret
 exact ⟨rfl, hb⟩
open Go.RowKit Go.Maps
theorem wb_info : ∃ i, Tryz.prog.info? 5 = some i ∧ i.zero = some (.int .u8 0) ∧ i.size = 1 ∧ i.bytes = 1 := by
 refine ⟨_, rfl, ?_, ?_, ?_⟩ <;> kernel_rfl
theorem strCells_enc (s : List UInt8) : Lib.strCells ⟨s.toArray⟩ = s.flatMap encBy := by
 unfold Lib.strCells
 simp only
 induction s with
 | nil => rfl
 | cons c r ih =>
  rw [List.flatMap_cons]
  simp only [List.map_cons] at ih ⊢
  rw [ih]
  rfl
def putV (wb : Nat) : Value := .func (.func 32) #[.pointer (some ⟨wb, 0, none⟩)] #[]
structure WrAt (u : World) (B wb bt : Nat) (way : Int) (acc : List UInt8) : Prop where
 blk : ∃ A c, u.heap[wb]? = some (.cells #[.slice A acc.length c, .int .i64 way, .pointer (some ⟨bt, 0, none⟩), putV wb] 75 (0, 0)) ∧ Row u B 5 1 encBy (.slice A acc.length c) acc
 wbB : wb < B
def WrS (u : World) (B wb k : Nat) : Prop := k = wb ∨ (B ≤ k ∧ TyB u 5 k)
section
variable {u u' u'' : World} {B wb bt : Nat} {way : Int} {acc : List UInt8}
theorem WrAt.lt (h : WrAt u B wb bt way acc) : wb < u.heap.size := by
 obtain ⟨A, c, k1, _⟩ := h.blk
 exact (Array.getElem?_eq_some_iff.1 k1).1
theorem WrAt.later (h : WrAt u B wb bt way acc) (hb : Below u.heap.size u u') : WrAt u' B wb bt way acc := by
 obtain ⟨A, c, k1, k2⟩ := h.blk
 exact ⟨⟨A, c, (hb.block _ (Array.getElem?_eq_some_iff.1 k1).1).trans k1, k2.later hb⟩, h.wbB⟩
theorem WrS.trans (h : Fr (WrS u B wb) u u') (k : Fr (WrS u' B wb) u' u'') : Fr (WrS u B wb) u u'' :=
 ⟨k.os.trans h.os, k.tape.trans h.tape, k.output.trans h.output, Nat.le_trans h.size k.size, fun i hi hn => by
  refine (k.block i (Nat.lt_of_lt_of_le hi h.size) fun e => hn ?_).trans (h.block i hi hn)
  rcases e with e | ⟨e1, cs, e2⟩
  ·exact .inl e
  ·rw [h.block i hi hn] at e2
   exact .inr ⟨e1, cs, e2⟩⟩
theorem WrS.step (h : Fr (WrS u B wb) u u') (k : Below u'.heap.size u' u'') : Fr (WrS u B wb) u u'' := h.step k
theorem WrS.off {t : TypeId} {k : Nat} (h : TyB u t k) (ht : t ≠ 5) (hk : k ≠ wb) : ¬ WrS u B wb k := by
 rintro (e | ⟨_, e⟩)
 ·exact hk e
 ·exact h.ne e ht rfl
theorem WrS.low {B0 k : Nat} (h1 : B0 ≤ wb) (h2 : B0 ≤ B) (hk : k < B0) : ¬ WrS u B wb k := by
 rintro (e | ⟨e, _⟩) <;> omega
theorem WrS.below {B0 : Nat} (h : Fr (WrS u B wb) u u') (h1 : B0 ≤ wb) (h2 : B0 ≤ B) (h3 : B0 ≤ u.heap.size) : Below B0 u u' := h.below h3 fun _ hk => WrS.low h1 h2 hk
theorem WrS.keep {cs : Array Value} {t : TypeId} {k : Nat} (h : Fr (WrS u B wb) u u') (hk : u.heap[k]? = some (.cells cs t (0, 0))) (ht : t ≠ 5) (hne : k ≠ wb) : u'.heap[k]? = some (.cells cs t (0, 0)) :=
 (h.block k (Array.getElem?_eq_some_iff.1 hk).1 (WrS.off ⟨_, hk⟩ ht hne)).trans hk
end
set_option maxHeartbeats 4000000 in
theorem wadd_any (u : World) (B wb bt : Nat) (way : Int) (acc s : List UInt8) (h : WrAt u B wb bt way acc) (hB : B ≤ u.heap.size) (hl : acc.length + s.length ≤ 100000000000) :
    Calls Tryz.prog 32 #[.pointer (some ⟨wb, 0, none⟩), .string ⟨s.toArray⟩] u fun e u' => e = .returned (.tuple #[]) ∧ WrAt u' B wb bt way (acc ++ s) ∧ Fr (WrS u B wb) u u' := by
 obtain ⟨A, c, hb, hr⟩ := h.blk
 obtain ⟨i0, hi, hz0, hz1, hz2⟩ := wb_info
 have hlt := h.lt
 have hsz : (⟨s.toArray⟩ : ByteArray).size = s.length := by simp [ByteArray.size]
 have c0 : u.cell? ⟨wb, 0, none⟩ = some (.slice A acc.length c) := by rw [cell_of_row u wb 0 _ _ (0, 0) hb]; rfl
 have HR := Lib.hid hr
 have HB := Lib.hid hb
 have HW := Lib.hid h.wbB
 have HL := Lib.hid hl
 have HBu := Lib.hid hB
 have HSZ := Lib.hid hsz
 clear hr hb h hsz hl hB
 go_enter Tryz.func32, Tryz.ntmps32
 go_wp2_with (at_builtin; refine Lib.wpList_append_own_string _ rfl _ _ 72 9 rfl B 5 i0 Tryz.underlying72 Tryz.underlying9 hi hz0 hz1 hz2 _ _ _ rfl HR.out.own ⟨s.toArray⟩ rfl ?c3 ?c4 ?c5 ?_)
 case c3 => have := HL.out; rw [HSZ.out]; unfold maxLen; omega
 case c4 => have := HL.out; rw [HSZ.out]; omega
 case c5 => exact HBu.out
 intro v' w2 hown' hgrow _
 rw [strCells_enc, ← List.flatMap_append, ← List.length_append] at hown'
 have hrow : Row w2 B 5 1 encBy v' (acc ++ s) := ⟨hown'⟩
 obtain ⟨A2, c2, rfl⟩ := hrow.shape
 have hne : ∀ g, (Value.slice A acc.length c).ownBlock = some g → WrS u B wb g := fun g hg => .inr ⟨(HR.out.lt g hg).1, HR.out.ty hg⟩
 have hF : Fr (WrS u B wb) u w2 := (Fr.refl (WrS u B wb) u).grown hgrow fun g e => .inl (hne g e)
 have hb2 : w2.heap[wb]? = some (.cells #[.slice A acc.length c, .int .i64 way, .pointer (some ⟨bt, 0, none⟩), putV wb] 75 (0, 0)) := by
  rw [hgrow.block wb hlt (fun e => by have h1 := (HR.out.lt wb e.symm).1; have h2 := HW.out; omega)]
  exact HB.out
 have d0 : w2.cell? ⟨wb, 0, none⟩ = some (.slice A acc.length c) := by rw [cell_of_row w2 wb 0 _ _ (0, 0) hb2]; rfl
 have df : w2.frozen? ⟨wb, 0, none⟩ = false := by simp [World.frozen?, hb2]
 have hW6 : WrAt (w2.setCell ⟨wb, 0, none⟩ (.slice A2 (acc ++ s).length c2)) B wb bt way (acc ++ s) := by
  refine ⟨⟨A2, c2, blk_put hb2 _, hrow.away _ fun k hk => ?_⟩, HW.out⟩
  have h1 := (hrow.lt k hk).1
  have h2 := HW.out
  simp only
  omega
 have HW6 := Lib.hid hW6
 have HF6 := Lib.hid (hF.setCell (p := ⟨wb, 0, none⟩) (.inl (.inl rfl)) (.slice A2 (acc ++ s).length c2))
 clear hown' hrow hne hF hb2 hW6 hgrow c0
 generalize (acc ++ s).length = m5 at HW6 HF6 ⊢
 go_wp2_with fail
 go_end0
 exact ⟨rfl, HW6.out, HF6.out⟩
structure WrE (u : World) (bt bm : Nat) (es : List (OpK × OpV)) : Prop where
 tab : TabAt u bt bm es
 kinds : KindsAt u
 pow : PowAt u
 bits : u.cell? ⟨6, 15, none⟩ = some (.int .u8 4)
structure WrLo (B0 bt bm : Nat) : Prop where
 bt : bt < B0
 bm : bm < B0
 kinds : 0 < B0
 pow : 4 < B0
 bits : 6 < B0
theorem WrE.keep {u u' : World} {bt bm B0 : Nat} {es : List (OpK × OpV)} (h : WrE u bt bm es) (hl : WrLo B0 bt bm) (hb : Below B0 u u') : WrE u' bt bm es :=
 ⟨h.tab.below hb hl.bt hl.bm, h.kinds.below hb hl.kinds, h.pow.keep (hb.block _ hl.pow), (hb.cell (p := ⟨6, 15, none⟩) hl.bits).trans h.bits⟩
set_option maxHeartbeats 2000000 in
theorem text_any (u : World) (B wb bt : Nat) (way : Int) (acc s : List UInt8) (h : WrAt u B wb bt way acc) (hs : s.length ≤ 1000) (ht : u.cell? ⟨6, 15, none⟩ = some (.int .u8 4)) :
    Calls Tryz.prog 64 #[.pointer (some ⟨wb, 0, none⟩), .string ⟨s.toArray⟩] u fun e u' => e = .returned (.string ⟨(textF way s).toArray⟩) ∧ Below u.heap.size u u' := by
 obtain ⟨A, c, hb, -⟩ := h.blk
 have c1 : u.cell? ⟨wb, 1, none⟩ = some (.int .i64 way) := by rw [cell_of_row u wb 1 _ _ (0, 0) hb]; rfl
 have HT := Lib.hid ht
 obtain ⟨T, hT⟩ : ∃ T, T = textF way s := ⟨_, rfl⟩
 rw [← hT]
 have HTT := Lib.hid hT
 clear hb ht h hT
 by_cases hw : way = 0
 ·have hw' : (way == 0) = true := by rw [hw]; rfl
  have hts : T = s := by rw [HTT.out]; unfold textF; rw [if_pos hw]
  clear hw
  go_enter Tryz.func64, Tryz.ntmps64
  go_wp2_with fail
  go_ret
  exact ⟨by rw [hts]; rfl, Below.refl _ _⟩
 ·have hw' : (way == 0) = false := beq_eq_false_iff_ne.2 hw
  have hts : T = putB s := by rw [HTT.out]; unfold textF; rw [if_neg hw]
  have HTS := Lib.hid hts
  clear hw hts
  go_enter Tryz.func64, Tryz.ntmps64
  go_wp2_with fail
  refine (put_any u s (by omega) HT.out).mono ?_
  rintro e w1 ⟨rfl, hb1⟩
  go_wp2_with fail
  go_ret
  exact ⟨by rw [HTS.out]; rfl, hb1⟩
set_option maxHeartbeats 2000000 in
theorem isl_any (u : World) (B : Nat) (x : TV) (t : Tm) (hx : TermAt u B x t) :
    Calls Tryz.prog 107 #[tvV x] u fun e u' => e = .returned (.bool (consT t)) ∧ Below u.heap.size u u' := by
 obtain ⟨k1, k2, k3, k4, k5, -⟩ := hx.open
 obtain ⟨r, hr⟩ : ∃ r, r = consT t := ⟨_, rfl⟩
 rw [← hr]
 have HR : Hid (r = (decide (x.k = 4) && (decide (x.s = [46]) && decide (x.len = 2)))) := Lib.hid (by rw [hr]; unfold consT; rw [k1, k3, k4])
 clear hr k1 k2 k3 k4 hx
 rw [tvV_lit]
 by_cases h1 : x.k = 4
 ·have b1 : (x.k == 4) = true := by rw [h1]; rfl
  by_cases h2 : x.s = [46]
  ·have b2 : (x.s == [46]) = true := by rw [h2]; rfl
   by_cases h3 : x.len = 2
   ·have hrt : r = true := by rw [HR.out, h1, h2, h3]; rfl
    have b3 : ((x.len : Int) == 2) = true := by rw [h3]; rfl
    clear h1 h2 h3
    go_enter Tryz.func107, Tryz.ntmps107
    go_wp2_with fail
    go_ret
    exact ⟨by rw [hrt]; simp_all, (Below.refl _ _).alloc (Nat.le_refl _) _⟩
   ·have hrt : r = false := by rw [HR.out, decide_eq_false h3]; simp
    have b3 : ((x.len : Int) == 2) = false := beq_eq_false_iff_ne.2 (by omega)
    clear h1 h2 h3
    go_enter Tryz.func107, Tryz.ntmps107
    go_wp2_with fail
    go_ret
    exact ⟨by rw [hrt]; simp_all, (Below.refl _ _).alloc (Nat.le_refl _) _⟩
  ·have hrt : r = false := by rw [HR.out, decide_eq_false h2]; simp
   have b2 : (x.s == [46]) = false := beq_eq_false_iff_ne.2 h2
   clear h1 h2
   go_enter Tryz.func107, Tryz.ntmps107
   go_wp2_with fail
   go_ret
   exact ⟨by rw [hrt]; rfl, (Below.refl _ _).alloc (Nat.le_refl _) _⟩
 ·have hrt : r = false := by rw [HR.out, decide_eq_false h1]; rfl
  have b1 : (x.k == 4) = false := beq_eq_false_iff_ne.2 h1
  clear h1
  go_enter Tryz.func107, Tryz.ntmps107
  go_wp2_with fail
  go_ret
  exact ⟨by rw [hrt]; rfl, (Below.refl _ _).alloc (Nat.le_refl _) _⟩
end Go.Proofs.YtcallkljcjimiaaGreatDoor
