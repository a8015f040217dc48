import Derived.Test.YtiffopheamnngaaGreatDoorJT05
import Derived.Shelf.Small.Strs
import Derived.Shelf.Small.Wraps
import Derived.Shelf.LaysM
import Derived.Shelf.Strings.Fields
namespace Go.Proofs
open Go.Shelf
def Tryz.lays157_ren : Go.Shelf.Ren := ⟨fun | 157 => 39 | 229 => 72 | 199 => 73 | 261 => 97 | 311 => 110 | 312 => 111 | n => n, fun | 9 => 9 | 31 => 90 | 3 => 3 | 5 => 5 | 4 => 4 | 119 => 133 | 0 => 0 | 40 => 135 | 152 => 152 | 21 => 21 | 154 => 154 | 51 => 155 | 141 => 157 | 196 => 171 | 193 => 168 | 198 => 174 | 49 => 172 | 194 => 169 | 201 => 177 | 226 => 181 | 46 => 162 | 227 => 182 | n => n, fun | 0 => 1 | 6 => 2 | n => n⟩
theorem Tryz.lays157 : Go.Proofs.Lays.n157 Tryz.prog Tryz.lays157_ren := {
 mixed := by kernel_rfl
 f157 := Tryz.func39.trans (congrArg some (by kernel_rfl))
 f199 := Tryz.func73.trans (congrArg some (by kernel_rfl))
 f229 := Tryz.func72.trans (congrArg some (by kernel_rfl))
 f261 := Tryz.func97.trans (congrArg some (by kernel_rfl))
 f311 := Tryz.func110.trans (congrArg some (by kernel_rfl))
 f312 := Tryz.func111.trans (congrArg some (by kernel_rfl))
 t0 := Tryz.underlying0
 a0 := Tryz.isAgg0
 z0 := Tryz.sizeOf0
 v0 := Tryz.zeroValue0
 t3 := Tryz.underlying3
 a3 := Tryz.isAgg3
 z3 := Tryz.sizeOf3
 v3 := Tryz.zeroValue3
 t4 := Tryz.underlying4
 a4 := Tryz.isAgg4
 z4 := Tryz.sizeOf4
 v4 := Tryz.zeroValue4
 t5 := Tryz.underlying5
 a5 := Tryz.isAgg5
 z5 := Tryz.sizeOf5
 v5 := Tryz.zeroValue5
 t9 := Tryz.underlying9
 a9 := Tryz.isAgg9
 z9 := Tryz.sizeOf9
 v9 := Tryz.zeroValue9
 t21 := Tryz.underlying21
 a21 := Tryz.isAgg21
 z21 := Tryz.sizeOf21
 v21 := Tryz.zeroValue21
 t31 := Tryz.underlying90
 a31 := Tryz.isAgg90
 z31 := Tryz.sizeOf90
 v31 := Tryz.zeroValue90
 t40 := Tryz.underlying135
 a40 := Tryz.isAgg135
 z40 := Tryz.sizeOf135
 v40 := Tryz.zeroValue135
 t46 := Tryz.underlying162
 a46 := Tryz.isAgg162
 z46 := Tryz.sizeOf162
 v46 := Tryz.zeroValue162
 t49 := Tryz.underlying172
 a49 := Tryz.isAgg172
 z49 := Tryz.sizeOf172
 v49 := Tryz.zeroValue172
 t51 := Tryz.underlying155
 a51 := Tryz.isAgg155
 z51 := Tryz.sizeOf155
 v51 := Tryz.zeroValue155
 t119 := Tryz.underlying133
 a119 := Tryz.isAgg133
 z119 := Tryz.sizeOf133
 t141 := Tryz.underlying157
 a141 := Tryz.isAgg157
 z141 := Tryz.sizeOf157
 v141 := Tryz.zeroValue157
 t152 := Tryz.underlying152
 a152 := Tryz.isAgg152
 z152 := Tryz.sizeOf152
 v152 := Tryz.zeroValue152
 t154 := Tryz.underlying154
 a154 := Tryz.isAgg154
 z154 := Tryz.sizeOf154
 v154 := Tryz.zeroValue154
 t193 := Tryz.underlying168
 a193 := Tryz.isAgg168
 z193 := Tryz.sizeOf168
 v193 := Tryz.zeroValue168
 t194 := Tryz.underlying169
 a194 := Tryz.isAgg169
 z194 := Tryz.sizeOf169
 v194 := Tryz.zeroValue169
 t196 := Tryz.underlying171
 a196 := Tryz.isAgg171
 z196 := Tryz.sizeOf171
 v196 := Tryz.zeroValue171
 t198 := Tryz.underlying174
 a198 := Tryz.isAgg174
 z198 := Tryz.sizeOf174
 v198 := Tryz.zeroValue174
 t201 := Tryz.underlying177
 a201 := Tryz.isAgg177
 z201 := Tryz.sizeOf177
 v201 := Tryz.zeroValue177
 t226 := Tryz.underlying181
 a226 := Tryz.isAgg181
 z226 := Tryz.sizeOf181
 v226 := Tryz.zeroValue181
 t227 := Tryz.underlying182
 a227 := Tryz.isAgg182
 z227 := Tryz.sizeOf182
 v227 := Tryz.zeroValue182
 g0 := by kernel_rfl
 g6 := by kernel_rfl }
open Go.RowKit Go.Lib in
theorem Tryz.strings_Fields (s : ByteArray) (w : World) (hs : s.size < 4294967281) (hascii : ∀ (j : Nat) b, s.data.toList[j]? = some b → b.toNat < 128) (htab : Lib.TabIs Tryz.prog w "strings.asciiSpace" .u8 Lib.asciiSpaceTab) :
    Calls Tryz.prog 39 #[.string s] w fun e w' =>
     e = .returned (.slice (some ⟨w.heap.size, 0, none⟩) (Lib.fields s.data.toList).length (Lib.fields s.data.toList).length) ∧ w' = w.alloc (.cells ((Lib.fields s.data.toList).map fun l => Value.string ⟨l.toArray⟩).toArray 9) := Any.strings_Fields Tryz.lays157 (by kernel_rfl) (by kernel_rfl) s w hs hascii htab
end Go.Proofs
namespace Go.Proofs.YtiffopheamnngaaGreatDoor
open Go.RowKit Go.Maps
set_option maxRecDepth 100000
def initRows : List (Int × Nat × List UInt8) := [
 (1200, 1, [58, 45, 32, 45, 45, 62]), (1200, 4, [58, 45, 32, 63, 45]), (1150, 4, [100, 121, 110, 97, 109, 105, 99]), (1100, 2, [59]), (1050, 2, [45, 62]), (1000, 2, [44]), (900, 5, [92, 43]),
 (700, 1, [61, 32, 92, 61, 32, 61, 61, 32, 92, 61, 61, 32, 64, 60, 32, 64, 62, 32, 64, 61, 60, 32, 64, 62, 61, 32, 61, 46, 46, 32, 105, 115, 32, 61, 58, 61, 32, 61, 92, 61, 32, 60, 32, 62, 32, 61, 60, 32, 62, 61]),
 (500, 3, [43, 32, 45, 32, 47, 92, 32, 92, 47, 32, 120, 111, 114]), (400, 3, [42, 32, 47, 32, 47, 47, 32, 114, 101, 109, 32, 109, 111, 100, 32, 100, 105, 118, 32, 60, 60, 32, 62, 62]), (200, 1, [42, 42]), (200, 2, [94]), (200, 5, [45, 32, 43, 32, 92])]
def rowAt (k : Nat) : Int × Nat × List UInt8 := initRows.getD k (0, 0, [])
def putRow' (es : List (OpK × OpV)) (p : Int) (t : Nat) (names : List (List UInt8)) : List (OpK × OpV) := names.foldl (fun es n => mput es (kSort t, n) (p, (t : Int))) es
def tabTo (k : Nat) : List (OpK × OpV) := (initRows.take k).foldl (fun es r => putRow' es r.1 r.2.1 (Lib.fields r.2.2)) []
def opsInit : List (OpK × OpV) := tabTo 13
theorem rowAt_facts : ∀ k : Nat, k < 13 → (1 ≤ (rowAt k).1 ∧ (rowAt k).1 ≤ 1200) ∧ (1 ≤ (rowAt k).2.1 ∧ (rowAt k).2.1 ≤ 7) ∧ (∀ b ∈ (rowAt k).2.2, b.toNat < 128) ∧ (rowAt k).2.2.length ≤ 1000 ∧ (∀ n ∈ Lib.fields (rowAt k).2.2, n.length ≤ 1000) ∧ (Lib.fields (rowAt k).2.2).length ≤ 1000 := by
 decide +kernel
theorem tabTo_succ (k : Nat) (h : k < 13) : tabTo (k + 1) = putRow' (tabTo k) (rowAt k).1 (rowAt k).2.1 (Lib.fields (rowAt k).2.2) := by
 unfold tabTo
 rw [List.take_succ_eq_append_getElem (show k < initRows.length from h), List.foldl_append]
 simp [rowAt, List.getD, List.getElem?_eq_getElem (show k < initRows.length from h)]
theorem putRow'_snoc (es : List (OpK × OpV)) (p : Int) (t : Nat) (l : List (List UInt8)) (j : Nat) (h : j < l.length) :
    putRow' es p t (l.take (j + 1)) = mput (putRow' es p t (l.take j)) (kSort t, l[j]) (p, (t : Int)) := by
 unfold putRow'
 rw [List.take_succ_eq_append_getElem h, List.foldl_append]
 rfl
def RowsAt (w : World) (bs : Nat) : Prop := ∀ k : Nat, k < 13 → w.cell? ⟨bs, k * 3, none⟩ = some (.int .i64 (rowAt k).1) ∧ w.cell? ⟨bs, k * 3 + 1, none⟩ = some (.int .i64 ((rowAt k).2.1 : Int)) ∧ w.cell? ⟨bs, k * 3 + 2, none⟩ = some (.string ⟨(rowAt k).2.2.toArray⟩)
theorem RowsAt.keep {w w' : World} {bs : Nat} (h : RowsAt w bs) (hb : w'.heap[bs]? = w.heap[bs]?) : RowsAt w' bs := fun k hk => by
 obtain ⟨a, b, c⟩ := h k hk
 exact ⟨(World.cell?_of_block (a := ⟨bs, k * 3, none⟩) hb).trans a, (World.cell?_of_block (a := ⟨bs, k * 3 + 1, none⟩) hb).trans b, (World.cell?_of_block (a := ⟨bs, k * 3 + 2, none⟩) hb).trans c⟩
structure NewInv (w : World) (es : List (OpK × OpV)) (wr : World) : Prop where
 tab : TabAt wr (w.heap.size + 1) w.heap.size es
 rows : RowsAt wr (w.heap.size + 1 + 1)
 kinds : KindsAt wr
 kindsLt : 0 < w.heap.size
 sp : Lib.TabIs Tryz.prog wr "strings.asciiSpace" .u8 Lib.asciiSpaceTab
 spLt : 1 < w.heap.size
 below : Below w.heap.size w wr
 size : w.heap.size + 3 ≤ wr.heap.size
theorem tabIs_keep {w w' : World} (h : Lib.TabIs Tryz.prog w "strings.asciiSpace" .u8 Lib.asciiSpaceTab) (hb : w'.heap[1]? = w.heap[1]?) : Lib.TabIs Tryz.prog w' "strings.asciiSpace" .u8 Lib.asciiSpaceTab := by
 unfold Lib.TabIs World.var? at h ⊢
 have hg : Tryz.prog.globalNamed "strings.asciiSpace" = some 1 := by kernel_rfl
 rw [hg] at h ⊢
 simp only [Option.bind_some] at h ⊢
 rw [hb]
 exact h
theorem tabIs_lt {w : World} (h : Lib.TabIs Tryz.prog w "strings.asciiSpace" .u8 Lib.asciiSpaceTab) : 1 < w.heap.size := by
 unfold Lib.TabIs World.var? at h
 have hg : Tryz.prog.globalNamed "strings.asciiSpace" = some 1 := by kernel_rfl
 rw [hg] at h
 simp only [Option.bind_some] at h
 rcases Nat.lt_or_ge 1 w.heap.size with hlt | hge
 ·exact hlt
 ·rw [Array.getElem?_eq_none hge] at h
  cases h
theorem NewInv.fr {w wr wr' : World} {es es' : List (OpK × OpV)} (h : NewInv w es wr) (hF : Fr (· = w.heap.size) wr wr') (ht : TabAt wr' (w.heap.size + 1) w.heap.size es') : NewInv w es' wr' := by
 have hs := h.size
 have hk := h.kindsLt
 have hp := h.spLt
 exact ⟨ht, h.rows.keep (hF.block _ (by omega) (by omega)), h.kinds.keep (hF.block _ (by omega) (by omega)), hk, tabIs_keep h.sp (hF.block _ (by omega) (by omega)), hp,
  h.below.trans (hF.below (by omega) (by omega)), by have := hF.size; omega⟩
theorem NewInv.later {w wr wr' : World} {es : List (OpK × OpV)} (h : NewInv w es wr) (hb : Below wr.heap.size wr wr') : NewInv w es wr' := h.fr (.of_below _ hb) (h.tab.later hb)
structure InInv (w : World) (es : List (OpK × OpV)) (k bv bf : Nat) (wr : World) : Prop where
 inv : NewInv w es wr
 s0 : wr.cell? ⟨bv, 0, none⟩ = some (.int .i64 (rowAt k).1)
 s1 : wr.cell? ⟨bv, 1, none⟩ = some (.int .i64 ((rowAt k).2.1 : Int))
 nm : ∀ j n, (Lib.fields (rowAt k).2.2)[j]? = some n → wr.cell? ⟨bf, j, none⟩ = some (.string ⟨n.toArray⟩)
 bv_ge : w.heap.size + 3 ≤ bv
 bf_ge : w.heap.size + 3 ≤ bf
 bf_lt : bf < wr.heap.size
theorem InInv.fr {w wr wr' : World} {es es' : List (OpK × OpV)} {k bv bf : Nat} (h : InInv w es k bv bf wr) (hF : Fr (· = w.heap.size) wr wr') (ht : TabAt wr' (w.heap.size + 1) w.heap.size es') : InInv w es' k bv bf wr' := by
 have h1 := h.bv_ge
 have h2 := h.bf_ge
 have h3 := World.block_lt_of_cell? wr _ h.s0
 have h4 := h.bf_lt
 exact ⟨h.inv.fr hF ht, (hF.cell (p := ⟨bv, 0, none⟩) h3 (by simp only; omega)).trans h.s0, (hF.cell (p := ⟨bv, 1, none⟩) h3 (by simp only; omega)).trans h.s1,
  fun j n hj => (hF.cell (p := ⟨bf, j, none⟩) h4 (by simp only; omega)).trans (h.nm j n hj), h1, h2, by have := hF.size; omega⟩
set_option maxHeartbeats 1000000 in
theorem new_any (w : World) (hK : KindsAt w) (htab : Lib.TabIs Tryz.prog w "strings.asciiSpace" .u8 Lib.asciiSpaceTab) :
    Calls Tryz.prog 12 #[] w fun e w' => ∃ bt bm, e = .returned (.pointer (some ⟨bt, 0, none⟩)) ∧ TabAt w' bt bm opsInit ∧ w.heap.size ≤ bt ∧ w.heap.size ≤ bm ∧ bt ≠ bm ∧ Below w.heap.size w w' := by
 have hmm := @run_makeMap Tryz.prog
 have HK := Lib.hid hK
 have HTAB := Lib.hid htab
 clear hK htab
 go_enter Tryz.func12, Tryz.ntmps12
 go_wp2
 clear hmm
 go_loopw [24] (fun i wr => ∃ k : Nat, k ≤ 13 ∧ i = .int .i64 k ∧ NewInv w (tabTo k) wr) (fun i _ => 13 - (intOf i).toNat)
 case atStart =>
  refine ⟨0, by omega, rfl, ?_⟩
  have hK := HK.out
  have htab := HTAB.out
  have hk0 := hK.lt
  have hs0 := tabIs_lt htab
  refine ⟨⟨by simp [World.cell?_alloc_past, World.cell?_alloc_at], ?_, by simp [tabTo]⟩, ?_, ?_, hk0, ?_, hs0, ?_, by simp⟩
  ·exact (((MapAt.made w).alloc _).alloc _)
  ·intro k hk
   have : k = 0 ∨ k = 1 ∨ k = 2 ∨ k = 3 ∨ k = 4 ∨ k = 5 ∨ k = 6 ∨ k = 7 ∨ k = 8 ∨ k = 9 ∨ k = 10 ∨ k = 11 ∨ k = 12 := by omega
   rcases this with rfl | rfl | rfl | rfl | rfl | rfl | rfl | rfl | rfl | rfl | rfl | rfl | rfl <;>
    exact ⟨by rw [World.cell?_alloc_at _ _ _ _ (by simp)]; rfl, by rw [World.cell?_alloc_at _ _ _ _ (by simp)]; rfl, by rw [World.cell?_alloc_at _ _ _ _ (by simp)]; rfl⟩
  ·exact hK.later ((((Below.refl _ _).alloc (Nat.le_refl _) _).alloc (by simp) _).alloc (by simp; omega) _)
  ·exact tabIs_keep htab (((((Below.refl _ _).alloc (Nat.le_refl _) _).alloc (by simp) _).alloc (by simp; omega) _).block _ hs0)
  ·exact (((Below.refl _ _).alloc (Nat.le_refl _) _).alloc (by simp) _).alloc (by simp; omega) _
 case round =>
  obtain ⟨k, hk, rfl, hI⟩ := hrel
  by_cases hlt : k < 13
  ·obtain ⟨c0, c1, c2⟩ := hI.rows k hlt
   have hlt' : (k : Int) < 13 := by omega
   have HI := Lib.hid hI
   clear hI
   go_wp2_with fail
   have hI1 : NewInv w (tabTo k) (wr.alloc (.cells #[.int .i64 (rowAt k).1, .int .i64 ((rowAt k).2.1 : Int), .string ⟨(rowAt k).2.2.toArray⟩] 88)) := HI.out.later ((Below.refl _ _).alloc (Nat.le_refl _) _)
   obtain ⟨⟨p1, p2⟩, ⟨t1, t2⟩, ha, hl, hn, hnl⟩ := rowAt_facts k hlt
   refine (Tryz.strings_Fields _ _ (by simp only [ByteArray.size, List.size_toArray]; omega) (by intro j b hb; exact ha b (List.mem_of_getElem? hb)) hI1.sp).mono ?_
   rintro e w1 ⟨rfl, rfl⟩
   go_wp2
   obtain ⟨wo, rfl⟩ : ∃ wo : World, wo = wr := ⟨_, rfl⟩
   have hz := HI.out.size
   have hin : InInv w (tabTo k) k wo.heap.size (wo.heap.size + 1) ((wo.alloc (.cells #[.int .i64 (rowAt k).1, .int .i64 ((rowAt k).2.1 : Int), .string ⟨(rowAt k).2.2.toArray⟩] 88)).alloc
       (.cells ((Lib.fields (rowAt k).2.2).map fun l => Value.string ⟨l.toArray⟩).toArray 9)) := by
    refine ⟨hI1.later ((Below.refl _ _).alloc (Nat.le_refl _) _), ?_, ?_, ?_, by omega, by omega, by simp⟩
    ·rw [World.cell?_alloc_past _ _ _ (by simp), World.cell?_alloc_at _ _ _ _ rfl]; rfl
    ·rw [World.cell?_alloc_past _ _ _ (by simp), World.cell?_alloc_at _ _ _ _ rfl]; rfl
    ·intro j n hj
     rw [World.cell?_alloc_at _ _ _ _ (by simp)]
     simp [hj]
   have HIN := Lib.hid hin
   clear hin hI1
   go_loopw [32] (fun v wi => ∃ j : Nat, j ≤ (Lib.fields (rowAt k).2.2).length ∧ v = .int .i64 j ∧ InInv w (putRow' (tabTo k) (rowAt k).1 (rowAt k).2.1 ((Lib.fields (rowAt k).2.2).take j)) k wo.heap.size (wo.heap.size + 1) wi) (fun v _ => 1000 - (intOf v).toNat)
   case atStart => exact ⟨0, Nat.zero_le _, rfl, HIN.out⟩
   case round =>
    obtain ⟨j, hj, rfl, hJ⟩ := hrel
    by_cases hjl : j < (Lib.fields (rowAt k).2.2).length
    ·have hnj := hJ.nm j _ (List.getElem?_eq_getElem hjl)
     obtain ⟨k0, -, -⟩ := hJ.inv.kinds (rowAt k).2.1 t2
     have hc := hJ.inv.tab.cell
     have hs0 := hJ.s0
     have hs1 := hJ.s1
     have hgood := hJ.inv.tab.good
     have h8 : ((rowAt k).2.1 : Int) < 8 := by omega
     have h0 := hJ.inv.kinds.lt
     obtain ⟨w9, hup, hM, hG, -⟩ := MapAt.update (P := Tryz.prog) (t := 84) opKE Tryz.underlying84 hJ.inv.tab.map.drew hJ.inv.tab.ok (k := (kSort (rowAt k).2.1, (Lib.fields (rowAt k).2.2)[j])) ⟨by have := kSort_bd (rowAt k).2.1; simp only; omega, by have := hn _ (List.getElem_mem hjl); unfold maxLen; simp only; omega⟩ (((rowAt k).1, ((rowAt k).2.1 : Int)) : OpV)
     rw [show opk (kSort (rowAt k).2.1, (Lib.fields (rowAt k).2.2)[j]) = .agg #[.int .i64 (kSort (rowAt k).2.1), .string ⟨((Lib.fields (rowAt k).2.2)[j]).toArray⟩] from rfl, show opv ((rowAt k).1, ((rowAt k).2.1 : Int)) = .agg #[.int .i64 (rowAt k).1, .int .i64 ((rowAt k).2.1 : Int)] from rfl] at hup
     have hF : Fr (· = w.heap.size) wr w9 := ((Fr.refl _ _).drew).grown hG (fun g hg => .inl (Option.some.inj hg).symm)
     have hT9 : TabAt w9 (w.heap.size + 1) w.heap.size (putRow' (tabTo k) (rowAt k).1 (rowAt k).2.1 ((Lib.fields (rowAt k).2.2).take (j + 1))) := by
      rw [putRow'_snoc _ _ _ _ _ hjl]
      refine hJ.inv.tab.changed hF (by omega) hM ?_
      intro x hx
      rcases mem_mput hx with hx | rfl
      ·exact hgood x hx
      ·exact ⟨rfl, hn _ (List.getElem_mem hjl), p1, p2, by simp only; omega, by simp only; omega⟩
     have HJ9 := Lib.hid (hJ.fr hF hT9)
     have hjl' : (j : Int) < ((Lib.fields (rowAt k).2.2).length : Int) := by omega
     have hlen : (Lib.fields (rowAt k).2.2).length ≤ 1000 := hnl
     clear hJ hgood hM hG hF hT9 hn hnl HIN HI
     go_wp2
     go_region
     go_wp2
     go_roundw
     case rel => exact ⟨j + 1, hjl, by go_num, HJ9.out⟩
     case measure => simp [intOf]; omega
    ·have hjl' : ¬ (j : Int) < ((Lib.fields (rowAt k).2.2).length : Int) := by omega
     have hfin : NewInv w (tabTo (k + 1)) wr := by
      rw [tabTo_succ k hlt]
      have := hJ.inv
      rw [List.take_of_length_le (by omega)] at this
      exact this
     have HF := Lib.hid hfin
     clear hJ hfin hn HIN HI
     go_wp2
     go_roundw
     case rel => exact ⟨k + 1, hlt, by go_num, HF.out⟩
     case measure => simp [intOf]; omega
  ·have hk13 : k = 13 := by omega
   subst hk13
   have HI := Lib.hid hI
   clear hI
   go_wp2
   go_ret
   exact ⟨_, _, rfl, HI.out.tab, by omega, by omega, by omega, HI.out.below⟩
attribute [irreducible] opsInit
abbrev DefT := Int × Int × List UInt8
def DefsAt (w : World) (B : Nat) (A : Option Addr) (n : Nat) (l : List DefT) : Prop :=
 l.length = n ∧ ∀ i x, l[i]? = some x → ∃ b off, A = some ⟨b, off, none⟩ ∧ b < B ∧ w.cell? ⟨b, off + i * 3, none⟩ = some (.int .i64 x.1) ∧ w.cell? ⟨b, off + i * 3 + 1, none⟩ = some (.int .i64 x.2.1) ∧
  w.cell? ⟨b, off + i * 3 + 2, none⟩ = some (.string ⟨x.2.2.toArray⟩) ∧ x.2.2.length ≤ maxLen
theorem DefsAt.keep {w w' : World} {B : Nat} {A : Option Addr} {n : Nat} {l : List DefT} (h : DefsAt w B A n l) (hb : ∀ k, k < B → w'.heap[k]? = w.heap[k]?) : DefsAt w' B A n l :=
 ⟨h.1, fun i x hx => by
  obtain ⟨b, off, h1, h2, h3, h4, h5, h6⟩ := h.2 i x hx
  exact ⟨b, off, h1, h2, (World.cell?_of_block (a := ⟨b, off + i * 3, none⟩) (hb b h2)).trans h3, (World.cell?_of_block (a := ⟨b, off + i * 3 + 1, none⟩) (hb b h2)).trans h4, (World.cell?_of_block (a := ⟨b, off + i * 3 + 2, none⟩) (hb b h2)).trans h5, h6⟩⟩
theorem DefsAt.below {w w' : World} {B : Nat} {A : Option Addr} {n : Nat} {l : List DefT} (h : DefsAt w B A n l) (hb : Below B w w') : DefsAt w' B A n l := h.keep hb.block
end Go.Proofs.YtiffopheamnngaaGreatDoor
