import Derived.Test.YtjdnigepnfeboaaGreatDoorJG15
import Derived.Test.YtjdnigepnfeboaaGreatDoorJG17
import Derived.Test.YtjdnigepnfeboaaGreatDoorJG09
import Derived.Test.YtjdnigepnfeboaaGreatDoorJG06
import Derived.Shelf.SlSortCmp.InsertionK
namespace Go.Proofs.YtjdnigepnfeboaaGreatDoor
open Go.RowKit Go.Maps
set_option maxRecDepth 100000
def initRows : List (Int × Nat × List UInt8) := [
 (1200, 1, [58, 45, 32, 45, 45, 62]), (1200, 4, [58, 45, 32, 63, 45]), (1150, 4, [100, 121, 110, 97, 109, 105, 99]), (1100, 2, [59]), (1050, 2, [45, 62]), (1000, 2, [44]), (900, 5, [92, 43]),
 (700, 1, [61, 32, 92, 61, 32, 61, 61, 32, 92, 61, 61, 32, 64, 60, 32, 64, 62, 32, 64, 61, 60, 32, 64, 62, 61, 32, 61, 46, 46, 32, 105, 115, 32, 61, 58, 61, 32, 61, 92, 61, 32, 60, 32, 62, 32, 61, 60, 32, 62, 61]),
 (500, 3, [43, 32, 45, 32, 47, 92, 32, 92, 47, 32, 120, 111, 114]), (400, 3, [42, 32, 47, 32, 47, 47, 32, 114, 101, 109, 32, 109, 111, 100, 32, 100, 105, 118, 32, 60, 60, 32, 62, 62]), (200, 1, [42, 42]), (200, 2, [94]), (200, 5, [45, 32, 43, 32, 92])]
def rowAt (k : Nat) : Int × Nat × List UInt8 := initRows.getD k (0, 0, [])
def putRow' (es : List (OpK × OpV)) (p : Int) (t : Nat) (names : List (List UInt8)) : List (OpK × OpV) := names.foldl (fun es n => mput es (kSort t, n) (p, (t : Int))) es
def tabTo (k : Nat) : List (OpK × OpV) := (initRows.take k).foldl (fun es r => putRow' es r.1 r.2.1 (Lib.fields r.2.2)) []
def opsInit : List (OpK × OpV) := tabTo 13
theorem rowAt_facts : ∀ k : Nat, k < 13 → (1 ≤ (rowAt k).1 ∧ (rowAt k).1 ≤ 1200) ∧ (1 ≤ (rowAt k).2.1 ∧ (rowAt k).2.1 ≤ 7) ∧ (∀ b ∈ (rowAt k).2.2, b.toNat < 128) ∧ (rowAt k).2.2.length ≤ 1000 ∧ (∀ n ∈ Lib.fields (rowAt k).2.2, n.length ≤ 1000) ∧ (Lib.fields (rowAt k).2.2).length ≤ 1000 := by
 decide +kernel
theorem tabTo_succ (k : Nat) (h : k < 13) : tabTo (k + 1) = putRow' (tabTo k) (rowAt k).1 (rowAt k).2.1 (Lib.fields (rowAt k).2.2) := by
 unfold tabTo
 rw [List.take_succ_eq_append_getElem (show k < initRows.length from h), List.foldl_append]
 simp [rowAt, List.getD, List.getElem?_eq_getElem (show k < initRows.length from h)]
theorem putRow'_snoc (es : List (OpK × OpV)) (p : Int) (t : Nat) (l : List (List UInt8)) (j : Nat) (h : j < l.length) :
    putRow' es p t (l.take (j + 1)) = mput (putRow' es p t (l.take j)) (kSort t, l[j]) (p, (t : Int)) := by
 unfold putRow'
 rw [List.take_succ_eq_append_getElem h, List.foldl_append]
 rfl
def RowsAt (w : World) (bs : Nat) : Prop := ∀ k : Nat, k < 13 → w.cell? ⟨bs, k * 3, none⟩ = some (.int .i64 (rowAt k).1) ∧ w.cell? ⟨bs, k * 3 + 1, none⟩ = some (.int .i64 ((rowAt k).2.1 : Int)) ∧ w.cell? ⟨bs, k * 3 + 2, none⟩ = some (.string ⟨(rowAt k).2.2.toArray⟩)
theorem RowsAt.keep {w w' : World} {bs : Nat} (h : RowsAt w bs) (hb : w'.heap[bs]? = w.heap[bs]?) : RowsAt w' bs := fun k hk => by
 obtain ⟨a, b, c⟩ := h k hk
 exact ⟨(World.cell?_of_block (a := ⟨bs, k * 3, none⟩) hb).trans a, (World.cell?_of_block (a := ⟨bs, k * 3 + 1, none⟩) hb).trans b, (World.cell?_of_block (a := ⟨bs, k * 3 + 2, none⟩) hb).trans c⟩
structure NewInv (w : World) (es : List (OpK × OpV)) (wr : World) : Prop where
 tab : TabAt wr (w.heap.size + 1) w.heap.size es
 rows : RowsAt wr (w.heap.size + 1 + 1)
 kinds : KindsAt wr
 kindsLt : 0 < w.heap.size
 sp : Lib.TabIs Tryz.prog wr "strings.asciiSpace" .u8 Lib.asciiSpaceTab
 spLt : 1 < w.heap.size
 below : Below w.heap.size w wr
 size : w.heap.size + 3 ≤ wr.heap.size
 ty : ∃ cs, wr.heap[w.heap.size + 1]? = some (.cells cs 74 (0, 0))
theorem tabIs_keep {w w' : World} (h : Lib.TabIs Tryz.prog w "strings.asciiSpace" .u8 Lib.asciiSpaceTab) (hb : w'.heap[1]? = w.heap[1]?) : Lib.TabIs Tryz.prog w' "strings.asciiSpace" .u8 Lib.asciiSpaceTab := by
 unfold Lib.TabIs World.var? at h ⊢
 have hg : Tryz.prog.globalNamed "strings.asciiSpace" = some 1 := by kernel_rfl
 rw [hg] at h ⊢
 simp only [Option.bind_some] at h ⊢
 rw [hb]
 exact h
theorem tabIs_lt {w : World} (h : Lib.TabIs Tryz.prog w "strings.asciiSpace" .u8 Lib.asciiSpaceTab) : 1 < w.heap.size := by
 unfold Lib.TabIs World.var? at h
 have hg : Tryz.prog.globalNamed "strings.asciiSpace" = some 1 := by kernel_rfl
 rw [hg] at h
 simp only [Option.bind_some] at h
 rcases Nat.lt_or_ge 1 w.heap.size with hlt | hge
 ·exact hlt
 ·rw [Array.getElem?_eq_none hge] at h
  cases h
theorem NewInv.fr {w wr wr' : World} {es es' : List (OpK × OpV)} (h : NewInv w es wr) (hF : Fr (· = w.heap.size) wr wr') (ht : TabAt wr' (w.heap.size + 1) w.heap.size es') : NewInv w es' wr' := by
 have hs := h.size
 have hk := h.kindsLt
 have hp := h.spLt
 exact ⟨ht, h.rows.keep (hF.block _ (by omega) (by omega)), h.kinds.keep (hF.block _ (by omega) (by omega)), hk, tabIs_keep h.sp (hF.block _ (by omega) (by omega)), hp,
  h.below.trans (hF.below (by omega) (by omega)), by have := hF.size; omega, h.ty.imp fun cs hc => (hF.block _ (by omega) (by omega)).trans hc⟩
theorem NewInv.later {w wr wr' : World} {es : List (OpK × OpV)} (h : NewInv w es wr) (hb : Below wr.heap.size wr wr') : NewInv w es wr' := h.fr (.of_below _ hb) (h.tab.later hb)
structure InInv (w : World) (es : List (OpK × OpV)) (k bv bf : Nat) (wr : World) : Prop where
 inv : NewInv w es wr
 s0 : wr.cell? ⟨bv, 0, none⟩ = some (.int .i64 (rowAt k).1)
 s1 : wr.cell? ⟨bv, 1, none⟩ = some (.int .i64 ((rowAt k).2.1 : Int))
 nm : ∀ j n, (Lib.fields (rowAt k).2.2)[j]? = some n → wr.cell? ⟨bf, j, none⟩ = some (.string ⟨n.toArray⟩)
 bv_ge : w.heap.size + 3 ≤ bv
 bf_ge : w.heap.size + 3 ≤ bf
 bf_lt : bf < wr.heap.size
theorem InInv.fr {w wr wr' : World} {es es' : List (OpK × OpV)} {k bv bf : Nat} (h : InInv w es k bv bf wr) (hF : Fr (· = w.heap.size) wr wr') (ht : TabAt wr' (w.heap.size + 1) w.heap.size es') : InInv w es' k bv bf wr' := by
 have h1 := h.bv_ge
 have h2 := h.bf_ge
 have h3 := World.block_lt_of_cell? wr _ h.s0
 have h4 := h.bf_lt
 exact ⟨h.inv.fr hF ht, (hF.cell (p := ⟨bv, 0, none⟩) h3 (by simp only; omega)).trans h.s0, (hF.cell (p := ⟨bv, 1, none⟩) h3 (by simp only; omega)).trans h.s1,
  fun j n hj => (hF.cell (p := ⟨bf, j, none⟩) h4 (by simp only; omega)).trans (h.nm j n hj), h1, h2, by have := hF.size; omega⟩
set_option maxHeartbeats 1000000 in
theorem new_anyT (w : World) (hK : KindsAt w) (htab : Lib.TabIs Tryz.prog w "strings.asciiSpace" .u8 Lib.asciiSpaceTab) :
    Calls Tryz.prog 16 #[] w fun e w' => ∃ bt bm, e = .returned (.pointer (some ⟨bt, 0, none⟩)) ∧ TabAt w' bt bm opsInit ∧ w.heap.size ≤ bt ∧ w.heap.size ≤ bm ∧ bt ≠ bm ∧ Below w.heap.size w w' ∧ ∃ cs, w'.heap[bt]? = some (.cells cs 74 (0, 0)) := by
 have hmm := @run_makeMap Tryz.prog
 have HK := Lib.hid hK
 have HTAB := Lib.hid htab
 clear hK htab
 go_enter Tryz.func16, Tryz.ntmps16
 go_wp2
 clear hmm
 go_loopw [24] (fun i wr => ∃ k : Nat, k ≤ 13 ∧ i = .int .i64 k ∧ NewInv w (tabTo k) wr) (fun i _ => 13 - (intOf i).toNat)
 case atStart =>
  refine ⟨0, by omega, rfl, ?_⟩
  have hK := HK.out
  have htab := HTAB.out
  have hk0 := hK.lt
  have hs0 := tabIs_lt htab
  refine ⟨⟨by simp [World.cell?_alloc_past, World.cell?_alloc_at], ?_, by simp [tabTo]⟩, ?_, ?_, hk0, ?_, hs0, ?_, by simp, ⟨_, by rw [Below.heap_alloc _ _ _ (by simp)]; have := heap_alloc_new (w.alloc (.map #[] 0)) (.cells #[.map (some w.heap.size)] 74); rwa [World.size_alloc] at this⟩⟩
  ·exact (((MapAt.made w).alloc _).alloc _)
  ·intro k hk
   have : k = 0 ∨ k = 1 ∨ k = 2 ∨ k = 3 ∨ k = 4 ∨ k = 5 ∨ k = 6 ∨ k = 7 ∨ k = 8 ∨ k = 9 ∨ k = 10 ∨ k = 11 ∨ k = 12 := by omega
   rcases this with rfl | rfl | rfl | rfl | rfl | rfl | rfl | rfl | rfl | rfl | rfl | rfl | rfl <;>
    exact ⟨by rw [World.cell?_alloc_at _ _ _ _ (by simp)]; rfl, by rw [World.cell?_alloc_at _ _ _ _ (by simp)]; rfl, by rw [World.cell?_alloc_at _ _ _ _ (by simp)]; rfl⟩
  ·exact hK.later ((((Below.refl _ _).alloc (Nat.le_refl _) _).alloc (by simp) _).alloc (by simp; omega) _)
  ·exact tabIs_keep htab (((((Below.refl _ _).alloc (Nat.le_refl _) _).alloc (by simp) _).alloc (by simp; omega) _).block _ hs0)
  ·exact (((Below.refl _ _).alloc (Nat.le_refl _) _).alloc (by simp) _).alloc (by simp; omega) _
 case round =>
  obtain ⟨k, hk, rfl, hI⟩ := hrel
  by_cases hlt : k < 13
  ·obtain ⟨c0, c1, c2⟩ := hI.rows k hlt
   have hlt' : (k : Int) < 13 := by omega
   have HI := Lib.hid hI
   clear hI
   go_wp2_with fail
   have hI1 : NewInv w (tabTo k) (wr.alloc (.cells #[.int .i64 (rowAt k).1, .int .i64 ((rowAt k).2.1 : Int), .string ⟨(rowAt k).2.2.toArray⟩] 76)) := HI.out.later ((Below.refl _ _).alloc (Nat.le_refl _) _)
   obtain ⟨⟨p1, p2⟩, ⟨t1, t2⟩, ha, hl, hn, hnl⟩ := rowAt_facts k hlt
   refine (Tryz.strings_Fields _ _ (by simp only [ByteArray.size, List.size_toArray]; omega) (by intro j b hb; exact ha b (List.mem_of_getElem? hb)) hI1.sp).mono ?_
   rintro e w1 ⟨rfl, rfl⟩
   go_wp2
   obtain ⟨wo, rfl⟩ : ∃ wo : World, wo = wr := ⟨_, rfl⟩
   have hz := HI.out.size
   have hin : InInv w (tabTo k) k wo.heap.size (wo.heap.size + 1) ((wo.alloc (.cells #[.int .i64 (rowAt k).1, .int .i64 ((rowAt k).2.1 : Int), .string ⟨(rowAt k).2.2.toArray⟩] 76)).alloc
       (.cells ((Lib.fields (rowAt k).2.2).map fun l => Value.string ⟨l.toArray⟩).toArray 9)) := by
    refine ⟨hI1.later ((Below.refl _ _).alloc (Nat.le_refl _) _), ?_, ?_, ?_, by omega, by omega, by simp⟩
    ·rw [World.cell?_alloc_past _ _ _ (by simp), World.cell?_alloc_at _ _ _ _ rfl]; rfl
    ·rw [World.cell?_alloc_past _ _ _ (by simp), World.cell?_alloc_at _ _ _ _ rfl]; rfl
    ·intro j n hj
     rw [World.cell?_alloc_at _ _ _ _ (by simp)]
     simp [hj]
   have HIN := Lib.hid hin
   clear hin hI1
   go_loopw [32] (fun v wi => ∃ j : Nat, j ≤ (Lib.fields (rowAt k).2.2).length ∧ v = .int .i64 j ∧ InInv w (putRow' (tabTo k) (rowAt k).1 (rowAt k).2.1 ((Lib.fields (rowAt k).2.2).take j)) k wo.heap.size (wo.heap.size + 1) wi) (fun v _ => 1000 - (intOf v).toNat)
   case atStart => exact ⟨0, Nat.zero_le _, rfl, HIN.out⟩
   case round =>
    obtain ⟨j, hj, rfl, hJ⟩ := hrel
    by_cases hjl : j < (Lib.fields (rowAt k).2.2).length
    ·have hnj := hJ.nm j _ (List.getElem?_eq_getElem hjl)
     obtain ⟨k0, -, -⟩ := hJ.inv.kinds (rowAt k).2.1 t2
     have hc := hJ.inv.tab.cell
     have hs0 := hJ.s0
     have hs1 := hJ.s1
     have hgood := hJ.inv.tab.good
     have h8 : ((rowAt k).2.1 : Int) < 8 := by omega
     have h0 := hJ.inv.kinds.lt
     obtain ⟨w9, hup, hM, hG, -⟩ := MapAt.update (P := Tryz.prog) (t := 72) opKE Tryz.underlying72 hJ.inv.tab.map.drew hJ.inv.tab.ok (k := (kSort (rowAt k).2.1, (Lib.fields (rowAt k).2.2)[j])) ⟨by have := kSort_bd (rowAt k).2.1; simp only; omega, by have := hn _ (List.getElem_mem hjl); unfold maxLen; simp only; omega⟩ (((rowAt k).1, ((rowAt k).2.1 : Int)) : OpV)
     rw [show opk (kSort (rowAt k).2.1, (Lib.fields (rowAt k).2.2)[j]) = .agg #[.int .i64 (kSort (rowAt k).2.1), .string ⟨((Lib.fields (rowAt k).2.2)[j]).toArray⟩] from rfl, show opv ((rowAt k).1, ((rowAt k).2.1 : Int)) = .agg #[.int .i64 (rowAt k).1, .int .i64 ((rowAt k).2.1 : Int)] from rfl] at hup
     have hF : Fr (· = w.heap.size) wr w9 := ((Fr.refl _ _).drew).grown hG (fun g hg => .inl (Option.some.inj hg).symm)
     have hT9 : TabAt w9 (w.heap.size + 1) w.heap.size (putRow' (tabTo k) (rowAt k).1 (rowAt k).2.1 ((Lib.fields (rowAt k).2.2).take (j + 1))) := by
      rw [putRow'_snoc _ _ _ _ _ hjl]
      refine hJ.inv.tab.changed hF (by omega) hM ?_
      intro x hx
      rcases mem_mput hx with hx | rfl
      ·exact hgood x hx
      ·exact ⟨rfl, hn _ (List.getElem_mem hjl), p1, p2, by simp only; omega, by simp only; omega⟩
     have HJ9 := Lib.hid (hJ.fr hF hT9)
     have hjl' : (j : Int) < ((Lib.fields (rowAt k).2.2).length : Int) := by omega
     have hlen : (Lib.fields (rowAt k).2.2).length ≤ 1000 := hnl
     clear hJ hgood hM hG hF hT9 hn hnl HIN HI
     go_wp2
     go_region
     go_wp2
     go_roundw
     case rel => exact ⟨j + 1, hjl, by go_num, HJ9.out⟩
     case measure => simp [intOf]; omega
    ·have hjl' : ¬ (j : Int) < ((Lib.fields (rowAt k).2.2).length : Int) := by omega
     have hfin : NewInv w (tabTo (k + 1)) wr := by
      rw [tabTo_succ k hlt]
      have := hJ.inv
      rw [List.take_of_length_le (by omega)] at this
      exact this
     have HF := Lib.hid hfin
     clear hJ hfin hn HIN HI
     go_wp2
     go_roundw
     case rel => exact ⟨k + 1, hlt, by go_num, HF.out⟩
     case measure => simp [intOf]; omega
  ·have hk13 : k = 13 := by omega
   subst hk13
   have HI := Lib.hid hI
   clear hI
   go_wp2
   go_ret
   exact ⟨_, _, rfl, HI.out.tab, by omega, by omega, by omega, HI.out.below, HI.out.ty⟩
theorem new_any (w : World) (hK : KindsAt w) (htab : Lib.TabIs Tryz.prog w "strings.asciiSpace" .u8 Lib.asciiSpaceTab) :
    Calls Tryz.prog 16 #[] w fun e w' => ∃ bt bm, e = .returned (.pointer (some ⟨bt, 0, none⟩)) ∧ TabAt w' bt bm opsInit ∧ w.heap.size ≤ bt ∧ w.heap.size ≤ bm ∧ bt ≠ bm ∧ Below w.heap.size w w' :=
 (new_anyT w hK htab).mono fun _ _ ⟨bt, bm, h1, h2, h3, h4, h5, h6, _⟩ => ⟨bt, bm, h1, h2, h3, h4, h5, h6⟩
attribute [irreducible] opsInit
structure RdEnv (w : World) : Prop where
 max : ∃ m : Int, w.cell? ⟨3, 0, none⟩ = some (.int .i64 m)
 kinds : KindsAt w
 tab : Lib.TabIs Tryz.prog w "strings.asciiSpace" .u8 Lib.asciiSpaceTab
theorem RdEnv.later {w w' : World} (h : RdEnv w) (hb : Below w.heap.size w w') : RdEnv w' := by
 obtain ⟨m, hm⟩ := h.max
 refine ⟨⟨m, ?_⟩, h.kinds.later hb, tabIs_keep h.tab (hb.block _ (tabIs_lt h.tab))⟩
 have := World.block_lt_of_cell? w _ hm
 exact (hb.cell (p := ⟨3, 0, none⟩) this).trans hm
theorem encTok_at (t : Tok) : (encTok t)[0]? = some (.int .i64 t.kind) ∧ (encTok t)[1]? = some (.int .i64 t.line) ∧ (encTok t)[2]? = some (.int .i64 t.n) ∧ (encTok t)[3]? = some (.string ⟨t.s.toArray⟩) ∧ (encTok t)[4]? = some (.bool t.opn) ∧ (encTok t)[5]? = some (.bool t.tight) := ⟨rfl, rfl, rfl, rfl, rfl, rfl⟩
theorem toks_row {w : World} {B n c : Nat} {A : Option Addr} {ts : List Tok} (h : Row w B 127 6 encTok (.slice A n c) ts) : ToksAt w w.heap.size A n ts := by
 refine ⟨h.len.symm, fun i t ht => ?_⟩
 have hne : ts ≠ [] := by intro e; rw [e] at ht; cases ht
 obtain ⟨g, cap, e1, _, hg, _, hc⟩ := h.cells encTok_len hne
 injection e1 with e1 e2 e3
 obtain ⟨q0, q1, q2, q3, q4, q5⟩ := encTok_at t
 have k0 := (hc i t ht 0 _ q0).1
 have k1 := (hc i t ht 1 _ q1).1
 have k2 := (hc i t ht 2 _ q2).1
 have k3 := (hc i t ht 3 _ q3).1
 have k4 := (hc i t ht 4 _ q4).1
 have k5 := (hc i t ht 5 _ q5).1
 refine ⟨g, 0, e1, hg, ?_, ?_, ?_, ?_, ?_, ?_⟩ <;> simp only [Nat.zero_add]
 ·exact k0
 ·exact k1
 ·exact k2
 ·exact k3
 ·exact k4
 ·exact k5
abbrev DefT := Int × Int × List UInt8
open Go.Sort Go.Lib
theorem cb_lt : ∀ a b : List UInt8, compareBytes a b < 0 ↔ a < b
 | [], [] => by simp [compareBytes]
 | [], _ :: _ => by simp [compareBytes]
 | _ :: _, [] => by simp [compareBytes]
 | a :: l, b :: r => by
  rw [List.cons_lt_cons_iff, compareBytes]
  by_cases h1 : a < b
  ·simp [h1]
  ·by_cases h2 : b < a
   ·have h3 : a ≠ b := by rintro rfl; exact h1 h2
    simp [h1, h2, h3]
   ·have h3 : a = b := UInt8.le_antisymm (UInt8.not_lt.1 h2) (UInt8.not_lt.1 h1)
    subst h3
    simpa [h1] using cb_lt l r
theorem cb_gt : ∀ a b : List UInt8, 0 < compareBytes a b ↔ b < a
 | [], [] => by simp [compareBytes]
 | [], _ :: _ => by simp [compareBytes]
 | _ :: _, [] => by simp [compareBytes]
 | a :: l, b :: r => by
  rw [List.cons_lt_cons_iff, compareBytes]
  by_cases h1 : a < b
  ·have h2 : ¬ b < a := UInt8.lt_asymm h1
   have h3 : b ≠ a := by rintro rfl; exact h2 h1
   simp [h1, h2, h3]
  ·by_cases h2 : b < a
   ·simp [h1, h2]
   ·have h3 : a = b := UInt8.le_antisymm (UInt8.not_lt.1 h2) (UInt8.not_lt.1 h1)
    subst h3
    simpa [h1] using cb_gt l r
theorem ls_tri (a b : List UInt8) : a < b ∨ a = b ∨ b < a := by
 rcases Classical.em (a < b) with h | h
 ·exact .inl h
 ·rcases Classical.em (b < a) with h2 | h2
  ·exact .inr (.inr h2)
  ·exact .inr (.inl (List.le_antisymm (List.not_lt.1 h2) (List.not_lt.1 h)))
theorem cb_eq (a b : List UInt8) : compareBytes a b = 0 ↔ a = b := by
 constructor
 ·intro h
  rcases ls_tri a b with h1 | h1 | h1
  ·have := (cb_lt a b).2 h1; omega
  ·exact h1
  ·have := (cb_gt a b).2 h1; omega
 ·rintro rfl
  have h1 := (cb_lt a a).1
  have h2 := (cb_gt a a).1
  have h3 := List.lt_irrefl a
  have h4 : ¬ compareBytes a a < 0 := fun h => h3 (h1 h)
  have h5 : ¬ 0 < compareBytes a a := fun h => h3 (h2 h)
  omega
def defCmp (a b : DefT) : Int := if compareBytes a.2.2 b.2.2 ≠ 0 then compareBytes a.2.2 b.2.2 else compareInt a.2.1 b.2.1
def defLt (a b : DefT) : Prop := a.2.2 < b.2.2 ∨ (a.2.2 = b.2.2 ∧ a.2.1 < b.2.1)
theorem defCmp_lt (a b : DefT) : defCmp a b < 0 ↔ defLt a b := by
 unfold defCmp defLt
 by_cases h : compareBytes a.2.2 b.2.2 = 0
 ·have h1 := (cb_eq _ _).1 h
  rw [if_neg (by simpa using h)]
  simp only [h1, false_or, true_and, List.lt_irrefl]
  unfold compareInt
  split
  ·simp [*]
  ·split <;> simp [*]
 ·have h1 : a.2.2 ≠ b.2.2 := fun e => h ((cb_eq _ _).2 e)
  rw [if_pos h, cb_lt]
  simp [h1]
theorem defLt_irrefl (a : DefT) : ¬ defLt a a := by
 unfold defLt
 rintro (h | ⟨_, h⟩)
 ·exact List.lt_irrefl _ h
 ·omega
theorem defLt_trans {a b c : DefT} (h1 : defLt a b) (h2 : defLt b c) : defLt a c := by
 unfold defLt at *
 rcases h1 with h1 | ⟨h1, h3⟩
 ·rcases h2 with h2 | ⟨h2, h4⟩
  ·exact .inl (List.lt_trans h1 h2)
  ·exact .inl (h2 ▸ h1)
 ·rcases h2 with h2 | ⟨h2, h4⟩
  ·exact .inl (h1 ▸ h2)
  ·exact .inr ⟨h1.trans h2, by omega⟩
theorem defLt_tri (a b : DefT) : defLt a b ∨ defLt b a ∨ (a.2.2 = b.2.2 ∧ a.2.1 = b.2.1) := by
 unfold defLt
 rcases ls_tri a.2.2 b.2.2 with h | h | h
 ·exact .inl (.inl h)
 ·have : a.2.1 < b.2.1 ∨ a.2.1 = b.2.1 ∨ b.2.1 < a.2.1 := by omega
  rcases this with h1 | h1 | h1
  ·exact .inl (.inr ⟨h, h1⟩)
  ·exact .inr (.inr ⟨h, h1⟩)
  ·exact .inr (.inl (.inr ⟨h.symm, h1⟩))
 ·exact .inr (.inl (.inl h))
theorem defLt_ntrans {a b c : DefT} (h1 : ¬ defLt a b) (h2 : ¬ defLt b c) : ¬ defLt a c := by
 intro h
 rcases defLt_tri b c with h3 | h3 | ⟨h3, h4⟩
 ·exact h2 h3
 ·exact h1 (defLt_trans h h3)
 ·apply h1
  unfold defLt at h ⊢
  rw [h3, h4]
  exact h
instance (a b : DefT) : Decidable (defLt a b) := by unfold defLt; infer_instance
theorem defSWO : SWO (Go.Proofs.ltOf defCmp) where
 irrefl x := by simp only [Go.Proofs.ltOf, defCmp_lt, decide_eq_false_iff_not]; exact defLt_irrefl x
 trans x y z := by simp only [Go.Proofs.ltOf, defCmp_lt, decide_eq_true_eq]; exact defLt_trans
 ntrans x y z := by simp only [Go.Proofs.ltOf, defCmp_lt, decide_eq_false_iff_not]; exact defLt_ntrans
def defLe (a b : DefT) : Prop := ¬ defLt b a
def Sorted (l : List DefT) : Prop := l.Pairwise defLe
def Apart (l : List DefT) : Prop := ∀ a ∈ l, ∀ b ∈ l, a.2.2 = b.2.2 → a.2.1 = b.2.1 → a = b
theorem sorted_one {l1 l2 : List DefT} (hp : l1.Perm l2) (h1 : Sorted l1) (h2 : Sorted l2) (ha : Apart l2) : l1 = l2 := by
 refine List.Perm.eq_of_pairwise (le := defLe) ?_ h1 h2 hp
 intro a b h3 h4 h5 h6
 rcases defLt_tri a b with h | h | ⟨h, h'⟩
 ·exact absurd h h6
 ·exact absurd h h5
 ·exact ha a (hp.mem_iff.1 h3) b h4 h h'
theorem sorted_of_row {d d' : Array DefT} (hp : PermIn 0 d.size d d') (hs : SortedIn (Go.Proofs.ltOf defCmp) 0 d.size d') : d'.toList.Perm d.toList ∧ Sorted d'.toList := by
 obtain ⟨hsz, _, hperm⟩ := hp
 have e1 : d'.extract 0 d.size = d' := by rw [← hsz]; exact Array.extract_size
 rw [e1, Array.extract_size] at hperm
 refine ⟨hperm, ?_⟩
 unfold Sorted
 rw [List.pairwise_iff_getElem]
 intro i j hi hj hij
 have hi' : i < d'.size := by simpa using hi
 have hj' : j < d'.size := by simpa using hj
 have := hs i j (Nat.zero_le _) hij (by omega)
 rw [getElem!_pos d' j hj', getElem!_pos d' i hi'] at this
 simp only [Go.Proofs.ltOf, decide_eq_false_iff_not, defCmp_lt] at this
 simpa [defLe] using this
def defOf (x : OpK × OpV) : DefT := (x.2.1, x.2.2, x.1.2)
open Go.RowKit Go.Maps Go.Lib
def encDef (x : DefT) : List Value := [.int .i64 x.1, .int .i64 x.2.1, .string ⟨x.2.2.toArray⟩]
section
variable {α : Type} {w w' : World} {sz : Nat} {enc : α → List Value} {v : Value} {l : List α}
structure SlAt (w : World) (B : Nat) (sz : Nat) (enc : α → List Value) (v : Value) (l : List α) : Prop where
 shape : ∃ A cap, v = .slice A l.length cap ∧ (l ≠ [] → ∃ b off, A = some ⟨b, off, none⟩ ∧ b < B ∧ ∀ i x, l[i]? = some x → ∀ j u, (enc x)[j]? = some u → w.cell? ⟨b, off + i * sz + j, none⟩ = some u)
theorem SlAt.keep {B : Nat} (h : SlAt w B sz enc v l) (hb : ∀ k, k < B → v.ownBlock = some k → w'.heap[k]? = w.heap[k]?) : SlAt w' B sz enc v l := by
 obtain ⟨A, cap, rfl, h2⟩ := h.shape
 refine ⟨A, cap, rfl, fun hne => ?_⟩
 obtain ⟨b, off, rfl, hB, h3⟩ := h2 hne
 exact ⟨b, off, rfl, hB, fun i x hx j u hu => (World.cell?_of_block (a := ⟨b, off + i * sz + j, none⟩) (hb b hB rfl)).trans (h3 i x hx j u hu)⟩
theorem SlAt.below {B : Nat} (h : SlAt w B sz enc v l) (hb : Below B w w') : SlAt w' B sz enc v l := h.keep fun k hk _ => hb.block k hk
theorem SlAt.up {B B' : Nat} (h : SlAt w B sz enc v l) (hB : B ≤ B') : SlAt w B' sz enc v l := by
 obtain ⟨A, cap, rfl, h2⟩ := h.shape
 refine ⟨A, cap, rfl, fun hne => ?_⟩
 obtain ⟨b, off, rfl, hlt, h3⟩ := h2 hne
 exact ⟨b, off, rfl, Nat.lt_of_lt_of_le hlt hB, h3⟩
end
theorem encDef_len (x : DefT) : (encDef x).length = 3 := rfl
theorem encDef_one (x : DefT) : ∀ u ∈ encDef x, u.oneCell' = true := by
 intro u hu
 simp [encDef] at hu
 rcases hu with rfl | rfl | rfl <;> rfl
end Go.Proofs.YtjdnigepnfeboaaGreatDoor
namespace Go.Proofs.YtjdnigepnfeboaaGreatDoor
open Go.RowKit Go.Maps Go.Lib
set_option maxRecDepth 100000
set_option maxHeartbeats 400000 in
theorem cmpOr_first (w : World) (g : Nat) (c1 : Int) (h1 : w.cell? ⟨g, 0, none⟩ = some (.int .i64 c1)) (hz : ¬ c1 = 0) :
    Calls Tryz.prog 37 #[.slice (some ⟨g, 0, none⟩) 2 2] w fun e w' => e = .returned (.int .i64 c1) ∧ w = w' := by
 have hz' : (c1 == 0) = false := by simpa using hz
 go_enter Tryz.func37, Tryz.ntmps37
 go_wp2_with fail
 refine wp_loop_rounds 1 ?_
 rw [rounds_succ]
 go_wp2
 go_ret
 exact ⟨rfl, rfl⟩
set_option maxHeartbeats 400000 in
theorem cmpOr_second (w : World) (g : Nat) (c2 : Int) (h1 : w.cell? ⟨g, 0, none⟩ = some (.int .i64 0)) (h2 : w.cell? ⟨g, 1, none⟩ = some (.int .i64 c2)) :
    Calls Tryz.prog 37 #[.slice (some ⟨g, 0, none⟩) 2 2] w fun e w' => e = .returned (.int .i64 c2) ∧ w = w' := by
 by_cases hz : c2 = 0
 ·subst hz
  go_enter Tryz.func37, Tryz.ntmps37
  go_wp2_with fail
  refine wp_loop_rounds 3 ?_
  rw [rounds_succ]
  go_wp2
  rw [rounds_succ]
  go_wp2
  rw [rounds_succ]
  go_wp2
  go_ret
  exact ⟨rfl, rfl⟩
 ·have hz' : (c2 == 0) = false := by simpa using hz
  go_enter Tryz.func37, Tryz.ntmps37
  go_wp2_with fail
  refine wp_loop_rounds 2 ?_
  rw [rounds_succ]
  go_wp2
  rw [rounds_succ]
  go_wp2
  go_ret
  exact ⟨rfl, rfl⟩
def firstOf (c1 c2 : Int) : Int := if c1 ≠ 0 then c1 else c2
theorem cmpOr_any (w : World) (g : Nat) (c1 c2 : Int) (h1 : w.cell? ⟨g, 0, none⟩ = some (.int .i64 c1)) (h2 : w.cell? ⟨g, 1, none⟩ = some (.int .i64 c2)) :
    Calls Tryz.prog 37 #[.slice (some ⟨g, 0, none⟩) 2 2] w fun e w' => e = .returned (.int .i64 (firstOf c1 c2)) ∧ w = w' := by
 unfold firstOf
 by_cases hz : c1 = 0
 ·subst hz
  exact cmpOr_second w g c2 h1 h2
 ·rw [if_pos hz]
  exact cmpOr_first w g c1 h1 hz
theorem cell_third (w : World) (a b : Obj) (cs : Array Value) (t : TypeId) (i : Nat) (u : Value) (h : cs[i]? = some u) :
    ((((w.alloc a).alloc b).alloc (.cells cs t)).drew).cell? ⟨w.heap.size + 1 + 1, i, none⟩ = some u := by
 have hb : ((((w.alloc a).alloc b).alloc (.cells cs t)).drew).heap[w.heap.size + 1 + 1]? = some (.cells cs t (0, 0)) := by
  have := heap_alloc_new ((w.alloc a).alloc b) (.cells cs t)
  have e : ((w.alloc a).alloc b).heap.size = w.heap.size + 1 + 1 := by simp
  rw [e] at this
  exact this
 rw [cell_of_row _ _ i cs t (0, 0) hb]
 exact h
set_option maxHeartbeats 1000000 in
theorem defCmp_any (w : World) (x y : DefT) : Calls Tryz.prog 36 #[.agg (encDef x).toArray, .agg (encDef y).toArray] w fun e w' => e = .returned (.int .i64 (defCmp x y)) ∧ ∃ q os', w' = Sort.grow (w.drewN q) os' := by
 have hs : ∀ W, Calls Tryz.prog 38 #[.string ⟨x.2.2.toArray⟩, .string ⟨y.2.2.toArray⟩] W fun e w' => e = .returned (.int .i64 (compareBytes x.2.2 y.2.2)) ∧ w' = W := fun W => Tryz.strings_Compare _ _ W
 have hi : ∀ W, Calls Tryz.prog 39 #[.int .i64 x.2.1, .int .i64 y.2.1] W fun e w' => e = .returned (.int .i64 (compareInt x.2.1 y.2.1)) ∧ w' = W := fun W => Tryz.cmp_Compare_int _ _ W
 have e0 : defCmp x y = firstOf (compareBytes x.2.2 y.2.2) (compareInt x.2.1 y.2.1) := rfl
 rw [e0]
 generalize compareBytes x.2.2 y.2.2 = r1 at *
 generalize compareInt x.2.1 y.2.1 = r2 at *
 unfold encDef
 obtain ⟨W, hW⟩ : ∃ W, W = (((w.alloc (.cells #[.int .i64 x.1, .int .i64 x.2.1, .string ⟨x.2.2.toArray⟩] 64)).alloc (.cells #[.int .i64 y.1, .int .i64 y.2.1, .string ⟨y.2.2.toArray⟩] 64)).drew) := ⟨_, rfl⟩
 have f1 : W.cell? ⟨w.heap.size, 1, none⟩ = some (.int .i64 x.2.1) := by rw [hW]; simp
 have f2 : W.cell? ⟨w.heap.size, 2, none⟩ = some (.string ⟨x.2.2.toArray⟩) := by rw [hW]; simp
 have f3 : W.cell? ⟨w.heap.size + 1, 1, none⟩ = some (.int .i64 y.2.1) := by rw [hW]; simp
 have f4 : W.cell? ⟨w.heap.size + 1, 2, none⟩ = some (.string ⟨y.2.2.toArray⟩) := by rw [hW]; simp
 go_enter Tryz.func36, Tryz.ntmps36
 go_wp2_with fail
 refine wp_region_still_tail 10 (by kernel_rfl) (by kernel_rfl) ?_
 simp only [List.take_succ_cons, List.take_zero, List.drop_succ_cons, List.drop_zero]
 change wpStill _ _ (((w.alloc _).alloc _).drew) (fun a' => wpList _ _ _ _ a' (((w.alloc _).alloc _).drew)) _ _
 rw [← hW]
 repeat still_step
 still_call (hs _)
 repeat still_step
 still_call (hi _)
 refine wpStill_nil ?_
 go_wp2_with fail
 refine (cmpOr_any _ _ r1 r2 (cell_third _ _ _ _ _ 0 _ rfl) (cell_third _ _ _ _ _ 1 _ rfl)).mono ?_
 rintro e w' ⟨rfl, rfl⟩
 go_wp2_with fail
 go_ret
 exact ⟨rfl, 1, _, by rw [Sort.alloc_eq_grow, Sort.alloc_eq_grow, Sort.alloc_eq_grow, Sort.grow_grow, Sort.grow_grow]; rfl⟩
end Go.Proofs.YtjdnigepnfeboaaGreatDoor
