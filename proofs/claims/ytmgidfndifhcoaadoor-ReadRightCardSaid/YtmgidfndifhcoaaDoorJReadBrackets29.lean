import Derived.Shelf.Small.Strs
import Derived.Shelf.Small.Wraps
import Derived.Shelf.LaysM
import Derived.Shelf.Strings.Fields
import Derived.Test.YtmgidfndifhcoaaDoorProg
import Derived.Test.YtmgidfndifhcoaaDoorJReadBrackets28
import Derived.LoopTactic
import Derived.Test.YtmgidfndifhcoaaDoorJReadBrackets19
import Derived.Test.YtmgidfndifhcoaaDoorJReadBrackets27
/-
  Contracts of functions of Go's library over this program, as the kit's tools lay them (lay-shelf, lay-plain), those that are used here. Each names its own conditions.
-/
namespace Go.Proofs
open Go.Shelf
def Tryd.lays157_ren : Go.Shelf.Ren := ⟨fun | 157 => 39 | 229 => 67 | 199 => 68 | 261 => 87 | 311 => 102 | 312 => 103 | n => n, fun | 9 => 9 | 31 => 89 | 3 => 3 | 5 => 5 | 4 => 4 | 119 => 129 | 0 => 0 | 40 => 131 | 152 => 152 | 21 => 21 | 154 => 154 | 51 => 155 | 141 => 157 | 196 => 175 | 193 => 172 | 198 => 177 | 49 => 40 | 194 => 173 | 201 => 180 | 226 => 189 | 46 => 171 | 227 => 190 | n => n, fun | 0 => 1 | 6 => 2 | n => n⟩
theorem Tryd.lays157 : Go.Proofs.Lays.n157 Tryd.prog Tryd.lays157_ren := {
  mixed := by kernel_rfl
  f157 := Tryd.func39.trans (congrArg some (by kernel_rfl))
  f199 := Tryd.func68.trans (congrArg some (by kernel_rfl))
  f229 := Tryd.func67.trans (congrArg some (by kernel_rfl))
  f261 := Tryd.func87.trans (congrArg some (by kernel_rfl))
  f311 := Tryd.func102.trans (congrArg some (by kernel_rfl))
  f312 := Tryd.func103.trans (congrArg some (by kernel_rfl))
  t0 := Tryd.underlying0
  a0 := Tryd.isAgg0
  z0 := Tryd.sizeOf0
  v0 := Tryd.zeroValue0
  t3 := Tryd.underlying3
  a3 := Tryd.isAgg3
  z3 := Tryd.sizeOf3
  v3 := Tryd.zeroValue3
  t4 := Tryd.underlying4
  a4 := Tryd.isAgg4
  z4 := Tryd.sizeOf4
  v4 := Tryd.zeroValue4
  t5 := Tryd.underlying5
  a5 := Tryd.isAgg5
  z5 := Tryd.sizeOf5
  v5 := Tryd.zeroValue5
  t9 := Tryd.underlying9
  a9 := Tryd.isAgg9
  z9 := Tryd.sizeOf9
  v9 := Tryd.zeroValue9
  t21 := Tryd.underlying21
  a21 := Tryd.isAgg21
  z21 := Tryd.sizeOf21
  v21 := Tryd.zeroValue21
  t31 := Tryd.underlying89
  a31 := Tryd.isAgg89
  z31 := Tryd.sizeOf89
  v31 := Tryd.zeroValue89
  t40 := Tryd.underlying131
  a40 := Tryd.isAgg131
  z40 := Tryd.sizeOf131
  v40 := Tryd.zeroValue131
  t46 := Tryd.underlying171
  a46 := Tryd.isAgg171
  z46 := Tryd.sizeOf171
  v46 := Tryd.zeroValue171
  t49 := Tryd.underlying40
  a49 := Tryd.isAgg40
  z49 := Tryd.sizeOf40
  v49 := Tryd.zeroValue40
  t51 := Tryd.underlying155
  a51 := Tryd.isAgg155
  z51 := Tryd.sizeOf155
  v51 := Tryd.zeroValue155
  t119 := Tryd.underlying129
  a119 := Tryd.isAgg129
  z119 := Tryd.sizeOf129
  t141 := Tryd.underlying157
  a141 := Tryd.isAgg157
  z141 := Tryd.sizeOf157
  v141 := Tryd.zeroValue157
  t152 := Tryd.underlying152
  a152 := Tryd.isAgg152
  z152 := Tryd.sizeOf152
  v152 := Tryd.zeroValue152
  t154 := Tryd.underlying154
  a154 := Tryd.isAgg154
  z154 := Tryd.sizeOf154
  v154 := Tryd.zeroValue154
  t193 := Tryd.underlying172
  a193 := Tryd.isAgg172
  z193 := Tryd.sizeOf172
  v193 := Tryd.zeroValue172
  t194 := Tryd.underlying173
  a194 := Tryd.isAgg173
  z194 := Tryd.sizeOf173
  v194 := Tryd.zeroValue173
  t196 := Tryd.underlying175
  a196 := Tryd.isAgg175
  z196 := Tryd.sizeOf175
  v196 := Tryd.zeroValue175
  t198 := Tryd.underlying177
  a198 := Tryd.isAgg177
  z198 := Tryd.sizeOf177
  v198 := Tryd.zeroValue177
  t201 := Tryd.underlying180
  a201 := Tryd.isAgg180
  z201 := Tryd.sizeOf180
  v201 := Tryd.zeroValue180
  t226 := Tryd.underlying189
  a226 := Tryd.isAgg189
  z226 := Tryd.sizeOf189
  v226 := Tryd.zeroValue189
  t227 := Tryd.underlying190
  a227 := Tryd.isAgg190
  z227 := Tryd.sizeOf190
  v227 := Tryd.zeroValue190
  g0 := by kernel_rfl
  g6 := by kernel_rfl }
open Go.RowKit Go.Lib in
theorem Tryd.strings_Fields (s : ByteArray) (w : World) (hs : s.size < 4294967281) (hascii : ∀ (j : Nat) b, s.data.toList[j]? = some b → b.toNat < 128) (htab : Lib.TabIs Tryd.prog w "strings.asciiSpace" .u8 Lib.asciiSpaceTab) :
    Calls Tryd.prog 39 #[.string s] w fun e w' =>
      e = .returned (.slice (some ⟨w.heap.size, 0, none⟩) (Lib.fields s.data.toList).length (Lib.fields s.data.toList).length) ∧ w' = w.alloc (.cells ((Lib.fields s.data.toList).map fun l => Value.string ⟨l.toArray⟩).toArray 9) := Any.strings_Fields Tryd.lays157 (by kernel_rfl) (by kernel_rfl) s w hs hascii htab
end Go.Proofs
/-
  What New answers: a table of the operators that there are at first. Conditions: the types' table and the table of blanks read as the program lays them.
-/
namespace Go.Proofs.YtmgidfndifhcoaaDoor
open Go.RowKit Go.Maps
set_option maxRecDepth 100000

/-- The rows of operators of one priority and type, with blanks between the names. -/
def initRows : List (Int × Nat × List UInt8) := [
  (1200, 1, [58, 45, 32, 45, 45, 62]), (1200, 4, [58, 45, 32, 63, 45]), (1150, 4, [100, 121, 110, 97, 109, 105, 99]), (1100, 2, [59]), (1050, 2, [45, 62]), (1000, 2, [44]), (900, 5, [92, 43]),
  (700, 1, [61, 32, 92, 61, 32, 61, 61, 32, 92, 61, 61, 32, 64, 60, 32, 64, 62, 32, 64, 61, 60, 32, 64, 62, 61, 32, 61, 46, 46, 32, 105, 115, 32, 61, 58, 61, 32, 61, 92, 61, 32, 60, 32, 62, 32, 61, 60, 32, 62, 61]),
  (500, 3, [43, 32, 45, 32, 47, 92, 32, 92, 47, 32, 120, 111, 114]), (400, 3, [42, 32, 47, 32, 47, 47, 32, 114, 101, 109, 32, 109, 111, 100, 32, 100, 105, 118, 32, 60, 60, 32, 62, 62]), (200, 1, [42, 42]), (200, 2, [94]), (200, 5, [45, 32, 43, 32, 92])]
def rowAt (k : Nat) : Int × Nat × List UInt8 := initRows.getD k (0, 0, [])
def putRow' (es : List (OpK × OpV)) (p : Int) (t : Nat) (names : List (List UInt8)) : List (OpK × OpV) := names.foldl (fun es n => mput es (kSort t, n) (p, (t : Int))) es
def tabTo (k : Nat) : List (OpK × OpV) := (initRows.take k).foldl (fun es r => putRow' es r.1 r.2.1 (Lib.fields r.2.2)) []
def opsInit : List (OpK × OpV) := tabTo 13

theorem rowAt_facts : ∀ k : Nat, k < 13 → (1 ≤ (rowAt k).1 ∧ (rowAt k).1 ≤ 1200) ∧ (1 ≤ (rowAt k).2.1 ∧ (rowAt k).2.1 ≤ 7) ∧ (∀ b ∈ (rowAt k).2.2, b.toNat < 128) ∧ (rowAt k).2.2.length ≤ 1000 ∧ (∀ n ∈ Lib.fields (rowAt k).2.2, n.length ≤ 1000) ∧ (Lib.fields (rowAt k).2.2).length ≤ 1000 := by
  decide +kernel
theorem tabTo_succ (k : Nat) (h : k < 13) : tabTo (k + 1) = putRow' (tabTo k) (rowAt k).1 (rowAt k).2.1 (Lib.fields (rowAt k).2.2) := by
  unfold tabTo
  rw [List.take_succ_eq_append_getElem (show k < initRows.length from h), List.foldl_append]
  simp [rowAt, List.getD, List.getElem?_eq_getElem (show k < initRows.length from h)]
theorem putRow'_snoc (es : List (OpK × OpV)) (p : Int) (t : Nat) (l : List (List UInt8)) (j : Nat) (h : j < l.length) :
    putRow' es p t (l.take (j + 1)) = mput (putRow' es p t (l.take j)) (kSort t, l[j]) (p, (t : Int)) := by
  unfold putRow'
  rw [List.take_succ_eq_append_getElem h, List.foldl_append]
  rfl
theorem good_putRow' {es : List (OpK × OpV)} (h : ∀ x ∈ es, goodOp x) {p : Int} {t : Nat} (hp : 1 ≤ p ∧ p ≤ 1200) (ht : 1 ≤ t ∧ t ≤ 7) : ∀ (l : List (List UInt8)), (∀ n ∈ l, n.length ≤ 1000) → ∀ x ∈ putRow' es p t l, goodOp x := by
  intro l
  unfold putRow'
  induction l generalizing es with
  | nil => intro _; exact h
  | cons n r ih =>
    intro hl
    refine ih (fun x hx => ?_) (fun m hm => hl m (List.mem_cons_of_mem _ hm))
    rcases mem_mput hx with hx | rfl
    · exact h x hx
    · exact ⟨rfl, hl n (List.mem_cons_self ..), hp.1, hp.2, by simp only; omega, by simp only; omega⟩

def RowsAt (w : World) (bs : Nat) : Prop := ∀ k : Nat, k < 13 → w.cell? ⟨bs, k * 3, none⟩ = some (.int .i64 (rowAt k).1) ∧ w.cell? ⟨bs, k * 3 + 1, none⟩ = some (.int .i64 ((rowAt k).2.1 : Int)) ∧ w.cell? ⟨bs, k * 3 + 2, none⟩ = some (.string ⟨(rowAt k).2.2.toArray⟩)

theorem RowsAt.keep {w w' : World} {bs : Nat} (h : RowsAt w bs) (hb : w'.heap[bs]? = w.heap[bs]?) : RowsAt w' bs := fun k hk => by
  obtain ⟨a, b, c⟩ := h k hk
  exact ⟨(World.cell?_of_block (a := ⟨bs, k * 3, none⟩) hb).trans a, (World.cell?_of_block (a := ⟨bs, k * 3 + 1, none⟩) hb).trans b, (World.cell?_of_block (a := ⟨bs, k * 3 + 2, none⟩) hb).trans c⟩
theorem RowsAt.lt {w : World} {bs : Nat} (h : RowsAt w bs) : bs < w.heap.size := World.block_lt_of_cell? w _ (h 0 (by omega)).1

/-- What holds at each round's head. -/
structure NewInv (w : World) (es : List (OpK × OpV)) (wr : World) : Prop where
  tab : TabAt wr (w.heap.size + 1) w.heap.size es
  rows : RowsAt wr (w.heap.size + 1 + 1)
  kinds : KindsAt wr
  kindsLt : 0 < w.heap.size
  sp : Lib.TabIs Tryd.prog wr "strings.asciiSpace" .u8 Lib.asciiSpaceTab
  spLt : 1 < w.heap.size
  below : Below w.heap.size w wr
  size : w.heap.size + 3 ≤ wr.heap.size

theorem tabIs_keep {w w' : World} (h : Lib.TabIs Tryd.prog w "strings.asciiSpace" .u8 Lib.asciiSpaceTab) (hb : w'.heap[1]? = w.heap[1]?) : Lib.TabIs Tryd.prog w' "strings.asciiSpace" .u8 Lib.asciiSpaceTab := by
  unfold Lib.TabIs World.var? at h ⊢
  have hg : Tryd.prog.globalNamed "strings.asciiSpace" = some 1 := by kernel_rfl
  rw [hg] at h ⊢
  simp only [Option.bind_some] at h ⊢
  rw [hb]
  exact h
theorem tabIs_lt {w : World} (h : Lib.TabIs Tryd.prog w "strings.asciiSpace" .u8 Lib.asciiSpaceTab) : 1 < w.heap.size := by
  unfold Lib.TabIs World.var? at h
  have hg : Tryd.prog.globalNamed "strings.asciiSpace" = some 1 := by kernel_rfl
  rw [hg] at h
  simp only [Option.bind_some] at h
  rcases Nat.lt_or_ge 1 w.heap.size with hlt | hge
  · exact hlt
  · rw [Array.getElem?_eq_none hge] at h
    cases h

theorem NewInv.fr {w wr wr' : World} {es es' : List (OpK × OpV)} (h : NewInv w es wr) (hF : Fr (· = w.heap.size) wr wr') (ht : TabAt wr' (w.heap.size + 1) w.heap.size es') : NewInv w es' wr' := by
  have hs := h.size
  have hk := h.kindsLt
  have hp := h.spLt
  exact ⟨ht, h.rows.keep (hF.block _ (by omega) (by omega)), h.kinds.keep (hF.block _ (by omega) (by omega)), hk, tabIs_keep h.sp (hF.block _ (by omega) (by omega)), hp,
    h.below.trans (hF.below (by omega) (by omega)), by have := hF.size; omega⟩
theorem NewInv.later {w wr wr' : World} {es : List (OpK × OpV)} (h : NewInv w es wr) (hb : Below wr.heap.size wr wr') : NewInv w es wr' := h.fr (.of_below _ hb) (h.tab.later hb)

structure InInv (w : World) (es : List (OpK × OpV)) (k bv bf : Nat) (wr : World) : Prop where
  inv : NewInv w es wr
  s0 : wr.cell? ⟨bv, 0, none⟩ = some (.int .i64 (rowAt k).1)
  s1 : wr.cell? ⟨bv, 1, none⟩ = some (.int .i64 ((rowAt k).2.1 : Int))
  nm : ∀ j n, (Lib.fields (rowAt k).2.2)[j]? = some n → wr.cell? ⟨bf, j, none⟩ = some (.string ⟨n.toArray⟩)
  bv_ge : w.heap.size + 3 ≤ bv
  bf_ge : w.heap.size + 3 ≤ bf
  bf_lt : bf < wr.heap.size
theorem InInv.fr {w wr wr' : World} {es es' : List (OpK × OpV)} {k bv bf : Nat} (h : InInv w es k bv bf wr) (hF : Fr (· = w.heap.size) wr wr') (ht : TabAt wr' (w.heap.size + 1) w.heap.size es') : InInv w es' k bv bf wr' := by
  have h1 := h.bv_ge
  have h2 := h.bf_ge
  have h3 := World.block_lt_of_cell? wr _ h.s0
  have h4 := h.bf_lt
  exact ⟨h.inv.fr hF ht, (hF.cell (p := ⟨bv, 0, none⟩) h3 (by simp only; omega)).trans h.s0, (hF.cell (p := ⟨bv, 1, none⟩) h3 (by simp only; omega)).trans h.s1,
    fun j n hj => (hF.cell (p := ⟨bf, j, none⟩) h4 (by simp only; omega)).trans (h.nm j n hj), h1, h2, by have := hF.size; omega⟩

set_option maxHeartbeats 1000000 in
theorem new_any (w : World) (hK : KindsAt w) (htab : Lib.TabIs Tryd.prog w "strings.asciiSpace" .u8 Lib.asciiSpaceTab) :
    Calls Tryd.prog 11 #[] w fun e w' => ∃ bt bm, e = .returned (.pointer (some ⟨bt, 0, none⟩)) ∧ TabAt w' bt bm opsInit ∧ w.heap.size ≤ bt ∧ w.heap.size ≤ bm ∧ bt ≠ bm ∧ Below w.heap.size w w' := by
  have hmm := @run_makeMap Tryd.prog
  have HK := Lib.hid hK
  have HTAB := Lib.hid htab
  clear hK htab
  go_enter Tryd.func11, Tryd.ntmps11
  go_wp2
  clear hmm
  go_loopw [24] (fun i wr => ∃ k : Nat, k ≤ 13 ∧ i = .int .i64 k ∧ NewInv w (tabTo k) wr) (fun i _ => 13 - (intOf i).toNat)
  case atStart =>
    refine ⟨0, by omega, rfl, ?_⟩
    have hK := HK.out
    have htab := HTAB.out
    have hk0 := hK.lt
    have hs0 := tabIs_lt htab
    refine ⟨⟨by simp [World.cell?_alloc_past, World.cell?_alloc_at], ?_, by simp [tabTo]⟩, ?_, ?_, hk0, ?_, hs0, ?_, by simp⟩
    · exact (((MapAt.made w).alloc _).alloc _)
    · intro k hk
      have : k = 0 ∨ k = 1 ∨ k = 2 ∨ k = 3 ∨ k = 4 ∨ k = 5 ∨ k = 6 ∨ k = 7 ∨ k = 8 ∨ k = 9 ∨ k = 10 ∨ k = 11 ∨ k = 12 := by omega
      rcases this with rfl | rfl | rfl | rfl | rfl | rfl | rfl | rfl | rfl | rfl | rfl | rfl | rfl <;>
        exact ⟨by rw [World.cell?_alloc_at _ _ _ _ (by simp)]; rfl, by rw [World.cell?_alloc_at _ _ _ _ (by simp)]; rfl, by rw [World.cell?_alloc_at _ _ _ _ (by simp)]; rfl⟩
    · exact hK.later ((((Below.refl _ _).alloc (Nat.le_refl _) _).alloc (by simp) _).alloc (by simp; omega) _)
    · exact tabIs_keep htab (((((Below.refl _ _).alloc (Nat.le_refl _) _).alloc (by simp) _).alloc (by simp; omega) _).block _ hs0)
    · exact (((Below.refl _ _).alloc (Nat.le_refl _) _).alloc (by simp) _).alloc (by simp; omega) _
  case round =>
    obtain ⟨k, hk, rfl, hI⟩ := hrel
    by_cases hlt : k < 13
    · obtain ⟨c0, c1, c2⟩ := hI.rows k hlt
      have hlt' : (k : Int) < 13 := by omega
      have HI := Lib.hid hI
      clear hI
      go_wp2_with fail
      have hI1 : NewInv w (tabTo k) (wr.alloc (.cells #[.int .i64 (rowAt k).1, .int .i64 ((rowAt k).2.1 : Int), .string ⟨(rowAt k).2.2.toArray⟩] 87)) := HI.out.later ((Below.refl _ _).alloc (Nat.le_refl _) _)
      obtain ⟨⟨p1, p2⟩, ⟨t1, t2⟩, ha, hl, hn, hnl⟩ := rowAt_facts k hlt
      refine (Tryd.strings_Fields _ _ (by simp only [ByteArray.size, List.size_toArray]; omega) (by intro j b hb; exact ha b (List.mem_of_getElem? hb)) hI1.sp).mono ?_
      rintro e w1 ⟨rfl, rfl⟩
      go_wp2
      obtain ⟨wo, rfl⟩ : ∃ wo : World, wo = wr := ⟨_, rfl⟩
      have hz := HI.out.size
      have hin : InInv w (tabTo k) k wo.heap.size (wo.heap.size + 1) ((wo.alloc (.cells #[.int .i64 (rowAt k).1, .int .i64 ((rowAt k).2.1 : Int), .string ⟨(rowAt k).2.2.toArray⟩] 87)).alloc
          (.cells ((Lib.fields (rowAt k).2.2).map fun l => Value.string ⟨l.toArray⟩).toArray 9)) := by
        refine ⟨hI1.later ((Below.refl _ _).alloc (Nat.le_refl _) _), ?_, ?_, ?_, by omega, by omega, by simp⟩
        · rw [World.cell?_alloc_past _ _ _ (by simp), World.cell?_alloc_at _ _ _ _ rfl]; rfl
        · rw [World.cell?_alloc_past _ _ _ (by simp), World.cell?_alloc_at _ _ _ _ rfl]; rfl
        · intro j n hj
          rw [World.cell?_alloc_at _ _ _ _ (by simp)]
          simp [hj]
      have HIN := Lib.hid hin
      clear hin hI1
      go_loopw [32] (fun v wi => ∃ j : Nat, j ≤ (Lib.fields (rowAt k).2.2).length ∧ v = .int .i64 j ∧ InInv w (putRow' (tabTo k) (rowAt k).1 (rowAt k).2.1 ((Lib.fields (rowAt k).2.2).take j)) k wo.heap.size (wo.heap.size + 1) wi) (fun v _ => 1000 - (intOf v).toNat)
      case atStart => exact ⟨0, Nat.zero_le _, rfl, HIN.out⟩
      case round =>
        obtain ⟨j, hj, rfl, hJ⟩ := hrel
        by_cases hjl : j < (Lib.fields (rowAt k).2.2).length
        · have hnj := hJ.nm j _ (List.getElem?_eq_getElem hjl)
          obtain ⟨k0, -, -⟩ := hJ.inv.kinds (rowAt k).2.1 t2
          have hc := hJ.inv.tab.cell
          have hs0 := hJ.s0
          have hs1 := hJ.s1
          have hgood := hJ.inv.tab.good
          have h8 : ((rowAt k).2.1 : Int) < 8 := by omega
          have h0 := hJ.inv.kinds.lt
          obtain ⟨w9, hup, hM, hG, -⟩ := MapAt.update (P := Tryd.prog) (t := 83) opKE Tryd.underlying83 hJ.inv.tab.map.drew hJ.inv.tab.ok (k := (kSort (rowAt k).2.1, (Lib.fields (rowAt k).2.2)[j])) ⟨by have := kSort_bd (rowAt k).2.1; simp only; omega, by have := hn _ (List.getElem_mem hjl); unfold maxLen; simp only; omega⟩ (((rowAt k).1, ((rowAt k).2.1 : Int)) : OpV)
          rw [show opk (kSort (rowAt k).2.1, (Lib.fields (rowAt k).2.2)[j]) = .agg #[.int .i64 (kSort (rowAt k).2.1), .string ⟨((Lib.fields (rowAt k).2.2)[j]).toArray⟩] from rfl, show opv ((rowAt k).1, ((rowAt k).2.1 : Int)) = .agg #[.int .i64 (rowAt k).1, .int .i64 ((rowAt k).2.1 : Int)] from rfl] at hup
          have hF : Fr (· = w.heap.size) wr w9 := ((Fr.refl _ _).drew).grown hG (fun g hg => .inl (Option.some.inj hg).symm)
          have hT9 : TabAt w9 (w.heap.size + 1) w.heap.size (putRow' (tabTo k) (rowAt k).1 (rowAt k).2.1 ((Lib.fields (rowAt k).2.2).take (j + 1))) := by
            rw [putRow'_snoc _ _ _ _ _ hjl]
            refine hJ.inv.tab.changed hF (by omega) hM ?_
            intro x hx
            rcases mem_mput hx with hx | rfl
            · exact hgood x hx
            · exact ⟨rfl, hn _ (List.getElem_mem hjl), p1, p2, by simp only; omega, by simp only; omega⟩
          have HJ9 := Lib.hid (hJ.fr hF hT9)
          have hjl' : (j : Int) < ((Lib.fields (rowAt k).2.2).length : Int) := by omega
          have hlen : (Lib.fields (rowAt k).2.2).length ≤ 1000 := hnl
          clear hJ hgood hM hG hF hT9 hn hnl HIN HI
          go_wp2
          go_region
          go_wp2
          go_roundw
          case rel => exact ⟨j + 1, hjl, by go_num, HJ9.out⟩
          case measure => simp [intOf]; omega
        · have hjl' : ¬ (j : Int) < ((Lib.fields (rowAt k).2.2).length : Int) := by omega
          have hfin : NewInv w (tabTo (k + 1)) wr := by
            rw [tabTo_succ k hlt]
            have := hJ.inv
            rw [List.take_of_length_le (by omega)] at this
            exact this
          have HF := Lib.hid hfin
          clear hJ hfin hn HIN HI
          go_wp2
          go_roundw
          case rel => exact ⟨k + 1, hlt, by go_num, HF.out⟩
          case measure => simp [intOf]; omega
    · have hk13 : k = 13 := by omega
      subst hk13
      have HI := Lib.hid hI
      clear hI
      go_wp2
      go_ret
      exact ⟨_, _, rfl, HI.out.tab, by omega, by omega, by omega, HI.out.below⟩
attribute [irreducible] opsInit
end Go.Proofs.YtmgidfndifhcoaaDoor
/-
  Read, from a lexed text on: the tokens as token.Lex lays them; what a text's tokens may be. Conditions: the text is short; the tables are laid.
-/
namespace Go.Proofs.YtmgidfndifhcoaaDoor
open Go.RowKit Go.Maps
set_option maxRecDepth 100000

/-- What the laws' walks ask of the world: the tables that are laid. -/
structure RdEnv (w : World) : Prop where
  max : ∃ m : Int, w.cell? ⟨3, 0, none⟩ = some (.int .i64 m)
  kinds : KindsAt w
  tab : Lib.TabIs Tryd.prog w "strings.asciiSpace" .u8 Lib.asciiSpaceTab
theorem RdEnv.later {w w' : World} (h : RdEnv w) (hb : Below w.heap.size w w') : RdEnv w' := by
  obtain ⟨m, hm⟩ := h.max
  refine ⟨⟨m, ?_⟩, h.kinds.later hb, tabIs_keep h.tab (hb.block _ (tabIs_lt h.tab))⟩
  have := World.block_lt_of_cell? w _ hm
  exact (hb.cell (p := ⟨3, 0, none⟩) this).trans hm
theorem encTok_at (t : Tok) : (encTok t)[0]? = some (.int .i64 t.kind) ∧ (encTok t)[1]? = some (.int .i64 t.line) ∧ (encTok t)[2]? = some (.int .i64 t.n) ∧ (encTok t)[3]? = some (.string ⟨t.s.toArray⟩) ∧ (encTok t)[4]? = some (.bool t.opn) ∧ (encTok t)[5]? = some (.bool t.tight) := ⟨rfl, rfl, rfl, rfl, rfl, rfl⟩
theorem toks_row {w : World} {B n c : Nat} {A : Option Addr} {ts : List Tok} (h : Row w B 44 6 encTok (.slice A n c) ts) : ToksAt w w.heap.size A n ts := by
  refine ⟨h.len.symm, fun i t ht => ?_⟩
  have hne : ts ≠ [] := by intro e; rw [e] at ht; cases ht
  obtain ⟨g, cap, e1, _, hg, _, hc⟩ := h.cells encTok_len hne
  injection e1 with e1 e2 e3
  obtain ⟨q0, q1, q2, q3, q4, q5⟩ := encTok_at t
  have k0 := (hc i t ht 0 _ q0).1
  have k1 := (hc i t ht 1 _ q1).1
  have k2 := (hc i t ht 2 _ q2).1
  have k3 := (hc i t ht 3 _ q3).1
  have k4 := (hc i t ht 4 _ q4).1
  have k5 := (hc i t ht 5 _ q5).1
  refine ⟨g, 0, e1, hg, ?_, ?_, ?_, ?_, ?_, ?_⟩ <;> simp only [Nat.zero_add]
  · exact k0
  · exact k1
  · exact k2
  · exact k3
  · exact k4
  · exact k5
/-- A text's tokens are few and short. -/
structure TokOk (ts : List Tok) : Prop where
  few : ts.length ≤ 20000
  short : ∀ t ∈ ts, t.s.length ≤ 1000000
  num : ∀ t ∈ ts, (-9223372036854775808 ≤ t.n ∧ t.n ≤ 9223372036854775807) ∧ okI t.kind
  vol : vol ts ts.length ≤ 10000000
theorem read_any (w : World) (A : Option Addr) (n c : Nat) (ts : List Tok) (hT : ToksAt w w.heap.size A n ts) (hk : TokOk ts) (i : Int) (bt bm : Nat) (es : List (OpK × OpV)) (hTab : TabAt w bt bm es) (hK : KindsAt w) :
    Calls Tryd.prog 10 #[.slice A n c, .int .i64 i, .pointer (some ⟨bt, 0, none⟩)] w fun e w' => ReadOut w w' (readF (opsOf es) ts i) e := by
  by_cases he : i < 0 ∨ (ts.length : Int) ≤ i ∨ (peekF ts i.toNat).kind = 0
  · exact read_end w A n c ts hT i bt (opsOf es) he
  · obtain ⟨k, rfl⟩ : ∃ k : Nat, i = (k : Int) := ⟨i.toNat, by omega⟩
    rw [Int.toNat_natCast] at he
    exact read_mid w A n c ts hT hk.few k (by omega) (fun h => he (.inr (.inr h))) bt bm es hTab hK hk.short hk.num hk.vol
end Go.Proofs.YtmgidfndifhcoaaDoor
