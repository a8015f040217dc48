import Derived.Test.YtiffopheamnngaaGreatDoorJT45
namespace Go.Proofs.YtiffopheamnngaaGreatDoor
open Go.RowKit Go.Maps
set_option maxRecDepth 100000
def rNames : List (Int × Int × List (List UInt8)) := [(1200, 1, [[58, 45], [45, 45, 62]]), (1200, 4, [[58, 45], [63, 45]]), (1150, 4, [[100, 121, 110, 97, 109, 105, 99]]), (1100, 2, [[59]]), (1050, 2, [[45, 62]]), (1000, 2, [[44]]), (900, 5, [[92, 43]]),
 (700, 1, [[61], [92, 61], [61, 61], [92, 61, 61], [64, 60], [64, 62], [64, 61, 60], [64, 62, 61], [61, 46, 46], [105, 115], [61, 58, 61], [61, 92, 61], [60], [62], [61, 60], [62, 61]]), (500, 3, [[43], [45], [47, 92], [92, 47], [120, 111, 114]]),
 (400, 3, [[42], [47], [47, 47], [114, 101, 109], [109, 111, 100], [100, 105, 118], [60, 60], [62, 62]]), (200, 1, [[42, 42]]), (200, 2, [[94]]), (200, 5, [[45], [43], [92]])]
def rowD (r : Int × Int × List (List UInt8)) : List DefT := r.2.2.map fun n => (r.1, r.2.1, n)
def rInit : List DefT := rNames.flatMap rowD
theorem rInit_perm : rInit.Perm (opsInit.map defOf) := by decide +kernel
theorem rInit_snoc (k : Nat) (r : Int × Int × List (List UInt8)) (h : rNames[k]? = some r) : (rNames.take (k + 1)).flatMap rowD = (rNames.take k).flatMap rowD ++ rowD r := by
 rw [List.take_add_one, h, List.flatMap_append]
 simp
theorem rInit_len : ∀ k : Nat, k < 13 → ((rNames.take k).flatMap rowD).length ≤ 100 ∧ (rowD (rNames.getD k (0, 0, []))).length ≤ 100 := by
 have h : ∀ k : Fin 13, ((rNames.take k).flatMap rowD).length ≤ 100 ∧ (rowD (rNames.getD k (0, 0, []))).length ≤ 100 := by decide +kernel
 exact fun k hk => h ⟨k, hk⟩
structure RN (u : World) (B : Nat) (r : Int × Int × List (List UInt8)) (i : Nat) : Prop where
 pri : u.cell? ⟨B + 15, i, none⟩ = some (.int .i64 r.1)
 typ : u.cell? ⟨B + 16, i, none⟩ = some (.int .i64 r.2.1)
 row : u.cell? ⟨B + 14, i, none⟩ = some (.slice (some ⟨B + (i + 1), 0, none⟩) r.2.2.length r.2.2.length)
 nms : ∀ j n, r.2.2[j]? = some n → u.cell? ⟨B + (i + 1), j, none⟩ = some (.string ⟨n.toArray⟩)
def rObjs (B : Nat) : List Obj :=
 [.cells #[.slice none 0 0] 101] ++ rNames.map (fun r => .cells (r.2.2.map fun n => Value.string ⟨n.toArray⟩).toArray 9) ++
 [.cells ((List.range 13).map fun i => Value.slice (some ⟨B + (i + 1), 0, none⟩) ((rNames.getD i (0, 0, [])).2.2.length) ((rNames.getD i (0, 0, [])).2.2.length)).toArray 90,
  .cells (rNames.map fun r => Value.int .i64 r.1).toArray 103, .cells (rNames.map fun r => Value.int .i64 r.2.1).toArray 103]
theorem allocs_cell9 (w : World) (l : List Obj) (i j : Nat) (cs : Array Value) (t : TypeId) (u : Value) (h : l[i]? = some (.cells cs t)) (hu : cs[j]? = some u) : (allocs w l).cell? ⟨w.heap.size + i, j, none⟩ = some u := by
 rw [cell_of_row _ _ j cs t (0, 0) (allocs_at w l i _ h)]
 exact hu
theorem rn_at (w : World) (i : Nat) (r : Int × Int × List (List UInt8)) (h : rNames[i]? = some r) : RN (allocs w (rObjs w.heap.size)) w.heap.size r i := by
 have hi : i < 13 := (List.getElem?_eq_some_iff.1 h).1
 refine ⟨?_, ?_, ?_, fun j n hj => ?_⟩
 ·exact allocs_cell9 w _ 15 i (rNames.map fun r => Value.int .i64 r.1).toArray 103 _ rfl (by simp [h])
 ·exact allocs_cell9 w _ 16 i (rNames.map fun r => Value.int .i64 r.2.1).toArray 103 _ rfl (by simp [h])
 ·refine allocs_cell9 w _ 14 i _ 90 _ rfl ?_
  simp [hi, h]
 ·refine allocs_cell9 w _ (i + 1) j (r.2.2.map fun n => Value.string ⟨n.toArray⟩).toArray 9 _ ?_ (by simp [hj])
  unfold rObjs
  rw [List.append_assoc, List.singleton_append, List.getElem?_cons_succ, List.getElem?_append_left (by rw [List.length_map]; exact hi), List.getElem?_map, h]
  rfl
structure NInv (w w0 : World) (u : World) (L : List DefT) (v : Value) : Prop where
 cell : u.cell? ⟨w.heap.size, 0, none⟩ = some v
 frozen : u.frozen? ⟨w.heap.size, 0, none⟩ = false
 row : Row u w0.heap.size 56 3 encDef v L
 fr : Fr (fun k => k = w.heap.size ∨ w0.heap.size ≤ k) w0 u
theorem NInv.rn {w w0 u : World} {L : List DefT} {v : Value} {r : Int × Int × List (List UInt8)} {i : Nat} (h : NInv w w0 u L v) (hr : RN w0 w.heap.size r i) : RN u w.heap.size r i := by
 have k : ∀ p : Addr, p.block ≠ w.heap.size → ∀ x, w0.cell? p = some x → u.cell? p = some x := fun p hp x hx => (h.fr.cell (World.block_lt_of_cell? w0 _ hx) (fun e => e.elim hp (fun e => by have := World.block_lt_of_cell? w0 _ hx; omega))).trans hx
 exact ⟨k _ (by simp only; omega) _ hr.pri, k _ (by simp only; omega) _ hr.typ, k _ (by simp only; omega) _ hr.row, fun j n hj => k _ (by simp only; omega) _ (hr.nms j n hj)⟩
theorem slDefs_one (w : World) (x : DefT) : SlDefs ((w.alloc (.cells #[.int .i64 x.1, .int .i64 x.2.1, .string ⟨x.2.2.toArray⟩] 56)).drew) (some ⟨w.heap.size, 0, none⟩) 1 1 [x] := by
 refine ⟨rfl, (fun h => by cases h), fun i y hy => ?_⟩
 obtain ⟨rfl, rfl⟩ : i = 0 ∧ y = x := by
  rcases Nat.eq_zero_or_pos i with rfl | h0
  ·simp at hy; exact ⟨rfl, hy.symm⟩
  ·rw [List.getElem?_eq_none (by simp; omega)] at hy; cases hy
 refine ⟨_, 0, rfl, by simp, fun j u hu => ?_⟩
 rw [Nat.zero_mul, Nat.add_zero, Nat.zero_add]
 exact cell_one w _ _ j u (by simpa [encDef] using hu)
theorem NInv.step {w w0 u u1 w9 : World} {L : List DefT} {v v9 : Value} {x : DefT} (h : NInv w w0 u L v) (hw0 : w.heap.size < w0.heap.size) (hb : Below u.heap.size u u1) (hr : Row w9 w0.heap.size 56 3 encDef v9 (L ++ [x])) (hg : u1.grownBy w9 v.ownBlock) :
    (w9.cell? ⟨w.heap.size, 0, none⟩ = some v ∧ w9.frozen? ⟨w.heap.size, 0, none⟩ = false) ∧ NInv w w0 (w9.setCell ⟨w.heap.size, 0, none⟩ v9) (L ++ [x]) v9 := by
 have hlt := World.block_lt_of_cell? u _ h.cell
 simp only at hlt
 have hF : Fr (fun k => k = w.heap.size ∨ w0.heap.size ≤ k) w0 w9 := (h.fr.step hb).grown hg (fun g e => .inl (.inr (h.row.lt g e).1))
 have hk : w9.heap[w.heap.size]? = u.heap[w.heap.size]? := (hg.block _ (Nat.lt_of_lt_of_le hlt hb.size) (fun e => by have := (h.row.lt _ e.symm).1; omega)).trans (hb.block _ hlt)
 have hc : w9.cell? ⟨w.heap.size, 0, none⟩ = some v := (World.cell?_of_block (a := ⟨w.heap.size, 0, none⟩) hk).trans h.cell
 have hf : w9.frozen? ⟨w.heap.size, 0, none⟩ = false := (World.frozen?_of_block (a := ⟨w.heap.size, 0, none⟩) hk).trans h.frozen
 refine ⟨⟨hc, hf⟩, World.cell?_setCell_same _ _ _ hc, by rw [World.frozen?_setCell]; exact hf, hr.away _ fun k hk => by have := (hr.lt k hk).1; simp only; omega, hF.setCell (p := ⟨w.heap.size, 0, none⟩) (.inl (.inl rfl)) _⟩
set_option maxHeartbeats 8000000 in
theorem rNew_any (w : World) :
    Calls Tryz.prog 16 #[] w fun e w' => ∃ rt, e = .returned (.pointer (some ⟨rt, 0, none⟩)) ∧ w.heap.size ≤ rt ∧ RTab w' rt rInit ∧ Below w.heap.size w w' := by
 have HN : Hid (∀ i r, rNames[i]? = some r → RN (allocs w (rObjs w.heap.size)) w.heap.size r i) := Lib.hid (rn_at w)
 obtain ⟨w0, hw0⟩ : ∃ w0, w0 = allocs w (rObjs w.heap.size) := ⟨_, rfl⟩
 have hs0 : w0.heap.size = w.heap.size + 17 := by rw [hw0, allocs_size]; rfl
 have hb0 : Below w.heap.size w w0 := by rw [hw0]; exact allocs_below _ _
 have hbt : w0.heap[w.heap.size]? = some (.cells #[.slice none 0 0] 101 (0, 0)) := by rw [hw0]; exact allocs_at w _ 0 _ rfl
 have HI0 : Hid (NInv w w0 w0 [] (.slice none 0 0)) := Lib.hid ⟨by rw [cell_of_row _ _ 0 _ _ _ hbt]; rfl, by simp [World.frozen?, hbt], Row.nil _ _ _ _ _, Fr.refl _ _⟩
 have HB0 := Lib.hid hb0
 have HN0 : Hid (∀ i r, rNames[i]? = some r → RN w0 w.heap.size r i) := by rw [hw0]; exact HN
 have hw0' : allocs w (rObjs w.heap.size) = w0 := hw0.symm
 have HW0 := Lib.hid hw0'
 clear hbt hb0 HN hw0 hw0'
 go_enter Tryz.func16, Tryz.ntmps16
 go_wp2_with fail
 change Code.wp _ _ _ _ (allocs w (rObjs w.heap.size))
 rw [HW0.out]
 clear HW0
 go_loopw [29] (fun i u => ∃ k : Nat, k ≤ 13 ∧ i = .int .i64 k ∧ ∃ v, NInv w w0 u ((rNames.take k).flatMap rowD) v) (fun i _ => 13 - (intOf i).toNat)
 case atStart => exact ⟨0, Nat.zero_le _, rfl, _, by simpa using HI0.out⟩
 case round =>
  obtain ⟨k, hk, rfl, v, hI⟩ := hrel
  by_cases hlt : k < 13
  ·have hx := List.getElem?_eq_getElem (show k < rNames.length from hlt)
   have hl0 := (rInit_len k hlt).1
   have hl1 := (rInit_len k hlt).2
   rw [List.getD_eq_getElem?_getD, hx, Option.getD_some] at hl1
   have hsn := rInit_snoc k _ hx
   generalize rNames[k]'_ = r at hx hl1 hsn
   obtain ⟨c0, c1, c2, -⟩ := hI.rn (HN0.out k r hx)
   have HX := Lib.hid hx
   have HSN := Lib.hid hsn
   have HI := Lib.hid hI
   have hlt' : (k : Int) < 13 := by omega
   have hrl : (rowD r).length = r.2.2.length := by unfold rowD; rw [List.length_map]
   rw [hrl] at hl1
   generalize (rNames.take k).flatMap rowD = Lk at *
   clear hx hI hsn hrl
   go_wp2_with fail
   go_loopw [36] (fun i u => ∃ j : Nat, j ≤ r.2.2.length ∧ i = .int .i64 j ∧ ∃ v, NInv w w0 u (Lk ++ (rowD r).take j) v) (fun i _ => r.2.2.length - (intOf i).toNat)
   case atStart => exact ⟨0, Nat.zero_le _, rfl, _, by simpa using HI.out⟩
   case round =>
    obtain ⟨j, hj, rfl, v', hJ⟩ := hrel
    obtain ⟨wr', rfl⟩ : ∃ wr' : World, wr' = wr := ⟨_, rfl⟩
    by_cases hjl : j < r.2.2.length
    ·have hy := List.getElem?_eq_getElem hjl
     generalize r.2.2[j] = n at hy
     obtain ⟨d0, d1, -, d3⟩ := hJ.rn (HN0.out k r HX.out)
     have dn := d3 j n hy
     have b0 := hJ.cell
     have b1 := hJ.frozen
     have hbl : w.heap.size < wr'.heap.size := World.block_lt_of_cell? wr' _ hJ.cell
     have hjl' : (j : Int) < (r.2.2.length : Int) := by omega
     obtain ⟨v9, w9, hr9, hR9, hg9⟩ := run_defs ((wr'.alloc (.cells #[.int .i64 r.1, .int .i64 r.2.1, .string ⟨n.toArray⟩] 56)).drew) w0.heap.size v' (Lk ++ (rowD r).take j) [(r.1, r.2.1, n)] _ 1 1 22 (hJ.row.later (((Below.refl _ _).alloc (Nat.le_refl _) _).drew)) (slDefs_one wr' (r.1, r.2.1, n)) (by rw [List.length_append, List.length_take]; omega) (by have := hJ.fr.size; simp; omega)
     obtain ⟨A9, cap9, e9⟩ := hR9.shape
     generalize (Lk ++ (rowD r).take j ++ [(r.1, r.2.1, n)]).length = n9 at e9
     subst e9
     obtain ⟨⟨b2, b3⟩, hJ9⟩ := hJ.step (by omega) (((Below.refl _ _).alloc (Nat.le_refl _) _).drew) hR9 hg9
     rw [List.append_assoc, show (rowD r).take j ++ [(r.1, r.2.1, n)] = (rowD r).take (j + 1) by
      rw [List.take_add_one]
      unfold rowD
      rw [List.getElem?_map, hy]
      rfl] at hJ9
     have HJ9 := Lib.hid hJ9
     clear hJ hR9 hg9 hJ9 hy d3
     go_wp2_with fail
     go_region_law (first | (refine step_run rfl (.tmp 44) (.tmp 53) 22 rfl (by rfl) (by rfl) hr9 ?_))
     all_goals
      go_wp2_with fail
      go_roundw
      case rel => exact ⟨j + 1, hjl, by go_num, _, HJ9.out⟩
      case measure => simp [intOf]; omega
    ·have hjl' : ¬ (j : Int) < (r.2.2.length : Int) := by omega
     have HF : Hid (NInv w w0 wr' ((rNames.take (k + 1)).flatMap rowD) v') := Lib.hid (by
      rw [HSN.out]
      rw [List.take_of_length_le (by unfold rowD; rw [List.length_map]; omega)] at hJ
      exact hJ)
     clear hJ
     go_wp2_with fail
     go_roundw
     case rel => exact ⟨k + 1, hlt, by go_num, _, HF.out⟩
     case measure => simp [intOf]; omega
  ·have hk13 : k = 13 := by omega
   subst hk13
   have HI := Lib.hid hI
   clear hI
   go_wp2_with fail
   go_ret
   have hF := HI.out.fr
   have hb : Below w.heap.size w wr := HB0.out.trans (hF.below (by omega) (fun k hk => by omega))
   exact ⟨_, rfl, Nat.le_refl _, ⟨_, HI.out.cell, HI.out.frozen, HI.out.row.down (by omega)⟩, hb⟩
def tabMade (l : List DefT) : List (OpK × OpV) := l.foldl (fun es d => opTab es d.1 d.2.1 d.2.2) opsInit
theorem tabMade_snoc (l : List DefT) (i : Nat) (h : i < l.length) : tabMade (l.take (i + 1)) = opTab (tabMade (l.take i)) l[i].1 l[i].2.1 l[i].2.2 := by
 unfold tabMade
 rw [List.take_succ_eq_append_getElem h, List.foldl_append]
 rfl
structure MadeInv (w : World) (bt bm : Nat) (es : List (OpK × OpV)) (wr : World) : Prop where
 tab : TabAt wr bt bm es
 kinds : KindsAt wr
 kindsLt : 0 < w.heap.size
 bt_ge : w.heap.size ≤ bt
 bm_ge : w.heap.size ≤ bm
 ne : bt ≠ bm
 below : Below w.heap.size w wr
theorem MadeInv.fr {w wr wr' : World} {bt bm : Nat} {es es' : List (OpK × OpV)} (h : MadeInv w bt bm es wr) (hF : Fr (· = bm) wr wr') (ht : TabAt wr' bt bm es') : MadeInv w bt bm es' wr' := by
 have h1 := h.kindsLt
 have h2 := h.bm_ge
 have h3 := h.below.size
 exact ⟨ht, h.kinds.keep (hF.block _ (by omega) (by omega)), h1, h.bt_ge, h2, h.ne, h.below.trans (hF.below (by omega) (by omega))⟩
set_option maxHeartbeats 1000000 in
theorem made_any (w : World) (A : Option Addr) (n c : Nat) (l : List DefT) (hl : DefsAt w w.heap.size A n l) (hn : n ≤ 1000000) (hK : KindsAt w) (htab : Lib.TabIs Tryz.prog w "strings.asciiSpace" .u8 Lib.asciiSpaceTab) :
    Calls Tryz.prog 5 #[.slice A n c] w fun e w' => ∃ bt bm, e = .returned (.pointer (some ⟨bt, 0, none⟩)) ∧ MadeInv w bt bm (tabMade l) w' := by
 have HL := Lib.hid hl
 have hk0 := hK.lt
 have HK := Lib.hid hK
 have HTAB := Lib.hid htab
 clear hl hK htab
 go_enter Tryz.func5, Tryz.ntmps5
 go_wp2_with fail
 refine (new_any w HK.out HTAB.out).mono ?_
 rintro e w1 ⟨bt, bm, rfl, hT, hbt, hbm, hne, hb1⟩
 have hI : MadeInv w bt bm opsInit w1 := ⟨hT, HK.out.below hb1 hk0, hk0, hbt, hbm, hne, hb1⟩
 have HI := Lib.hid hI
 clear hI hT
 go_wp2_with fail
 go_loopw [9] (fun i wr => ∃ k : Nat, k ≤ n ∧ i = .int .i64 k ∧ MadeInv w bt bm (tabMade (l.take k)) wr) (fun i _ => n - (intOf i).toNat)
 case atStart => exact ⟨0, Nat.zero_le _, rfl, by simpa only [tabMade, List.take_zero, List.foldl_nil] using HI.out⟩
 case round =>
  obtain ⟨k, hk, rfl, hR⟩ := hrel
  by_cases hlt : k < n
  ·have hkl : k < l.length := by rw [HL.out.1]; exact hlt
   obtain ⟨b, off, hA, hb, c0, c1, c2, hm⟩ := HL.out.2 k l[k] (List.getElem?_eq_getElem hkl)
   rw [← hR.below.cell (p := ⟨b, off + k * 3, none⟩) hb] at c0
   rw [← hR.below.cell (p := ⟨b, off + k * 3 + 1, none⟩) hb] at c1
   rw [← hR.below.cell (p := ⟨b, off + k * 3 + 2, none⟩) hb] at c2
   have hlt' : (k : Int) < (n : Int) := by omega
   have HR := Lib.hid hR
   clear hR HI
   subst hA
   go_wp2_with fail
   have hba : Below wr.heap.size wr (wr.alloc (.cells #[.int .i64 l[k].1, .int .i64 l[k].2.1, .string ⟨l[k].2.2.toArray⟩] 56)) := (Below.refl _ _).alloc (Nat.le_refl _) _
   refine (op_any _ bt bm _ (HR.out.tab.later hba) (HR.out.kinds.later hba) hne l[k].1 l[k].2.1 l[k].2.2 (Nat.le_trans hm (by unfold maxLen; omega))).mono ?_
   rintro e w2 ⟨rfl, hT2, hF2⟩
   have hfin : MadeInv w bt bm (tabMade (l.take (k + 1))) w2 := by
    rw [tabMade_snoc l k hkl]
    exact HR.out.fr ((Fr.of_below _ hba).trans hF2) hT2
   have HF := Lib.hid hfin
   clear hfin hT2
   go_wp2
   go_roundw
   case rel => exact ⟨k + 1, hlt, by go_num, HF.out⟩
   case measure => simp [intOf]; omega
  ·have hkn : k = n := by omega
   subst hkn
   have e1 : l.take k = l := List.take_of_length_le (by rw [HL.out.1]; exact Nat.le_refl _)
   rw [e1] at hR
   have HR := Lib.hid hR
   clear hR HI e1
   go_wp2
   go_ret
   exact ⟨bt, bm, rfl, HR.out⟩
structure RMd (w : World) (rt : Nat) (es : List (OpK × OpV)) (L : List DefT) (k : Nat) (wr : World) : Prop where
 ge : w.heap.size ≤ rt
 tab : RTab wr rt L
 agree : Agree es L
 few : L.length ≤ 100 + k
 below : Below w.heap.size w wr
theorem rop_few (L : List DefT) (p t : Int) (n : List UInt8) : (rop L p t n).length ≤ L.length + 1 := by
 have h : (rout L t n).length ≤ L.length := List.length_filter_le _ _
 unfold rop
 split
 ·omega
 ·split
  ·rw [List.length_append, List.length_singleton]
   omega
  ·omega
theorem init_goodR : ∀ x ∈ opsInit, goodOp x := by
 have h : (opsInit.all fun x => decide (x.1.1 = kSort x.2.2 ∧ x.1.2.length ≤ 1000 ∧ 1 ≤ x.2.1 ∧ x.2.1 ≤ 1200 ∧ 1 ≤ x.2.2 ∧ x.2.2 ≤ 7)) = true := by decide +kernel
 intro x hx
 have h1 := of_decide_eq_true (List.all_eq_true.1 h x hx)
 exact h1
theorem init_agree : Agree opsInit rInit := ⟨rInit_perm, init_goodR, by decide +kernel⟩
theorem rInit_few : rInit.length ≤ 100 := by decide +kernel
set_option maxHeartbeats 2000000 in
theorem rMade_any (w : World) (A : Option Addr) (n c : Nat) (l : List DefT) (hl : DefsAt w w.heap.size A n l) (hn : n ≤ 100) :
    Calls Tryz.prog 6 #[.slice A n c] w fun e w' => ∃ rt L, e = .returned (.pointer (some ⟨rt, 0, none⟩)) ∧ RMd w rt (tabMade l) L n w' := by
 have HL := Lib.hid hl
 clear hl
 go_enter Tryz.func6, Tryz.ntmps6
 go_wp2_with fail
 refine (rNew_any w).mono ?_
 rintro e w1 ⟨rt, rfl, hrt, hT, hb1⟩
 have HI : Hid (RMd w rt opsInit rInit 0 w1) := Lib.hid ⟨hrt, hT, init_agree, rInit_few, hb1⟩
 clear hrt hT hb1
 go_wp2_with fail
 go_loopw [9] (fun i wr => ∃ k : Nat, k ≤ n ∧ i = .int .i64 k ∧ ∃ L, RMd w rt (tabMade (l.take k)) L k wr) (fun i _ => n - (intOf i).toNat)
 case atStart => exact ⟨0, Nat.zero_le _, rfl, rInit, by simpa only [tabMade, List.take_zero, List.foldl_nil] using HI.out⟩
 case round =>
  obtain ⟨k, hk, rfl, L, hR⟩ := hrel
  by_cases hlt : k < n
  ·have hkl : k < l.length := by rw [HL.out.1]; exact hlt
   obtain ⟨b, off, hA, hb, c0, c1, c2, hm⟩ := HL.out.2 k l[k] (List.getElem?_eq_getElem hkl)
   rw [← hR.below.cell (p := ⟨b, off + k * 3, none⟩) hb] at c0
   rw [← hR.below.cell (p := ⟨b, off + k * 3 + 1, none⟩) hb] at c1
   rw [← hR.below.cell (p := ⟨b, off + k * 3 + 2, none⟩) hb] at c2
   have hlt' : (k : Int) < (n : Int) := by omega
   have HR := Lib.hid hR
   clear hR HI
   subst hA
   go_wp2_with fail
   have hba : Below wr.heap.size wr (wr.alloc (.cells #[.int .i64 l[k].1, .int .i64 l[k].2.1, .string ⟨l[k].2.2.toArray⟩] 56)) := (Below.refl _ _).alloc (Nat.le_refl _) _
   refine (rOp_any _ rt L (HR.out.tab.later hba) HR.out.agree.priOk (by have := HR.out.few; omega) l[k].1 l[k].2.1 l[k].2.2 (Nat.le_trans hm (by unfold maxLen; omega))).mono ?_
   rintro e w2 ⟨rfl, hT2, hF2⟩
   have hfin : RMd w rt (tabMade (l.take (k + 1))) (rop L l[k].1 l[k].2.1 l[k].2.2) (k + 1) w2 := by
    rw [tabMade_snoc l k hkl]
    have h1 := HR.out.ge
    have h2 := HR.out.below.size
    have h3 := rop_few L l[k].1 l[k].2.1 l[k].2.2
    have h4 := HR.out.few
    exact ⟨h1, hT2, HR.out.agree.op _ _ _, by omega, (HR.out.below.trans (hba.mono h2)).trans (hF2.below (B := w.heap.size) (by have := hba.size; omega) (fun q hq (e : q = rt) => by omega))⟩
   have HF := Lib.hid hfin
   clear hfin hT2
   go_wp2
   go_roundw
   case rel => exact ⟨k + 1, hlt, by go_num, _, HF.out⟩
   case measure => simp [intOf]; omega
  ·have hkn : k = n := by omega
   subst hkn
   have e1 : l.take k = l := List.take_of_length_le (by rw [HL.out.1]; exact Nat.le_refl _)
   rw [e1] at hR
   have HR := Lib.hid hR
   clear hR HI e1
   go_wp2
   go_ret
   exact ⟨rt, L, rfl, HR.out⟩
end Go.Proofs.YtiffopheamnngaaGreatDoor
