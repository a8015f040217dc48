import Derived.Test.YtiffopheamnngaaGreatDoorJT11
import Derived.Deep.RegionHeld3
import Derived.Deep.DeepCutAuto
namespace Go.Proofs.YtiffopheamnngaaGreatDoor
open Go.RowKit Go.Maps
set_option maxRecDepth 100000
structure OpsAt (u : World) (rb : Nat) (v : RdV) (bt bm : Nat) (es : List (OpK × OpV)) : Prop where
 ob : v.ob = .pointer (some ⟨bt, 0, none⟩)
 tab : TabAt u bt bm es
 kinds : KindsAt u
 far : bt < rb ∧ bm < rb ∧ 0 < rb
theorem OpsAt.later {u u' : World} {rb : Nat} {v : RdV} {bt bm : Nat} {es : List (OpK × OpV)} (h : OpsAt u rb v bt bm es) (hb : Below u.heap.size u u') : OpsAt u' rb v bt bm es := ⟨h.ob, h.tab.later hb, h.kinds.later hb, h.far⟩
theorem OpsAt.fr {S : Nat → Prop} {u u' : World} {rb : Nat} {v : RdV} {bt bm : Nat} {es : List (OpK × OpV)} (h : OpsAt u rb v bt bm es) (hF : Fr S u u') (hS : ∀ k, S k → rb ≤ k) : OpsAt u' rb v bt bm es :=
 ⟨h.ob, h.tab.keep (hF.block _ h.tab.lt fun e => by have := hS _ e; have := h.far; omega) (hF.block _ h.tab.map.lt fun e => by have := hS _ e; have := h.far; omega), h.kinds.keep (hF.block _ h.kinds.lt fun e => by have := hS _ e; have := h.far; omega), h.far⟩
theorem bg_drew {u : World} {p q : Addr} {x y : Option Value} (h : u.cell? p = x ∧ u.cell? q = y) : u.drew.cell? p = x ∧ u.drew.cell? q = y := h
theorem bg_later {u u' : World} {p q : Addr} {x y : Value} (h : u.cell? p = some x ∧ u.cell? q = some y) (hb : Below u.heap.size u u') : u'.cell? p = some x ∧ u'.cell? q = some y :=
 ⟨(hb.cell (World.block_lt_of_cell? u _ h.1)).trans h.1, (hb.cell (World.block_lt_of_cell? u _ h.2)).trans h.2⟩
set_option maxHeartbeats 8000000 in
theorem begins_op1 (u : World) (rb : Nat) (v : RdV) (ts : List Tok) (s : RdS) (B : Nat) (h : RdAt u rb v ts s B) (bt bm : Nat) (es : List (OpK × OpV)) (ho : OpsAt u rb v bt bm es) (hsh : (peekF ts s.at').s.length ≤ 1000000)
    (hk : (peekF ts s.at').kind = 1) (hop : (peekF ts s.at').opn = false) :
    Calls Tryz.prog 60 #[.pointer (some ⟨rb, 0, none⟩)] u fun e u' => e = .returned (.bool (beginsF (opsOf es) (peekF ts s.at'))) ∧ Below u.heap.size u u' := by
 have hn : OkName (peekF ts s.at').s := by unfold OkName; exact Nat.le_of_succ_le (short_max hsh)
 obtain ⟨q, hq⟩ : ∃ q, q = beginsF (opsOf es) (peekF ts s.at') := ⟨_, rfl⟩
 have hq2 : q = decide (((tsides es 2 (peekF ts s.at').s).1 = 0 ∧ (tsides es 3 (peekF ts s.at').s).1 = 0) ∨ 0 < (tsides es 1 (peekF ts s.at').s).1) := by
  rw [hq]
  unfold beginsF
  rw [if_neg (by omega), if_neg (by omega), if_pos (by omega), hop]
  rfl
 rw [← hq]
 have HA := Lib.hid h
 have HO := Lib.hid ho
 have HN := Lib.hid hn
 have HQ := Lib.hid hq2
 have hob := ho.ob
 clear h ho hn hq hq2
 obtain ⟨p1, hp1⟩ : ∃ p, p = peekF ts s.at' := ⟨_, rfl⟩
 have HPE := Lib.hid hp1
 rw [← hp1] at hsh hk hop HN HQ
 clear hp1
 obtain ⟨k, ln, n, st, op, ti⟩ := p1
 simp only at hsh hk hop HN HQ
 subst hop hk
 go_enter Tryz.func60, Tryz.ntmps60
 go_wp2_with fail
 refine (peek_any _ rb v ts s B HA.out 0 (by omega)).mono ?_
 rintro e w1 ⟨rfl, hb1⟩
 rw [show s.at' + 0 = s.at' from rfl, ← HPE.out]
 simp only [tokW]
 obtain ⟨W, hW⟩ : ∃ W, W = w1.alloc (.cells #[.int .i64 1, .int .i64 ln, .int .i64 n, .string ⟨st.toArray⟩, .bool false, .bool ti] 48) := ⟨_, rfl⟩
 have hbW : Below u.heap.size u W := by rw [hW]; exact hb1.alloc hb1.size _
 have hs : W.cell? ⟨rb, 2, none⟩ = some (.pointer (some ⟨bt, 0, none⟩)) ∧ W.cell? ⟨w1.heap.size, 3, none⟩ = some (.string ⟨st.toArray⟩) :=
  ⟨((HA.out.later hbW).blk.cell (i := 2) rfl).trans (congrArg some hob), by rw [hW]; exact cell_made w1 _ _ 3 _ rfl⟩
 have HS1 := Lib.hid hs
 have HB1 := Lib.hid hbW
 have HO1 := Lib.hid (HO.out.later hbW)
 clear hb1 hbW hs
 go_wp2_with fail
 rw [← hW]
 clear hW
 go_region_held3 (fun u => u.cell? ⟨rb, 2, none⟩ = some (.pointer (some ⟨bt, 0, none⟩)) ∧ u.cell? ⟨w1.heap.size, 3, none⟩ = some (.string ⟨st.toArray⟩))
     (first | (with_reducible exact HS1.out) | (with_reducible exact bg_drew HS1.out) | (with_reducible exact bg_later (bg_drew HS1.out) hb1) | (with_reducible exact bg_drew (bg_later (bg_drew HS1.out) hb1)))
     (first | (go_at_call 84; refine (infix_any _ bt bm es (HO1.out.later (Below.refl _ _).drew).tab (HO1.out.later (Below.refl _ _).drew).kinds st HN.out).mono ?_; rintro e w2 ⟨rfl, hb1⟩))
 have HS2 := Lib.hid (bg_later (bg_drew HS1.out) hb1)
 have HO2 := Lib.hid (HO1.out.later (below_call' (Below.refl _ _).drew hb1))
 have HB2 := Lib.hid (below_call' (HB1.out.drew) hb1)
 clear hb1
 go_wp2_with fail
 go_region_held3 (fun u => u.cell? ⟨rb, 2, none⟩ = some (.pointer (some ⟨bt, 0, none⟩)) ∧ u.cell? ⟨w1.heap.size, 3, none⟩ = some (.string ⟨st.toArray⟩))
     (first | (with_reducible exact HS2.out) | (with_reducible exact bg_drew HS2.out) | (with_reducible exact bg_later (bg_drew HS2.out) hb2) | (with_reducible exact bg_drew (bg_later (bg_drew HS2.out) hb2)))
     (first | (go_at_call 85; refine (postfix_any _ bt bm es (HO2.out.later (Below.refl _ _).drew).tab (HO2.out.later (Below.refl _ _).drew).kinds st HN.out).mono ?_; rintro e w3 ⟨rfl, hb2⟩))
 have HS3 := Lib.hid (bg_later (bg_drew HS2.out) hb2)
 have HO3 := Lib.hid (HO2.out.later (below_call' (Below.refl _ _).drew hb2))
 have HB3 := Lib.hid (below_call' (HB2.out.drew) hb2)
 clear hb2
 go_wp2_with fail
 go_region_held3 (fun u => u.cell? ⟨rb, 2, none⟩ = some (.pointer (some ⟨bt, 0, none⟩)) ∧ u.cell? ⟨w1.heap.size, 3, none⟩ = some (.string ⟨st.toArray⟩))
     (first | (with_reducible exact HS3.out) | (with_reducible exact bg_drew HS3.out) | (with_reducible exact bg_later (bg_drew HS3.out) hb3) | (with_reducible exact bg_drew (bg_later (bg_drew HS3.out) hb3)))
     (first | (go_at_call 59; refine (prefix_any _ bt bm es (HO3.out.later (Below.refl _ _).drew).tab (HO3.out.later (Below.refl _ _).drew).kinds st HN.out).mono ?_; rintro e w4 ⟨rfl, hb3⟩))
 have HS4 := Lib.hid (bg_later (bg_drew HS3.out) hb3)
 have HO4 := Lib.hid (HO3.out.later (below_call' (Below.refl _ _).drew hb3))
 have HB4 := Lib.hid (below_call' (HB3.out.drew) hb3)
 clear hb3
 go_wp2_with fail
 all_goals
  go_ret
  refine ⟨congrArg (fun b => Ending.returned (Value.bool b)) ?_, HB4.out⟩
  have hq := HQ.out
  clear HQ HS1 HS2 HS3 HS4 HO HO1 HO2 HO3 HO4 HB1 HB2 HB3 HB4 HA HN HPE
  subst hq
  rw [Bool.eq_iff_iff]
  simp_all
set_option maxHeartbeats 8000000 in
theorem begins_op2 (u : World) (rb : Nat) (v : RdV) (ts : List Tok) (s : RdS) (B : Nat) (h : RdAt u rb v ts s B) (bt bm : Nat) (es : List (OpK × OpV)) (ho : OpsAt u rb v bt bm es) (hsh : (peekF ts s.at').s.length ≤ 1000000)
    (hk : (peekF ts s.at').kind = 2) (hop : (peekF ts s.at').opn = false) :
    Calls Tryz.prog 60 #[.pointer (some ⟨rb, 0, none⟩)] u fun e u' => e = .returned (.bool (beginsF (opsOf es) (peekF ts s.at'))) ∧ Below u.heap.size u u' := by
 have hn : OkName (peekF ts s.at').s := by unfold OkName; exact Nat.le_of_succ_le (short_max hsh)
 obtain ⟨q, hq⟩ : ∃ q, q = beginsF (opsOf es) (peekF ts s.at') := ⟨_, rfl⟩
 have hq2 : q = decide (((tsides es 2 (peekF ts s.at').s).1 = 0 ∧ (tsides es 3 (peekF ts s.at').s).1 = 0) ∨ 0 < (tsides es 1 (peekF ts s.at').s).1) := by
  rw [hq]
  unfold beginsF
  rw [if_neg (by omega), if_neg (by omega), if_pos (by omega), hop]
  rfl
 rw [← hq]
 have HA := Lib.hid h
 have HO := Lib.hid ho
 have HN := Lib.hid hn
 have HQ := Lib.hid hq2
 have hob := ho.ob
 clear h ho hn hq hq2
 obtain ⟨p1, hp1⟩ : ∃ p, p = peekF ts s.at' := ⟨_, rfl⟩
 have HPE := Lib.hid hp1
 rw [← hp1] at hsh hk hop HN HQ
 clear hp1
 obtain ⟨k, ln, n, st, op, ti⟩ := p1
 simp only at hsh hk hop HN HQ
 subst hop hk
 go_enter Tryz.func60, Tryz.ntmps60
 go_wp2_with fail
 refine (peek_any _ rb v ts s B HA.out 0 (by omega)).mono ?_
 rintro e w1 ⟨rfl, hb1⟩
 rw [show s.at' + 0 = s.at' from rfl, ← HPE.out]
 simp only [tokW]
 obtain ⟨W, hW⟩ : ∃ W, W = w1.alloc (.cells #[.int .i64 2, .int .i64 ln, .int .i64 n, .string ⟨st.toArray⟩, .bool false, .bool ti] 48) := ⟨_, rfl⟩
 have hbW : Below u.heap.size u W := by rw [hW]; exact hb1.alloc hb1.size _
 have hs : W.cell? ⟨rb, 2, none⟩ = some (.pointer (some ⟨bt, 0, none⟩)) ∧ W.cell? ⟨w1.heap.size, 3, none⟩ = some (.string ⟨st.toArray⟩) :=
  ⟨((HA.out.later hbW).blk.cell (i := 2) rfl).trans (congrArg some hob), by rw [hW]; exact cell_made w1 _ _ 3 _ rfl⟩
 have HS1 := Lib.hid hs
 have HB1 := Lib.hid hbW
 have HO1 := Lib.hid (HO.out.later hbW)
 clear hb1 hbW hs
 go_wp2_with fail
 rw [← hW]
 clear hW
 go_region_held3 (fun u => u.cell? ⟨rb, 2, none⟩ = some (.pointer (some ⟨bt, 0, none⟩)) ∧ u.cell? ⟨w1.heap.size, 3, none⟩ = some (.string ⟨st.toArray⟩))
     (first | (with_reducible exact HS1.out) | (with_reducible exact bg_drew HS1.out) | (with_reducible exact bg_later (bg_drew HS1.out) hb1) | (with_reducible exact bg_drew (bg_later (bg_drew HS1.out) hb1)))
     (first | (go_at_call 84; refine (infix_any _ bt bm es (HO1.out.later (Below.refl _ _).drew).tab (HO1.out.later (Below.refl _ _).drew).kinds st HN.out).mono ?_; rintro e w2 ⟨rfl, hb1⟩))
 have HS2 := Lib.hid (bg_later (bg_drew HS1.out) hb1)
 have HO2 := Lib.hid (HO1.out.later (below_call' (Below.refl _ _).drew hb1))
 have HB2 := Lib.hid (below_call' (HB1.out.drew) hb1)
 clear hb1
 go_wp2_with fail
 go_region_held3 (fun u => u.cell? ⟨rb, 2, none⟩ = some (.pointer (some ⟨bt, 0, none⟩)) ∧ u.cell? ⟨w1.heap.size, 3, none⟩ = some (.string ⟨st.toArray⟩))
     (first | (with_reducible exact HS2.out) | (with_reducible exact bg_drew HS2.out) | (with_reducible exact bg_later (bg_drew HS2.out) hb2) | (with_reducible exact bg_drew (bg_later (bg_drew HS2.out) hb2)))
     (first | (go_at_call 85; refine (postfix_any _ bt bm es (HO2.out.later (Below.refl _ _).drew).tab (HO2.out.later (Below.refl _ _).drew).kinds st HN.out).mono ?_; rintro e w3 ⟨rfl, hb2⟩))
 have HS3 := Lib.hid (bg_later (bg_drew HS2.out) hb2)
 have HO3 := Lib.hid (HO2.out.later (below_call' (Below.refl _ _).drew hb2))
 have HB3 := Lib.hid (below_call' (HB2.out.drew) hb2)
 clear hb2
 go_wp2_with fail
 go_region_held3 (fun u => u.cell? ⟨rb, 2, none⟩ = some (.pointer (some ⟨bt, 0, none⟩)) ∧ u.cell? ⟨w1.heap.size, 3, none⟩ = some (.string ⟨st.toArray⟩))
     (first | (with_reducible exact HS3.out) | (with_reducible exact bg_drew HS3.out) | (with_reducible exact bg_later (bg_drew HS3.out) hb3) | (with_reducible exact bg_drew (bg_later (bg_drew HS3.out) hb3)))
     (first | (go_at_call 59; refine (prefix_any _ bt bm es (HO3.out.later (Below.refl _ _).drew).tab (HO3.out.later (Below.refl _ _).drew).kinds st HN.out).mono ?_; rintro e w4 ⟨rfl, hb3⟩))
 have HS4 := Lib.hid (bg_later (bg_drew HS3.out) hb3)
 have HO4 := Lib.hid (HO3.out.later (below_call' (Below.refl _ _).drew hb3))
 have HB4 := Lib.hid (below_call' (HB3.out.drew) hb3)
 clear hb3
 go_wp2_with fail
 all_goals
  go_ret
  refine ⟨congrArg (fun b => Ending.returned (Value.bool b)) ?_, HB4.out⟩
  have hq := HQ.out
  clear HQ HS1 HS2 HS3 HS4 HO HO1 HO2 HO3 HO4 HB1 HB2 HB3 HB4 HA HN HPE
  subst hq
  rw [Bool.eq_iff_iff]
  simp_all
set_option maxHeartbeats 4000000 in
theorem begins_k3 (u : World) (rb : Nat) (v : RdV) (ts : List Tok) (s : RdS) (B : Nat) (h : RdAt u rb v ts s B) (hk : (peekF ts s.at').kind = 3) :
    Calls Tryz.prog 60 #[.pointer (some ⟨rb, 0, none⟩)] u fun e u' => e = .returned (.bool true) ∧ Below u.heap.size u u' := by
 have HA := Lib.hid h
 clear h
 obtain ⟨p1, hp1⟩ : ∃ p, p = peekF ts s.at' := ⟨_, rfl⟩
 have HPE := Lib.hid hp1
 rw [← hp1] at hk
 clear hp1
 obtain ⟨k, ln, n, st, op, ti⟩ := p1
 simp only at hk
 subst hk
 go_enter Tryz.func60, Tryz.ntmps60
 go_wp2_with fail
 refine (peek_any _ rb v ts s B HA.out 0 (by omega)).mono ?_
 rintro e w1 ⟨rfl, hb1⟩
 rw [show s.at' + 0 = s.at' from rfl, ← HPE.out]
 simp only [tokW]
 go_wp2_with fail
 all_goals
  go_ret
  exact ⟨rfl, hb1.alloc hb1.size _⟩
set_option maxHeartbeats 4000000 in
theorem begins_k4 (u : World) (rb : Nat) (v : RdV) (ts : List Tok) (s : RdS) (B : Nat) (h : RdAt u rb v ts s B) (hk : (peekF ts s.at').kind = 4) :
    Calls Tryz.prog 60 #[.pointer (some ⟨rb, 0, none⟩)] u fun e u' => e = .returned (.bool true) ∧ Below u.heap.size u u' := by
 have HA := Lib.hid h
 clear h
 obtain ⟨p1, hp1⟩ : ∃ p, p = peekF ts s.at' := ⟨_, rfl⟩
 have HPE := Lib.hid hp1
 rw [← hp1] at hk
 clear hp1
 obtain ⟨k, ln, n, st, op, ti⟩ := p1
 simp only at hk
 subst hk
 go_enter Tryz.func60, Tryz.ntmps60
 go_wp2_with fail
 refine (peek_any _ rb v ts s B HA.out 0 (by omega)).mono ?_
 rintro e w1 ⟨rfl, hb1⟩
 rw [show s.at' + 0 = s.at' from rfl, ← HPE.out]
 simp only [tokW]
 go_wp2_with fail
 all_goals
  go_ret
  exact ⟨rfl, hb1.alloc hb1.size _⟩
set_option maxHeartbeats 4000000 in
theorem begins_k5 (u : World) (rb : Nat) (v : RdV) (ts : List Tok) (s : RdS) (B : Nat) (h : RdAt u rb v ts s B) (hk : (peekF ts s.at').kind = 5) :
    Calls Tryz.prog 60 #[.pointer (some ⟨rb, 0, none⟩)] u fun e u' => e = .returned (.bool true) ∧ Below u.heap.size u u' := by
 have HA := Lib.hid h
 clear h
 obtain ⟨p1, hp1⟩ : ∃ p, p = peekF ts s.at' := ⟨_, rfl⟩
 have HPE := Lib.hid hp1
 rw [← hp1] at hk
 clear hp1
 obtain ⟨k, ln, n, st, op, ti⟩ := p1
 simp only at hk
 subst hk
 go_enter Tryz.func60, Tryz.ntmps60
 go_wp2_with fail
 refine (peek_any _ rb v ts s B HA.out 0 (by omega)).mono ?_
 rintro e w1 ⟨rfl, hb1⟩
 rw [show s.at' + 0 = s.at' from rfl, ← HPE.out]
 simp only [tokW]
 go_wp2_with fail
 all_goals
  go_ret
  exact ⟨rfl, hb1.alloc hb1.size _⟩
set_option maxHeartbeats 4000000 in
theorem begins_o1 (u : World) (rb : Nat) (v : RdV) (ts : List Tok) (s : RdS) (B : Nat) (h : RdAt u rb v ts s B) (hk : (peekF ts s.at').kind = 1) (hop : (peekF ts s.at').opn = true) :
    Calls Tryz.prog 60 #[.pointer (some ⟨rb, 0, none⟩)] u fun e u' => e = .returned (.bool true) ∧ Below u.heap.size u u' := by
 have HA := Lib.hid h
 clear h
 obtain ⟨p1, hp1⟩ : ∃ p, p = peekF ts s.at' := ⟨_, rfl⟩
 have HPE := Lib.hid hp1
 rw [← hp1] at hk hop
 clear hp1
 obtain ⟨k, ln, n, st, op, ti⟩ := p1
 simp only at hk hop
 subst hk hop
 go_enter Tryz.func60, Tryz.ntmps60
 go_wp2_with fail
 refine (peek_any _ rb v ts s B HA.out 0 (by omega)).mono ?_
 rintro e w1 ⟨rfl, hb1⟩
 rw [show s.at' + 0 = s.at' from rfl, ← HPE.out]
 simp only [tokW]
 go_wp2_with fail
 all_goals
  go_ret
  exact ⟨rfl, hb1.alloc hb1.size _⟩
set_option maxHeartbeats 4000000 in
theorem begins_o2 (u : World) (rb : Nat) (v : RdV) (ts : List Tok) (s : RdS) (B : Nat) (h : RdAt u rb v ts s B) (hk : (peekF ts s.at').kind = 2) (hop : (peekF ts s.at').opn = true) :
    Calls Tryz.prog 60 #[.pointer (some ⟨rb, 0, none⟩)] u fun e u' => e = .returned (.bool true) ∧ Below u.heap.size u u' := by
 have HA := Lib.hid h
 clear h
 obtain ⟨p1, hp1⟩ : ∃ p, p = peekF ts s.at' := ⟨_, rfl⟩
 have HPE := Lib.hid hp1
 rw [← hp1] at hk hop
 clear hp1
 obtain ⟨k, ln, n, st, op, ti⟩ := p1
 simp only at hk hop
 subst hk hop
 go_enter Tryz.func60, Tryz.ntmps60
 go_wp2_with fail
 refine (peek_any _ rb v ts s B HA.out 0 (by omega)).mono ?_
 rintro e w1 ⟨rfl, hb1⟩
 rw [show s.at' + 0 = s.at' from rfl, ← HPE.out]
 simp only [tokW]
 go_wp2_with fail
 all_goals
  go_ret
  exact ⟨rfl, hb1.alloc hb1.size _⟩
set_option maxHeartbeats 4000000 in
theorem begins_p40 (u : World) (rb : Nat) (v : RdV) (ts : List Tok) (s : RdS) (B : Nat) (h : RdAt u rb v ts s B) (hk : (peekF ts s.at').kind = 6) (hs : (peekF ts s.at').s = [40]) :
    Calls Tryz.prog 60 #[.pointer (some ⟨rb, 0, none⟩)] u fun e u' => e = .returned (.bool true) ∧ Below u.heap.size u u' := by
 have HA := Lib.hid h
 clear h
 obtain ⟨p1, hp1⟩ : ∃ p, p = peekF ts s.at' := ⟨_, rfl⟩
 have HPE := Lib.hid hp1
 rw [← hp1] at hk hs
 clear hp1
 obtain ⟨k, ln, n, st, op, ti⟩ := p1
 simp only at hk hs
 subst hk hs
 go_enter Tryz.func60, Tryz.ntmps60
 go_wp2_with fail
 refine (peek_any _ rb v ts s B HA.out 0 (by omega)).mono ?_
 rintro e w1 ⟨rfl, hb1⟩
 rw [show s.at' + 0 = s.at' from rfl, ← HPE.out]
 simp only [tokW]
 go_wp2_with fail
 all_goals
  go_ret
  exact ⟨rfl, hb1.alloc hb1.size _⟩
set_option maxHeartbeats 4000000 in
theorem begins_p91 (u : World) (rb : Nat) (v : RdV) (ts : List Tok) (s : RdS) (B : Nat) (h : RdAt u rb v ts s B) (hk : (peekF ts s.at').kind = 6) (hs : (peekF ts s.at').s = [91]) :
    Calls Tryz.prog 60 #[.pointer (some ⟨rb, 0, none⟩)] u fun e u' => e = .returned (.bool true) ∧ Below u.heap.size u u' := by
 have HA := Lib.hid h
 clear h
 obtain ⟨p1, hp1⟩ : ∃ p, p = peekF ts s.at' := ⟨_, rfl⟩
 have HPE := Lib.hid hp1
 rw [← hp1] at hk hs
 clear hp1
 obtain ⟨k, ln, n, st, op, ti⟩ := p1
 simp only at hk hs
 subst hk hs
 go_enter Tryz.func60, Tryz.ntmps60
 go_wp2_with fail
 refine (peek_any _ rb v ts s B HA.out 0 (by omega)).mono ?_
 rintro e w1 ⟨rfl, hb1⟩
 rw [show s.at' + 0 = s.at' from rfl, ← HPE.out]
 simp only [tokW]
 go_wp2_with fail
 all_goals
  go_ret
  exact ⟨rfl, hb1.alloc hb1.size _⟩
set_option maxHeartbeats 4000000 in
theorem begins_p123 (u : World) (rb : Nat) (v : RdV) (ts : List Tok) (s : RdS) (B : Nat) (h : RdAt u rb v ts s B) (hk : (peekF ts s.at').kind = 6) (hs : (peekF ts s.at').s = [123]) :
    Calls Tryz.prog 60 #[.pointer (some ⟨rb, 0, none⟩)] u fun e u' => e = .returned (.bool true) ∧ Below u.heap.size u u' := by
 have HA := Lib.hid h
 clear h
 obtain ⟨p1, hp1⟩ : ∃ p, p = peekF ts s.at' := ⟨_, rfl⟩
 have HPE := Lib.hid hp1
 rw [← hp1] at hk hs
 clear hp1
 obtain ⟨k, ln, n, st, op, ti⟩ := p1
 simp only at hk hs
 subst hk hs
 go_enter Tryz.func60, Tryz.ntmps60
 go_wp2_with fail
 refine (peek_any _ rb v ts s B HA.out 0 (by omega)).mono ?_
 rintro e w1 ⟨rfl, hb1⟩
 rw [show s.at' + 0 = s.at' from rfl, ← HPE.out]
 simp only [tokW]
 go_wp2_with fail
 all_goals
  go_ret
  exact ⟨rfl, hb1.alloc hb1.size _⟩
set_option maxHeartbeats 4000000 in
theorem begins_p (u : World) (rb : Nat) (v : RdV) (ts : List Tok) (s : RdS) (B : Nat) (h : RdAt u rb v ts s B) (hk : (peekF ts s.at').kind = 6) (h40 : (peekF ts s.at').s ≠ [40]) (h91 : (peekF ts s.at').s ≠ [91]) (h123 : (peekF ts s.at').s ≠ [123]) :
    Calls Tryz.prog 60 #[.pointer (some ⟨rb, 0, none⟩)] u fun e u' => e = .returned (.bool false) ∧ Below u.heap.size u u' := by
 have HA := Lib.hid h
 clear h
 obtain ⟨p1, hp1⟩ : ∃ p, p = peekF ts s.at' := ⟨_, rfl⟩
 have HPE := Lib.hid hp1
 rw [← hp1] at hk h40 h91 h123
 clear hp1
 obtain ⟨k, ln, n, st, op, ti⟩ := p1
 simp only at hk h40 h91 h123
 subst hk
 have b40 : (st == [40]) = false := beq_eq_false_iff_ne.2 h40
 have b91 : (st == [91]) = false := beq_eq_false_iff_ne.2 h91
 have b123 : (st == [123]) = false := beq_eq_false_iff_ne.2 h123
 go_enter Tryz.func60, Tryz.ntmps60
 go_wp2_with fail
 refine (peek_any _ rb v ts s B HA.out 0 (by omega)).mono ?_
 rintro e w1 ⟨rfl, hb1⟩
 rw [show s.at' + 0 = s.at' from rfl, ← HPE.out]
 simp only [tokW]
 go_wp2_with fail
 all_goals
  go_ret
  exact ⟨rfl, hb1.alloc hb1.size _⟩
set_option maxHeartbeats 4000000 in
theorem begins_n (u : World) (rb : Nat) (v : RdV) (ts : List Tok) (s : RdS) (B : Nat) (h : RdAt u rb v ts s B) (h1 : (peekF ts s.at').kind ≠ 1) (h2 : (peekF ts s.at').kind ≠ 2) (h3 : (peekF ts s.at').kind ≠ 3) (h4 : (peekF ts s.at').kind ≠ 4) (h5 : (peekF ts s.at').kind ≠ 5) (h6 : (peekF ts s.at').kind ≠ 6) :
    Calls Tryz.prog 60 #[.pointer (some ⟨rb, 0, none⟩)] u fun e u' => e = .returned (.bool false) ∧ Below u.heap.size u u' := by
 have HA := Lib.hid h
 clear h
 obtain ⟨p1, hp1⟩ : ∃ p, p = peekF ts s.at' := ⟨_, rfl⟩
 have HPE := Lib.hid hp1
 rw [← hp1] at h1 h2 h3 h4 h5 h6
 clear hp1
 obtain ⟨k, ln, n, st, op, ti⟩ := p1
 simp only at h1 h2 h3 h4 h5 h6
 go_enter Tryz.func60, Tryz.ntmps60
 go_wp2_with fail
 refine (peek_any _ rb v ts s B HA.out 0 (by omega)).mono ?_
 rintro e w1 ⟨rfl, hb1⟩
 rw [show s.at' + 0 = s.at' from rfl, ← HPE.out]
 simp only [tokW]
 go_wp2_with fail
 all_goals
  go_ret
  exact ⟨rfl, hb1.alloc hb1.size _⟩
theorem begins_any (u : World) (rb : Nat) (v : RdV) (ts : List Tok) (s : RdS) (B : Nat) (h : RdAt u rb v ts s B) (bt bm : Nat) (es : List (OpK × OpV)) (ho : OpsAt u rb v bt bm es) (hsh : (peekF ts s.at').s.length ≤ 1000000) :
    Calls Tryz.prog 60 #[.pointer (some ⟨rb, 0, none⟩)] u fun e u' => e = .returned (.bool (beginsF (opsOf es) (peekF ts s.at'))) ∧ Below u.heap.size u u' := by
 by_cases h1 : (peekF ts s.at').kind = 1
 ·cases hop : (peekF ts s.at').opn with
  | true =>
   rw [show beginsF (opsOf es) (peekF ts s.at') = true by unfold beginsF; rw [if_neg (by omega), if_neg (by omega), if_pos (by omega), hop]; rfl]
   exact begins_o1 u rb v ts s B h h1 hop
  | false => exact begins_op1 u rb v ts s B h bt bm es ho hsh h1 hop
 by_cases h2 : (peekF ts s.at').kind = 2
 ·cases hop : (peekF ts s.at').opn with
  | true =>
   rw [show beginsF (opsOf es) (peekF ts s.at') = true by unfold beginsF; rw [if_neg (by omega), if_neg (by omega), if_pos (by omega), hop]; rfl]
   exact begins_o2 u rb v ts s B h h2 hop
  | false => exact begins_op2 u rb v ts s B h bt bm es ho hsh h2 hop
 by_cases h3 : (peekF ts s.at').kind = 3
 ·rw [show beginsF (opsOf es) (peekF ts s.at') = true by unfold beginsF; rw [if_pos (by omega)]]
  exact begins_k3 u rb v ts s B h h3
 by_cases h4 : (peekF ts s.at').kind = 4
 ·rw [show beginsF (opsOf es) (peekF ts s.at') = true by unfold beginsF; rw [if_pos (by omega)]]
  exact begins_k4 u rb v ts s B h h4
 by_cases h5 : (peekF ts s.at').kind = 5
 ·rw [show beginsF (opsOf es) (peekF ts s.at') = true by unfold beginsF; rw [if_pos (by omega)]]
  exact begins_k5 u rb v ts s B h h5
 by_cases h6 : (peekF ts s.at').kind = 6
 ·have hb : beginsF (opsOf es) (peekF ts s.at') = decide ((peekF ts s.at').s = [40] ∨ (peekF ts s.at').s = [91] ∨ (peekF ts s.at').s = [123]) := by unfold beginsF; rw [if_neg (by omega), if_pos h6]
  by_cases c1 : (peekF ts s.at').s = [40]
  ·rw [hb, decide_eq_true (.inl c1)]
   exact begins_p40 u rb v ts s B h h6 c1
  by_cases c2 : (peekF ts s.at').s = [91]
  ·rw [hb, decide_eq_true (.inr (.inl c2))]
   exact begins_p91 u rb v ts s B h h6 c2
  by_cases c3 : (peekF ts s.at').s = [123]
  ·rw [hb, decide_eq_true (.inr (.inr c3))]
   exact begins_p123 u rb v ts s B h h6 c3
  rw [hb, decide_eq_false (fun e => e.elim c1 fun e => e.elim c2 c3)]
  exact begins_p u rb v ts s B h h6 c1 c2 c3
 ·rw [show beginsF (opsOf es) (peekF ts s.at') = false by unfold beginsF; rw [if_neg (by omega), if_neg h6, if_neg (by omega)]]
  exact begins_n u rb v ts s B h h1 h2 h3 h4 h5 h6
def RW (rb : Nat) (v : RdV) (k : Nat) : Prop := k = rb ∨ v.wv.ownBlock = some k
theorem neg_wrap (n : Int) (h0 : -9223372036854775808 ≤ n) (h1 : n ≤ 9223372036854775807) : IntKind.i64.wrap (-n) = negI n := by
 unfold negI
 split
 ·rename_i h
  rw [h]
  rfl
 ·exact IntWalk.i64_in _ (by omega)
theorem WRow.later' {u u' : World} {rb : Nat} {wv : Value} {l : List FrV} (h : WRow u rb wv l) (hb : Below u.heap.size u u') : WRow u' rb wv l := WRow.fr h (.of_below _ hb)
set_option maxHeartbeats 8000000 in
theorem atom_neg (u : World) (rb : Nat) (v : RdV) (ts : List Tok) (s : RdS) (B : Nat) (h : RdAt u rb v ts s B) (l : List FrV) (hrow : WRow u rb v.wv l) (t : Tok) (es : List (OpK × OpV)) (hk : t.kind = 1) (hst : t.s = [45])
    (hk2 : (peekF ts (s.at' + 1)).kind = 3) (hti : (peekF ts (s.at' + 1)).tight = true) (hn0 : -9223372036854775808 ≤ (peekF ts (s.at' + 1)).n) (hn1 : (peekF ts (s.at' + 1)).n ≤ 9223372036854775807) :
    Calls Tryz.prog 31 #[.pointer (some ⟨rb, 0, none⟩), tokW t] u fun e u' => Fr (RW rb v) u u' ∧ PrimOut u' rb v ts s B l (atomF (opsOf es) ts s t) e := by
 have hl2 : s.at' + 1 < ts.length := peek_lt (by rw [hk2]; decide)
 have hr : atomF (opsOf es) ts s t = .ok ((s.go 2).done (intT (negI (peekF ts (s.at' + 1)).n)) 0) := by unfold atomF; dsimp only; rw [if_pos ⟨hk, hst, hk2, hti⟩]
 rw [hr]
 clear hr
 have hf := h.few
 have hwr : IntKind.i64.wrap ((s.at' : Int) + 2) = (s.at' : Int) + 2 := IntWalk.i64_in _ (by omega)
 have hwn : IntKind.i64.wrap (-(peekF ts (s.at' + 1)).n) = negI (peekF ts (s.at' + 1)).n := neg_wrap _ hn0 hn1
 have HA := Lib.hid h
 have HR := Lib.hid hrow
 clear h hrow
 obtain ⟨R, hR⟩ : ∃ R : Ending → World → Prop, R = fun e u' => Fr (RW rb v) u u' ∧ PrimOut u' rb v ts s B l (.ok ((s.go 2).done (intT (negI (peekF ts (s.at' + 1)).n)) 0)) e := ⟨_, rfl⟩
 rw [← hR]
 have HRR := Lib.hid hR
 clear hR
 obtain ⟨p1, hp1⟩ : ∃ p, p = peekF ts (s.at' + 1) := ⟨_, rfl⟩
 have HPE := Lib.hid hp1
 rw [← hp1] at hk2 hti hn0 hn1 hwn HRR
 clear hp1
 obtain ⟨k, ln, n, st, op, ti⟩ := t
 obtain ⟨k2, ln2, n2, st2, op2, ti2⟩ := p1
 simp only at hk hst hk2 hti hn0 hn1 hwn HRR
 subst hk hst hk2 hti
 have ha : Below u.heap.size u (u.alloc (.cells #[.int .i64 1, .int .i64 ln, .int .i64 n, .string ⟨#[45]⟩, .bool op, .bool ti] 48)) := (Below.refl _ _).alloc (Nat.le_refl _) _
 have HW := Lib.hid ha
 have HA0 := Lib.hid (HA.out.later ha)
 clear ha
 simp only [tokW]
 go_enter Tryz.func31, Tryz.ntmps31
 go_wp2_with fail
 refine (peek_any _ rb v ts s B HA0.out 1 (by omega)).mono ?_
 rintro e w1 ⟨rfl, hb1⟩
 rw [← HPE.out]
 simp only [tokW]
 have HB1 := Lib.hid (below_call' HW.out hb1)
 obtain ⟨n0, n1, n2', n3, n4, n5, nf⟩ := six_at (w1 := w1) (b := u.heap.size) ((hb1.block u.heap.size (by simp)).trans (heap_alloc_new u _))
 have HA1 := HA.out.later HB1.out
 have c1 : w1.cell? ⟨rb, 1, none⟩ = some (.int .i64 (s.at' : Int)) := HA1.blk.cell (i := 1) rfl
 have cf := HA1.blk.free
 have hrl := HA1.blk.lt
 have hul : u.heap.size < w1.heap.size := World.block_lt_of_cell? w1 _ n0
 have hgo : RdAt (w1.setCell ⟨rb, 1, none⟩ (.int .i64 ((s.at' : Int) + 2))) rb v ts (s.go 2) B := HA1.put (v' := v) (s' := s.go 2) 1 _ (by simp [rdCells, RdS.go]) rfl rfl (by show s.at' + 2 ≤ _; omega)
 have hF : Fr (· = rb) u (w1.setCell ⟨rb, 1, none⟩ (.int .i64 ((s.at' : Int) + 2))) := (Fr.of_below (· = rb) HB1.out).setCell (p := ⟨rb, 1, none⟩) (.inl rfl) _
 have HG := Lib.hid hgo
 have HF := Lib.hid hF
 clear hb1 hgo hF HA1
 go_wp2_with fail
 refine (done_any _ rb v ts _ B (HG.out.later ((Below.refl _ _).alloc (Nat.le_refl _) _)) ⟨2, negI n2, [], none, 0, 0⟩ (intT (negI n2)) 0).mono ?_
 rintro e w2 ⟨rfl, r1, r2⟩
 have R1 := Lib.hid r1
 have R2 := Lib.hid ((HF.out.alloc _).trans r2)
 clear r1 r2
 go_wp2_with fail
 refine bodyPost_end (v := .tuple #[]) (by simp [results, Tryz.results31, go_sem]) rfl ?_
 rw [HRR.out]
 exact ⟨R2.out.weak fun _ hk => .inl hk, rfl, _, R1.out, rfl, rfl, rfl, rfl, rfl, rfl, rfl, .inr ⟨rfl, rfl, WRow.fr HR.out R2.out, 2, negI n2, [], rfl, rfl⟩⟩
set_option maxHeartbeats 8000000 in
theorem atom_pos (u : World) (rb : Nat) (v : RdV) (ts : List Tok) (s : RdS) (B : Nat) (h : RdAt u rb v ts s B) (l : List FrV) (hrow : WRow u rb v.wv l) (hl : l.length ≤ 100000) (t : Tok) (bt bm : Nat) (es : List (OpK × OpV)) (ho : OpsAt u rb v bt bm es)
    (hat : s.at' < ts.length) (hsh : t.s.length ≤ 1000000) (hsh2 : (peekF ts (s.at' + 1)).s.length ≤ 1000000)
    (hno : ¬ (t.kind = 1 ∧ t.s = [45] ∧ (peekF ts (s.at' + 1)).kind = 3 ∧ (peekF ts (s.at' + 1)).tight = true)) :
    Calls Tryz.prog 31 #[.pointer (some ⟨rb, 0, none⟩), tokW t] u fun e u' => Fr (RW rb v) u u' ∧ PrimOut u' rb v ts s B l (atomF (opsOf es) ts s t) e := by
 have hr : atomF (opsOf es) ts s t = (if t.opn then argsF ts (s.go 1) t.s
     else if 0 < ((opsOf es).pre t.s).1 ∧ ((opsOf es).pre t.s).1 ≤ s.most ∧ beginsF (opsOf es) (peekF ts (s.at' + 1)) = true then .ok ((s.go 1).await ⟨5, 0, t.s, ((opsOf es).pre t.s).1, []⟩ ((opsOf es).pre t.s).2)
     else .ok ((s.go 1).done (atomT t.s) 0)) := by unfold atomF; dsimp only; rw [if_neg hno]
 obtain ⟨r, hrr⟩ : ∃ r, r = atomF (opsOf es) ts s t := ⟨_, rfl⟩
 rw [← hrr] at hr ⊢
 clear hrr
 have hf := h.few
 have hwr : IntKind.i64.wrap ((s.at' : Int) + 1) = (s.at' : Int) + 1 := IntWalk.i64_in _ (by omega)
 have HA := Lib.hid h
 have HR := Lib.hid hrow
 have HO := Lib.hid ho
 have HX := Lib.hid hr
 have hob := ho.ob
 clear h hrow ho hr
 obtain ⟨R, hR⟩ : ∃ R : Ending → World → Prop, R = fun e u' => Fr (RW rb v) u u' ∧ PrimOut u' rb v ts s B l r e := ⟨_, rfl⟩
 rw [← hR]
 have HRR := Lib.hid hR
 clear hR
 obtain ⟨p1, hp1⟩ : ∃ p, p = peekF ts (s.at' + 1) := ⟨_, rfl⟩
 have HPE := Lib.hid hp1
 rw [← hp1] at hno HX hsh2
 clear hp1
 obtain ⟨k, ln, n, st, op, ti⟩ := t
 obtain ⟨k2, ln2, n2, st2, op2, ti2⟩ := p1
 simp only at hno HX hsh hsh2
 have ha : Below u.heap.size u (u.alloc (.cells #[.int .i64 k, .int .i64 ln, .int .i64 n, .string ⟨st.toArray⟩, .bool op, .bool ti] 48)) := (Below.refl _ _).alloc (Nat.le_refl _) _
 have HW := Lib.hid ha
 have HA0 := Lib.hid (HA.out.later ha)
 clear ha
 simp only [tokW]
 go_enter Tryz.func31, Tryz.ntmps31
 go_wp2_with fail
 refine (peek_any _ rb v ts s B HA0.out 1 (by omega)).mono ?_
 rintro e w1 ⟨rfl, hb1⟩
 rw [← HPE.out]
 simp only [tokW]
 have HB1 := Lib.hid (below_call' HW.out hb1)
 have hnew := (hb1.block u.heap.size (by simp)).trans (heap_alloc_new u _)
 obtain ⟨W, hW⟩ : ∃ W, W = w1.alloc (.cells #[.int .i64 k2, .int .i64 ln2, .int .i64 n2, .string ⟨st2.toArray⟩, .bool op2, .bool ti2] 48) := ⟨_, rfl⟩
 have hbW : Below u.heap.size u W := by rw [hW]; exact HB1.out.alloc HB1.out.size _
 have hul : u.heap.size < w1.heap.size := (Array.getElem?_eq_some_iff.1 hnew).1
 have hnW : W.heap[u.heap.size]? = some (.cells #[.int .i64 k, .int .i64 ln, .int .i64 n, .string ⟨st.toArray⟩, .bool op, .bool ti] 48 (0, 0)) := by rw [hW]; exact (Below.heap_alloc _ _ _ hul).trans hnew
 have hmW : W.heap[w1.heap.size]? = some (.cells #[.int .i64 k2, .int .i64 ln2, .int .i64 n2, .string ⟨st2.toArray⟩, .bool op2, .bool ti2] 48 (0, 0)) := by rw [hW]; exact heap_alloc_new w1 _
 have HNW := Lib.hid hnW
 have HMW := Lib.hid hmW
 have HBW := Lib.hid hbW
 clear hbW hb1 hnew hnW hmW
 go_upto_region 2 with fail
 rw [← hW]
 clear hW
 go_cut [1, 25] (fun _ c wx => c = .bool false ∧ W = wx)
 case first =>
  obtain ⟨n0, n1, n2', n3, n4, n5, nf⟩ := six_at HNW.out
  obtain ⟨m0, m1, m2', m3, m4, m5, mf⟩ := six_at HMW.out
  clear HX
  go_wp2_with fail
  all_goals
   go_meet
   first
    | exact ⟨rfl, rfl⟩
    | exact ⟨congrArg Value.bool (by cases ti2 <;> simp_all), rfl⟩
 case rest =>
  obtain ⟨rfl, rfl⟩ := hcut
  obtain ⟨n0, n1, n2', n3, n4, n5, nf⟩ := six_at HNW.out
  have HAW := HA.out.later HBW.out
  have c1 : W.cell? ⟨rb, 1, none⟩ = some (.int .i64 (s.at' : Int)) := HAW.blk.cell (i := 1) rfl
  have cf := HAW.blk.free
  have hrl := HAW.blk.lt
  have hur : u.heap.size ≠ rb := by have := HA.out.blk.lt; omega
  obtain ⟨W5, hW5⟩ : ∃ W5, W5 = W.setCell ⟨rb, 1, none⟩ (.int .i64 ((s.at' : Int) + 1)) := ⟨_, rfl⟩
  have hgo : RdAt W5 rb v ts (s.go 1) B := by rw [hW5]; exact HAW.put (v' := v) (s' := s.go 1) 1 _ (by simp [rdCells, RdS.go]) rfl rfl (by show s.at' + 1 ≤ _; omega)
  have hF : Fr (· = rb) u W5 := by rw [hW5]; exact (Fr.of_below (· = rb) HBW.out).setCell (p := ⟨rb, 1, none⟩) (.inl rfl) _
  have hN5 : W5.heap[u.heap.size]? = some (.cells #[.int .i64 k, .int .i64 ln, .int .i64 n, .string ⟨st.toArray⟩, .bool op, .bool ti] 48 (0, 0)) := by rw [hW5]; exact (Below.heap_setCell _ _ _ _ (by simp only; omega)).trans HNW.out
  have HO5 : Hid (OpsAt W5 rb v bt bm es) := Lib.hid (HO.out.fr hF fun k hk => by omega)
  have HG := Lib.hid hgo
  have HF := Lib.hid hF
  have HRW := Lib.hid (WRow.fr HR.out hF)
  have HN5 := Lib.hid hN5
  clear hgo hF hN5 HAW
  cases op with
  | true =>
   simp only [if_true] at HX
   go_wp2_with fail
   rw [← hW5]
   refine (arguments_any _ rb v ts _ B HG.out l HRW.out hl st).mono ?_
   rintro e w2 ⟨hF2, h2⟩
   have HF2 := Lib.hid ((HF.out.weak fun _ hk => .inl hk : Fr (RW rb v) u W5).trans hF2)
   rw [show (s.go 1).at' = s.at' + 1 from rfl] at h2
   clear hF2
   cases hp : isP ts (s.at' + 1) 40 with
   | true =>
    rw [hp, if_pos rfl] at h2
    have hr2 : argsF ts (s.go 1) st = .ok (((s.go 1).go 1).await ⟨2, 0, st, 0, []⟩ 999) := by unfold argsF RdS.expect; rw [show (s.go 1).at' = s.at' + 1 from rfl, hp]; rfl
    have HX2 := Lib.hid (HX.out.trans hr2)
    obtain ⟨rfl, wv', h3, h4⟩ := h2
    have H3 := Lib.hid h3
    have H4 := Lib.hid h4
    clear h3 h4 hr2
    go_wp2_with fail
    refine bodyPost_end (v := .tuple #[]) (by simp [results, Tryz.results31, go_sem]) rfl ?_
    rw [HRR.out, HX2.out]
    exact ⟨HF2.out, rfl, { v with wv := wv' }, H3.out, rfl, rfl, rfl, rfl, rfl, rfl, rfl, .inl ⟨rfl, rfl, _, rfl, rfl, H4.out⟩⟩
   | false =>
    rw [hp, if_neg (by simp)] at h2
    have hr2 : argsF ts (s.go 1) st = .error (s.at' + 1) := by unfold argsF RdS.expect; rw [show (s.go 1).at' = s.at' + 1 from rfl, hp]; rfl
    have HX2 := Lib.hid (HX.out.trans hr2)
    obtain ⟨rfl, h3⟩ := h2
    refine ⟨rfl, ?_⟩
    rw [HRR.out, HX2.out]
    exact ⟨HF2.out, rfl, s.go 1, rfl, h3⟩
  | false =>
   simp only [Bool.false_eq_true, if_false] at HX
   have hs5 : W5.cell? ⟨rb, 2, none⟩ = some (.pointer (some ⟨bt, 0, none⟩)) ∧ W5.cell? ⟨u.heap.size, 3, none⟩ = some (.string ⟨st.toArray⟩) :=
    ⟨(HG.out.blk.cell (i := 2) rfl).trans (congrArg some hob), (six_at HN5.out).2.2.2.1⟩
   have HS5 := Lib.hid hs5
   have HST : Hid (OkName st) := Lib.hid (by unfold OkName; exact Nat.le_of_succ_le (short_max hsh))
   clear hs5
   obtain ⟨P1, hP1⟩ : ∃ P, P = (tsides es 1 st).1 := ⟨_, rfl⟩
   obtain ⟨P2, hP2⟩ : ∃ P, P = (tsides es 1 st).2.2 := ⟨_, rfl⟩
   rw [show (opsOf es).pre st = (P1, P2) by rw [hP1, hP2]; rfl] at HX
   simp only at HX
   have HP := Lib.hid (And.intro hP1 hP2)
   clear hP1 hP2
   go_upto_region 8 with fail
   rw [← hW5]
   clear hW5 c1 cf n0 n1 n2' n3 n4 n5 nf
   go_region_held3 (fun u' => u'.cell? ⟨rb, 2, none⟩ = some (.pointer (some ⟨bt, 0, none⟩)) ∧ u'.cell? ⟨u.heap.size, 3, none⟩ = some (.string ⟨st.toArray⟩))
    (first | (with_reducible exact HS5.out) | (with_reducible exact bg_drew HS5.out) | (with_reducible exact bg_later (bg_drew HS5.out) hb2) | (with_reducible exact bg_drew (bg_later (bg_drew HS5.out) hb2)))
    (first | (go_at_call 59; refine (prefix_any _ bt bm es (HO5.out.later (Below.refl _ _).drew).tab (HO5.out.later (Below.refl _ _).drew).kinds st HST.out).mono ?_; rintro e w2 ⟨rfl, hb2⟩; rw [← HP.out.1, ← HP.out.2]))
   have hb5 := below_call' (Below.refl _ _).drew hb2
   have HA2 := Lib.hid (HG.out.later hb5)
   have HO2 := Lib.hid (HO5.out.later hb5)
   have HF2 := Lib.hid (HF.out.step hb5)
   have hN2 : w2.heap[u.heap.size]? = some (.cells #[.int .i64 k, .int .i64 ln, .int .i64 n, .string ⟨st.toArray⟩, .bool false, .bool ti] 48 (0, 0)) := (hb5.block u.heap.size (Array.getElem?_eq_some_iff.1 HN5.out).1).trans HN5.out
   have HN2 := Lib.hid hN2
   clear hb2 hb5 hN2
   have HPX := Lib.hid HPE.out
   by_cases hC : 0 < P1 ∧ P1 ≤ s.most ∧ beginsF (opsOf es) ⟨k2, ln2, n2, st2, op2, ti2⟩ = true
   ·rw [if_pos hC] at HX
    obtain ⟨hC1, hC2, hC3⟩ := hC
    have HC3 := Lib.hid hC3
    have c5 : w2.cell? ⟨rb, 5, none⟩ = some (.int .i64 s.most) := HA2.out.blk.cell (i := 5) rfl
    clear hC3
    go_wp2_with fail
    refine (begins_any _ rb v ts (s.go 1) B HA2.out bt bm es HO2.out (by rw [show (s.go 1).at' = s.at' + 1 from rfl, ← HPX.out]; exact hsh2)).mono ?_
    rintro e w3 ⟨rfl, hb3⟩
    rw [show (s.go 1).at' = s.at' + 1 from rfl, ← HPX.out, HC3.out]
    have HA3 := Lib.hid (HA2.out.later hb3)
    have HF3 := Lib.hid (HF2.out.step hb3)
    obtain ⟨n0, n1, n2', n3, n4, n5, nf⟩ := six_at ((hb3.block u.heap.size (Array.getElem?_eq_some_iff.1 HN2.out).1).trans HN2.out)
    have HRW3 := Lib.hid (WRow.fr HR.out HF3.out)
    clear hb3 c5
    go_wp2_with fail
    refine (await_any _ rb v ts (s.go 1) B HA3.out l HRW3.out hl ⟨5, 0, st, P1, none, 0, 0⟩ P2 ⟨5, 0, st, P1, []⟩).mono ?_
    rintro e w4 ⟨rfl, wv', r1, r2, r3⟩
    have R1 := Lib.hid r1
    have R2 := Lib.hid r2
    have R3 := Lib.hid r3
    clear r1 r2 r3
    go_wp2_with fail
    refine bodyPost_end (v := .tuple #[]) (by simp [results, Tryz.results31, go_sem]) rfl ?_
    rw [HRR.out, HX.out]
    exact ⟨(HF3.out.weak fun _ hk => .inl hk : Fr (RW rb v) u w3).trans R3.out, rfl, { v with wv := wv' }, R1.out, rfl, rfl, rfl, rfl, rfl, rfl, rfl, .inl ⟨rfl, rfl, _, rfl, rfl, R2.out⟩⟩
   ·rw [if_neg hC] at HX
    go_upto_region 9 with fail
    go_cut [75] (fun c wx => c = .bool false ∧ Hid (Below w2.heap.size w2 wx))
    case first =>
     by_cases c1 : 0 < P1
     ·by_cases c2 : P1 ≤ s.most
      ·have hC3 : beginsF (opsOf es) ⟨k2, ln2, n2, st2, op2, ti2⟩ = false := by
        cases hb : beginsF (opsOf es) ⟨k2, ln2, n2, st2, op2, ti2⟩ with
        | true => exact absurd ⟨c1, c2, hb⟩ hC
        | false => rfl
       have HC3 := Lib.hid hC3
       have c5 : w2.cell? ⟨rb, 5, none⟩ = some (.int .i64 s.most) := HA2.out.blk.cell (i := 5) rfl
       clear hC3 hC
       go_wp2_with fail
       refine (begins_any _ rb v ts (s.go 1) B HA2.out bt bm es HO2.out (by rw [show (s.go 1).at' = s.at' + 1 from rfl, ← HPX.out]; exact hsh2)).mono ?_
       rintro e w3 ⟨rfl, hb3⟩
       rw [show (s.go 1).at' = s.at' + 1 from rfl, ← HPX.out, HC3.out]
       have HB3 := Lib.hid hb3
       clear hb3
       go_wp2_with fail
       go_meet
       exact ⟨rfl, HB3⟩
      ·have c5 : w2.cell? ⟨rb, 5, none⟩ = some (.int .i64 s.most) := HA2.out.blk.cell (i := 5) rfl
       clear hC
       go_wp2_with fail
       go_meet
       exact ⟨rfl, Lib.hid (Below.refl _ _)⟩
     ·clear hC
      go_wp2_with fail
      go_meet
      exact ⟨rfl, Lib.hid (Below.refl _ _)⟩
    case rest =>
     obtain ⟨rfl, hb3⟩ := hcut
     have HA3 := Lib.hid (HA2.out.later hb3.out)
     have HF3 := Lib.hid (HF2.out.step hb3.out)
     obtain ⟨n0, n1, n2', n3, n4, n5, nf⟩ := six_at ((hb3.out.block u.heap.size (Array.getElem?_eq_some_iff.1 HN2.out).1).trans HN2.out)
     clear hC
     go_wp2_with fail
     refine (done_any _ rb v ts (s.go 1) B HA3.out ⟨3, 0, st, none, 0, 0⟩ (atomT st) 0).mono ?_
     rintro e w4 ⟨rfl, r1, r2⟩
     have R1 := Lib.hid r1
     have R2 := Lib.hid (HF3.out.trans r2)
     clear r1 r2
     go_wp2_with fail
     refine bodyPost_end (v := .tuple #[]) (by simp [results, Tryz.results31, go_sem]) rfl ?_
     rw [HRR.out, HX.out]
     exact ⟨R2.out.weak fun _ hk => .inl hk, rfl, _, R1.out, rfl, rfl, rfl, rfl, rfl, rfl, rfl, .inr ⟨rfl, rfl, WRow.fr HR.out R2.out, 3, 0, st, rfl, rfl⟩⟩
structure SlTerms (u : World) (A : Option Addr) (n : Nat) (xs : List TV) : Prop where
 len : xs.length = n
 at' : ∀ (i : Nat) (y : TV), xs[i]? = some y → ∃ b off, A = some ⟨b, off, none⟩ ∧ b < u.heap.size ∧ ∀ (j : Nat) x, (encTV y)[j]? = some x → u.cell? ⟨b, off + i * 4 + j, none⟩ = some x
theorem SlTerms.later {u u' : World} {A : Option Addr} {n : Nat} {xs : List TV} (h : SlTerms u A n xs) (hb : Below u.heap.size u u') : SlTerms u' A n xs :=
 ⟨h.len, fun i y hy => by
  obtain ⟨b, off, e1, e2, e3⟩ := h.at' i y hy
  exact ⟨b, off, e1, Nat.lt_of_lt_of_le e2 hb.size, fun j x hx => (hb.cell (p := ⟨b, off + i * 4 + j, none⟩) e2).trans (e3 j x hx)⟩⟩
theorem SlTerms.row {u : World} {B n c : Nat} {A : Option Addr} {xs : List TV} (h : Row u B 34 4 encTV (.slice A n c) xs) : SlTerms u A n xs := by
 refine ⟨h.len.symm, fun i y hy => ?_⟩
 obtain ⟨g, cap, e1, _, hg, _, hc⟩ := h.cells encTV_len (by rintro rfl; cases hy)
 injection e1 with e1 e2 e3
 exact ⟨g, 0, e1, hg, fun j x hx => by rw [Nat.zero_add]; exact (hc i y hy j x hx).1⟩
theorem SOf.later {u u' : World} {L : List Nat} (hb : Below u.heap.size u u') (b : Nat) (h : SOf u L b) : SOf u' L b ∧ u'.heap[b]? = u.heap[b]? :=
 ⟨⟨h.1.keep (hb.block b h.1.lt), h.2⟩, hb.block b h.1.lt⟩
theorem four_at {w1 : World} {b : Nat} {a0 a1 a2 a3 : Value} {t : TypeId} (h : w1.heap[b]? = some (.cells #[a0, a1, a2, a3] t (0, 0))) :
    w1.cell? ⟨b, 0, none⟩ = some a0 ∧ w1.cell? ⟨b, 1, none⟩ = some a1 ∧ w1.cell? ⟨b, 2, none⟩ = some a2 ∧ w1.cell? ⟨b, 3, none⟩ = some a3 ∧ (∀ o, w1.frozen? ⟨b, o, none⟩ = false) :=
 ⟨by rw [cell_of_row w1 b 0 _ t (0, 0) h]; rfl, by rw [cell_of_row w1 b 1 _ t (0, 0) h]; rfl, by rw [cell_of_row w1 b 2 _ t (0, 0) h]; rfl, by rw [cell_of_row w1 b 3 _ t (0, 0) h]; rfl, fun o => by simp [World.frozen?, h]⟩
theorem listT_cons (t : Tm) (l : List Tm) (tl : Tm) : listT (t :: l) tl = compT [46] [t, listT l tl] := rfl
theorem blk_set4 {w : World} {b : Nat} {cs : Array Value} {t : TypeId} (h : w.heap[b]? = some (.cells cs t (0, 0))) (hs : cs.size = 4) (a0 a1 a2 a3 : Value) :
    ((((w.setCell ⟨b, 0, none⟩ a0).setCell ⟨b, 1, none⟩ a1).setCell ⟨b, 2, none⟩ a2).setCell ⟨b, 3, none⟩ a3).heap[b]? = some (.cells #[a0, a1, a2, a3] t (0, 0)) := by
 rw [blk_put (blk_put (blk_put (blk_put h a0) a1) a2) a3]
 obtain ⟨l⟩ := cs
 obtain _ | ⟨x0, _ | ⟨x1, _ | ⟨x2, _ | ⟨x3, _ | ⟨x4, r⟩⟩⟩⟩⟩ := l <;> simp at hs ⊢
theorem blk_set4_ne {w : World} {b k : Nat} (a0 a1 a2 a3 : Value) (h : k ≠ b) :
    ((((w.setCell ⟨b, 0, none⟩ a0).setCell ⟨b, 1, none⟩ a1).setCell ⟨b, 2, none⟩ a2).setCell ⟨b, 3, none⟩ a3).heap[k]? = w.heap[k]? := by
 rw [Below.heap_setCell _ _ _ _ h, Below.heap_setCell _ _ _ _ h, Below.heap_setCell _ _ _ _ h, Below.heap_setCell _ _ _ _ h]
structure LInv (u : World) (L : List Nat) (l : List Tm) (tl : Tm) (a : Nat) (wr : World) (y' : TV) : Prop where
 t : TermS wr (SOf wr ((u.heap.size + 1) :: (u.heap.size + 2) :: L)) y' (listT (l.drop a) tl)
 below : Below u.heap.size u wr
 here : wr.heap[u.heap.size + 2]? = some (.cells #[.int .i64 y'.k, .int .i64 y'.n, .string ⟨y'.s.toArray⟩, .slice y'.A y'.len y'.cap] 34 (0, 0))
 res : wr.heap[u.heap.size + 1]? = some (.cells #[.int .i64 0, .int .i64 0, .string ⟨#[]⟩, .slice none 0 0] 34 (0, 0))
theorem LInv.lt {u : World} {L : List Nat} {l : List Tm} {tl : Tm} {a : Nat} {wr : World} {y' : TV} (h : LInv u L l tl a wr y') : u.heap.size + 2 < wr.heap.size := (Array.getElem?_eq_some_iff.1 h.here).1
theorem LInv.drew {u : World} {L : List Nat} {l : List Tm} {tl : Tm} {a : Nat} {wr : World} {y' : TV} (h : LInv u L l tl a wr y') : LInv u L l tl a wr.drew y' :=
 ⟨h.t.keep (fun _ hb => hb) fun _ _ => rfl, h.below.drew, h.here, h.res⟩
theorem LInv.round {u wr : World} {L : List Nat} {l : List Tm} {tl : Tm} {a : Nat} {y' ya : TV} {ta : Tm} (h : LInv u L l tl (a + 1) wr y') (hL : ∀ k ∈ L, k < u.heap.size) (hl : l[a]? = some ta) (hya : TermS u (SOf u L) ya ta) :
    LInv u L l tl a (((((wr.alloc (.cells #[.int .i64 ya.k, .int .i64 ya.n, .string ⟨ya.s.toArray⟩, .slice ya.A ya.len ya.cap, .int .i64 y'.k, .int .i64 y'.n, .string ⟨y'.s.toArray⟩, .slice y'.A y'.len y'.cap] 34)).setCell ⟨u.heap.size + 2, 0, none⟩ (.int .i64 4)).setCell ⟨u.heap.size + 2, 1, none⟩ (.int .i64 0)).setCell
     ⟨u.heap.size + 2, 2, none⟩ (.string ⟨#[46]⟩)).setCell ⟨u.heap.size + 2, 3, none⟩ (.slice (some ⟨wr.heap.size, 0, none⟩) 2 2)) ⟨4, 0, [46], some ⟨wr.heap.size, 0, none⟩, 2, 2⟩ := by
 have hlt := h.lt
 have hal : a < l.length := (List.getElem?_eq_some_iff.1 hl).1
 have e1 : l.drop a = ta :: l.drop (a + 1) := by
  rw [List.drop_eq_getElem_cons hal]
  have := (List.getElem?_eq_some_iff.1 hl).2
  rw [this]
 obtain ⟨w2, hw2⟩ : ∃ w2, w2 = wr.alloc (.cells #[.int .i64 ya.k, .int .i64 ya.n, .string ⟨ya.s.toArray⟩, .slice ya.A ya.len ya.cap, .int .i64 y'.k, .int .i64 y'.n, .string ⟨y'.s.toArray⟩, .slice y'.A y'.len y'.cap] 34) := ⟨_, rfl⟩
 have hsz : w2.heap.size = wr.heap.size + 1 := by rw [hw2]; simp
 have hold : ∀ k, k < wr.heap.size → w2.heap[k]? = wr.heap[k]? := fun k hk => by rw [hw2]; exact Below.heap_alloc _ _ _ hk
 have hnew : w2.heap[wr.heap.size]? = some (.cells #[.int .i64 ya.k, .int .i64 ya.n, .string ⟨ya.s.toArray⟩, .slice ya.A ya.len ya.cap, .int .i64 y'.k, .int .i64 y'.n, .string ⟨y'.s.toArray⟩, .slice y'.A y'.len y'.cap] 34 (0, 0)) := by rw [hw2]; exact heap_alloc_new wr _
 have hb2 : Below u.heap.size u w2 := by rw [hw2]; exact h.below.alloc h.below.size _
 rw [← hw2]
 clear hw2
 have hS : ∀ b, SOf wr ((u.heap.size + 1) :: (u.heap.size + 2) :: L) b → SOf w2 ((u.heap.size + 1) :: (u.heap.size + 2) :: L) b ∧ w2.heap[b]? = wr.heap[b]? := fun b hb => ⟨⟨hb.1.keep (hold b hb.1.lt), hb.2⟩, hold b hb.1.lt⟩
 have hS0 : ∀ b, SOf u L b → SOf w2 ((u.heap.size + 1) :: (u.heap.size + 2) :: L) b ∧ w2.heap[b]? = u.heap[b]? := fun b hb => by
  have hk := hb2.block b hb.1.lt
  refine ⟨⟨hb.1.keep hk, fun e => ?_⟩, hk⟩
  rcases List.mem_cons.1 e with e | e
  ·have := hb.1.lt; omega
  rcases List.mem_cons.1 e with e | e
  ·have := hb.1.lt; omega
  ·exact hb.2 e
 have ht : TermS w2 (SOf w2 ((u.heap.size + 1) :: (u.heap.size + 2) :: L)) ⟨4, 0, [46], some ⟨wr.heap.size, 0, none⟩, 2, 2⟩ (compT [46] [ta, listT (l.drop (a + 1)) tl]) := by
  have h2 : TermsS w2 (SOf w2 ((u.heap.size + 1) :: (u.heap.size + 2) :: L)) ([] ++ [ya] ++ [y']) ([] ++ [ta] ++ [listT (l.drop (a + 1)) tl]) := ((TermsS.nil _ _).snoc (hya.step hS0)).snoc (h.t.step hS)
  exact TermsS.block h2 hnew ⟨⟨_, hnew⟩, fun e => by
   rcases List.mem_cons.1 e with e | e
   ·omega
   rcases List.mem_cons.1 e with e | e
   ·omega
   ·have := hL _ e; have := h.below.size; omega⟩ [46] (by unfold maxLen; simp) 4 0 2
 have hW : ∀ k, k ≠ u.heap.size + 2 → (((((w2.setCell ⟨u.heap.size + 2, 0, none⟩ (.int .i64 4)).setCell ⟨u.heap.size + 2, 1, none⟩ (.int .i64 0)).setCell ⟨u.heap.size + 2, 2, none⟩ (.string ⟨#[46]⟩)).setCell ⟨u.heap.size + 2, 3, none⟩ (.slice (some ⟨wr.heap.size, 0, none⟩) 2 2))).heap[k]? = w2.heap[k]? :=
  fun k hk => blk_set4_ne _ _ _ _ hk
 refine ⟨?_, ?_, ?_, ?_⟩
 ·rw [e1, listT_cons]
  exact ht.step fun b hb => by
   have hne : b ≠ u.heap.size + 2 := fun e => hb.2 (by rw [e]; simp)
   exact ⟨⟨hb.1.keep (hW b hne), hb.2⟩, hW b hne⟩
 ·exact (((hb2.setCell (p := ⟨u.heap.size + 2, 0, none⟩) (by simp) _).setCell (p := ⟨u.heap.size + 2, 1, none⟩) (by simp) _).setCell (p := ⟨u.heap.size + 2, 2, none⟩) (by simp) _).setCell (p := ⟨u.heap.size + 2, 3, none⟩) (by simp) _
 ·exact blk_set4 ((hold _ hlt).trans h.here) rfl _ _ _ _
 ·rw [hW _ (by omega), hold _ (by omega)]
  exact h.res
set_option maxHeartbeats 8000000 in
theorem list_any (u : World) (L : List Nat) (hL : ∀ k ∈ L, k < u.heap.size) (A : Option Addr) (n c : Nat) (xs : List TV) (l : List Tm) (hs : SlTerms u A n xs) (hx : TermsS u (SOf u L) xs l) (y : TV) (tl : Tm) (hy : TermS u (SOf u L) y tl) (hn : n ≤ 1000000) :
    Calls Tryz.prog 54 #[.slice A n c, tvV y] u fun e u' => ∃ y', e = .returned (tvV y') ∧ TermS u' (SOf u' L) y' (listT l tl) ∧ Below u.heap.size u u' := by
 have hln : l.length = n := hx.1.symm.trans hs.len
 have HS := Lib.hid hs
 have HX := Lib.hid hx
 have HL := Lib.hid hL
 have hw0 : IntKind.i64.wrap ((n : Int) - 1) = (n : Int) - 1 := IntWalk.i64_in _ (by omega)
 have h0 : LInv u L l tl n (((u.alloc (.cells #[.int .i64 y.k, .int .i64 y.n, .string ⟨y.s.toArray⟩, .slice y.A y.len y.cap] 34)).alloc (.cells #[.int .i64 0, .int .i64 0, .string ⟨#[]⟩, .slice none 0 0] 34)).alloc (.cells #[.int .i64 y.k, .int .i64 y.n, .string ⟨y.s.toArray⟩, .slice y.A y.len y.cap] 34)) y := by
  have hb : Below u.heap.size u (((u.alloc (.cells #[.int .i64 y.k, .int .i64 y.n, .string ⟨y.s.toArray⟩, .slice y.A y.len y.cap] 34)).alloc (.cells #[.int .i64 0, .int .i64 0, .string ⟨#[]⟩, .slice none 0 0] 34)).alloc (.cells #[.int .i64 y.k, .int .i64 y.n, .string ⟨y.s.toArray⟩, .slice y.A y.len y.cap] 34)) :=
   (((Below.refl _ _).alloc (Nat.le_refl _) _).alloc (by simp) _).alloc (by simp; omega) _
  refine ⟨?_, hb, ?_, ?_⟩
  ·rw [show l.drop n = [] by rw [← hln, List.drop_length]]
   exact hy.step fun b hb' => by
    have hk := hb.block b hb'.1.lt
    refine ⟨⟨hb'.1.keep hk, fun e => ?_⟩, hk⟩
    rcases List.mem_cons.1 e with e | e
    ·have := hb'.1.lt; omega
    rcases List.mem_cons.1 e with e | e
    ·have := hb'.1.lt; omega
    ·exact hb'.2 e
  ·have := heap_alloc_new ((u.alloc (.cells #[.int .i64 y.k, .int .i64 y.n, .string ⟨y.s.toArray⟩, .slice y.A y.len y.cap] 34)).alloc (.cells #[.int .i64 0, .int .i64 0, .string ⟨#[]⟩, .slice none 0 0] 34)) (.cells #[.int .i64 y.k, .int .i64 y.n, .string ⟨y.s.toArray⟩, .slice y.A y.len y.cap] 34)
   simpa using this
  ·have := heap_alloc_new (u.alloc (.cells #[.int .i64 y.k, .int .i64 y.n, .string ⟨y.s.toArray⟩, .slice y.A y.len y.cap] 34)) (.cells #[.int .i64 0, .int .i64 0, .string ⟨#[]⟩, .slice none 0 0] 34)
   rw [Below.heap_alloc _ _ _ (by simp)]
   simpa using this
 have H0 := Lib.hid h0
 clear hs hx hL hy h0
 unfold tvV
 go_enter Tryz.func54, Tryz.ntmps54
 go_wp2_with fail
 go_loopw [6] (fun i wr => ∃ a, a ≤ n ∧ i = .int .i64 ((a : Int) - 1) ∧ Hid (∃ y', LInv u L l tl a wr y')) (fun i _ => (intOf i + 1).toNat)
 case atStart => exact ⟨n, Nat.le_refl _, rfl, Lib.hid ⟨y, H0.out⟩⟩
 case round =>
  obtain ⟨a, ha, rfl, HR⟩ := hrel
  obtain ⟨y', hI⟩ := HR.out
  have HI := Lib.hid hI
  have hlt := hI.lt
  obtain ⟨d0, d1, d2, d3, df⟩ := four_at hI.here
  obtain ⟨r0, r1, r2, r3, rf⟩ := four_at hI.res
  clear hI HR
  obtain _ | a := a
  ·go_wp2_with fail
   have hF : Below u.heap.size u ((((wr.setCell ⟨u.heap.size + 1, 0, none⟩ (.int .i64 y'.k)).setCell ⟨u.heap.size + 1, 1, none⟩ (.int .i64 y'.n)).setCell ⟨u.heap.size + 1, 2, none⟩ (.string ⟨y'.s.toArray⟩)).setCell ⟨u.heap.size + 1, 3, none⟩ (.slice y'.A y'.len y'.cap)) :=
    (((HI.out.below.setCell (p := ⟨u.heap.size + 1, 0, none⟩) (by simp) _).setCell (p := ⟨u.heap.size + 1, 1, none⟩) (by simp) _).setCell (p := ⟨u.heap.size + 1, 2, none⟩) (by simp) _).setCell (p := ⟨u.heap.size + 1, 3, none⟩) (by simp) _
   refine bodyPost_ret (v := .agg #[.int .i64 y'.k, .int .i64 y'.n, .string ⟨y'.s.toArray⟩, .slice y'.A y'.len y'.cap]) (by simp [results, Tryz.results54, go_sem, r0, r1, r2, r3]) rfl ⟨y', rfl, ?_, hF⟩
   refine HI.out.t.step fun b hb => ?_
   have hne : b ≠ u.heap.size + 1 := fun e => hb.2 (by rw [e]; simp)
   have hk := blk_set4_ne (w := wr) (.int .i64 y'.k) (.int .i64 y'.n) (.string ⟨y'.s.toArray⟩) (.slice y'.A y'.len y'.cap) hne
   exact ⟨⟨hb.1.keep hk, fun e => hb.2 (by simp [e])⟩, hk⟩
  ·have hai : a < xs.length := by rw [HS.out.len]; omega
   have hal : a < l.length := by omega
   obtain ⟨b, off, e1, e2, e3⟩ := HS.out.at' a _ (List.getElem?_eq_getElem hai)
   have hya := HX.out.2 a _ _ (List.getElem?_eq_getElem hai) (List.getElem?_eq_getElem hal)
   have hla := List.getElem?_eq_getElem hal
   generalize xs[a] = ya at e3 hya
   generalize l[a] = ta at hla hya
   subst e1
   have q0 : wr.cell? ⟨b, off + a * 4, none⟩ = some (.int .i64 ya.k) := (HI.out.below.cell (p := ⟨b, off + a * 4, none⟩) e2).trans (e3 0 _ rfl)
   have q1 : wr.cell? ⟨b, off + a * 4 + 1, none⟩ = some (.int .i64 ya.n) := (HI.out.below.cell (p := ⟨b, off + a * 4 + 1, none⟩) e2).trans (e3 1 _ rfl)
   have q2 : wr.cell? ⟨b, off + a * 4 + 2, none⟩ = some (.string ⟨ya.s.toArray⟩) := (HI.out.below.cell (p := ⟨b, off + a * 4 + 2, none⟩) e2).trans (e3 2 _ rfl)
   have q3 : wr.cell? ⟨b, off + a * 4 + 3, none⟩ = some (.slice ya.A ya.len ya.cap) := (HI.out.below.cell (p := ⟨b, off + a * 4 + 3, none⟩) e2).trans (e3 3 _ rfl)
   have hlast := (HI.out.round HL.out hla hya).drew
   rw [World.setCell_alloc_past _ _ _ _ hlt, World.setCell_alloc_past _ _ _ _ (by simpa using hlt), World.setCell_alloc_past _ _ _ _ (by simpa using hlt), World.setCell_alloc_past _ _ _ _ (by simpa using hlt)] at hlast
   have HN := Lib.hid hlast
   have ea : (((a + 1 : Nat) : Int) - 1) = (a : Int) := by omega
   have ha1 : (0 : Int) ≤ (a : Int) := by omega
   have ha2 : (a : Int) < (n : Int) := by omega
   have hwa : IntKind.i64.wrap ((a : Int) - 1) = (a : Int) - 1 := IntWalk.i64_in _ (by omega)
   rw [ea]
   clear hlast hya hla e3 e2
   go_wp2_with fail
   (refine wp_region_still_tail 5 (by kernel_rfl) (by kernel_rfl) ?_; simp only [List.take_succ_cons, List.take_zero, List.drop_succ_cons, List.drop_zero]; repeat (with_reducible refine wpStill_step ?_; intro KK hKK; go_simp; with_reducible refine hKK _ ?_; clear hKK KK)); try (with_reducible refine wpStill_nil ?_)
   go_wp2_with fail
   go_roundw
   case rel => exact ⟨a, by omega, rfl, Lib.hid ⟨_, HN.out⟩⟩
   case measure =>
    simp only [intOf]
    omega
end Go.Proofs.YtiffopheamnngaaGreatDoor
