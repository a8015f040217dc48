import Derived.Test.YtcallkljcjimiaaGreatDoorJW09
import Derived.Deep.RegionHeld3
import Derived.Deep.Cut
import Derived.Deep.CutRange
import Derived.Deep.DeepCutAuto
namespace Go.Proofs.YtcallkljcjimiaaGreatDoor
structure PlainOut (s s' : RdS) : Prop where
 vars : s'.vars = s.vars
 names : s'.names = s.names
 cnt : s'.cnt = s.cnt
 wait : ∀ w, s'.wait = w :: s.wait → w.name.length ≤ maxLen
 t : s'.wait = s.wait → s'.t.s.length ≤ maxLen
theorem list_ne {α : Type} (x : α) (l : List α) : l ≠ x :: l := fun h => by
 have := congrArg List.length h
 simp at this
theorem plain_await (s : RdS) (k : Nat) (u : Int) (nm : List UInt8) (p m : Int) (hn : nm.length ≤ maxLen) : PlainOut s ((s.go k).await ⟨u, 0, nm, p, []⟩ m) :=
 ⟨rfl, rfl, rfl, fun w hw => by
  have h : WaitF.mk u s.most nm p [] :: s.wait = w :: s.wait := hw
  injection h with h
  subst h
  exact hn, fun hw => absurd hw.symm (list_ne _ _)⟩
theorem plain_done (s : RdS) (k : Nat) (t : Tm) (p : Int) (hn : t.s.length ≤ maxLen) : PlainOut s ((s.go k).done t p) :=
 ⟨rfl, rfl, rfl, fun _ hw => absurd hw (list_ne _ _), fun _ => hn⟩
theorem peek_short {ts : List Tok} (hs : ∀ t ∈ ts, t.s.length ≤ 1000000) (i : Nat) : (peekF ts i).s.length ≤ 1000000 := by
 unfold peekF
 rw [List.getD_eq_getElem?_getD]
 cases h : ts[i]? with
 | none => simp [noTok]
 | some t => exact hs t (List.mem_of_getElem? h)
theorem go_go (s : RdS) (a b : Nat) : (s.go a).go b = s.go (a + b) := by simp [RdS.go, Nat.add_assoc]
theorem short_max {n : Nat} (h : n ≤ 1000000) : n + 1 ≤ maxLen := by unfold maxLen; omega
theorem args_plain {ts : List Tok} {s s' : RdS} {k : Nat} {nm : List UInt8} (hn : nm.length ≤ maxLen) (h : argsF ts (s.go k) nm = .ok s') : PlainOut s s' := by
 obtain ⟨rfl, _⟩ := args_ok h
 rw [go_go]
 exact plain_await s _ _ _ _ _ hn
theorem pair_plain {ts : List Tok} {s s' : RdS} {c : UInt8} (hs : ∀ t ∈ ts, t.s.length ≤ 1000000) (h : pairF ts s c = .ok s') : PlainOut s s' := by
 have hn : ((peekF ts s.at').s ++ [c]).length ≤ maxLen := by
  rw [List.length_append]
  exact short_max (peek_short hs _)
 unfold pairF at h
 dsimp only at h
 split at h
 ·exact args_plain hn h
 ·injection h with h
  subst h
  exact plain_done s _ _ _ hn
theorem punct_plain {ts : List Tok} {s s' : RdS} {x : List UInt8} (hs : ∀ t ∈ ts, t.s.length ≤ 1000000) (h : punctF ts s x = .ok s') : PlainOut s s' := by
 have h0 : ([] : List UInt8).length ≤ maxLen := Nat.zero_le _
 unfold punctF at h
 split at h
 ·injection h with h
  subst h
  exact plain_await s _ _ _ _ _ h0
 ·split at h
  ·split at h
   ·exact pair_plain hs h
   ·injection h with h
    subst h
    exact plain_await s _ _ _ _ _ h0
  ·split at h
   ·split at h
    ·exact pair_plain hs h
    ·injection h with h
     subst h
     exact plain_await s _ _ _ _ _ h0
   ·cases h
theorem atom_plain {o : OpsF} {ts : List Tok} {s s' : RdS} {t : Tok} (ht : t.s.length ≤ 1000000) (h : atomF o ts s t = .ok s') : PlainOut s s' := by
 have hn : t.s.length ≤ maxLen := Nat.le_of_succ_le (short_max ht)
 unfold atomF at h
 dsimp only at h
 split at h
 ·injection h with h
  subst h
  exact plain_done s _ _ _ (Nat.zero_le _)
 ·split at h
  ·exact args_plain hn h
  ·split at h
   ·injection h with h
    subst h
    exact plain_await s _ _ _ _ _ hn
   ·injection h with h
    subst h
    exact plain_done s _ _ _ hn
open Go.RowKit Go.Maps
set_option maxRecDepth 100000
structure OpsAt (u : World) (rb : Nat) (v : RdV) (bt bm : Nat) (es : List (OpK × OpV)) : Prop where
 ob : v.ob = .pointer (some ⟨bt, 0, none⟩)
 tab : TabAt u bt bm es
 kinds : KindsAt u
 far : bt < rb ∧ bm < rb ∧ 0 < rb
theorem OpsAt.later {u u' : World} {rb : Nat} {v : RdV} {bt bm : Nat} {es : List (OpK × OpV)} (h : OpsAt u rb v bt bm es) (hb : Below u.heap.size u u') : OpsAt u' rb v bt bm es := ⟨h.ob, h.tab.later hb, h.kinds.later hb, h.far⟩
theorem OpsAt.fr {S : Nat → Prop} {u u' : World} {rb : Nat} {v : RdV} {bt bm : Nat} {es : List (OpK × OpV)} (h : OpsAt u rb v bt bm es) (hF : Fr S u u') (hS : ∀ k, S k → rb ≤ k) : OpsAt u' rb v bt bm es :=
 ⟨h.ob, h.tab.keep (hF.block _ h.tab.lt fun e => by have := hS _ e; have := h.far; omega) (hF.block _ h.tab.map.lt fun e => by have := hS _ e; have := h.far; omega), h.kinds.keep (hF.block _ h.kinds.lt fun e => by have := hS _ e; have := h.far; omega), h.far⟩
theorem bg_drew {u : World} {p q : Addr} {x y : Option Value} (h : u.cell? p = x ∧ u.cell? q = y) : u.drew.cell? p = x ∧ u.drew.cell? q = y := h
theorem bg_later {u u' : World} {p q : Addr} {x y : Value} (h : u.cell? p = some x ∧ u.cell? q = some y) (hb : Below u.heap.size u u') : u'.cell? p = some x ∧ u'.cell? q = some y :=
 ⟨(hb.cell (World.block_lt_of_cell? u _ h.1)).trans h.1, (hb.cell (World.block_lt_of_cell? u _ h.2)).trans h.2⟩
set_option maxHeartbeats 8000000 in
theorem begins_op1 (u : World) (rb : Nat) (v : RdV) (ts : List Tok) (s : RdS) (B : Nat) (h : RdAt u rb v ts s B) (bt bm : Nat) (es : List (OpK × OpV)) (ho : OpsAt u rb v bt bm es) (hsh : (peekF ts s.at').s.length ≤ 1000000)
    (hk : (peekF ts s.at').kind = 1) (hop : (peekF ts s.at').opn = false) :
    Calls Tryz.prog 97 #[.pointer (some ⟨rb, 0, none⟩)] u fun e u' => e = .returned (.bool (beginsF (opsOf es) (peekF ts s.at'))) ∧ Below u.heap.size u u' := by
 have hn : OkName (peekF ts s.at').s := by unfold OkName; exact Nat.le_of_succ_le (short_max hsh)
 obtain ⟨q, hq⟩ : ∃ q, q = beginsF (opsOf es) (peekF ts s.at') := ⟨_, rfl⟩
 have hq2 : q = decide (((tsides es 2 (peekF ts s.at').s).1 = 0 ∧ (tsides es 3 (peekF ts s.at').s).1 = 0) ∨ 0 < (tsides es 1 (peekF ts s.at').s).1) := by
  rw [hq]
  unfold beginsF
  rw [if_neg (by omega), if_neg (by omega), if_pos (by omega), hop]
  rfl
 rw [← hq]
 have HA := Lib.hid h
 have HO := Lib.hid ho
 have HN := Lib.hid hn
 have HQ := Lib.hid hq2
 have hob := ho.ob
 clear h ho hn hq hq2
 obtain ⟨p1, hp1⟩ : ∃ p, p = peekF ts s.at' := ⟨_, rfl⟩
 have HPE := Lib.hid hp1
 rw [← hp1] at hsh hk hop HN HQ
 clear hp1
 obtain ⟨k, ln, n, st, op, ti⟩ := p1
 simp only at hsh hk hop HN HQ
 subst hop hk
 go_enter Tryz.func97, Tryz.ntmps97
 go_wp2_with fail
 refine (peek_any _ rb v ts s B HA.out 0 (by omega)).mono ?_
 rintro e w1 ⟨rfl, hb1⟩
 rw [show s.at' + 0 = s.at' from rfl, ← HPE.out]
 simp only [tokW]
 obtain ⟨W, hW⟩ : ∃ W, W = w1.alloc (.cells #[.int .i64 1, .int .i64 ln, .int .i64 n, .string ⟨st.toArray⟩, .bool false, .bool ti] 107) := ⟨_, rfl⟩
 have hbW : Below u.heap.size u W := by rw [hW]; exact hb1.alloc hb1.size _
 have hs : W.cell? ⟨rb, 2, none⟩ = some (.pointer (some ⟨bt, 0, none⟩)) ∧ W.cell? ⟨w1.heap.size, 3, none⟩ = some (.string ⟨st.toArray⟩) :=
  ⟨((HA.out.later hbW).blk.cell (i := 2) rfl).trans (congrArg some hob), by rw [hW]; exact cell_made w1 _ _ 3 _ rfl⟩
 have HS1 := Lib.hid hs
 have HB1 := Lib.hid hbW
 have HO1 := Lib.hid (HO.out.later hbW)
 clear hb1 hbW hs
 go_wp2_with fail
 rw [← hW]
 clear hW
 go_region_held3 (fun u => u.cell? ⟨rb, 2, none⟩ = some (.pointer (some ⟨bt, 0, none⟩)) ∧ u.cell? ⟨w1.heap.size, 3, none⟩ = some (.string ⟨st.toArray⟩))
     (first | (with_reducible exact HS1.out) | (with_reducible exact bg_drew HS1.out) | (with_reducible exact bg_later (bg_drew HS1.out) hb1) | (with_reducible exact bg_drew (bg_later (bg_drew HS1.out) hb1)))
     (first | (go_at_call 126; refine (infix_any _ bt bm es (HO1.out.later (Below.refl _ _).drew).tab (HO1.out.later (Below.refl _ _).drew).kinds st HN.out).mono ?_; rintro e w2 ⟨rfl, hb1⟩))
 have HS2 := Lib.hid (bg_later (bg_drew HS1.out) hb1)
 have HO2 := Lib.hid (HO1.out.later (below_call' (Below.refl _ _).drew hb1))
 have HB2 := Lib.hid (below_call' (HB1.out.drew) hb1)
 clear hb1
 go_wp2_with fail
 go_region_held3 (fun u => u.cell? ⟨rb, 2, none⟩ = some (.pointer (some ⟨bt, 0, none⟩)) ∧ u.cell? ⟨w1.heap.size, 3, none⟩ = some (.string ⟨st.toArray⟩))
     (first | (with_reducible exact HS2.out) | (with_reducible exact bg_drew HS2.out) | (with_reducible exact bg_later (bg_drew HS2.out) hb2) | (with_reducible exact bg_drew (bg_later (bg_drew HS2.out) hb2)))
     (first | (go_at_call 127; refine (postfix_any _ bt bm es (HO2.out.later (Below.refl _ _).drew).tab (HO2.out.later (Below.refl _ _).drew).kinds st HN.out).mono ?_; rintro e w3 ⟨rfl, hb2⟩))
 have HS3 := Lib.hid (bg_later (bg_drew HS2.out) hb2)
 have HO3 := Lib.hid (HO2.out.later (below_call' (Below.refl _ _).drew hb2))
 have HB3 := Lib.hid (below_call' (HB2.out.drew) hb2)
 clear hb2
 go_wp2_with fail
 go_region_held3 (fun u => u.cell? ⟨rb, 2, none⟩ = some (.pointer (some ⟨bt, 0, none⟩)) ∧ u.cell? ⟨w1.heap.size, 3, none⟩ = some (.string ⟨st.toArray⟩))
     (first | (with_reducible exact HS3.out) | (with_reducible exact bg_drew HS3.out) | (with_reducible exact bg_later (bg_drew HS3.out) hb3) | (with_reducible exact bg_drew (bg_later (bg_drew HS3.out) hb3)))
     (first | (go_at_call 96; refine (prefix_any _ bt bm es (HO3.out.later (Below.refl _ _).drew).tab (HO3.out.later (Below.refl _ _).drew).kinds st HN.out).mono ?_; rintro e w4 ⟨rfl, hb3⟩))
 have HS4 := Lib.hid (bg_later (bg_drew HS3.out) hb3)
 have HO4 := Lib.hid (HO3.out.later (below_call' (Below.refl _ _).drew hb3))
 have HB4 := Lib.hid (below_call' (HB3.out.drew) hb3)
 clear hb3
 go_wp2_with fail
 all_goals
  go_ret
  refine ⟨congrArg (fun b => Ending.returned (Value.bool b)) ?_, HB4.out⟩
  have hq := HQ.out
  clear HQ HS1 HS2 HS3 HS4 HO HO1 HO2 HO3 HO4 HB1 HB2 HB3 HB4 HA HN HPE
  subst hq
  rw [Bool.eq_iff_iff]
  simp_all
set_option maxHeartbeats 8000000 in
theorem begins_op2 (u : World) (rb : Nat) (v : RdV) (ts : List Tok) (s : RdS) (B : Nat) (h : RdAt u rb v ts s B) (bt bm : Nat) (es : List (OpK × OpV)) (ho : OpsAt u rb v bt bm es) (hsh : (peekF ts s.at').s.length ≤ 1000000)
    (hk : (peekF ts s.at').kind = 2) (hop : (peekF ts s.at').opn = false) :
    Calls Tryz.prog 97 #[.pointer (some ⟨rb, 0, none⟩)] u fun e u' => e = .returned (.bool (beginsF (opsOf es) (peekF ts s.at'))) ∧ Below u.heap.size u u' := by
 have hn : OkName (peekF ts s.at').s := by unfold OkName; exact Nat.le_of_succ_le (short_max hsh)
 obtain ⟨q, hq⟩ : ∃ q, q = beginsF (opsOf es) (peekF ts s.at') := ⟨_, rfl⟩
 have hq2 : q = decide (((tsides es 2 (peekF ts s.at').s).1 = 0 ∧ (tsides es 3 (peekF ts s.at').s).1 = 0) ∨ 0 < (tsides es 1 (peekF ts s.at').s).1) := by
  rw [hq]
  unfold beginsF
  rw [if_neg (by omega), if_neg (by omega), if_pos (by omega), hop]
  rfl
 rw [← hq]
 have HA := Lib.hid h
 have HO := Lib.hid ho
 have HN := Lib.hid hn
 have HQ := Lib.hid hq2
 have hob := ho.ob
 clear h ho hn hq hq2
 obtain ⟨p1, hp1⟩ : ∃ p, p = peekF ts s.at' := ⟨_, rfl⟩
 have HPE := Lib.hid hp1
 rw [← hp1] at hsh hk hop HN HQ
 clear hp1
 obtain ⟨k, ln, n, st, op, ti⟩ := p1
 simp only at hsh hk hop HN HQ
 subst hop hk
 go_enter Tryz.func97, Tryz.ntmps97
 go_wp2_with fail
 refine (peek_any _ rb v ts s B HA.out 0 (by omega)).mono ?_
 rintro e w1 ⟨rfl, hb1⟩
 rw [show s.at' + 0 = s.at' from rfl, ← HPE.out]
 simp only [tokW]
 obtain ⟨W, hW⟩ : ∃ W, W = w1.alloc (.cells #[.int .i64 2, .int .i64 ln, .int .i64 n, .string ⟨st.toArray⟩, .bool false, .bool ti] 107) := ⟨_, rfl⟩
 have hbW : Below u.heap.size u W := by rw [hW]; exact hb1.alloc hb1.size _
 have hs : W.cell? ⟨rb, 2, none⟩ = some (.pointer (some ⟨bt, 0, none⟩)) ∧ W.cell? ⟨w1.heap.size, 3, none⟩ = some (.string ⟨st.toArray⟩) :=
  ⟨((HA.out.later hbW).blk.cell (i := 2) rfl).trans (congrArg some hob), by rw [hW]; exact cell_made w1 _ _ 3 _ rfl⟩
 have HS1 := Lib.hid hs
 have HB1 := Lib.hid hbW
 have HO1 := Lib.hid (HO.out.later hbW)
 clear hb1 hbW hs
 go_wp2_with fail
 rw [← hW]
 clear hW
 go_region_held3 (fun u => u.cell? ⟨rb, 2, none⟩ = some (.pointer (some ⟨bt, 0, none⟩)) ∧ u.cell? ⟨w1.heap.size, 3, none⟩ = some (.string ⟨st.toArray⟩))
     (first | (with_reducible exact HS1.out) | (with_reducible exact bg_drew HS1.out) | (with_reducible exact bg_later (bg_drew HS1.out) hb1) | (with_reducible exact bg_drew (bg_later (bg_drew HS1.out) hb1)))
     (first | (go_at_call 126; refine (infix_any _ bt bm es (HO1.out.later (Below.refl _ _).drew).tab (HO1.out.later (Below.refl _ _).drew).kinds st HN.out).mono ?_; rintro e w2 ⟨rfl, hb1⟩))
 have HS2 := Lib.hid (bg_later (bg_drew HS1.out) hb1)
 have HO2 := Lib.hid (HO1.out.later (below_call' (Below.refl _ _).drew hb1))
 have HB2 := Lib.hid (below_call' (HB1.out.drew) hb1)
 clear hb1
 go_wp2_with fail
 go_region_held3 (fun u => u.cell? ⟨rb, 2, none⟩ = some (.pointer (some ⟨bt, 0, none⟩)) ∧ u.cell? ⟨w1.heap.size, 3, none⟩ = some (.string ⟨st.toArray⟩))
     (first | (with_reducible exact HS2.out) | (with_reducible exact bg_drew HS2.out) | (with_reducible exact bg_later (bg_drew HS2.out) hb2) | (with_reducible exact bg_drew (bg_later (bg_drew HS2.out) hb2)))
     (first | (go_at_call 127; refine (postfix_any _ bt bm es (HO2.out.later (Below.refl _ _).drew).tab (HO2.out.later (Below.refl _ _).drew).kinds st HN.out).mono ?_; rintro e w3 ⟨rfl, hb2⟩))
 have HS3 := Lib.hid (bg_later (bg_drew HS2.out) hb2)
 have HO3 := Lib.hid (HO2.out.later (below_call' (Below.refl _ _).drew hb2))
 have HB3 := Lib.hid (below_call' (HB2.out.drew) hb2)
 clear hb2
 go_wp2_with fail
 go_region_held3 (fun u => u.cell? ⟨rb, 2, none⟩ = some (.pointer (some ⟨bt, 0, none⟩)) ∧ u.cell? ⟨w1.heap.size, 3, none⟩ = some (.string ⟨st.toArray⟩))
     (first | (with_reducible exact HS3.out) | (with_reducible exact bg_drew HS3.out) | (with_reducible exact bg_later (bg_drew HS3.out) hb3) | (with_reducible exact bg_drew (bg_later (bg_drew HS3.out) hb3)))
     (first | (go_at_call 96; refine (prefix_any _ bt bm es (HO3.out.later (Below.refl _ _).drew).tab (HO3.out.later (Below.refl _ _).drew).kinds st HN.out).mono ?_; rintro e w4 ⟨rfl, hb3⟩))
 have HS4 := Lib.hid (bg_later (bg_drew HS3.out) hb3)
 have HO4 := Lib.hid (HO3.out.later (below_call' (Below.refl _ _).drew hb3))
 have HB4 := Lib.hid (below_call' (HB3.out.drew) hb3)
 clear hb3
 go_wp2_with fail
 all_goals
  go_ret
  refine ⟨congrArg (fun b => Ending.returned (Value.bool b)) ?_, HB4.out⟩
  have hq := HQ.out
  clear HQ HS1 HS2 HS3 HS4 HO HO1 HO2 HO3 HO4 HB1 HB2 HB3 HB4 HA HN HPE
  subst hq
  rw [Bool.eq_iff_iff]
  simp_all
set_option maxHeartbeats 4000000 in
theorem begins_k3 (u : World) (rb : Nat) (v : RdV) (ts : List Tok) (s : RdS) (B : Nat) (h : RdAt u rb v ts s B) (hk : (peekF ts s.at').kind = 3) :
    Calls Tryz.prog 97 #[.pointer (some ⟨rb, 0, none⟩)] u fun e u' => e = .returned (.bool true) ∧ Below u.heap.size u u' := by
 have HA := Lib.hid h
 clear h
 obtain ⟨p1, hp1⟩ : ∃ p, p = peekF ts s.at' := ⟨_, rfl⟩
 have HPE := Lib.hid hp1
 rw [← hp1] at hk
 clear hp1
 obtain ⟨k, ln, n, st, op, ti⟩ := p1
 simp only at hk
 subst hk
 go_enter Tryz.func97, Tryz.ntmps97
 go_wp2_with fail
 refine (peek_any _ rb v ts s B HA.out 0 (by omega)).mono ?_
 rintro e w1 ⟨rfl, hb1⟩
 rw [show s.at' + 0 = s.at' from rfl, ← HPE.out]
 simp only [tokW]
 go_wp2_with fail
 all_goals
  go_ret
  exact ⟨rfl, hb1.alloc hb1.size _⟩
set_option maxHeartbeats 4000000 in
theorem begins_k4 (u : World) (rb : Nat) (v : RdV) (ts : List Tok) (s : RdS) (B : Nat) (h : RdAt u rb v ts s B) (hk : (peekF ts s.at').kind = 4) :
    Calls Tryz.prog 97 #[.pointer (some ⟨rb, 0, none⟩)] u fun e u' => e = .returned (.bool true) ∧ Below u.heap.size u u' := by
 have HA := Lib.hid h
 clear h
 obtain ⟨p1, hp1⟩ : ∃ p, p = peekF ts s.at' := ⟨_, rfl⟩
 have HPE := Lib.hid hp1
 rw [← hp1] at hk
 clear hp1
 obtain ⟨k, ln, n, st, op, ti⟩ := p1
 simp only at hk
 subst hk
 go_enter Tryz.func97, Tryz.ntmps97
 go_wp2_with fail
 refine (peek_any _ rb v ts s B HA.out 0 (by omega)).mono ?_
 rintro e w1 ⟨rfl, hb1⟩
 rw [show s.at' + 0 = s.at' from rfl, ← HPE.out]
 simp only [tokW]
 go_wp2_with fail
 all_goals
  go_ret
  exact ⟨rfl, hb1.alloc hb1.size _⟩
set_option maxHeartbeats 4000000 in
theorem begins_k5 (u : World) (rb : Nat) (v : RdV) (ts : List Tok) (s : RdS) (B : Nat) (h : RdAt u rb v ts s B) (hk : (peekF ts s.at').kind = 5) :
    Calls Tryz.prog 97 #[.pointer (some ⟨rb, 0, none⟩)] u fun e u' => e = .returned (.bool true) ∧ Below u.heap.size u u' := by
 have HA := Lib.hid h
 clear h
 obtain ⟨p1, hp1⟩ : ∃ p, p = peekF ts s.at' := ⟨_, rfl⟩
 have HPE := Lib.hid hp1
 rw [← hp1] at hk
 clear hp1
 obtain ⟨k, ln, n, st, op, ti⟩ := p1
 simp only at hk
 subst hk
 go_enter Tryz.func97, Tryz.ntmps97
 go_wp2_with fail
 refine (peek_any _ rb v ts s B HA.out 0 (by omega)).mono ?_
 rintro e w1 ⟨rfl, hb1⟩
 rw [show s.at' + 0 = s.at' from rfl, ← HPE.out]
 simp only [tokW]
 go_wp2_with fail
 all_goals
  go_ret
  exact ⟨rfl, hb1.alloc hb1.size _⟩
set_option maxHeartbeats 4000000 in
theorem begins_o1 (u : World) (rb : Nat) (v : RdV) (ts : List Tok) (s : RdS) (B : Nat) (h : RdAt u rb v ts s B) (hk : (peekF ts s.at').kind = 1) (hop : (peekF ts s.at').opn = true) :
    Calls Tryz.prog 97 #[.pointer (some ⟨rb, 0, none⟩)] u fun e u' => e = .returned (.bool true) ∧ Below u.heap.size u u' := by
 have HA := Lib.hid h
 clear h
 obtain ⟨p1, hp1⟩ : ∃ p, p = peekF ts s.at' := ⟨_, rfl⟩
 have HPE := Lib.hid hp1
 rw [← hp1] at hk hop
 clear hp1
 obtain ⟨k, ln, n, st, op, ti⟩ := p1
 simp only at hk hop
 subst hk hop
 go_enter Tryz.func97, Tryz.ntmps97
 go_wp2_with fail
 refine (peek_any _ rb v ts s B HA.out 0 (by omega)).mono ?_
 rintro e w1 ⟨rfl, hb1⟩
 rw [show s.at' + 0 = s.at' from rfl, ← HPE.out]
 simp only [tokW]
 go_wp2_with fail
 all_goals
  go_ret
  exact ⟨rfl, hb1.alloc hb1.size _⟩
set_option maxHeartbeats 4000000 in
theorem begins_o2 (u : World) (rb : Nat) (v : RdV) (ts : List Tok) (s : RdS) (B : Nat) (h : RdAt u rb v ts s B) (hk : (peekF ts s.at').kind = 2) (hop : (peekF ts s.at').opn = true) :
    Calls Tryz.prog 97 #[.pointer (some ⟨rb, 0, none⟩)] u fun e u' => e = .returned (.bool true) ∧ Below u.heap.size u u' := by
 have HA := Lib.hid h
 clear h
 obtain ⟨p1, hp1⟩ : ∃ p, p = peekF ts s.at' := ⟨_, rfl⟩
 have HPE := Lib.hid hp1
 rw [← hp1] at hk hop
 clear hp1
 obtain ⟨k, ln, n, st, op, ti⟩ := p1
 simp only at hk hop
 subst hk hop
 go_enter Tryz.func97, Tryz.ntmps97
 go_wp2_with fail
 refine (peek_any _ rb v ts s B HA.out 0 (by omega)).mono ?_
 rintro e w1 ⟨rfl, hb1⟩
 rw [show s.at' + 0 = s.at' from rfl, ← HPE.out]
 simp only [tokW]
 go_wp2_with fail
 all_goals
  go_ret
  exact ⟨rfl, hb1.alloc hb1.size _⟩
set_option maxHeartbeats 4000000 in
theorem begins_p40 (u : World) (rb : Nat) (v : RdV) (ts : List Tok) (s : RdS) (B : Nat) (h : RdAt u rb v ts s B) (hk : (peekF ts s.at').kind = 6) (hs : (peekF ts s.at').s = [40]) :
    Calls Tryz.prog 97 #[.pointer (some ⟨rb, 0, none⟩)] u fun e u' => e = .returned (.bool true) ∧ Below u.heap.size u u' := by
 have HA := Lib.hid h
 clear h
 obtain ⟨p1, hp1⟩ : ∃ p, p = peekF ts s.at' := ⟨_, rfl⟩
 have HPE := Lib.hid hp1
 rw [← hp1] at hk hs
 clear hp1
 obtain ⟨k, ln, n, st, op, ti⟩ := p1
 simp only at hk hs
 subst hk hs
 go_enter Tryz.func97, Tryz.ntmps97
 go_wp2_with fail
 refine (peek_any _ rb v ts s B HA.out 0 (by omega)).mono ?_
 rintro e w1 ⟨rfl, hb1⟩
 rw [show s.at' + 0 = s.at' from rfl, ← HPE.out]
 simp only [tokW]
 go_wp2_with fail
 all_goals
  go_ret
  exact ⟨rfl, hb1.alloc hb1.size _⟩
set_option maxHeartbeats 4000000 in
theorem begins_p91 (u : World) (rb : Nat) (v : RdV) (ts : List Tok) (s : RdS) (B : Nat) (h : RdAt u rb v ts s B) (hk : (peekF ts s.at').kind = 6) (hs : (peekF ts s.at').s = [91]) :
    Calls Tryz.prog 97 #[.pointer (some ⟨rb, 0, none⟩)] u fun e u' => e = .returned (.bool true) ∧ Below u.heap.size u u' := by
 have HA := Lib.hid h
 clear h
 obtain ⟨p1, hp1⟩ : ∃ p, p = peekF ts s.at' := ⟨_, rfl⟩
 have HPE := Lib.hid hp1
 rw [← hp1] at hk hs
 clear hp1
 obtain ⟨k, ln, n, st, op, ti⟩ := p1
 simp only at hk hs
 subst hk hs
 go_enter Tryz.func97, Tryz.ntmps97
 go_wp2_with fail
 refine (peek_any _ rb v ts s B HA.out 0 (by omega)).mono ?_
 rintro e w1 ⟨rfl, hb1⟩
 rw [show s.at' + 0 = s.at' from rfl, ← HPE.out]
 simp only [tokW]
 go_wp2_with fail
 all_goals
  go_ret
  exact ⟨rfl, hb1.alloc hb1.size _⟩
set_option maxHeartbeats 4000000 in
theorem begins_p123 (u : World) (rb : Nat) (v : RdV) (ts : List Tok) (s : RdS) (B : Nat) (h : RdAt u rb v ts s B) (hk : (peekF ts s.at').kind = 6) (hs : (peekF ts s.at').s = [123]) :
    Calls Tryz.prog 97 #[.pointer (some ⟨rb, 0, none⟩)] u fun e u' => e = .returned (.bool true) ∧ Below u.heap.size u u' := by
 have HA := Lib.hid h
 clear h
 obtain ⟨p1, hp1⟩ : ∃ p, p = peekF ts s.at' := ⟨_, rfl⟩
 have HPE := Lib.hid hp1
 rw [← hp1] at hk hs
 clear hp1
 obtain ⟨k, ln, n, st, op, ti⟩ := p1
 simp only at hk hs
 subst hk hs
 go_enter Tryz.func97, Tryz.ntmps97
 go_wp2_with fail
 refine (peek_any _ rb v ts s B HA.out 0 (by omega)).mono ?_
 rintro e w1 ⟨rfl, hb1⟩
 rw [show s.at' + 0 = s.at' from rfl, ← HPE.out]
 simp only [tokW]
 go_wp2_with fail
 all_goals
  go_ret
  exact ⟨rfl, hb1.alloc hb1.size _⟩
set_option maxHeartbeats 4000000 in
theorem begins_p (u : World) (rb : Nat) (v : RdV) (ts : List Tok) (s : RdS) (B : Nat) (h : RdAt u rb v ts s B) (hk : (peekF ts s.at').kind = 6) (h40 : (peekF ts s.at').s ≠ [40]) (h91 : (peekF ts s.at').s ≠ [91]) (h123 : (peekF ts s.at').s ≠ [123]) :
    Calls Tryz.prog 97 #[.pointer (some ⟨rb, 0, none⟩)] u fun e u' => e = .returned (.bool false) ∧ Below u.heap.size u u' := by
 have HA := Lib.hid h
 clear h
 obtain ⟨p1, hp1⟩ : ∃ p, p = peekF ts s.at' := ⟨_, rfl⟩
 have HPE := Lib.hid hp1
 rw [← hp1] at hk h40 h91 h123
 clear hp1
 obtain ⟨k, ln, n, st, op, ti⟩ := p1
 simp only at hk h40 h91 h123
 subst hk
 have b40 : (st == [40]) = false := beq_eq_false_iff_ne.2 h40
 have b91 : (st == [91]) = false := beq_eq_false_iff_ne.2 h91
 have b123 : (st == [123]) = false := beq_eq_false_iff_ne.2 h123
 go_enter Tryz.func97, Tryz.ntmps97
 go_wp2_with fail
 refine (peek_any _ rb v ts s B HA.out 0 (by omega)).mono ?_
 rintro e w1 ⟨rfl, hb1⟩
 rw [show s.at' + 0 = s.at' from rfl, ← HPE.out]
 simp only [tokW]
 go_wp2_with fail
 all_goals
  go_ret
  exact ⟨rfl, hb1.alloc hb1.size _⟩
set_option maxHeartbeats 4000000 in
theorem begins_n (u : World) (rb : Nat) (v : RdV) (ts : List Tok) (s : RdS) (B : Nat) (h : RdAt u rb v ts s B) (h1 : (peekF ts s.at').kind ≠ 1) (h2 : (peekF ts s.at').kind ≠ 2) (h3 : (peekF ts s.at').kind ≠ 3) (h4 : (peekF ts s.at').kind ≠ 4) (h5 : (peekF ts s.at').kind ≠ 5) (h6 : (peekF ts s.at').kind ≠ 6) :
    Calls Tryz.prog 97 #[.pointer (some ⟨rb, 0, none⟩)] u fun e u' => e = .returned (.bool false) ∧ Below u.heap.size u u' := by
 have HA := Lib.hid h
 clear h
 obtain ⟨p1, hp1⟩ : ∃ p, p = peekF ts s.at' := ⟨_, rfl⟩
 have HPE := Lib.hid hp1
 rw [← hp1] at h1 h2 h3 h4 h5 h6
 clear hp1
 obtain ⟨k, ln, n, st, op, ti⟩ := p1
 simp only at h1 h2 h3 h4 h5 h6
 go_enter Tryz.func97, Tryz.ntmps97
 go_wp2_with fail
 refine (peek_any _ rb v ts s B HA.out 0 (by omega)).mono ?_
 rintro e w1 ⟨rfl, hb1⟩
 rw [show s.at' + 0 = s.at' from rfl, ← HPE.out]
 simp only [tokW]
 go_wp2_with fail
 all_goals
  go_ret
  exact ⟨rfl, hb1.alloc hb1.size _⟩
theorem begins_any (u : World) (rb : Nat) (v : RdV) (ts : List Tok) (s : RdS) (B : Nat) (h : RdAt u rb v ts s B) (bt bm : Nat) (es : List (OpK × OpV)) (ho : OpsAt u rb v bt bm es) (hsh : (peekF ts s.at').s.length ≤ 1000000) :
    Calls Tryz.prog 97 #[.pointer (some ⟨rb, 0, none⟩)] u fun e u' => e = .returned (.bool (beginsF (opsOf es) (peekF ts s.at'))) ∧ Below u.heap.size u u' := by
 by_cases h1 : (peekF ts s.at').kind = 1
 ·cases hop : (peekF ts s.at').opn with
  | true =>
   rw [show beginsF (opsOf es) (peekF ts s.at') = true by unfold beginsF; rw [if_neg (by omega), if_neg (by omega), if_pos (by omega), hop]; rfl]
   exact begins_o1 u rb v ts s B h h1 hop
  | false => exact begins_op1 u rb v ts s B h bt bm es ho hsh h1 hop
 by_cases h2 : (peekF ts s.at').kind = 2
 ·cases hop : (peekF ts s.at').opn with
  | true =>
   rw [show beginsF (opsOf es) (peekF ts s.at') = true by unfold beginsF; rw [if_neg (by omega), if_neg (by omega), if_pos (by omega), hop]; rfl]
   exact begins_o2 u rb v ts s B h h2 hop
  | false => exact begins_op2 u rb v ts s B h bt bm es ho hsh h2 hop
 by_cases h3 : (peekF ts s.at').kind = 3
 ·rw [show beginsF (opsOf es) (peekF ts s.at') = true by unfold beginsF; rw [if_pos (by omega)]]
  exact begins_k3 u rb v ts s B h h3
 by_cases h4 : (peekF ts s.at').kind = 4
 ·rw [show beginsF (opsOf es) (peekF ts s.at') = true by unfold beginsF; rw [if_pos (by omega)]]
  exact begins_k4 u rb v ts s B h h4
 by_cases h5 : (peekF ts s.at').kind = 5
 ·rw [show beginsF (opsOf es) (peekF ts s.at') = true by unfold beginsF; rw [if_pos (by omega)]]
  exact begins_k5 u rb v ts s B h h5
 by_cases h6 : (peekF ts s.at').kind = 6
 ·have hb : beginsF (opsOf es) (peekF ts s.at') = decide ((peekF ts s.at').s = [40] ∨ (peekF ts s.at').s = [91] ∨ (peekF ts s.at').s = [123]) := by unfold beginsF; rw [if_neg (by omega), if_pos h6]
  by_cases c1 : (peekF ts s.at').s = [40]
  ·rw [hb, decide_eq_true (.inl c1)]
   exact begins_p40 u rb v ts s B h h6 c1
  by_cases c2 : (peekF ts s.at').s = [91]
  ·rw [hb, decide_eq_true (.inr (.inl c2))]
   exact begins_p91 u rb v ts s B h h6 c2
  by_cases c3 : (peekF ts s.at').s = [123]
  ·rw [hb, decide_eq_true (.inr (.inr c3))]
   exact begins_p123 u rb v ts s B h h6 c3
  rw [hb, decide_eq_false (fun e => e.elim c1 fun e => e.elim c2 c3)]
  exact begins_p u rb v ts s B h h6 c1 c2 c3
 ·rw [show beginsF (opsOf es) (peekF ts s.at') = false by unfold beginsF; rw [if_neg (by omega), if_neg h6, if_neg (by omega)]]
  exact begins_n u rb v ts s B h h1 h2 h3 h4 h5 h6
def RW (rb : Nat) (v : RdV) (k : Nat) : Prop := k = rb ∨ v.wv.ownBlock = some k
theorem neg_wrap (n : Int) (h0 : -9223372036854775808 ≤ n) (h1 : n ≤ 9223372036854775807) : IntKind.i64.wrap (-n) = negI n := by
 unfold negI
 split
 ·rename_i h
  rw [h]
  rfl
 ·exact IntWalk.i64_in _ (by omega)
theorem WRow.later' {u u' : World} {rb : Nat} {wv : Value} {l : List FrV} (h : WRow u rb wv l) (hb : Below u.heap.size u u') : WRow u' rb wv l := WRow.fr h (.of_below _ hb)
set_option maxHeartbeats 8000000 in
theorem atom_neg (u : World) (rb : Nat) (v : RdV) (ts : List Tok) (s : RdS) (B : Nat) (h : RdAt u rb v ts s B) (l : List FrV) (hrow : WRow u rb v.wv l) (t : Tok) (es : List (OpK × OpV)) (hk : t.kind = 1) (hst : t.s = [45])
    (hk2 : (peekF ts (s.at' + 1)).kind = 3) (hti : (peekF ts (s.at' + 1)).tight = true) (hn0 : -9223372036854775808 ≤ (peekF ts (s.at' + 1)).n) (hn1 : (peekF ts (s.at' + 1)).n ≤ 9223372036854775807) :
    Calls Tryz.prog 53 #[.pointer (some ⟨rb, 0, none⟩), tokW t] u fun e u' => Fr (RW rb v) u u' ∧ PrimOut u' rb v ts s B l (atomF (opsOf es) ts s t) e := by
 have hl2 : s.at' + 1 < ts.length := peek_lt (by rw [hk2]; decide)
 have hr : atomF (opsOf es) ts s t = .ok ((s.go 2).done (intT (negI (peekF ts (s.at' + 1)).n)) 0) := by unfold atomF; dsimp only; rw [if_pos ⟨hk, hst, hk2, hti⟩]
 rw [hr]
 clear hr
 have hf := h.few
 have hwr : IntKind.i64.wrap ((s.at' : Int) + 2) = (s.at' : Int) + 2 := IntWalk.i64_in _ (by omega)
 have hwn : IntKind.i64.wrap (-(peekF ts (s.at' + 1)).n) = negI (peekF ts (s.at' + 1)).n := neg_wrap _ hn0 hn1
 have HA := Lib.hid h
 have HR := Lib.hid hrow
 clear h hrow
 obtain ⟨R, hR⟩ : ∃ R : Ending → World → Prop, R = fun e u' => Fr (RW rb v) u u' ∧ PrimOut u' rb v ts s B l (.ok ((s.go 2).done (intT (negI (peekF ts (s.at' + 1)).n)) 0)) e := ⟨_, rfl⟩
 rw [← hR]
 have HRR := Lib.hid hR
 clear hR
 obtain ⟨p1, hp1⟩ : ∃ p, p = peekF ts (s.at' + 1) := ⟨_, rfl⟩
 have HPE := Lib.hid hp1
 rw [← hp1] at hk2 hti hn0 hn1 hwn HRR
 clear hp1
 obtain ⟨k, ln, n, st, op, ti⟩ := t
 obtain ⟨k2, ln2, n2, st2, op2, ti2⟩ := p1
 simp only at hk hst hk2 hti hn0 hn1 hwn HRR
 subst hk hst hk2 hti
 have ha : Below u.heap.size u (u.alloc (.cells #[.int .i64 1, .int .i64 ln, .int .i64 n, .string ⟨#[45]⟩, .bool op, .bool ti] 107)) := (Below.refl _ _).alloc (Nat.le_refl _) _
 have HW := Lib.hid ha
 have HA0 := Lib.hid (HA.out.later ha)
 clear ha
 simp only [tokW]
 go_enter Tryz.func53, Tryz.ntmps53
 go_wp2_with fail
 refine (peek_any _ rb v ts s B HA0.out 1 (by omega)).mono ?_
 rintro e w1 ⟨rfl, hb1⟩
 rw [← HPE.out]
 simp only [tokW]
 have HB1 := Lib.hid (below_call' HW.out hb1)
 obtain ⟨n0, n1, n2', n3, n4, n5, nf⟩ := six_at (w1 := w1) (b := u.heap.size) ((hb1.block u.heap.size (by simp)).trans (heap_alloc_new u _))
 have HA1 := HA.out.later HB1.out
 have c1 : w1.cell? ⟨rb, 1, none⟩ = some (.int .i64 (s.at' : Int)) := HA1.blk.cell (i := 1) rfl
 have cf := HA1.blk.free
 have hrl := HA1.blk.lt
 have hul : u.heap.size < w1.heap.size := World.block_lt_of_cell? w1 _ n0
 have hgo : RdAt (w1.setCell ⟨rb, 1, none⟩ (.int .i64 ((s.at' : Int) + 2))) rb v ts (s.go 2) B := HA1.put (v' := v) (s' := s.go 2) 1 _ (by simp [rdCells, RdS.go]) rfl rfl (by show s.at' + 2 ≤ _; omega)
 have hF : Fr (· = rb) u (w1.setCell ⟨rb, 1, none⟩ (.int .i64 ((s.at' : Int) + 2))) := (Fr.of_below (· = rb) HB1.out).setCell (p := ⟨rb, 1, none⟩) (.inl rfl) _
 have HG := Lib.hid hgo
 have HF := Lib.hid hF
 clear hb1 hgo hF HA1
 go_wp2_with fail
 refine (done_any _ rb v ts _ B (HG.out.later ((Below.refl _ _).alloc (Nat.le_refl _) _)) ⟨2, negI n2, [], none, 0, 0⟩ (intT (negI n2)) 0).mono ?_
 rintro e w2 ⟨rfl, r1, r2⟩
 have R1 := Lib.hid r1
 have R2 := Lib.hid ((HF.out.alloc _).trans r2)
 clear r1 r2
 go_wp2_with fail
 refine bodyPost_end (v := .tuple #[]) (by simp [results, Tryz.results53, go_sem]) rfl ?_
 rw [HRR.out]
 exact ⟨R2.out.weak fun _ hk => .inl hk, rfl, _, R1.out, rfl, rfl, rfl, rfl, rfl, rfl, rfl, .inr ⟨rfl, rfl, WRow.fr HR.out R2.out, 2, negI n2, [], rfl, rfl⟩⟩
set_option maxHeartbeats 8000000 in
theorem atom_pos (u : World) (rb : Nat) (v : RdV) (ts : List Tok) (s : RdS) (B : Nat) (h : RdAt u rb v ts s B) (l : List FrV) (hrow : WRow u rb v.wv l) (hl : l.length ≤ 100000) (t : Tok) (bt bm : Nat) (es : List (OpK × OpV)) (ho : OpsAt u rb v bt bm es)
    (hat : s.at' < ts.length) (hsh : t.s.length ≤ 1000000) (hsh2 : (peekF ts (s.at' + 1)).s.length ≤ 1000000)
    (hno : ¬ (t.kind = 1 ∧ t.s = [45] ∧ (peekF ts (s.at' + 1)).kind = 3 ∧ (peekF ts (s.at' + 1)).tight = true)) :
    Calls Tryz.prog 53 #[.pointer (some ⟨rb, 0, none⟩), tokW t] u fun e u' => Fr (RW rb v) u u' ∧ PrimOut u' rb v ts s B l (atomF (opsOf es) ts s t) e := by
 have hr : atomF (opsOf es) ts s t = (if t.opn then argsF ts (s.go 1) t.s
     else if 0 < ((opsOf es).pre t.s).1 ∧ ((opsOf es).pre t.s).1 ≤ s.most ∧ beginsF (opsOf es) (peekF ts (s.at' + 1)) = true then .ok ((s.go 1).await ⟨5, 0, t.s, ((opsOf es).pre t.s).1, []⟩ ((opsOf es).pre t.s).2)
     else .ok ((s.go 1).done (atomT t.s) 0)) := by unfold atomF; dsimp only; rw [if_neg hno]
 obtain ⟨r, hrr⟩ : ∃ r, r = atomF (opsOf es) ts s t := ⟨_, rfl⟩
 rw [← hrr] at hr ⊢
 clear hrr
 have hf := h.few
 have hwr : IntKind.i64.wrap ((s.at' : Int) + 1) = (s.at' : Int) + 1 := IntWalk.i64_in _ (by omega)
 have HA := Lib.hid h
 have HR := Lib.hid hrow
 have HO := Lib.hid ho
 have HX := Lib.hid hr
 have hob := ho.ob
 clear h hrow ho hr
 obtain ⟨R, hR⟩ : ∃ R : Ending → World → Prop, R = fun e u' => Fr (RW rb v) u u' ∧ PrimOut u' rb v ts s B l r e := ⟨_, rfl⟩
 rw [← hR]
 have HRR := Lib.hid hR
 clear hR
 obtain ⟨p1, hp1⟩ : ∃ p, p = peekF ts (s.at' + 1) := ⟨_, rfl⟩
 have HPE := Lib.hid hp1
 rw [← hp1] at hno HX hsh2
 clear hp1
 obtain ⟨k, ln, n, st, op, ti⟩ := t
 obtain ⟨k2, ln2, n2, st2, op2, ti2⟩ := p1
 simp only at hno HX hsh hsh2
 have ha : Below u.heap.size u (u.alloc (.cells #[.int .i64 k, .int .i64 ln, .int .i64 n, .string ⟨st.toArray⟩, .bool op, .bool ti] 107)) := (Below.refl _ _).alloc (Nat.le_refl _) _
 have HW := Lib.hid ha
 have HA0 := Lib.hid (HA.out.later ha)
 clear ha
 simp only [tokW]
 go_enter Tryz.func53, Tryz.ntmps53
 go_wp2_with fail
 refine (peek_any _ rb v ts s B HA0.out 1 (by omega)).mono ?_
 rintro e w1 ⟨rfl, hb1⟩
 rw [← HPE.out]
 simp only [tokW]
 have HB1 := Lib.hid (below_call' HW.out hb1)
 have hnew := (hb1.block u.heap.size (by simp)).trans (heap_alloc_new u _)
 obtain ⟨W, hW⟩ : ∃ W, W = w1.alloc (.cells #[.int .i64 k2, .int .i64 ln2, .int .i64 n2, .string ⟨st2.toArray⟩, .bool op2, .bool ti2] 107) := ⟨_, rfl⟩
 have hbW : Below u.heap.size u W := by rw [hW]; exact HB1.out.alloc HB1.out.size _
 have hul : u.heap.size < w1.heap.size := (Array.getElem?_eq_some_iff.1 hnew).1
 have hnW : W.heap[u.heap.size]? = some (.cells #[.int .i64 k, .int .i64 ln, .int .i64 n, .string ⟨st.toArray⟩, .bool op, .bool ti] 107 (0, 0)) := by rw [hW]; exact (Below.heap_alloc _ _ _ hul).trans hnew
 have hmW : W.heap[w1.heap.size]? = some (.cells #[.int .i64 k2, .int .i64 ln2, .int .i64 n2, .string ⟨st2.toArray⟩, .bool op2, .bool ti2] 107 (0, 0)) := by rw [hW]; exact heap_alloc_new w1 _
 have HNW := Lib.hid hnW
 have HMW := Lib.hid hmW
 have HBW := Lib.hid hbW
 clear hbW hb1 hnew hnW hmW
 go_upto_region 2 with fail
 rw [← hW]
 clear hW
 go_cut [1, 25] (fun _ c wx => c = .bool false ∧ W = wx)
 case first =>
  obtain ⟨n0, n1, n2', n3, n4, n5, nf⟩ := six_at HNW.out
  obtain ⟨m0, m1, m2', m3, m4, m5, mf⟩ := six_at HMW.out
  clear HX
  go_wp2_with fail
  all_goals
   go_meet
   first
    | exact ⟨rfl, rfl⟩
    | exact ⟨congrArg Value.bool (by cases ti2 <;> simp_all), rfl⟩
 case rest =>
  obtain ⟨rfl, rfl⟩ := hcut
  obtain ⟨n0, n1, n2', n3, n4, n5, nf⟩ := six_at HNW.out
  have HAW := HA.out.later HBW.out
  have c1 : W.cell? ⟨rb, 1, none⟩ = some (.int .i64 (s.at' : Int)) := HAW.blk.cell (i := 1) rfl
  have cf := HAW.blk.free
  have hrl := HAW.blk.lt
  have hur : u.heap.size ≠ rb := by have := HA.out.blk.lt; omega
  obtain ⟨W5, hW5⟩ : ∃ W5, W5 = W.setCell ⟨rb, 1, none⟩ (.int .i64 ((s.at' : Int) + 1)) := ⟨_, rfl⟩
  have hgo : RdAt W5 rb v ts (s.go 1) B := by rw [hW5]; exact HAW.put (v' := v) (s' := s.go 1) 1 _ (by simp [rdCells, RdS.go]) rfl rfl (by show s.at' + 1 ≤ _; omega)
  have hF : Fr (· = rb) u W5 := by rw [hW5]; exact (Fr.of_below (· = rb) HBW.out).setCell (p := ⟨rb, 1, none⟩) (.inl rfl) _
  have hN5 : W5.heap[u.heap.size]? = some (.cells #[.int .i64 k, .int .i64 ln, .int .i64 n, .string ⟨st.toArray⟩, .bool op, .bool ti] 107 (0, 0)) := by rw [hW5]; exact (Below.heap_setCell _ _ _ _ (by simp only; omega)).trans HNW.out
  have HO5 : Hid (OpsAt W5 rb v bt bm es) := Lib.hid (HO.out.fr hF fun k hk => by omega)
  have HG := Lib.hid hgo
  have HF := Lib.hid hF
  have HRW := Lib.hid (WRow.fr HR.out hF)
  have HN5 := Lib.hid hN5
  clear hgo hF hN5 HAW
  cases op with
  | true =>
   simp only [if_true] at HX
   go_wp2_with fail
   rw [← hW5]
   refine (arguments_any _ rb v ts _ B HG.out l HRW.out hl st).mono ?_
   rintro e w2 ⟨hF2, h2⟩
   have HF2 := Lib.hid ((HF.out.weak fun _ hk => .inl hk : Fr (RW rb v) u W5).trans hF2)
   rw [show (s.go 1).at' = s.at' + 1 from rfl] at h2
   clear hF2
   cases hp : isP ts (s.at' + 1) 40 with
   | true =>
    rw [hp, if_pos rfl] at h2
    have hr2 : argsF ts (s.go 1) st = .ok (((s.go 1).go 1).await ⟨2, 0, st, 0, []⟩ 999) := by unfold argsF RdS.expect; rw [show (s.go 1).at' = s.at' + 1 from rfl, hp]; rfl
    have HX2 := Lib.hid (HX.out.trans hr2)
    obtain ⟨rfl, wv', h3, h4⟩ := h2
    have H3 := Lib.hid h3
    have H4 := Lib.hid h4
    clear h3 h4 hr2
    go_wp2_with fail
    refine bodyPost_end (v := .tuple #[]) (by simp [results, Tryz.results53, go_sem]) rfl ?_
    rw [HRR.out, HX2.out]
    exact ⟨HF2.out, rfl, { v with wv := wv' }, H3.out, rfl, rfl, rfl, rfl, rfl, rfl, rfl, .inl ⟨rfl, rfl, _, rfl, rfl, H4.out⟩⟩
   | false =>
    rw [hp, if_neg (by simp)] at h2
    have hr2 : argsF ts (s.go 1) st = .error (s.at' + 1) := by unfold argsF RdS.expect; rw [show (s.go 1).at' = s.at' + 1 from rfl, hp]; rfl
    have HX2 := Lib.hid (HX.out.trans hr2)
    obtain ⟨rfl, h3⟩ := h2
    refine ⟨rfl, ?_⟩
    rw [HRR.out, HX2.out]
    exact ⟨HF2.out, rfl, s.go 1, rfl, h3⟩
  | false =>
   simp only [Bool.false_eq_true, if_false] at HX
   have hs5 : W5.cell? ⟨rb, 2, none⟩ = some (.pointer (some ⟨bt, 0, none⟩)) ∧ W5.cell? ⟨u.heap.size, 3, none⟩ = some (.string ⟨st.toArray⟩) :=
    ⟨(HG.out.blk.cell (i := 2) rfl).trans (congrArg some hob), (six_at HN5.out).2.2.2.1⟩
   have HS5 := Lib.hid hs5
   have HST : Hid (OkName st) := Lib.hid (by unfold OkName; exact Nat.le_of_succ_le (short_max hsh))
   clear hs5
   obtain ⟨P1, hP1⟩ : ∃ P, P = (tsides es 1 st).1 := ⟨_, rfl⟩
   obtain ⟨P2, hP2⟩ : ∃ P, P = (tsides es 1 st).2.2 := ⟨_, rfl⟩
   rw [show (opsOf es).pre st = (P1, P2) by rw [hP1, hP2]; rfl] at HX
   simp only at HX
   have HP := Lib.hid (And.intro hP1 hP2)
   clear hP1 hP2
   go_upto_region 8 with fail
   rw [← hW5]
   clear hW5 c1 cf n0 n1 n2' n3 n4 n5 nf
   go_region_held3 (fun u' => u'.cell? ⟨rb, 2, none⟩ = some (.pointer (some ⟨bt, 0, none⟩)) ∧ u'.cell? ⟨u.heap.size, 3, none⟩ = some (.string ⟨st.toArray⟩))
    (first | (with_reducible exact HS5.out) | (with_reducible exact bg_drew HS5.out) | (with_reducible exact bg_later (bg_drew HS5.out) hb2) | (with_reducible exact bg_drew (bg_later (bg_drew HS5.out) hb2)))
    (first | (go_at_call 96; refine (prefix_any _ bt bm es (HO5.out.later (Below.refl _ _).drew).tab (HO5.out.later (Below.refl _ _).drew).kinds st HST.out).mono ?_; rintro e w2 ⟨rfl, hb2⟩; rw [← HP.out.1, ← HP.out.2]))
   have hb5 := below_call' (Below.refl _ _).drew hb2
   have HA2 := Lib.hid (HG.out.later hb5)
   have HO2 := Lib.hid (HO5.out.later hb5)
   have HF2 := Lib.hid (HF.out.step hb5)
   have hN2 : w2.heap[u.heap.size]? = some (.cells #[.int .i64 k, .int .i64 ln, .int .i64 n, .string ⟨st.toArray⟩, .bool false, .bool ti] 107 (0, 0)) := (hb5.block u.heap.size (Array.getElem?_eq_some_iff.1 HN5.out).1).trans HN5.out
   have HN2 := Lib.hid hN2
   clear hb2 hb5 hN2
   have HPX := Lib.hid HPE.out
   by_cases hC : 0 < P1 ∧ P1 ≤ s.most ∧ beginsF (opsOf es) ⟨k2, ln2, n2, st2, op2, ti2⟩ = true
   ·rw [if_pos hC] at HX
    obtain ⟨hC1, hC2, hC3⟩ := hC
    have HC3 := Lib.hid hC3
    have c5 : w2.cell? ⟨rb, 5, none⟩ = some (.int .i64 s.most) := HA2.out.blk.cell (i := 5) rfl
    clear hC3
    go_wp2_with fail
    refine (begins_any _ rb v ts (s.go 1) B HA2.out bt bm es HO2.out (by rw [show (s.go 1).at' = s.at' + 1 from rfl, ← HPX.out]; exact hsh2)).mono ?_
    rintro e w3 ⟨rfl, hb3⟩
    rw [show (s.go 1).at' = s.at' + 1 from rfl, ← HPX.out, HC3.out]
    have HA3 := Lib.hid (HA2.out.later hb3)
    have HF3 := Lib.hid (HF2.out.step hb3)
    obtain ⟨n0, n1, n2', n3, n4, n5, nf⟩ := six_at ((hb3.block u.heap.size (Array.getElem?_eq_some_iff.1 HN2.out).1).trans HN2.out)
    have HRW3 := Lib.hid (WRow.fr HR.out HF3.out)
    clear hb3 c5
    go_wp2_with fail
    refine (await_any _ rb v ts (s.go 1) B HA3.out l HRW3.out hl ⟨5, 0, st, P1, none, 0, 0⟩ P2 ⟨5, 0, st, P1, []⟩).mono ?_
    rintro e w4 ⟨rfl, wv', r1, r2, r3⟩
    have R1 := Lib.hid r1
    have R2 := Lib.hid r2
    have R3 := Lib.hid r3
    clear r1 r2 r3
    go_wp2_with fail
    refine bodyPost_end (v := .tuple #[]) (by simp [results, Tryz.results53, go_sem]) rfl ?_
    rw [HRR.out, HX.out]
    exact ⟨(HF3.out.weak fun _ hk => .inl hk : Fr (RW rb v) u w3).trans R3.out, rfl, { v with wv := wv' }, R1.out, rfl, rfl, rfl, rfl, rfl, rfl, rfl, .inl ⟨rfl, rfl, _, rfl, rfl, R2.out⟩⟩
   ·rw [if_neg hC] at HX
    go_upto_region 9 with fail
    go_cut [75] (fun c wx => c = .bool false ∧ Hid (Below w2.heap.size w2 wx))
    case first =>
     by_cases c1 : 0 < P1
     ·by_cases c2 : P1 ≤ s.most
      ·have hC3 : beginsF (opsOf es) ⟨k2, ln2, n2, st2, op2, ti2⟩ = false := by
        cases hb : beginsF (opsOf es) ⟨k2, ln2, n2, st2, op2, ti2⟩ with
        | true => exact absurd ⟨c1, c2, hb⟩ hC
        | false => rfl
       have HC3 := Lib.hid hC3
       have c5 : w2.cell? ⟨rb, 5, none⟩ = some (.int .i64 s.most) := HA2.out.blk.cell (i := 5) rfl
       clear hC3 hC
       go_wp2_with fail
       refine (begins_any _ rb v ts (s.go 1) B HA2.out bt bm es HO2.out (by rw [show (s.go 1).at' = s.at' + 1 from rfl, ← HPX.out]; exact hsh2)).mono ?_
       rintro e w3 ⟨rfl, hb3⟩
       rw [show (s.go 1).at' = s.at' + 1 from rfl, ← HPX.out, HC3.out]
       have HB3 := Lib.hid hb3
       clear hb3
       go_wp2_with fail
       go_meet
       exact ⟨rfl, HB3⟩
      ·have c5 : w2.cell? ⟨rb, 5, none⟩ = some (.int .i64 s.most) := HA2.out.blk.cell (i := 5) rfl
       clear hC
       go_wp2_with fail
       go_meet
       exact ⟨rfl, Lib.hid (Below.refl _ _)⟩
     ·clear hC
      go_wp2_with fail
      go_meet
      exact ⟨rfl, Lib.hid (Below.refl _ _)⟩
    case rest =>
     obtain ⟨rfl, hb3⟩ := hcut
     have HA3 := Lib.hid (HA2.out.later hb3.out)
     have HF3 := Lib.hid (HF2.out.step hb3.out)
     obtain ⟨n0, n1, n2', n3, n4, n5, nf⟩ := six_at ((hb3.out.block u.heap.size (Array.getElem?_eq_some_iff.1 HN2.out).1).trans HN2.out)
     clear hC
     go_wp2_with fail
     refine (done_any _ rb v ts (s.go 1) B HA3.out ⟨3, 0, st, none, 0, 0⟩ (atomT st) 0).mono ?_
     rintro e w4 ⟨rfl, r1, r2⟩
     have R1 := Lib.hid r1
     have R2 := Lib.hid (HF3.out.trans r2)
     clear r1 r2
     go_wp2_with fail
     refine bodyPost_end (v := .tuple #[]) (by simp [results, Tryz.results53, go_sem]) rfl ?_
     rw [HRR.out, HX.out]
     exact ⟨R2.out.weak fun _ hk => .inl hk, rfl, _, R1.out, rfl, rfl, rfl, rfl, rfl, rfl, rfl, .inr ⟨rfl, rfl, WRow.fr HR.out R2.out, 3, 0, st, rfl, rfl⟩⟩
end Go.Proofs.YtcallkljcjimiaaGreatDoor
