import Derived.Test.YtiffopheamnngaaGreatDoorJT15
namespace Go.Proofs.YtiffopheamnngaaGreatDoor
open Go.RowKit Go.Maps
set_option maxRecDepth 100000
def PriOk (L : List DefT) : Prop := ∀ n s, 0 ≤ (rfind L n s).1 ∧ (rfind L n s).1 ≤ 1200
theorem Agree.priOk {es : List (OpK × OpV)} {L : List DefT} (h : Agree es L) : PriOk L := fun n s => by
 rcases h.get n s with ⟨_, e⟩ | ⟨p, t, _, e, _, _, _, h3, h4⟩
 ·rw [e]; simp
 ·rw [e]; simp only; omega
theorem def_pri (a b : Int) (c : ByteArray) (w : World) : (Instr.field 56 (.agg #[.int .i64 a, .int .i64 b, .string c]) 0).run Tryz.prog w = .ok (.int .i64 a) w := by kernel_rfl
theorem enc_lit (d : DefT) : (encDef d).toArray = #[.int .i64 d.1, .int .i64 d.2.1, .string ⟨d.2.2.toArray⟩] := rfl
set_option maxHeartbeats 2000000 in
theorem rPrefix_any (w : World) (rt : Nat) (L : List DefT) (h : RTab w rt L) (n : List UInt8) (hL : L.length ≤ 100000) (hp : PriOk L) :
    Calls Tryz.prog 108 #[.pointer (some ⟨rt, 0, none⟩), .string ⟨n.toArray⟩] w fun e w' => e = .returned (.tuple #[.int .i64 (rPre L n).1, .int .i64 (rPre L n).2]) ∧ Below w.heap.size w w' := by
 have HF := Lib.hid (find_any w rt L h n 1 hL)
 obtain ⟨p1, p2⟩ := hp n 1
 unfold rPre
 generalize rfind L n 1 = d at *
 obtain ⟨x1, x2, x3⟩ := d
 simp only at p1 p2
 clear h hp
 by_cases e4 : x2 = 4
 case' pos => subst e4
 all_goals
  go_enter Tryz.func108, Tryz.ntmps108
  go_wp2_with fail
  refine HF.out.mono ?_
  rintro e w1 ⟨rfl, hb1⟩
  rw [enc_lit]
  have HB := Lib.hid hb1
  clear hb1
  go_wp2_with fail
  go_quiet (fail)
  go_wp2
  go_ret2
 ·exact ⟨by simp, below_drewN (HB.out.alloc HB.out.size _) _⟩
 ·exact ⟨by simp, below_drewN (HB.out.alloc HB.out.size _) _⟩
set_option maxHeartbeats 2000000 in
theorem rPostfix_any (w : World) (rt : Nat) (L : List DefT) (h : RTab w rt L) (n : List UInt8) (hL : L.length ≤ 100000) (hp : PriOk L) :
    Calls Tryz.prog 68 #[.pointer (some ⟨rt, 0, none⟩), .string ⟨n.toArray⟩] w fun e w' => e = .returned (.tuple #[.int .i64 (rPost L n).1, .int .i64 (rPost L n).2]) ∧ Below w.heap.size w w' := by
 have HF := Lib.hid (find_any w rt L h n 3 hL)
 obtain ⟨p1, p2⟩ := hp n 3
 unfold rPost
 generalize rfind L n 3 = d at *
 obtain ⟨x1, x2, x3⟩ := d
 simp only at p1 p2
 clear h hp
 by_cases e4 : x2 = 6
 case' pos => subst e4
 all_goals
  go_enter Tryz.func68, Tryz.ntmps68
  go_wp2_with fail
  refine HF.out.mono ?_
  rintro e w1 ⟨rfl, hb1⟩
  rw [enc_lit]
  have HB := Lib.hid hb1
  clear hb1
  go_wp2_with fail
  go_quiet (fail)
  go_wp2
  go_ret2
 ·exact ⟨by simp, below_drewN (HB.out.alloc HB.out.size _) _⟩
 ·exact ⟨by simp, below_drewN (HB.out.alloc HB.out.size _) _⟩
def rInOf (d : DefT) : Int × Int × Int := (d.1, if d.2.1 = 1 ∨ d.2.1 = 2 then d.1 - 1 else d.1, if d.2.1 = 1 ∨ d.2.1 = 3 then d.1 - 1 else d.1)
set_option maxHeartbeats 4000000 in
theorem rInfix_any (w : World) (rt : Nat) (L : List DefT) (h : RTab w rt L) (n : List UInt8) (hL : L.length ≤ 100000) (hp : PriOk L) :
    Calls Tryz.prog 67 #[.pointer (some ⟨rt, 0, none⟩), .string ⟨n.toArray⟩] w fun e w' => e = .returned (.tuple #[.int .i64 (rIn L n).1, .int .i64 (rIn L n).2.1, .int .i64 (rIn L n).2.2]) ∧ Below w.heap.size w w' := by
 have HF := Lib.hid (find_any w rt L h n 2 hL)
 obtain ⟨p1, p2⟩ := hp n 2
 rw [show rIn L n = rInOf (rfind L n 2) from rfl]
 generalize rfind L n 2 = d at *
 obtain ⟨x1, x2, x3⟩ := d
 simp only at p1 p2
 clear h hp
 rcases (show x2 = 1 ∨ x2 = 2 ∨ x2 = 3 ∨ (x2 ≠ 1 ∧ x2 ≠ 2 ∧ x2 ≠ 3) by omega) with rfl | rfl | rfl | ⟨e1, e2, e3⟩
 ·rw [show rInOf (x1, 1, x3) = (x1, x1 - 1, x1 - 1) from by simp [rInOf]]
  go_enter Tryz.func67, Tryz.ntmps67
  go_wp2_with fail
  refine HF.out.mono ?_
  rintro e w1 ⟨rfl, hb1⟩
  rw [enc_lit]
  have HB := Lib.hid hb1
  clear hb1
  go_wp2_with fail
  go_quiet (fail)
  go_wp2
  go_ret3
  exact ⟨rfl, below_drewN (HB.out.alloc HB.out.size _) _⟩
 ·rw [show rInOf (x1, 2, x3) = (x1, x1 - 1, x1) from by simp [rInOf]]
  go_enter Tryz.func67, Tryz.ntmps67
  go_wp2_with fail
  refine HF.out.mono ?_
  rintro e w1 ⟨rfl, hb1⟩
  rw [enc_lit]
  have HB := Lib.hid hb1
  clear hb1
  go_wp2_with fail
  go_quiet (fail)
  go_wp2
  go_ret3
  exact ⟨rfl, below_drewN (HB.out.alloc HB.out.size _) _⟩
 ·rw [show rInOf (x1, 3, x3) = (x1, x1, x1 - 1) from by simp [rInOf]]
  go_enter Tryz.func67, Tryz.ntmps67
  go_wp2_with fail
  refine HF.out.mono ?_
  rintro e w1 ⟨rfl, hb1⟩
  rw [enc_lit]
  have HB := Lib.hid hb1
  clear hb1
  go_wp2_with fail
  go_quiet (fail)
  go_wp2
  go_ret3
  exact ⟨rfl, below_drewN (HB.out.alloc HB.out.size _) _⟩
 ·rw [show rInOf (x1, x2, x3) = (x1, x1, x1) from by simp [rInOf, e1, e2, e3]]
  have b1 : (x2 == 1) = false := by simpa using e1
  have b2 : (x2 == 2) = false := by simpa using e2
  have b3 : (x2 == 3) = false := by simpa using e3
  clear e1 e2 e3
  go_enter Tryz.func67, Tryz.ntmps67
  go_wp2_with fail
  refine HF.out.mono ?_
  rintro e w1 ⟨rfl, hb1⟩
  rw [enc_lit]
  have HB := Lib.hid hb1
  clear hb1
  go_wp2_with fail
  go_quiet (fail)
  go_wp2
  go_ret3
  exact ⟨rfl, below_drewN (HB.out.alloc HB.out.size _) _⟩
section
variable {E : RqE} {u u' : World} {nv : Value} {q : QS} {bad : Bool}
theorem RqAt.preC (h : RqAt E u nv q bad) (n : List UInt8) : Calls Tryz.prog 108 #[.pointer (some ⟨E.rt, 0, none⟩), .string ⟨n.toArray⟩] u fun e w' => e = .returned (.tuple #[.int .i64 ((opsQ E.es).pre n).1, .int .i64 ((opsQ E.es).pre n).2]) ∧ Below u.heap.size u w' := by
 have h1 := rPrefix_any u E.rt E.L h.tab.tab n (by have := h.fewL; omega) h.agree.priOk
 rwa [h.agree.pre] at h1
theorem RqAt.infC (h : RqAt E u nv q bad) (n : List UInt8) : Calls Tryz.prog 67 #[.pointer (some ⟨E.rt, 0, none⟩), .string ⟨n.toArray⟩] u fun e w' => e = .returned (.tuple #[.int .i64 ((opsQ E.es).inf n).1, .int .i64 ((opsQ E.es).inf n).2.1, .int .i64 ((opsQ E.es).inf n).2.2]) ∧ Below u.heap.size u w' := by
 have h1 := rInfix_any u E.rt E.L h.tab.tab n (by have := h.fewL; omega) h.agree.priOk
 rwa [h.agree.inf] at h1
theorem RqAt.postC (h : RqAt E u nv q bad) (n : List UInt8) : Calls Tryz.prog 68 #[.pointer (some ⟨E.rt, 0, none⟩), .string ⟨n.toArray⟩] u fun e w' => e = .returned (.tuple #[.int .i64 ((opsQ E.es).post n).1, .int .i64 ((opsQ E.es).post n).2]) ∧ Below u.heap.size u w' := by
 have h1 := rPostfix_any u E.rt E.L h.tab.tab n (by have := h.fewL; omega) h.agree.priOk
 rwa [h.agree.post] at h1
end
theorem bq_drew {u : World} {p q : Addr} {x y : Option Value} (h : u.cell? p = x ∧ u.cell? q = y) : u.drew.cell? p = x ∧ u.drew.cell? q = y := h
theorem bq_later {u u' : World} {p q : Addr} {x y : Value} (h : u.cell? p = some x ∧ u.cell? q = some y) (hb : Below u.heap.size u u') : u'.cell? p = some x ∧ u'.cell? q = some y :=
 ⟨(hb.cell (World.block_lt_of_cell? u _ h.1)).trans h.1, (hb.cell (World.block_lt_of_cell? u _ h.2)).trans h.2⟩
theorem RqAt.drew {E : RqE} {u : World} {nv : Value} {q : QS} {bad : Bool} (h : RqAt E u nv q bad) : RqAt E u.drew nv q bad := h.later (Below.refl _ _).drew
set_option maxHeartbeats 8000000 in
theorem beginsQ_op1 {E : RqE} {u : World} {nv : Value} {q : QS} {bad : Bool} (h : RqAt E u nv q bad) (t : Tok) (hk : t.kind = 1) (hop : t.opn = false) :
    Calls Tryz.prog 109 #[.pointer (some ⟨E.rb, 0, none⟩), tokW t] u fun e u' => e = .returned (.bool (beginsF (opsQ E.es) t)) ∧ Below u.heap.size u u' := by
 obtain ⟨r, hr⟩ : ∃ r, r = beginsF (opsQ E.es) t := ⟨_, rfl⟩
 have hr2 : r = decide ((((opsQ E.es).inf t.s).1 = 0 ∧ ((opsQ E.es).post t.s).1 = 0) ∨ 0 < ((opsQ E.es).pre t.s).1) := by
  rw [hr]
  unfold beginsF
  rw [if_neg (by omega), if_neg (by omega), if_pos (by omega), hop]
  rfl
 rw [← hr]
 have HA := Lib.hid h
 have HQ := Lib.hid hr2
 clear h hr hr2
 obtain ⟨k, ln, n, st, op, ti⟩ := t
 simp only at hk hop HQ
 subst hop hk
 simp only [tokW]
 obtain ⟨W, hW⟩ : ∃ W, W = u.alloc (.cells #[.int .i64 1, .int .i64 ln, .int .i64 n, .string ⟨st.toArray⟩, .bool false, .bool ti] 48) := ⟨_, rfl⟩
 obtain ⟨bk, hbk⟩ : ∃ b, b = u.heap.size := ⟨_, rfl⟩
 have hbW : Below u.heap.size u W := by rw [hW]; exact (Below.refl _ _).alloc (Nat.le_refl _) _
 have hnew : W.heap[bk]? = some (.cells #[.int .i64 1, .int .i64 ln, .int .i64 n, .string ⟨st.toArray⟩, .bool false, .bool ti] 48 (0, 0)) := by rw [hW, hbk]; exact heap_alloc_new _ _
 have HO1 := Lib.hid (HA.out.later hbW)
 obtain ⟨n0, n1, n2, n3, n4, n5, nf⟩ := six_at hnew
 obtain ⟨⟨-, -, d2, -, -, -⟩, -⟩ := HO1.out.cells
 have HS1 := Lib.hid (And.intro d2 n3)
 have HB1 := Lib.hid hbW
 have HN := Lib.hid hnew
 clear hbW hnew
 go_enter Tryz.func109, Tryz.ntmps109
 go_upto_region 1 with fail
 rw [← hW, ← hbk]
 clear hW hbk
 go_wp2_with fail
 go_region_held3 (fun u => u.cell? ⟨E.rb, 2, none⟩ = some (.pointer (some ⟨E.rt, 0, none⟩)) ∧ u.cell? ⟨bk, 3, none⟩ = some (.string ⟨st.toArray⟩))
  (first | (with_reducible exact HS1.out) | (with_reducible exact bq_drew HS1.out) | (with_reducible exact bq_later (bq_drew HS1.out) hb1) | (with_reducible exact bq_drew (bq_later (bq_drew HS1.out) hb1)))
  (first | (go_at_call 108; refine (HO1.out.drew.preC st).mono ?_; rintro e w2 ⟨rfl, hb1⟩))
 have HS2 := Lib.hid (bq_later (bq_drew HS1.out) hb1)
 have HBB := Lib.hid (below_call' (Below.refl _ _).drew hb1 : Below W.heap.size W w2)
 have HO2 := Lib.hid (HO1.out.drew.later hb1)
 have HB2 := Lib.hid (below_call' (HB1.out.drew) hb1)
 clear hb1
 go_wp2_with fail
 go_region_held3 (fun u => u.cell? ⟨E.rb, 2, none⟩ = some (.pointer (some ⟨E.rt, 0, none⟩)) ∧ u.cell? ⟨bk, 3, none⟩ = some (.string ⟨st.toArray⟩))
  (first | (with_reducible exact HS2.out) | (with_reducible exact bq_drew HS2.out) | (with_reducible exact bq_later (bq_drew HS2.out) hb2) | (with_reducible exact bq_drew (bq_later (bq_drew HS2.out) hb2)))
  (first | (go_at_call 67; refine (HO2.out.drew.infC st).mono ?_; rintro e w3 ⟨rfl, hb2⟩))
 have HS3 := Lib.hid (bq_later (bq_drew HS2.out) hb2)
 replace HBB := Lib.hid (HBB.out.drew.trans (hb2.mono (by have := HBB.out.size; simpa using this)) : Below W.heap.size W w3)
 have HO3 := Lib.hid (HO2.out.drew.later hb2)
 have HB3 := Lib.hid (below_call' (HB2.out.drew) hb2)
 clear hb2
 go_wp2_with fail
 go_region_held3 (fun u => u.cell? ⟨E.rb, 2, none⟩ = some (.pointer (some ⟨E.rt, 0, none⟩)) ∧ u.cell? ⟨bk, 3, none⟩ = some (.string ⟨st.toArray⟩))
  (first | (with_reducible exact HS3.out) | (with_reducible exact bq_drew HS3.out) | (with_reducible exact bq_later (bq_drew HS3.out) hb3) | (with_reducible exact bq_drew (bq_later (bq_drew HS3.out) hb3)))
  (first | (go_at_call 68; refine (HO3.out.drew.postC st).mono ?_; rintro e w4 ⟨rfl, hb3⟩))
 have HS4 := Lib.hid (bq_later (bq_drew HS3.out) hb3)
 replace HBB := Lib.hid (HBB.out.drew.trans (hb3.mono (by have := HBB.out.size; simpa using this)) : Below W.heap.size W w4)
 have HO4 := Lib.hid (HO3.out.drew.later hb3)
 have HB4 := Lib.hid (below_call' (HB3.out.drew) hb3)
 clear hb3
 have hc4 : w4.cell? ⟨bk, 4, none⟩ = some (.bool false) := by
  have hbb : Below W.heap.size W w4 := HBB.out
  exact (hbb.cell (World.block_lt_of_cell? W _ n4)).trans n4
 go_wp2_with fail
 all_goals
  go_ret
  refine ⟨congrArg (fun b => Ending.returned (Value.bool b)) ?_, HB4.out⟩
  have hq := HQ.out
  clear HQ HS1 HS2 HS3 HS4 HO1 HO2 HO3 HO4 HB1 HB2 HB3 HB4 HA HBB HN
  subst hq
  rw [Bool.eq_iff_iff]
  simp_all <;> exact Or.comm
set_option maxHeartbeats 8000000 in
theorem beginsQ_o1 {E : RqE} {u : World} {nv : Value} {q : QS} {bad : Bool} (h : RqAt E u nv q bad) (t : Tok) (hk : t.kind = 1) (hop : t.opn = true) :
    Calls Tryz.prog 109 #[.pointer (some ⟨E.rb, 0, none⟩), tokW t] u fun e u' => e = .returned (.bool (beginsF (opsQ E.es) t)) ∧ Below u.heap.size u u' := by
 obtain ⟨r, hr⟩ : ∃ r, r = beginsF (opsQ E.es) t := ⟨_, rfl⟩
 have hr2 : r = true := by
  rw [hr]
  unfold beginsF
  rw [if_neg (by omega), if_neg (by omega), if_pos (by omega), hop]
  rfl
 rw [← hr]
 have HA := Lib.hid h
 have HQ := Lib.hid hr2
 clear h hr hr2
 obtain ⟨k, ln, n, st, op, ti⟩ := t
 simp only at hk hop HQ
 subst hop hk
 simp only [tokW]
 obtain ⟨W, hW⟩ : ∃ W, W = u.alloc (.cells #[.int .i64 1, .int .i64 ln, .int .i64 n, .string ⟨st.toArray⟩, .bool true, .bool ti] 48) := ⟨_, rfl⟩
 obtain ⟨bk, hbk⟩ : ∃ b, b = u.heap.size := ⟨_, rfl⟩
 have hbW : Below u.heap.size u W := by rw [hW]; exact (Below.refl _ _).alloc (Nat.le_refl _) _
 have hnew : W.heap[bk]? = some (.cells #[.int .i64 1, .int .i64 ln, .int .i64 n, .string ⟨st.toArray⟩, .bool true, .bool ti] 48 (0, 0)) := by rw [hW, hbk]; exact heap_alloc_new _ _
 have HO1 := Lib.hid (HA.out.later hbW)
 obtain ⟨n0, n1, n2, n3, n4, n5, nf⟩ := six_at hnew
 obtain ⟨⟨-, -, d2, -, -, -⟩, -⟩ := HO1.out.cells
 have HS1 := Lib.hid (And.intro d2 n3)
 have HB1 := Lib.hid hbW
 have HN := Lib.hid hnew
 clear hbW hnew
 go_enter Tryz.func109, Tryz.ntmps109
 go_upto_region 1 with fail
 rw [← hW, ← hbk]
 clear hW hbk
 go_wp2_with fail
 go_region_held3 (fun u => u.cell? ⟨E.rb, 2, none⟩ = some (.pointer (some ⟨E.rt, 0, none⟩)) ∧ u.cell? ⟨bk, 3, none⟩ = some (.string ⟨st.toArray⟩))
  (first | (with_reducible exact HS1.out) | (with_reducible exact bq_drew HS1.out) | (with_reducible exact bq_later (bq_drew HS1.out) hb1) | (with_reducible exact bq_drew (bq_later (bq_drew HS1.out) hb1)))
  (first | (go_at_call 108; refine (HO1.out.drew.preC st).mono ?_; rintro e w2 ⟨rfl, hb1⟩))
 have HS2 := Lib.hid (bq_later (bq_drew HS1.out) hb1)
 have HBB := Lib.hid (below_call' (Below.refl _ _).drew hb1 : Below W.heap.size W w2)
 have HO2 := Lib.hid (HO1.out.drew.later hb1)
 have HB2 := Lib.hid (below_call' (HB1.out.drew) hb1)
 clear hb1
 go_wp2_with fail
 go_region_held3 (fun u => u.cell? ⟨E.rb, 2, none⟩ = some (.pointer (some ⟨E.rt, 0, none⟩)) ∧ u.cell? ⟨bk, 3, none⟩ = some (.string ⟨st.toArray⟩))
  (first | (with_reducible exact HS2.out) | (with_reducible exact bq_drew HS2.out) | (with_reducible exact bq_later (bq_drew HS2.out) hb2) | (with_reducible exact bq_drew (bq_later (bq_drew HS2.out) hb2)))
  (first | (go_at_call 67; refine (HO2.out.drew.infC st).mono ?_; rintro e w3 ⟨rfl, hb2⟩))
 have HS3 := Lib.hid (bq_later (bq_drew HS2.out) hb2)
 replace HBB := Lib.hid (HBB.out.drew.trans (hb2.mono (by have := HBB.out.size; simpa using this)) : Below W.heap.size W w3)
 have HO3 := Lib.hid (HO2.out.drew.later hb2)
 have HB3 := Lib.hid (below_call' (HB2.out.drew) hb2)
 clear hb2
 go_wp2_with fail
 go_region_held3 (fun u => u.cell? ⟨E.rb, 2, none⟩ = some (.pointer (some ⟨E.rt, 0, none⟩)) ∧ u.cell? ⟨bk, 3, none⟩ = some (.string ⟨st.toArray⟩))
  (first | (with_reducible exact HS3.out) | (with_reducible exact bq_drew HS3.out) | (with_reducible exact bq_later (bq_drew HS3.out) hb3) | (with_reducible exact bq_drew (bq_later (bq_drew HS3.out) hb3)))
  (first | (go_at_call 68; refine (HO3.out.drew.postC st).mono ?_; rintro e w4 ⟨rfl, hb3⟩))
 have HS4 := Lib.hid (bq_later (bq_drew HS3.out) hb3)
 replace HBB := Lib.hid (HBB.out.drew.trans (hb3.mono (by have := HBB.out.size; simpa using this)) : Below W.heap.size W w4)
 have HO4 := Lib.hid (HO3.out.drew.later hb3)
 have HB4 := Lib.hid (below_call' (HB3.out.drew) hb3)
 clear hb3
 have hc4 : w4.cell? ⟨bk, 4, none⟩ = some (.bool true) := by
  have hbb : Below W.heap.size W w4 := HBB.out
  exact (hbb.cell (World.block_lt_of_cell? W _ n4)).trans n4
 go_wp2_with fail
 all_goals
  go_ret
  refine ⟨congrArg (fun b => Ending.returned (Value.bool b)) ?_, HB4.out⟩
  have hq := HQ.out
  clear HQ HS1 HS2 HS3 HS4 HO1 HO2 HO3 HO4 HB1 HB2 HB3 HB4 HA HBB HN
  exact hq.symm
set_option maxHeartbeats 8000000 in
theorem beginsQ_op2 {E : RqE} {u : World} {nv : Value} {q : QS} {bad : Bool} (h : RqAt E u nv q bad) (t : Tok) (hk : t.kind = 2) (hop : t.opn = false) :
    Calls Tryz.prog 109 #[.pointer (some ⟨E.rb, 0, none⟩), tokW t] u fun e u' => e = .returned (.bool (beginsF (opsQ E.es) t)) ∧ Below u.heap.size u u' := by
 obtain ⟨r, hr⟩ : ∃ r, r = beginsF (opsQ E.es) t := ⟨_, rfl⟩
 have hr2 : r = decide ((((opsQ E.es).inf t.s).1 = 0 ∧ ((opsQ E.es).post t.s).1 = 0) ∨ 0 < ((opsQ E.es).pre t.s).1) := by
  rw [hr]
  unfold beginsF
  rw [if_neg (by omega), if_neg (by omega), if_pos (by omega), hop]
  rfl
 rw [← hr]
 have HA := Lib.hid h
 have HQ := Lib.hid hr2
 clear h hr hr2
 obtain ⟨k, ln, n, st, op, ti⟩ := t
 simp only at hk hop HQ
 subst hop hk
 simp only [tokW]
 obtain ⟨W, hW⟩ : ∃ W, W = u.alloc (.cells #[.int .i64 2, .int .i64 ln, .int .i64 n, .string ⟨st.toArray⟩, .bool false, .bool ti] 48) := ⟨_, rfl⟩
 obtain ⟨bk, hbk⟩ : ∃ b, b = u.heap.size := ⟨_, rfl⟩
 have hbW : Below u.heap.size u W := by rw [hW]; exact (Below.refl _ _).alloc (Nat.le_refl _) _
 have hnew : W.heap[bk]? = some (.cells #[.int .i64 2, .int .i64 ln, .int .i64 n, .string ⟨st.toArray⟩, .bool false, .bool ti] 48 (0, 0)) := by rw [hW, hbk]; exact heap_alloc_new _ _
 have HO1 := Lib.hid (HA.out.later hbW)
 obtain ⟨n0, n1, n2, n3, n4, n5, nf⟩ := six_at hnew
 obtain ⟨⟨-, -, d2, -, -, -⟩, -⟩ := HO1.out.cells
 have HS1 := Lib.hid (And.intro d2 n3)
 have HB1 := Lib.hid hbW
 have HN := Lib.hid hnew
 clear hbW hnew
 go_enter Tryz.func109, Tryz.ntmps109
 go_upto_region 1 with fail
 rw [← hW, ← hbk]
 clear hW hbk
 go_wp2_with fail
 go_region_held3 (fun u => u.cell? ⟨E.rb, 2, none⟩ = some (.pointer (some ⟨E.rt, 0, none⟩)) ∧ u.cell? ⟨bk, 3, none⟩ = some (.string ⟨st.toArray⟩))
  (first | (with_reducible exact HS1.out) | (with_reducible exact bq_drew HS1.out) | (with_reducible exact bq_later (bq_drew HS1.out) hb1) | (with_reducible exact bq_drew (bq_later (bq_drew HS1.out) hb1)))
  (first | (go_at_call 108; refine (HO1.out.drew.preC st).mono ?_; rintro e w2 ⟨rfl, hb1⟩))
 have HS2 := Lib.hid (bq_later (bq_drew HS1.out) hb1)
 have HBB := Lib.hid (below_call' (Below.refl _ _).drew hb1 : Below W.heap.size W w2)
 have HO2 := Lib.hid (HO1.out.drew.later hb1)
 have HB2 := Lib.hid (below_call' (HB1.out.drew) hb1)
 clear hb1
 go_wp2_with fail
 go_region_held3 (fun u => u.cell? ⟨E.rb, 2, none⟩ = some (.pointer (some ⟨E.rt, 0, none⟩)) ∧ u.cell? ⟨bk, 3, none⟩ = some (.string ⟨st.toArray⟩))
  (first | (with_reducible exact HS2.out) | (with_reducible exact bq_drew HS2.out) | (with_reducible exact bq_later (bq_drew HS2.out) hb2) | (with_reducible exact bq_drew (bq_later (bq_drew HS2.out) hb2)))
  (first | (go_at_call 67; refine (HO2.out.drew.infC st).mono ?_; rintro e w3 ⟨rfl, hb2⟩))
 have HS3 := Lib.hid (bq_later (bq_drew HS2.out) hb2)
 replace HBB := Lib.hid (HBB.out.drew.trans (hb2.mono (by have := HBB.out.size; simpa using this)) : Below W.heap.size W w3)
 have HO3 := Lib.hid (HO2.out.drew.later hb2)
 have HB3 := Lib.hid (below_call' (HB2.out.drew) hb2)
 clear hb2
 go_wp2_with fail
 go_region_held3 (fun u => u.cell? ⟨E.rb, 2, none⟩ = some (.pointer (some ⟨E.rt, 0, none⟩)) ∧ u.cell? ⟨bk, 3, none⟩ = some (.string ⟨st.toArray⟩))
  (first | (with_reducible exact HS3.out) | (with_reducible exact bq_drew HS3.out) | (with_reducible exact bq_later (bq_drew HS3.out) hb3) | (with_reducible exact bq_drew (bq_later (bq_drew HS3.out) hb3)))
  (first | (go_at_call 68; refine (HO3.out.drew.postC st).mono ?_; rintro e w4 ⟨rfl, hb3⟩))
 have HS4 := Lib.hid (bq_later (bq_drew HS3.out) hb3)
 replace HBB := Lib.hid (HBB.out.drew.trans (hb3.mono (by have := HBB.out.size; simpa using this)) : Below W.heap.size W w4)
 have HO4 := Lib.hid (HO3.out.drew.later hb3)
 have HB4 := Lib.hid (below_call' (HB3.out.drew) hb3)
 clear hb3
 have hc4 : w4.cell? ⟨bk, 4, none⟩ = some (.bool false) := by
  have hbb : Below W.heap.size W w4 := HBB.out
  exact (hbb.cell (World.block_lt_of_cell? W _ n4)).trans n4
 go_wp2_with fail
 all_goals
  go_ret
  refine ⟨congrArg (fun b => Ending.returned (Value.bool b)) ?_, HB4.out⟩
  have hq := HQ.out
  clear HQ HS1 HS2 HS3 HS4 HO1 HO2 HO3 HO4 HB1 HB2 HB3 HB4 HA HBB HN
  subst hq
  rw [Bool.eq_iff_iff]
  simp_all <;> exact Or.comm
set_option maxHeartbeats 8000000 in
theorem beginsQ_o2 {E : RqE} {u : World} {nv : Value} {q : QS} {bad : Bool} (h : RqAt E u nv q bad) (t : Tok) (hk : t.kind = 2) (hop : t.opn = true) :
    Calls Tryz.prog 109 #[.pointer (some ⟨E.rb, 0, none⟩), tokW t] u fun e u' => e = .returned (.bool (beginsF (opsQ E.es) t)) ∧ Below u.heap.size u u' := by
 obtain ⟨r, hr⟩ : ∃ r, r = beginsF (opsQ E.es) t := ⟨_, rfl⟩
 have hr2 : r = true := by
  rw [hr]
  unfold beginsF
  rw [if_neg (by omega), if_neg (by omega), if_pos (by omega), hop]
  rfl
 rw [← hr]
 have HA := Lib.hid h
 have HQ := Lib.hid hr2
 clear h hr hr2
 obtain ⟨k, ln, n, st, op, ti⟩ := t
 simp only at hk hop HQ
 subst hop hk
 simp only [tokW]
 obtain ⟨W, hW⟩ : ∃ W, W = u.alloc (.cells #[.int .i64 2, .int .i64 ln, .int .i64 n, .string ⟨st.toArray⟩, .bool true, .bool ti] 48) := ⟨_, rfl⟩
 obtain ⟨bk, hbk⟩ : ∃ b, b = u.heap.size := ⟨_, rfl⟩
 have hbW : Below u.heap.size u W := by rw [hW]; exact (Below.refl _ _).alloc (Nat.le_refl _) _
 have hnew : W.heap[bk]? = some (.cells #[.int .i64 2, .int .i64 ln, .int .i64 n, .string ⟨st.toArray⟩, .bool true, .bool ti] 48 (0, 0)) := by rw [hW, hbk]; exact heap_alloc_new _ _
 have HO1 := Lib.hid (HA.out.later hbW)
 obtain ⟨n0, n1, n2, n3, n4, n5, nf⟩ := six_at hnew
 obtain ⟨⟨-, -, d2, -, -, -⟩, -⟩ := HO1.out.cells
 have HS1 := Lib.hid (And.intro d2 n3)
 have HB1 := Lib.hid hbW
 have HN := Lib.hid hnew
 clear hbW hnew
 go_enter Tryz.func109, Tryz.ntmps109
 go_upto_region 1 with fail
 rw [← hW, ← hbk]
 clear hW hbk
 go_wp2_with fail
 go_region_held3 (fun u => u.cell? ⟨E.rb, 2, none⟩ = some (.pointer (some ⟨E.rt, 0, none⟩)) ∧ u.cell? ⟨bk, 3, none⟩ = some (.string ⟨st.toArray⟩))
  (first | (with_reducible exact HS1.out) | (with_reducible exact bq_drew HS1.out) | (with_reducible exact bq_later (bq_drew HS1.out) hb1) | (with_reducible exact bq_drew (bq_later (bq_drew HS1.out) hb1)))
  (first | (go_at_call 108; refine (HO1.out.drew.preC st).mono ?_; rintro e w2 ⟨rfl, hb1⟩))
 have HS2 := Lib.hid (bq_later (bq_drew HS1.out) hb1)
 have HBB := Lib.hid (below_call' (Below.refl _ _).drew hb1 : Below W.heap.size W w2)
 have HO2 := Lib.hid (HO1.out.drew.later hb1)
 have HB2 := Lib.hid (below_call' (HB1.out.drew) hb1)
 clear hb1
 go_wp2_with fail
 go_region_held3 (fun u => u.cell? ⟨E.rb, 2, none⟩ = some (.pointer (some ⟨E.rt, 0, none⟩)) ∧ u.cell? ⟨bk, 3, none⟩ = some (.string ⟨st.toArray⟩))
  (first | (with_reducible exact HS2.out) | (with_reducible exact bq_drew HS2.out) | (with_reducible exact bq_later (bq_drew HS2.out) hb2) | (with_reducible exact bq_drew (bq_later (bq_drew HS2.out) hb2)))
  (first | (go_at_call 67; refine (HO2.out.drew.infC st).mono ?_; rintro e w3 ⟨rfl, hb2⟩))
 have HS3 := Lib.hid (bq_later (bq_drew HS2.out) hb2)
 replace HBB := Lib.hid (HBB.out.drew.trans (hb2.mono (by have := HBB.out.size; simpa using this)) : Below W.heap.size W w3)
 have HO3 := Lib.hid (HO2.out.drew.later hb2)
 have HB3 := Lib.hid (below_call' (HB2.out.drew) hb2)
 clear hb2
 go_wp2_with fail
 go_region_held3 (fun u => u.cell? ⟨E.rb, 2, none⟩ = some (.pointer (some ⟨E.rt, 0, none⟩)) ∧ u.cell? ⟨bk, 3, none⟩ = some (.string ⟨st.toArray⟩))
  (first | (with_reducible exact HS3.out) | (with_reducible exact bq_drew HS3.out) | (with_reducible exact bq_later (bq_drew HS3.out) hb3) | (with_reducible exact bq_drew (bq_later (bq_drew HS3.out) hb3)))
  (first | (go_at_call 68; refine (HO3.out.drew.postC st).mono ?_; rintro e w4 ⟨rfl, hb3⟩))
 have HS4 := Lib.hid (bq_later (bq_drew HS3.out) hb3)
 replace HBB := Lib.hid (HBB.out.drew.trans (hb3.mono (by have := HBB.out.size; simpa using this)) : Below W.heap.size W w4)
 have HO4 := Lib.hid (HO3.out.drew.later hb3)
 have HB4 := Lib.hid (below_call' (HB3.out.drew) hb3)
 clear hb3
 have hc4 : w4.cell? ⟨bk, 4, none⟩ = some (.bool true) := by
  have hbb : Below W.heap.size W w4 := HBB.out
  exact (hbb.cell (World.block_lt_of_cell? W _ n4)).trans n4
 go_wp2_with fail
 all_goals
  go_ret
  refine ⟨congrArg (fun b => Ending.returned (Value.bool b)) ?_, HB4.out⟩
  have hq := HQ.out
  clear HQ HS1 HS2 HS3 HS4 HO1 HO2 HO3 HO4 HB1 HB2 HB3 HB4 HA HBB HN
  exact hq.symm
set_option maxHeartbeats 4000000 in
theorem beginsQ_k3 (p : Value) (u : World) (t : Tok) (hk : t.kind = 3) :
    Calls Tryz.prog 109 #[p, tokW t] u fun e u' => e = .returned (.bool true) ∧ Below u.heap.size u u' := by
 obtain ⟨k, ln, n, st, op, ti⟩ := t
 simp only at hk
 subst hk
 simp only [tokW]
 go_enter Tryz.func109, Tryz.ntmps109
 go_wp2_with fail
 all_goals
  go_ret
  exact ⟨rfl, (Below.refl _ _).alloc (Nat.le_refl _) _⟩
set_option maxHeartbeats 4000000 in
theorem beginsQ_k4 (p : Value) (u : World) (t : Tok) (hk : t.kind = 4) :
    Calls Tryz.prog 109 #[p, tokW t] u fun e u' => e = .returned (.bool true) ∧ Below u.heap.size u u' := by
 obtain ⟨k, ln, n, st, op, ti⟩ := t
 simp only at hk
 subst hk
 simp only [tokW]
 go_enter Tryz.func109, Tryz.ntmps109
 go_wp2_with fail
 all_goals
  go_ret
  exact ⟨rfl, (Below.refl _ _).alloc (Nat.le_refl _) _⟩
set_option maxHeartbeats 4000000 in
theorem beginsQ_k5 (p : Value) (u : World) (t : Tok) (hk : t.kind = 5) :
    Calls Tryz.prog 109 #[p, tokW t] u fun e u' => e = .returned (.bool true) ∧ Below u.heap.size u u' := by
 obtain ⟨k, ln, n, st, op, ti⟩ := t
 simp only at hk
 subst hk
 simp only [tokW]
 go_enter Tryz.func109, Tryz.ntmps109
 go_wp2_with fail
 all_goals
  go_ret
  exact ⟨rfl, (Below.refl _ _).alloc (Nat.le_refl _) _⟩
set_option maxHeartbeats 4000000 in
theorem beginsQ_p40 (p : Value) (u : World) (t : Tok) (hk : t.kind = 6) (hs : t.s = [40]) :
    Calls Tryz.prog 109 #[p, tokW t] u fun e u' => e = .returned (.bool true) ∧ Below u.heap.size u u' := by
 obtain ⟨k, ln, n, st, op, ti⟩ := t
 simp only at hk hs
 subst hk hs
 simp only [tokW]
 go_enter Tryz.func109, Tryz.ntmps109
 go_wp2_with fail
 all_goals
  go_ret
  exact ⟨rfl, (Below.refl _ _).alloc (Nat.le_refl _) _⟩
set_option maxHeartbeats 4000000 in
theorem beginsQ_p91 (p : Value) (u : World) (t : Tok) (hk : t.kind = 6) (hs : t.s = [91]) :
    Calls Tryz.prog 109 #[p, tokW t] u fun e u' => e = .returned (.bool true) ∧ Below u.heap.size u u' := by
 obtain ⟨k, ln, n, st, op, ti⟩ := t
 simp only at hk hs
 subst hk hs
 simp only [tokW]
 go_enter Tryz.func109, Tryz.ntmps109
 go_wp2_with fail
 all_goals
  go_ret
  exact ⟨rfl, (Below.refl _ _).alloc (Nat.le_refl _) _⟩
set_option maxHeartbeats 4000000 in
theorem beginsQ_p123 (p : Value) (u : World) (t : Tok) (hk : t.kind = 6) (hs : t.s = [123]) :
    Calls Tryz.prog 109 #[p, tokW t] u fun e u' => e = .returned (.bool true) ∧ Below u.heap.size u u' := by
 obtain ⟨k, ln, n, st, op, ti⟩ := t
 simp only at hk hs
 subst hk hs
 simp only [tokW]
 go_enter Tryz.func109, Tryz.ntmps109
 go_wp2_with fail
 all_goals
  go_ret
  exact ⟨rfl, (Below.refl _ _).alloc (Nat.le_refl _) _⟩
set_option maxHeartbeats 4000000 in
theorem beginsQ_p (p : Value) (u : World) (t : Tok) (hk : t.kind = 6) (h40 : t.s ≠ [40]) (h91 : t.s ≠ [91]) (h123 : t.s ≠ [123]) :
    Calls Tryz.prog 109 #[p, tokW t] u fun e u' => e = .returned (.bool false) ∧ Below u.heap.size u u' := by
 obtain ⟨k, ln, n, st, op, ti⟩ := t
 simp only at hk h40 h91 h123
 subst hk
 have b40 : (st == [40]) = false := beq_eq_false_iff_ne.2 h40
 have b91 : (st == [91]) = false := beq_eq_false_iff_ne.2 h91
 have b123 : (st == [123]) = false := beq_eq_false_iff_ne.2 h123
 simp only [tokW]
 go_enter Tryz.func109, Tryz.ntmps109
 go_wp2_with fail
 all_goals
  go_ret
  exact ⟨rfl, (Below.refl _ _).alloc (Nat.le_refl _) _⟩
set_option maxHeartbeats 4000000 in
theorem beginsQ_n (p : Value) (u : World) (t : Tok) (h1 : t.kind ≠ 1) (h2 : t.kind ≠ 2) (h3 : t.kind ≠ 3) (h4 : t.kind ≠ 4) (h5 : t.kind ≠ 5) (h6 : t.kind ≠ 6) :
    Calls Tryz.prog 109 #[p, tokW t] u fun e u' => e = .returned (.bool false) ∧ Below u.heap.size u u' := by
 obtain ⟨k, ln, n, st, op, ti⟩ := t
 simp only at h1 h2 h3 h4 h5 h6
 simp only [tokW]
 go_enter Tryz.func109, Tryz.ntmps109
 go_wp2_with fail
 all_goals
  go_ret
  exact ⟨rfl, (Below.refl _ _).alloc (Nat.le_refl _) _⟩
theorem beginsQ_any {E : RqE} {u : World} {nv : Value} {q : QS} {bad : Bool} (h : RqAt E u nv q bad) (t : Tok) :
    Calls Tryz.prog 109 #[.pointer (some ⟨E.rb, 0, none⟩), tokW t] u fun e u' => e = .returned (.bool (beginsF (opsQ E.es) t)) ∧ Below u.heap.size u u' := by
 by_cases h1 : t.kind = 1
 ·cases hop : t.opn with
  | true =>
   exact beginsQ_o1 h t h1 hop
  | false => exact beginsQ_op1 h t h1 hop
 by_cases h2 : t.kind = 2
 ·cases hop : t.opn with
  | true =>
   exact beginsQ_o2 h t h2 hop
  | false => exact beginsQ_op2 h t h2 hop
 by_cases h3 : t.kind = 3
 ·rw [show beginsF (opsQ E.es) t = true by unfold beginsF; rw [if_pos (by omega)]]
  exact beginsQ_k3 _ u t h3
 by_cases h4 : t.kind = 4
 ·rw [show beginsF (opsQ E.es) t = true by unfold beginsF; rw [if_pos (by omega)]]
  exact beginsQ_k4 _ u t h4
 by_cases h5 : t.kind = 5
 ·rw [show beginsF (opsQ E.es) t = true by unfold beginsF; rw [if_pos (by omega)]]
  exact beginsQ_k5 _ u t h5
 by_cases h6 : t.kind = 6
 ·have hv : beginsF (opsQ E.es) t = decide (t.s = [40] ∨ t.s = [91] ∨ t.s = [123]) := by unfold beginsF; rw [if_neg (by omega), if_pos h6]
  rw [hv]
  by_cases a1 : t.s = [40]
  ·rw [decide_eq_true (.inl a1)]
   exact beginsQ_p40 _ u t h6 a1
  by_cases a2 : t.s = [91]
  ·rw [decide_eq_true (.inr (.inl a2))]
   exact beginsQ_p91 _ u t h6 a2
  by_cases a3 : t.s = [123]
  ·rw [decide_eq_true (.inr (.inr a3))]
   exact beginsQ_p123 _ u t h6 a3
  rw [decide_eq_false (by simp [a1, a2, a3])]
  exact beginsQ_p _ u t h6 a1 a2 a3
 rw [show beginsF (opsQ E.es) t = false by unfold beginsF; rw [if_neg (by omega), if_neg (by omega), if_neg (by omega)]]
 exact beginsQ_n _ u t h1 h2 h3 h4 h5 h6
end Go.Proofs.YtiffopheamnngaaGreatDoor
namespace Go.Proofs.YtiffopheamnngaaGreatDoor
open Go.RowKit Go.Maps
set_option maxRecDepth 100000
theorem fin_post {E : RqE} {u w3 : World} {nv nv3 : Value} {q3 : QS} {bad3 : Bool} {br s' : Nat} {x : TV} {t : Tm} {p : Int} {res : Except Nat ((Tm × Int) × QS)} (hA : RqAt E w3 nv3 q3 bad3) (hF : RqF E u nv w3 nv3) (hbr : u.heap.size ≤ br) (hrb : E.rb < br) {cs : Array Value} (hbox : w3.heap[br]? = some (.cells cs 34 (0, 0))) (ht : TermS w3 (NewT s' w3) x t) (hs : br < s') (hS : Says res bad3 (t, p) q3) :
    RqPost E u nv res (.returned (.tuple #[tvV x, .int .i64 p])) (set4 w3 br (.int .i64 x.k) (.int .i64 x.n) (.string ⟨x.s.toArray⟩) (.slice x.A x.len x.cap)) := by
 refine ⟨x, t, p, nv3, q3, bad3, rfl, hA.set4 hrb (hA.apart hbox (by decide)) _ _ _ _, hF.set4 hbr _ _ _ _, ?_, hS⟩
 refine ht.go' fun b hb => ?_
 have hne : b ≠ br := by have := hb.1; omega
 have hk := blk_set4_ne (w := w3) (.int .i64 x.k) (.int .i64 x.n) (.string ⟨x.s.toArray⟩) (.slice x.A x.len x.cap) hne
 exact ⟨⟨by have := hb.1; omega, hb.2.1.keep hk, hb.2.2⟩, hk⟩
theorem leaf_new (w : World) (s : Nat) (k n : Int) (a : List UInt8) (ha : a.length ≤ maxLen) : TermS w (NewT s w) ⟨k, n, a, none, 0, 0⟩ (.mk k n a []) := TermS.leaf w _ k n a none 0 ha
set_option maxHeartbeats 8000000 in
theorem named_open {n : Nat} (hT : RTermC n) {E : RqE} {u : World} {nv : Value} {q : QS} (h : RqAt E u nv q false) (hn : E.ts.length - q.at' < n) (nm : List UInt8) (hnm : nm.length ≤ 1000000) (may : Bool) (most : Int) :
    Calls Tryz.prog 95 #[.pointer (some ⟨E.rb, 0, none⟩), .string ⟨nm.toArray⟩, .bool true, .bool may, .int .i64 most] u fun e u' => RqPost E u nv (namedQ (opsQ E.es) E.ts (termQ (opsQ E.es) E.ts n) nm true may most q) e u' := by
 obtain ⟨R, hR⟩ : ∃ R, R = namedQ (opsQ E.es) E.ts (termQ (opsQ E.es) E.ts n) nm true may most q := ⟨_, rfl⟩
 rw [← hR]
 obtain ⟨P, hP⟩ : ∃ P : Ending → World → Prop, P = fun e u' => RqPost E u nv R e u' := ⟨_, rfl⟩
 rw [← hP]
 have HP := Lib.hid hP
 have HR := Lib.hid hR
 have HT := Lib.hid hT
 obtain ⟨W, hW⟩ : ∃ W, W = u.alloc (.cells #[.int .i64 0, .int .i64 0, .string ⟨#[]⟩, .slice none 0 0] 34) := ⟨_, rfl⟩
 obtain ⟨br, hbr⟩ : ∃ b, b = u.heap.size := ⟨_, rfl⟩
 have hbW : Below u.heap.size u W := by rw [hW]; exact (Below.refl _ _).alloc (Nat.le_refl _) _
 have hr0 : W.heap[br]? = some (.cells #[.int .i64 0, .int .i64 0, .string ⟨#[]⟩, .slice none 0 0] 34 (0, 0)) := by rw [hW, hbr]; exact heap_alloc_new _ _
 have HBR := Lib.hid (And.intro (Nat.le_of_eq hbr.symm) (show E.rb < br by have := h.lt; omega))
 have HA := Lib.hid (h.later hbW)
 have HF := Lib.hid (RqF.of_below E nv hbW)
 have HR0 := Lib.hid hr0
 have HN := Lib.hid hn
 have HNM := Lib.hid hnm
 clear hP hR hT hbW hn hnm h hr0
 go_enter Tryz.func95, Tryz.ntmps95
 go_upto_region 1 with fail
 rw [← hW, ← hbr]
 clear hW hbr
 go_wp2_with fail
 refine (need_any HA.out 40).mono ?_
 rintro e w1 ⟨rfl, hF1, h1⟩
 have HF1 := Lib.hid (HF.out.trans hF1)
 have HR1 := Lib.hid (hF1.box HA.out HR0.out (by decide) (by decide))
 clear hF1
 unfold namedQ at HR
 rw [if_pos rfl] at HR
 unfold needQ at HR
 cases hq : isP E.ts q.at' 40 with
 | false =>
  rw [hq, if_neg (by decide)] at h1 HR
  have HA1 := Lib.hid h1
  obtain ⟨⟨-, -, -, -, -, c5⟩, -⟩ := h1.cells
  clear h1
  have HFIN := Lib.hid (fin_post (res := R) (p := 0) HA1.out HF1.out HBR.out.1 HBR.out.2 HR1.out (leaf_new w1 (br + 1) 0 0 [] (by decide)) (Nat.lt_succ_self _) (by rw [HR.out]; exact ⟨rfl, rfl⟩))
  have HC4 := Lib.hid (blk_set4 HR1.out rfl (.int .i64 0) (.int .i64 0) (.string ⟨#[]⟩) (.slice none 0 0))
  obtain ⟨r0, r1, r2, r3, rf⟩ := four_at HR1.out
  go_wp2_with fail
  obtain ⟨z0, z1, z2, z3, -⟩ := four_at HC4.out
  refine ⟨rfl, .tuple #[.agg #[.int .i64 0, .int .i64 0, .string ⟨#[]⟩, .slice none 0 0], .int .i64 0], by simp [results, Tryz.results95, go_sem, z0, z1, z2, z3], ?_⟩
  rw [HP.out]
  exact HFIN.out
 | true =>
  rw [hq, if_pos rfl] at h1 HR
  have HA1 := Lib.hid h1
  have hlt := isP_lt hq
  obtain ⟨⟨-, -, -, -, -, c5⟩, -⟩ := h1.cells
  clear h1
  dsimp only at HR
  go_wp2_with fail
  refine (args_any HT.out E w1 nv (q.go 1) HA1.out (by have := HN.out; simp only [QS.go]; omega)).mono ?_
  rintro e w2 ⟨v, xs, l, nv2, q2, bad2, rfl, hA2, hF2, hrow, htm, hfew, hs⟩
  obtain ⟨Av, cv, rfl⟩ := hrow.shape
  have hbr1 : br < w1.heap.size := (Array.getElem?_eq_some_iff.1 HR1.out).1
  have HA2 := Lib.hid hA2
  have HF2 := Lib.hid (HF1.out.trans hF2)
  have HR2 := Lib.hid (hF2.box HA1.out HR1.out (by decide) (by decide))
  have HTM : Hid (TermS w2 (NewT w1.heap.size w2) ⟨4, 0, nm, Av, xs.length, cv⟩ (compT nm l)) := Lib.hid (TermsS.comp (htm.keep (fun b hb => ⟨hb.1, hb.2.1, fun h => h⟩) fun _ _ => rfl) hrow rfl (fun g hg => ⟨(hrow.lt g hg).1, hrow.tyq hg, fun h => h⟩) nm (by have := HNM.out; unfold maxLen; omega) 4 0)
  have HS := Lib.hid hs
  have HB1 := Lib.hid hbr1
  clear hA2 hF2 hrow htm hfew hs c5 hlt hbr1
  go_wp2_with fail
  cases bad2 with
  | true =>
   refine (need_bad HA2.out 41).mono ?_
   rintro e w3 ⟨rfl, hb3⟩
   have HR3 := Lib.hid ((hb3.block br (Array.getElem?_eq_some_iff.1 HR2.out).1).trans HR2.out)
   have HA3 := Lib.hid (HA2.out.later hb3)
   have HF3 := Lib.hid (HF2.out.below hb3)
   have HTM3 := Lib.hid (HTM.out.go' (NewX.below hb3))
   have HS3 : Hid (Says R true (compT nm l, (0 : Int)) q2) := Lib.hid (by
    have h1 := HS.out
    rw [HR.out]
    cases hx : argsQ E.ts (termQ (opsQ E.es) E.ts n) (E.ts.length + 1) (q.go 1) [] with
    | error a => rw [hx] at h1; exact h1
    | ok r => rw [hx] at h1; exact absurd h1.1 (by decide))
   clear hb3
   have HFIN := Lib.hid (fin_post (res := R) (p := 0) HA3.out HF3.out HBR.out.1 HBR.out.2 HR3.out HTM3.out HB1.out HS3.out)
   have HC4 := Lib.hid (blk_set4 HR3.out rfl (.int .i64 4) (.int .i64 0) (.string ⟨nm.toArray⟩) (.slice Av xs.length cv))
   obtain ⟨r0, r1, r2, r3, rf⟩ := four_at HR3.out
   go_wp2_with fail
   obtain ⟨z0, z1, z2, z3, -⟩ := four_at HC4.out
   refine ⟨rfl, .tuple #[.agg #[.int .i64 4, .int .i64 0, .string ⟨nm.toArray⟩, .slice Av xs.length cv], .int .i64 0], by simp [results, Tryz.results95, go_sem, z0, z1, z2, z3], ?_⟩
   rw [HP.out]
   exact HFIN.out
  | false =>
   have HOK : Hid (argsQ E.ts (termQ (opsQ E.es) E.ts n) (E.ts.length + 1) (q.go 1) [] = .ok (l, q2)) := Lib.hid (by
    have h1 := HS.out
    cases hx : argsQ E.ts (termQ (opsQ E.es) E.ts n) (E.ts.length + 1) (q.go 1) [] with
    | error a => rw [hx] at h1; exact absurd h1.1 (by decide)
    | ok r => rw [hx] at h1; rw [h1.2])
   rw [HOK.out] at HR
   dsimp only at HR
   refine (need_any HA2.out 41).mono ?_
   rintro e w3 ⟨rfl, hF3, h3⟩
   have HR3 := Lib.hid (hF3.box HA2.out HR2.out (by decide) (by decide))
   have HF3 := Lib.hid (HF2.out.trans hF3)
   have HTM3 := Lib.hid (HTM.out.go' (NewX.step hF3 HA2.out))
   have HRES : Hid (∃ b3 q3, RqAt E w3 nv2 q3 b3 ∧ Says R b3 (compT nm l, (0 : Int)) q3) := Lib.hid (by
    have h4 := HR.out
    unfold needQ at h4
    cases hq2 : isP E.ts q2.at' 41 with
    | true => rw [hq2, if_pos rfl] at h3 h4; exact ⟨_, _, h3, by rw [h4]; exact ⟨rfl, rfl⟩⟩
    | false => rw [hq2, if_neg (by decide)] at h3 h4; exact ⟨_, _, h3, by rw [h4]; exact ⟨rfl, rfl⟩⟩)
   clear hF3 h3
   obtain ⟨b3, q3, hA3, hS3⟩ := HRES.out
   have HA3 := Lib.hid hA3
   have HS3 := Lib.hid hS3
   clear hA3 hS3
   have HFIN := Lib.hid (fin_post (res := R) (p := 0) HA3.out HF3.out HBR.out.1 HBR.out.2 HR3.out HTM3.out HB1.out HS3.out)
   have HC4 := Lib.hid (blk_set4 HR3.out rfl (.int .i64 4) (.int .i64 0) (.string ⟨nm.toArray⟩) (.slice Av xs.length cv))
   obtain ⟨r0, r1, r2, r3, rf⟩ := four_at HR3.out
   go_wp2_with fail
   obtain ⟨z0, z1, z2, z3, -⟩ := four_at HC4.out
   refine ⟨rfl, .tuple #[.agg #[.int .i64 4, .int .i64 0, .string ⟨nm.toArray⟩, .slice Av xs.length cv], .int .i64 0], by simp [results, Tryz.results95, go_sem, z0, z1, z2, z3], ?_⟩
   rw [HP.out]
   exact HFIN.out
theorem one_new {w : World} {s : Nat} {x : TV} {t : Tm} (hx : TermS w (NewT s w) x t) (hs : s ≤ w.heap.size) (nm : List UInt8) (hnm : nm.length ≤ maxLen) :
    TermS (w.alloc (.cells #[.int .i64 x.k, .int .i64 x.n, .string ⟨x.s.toArray⟩, .slice x.A x.len x.cap] 34)) (NewT s (w.alloc (.cells #[.int .i64 x.k, .int .i64 x.n, .string ⟨x.s.toArray⟩, .slice x.A x.len x.cap] 34))) ⟨4, 0, nm, some ⟨w.heap.size, 0, none⟩, 1, 1⟩ (compT nm [t]) := by
 have hb : Below w.heap.size w (w.alloc (.cells #[.int .i64 x.k, .int .i64 x.n, .string ⟨x.s.toArray⟩, .slice x.A x.len x.cap] 34)) := (Below.refl _ _).alloc (Nat.le_refl _) _
 have hnew := heap_alloc_new w (.cells #[.int .i64 x.k, .int .i64 x.n, .string ⟨x.s.toArray⟩, .slice x.A x.len x.cap] 34)
 have h2 := (TermsS.nil _ _).snoc (hx.go' (NewX.below hb))
 exact TermsS.block h2 hnew ⟨hs, ⟨_, hnew⟩, fun h => h⟩ nm hnm 4 0 1
set_option maxHeartbeats 8000000 in
theorem named_shut {n : Nat} (hT : RTermC n) {E : RqE} {u : World} {nv : Value} {q : QS} (h : RqAt E u nv q false) (hn : E.ts.length - q.at' < n) (nm : List UInt8) (hnm : nm.length ≤ 1000000) (may : Bool) (most : Int) :
    Calls Tryz.prog 95 #[.pointer (some ⟨E.rb, 0, none⟩), .string ⟨nm.toArray⟩, .bool false, .bool may, .int .i64 most] u fun e u' => RqPost E u nv (namedQ (opsQ E.es) E.ts (termQ (opsQ E.es) E.ts n) nm false may most q) e u' := by
 obtain ⟨R, hR⟩ : ∃ R, R = namedQ (opsQ E.es) E.ts (termQ (opsQ E.es) E.ts n) nm false may most q := ⟨_, rfl⟩
 rw [← hR]
 obtain ⟨P, hP⟩ : ∃ P : Ending → World → Prop, P = fun e u' => RqPost E u nv R e u' := ⟨_, rfl⟩
 rw [← hP]
 have HP := Lib.hid hP
 have HR := Lib.hid hR
 have HT := Lib.hid hT
 obtain ⟨W, hW⟩ : ∃ W, W = u.alloc (.cells #[.int .i64 0, .int .i64 0, .string ⟨#[]⟩, .slice none 0 0] 34) := ⟨_, rfl⟩
 obtain ⟨br, hbr⟩ : ∃ b, b = u.heap.size := ⟨_, rfl⟩
 have hbW : Below u.heap.size u W := by rw [hW]; exact (Below.refl _ _).alloc (Nat.le_refl _) _
 have hr0 : W.heap[br]? = some (.cells #[.int .i64 0, .int .i64 0, .string ⟨#[]⟩, .slice none 0 0] 34 (0, 0)) := by rw [hW, hbr]; exact heap_alloc_new _ _
 have HBR := Lib.hid (And.intro (Nat.le_of_eq hbr.symm) (show E.rb < br by have := h.lt; omega))
 have HA := Lib.hid (h.later hbW)
 have HF := Lib.hid (RqF.of_below E nv hbW)
 have HR0 := Lib.hid hr0
 have HN := Lib.hid hn
 have HNM := Lib.hid hnm
 clear hP hR hT hbW hn hnm h hr0
 obtain ⟨p, rr, hpre⟩ : ∃ p rr, (opsQ E.es).pre nm = (p, rr) := ⟨_, _, rfl⟩
 unfold namedQ at HR
 rw [if_neg (show ¬ (false = true) by decide), hpre] at HR
 dsimp only at HR
 obtain ⟨⟨-, -, c2, -, -, -⟩, -⟩ := HA.out.cells
 obtain ⟨bg, hbg⟩ : ∃ b, b = beginsF (opsQ E.es) (peekF E.ts q.at') := ⟨_, rfl⟩
 rw [← hbg] at HR
 have HBG := Lib.hid hbg
 have hpc := HA.out.preC nm
 rw [hpre] at hpc
 have HPC := Lib.hid hpc
 clear hpre hpc hbg
 by_cases hc : may = true ∧ 0 < p ∧ p ≤ most
 ·obtain ⟨rfl, hc1, hc2⟩ := hc
  have d1 : decide (0 < p) = true := decide_eq_true hc1
  have d2 : decide (p ≤ most) = true := decide_eq_true hc2
  have HCC := Lib.hid (And.intro hc1 hc2)
  clear hc1 hc2
  go_enter Tryz.func95, Tryz.ntmps95
  go_upto_region 1 with fail
  rw [← hW, ← hbr]
  clear hW hbr
  go_wp2_with fail
  refine HPC.out.mono ?_
  rintro e w1 ⟨rfl, hb1⟩
  have HA1 := Lib.hid (HA.out.later hb1)
  have HF1 := Lib.hid (HF.out.below hb1)
  have HR1 := Lib.hid ((hb1.block br (Array.getElem?_eq_some_iff.1 HR0.out).1).trans HR0.out)
  clear hb1 c2
  dsimp only
  go_wp2_with fail
  refine (look_any HA1.out).mono ?_
  rintro e w2 ⟨rfl, hb2⟩
  have hbgc := beginsQ_any (HA1.out.later hb2) (peekF E.ts q.at')
  rw [← HBG.out] at hbgc
  have HA2 := Lib.hid (HA1.out.later hb2)
  have HF2 := Lib.hid (HF1.out.below hb2)
  have HR2 := Lib.hid ((hb2.block br (Array.getElem?_eq_some_iff.1 HR1.out).1).trans HR1.out)
  have HBC := Lib.hid hbgc
  clear hb2 hbgc
  go_wp2_with fail
  refine HBC.out.mono ?_
  rintro e w3 ⟨rfl, hb3⟩
  have HA3 := Lib.hid (HA2.out.later hb3)
  have HF3 := Lib.hid (HF2.out.below hb3)
  have HR3 := Lib.hid ((hb3.block br (Array.getElem?_eq_some_iff.1 HR2.out).1).trans HR2.out)
  clear hb3
  cases bg with
  | false =>
   have HRR : Hid (R = .ok ((atomT nm, 0), q)) := Lib.hid (by rw [HR.out]; exact if_neg fun e => by cases e.2.2.2)
   have HFIN := Lib.hid (fin_post (res := R) (p := 0) HA3.out HF3.out HBR.out.1 HBR.out.2 HR3.out (leaf_new w3 (br + 1) 3 0 nm (by have := HNM.out; unfold maxLen; omega)) (Nat.lt_succ_self _) (by rw [HRR.out]; exact ⟨rfl, rfl⟩))
   have HC4 := Lib.hid (blk_set4 HR3.out rfl (.int .i64 3) (.int .i64 0) (.string ⟨nm.toArray⟩) (.slice none 0 0))
   obtain ⟨r0, r1, r2, r3, rf⟩ := four_at HR3.out
   go_wp2_with fail
   obtain ⟨z0, z1, z2, z3, -⟩ := four_at HC4.out
   refine ⟨rfl, .tuple #[.agg #[.int .i64 3, .int .i64 0, .string ⟨nm.toArray⟩, .slice none 0 0], .int .i64 0], by simp [results, Tryz.results95, go_sem, z0, z1, z2, z3], ?_⟩
   rw [HP.out]
   exact HFIN.out
  | true =>
   have HRR : Hid (R = match termQ (opsQ E.es) E.ts n rr q with
    | .error a => .error a
    | .ok (x, s1) => .ok ((compT nm [x.1], p), s1)) := Lib.hid (by rw [HR.out]; refine if_pos ?_; simp [HCC.out.1, HCC.out.2])
   go_wp2_with fail
   refine (HT.out E w3 nv q rr HA3.out HN.out).mono ?_
   rintro e w4 ⟨x, t, p4, nv4, q4, bad4, rfl, hA4, hF4, ht4, hs4⟩
   rw [tvQ_lit]
   obtain ⟨V, hV⟩ : ∃ V, V = w4.alloc (.cells #[.int .i64 x.k, .int .i64 x.n, .string ⟨x.s.toArray⟩, .slice x.A x.len x.cap] 34) := ⟨_, rfl⟩
   obtain ⟨bx, hbx⟩ : ∃ b, b = w4.heap.size := ⟨_, rfl⟩
   have hbV : Below w4.heap.size w4 V := by rw [hV]; exact (Below.refl _ _).alloc (Nat.le_refl _) _
   have hx0 : V.heap[bx]? = some (.cells #[.int .i64 x.k, .int .i64 x.n, .string ⟨x.s.toArray⟩, .slice x.A x.len x.cap] 34 (0, 0)) := by rw [hV, hbx]; exact heap_alloc_new _ _
   have hr4 := hF4.box HA3.out HR3.out (by decide) (by decide)
   have hb3 : br < w3.heap.size := (Array.getElem?_eq_some_iff.1 HR3.out).1
   obtain ⟨V2, hV2⟩ : ∃ V2, V2 = V.alloc (.cells #[.int .i64 x.k, .int .i64 x.n, .string ⟨x.s.toArray⟩, .slice x.A x.len x.cap] 34) := ⟨_, rfl⟩
   obtain ⟨ba, hba⟩ : ∃ b, b = V.heap.size := ⟨_, rfl⟩
   have hbV2 : Below V.heap.size V V2 := by rw [hV2]; exact (Below.refl _ _).alloc (Nat.le_refl _) _
   have HR4 := Lib.hid ((hbV2.block br (by have := hbV.size; have := hF4.size; omega)).trans ((hbV.block br (by have := hF4.size; omega)).trans hr4))
   have HA4 := Lib.hid ((hA4.later hbV).later hbV2)
   have HF4 := Lib.hid (((HF3.out.trans hF4).below hbV).below hbV2)
   have HTM : Hid (TermS V2 (NewT w3.heap.size V2) ⟨4, 0, nm, some ⟨ba, 0, none⟩, 1, 1⟩ (compT nm [t])) := Lib.hid (by
    have h1 := one_new (ht4.go' (NewX.below hbV)) (by have := hF4.size; have := hbV.size; omega) nm (by have := HNM.out; unfold maxLen; omega)
    rw [← hV2, ← hba] at h1
    exact h1)
   have HB3 := Lib.hid hb3
   have HS4 : Hid (Says R bad4 (compT nm [t], p) q4) := Lib.hid (by
    rw [HRR.out]
    cases hx : termQ (opsQ E.es) E.ts n rr q with
    | error a => rw [hx] at hs4; exact hs4
    | ok r =>
     rw [hx] at hs4
     obtain ⟨h1, rfl⟩ := hs4
     exact ⟨h1, rfl⟩)
   obtain ⟨y0, y1, y2, y3, yf⟩ := four_at hx0
   clear hA4 hF4 ht4 hbV hs4 hx0 hr4 hb3 hbV2
   go_upto_region 11 with fail
   rw [← hV, ← hbx]
   clear hV hbx
   subst hV2 hba
   have HFIN := Lib.hid (fin_post (res := R) (p := p) HA4.out HF4.out HBR.out.1 HBR.out.2 HR4.out HTM.out HB3.out HS4.out)
   have HC4 := Lib.hid (blk_set4 HR4.out rfl (.int .i64 4) (.int .i64 0) (.string ⟨nm.toArray⟩) (.slice (some ⟨V.heap.size, 0, none⟩) 1 1))
   obtain ⟨r0, r1, r2, r3, rf⟩ := four_at HR4.out
   go_wp2_with fail
   obtain ⟨z0, z1, z2, z3, -⟩ := four_at HC4.out
   refine ⟨rfl, .tuple #[.agg #[.int .i64 4, .int .i64 0, .string ⟨nm.toArray⟩, .slice (some ⟨V.heap.size, 0, none⟩) 1 1], .int .i64 p], by simp [results, Tryz.results95, go_sem, z0, z1, z2, z3], ?_⟩
   rw [HP.out]
   exact HFIN.out
 ·have HRR : Hid (R = .ok ((atomT nm, 0), q)) := Lib.hid (by rw [HR.out]; exact if_neg fun e => hc ⟨e.1, e.2.1, e.2.2.1⟩)
  by_cases h1 : may = true
  ·subst h1
   by_cases h2 : 0 < p
   ·have d1 : decide (0 < p) = true := decide_eq_true h2
    have d2 : decide (p ≤ most) = false := decide_eq_false fun e => hc ⟨rfl, h2, e⟩
    clear hc h2
    go_enter Tryz.func95, Tryz.ntmps95
    go_upto_region 1 with fail
    rw [← hW, ← hbr]
    clear hW hbr
    go_wp2_with fail
    refine HPC.out.mono ?_
    rintro e w1 ⟨rfl, hb1⟩
    have HA1 := Lib.hid (HA.out.later hb1)
    have HF1 := Lib.hid (HF.out.below hb1)
    have HR1 := Lib.hid ((hb1.block br (Array.getElem?_eq_some_iff.1 HR0.out).1).trans HR0.out)
    clear hb1 c2
    dsimp only
    have HFIN := Lib.hid (fin_post (res := R) (p := 0) HA1.out HF1.out HBR.out.1 HBR.out.2 HR1.out (leaf_new w1 (br + 1) 3 0 nm (by have := HNM.out; unfold maxLen; omega)) (Nat.lt_succ_self _) (by rw [HRR.out]; exact ⟨rfl, rfl⟩))
    have HC4 := Lib.hid (blk_set4 HR1.out rfl (.int .i64 3) (.int .i64 0) (.string ⟨nm.toArray⟩) (.slice none 0 0))
    obtain ⟨r0, r1, r2, r3, rf⟩ := four_at HR1.out
    go_wp2_with fail
    obtain ⟨z0, z1, z2, z3, -⟩ := four_at HC4.out
    refine ⟨rfl, .tuple #[.agg #[.int .i64 3, .int .i64 0, .string ⟨nm.toArray⟩, .slice none 0 0], .int .i64 0], by simp [results, Tryz.results95, go_sem, z0, z1, z2, z3], ?_⟩
    rw [HP.out]
    exact HFIN.out
   ·have d1 : decide (0 < p) = false := decide_eq_false h2
    clear hc h2
    go_enter Tryz.func95, Tryz.ntmps95
    go_upto_region 1 with fail
    rw [← hW, ← hbr]
    clear hW hbr
    go_wp2_with fail
    refine HPC.out.mono ?_
    rintro e w1 ⟨rfl, hb1⟩
    have HA1 := Lib.hid (HA.out.later hb1)
    have HF1 := Lib.hid (HF.out.below hb1)
    have HR1 := Lib.hid ((hb1.block br (Array.getElem?_eq_some_iff.1 HR0.out).1).trans HR0.out)
    clear hb1 c2
    dsimp only
    have HFIN := Lib.hid (fin_post (res := R) (p := 0) HA1.out HF1.out HBR.out.1 HBR.out.2 HR1.out (leaf_new w1 (br + 1) 3 0 nm (by have := HNM.out; unfold maxLen; omega)) (Nat.lt_succ_self _) (by rw [HRR.out]; exact ⟨rfl, rfl⟩))
    have HC4 := Lib.hid (blk_set4 HR1.out rfl (.int .i64 3) (.int .i64 0) (.string ⟨nm.toArray⟩) (.slice none 0 0))
    obtain ⟨r0, r1, r2, r3, rf⟩ := four_at HR1.out
    go_wp2_with fail
    obtain ⟨z0, z1, z2, z3, -⟩ := four_at HC4.out
    refine ⟨rfl, .tuple #[.agg #[.int .i64 3, .int .i64 0, .string ⟨nm.toArray⟩, .slice none 0 0], .int .i64 0], by simp [results, Tryz.results95, go_sem, z0, z1, z2, z3], ?_⟩
    rw [HP.out]
    exact HFIN.out
  ·have h1 : may = false := by simpa using h1
   subst h1
   clear hc
   go_enter Tryz.func95, Tryz.ntmps95
   go_upto_region 1 with fail
   rw [← hW, ← hbr]
   clear hW hbr
   go_wp2_with fail
   refine HPC.out.mono ?_
   rintro e w1 ⟨rfl, hb1⟩
   have HA1 := Lib.hid (HA.out.later hb1)
   have HF1 := Lib.hid (HF.out.below hb1)
   have HR1 := Lib.hid ((hb1.block br (Array.getElem?_eq_some_iff.1 HR0.out).1).trans HR0.out)
   clear hb1 c2
   dsimp only
   have HFIN := Lib.hid (fin_post (res := R) (p := 0) HA1.out HF1.out HBR.out.1 HBR.out.2 HR1.out (leaf_new w1 (br + 1) 3 0 nm (by have := HNM.out; unfold maxLen; omega)) (Nat.lt_succ_self _) (by rw [HRR.out]; exact ⟨rfl, rfl⟩))
   have HC4 := Lib.hid (blk_set4 HR1.out rfl (.int .i64 3) (.int .i64 0) (.string ⟨nm.toArray⟩) (.slice none 0 0))
   obtain ⟨r0, r1, r2, r3, rf⟩ := four_at HR1.out
   go_wp2_with fail
   obtain ⟨z0, z1, z2, z3, -⟩ := four_at HC4.out
   refine ⟨rfl, .tuple #[.agg #[.int .i64 3, .int .i64 0, .string ⟨nm.toArray⟩, .slice none 0 0], .int .i64 0], by simp [results, Tryz.results95, go_sem, z0, z1, z2, z3], ?_⟩
   rw [HP.out]
   exact HFIN.out
end Go.Proofs.YtiffopheamnngaaGreatDoor
