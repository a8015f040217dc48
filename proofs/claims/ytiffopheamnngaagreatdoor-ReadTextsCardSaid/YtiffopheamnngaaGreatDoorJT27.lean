import Derived.Test.YtiffopheamnngaaGreatDoorJT26
namespace Go.Proofs.YtiffopheamnngaaGreatDoor
open Go.RowKit Go.Maps
set_option maxRecDepth 100000
section
variable {E : RdE} {u u' : World} {v : RdV} {s : RdS} {fl : List FrV}
set_option maxHeartbeats 8000000 in
theorem primary_number (h : RdInv E u v s fl) (hm : mget begL (peekF E.ts s.at').kind = some 27) (r : Except Nat RdS)
    (hc : ∀ W, RdInv E W v s fl → Calls Tryz.prog 27 #[.pointer (some ⟨E.rb, 0, none⟩), tokW (peekF E.ts s.at')] W fun e u' => RdOut E W u' r e) :
    Calls Tryz.prog 62 #[.pointer (some ⟨E.rb, 0, none⟩)] u fun e u' => RdOut E u u' r e := by
 have hkd := (peek_num h.num s.at').2
 have HI := Lib.hid h
 have HC := Lib.hid hc
 have hbv := h.bv
 clear h hc
 obtain ⟨p1, hp1⟩ : ∃ p, p = peekF E.ts s.at' := ⟨_, rfl⟩
 have HPE := Lib.hid hp1
 rw [← hp1] at hkd hm HC
 clear hp1
 obtain ⟨k, ln, n, st, op, ti⟩ := p1
 simp only at hkd hm
 obtain ⟨R, hR⟩ : ∃ R : Ending → World → Prop, R = fun e u' => RdOut E u u' r e := ⟨_, rfl⟩
 rw [← hR]
 have HRR := Lib.hid hR
 clear hR
 go_enter Tryz.func62, Tryz.ntmps62
 go_wp2_with fail
 refine (peek_any _ E.rb v E.ts s E.B HI.out.r 0 (by omega)).mono ?_
 rintro e w1 ⟨rfl, hb1⟩
 rw [show s.at' + 0 = s.at' from rfl, ← HPE.out]
 simp only [tokW]
 obtain ⟨W, hW⟩ : ∃ W, W = w1.alloc (.cells #[.int .i64 k, .int .i64 ln, .int .i64 n, .string ⟨st.toArray⟩, .bool op, .bool ti] 48) := ⟨_, rfl⟩
 have hbW : Below u.heap.size u W := by rw [hW]; exact hb1.alloc hb1.size _
 have HIW := Lib.hid (HI.out.later hbW)
 have HBW := Lib.hid hbW
 have hlk := beg_look (u := W.drew) HIW.out.beg.drew k hkd
 rw [hm] at hlk
 simp only [Option.map_some, Option.getD_some, Option.isSome_some] at hlk
 have c3 : W.cell? ⟨E.rb, 3, none⟩ = some (.map (some E.bb)) := (HIW.out.r.blk.cell (i := 3) rfl).trans (congrArg some hbv)
 have hn : W.heap[w1.heap.size]? = some (.cells #[.int .i64 k, .int .i64 ln, .int .i64 n, .string ⟨st.toArray⟩, .bool op, .bool ti] 48 (0, 0)) := by rw [hW]; exact heap_alloc_new w1 _
 obtain ⟨n0, n1, n2, n3, n4, n5, nf⟩ := six_at hn
 clear hb1 hbW hn
 unfold evF at hlk
 go_upto_region 1 with fail
 rw [← hW]
 clear hW
 go_region
 go_wp2_with fail
 refine (HC.out W.drew (HIW.out.later (Below.refl _ _).drew)).mono ?_
 rintro e w2 ho
 have ho2 := ho.after HI.out (below_drewN' HBW.out 1)
 have hlk : True := trivial
 cases r with
 | error a =>
  obtain ⟨hb2, rfl, h2⟩ := ho2
  refine ⟨rfl, ?_⟩
  rw [HRR.out]
  exact ⟨hb2, rfl, h2⟩
 | ok s' =>
  obtain ⟨hb2, rfl, h2⟩ := ho2
  have HB2 := Lib.hid hb2
  have H2 := Lib.hid h2
  clear hb2 h2 ho c3 n0 n1 n2 n3 n4 n5 nf
  go_wp2_with fail
  refine bodyPost_end (v := .tuple #[]) (by simp [results, Tryz.results62, go_sem]) rfl ?_
  rw [HRR.out]
  exact ⟨HB2.out, rfl, H2.out⟩
set_option maxHeartbeats 8000000 in
theorem primary_named (h : RdInv E u v s fl) (hm : mget begL (peekF E.ts s.at').kind = some 28) (r : Except Nat RdS)
    (hc : ∀ W, RdInv E W v s fl → Calls Tryz.prog 28 #[.pointer (some ⟨E.rb, 0, none⟩), tokW (peekF E.ts s.at')] W fun e u' => RdOut E W u' r e) :
    Calls Tryz.prog 62 #[.pointer (some ⟨E.rb, 0, none⟩)] u fun e u' => RdOut E u u' r e := by
 have hkd := (peek_num h.num s.at').2
 have HI := Lib.hid h
 have HC := Lib.hid hc
 have hbv := h.bv
 clear h hc
 obtain ⟨p1, hp1⟩ : ∃ p, p = peekF E.ts s.at' := ⟨_, rfl⟩
 have HPE := Lib.hid hp1
 rw [← hp1] at hkd hm HC
 clear hp1
 obtain ⟨k, ln, n, st, op, ti⟩ := p1
 simp only at hkd hm
 obtain ⟨R, hR⟩ : ∃ R : Ending → World → Prop, R = fun e u' => RdOut E u u' r e := ⟨_, rfl⟩
 rw [← hR]
 have HRR := Lib.hid hR
 clear hR
 go_enter Tryz.func62, Tryz.ntmps62
 go_wp2_with fail
 refine (peek_any _ E.rb v E.ts s E.B HI.out.r 0 (by omega)).mono ?_
 rintro e w1 ⟨rfl, hb1⟩
 rw [show s.at' + 0 = s.at' from rfl, ← HPE.out]
 simp only [tokW]
 obtain ⟨W, hW⟩ : ∃ W, W = w1.alloc (.cells #[.int .i64 k, .int .i64 ln, .int .i64 n, .string ⟨st.toArray⟩, .bool op, .bool ti] 48) := ⟨_, rfl⟩
 have hbW : Below u.heap.size u W := by rw [hW]; exact hb1.alloc hb1.size _
 have HIW := Lib.hid (HI.out.later hbW)
 have HBW := Lib.hid hbW
 have hlk := beg_look (u := W.drew) HIW.out.beg.drew k hkd
 rw [hm] at hlk
 simp only [Option.map_some, Option.getD_some, Option.isSome_some] at hlk
 have c3 : W.cell? ⟨E.rb, 3, none⟩ = some (.map (some E.bb)) := (HIW.out.r.blk.cell (i := 3) rfl).trans (congrArg some hbv)
 have hn : W.heap[w1.heap.size]? = some (.cells #[.int .i64 k, .int .i64 ln, .int .i64 n, .string ⟨st.toArray⟩, .bool op, .bool ti] 48 (0, 0)) := by rw [hW]; exact heap_alloc_new w1 _
 obtain ⟨n0, n1, n2, n3, n4, n5, nf⟩ := six_at hn
 clear hb1 hbW hn
 unfold evF at hlk
 go_upto_region 1 with fail
 rw [← hW]
 clear hW
 go_region
 go_wp2_with fail
 refine (HC.out W.drew (HIW.out.later (Below.refl _ _).drew)).mono ?_
 rintro e w2 ho
 have ho2 := ho.after HI.out (below_drewN' HBW.out 1)
 have hlk : True := trivial
 cases r with
 | error a =>
  obtain ⟨hb2, rfl, h2⟩ := ho2
  refine ⟨rfl, ?_⟩
  rw [HRR.out]
  exact ⟨hb2, rfl, h2⟩
 | ok s' =>
  obtain ⟨hb2, rfl, h2⟩ := ho2
  have HB2 := Lib.hid hb2
  have H2 := Lib.hid h2
  clear hb2 h2 ho c3 n0 n1 n2 n3 n4 n5 nf
  go_wp2_with fail
  refine bodyPost_end (v := .tuple #[]) (by simp [results, Tryz.results62, go_sem]) rfl ?_
  rw [HRR.out]
  exact ⟨HB2.out, rfl, H2.out⟩
set_option maxHeartbeats 8000000 in
theorem primary_codes (h : RdInv E u v s fl) (hm : mget begL (peekF E.ts s.at').kind = some 29) (r : Except Nat RdS)
    (hc : ∀ W, RdInv E W v s fl → Calls Tryz.prog 29 #[.pointer (some ⟨E.rb, 0, none⟩), tokW (peekF E.ts s.at')] W fun e u' => RdOut E W u' r e) :
    Calls Tryz.prog 62 #[.pointer (some ⟨E.rb, 0, none⟩)] u fun e u' => RdOut E u u' r e := by
 have hkd := (peek_num h.num s.at').2
 have HI := Lib.hid h
 have HC := Lib.hid hc
 have hbv := h.bv
 clear h hc
 obtain ⟨p1, hp1⟩ : ∃ p, p = peekF E.ts s.at' := ⟨_, rfl⟩
 have HPE := Lib.hid hp1
 rw [← hp1] at hkd hm HC
 clear hp1
 obtain ⟨k, ln, n, st, op, ti⟩ := p1
 simp only at hkd hm
 obtain ⟨R, hR⟩ : ∃ R : Ending → World → Prop, R = fun e u' => RdOut E u u' r e := ⟨_, rfl⟩
 rw [← hR]
 have HRR := Lib.hid hR
 clear hR
 go_enter Tryz.func62, Tryz.ntmps62
 go_wp2_with fail
 refine (peek_any _ E.rb v E.ts s E.B HI.out.r 0 (by omega)).mono ?_
 rintro e w1 ⟨rfl, hb1⟩
 rw [show s.at' + 0 = s.at' from rfl, ← HPE.out]
 simp only [tokW]
 obtain ⟨W, hW⟩ : ∃ W, W = w1.alloc (.cells #[.int .i64 k, .int .i64 ln, .int .i64 n, .string ⟨st.toArray⟩, .bool op, .bool ti] 48) := ⟨_, rfl⟩
 have hbW : Below u.heap.size u W := by rw [hW]; exact hb1.alloc hb1.size _
 have HIW := Lib.hid (HI.out.later hbW)
 have HBW := Lib.hid hbW
 have hlk := beg_look (u := W.drew) HIW.out.beg.drew k hkd
 rw [hm] at hlk
 simp only [Option.map_some, Option.getD_some, Option.isSome_some] at hlk
 have c3 : W.cell? ⟨E.rb, 3, none⟩ = some (.map (some E.bb)) := (HIW.out.r.blk.cell (i := 3) rfl).trans (congrArg some hbv)
 have hn : W.heap[w1.heap.size]? = some (.cells #[.int .i64 k, .int .i64 ln, .int .i64 n, .string ⟨st.toArray⟩, .bool op, .bool ti] 48 (0, 0)) := by rw [hW]; exact heap_alloc_new w1 _
 obtain ⟨n0, n1, n2, n3, n4, n5, nf⟩ := six_at hn
 clear hb1 hbW hn
 unfold evF at hlk
 go_upto_region 1 with fail
 rw [← hW]
 clear hW
 go_region
 go_wp2_with fail
 refine (HC.out W.drew (HIW.out.later (Below.refl _ _).drew)).mono ?_
 rintro e w2 ho
 have ho2 := ho.after HI.out (below_drewN' HBW.out 1)
 have hlk : True := trivial
 cases r with
 | error a =>
  obtain ⟨hb2, rfl, h2⟩ := ho2
  refine ⟨rfl, ?_⟩
  rw [HRR.out]
  exact ⟨hb2, rfl, h2⟩
 | ok s' =>
  obtain ⟨hb2, rfl, h2⟩ := ho2
  have HB2 := Lib.hid hb2
  have H2 := Lib.hid h2
  clear hb2 h2 ho c3 n0 n1 n2 n3 n4 n5 nf
  go_wp2_with fail
  refine bodyPost_end (v := .tuple #[]) (by simp [results, Tryz.results62, go_sem]) rfl ?_
  rw [HRR.out]
  exact ⟨HB2.out, rfl, H2.out⟩
set_option maxHeartbeats 8000000 in
theorem primary_punct (h : RdInv E u v s fl) (hm : mget begL (peekF E.ts s.at').kind = some 30) (r : Except Nat RdS)
    (hc : ∀ W, RdInv E W v s fl → Calls Tryz.prog 30 #[.pointer (some ⟨E.rb, 0, none⟩), tokW (peekF E.ts s.at')] W fun e u' => RdOut E W u' r e) :
    Calls Tryz.prog 62 #[.pointer (some ⟨E.rb, 0, none⟩)] u fun e u' => RdOut E u u' r e := by
 have hkd := (peek_num h.num s.at').2
 have HI := Lib.hid h
 have HC := Lib.hid hc
 have hbv := h.bv
 clear h hc
 obtain ⟨p1, hp1⟩ : ∃ p, p = peekF E.ts s.at' := ⟨_, rfl⟩
 have HPE := Lib.hid hp1
 rw [← hp1] at hkd hm HC
 clear hp1
 obtain ⟨k, ln, n, st, op, ti⟩ := p1
 simp only at hkd hm
 obtain ⟨R, hR⟩ : ∃ R : Ending → World → Prop, R = fun e u' => RdOut E u u' r e := ⟨_, rfl⟩
 rw [← hR]
 have HRR := Lib.hid hR
 clear hR
 go_enter Tryz.func62, Tryz.ntmps62
 go_wp2_with fail
 refine (peek_any _ E.rb v E.ts s E.B HI.out.r 0 (by omega)).mono ?_
 rintro e w1 ⟨rfl, hb1⟩
 rw [show s.at' + 0 = s.at' from rfl, ← HPE.out]
 simp only [tokW]
 obtain ⟨W, hW⟩ : ∃ W, W = w1.alloc (.cells #[.int .i64 k, .int .i64 ln, .int .i64 n, .string ⟨st.toArray⟩, .bool op, .bool ti] 48) := ⟨_, rfl⟩
 have hbW : Below u.heap.size u W := by rw [hW]; exact hb1.alloc hb1.size _
 have HIW := Lib.hid (HI.out.later hbW)
 have HBW := Lib.hid hbW
 have hlk := beg_look (u := W.drew) HIW.out.beg.drew k hkd
 rw [hm] at hlk
 simp only [Option.map_some, Option.getD_some, Option.isSome_some] at hlk
 have c3 : W.cell? ⟨E.rb, 3, none⟩ = some (.map (some E.bb)) := (HIW.out.r.blk.cell (i := 3) rfl).trans (congrArg some hbv)
 have hn : W.heap[w1.heap.size]? = some (.cells #[.int .i64 k, .int .i64 ln, .int .i64 n, .string ⟨st.toArray⟩, .bool op, .bool ti] 48 (0, 0)) := by rw [hW]; exact heap_alloc_new w1 _
 obtain ⟨n0, n1, n2, n3, n4, n5, nf⟩ := six_at hn
 clear hb1 hbW hn
 unfold evF at hlk
 go_upto_region 1 with fail
 rw [← hW]
 clear hW
 go_region
 go_wp2_with fail
 refine (HC.out W.drew (HIW.out.later (Below.refl _ _).drew)).mono ?_
 rintro e w2 ho
 have ho2 := ho.after HI.out (below_drewN' HBW.out 1)
 have hlk : True := trivial
 cases r with
 | error a =>
  obtain ⟨hb2, rfl, h2⟩ := ho2
  refine ⟨rfl, ?_⟩
  rw [HRR.out]
  exact ⟨hb2, rfl, h2⟩
 | ok s' =>
  obtain ⟨hb2, rfl, h2⟩ := ho2
  have HB2 := Lib.hid hb2
  have H2 := Lib.hid h2
  clear hb2 h2 ho c3 n0 n1 n2 n3 n4 n5 nf
  go_wp2_with fail
  refine bodyPost_end (v := .tuple #[]) (by simp [results, Tryz.results62, go_sem]) rfl ?_
  rw [HRR.out]
  exact ⟨HB2.out, rfl, H2.out⟩
set_option maxHeartbeats 8000000 in
theorem primary_atom (h : RdInv E u v s fl) (hm : mget begL (peekF E.ts s.at').kind = some 31) (r : Except Nat RdS)
    (hc : ∀ W, RdInv E W v s fl → Calls Tryz.prog 31 #[.pointer (some ⟨E.rb, 0, none⟩), tokW (peekF E.ts s.at')] W fun e u' => RdOut E W u' r e) :
    Calls Tryz.prog 62 #[.pointer (some ⟨E.rb, 0, none⟩)] u fun e u' => RdOut E u u' r e := by
 have hkd := (peek_num h.num s.at').2
 have HI := Lib.hid h
 have HC := Lib.hid hc
 have hbv := h.bv
 clear h hc
 obtain ⟨p1, hp1⟩ : ∃ p, p = peekF E.ts s.at' := ⟨_, rfl⟩
 have HPE := Lib.hid hp1
 rw [← hp1] at hkd hm HC
 clear hp1
 obtain ⟨k, ln, n, st, op, ti⟩ := p1
 simp only at hkd hm
 obtain ⟨R, hR⟩ : ∃ R : Ending → World → Prop, R = fun e u' => RdOut E u u' r e := ⟨_, rfl⟩
 rw [← hR]
 have HRR := Lib.hid hR
 clear hR
 go_enter Tryz.func62, Tryz.ntmps62
 go_wp2_with fail
 refine (peek_any _ E.rb v E.ts s E.B HI.out.r 0 (by omega)).mono ?_
 rintro e w1 ⟨rfl, hb1⟩
 rw [show s.at' + 0 = s.at' from rfl, ← HPE.out]
 simp only [tokW]
 obtain ⟨W, hW⟩ : ∃ W, W = w1.alloc (.cells #[.int .i64 k, .int .i64 ln, .int .i64 n, .string ⟨st.toArray⟩, .bool op, .bool ti] 48) := ⟨_, rfl⟩
 have hbW : Below u.heap.size u W := by rw [hW]; exact hb1.alloc hb1.size _
 have HIW := Lib.hid (HI.out.later hbW)
 have HBW := Lib.hid hbW
 have hlk := beg_look (u := W.drew) HIW.out.beg.drew k hkd
 rw [hm] at hlk
 simp only [Option.map_some, Option.getD_some, Option.isSome_some] at hlk
 have c3 : W.cell? ⟨E.rb, 3, none⟩ = some (.map (some E.bb)) := (HIW.out.r.blk.cell (i := 3) rfl).trans (congrArg some hbv)
 have hn : W.heap[w1.heap.size]? = some (.cells #[.int .i64 k, .int .i64 ln, .int .i64 n, .string ⟨st.toArray⟩, .bool op, .bool ti] 48 (0, 0)) := by rw [hW]; exact heap_alloc_new w1 _
 obtain ⟨n0, n1, n2, n3, n4, n5, nf⟩ := six_at hn
 clear hb1 hbW hn
 unfold evF at hlk
 go_upto_region 1 with fail
 rw [← hW]
 clear hW
 go_region
 go_wp2_with fail
 refine (HC.out W.drew (HIW.out.later (Below.refl _ _).drew)).mono ?_
 rintro e w2 ho
 have ho2 := ho.after HI.out (below_drewN' HBW.out 1)
 have hlk : True := trivial
 cases r with
 | error a =>
  obtain ⟨hb2, rfl, h2⟩ := ho2
  refine ⟨rfl, ?_⟩
  rw [HRR.out]
  exact ⟨hb2, rfl, h2⟩
 | ok s' =>
  obtain ⟨hb2, rfl, h2⟩ := ho2
  have HB2 := Lib.hid hb2
  have H2 := Lib.hid h2
  clear hb2 h2 ho c3 n0 n1 n2 n3 n4 n5 nf
  go_wp2_with fail
  refine bodyPost_end (v := .tuple #[]) (by simp [results, Tryz.results62, go_sem]) rfl ?_
  rw [HRR.out]
  exact ⟨HB2.out, rfl, H2.out⟩
set_option maxHeartbeats 8000000 in
theorem primary_none (h : RdInv E u v s fl) (hm : mget begL (peekF E.ts s.at').kind = none) (r : Except Nat RdS) (hr : r = .error s.at') :
    Calls Tryz.prog 62 #[.pointer (some ⟨E.rb, 0, none⟩)] u fun e u' => RdOut E u u' r e := by
 have hkd := (peek_num h.num s.at').2
 have HI := Lib.hid h
 have hbv := h.bv
 clear h
 obtain ⟨p1, hp1⟩ : ∃ p, p = peekF E.ts s.at' := ⟨_, rfl⟩
 have HPE := Lib.hid hp1
 rw [← hp1] at hkd hm 
 clear hp1
 obtain ⟨k, ln, n, st, op, ti⟩ := p1
 simp only at hkd hm
 obtain ⟨R, hR⟩ : ∃ R : Ending → World → Prop, R = fun e u' => RdOut E u u' r e := ⟨_, rfl⟩
 rw [← hR]
 have HRR := Lib.hid hR
 clear hR
 go_enter Tryz.func62, Tryz.ntmps62
 go_wp2_with fail
 refine (peek_any _ E.rb v E.ts s E.B HI.out.r 0 (by omega)).mono ?_
 rintro e w1 ⟨rfl, hb1⟩
 rw [show s.at' + 0 = s.at' from rfl, ← HPE.out]
 simp only [tokW]
 obtain ⟨W, hW⟩ : ∃ W, W = w1.alloc (.cells #[.int .i64 k, .int .i64 ln, .int .i64 n, .string ⟨st.toArray⟩, .bool op, .bool ti] 48) := ⟨_, rfl⟩
 have hbW : Below u.heap.size u W := by rw [hW]; exact hb1.alloc hb1.size _
 have HIW := Lib.hid (HI.out.later hbW)
 have HBW := Lib.hid hbW
 have hlk := beg_look (u := W.drew) HIW.out.beg.drew k hkd
 rw [hm] at hlk
 simp only [Option.map_none, Option.getD_none, Option.isSome_none] at hlk
 have c3 : W.cell? ⟨E.rb, 3, none⟩ = some (.map (some E.bb)) := (HIW.out.r.blk.cell (i := 3) rfl).trans (congrArg some hbv)
 have hn : W.heap[w1.heap.size]? = some (.cells #[.int .i64 k, .int .i64 ln, .int .i64 n, .string ⟨st.toArray⟩, .bool op, .bool ti] 48 (0, 0)) := by rw [hW]; exact heap_alloc_new w1 _
 obtain ⟨n0, n1, n2, n3, n4, n5, nf⟩ := six_at hn
 clear hb1 hbW hn
 go_upto_region 1 with fail
 rw [← hW]
 clear hW
 go_region
 go_wp2_with fail
 refine (fail_any _ _).mono ?_
 rintro e w2 ⟨rfl, hb2⟩
 have hb3 := HBW.out.trans ((below_call' (Below.refl W.heap.size W).drew hb2).mono HBW.out.size)
 refine ⟨rfl, ?_⟩
 rw [HRR.out, hr]
 exact ⟨HI.out.belE hb3, rfl, s, v, rfl, HI.out.r.later hb3⟩
theorem primary_any (h : RdInv E u v s fl) (hv : s.hv = false) :
    Calls Tryz.prog 62 #[.pointer (some ⟨E.rb, 0, none⟩)] u fun e u' => RdOut E u u' (primaryF (opsOf E.es) E.ts s) e := by
 by_cases h3 : (peekF E.ts s.at').kind = 3
 ·exact primary_number h (by rw [h3]; rfl) _ fun W hW => number_rd hW hv h3
 by_cases h4 : (peekF E.ts s.at').kind = 4
 ·exact primary_named h (by rw [h4]; rfl) _ fun W hW => named_rd hW hv h4
 by_cases h5 : (peekF E.ts s.at').kind = 5
 ·exact primary_codes h (by rw [h5]; rfl) _ fun W hW => codes_rd hW hv h5
 by_cases h6 : (peekF E.ts s.at').kind = 6
 ·exact primary_punct h (by rw [h6]; rfl) _ fun W hW => punct_rd hW hv h6
 by_cases h1 : (peekF E.ts s.at').kind = 1
 ·exact primary_atom h (by rw [h1]; rfl) _ fun W hW => atom_rd hW hv (.inl h1)
 by_cases h2 : (peekF E.ts s.at').kind = 2
 ·exact primary_atom h (by rw [h2]; rfl) _ fun W hW => atom_rd hW hv (.inr h2)
 refine primary_none h (mget_none fun x hx => ?_) _ ?_
 ·simp only [begL, List.mem_cons, List.mem_nil_iff, or_false] at hx
  rcases hx with rfl | rfl | rfl | rfl | rfl | rfl <;> simp only <;> omega
 ·unfold primaryF
  dsimp only
  rw [if_neg h3, if_neg h4, if_neg h5, if_neg h6, if_neg (by omega)]
end
end Go.Proofs.YtiffopheamnngaaGreatDoor
namespace Go.Proofs.YtiffopheamnngaaGreatDoor
open Go.RowKit Go.Maps
set_option maxRecDepth 100000
def WP (E : RdE) (v : RdV) (L : List Nat) (k : Nat) : Prop := k = E.rb ∨ v.wv.ownBlock = some k ∨ k ∈ L
section
variable {E : RdE} {u u' : World} {v : RdV} {s : RdS} {fl : List FrV} {fv : FrV} {f : WaitF} {r : List WaitF} {L : List Nat}
theorem wp_set (hF : Fr (WP E v L) u u') : Fr (WSet E v L) u u' := hF.weak fun _ hk => hk.elim .inl fun e => e.elim (fun e => .inr (.inl e)) fun e => .inr (.inr (.inr (.inr e)))
theorem opL_one : ∀ k ∈ opL [fv], k ∈ opL (fl ++ [fv]) := fun k hk => by rw [opL_app]; exact List.mem_append_right _ hk
theorem Ties.uncons {rb : Nat} {S : Nat → Prop} {a : FrV} {l1 : List FrV} {b : WaitF} {l2 : List WaitF} (h : Ties u rb S (a :: l1) (b :: l2)) : TieF u rb S a b ∧ Ties u rb S l1 l2 := by
 cases h with
 | cons h1 h2 => exact ⟨h1, h2⟩
theorem RdInv.popTies (h : RdInv E u v s (fl ++ [fv])) (hw : s.wait = f :: r) : TieF u E.rb (SOf u (opE E (fl ++ [fv]))) fv f ∧ Ties u E.rb (SOf u (opE E (fl ++ [fv]))) fl.reverse r := by
 have := h.tie
 rw [List.reverse_append, hw] at this
 exact this.uncons
theorem RdInv.nd_far (h : RdInv E u v s (fl ++ [fv])) : (opL fl).Nodup ∧ ∀ k ∈ opL fl, k ∉ opL [fv] := by
 have := h.nd
 rw [opL_app, List.nodup_append] at this
 exact ⟨this.1, fun k hk e => this.2.2 k hk k e rfl⟩
theorem RdInv.wpV (h : RdInv E u v s fl) (hL : ∀ k ∈ L, k ∈ opL fl) (hF : Fr (WP E v L) u u') : VarsAt u' E.mb s.vars := ⟨h.vars.map.keep (hF.block E.mb h.vars.map.lt (by
    rintro (e | e | e)
    ·exact h.mbr e
    ·exact h.vars.map.ne (h.row.ty e) rfl
    ·exact h.vars.map.ne (h.open_ty (hL _ e)).1 rfl)), h.vars.ok⟩
theorem RdInv.wpN (h : RdInv E u v s fl) (hL : ∀ k ∈ L, k ∈ opL fl) (hF : Fr (WP E v L) u u') : NRow u' E.rb v.nv s.names := Row.keep h.nm fun k hk => hF.block k (h.nm.lt k hk).2 (by
    rintro (e | e | e)
    ·have := (h.nm.lt k hk).1; omega
    ·exact (h.nm.ty hk).ne (h.row.ty e) (by decide) rfl
    ·exact (h.nm.ty hk).ne (h.open_ty (hL _ e)).1 (by decide) rfl)
theorem RdInv.popKeep (h : RdInv E u v s (fl ++ [fv])) (hw : s.wait = f :: r) (hF : Fr (WP E v (opL [fv])) u u') {fl' : List FrV} (hl : ∀ b ∈ opL fl', b ∈ opL (fl ++ [fv]) ∨ u.heap.size ≤ b) : Ties u' E.rb (SOf u' (opE E fl')) fl.reverse r :=
 (h.popTies hw).2.step (fun g hg k hk => by
   obtain ⟨h1, h2⟩ := (h.popTies hw).2.ty g hg k hk
   refine hF.block k h1.lt ?_
   rintro (e | e | e)
   ·omega
   ·exact h1.ne (h.row.ty e) (by decide) rfl
   ·exact h.nd_far.2 k (opL_mem (by simpa using hg) hk) e) (h.keepS opL_one (wp_set hF) hl)
theorem RdInv.popDone (h : RdInv E u v s (fl ++ [fv])) (hvv : s.hv = true) (hw : s.wait = f :: r) (hF : Fr (WP E v (opL [fv])) u u') {y : TV} {s' : RdS} {wv1 : Value}
    (r1 : RdAt u' E.rb { v with wv := wv1, x := y } E.ts s' E.B) (hrow : WRow u' E.rb wv1 fl) (hx : TermS u' (SOf u' (opE E fl)) y s'.t) (hs : backF E.ts s f r = .ok s')
    (ew : s'.wait = r) (h1 : s'.vars = s.vars) (h2 : s'.names = s.names) (h3 : s'.cnt = s.cnt) : BelE E u u' ∧ ∃ v' fl', RdInv E u' v' s' fl' := by
 have hl : ∀ b ∈ opL fl, b ∈ opL (fl ++ [fv]) ∨ u.heap.size ≤ b := fun b hb => .inl (by rw [opL_app]; exact List.mem_append_left _ hb)
 refine ⟨h.below opL_one (wp_set hF), _, fl, h.step opL_one (wp_set hF) r1 hrow rfl rfl rfl (by rw [h1]; exact h.wpV opL_one hF) (by rw [h2]; exact h.wpN opL_one hF) hl (by rw [ew]; exact h.popKeep hw hF hl) hx h.nd_far.1 ?_ ?_ (.inl h3) (by rw [h2]; omega)⟩
 ·rw [left_old hvv, hw]
  exact back_less hvv hs
 ·intro w hw2
  rw [ew] at hw2
  exact .inl ⟨w, by rw [hw]; exact List.mem_cons_of_mem _ hw2, by omega⟩
theorem RdInv.popAgain (h : RdInv E u v s (fl ++ [fv])) (hvv : s.hv = true) (hw : s.wait = f :: r) (hF : Fr (WP E v (opL [fv])) u u') {s' : RdS} {wv1 : Value} {fv' : FrV} {f' : WaitF}
    (r1 : RdAt u' E.rb { v with wv := wv1 } E.ts s' E.B) (hrow : WRow u' E.rb wv1 (fl ++ [fv'])) (hl : ∀ k, obF fv' = some k → obF fv = some k ∨ u.heap.size ≤ k)
    (ht : ∀ S, (∀ b, SOf u (opE E (fl ++ [fv])) b → S b ∧ u'.heap[b]? = u.heap[b]?) → TieF u' E.rb S fv' f') (hs : backF E.ts s f r = .ok s')
    (ew : s'.wait = f' :: r) (hlen : f'.l.length ≤ f.l.length + 1) (et : s'.t = s.t) (h1 : s'.vars = s.vars) (h2 : s'.names = s.names) (h3 : s'.cnt = s.cnt) : BelE E u u' ∧ ∃ v' fl', RdInv E u' v' s' fl' := by
 have hl2 : ∀ b ∈ opL (fl ++ [fv']), b ∈ opL (fl ++ [fv]) ∨ u.heap.size ≤ b := fun b hb => by
  rw [opL_app] at hb ⊢
  rcases List.mem_append.1 hb with hb | hb
  ·exact .inl (List.mem_append_left _ hb)
  ·obtain ⟨g, hg, hk⟩ := List.mem_filterMap.1 hb
   rw [List.mem_singleton] at hg
   subst hg
   exact (hl b hk).imp (fun e => List.mem_append_right _ (opL_mem (List.mem_singleton.2 rfl) e)) id
 have hS := h.keepS opL_one (wp_set hF) hl2
 refine ⟨h.below opL_one (wp_set hF), _, fl ++ [fv'], h.step opL_one (wp_set hF) r1 hrow rfl rfl rfl (by rw [h1]; exact h.wpV opL_one hF) (by rw [h2]; exact h.wpN opL_one hF) hl2 ?_ ?_ ?_ ?_ ?_ (.inl h3) (by rw [h2]; omega)⟩
 ·rw [List.reverse_append, ew]
  exact .cons (ht _ hS) (h.popKeep hw hF hl2)
 ·rw [et]
  exact h.x.step hS
 ·rw [opL_app, List.nodup_append]
  refine ⟨h.nd_far.1, ?_, fun a ha b hb e => ?_⟩
  ·unfold opL
   simp only [List.filterMap_cons, List.filterMap_nil]
   cases obF fv' <;> simp
  ·subst e
   obtain ⟨g, hg, hk⟩ := List.mem_filterMap.1 hb
   rw [List.mem_singleton] at hg
   subst hg
   rcases hl a hk with e | e
   ·exact h.nd_far.2 a ha (opL_mem (List.mem_singleton.2 rfl) e)
   ·have := (h.open_ty (by rw [opL_app]; exact List.mem_append_left _ ha)).1.lt; omega
 ·rw [left_old hvv, hw]
  exact back_less hvv hs
 ·intro w hw2
  rw [ew] at hw2
  rcases List.mem_cons.1 hw2 with rfl | hw2
  ·exact .inl ⟨f, by rw [hw]; exact List.mem_cons_self, hlen⟩
  ·exact .inl ⟨w, by rw [hw]; exact List.mem_cons_of_mem _ hw2, by omega⟩
theorem RdInv.rowIn (h : RdInv E u v s (fl ++ [fv])) {A : Option Addr} {n c : Nat} {xs : List TV} (hr : Row u' (E.rb + 1) 34 4 encTV (.slice A n c) xs) (hl : ∀ k, (Value.slice A n c).ownBlock = some k → obF fv = some k ∨ u.heap.size ≤ k) (k : Nat) (hk : (Value.slice A n c).ownBlock = some k) : SOf u' (opE E fl) k := by
 refine ⟨hr.ty hk, fun e => ?_⟩
 rcases List.mem_append.1 e with e | e
 ·rcases hl k hk with e2 | e2
  ·exact h.nd_far.2 k e (opL_mem (List.mem_singleton.2 rfl) e2)
  ·have := (h.open_ty (by rw [opL_app]; exact List.mem_append_left _ e)).1.lt; omega
 ·obtain ⟨p, hp, rfl⟩ := List.mem_map.1 e
  rcases hl p.1 hk with e2 | e2
  ·exact (h.fix p hp).2.1 (by rw [opL_app]; exact List.mem_append_right _ (opL_mem (List.mem_singleton.2 rfl) e2))
  ·have := (Array.getElem?_eq_some_iff.1 (h.fix p hp).1).1; omega
theorem RdInv.popOne (h : RdInv E u v s (fl ++ [fv])) {u6 : World} (ty : TyB u6 72 E.rb) (hF : Fr (WP E v (opL [fv])) u u6) (hF2 : Fr (· = E.rb) (u6.alloc (oneB v)) u') (nm : List UInt8) (hn : nm.length ≤ maxLen) :
    TermS u' (SOf u' (opE E fl)) ⟨4, 0, nm, some ⟨u6.heap.size, 0, none⟩, 1, 1⟩ (compT nm [s.t]) ∧ Fr (WP E v (opL [fv])) u u' := by
 have hx : TermS u6 (SOf u6 (opE E fl)) v.x s.t := h.x.step (h.keepS opL_one (wp_set hF) fun b hb => .inl (by rw [opL_app]; exact List.mem_append_left _ hb))
 have hL : ∀ k ∈ opE E fl, k < u6.heap.size := fun k hk => Nat.lt_of_lt_of_le (h.exl k (by
  unfold opE at *
  rw [opL_app]
  rcases List.mem_append.1 hk with hk | hk
  ·exact List.mem_append_left _ (List.mem_append_left _ hk)
  ·exact List.mem_append_right _ hk)) hF.size
 have h1 := one_term hx hL nm hn
 refine ⟨h1.step fun b hb => ?_, (hF.alloc _).trans (hF2.weak fun _ hk => .inl hk)⟩
 have hne : b ≠ E.rb := hb.1.ne (ty.keep (Below.heap_alloc _ _ _ ty.lt)) (by decide)
 have hk := hF2.block b hb.1.lt hne
 exact ⟨⟨hb.1.keep hk, hb.2⟩, hk⟩
structure PopAt (E : RdE) (u W : World) (v : RdV) (s : RdS) (f : WaitF) (r : List WaitF) (fl : List FrV) (fv : FrV) (wv1 : Value) : Prop where
 r : RdAt W E.rb { v with wv := wv1 } E.ts { s with wait := r, most := f.most } E.B
 row : WRow W E.rb wv1 fl
 fr : Fr (· = E.rb) u W
 blk : W.heap[u.heap.size]? = some (.cells #[.int .i64 fv.use, .int .i64 fv.most, .string ⟨fv.name.toArray⟩, .int .i64 fv.pri, .slice fv.A fv.len fv.cap] 120 (0, 0))
theorem RdInv.popped (h : RdInv E u v s (fl ++ [fv])) (hw : s.wait = f :: r) {g cap : Nat} (hsh : v.wv = .slice (some ⟨g, 0, none⟩) (fl.length + 1) cap) {W : World}
    (hW : W = (((u.setCell ⟨E.rb, 4, none⟩ (.slice (some ⟨g, 0, none⟩) fl.length cap)).setCell ⟨E.rb, 5, none⟩ (.int .i64 fv.most)).alloc (.cells #[.int .i64 fv.use, .int .i64 fv.most, .string ⟨fv.name.toArray⟩, .int .i64 fv.pri, .slice fv.A fv.len fv.cap] 120)).drew.drew) :
    PopAt E u W v s f r fl fv (.slice (some ⟨g, 0, none⟩) fl.length cap) := by
 have hF : Fr (· = E.rb) u W := by
  rw [hW]
  exact (((((Fr.refl (· = E.rb) u).setCell (p := ⟨E.rb, 4, none⟩) (.inl rfl) _).setCell (p := ⟨E.rb, 5, none⟩) (.inl rfl) _).alloc _).drew).drew
 have hm := (h.popTies hw).1.most
 have hrow := h.row
 rw [hsh] at hrow
 refine ⟨?_, WRow.fr (Row.front encFr_len hrow) hF, hF, ?_⟩
 ·rw [hW]
  have r1 := h.r.put (v' := { v with wv := .slice (some ⟨g, 0, none⟩) fl.length cap }) (s' := { s with wait := r }) 4 (.slice (some ⟨g, 0, none⟩) fl.length cap) (by simp [rdCells]) rfl rfl h.r.in'
  have r2 := r1.put (v' := { v with wv := .slice (some ⟨g, 0, none⟩) fl.length cap }) (s' := { s with wait := r, most := f.most }) 5 (.int .i64 fv.most) (by rw [hm]; simp [rdCells]) rfl rfl h.r.in'
  exact r2.later (((Below.refl _ _).alloc (Nat.le_refl _) _).drew.drew)
 ·rw [hW]
  have := heap_alloc_new ((u.setCell ⟨E.rb, 4, none⟩ (.slice (some ⟨g, 0, none⟩) fl.length cap)).setCell ⟨E.rb, 5, none⟩ (.int .i64 fv.most)) (.cells #[.int .i64 fv.use, .int .i64 fv.most, .string ⟨fv.name.toArray⟩, .int .i64 fv.pri, .slice fv.A fv.len fv.cap] 120)
  rw [show ((u.setCell ⟨E.rb, 4, none⟩ (.slice (some ⟨g, 0, none⟩) fl.length cap)).setCell ⟨E.rb, 5, none⟩ (.int .i64 fv.most)).heap.size = u.heap.size by simp [World.setCell]] at this
  exact this
theorem wp_rb {L : List Nat} (hF : Fr (· = E.rb) u u') : Fr (WP E v L) u u' := hF.weak fun _ hk => .inl hk
theorem RdInv.popComp (h : RdInv E u v s (fl ++ [fv])) (hF : Fr (WP E v (opL [fv])) u u') {A : Option Addr} {n c : Nat} {xs : List TV} {l : List Tm} (hx : TermsS u (SOf u (opE E (fl ++ [fv]))) xs l)
    (hr : Row u' (E.rb + 1) 34 4 encTV (.slice A n c) (xs ++ [v.x])) (hl : ∀ k, (Value.slice A n c).ownBlock = some k → obF fv = some k ∨ u.heap.size ≤ k) (nm : List UInt8) (hn : nm.length ≤ maxLen) :
    TermS u' (SOf u' (opE E fl)) ⟨4, 0, nm, A, n, c⟩ (compT nm (l ++ [s.t])) := by
 have hS := h.keepS opL_one (wp_set hF) (fl' := fl) fun b hb => .inl (by rw [opL_app]; exact List.mem_append_left _ hb)
 exact ((hx.step hS).snoc (h.x.step hS)).comp hr rfl (h.rowIn hr hl) nm hn 4 0
structure PushAt (E : RdE) (u w9 : World) (v : RdV) (s : RdS) (f : WaitF) (r : List WaitF) (fl : List FrV) (fv : FrV) (wv1 : Value) (xs : List TV) (g9 cap9 : Nat) : Prop where
 r : RdAt w9 E.rb { v with wv := wv1 } E.ts { s with wait := r, most := f.most } E.B
 wrow : WRow w9 E.rb wv1 fl
 fr : Fr (WP E v (opL [fv])) u w9
 blk : w9.heap[u.heap.size]? = some (.cells #[.int .i64 fv.use, .int .i64 fv.most, .string ⟨fv.name.toArray⟩, .int .i64 fv.pri, .slice fv.A fv.len fv.cap] 120 (0, 0))
 row : Row w9 (E.rb + 1) 34 4 encTV (.slice (some ⟨g9, 0, none⟩) (fv.len + 1) cap9) (xs ++ [v.x])
 own : ∀ k, (Value.slice (some ⟨g9, 0, none⟩) (fv.len + 1) cap9).ownBlock = some k → obF fv = some k ∨ u.heap.size ≤ k
 terms : TermsS u (SOf u (opE E (fl ++ [fv]))) xs f.l
theorem RdInv.pushX {W : World} {wv1 : Value} (h : RdInv E u v s (fl ++ [fv])) (hw : s.wait = f :: r) (hp : PopAt E u W v s f r fl fv wv1) :
    ∃ xs g9 cap9 w9, (Builtin.append_ #[32, 32] 32 #[.slice fv.A fv.len fv.cap, .slice (some ⟨W.heap.size, 0, none⟩) 1 1]).run Tryz.prog (W.alloc (oneB v)).drew = .ok (.slice (some ⟨g9, 0, none⟩) (fv.len + 1) cap9) w9 ∧
     PushAt E u w9 v s f r fl fv wv1 xs g9 cap9 := by
 have ht := (h.popTies hw).1
 obtain ⟨xs, hr, hx⟩ := ht.row
 obtain ⟨i, z, h1, h2, h3, h4, h5⟩ := term_info
 have hob : ∀ k, (Value.slice fv.A fv.len fv.cap).ownBlock = some k → k ∈ opL [fv] := fun k hk => opL_mem (List.mem_singleton.2 rfl) hk
 have hop : ∀ k, k ∈ opL [fv] → TyB u 34 k ∧ E.rb < k := fun k hk => h.open_ty (opL_one k hk)
 have hrb := h.r.blk.lt
 have hrW : Row W (E.rb + 1) 34 4 encTV (.slice fv.A fv.len fv.cap) xs := hr.keep fun k hk => hp.fr.block k (hr.lt k hk).2 (by have := (hr.lt k hk).1; omega)
 have hlen : xs.length = f.l.length := hx.1
 have hfl : fv.len = xs.length := hr.len
 have hll := h.ll f (by rw [hw]; exact List.mem_cons_self)
 have hszW : W.heap.size ≤ (W.alloc (oneB v)).drew.heap.size := by simp [World.drew]
 have hbW : Below W.heap.size W (W.alloc (oneB v)).drew := ((Below.refl _ _).alloc (Nat.le_refl _) _).drew
 obtain ⟨g9, cap9, w9, hr9, hR9, hg9, ho9⟩ := Row.push (P := Tryz.prog) 32 Tryz.underlying32 h1 h2 h3 h4 (by rw [h5]; rfl) (by decide) encTV_len encTV_one (w := (W.alloc (oneB v)).drew) (hrW.later hbW) v.x W.heap.size 1
  (fun j x hx => cell_made W _ _ j x (by simpa [encTV] using hx)) (by unfold maxLen; omega) (by omega) (Nat.le_trans (by have := hp.fr.size; omega) hszW)
 rw [← hfl] at hr9 hR9
 have hszu : u.heap.size ≤ W.heap.size := hp.fr.size
 have hlt : ∀ k, k < W.heap.size → k ∉ opL [fv] → w9.heap[k]? = W.heap[k]? := fun k hk hn => by
  rw [hg9.block k (Nat.lt_of_lt_of_le hk hszW) (fun e => hn (hob k e.symm))]
  exact hbW.block k hk
 have hbs : u.heap.size < W.heap.size := (Array.getElem?_eq_some_iff.1 hp.blk).1
 have hnb : u.heap.size ∉ opL [fv] := fun e => by have := (hop _ e).1.lt; omega
 refine ⟨xs, g9, cap9, w9, hr9, ?_, ?_, ?_, ?_, hR9, ?_, hx⟩
 ·exact hp.r.keep (hlt E.rb (by omega) fun e => by have := (hop _ e).2; omega) fun k hk => hlt k (by have := h.r.base; omega) fun e => by have := (hop _ e).2; have := h.r.base; omega
 ·exact Row.keep hp.row fun k hk => hlt k (hp.row.lt k hk).2 fun e => (hp.row.ty hk).ne ((hop _ e).1.keep (hp.fr.block k (hop _ e).1.lt (by have := (hop _ e).2; omega))) (by decide) rfl
 ·exact fr_grown (hp.fr.weak fun _ hk => .inl hk) hbW hg9 fun k hk => .inr (.inr (hob k hk))
 ·rw [hlt _ hbs hnb]
  exact hp.blk
 ·intro k hk
  injection hk with hk
  subst hk
  rcases ho9 with e | e
  ·exact .inl e
  ·exact .inr (by rw [e]; exact Nat.le_trans hszu hszW)
def frN (fv : FrV) (U : Int) (g9 cap9 : Nat) : FrV := ⟨U, fv.most, fv.name, fv.pri, some ⟨g9, 0, none⟩, fv.len + 1, cap9⟩
structure SetAt (E : RdE) (u w : World) (v : RdV) (s : RdS) (f : WaitF) (r : List WaitF) (fl : List FrV) (fv : FrV) (wv1 : Value) (xs : List TV) (g9 cap9 : Nat) : Prop where
 r : RdAt w E.rb { v with wv := wv1 } E.ts { s with wait := r, most := f.most } E.B
 wrow : WRow w E.rb wv1 fl
 fr : Fr (WP E v (opL [fv])) u w
 blk : w.heap[u.heap.size]? = some (.cells #[.int .i64 fv.use, .int .i64 fv.most, .string ⟨fv.name.toArray⟩, .int .i64 fv.pri, .slice (some ⟨g9, 0, none⟩) (fv.len + 1) cap9] 120 (0, 0))
 row : Row w (E.rb + 1) 34 4 encTV (.slice (some ⟨g9, 0, none⟩) (fv.len + 1) cap9) (xs ++ [v.x])
 own : ∀ k, (Value.slice (some ⟨g9, 0, none⟩) (fv.len + 1) cap9).ownBlock = some k → obF fv = some k ∨ u.heap.size ≤ k
 terms : TermsS u (SOf u (opE E (fl ++ [fv]))) xs f.l
theorem PushAt.set {w9 : World} {wv1 : Value} {xs : List TV} {g9 cap9 : Nat} (h : PushAt E u w9 v s f r fl fv wv1 xs g9 cap9) (hrb : E.rb < u.heap.size) (hwv : ∀ k, wv1.ownBlock = some k → k < u.heap.size) :
    SetAt E u (w9.setCell ⟨u.heap.size, 4, none⟩ (.slice (some ⟨g9, 0, none⟩) (fv.len + 1) cap9)) v s f r fl fv wv1 xs g9 cap9 := by
 have hk : ∀ k, k ≠ u.heap.size → (w9.setCell ⟨u.heap.size, 4, none⟩ (.slice (some ⟨g9, 0, none⟩) (fv.len + 1) cap9)).heap[k]? = w9.heap[k]? := fun k hk => Below.heap_setCell _ _ _ _ hk
 have hne : E.rb ≠ u.heap.size := fun e => by
  have h1 := h.r.blk
  unfold RdB at h1
  rw [e, h.blk] at h1
  injection h1 with h1
  injection h1 with _ h1
  exact absurd h1 (by decide)
 have htf : TyB w9 120 u.heap.size := ⟨_, h.blk⟩
 refine ⟨h.r.keep (hk _ hne) fun k hb => hk k ?_, Row.keep h.wrow fun k hb => hk k ?_, h.fr.setCell (.inr (Nat.le_refl _)) _, ?_, Row.keep h.row fun k hb => hk k ?_, h.own, h.terms⟩
 ·have := h.r.base; omega
 ·have := hwv k hb; omega
 ·exact blk_put h.blk _
 ·exact (h.row.ty hb).ne htf (by decide)
theorem opE_sub : ∀ b ∈ opE E fl, b ∈ opE E (fl ++ [fv]) := fun b hb => by
 unfold opE at *
 rw [opL_app]
 rcases List.mem_append.1 hb with hb | hb
 ·exact List.mem_append_left _ (List.mem_append_left _ hb)
 ·exact List.mem_append_right _ hb
theorem RdInv.popX (h : RdInv E u v s (fl ++ [fv])) (hF : Fr (WP E v (opL [fv])) u u') : TermS u' (SOf u' (opE E fl)) v.x s.t :=
 h.x.step (h.keepS opL_one (wp_set hF) fun b hb => .inl (by rw [opL_app]; exact List.mem_append_left _ hb))
end
end Go.Proofs.YtiffopheamnngaaGreatDoor
namespace Go.Proofs.YtiffopheamnngaaGreatDoor
open Go.RowKit Go.Maps
set_option maxRecDepth 100000
section
variable {E : RdE} {u u' : World} {v : RdV} {s : RdS} {fl : List FrV} {fv : FrV} {f : WaitF} {r : List WaitF}
theorem frame_ne {W : World} {b : Nat} {cs : Array Value} (h : W.heap[b]? = some (.cells cs 120 (0, 0))) {rb : Nat} {v : RdV} {s : RdS} (hr : RdB W rb v s) : b ≠ rb := fun e => by
 rw [e, show W.heap[rb]? = _ from hr] at h
 injection h with h
 injection h with _ h
 exact absurd h (by decide)
theorem RdInv.popOn (h : RdInv E u v s (fl ++ [fv])) (hvv : s.hv = true) (hw : s.wait = f :: r) {g cap g9 cap9 : Nat} {w w2 : World} {xs : List TV} {wv' : Value} {s' : RdS} {U : Int}
    (hsh : v.wv = .slice (some ⟨g, 0, none⟩) (fl.length + 1) cap) (hS : SetAt E u w v s f r fl fv (.slice (some ⟨g, 0, none⟩) fl.length cap) xs g9 cap9)
    (hF : Fr (fun k => k = E.rb ∨ (Value.slice (some ⟨g, 0, none⟩) fl.length cap).ownBlock = some k) w w2)
    (r1 : RdAt w2 E.rb { v with wv := wv' } E.ts s' E.B) (r2 : WRow w2 E.rb wv' (fl ++ [frN fv U g9 cap9])) (hs : backF E.ts s f r = .ok s') (ew : s'.wait = { f with use := U, l := f.l ++ [s.t] } :: r) (et : s'.t = s.t) (h1 : s'.vars = s.vars) (h2 : s'.names = s.names) (h3 : s'.cnt = s.cnt) :
    BelE E u w2 ∧ ∃ v' fl', RdInv E w2 v' s' fl' := by
 have hF2 : Fr (WP E v (opL [fv])) u w2 := hS.fr.trans (hF.weak fun k hk => hk.elim .inl fun e => .inr (.inl (by rw [hsh]; exact e)))
 have ht := (h.popTies hw).1
 refine h.popAgain hvv hw hF2 r1 r2 hS.own (fun S hSS => ?_) hs ew (by simp) et h1 h2 h3
 refine ⟨rfl, ht.most, ht.name, ht.pri, ht.short, xs ++ [v.x], ?_, (hS.terms.step hSS).snoc (h.x.step hSS)⟩
 refine Row.keep hS.row fun k hk => hF.block k (hS.row.lt k hk).2 ?_
 rintro (e | e)
 ·have := (hS.row.lt k hk).1; omega
 ·exact (hS.row.ty hk).ne (hS.wrow.ty e) (by decide) rfl
set_option maxHeartbeats 16000000 in
theorem items_any (h : RdInv E u v s (fl ++ [fv])) (hvv : s.hv = true) (hw : s.wait = f :: r) (hu : f.use = 3) {g cap g9 cap9 : Nat} {w : World} {xs : List TV}
    (hsh : v.wv = .slice (some ⟨g, 0, none⟩) (fl.length + 1) cap) (hS : SetAt E u w v s f r fl fv (.slice (some ⟨g, 0, none⟩) fl.length cap) xs g9 cap9) :
    Calls Tryz.prog 88 #[.pointer (some ⟨E.rb, 0, none⟩), frV (frN fv 3 g9 cap9)] w fun e u' => RdOut E u u' (backF E.ts s f r) e := by
 obtain ⟨res, hres⟩ : ∃ res, res = backF E.ts s f r := ⟨_, rfl⟩
 have hr0 : backF E.ts s f r = (let s1 : RdS := { s with wait := r, most := f.most }
     if isP E.ts s.at' 44 then .ok ((s1.go 1).again { f with use := 3, l := f.l ++ [s.t] } 999)
     else if isP E.ts s.at' 124 then .ok ((s1.go 1).again { f with use := 4, l := f.l ++ [s.t] } 999)
     else (s1.expect E.ts 93).map fun s => s.done (listT (f.l ++ [s1.t]) nilT) 0) := by
  obtain ⟨fu, fm, fn, fp, flst⟩ := f
  simp only at hu
  subst hu
  rfl
 simp only at hr0
 have HRES := Lib.hid hres
 rw [← hres]
 clear hres
 obtain ⟨R, hR⟩ : ∃ R : Ending → World → Prop, R = fun e u' => RdOut E u u' res e := ⟨_, rfl⟩
 rw [← hR]
 have HRR := Lib.hid hR
 clear hR
 have HI := Lib.hid h
 have HS := Lib.hid hS
 have HSH := Lib.hid hsh
 have H0 := Lib.hid hr0
 have HWT := Lib.hid hw
 have hlen := h.waits
 rw [List.length_append] at hlen
 have HB0 : Hid (Below w.heap.size w (w.alloc (.cells #[.int .i64 3, .int .i64 fv.most, .string ⟨fv.name.toArray⟩, .int .i64 fv.pri, .slice (some ⟨g9, 0, none⟩) (fv.len + 1) cap9] 120))) := Lib.hid ((Below.refl _ _).alloc (Nat.le_refl _) _)
 obtain ⟨W, hW⟩ : ∃ W, W = w.alloc (.cells #[.int .i64 3, .int .i64 fv.most, .string ⟨fv.name.toArray⟩, .int .i64 fv.pri, .slice (some ⟨g9, 0, none⟩) (fv.len + 1) cap9] 120) := ⟨_, rfl⟩
 have hbk : W.heap[w.heap.size]? = some (.cells #[.int .i64 3, .int .i64 fv.most, .string ⟨fv.name.toArray⟩, .int .i64 fv.pri, .slice (some ⟨g9, 0, none⟩) (fv.len + 1) cap9] 120 (0, 0)) := by rw [hW]; exact heap_alloc_new w _
 have hbW : Below w.heap.size w W := by rw [hW]; exact (Below.refl _ _).alloc (Nat.le_refl _) _
 have HRW := Lib.hid (hS.r.later hbW)
 have HBK := Lib.hid hbk
 have HBW := Lib.hid hbW
 clear h hS hsh hr0 hw hbk hbW HB0
 unfold frV frN
 go_enter Tryz.func88, Tryz.ntmps88
 go_wp2_with fail
 rw [← hW]
 clear hW
 refine (accept_any W E.rb _ E.ts _ E.B HRW.out 44).mono ?_
 rintro e w1 ⟨rfl, h1, hF1⟩
 rw [show ({ s with wait := r, most := f.most } : RdS).at' = s.at' from rfl] at h1 ⊢
 have hne := frame_ne HBK.out HRW.out.blk
 have HNE := Lib.hid hne
 have hb1 := (hF1.block w.heap.size (Array.getElem?_eq_some_iff.1 HBK.out).1 hne).trans HBK.out
 have HB1 := Lib.hid hb1
 have HF1 := Lib.hid ((Fr.of_below (· = E.rb) HBW.out).trans hF1)
 obtain ⟨m0, m1, m2, m3, m4, mf⟩ := five_at hb1
 clear hF1 hne hb1
 cases hq : isP E.ts s.at' 44 with
 | true =>
  rw [hq, if_pos rfl] at h1
  have H1 := Lib.hid h1
  have h2 := H0.out
  rw [hq, if_pos rfl] at h2
  have H2 := Lib.hid h2
  have hrow1 := WRow.fr HS.out.wrow HF1.out
  have HW1 := Lib.hid hrow1
  clear h1 h2 hrow1
  go_wp2_with fail
  refine (again_any w1 E.rb _ E.ts _ E.B H1.out fl HW1.out (by omega) (frN fv 3 g9 cap9) 999 { f with use := 3, l := f.l ++ [s.t] }).mono ?_
  rintro e w2 ⟨rfl, wv', r1, r2, r3⟩
  have R1 := Lib.hid r1
  have R2 := Lib.hid r2
  have R3 := Lib.hid r3
  clear r1 r2 r3
  go_wp2_with fail
  refine bodyPost_end (v := .tuple #[]) (by simp [results, Tryz.results88, go_sem]) rfl ?_
  rw [HRR.out, HRES.out, H2.out]
  have hd := HI.out.popOn hvv HWT.out HSH.out HS.out ((HF1.out.weak fun _ hk => .inl hk).trans R3.out) R1.out R2.out H2.out rfl rfl rfl rfl rfl
  exact ⟨hd.1, rfl, hd.2⟩
 | false =>
  rw [hq, if_neg (by simp)] at h1
  have H1 := Lib.hid h1
  have h2 := H0.out
  rw [hq, if_neg (by simp)] at h2
  have H2 := Lib.hid h2
  clear h1 h2
  go_wp2_with fail
  refine (accept_any w1 E.rb _ E.ts _ E.B H1.out 124).mono ?_
  rintro e w2 ⟨rfl, h1, hF1⟩
  rw [show ({ s with wait := r, most := f.most } : RdS).at' = s.at' from rfl] at h1 ⊢
  have hb2 := (hF1.block w.heap.size (Array.getElem?_eq_some_iff.1 HB1.out).1 HNE.out).trans HB1.out
  have HB2 := Lib.hid hb2
  have HF2 := Lib.hid (HF1.out.trans hF1)
  clear m0 m1 m2 m3 m4 mf
  obtain ⟨m0, m1, m2, m3, m4, mf⟩ := five_at hb2
  clear hF1 hb2
  cases hq2 : isP E.ts s.at' 124 with
  | true =>
   rw [hq2, if_pos rfl] at h1
   have h2 := H2.out
   rw [hq2, if_pos rfl] at h2
   have H3 := Lib.hid h2
   have h4 : RdAt (w2.setCell ⟨w.heap.size, 0, none⟩ (.int .i64 4)) E.rb { v with wv := .slice (some ⟨g, 0, none⟩) fl.length cap } E.ts (({ s with wait := r, most := f.most } : RdS).go 1) E.B :=
    h1.keep (Below.heap_setCell _ _ _ _ (fun e => HNE.out e.symm)) fun k hk => Below.heap_setCell _ _ _ _ (by have := HS.out.r.base; have := HS.out.r.blk.lt; simp only; omega)
   have H4 := Lib.hid h4
   have HF4 : Hid (Fr (fun k => k = E.rb ∨ (Value.slice (some ⟨g, 0, none⟩) fl.length cap).ownBlock = some k) w (w2.setCell ⟨w.heap.size, 0, none⟩ (.int .i64 4))) := Lib.hid ((HF2.out.weak fun _ hk => .inl hk).setCell (.inr (Nat.le_refl _)) _)
   have HW4 : Hid (WRow (w2.setCell ⟨w.heap.size, 0, none⟩ (.int .i64 4)) E.rb (.slice (some ⟨g, 0, none⟩) fl.length cap) fl) := Lib.hid (Row.keep (WRow.fr HS.out.wrow HF2.out) fun k hk => Below.heap_setCell _ _ _ _ (by have := (HS.out.wrow.lt k hk).2; simp only; omega))
   clear h1 h2 h4
   go_wp2_with fail
   refine (again_any _ E.rb _ E.ts _ E.B H4.out fl HW4.out (by omega) (frN fv 4 g9 cap9) 999 { f with use := 4, l := f.l ++ [s.t] }).mono ?_
   rintro e w3 ⟨rfl, wv', r1, r2, r3⟩
   have R1 := Lib.hid r1
   have R2 := Lib.hid r2
   have R3 := Lib.hid r3
   clear r1 r2 r3
   go_wp2_with fail
   refine bodyPost_end (v := .tuple #[]) (by simp [results, Tryz.results88, go_sem]) rfl ?_
   rw [HRR.out, HRES.out, H3.out]
   have hd := HI.out.popOn hvv HWT.out HSH.out HS.out (HF4.out.trans R3.out) R1.out R2.out H3.out rfl rfl rfl rfl rfl
   exact ⟨hd.1, rfl, hd.2⟩
  | false =>
   rw [hq2, if_neg (by simp)] at h1
   have H3 := Lib.hid h1
   have h2 := H2.out
   rw [hq2, if_neg (by simp)] at h2
   have H4 := Lib.hid h2
   clear h1 h2
   go_wp2_with fail
   refine (expect_any w2 E.rb _ E.ts _ E.B H3.out 93).mono ?_
   rintro e w3 ⟨hF1, h1⟩
   rw [show ({ s with wait := r, most := f.most } : RdS).at' = s.at' from rfl] at h1
   have hb3 := (hF1.block w.heap.size (Array.getElem?_eq_some_iff.1 HB2.out).1 HNE.out).trans HB2.out
   have HF3 := Lib.hid (HF2.out.trans hF1)
   clear m0 m1 m2 m3 m4 mf
   obtain ⟨m0, m1, m2, m3, m4, mf⟩ := five_at hb3
   clear hF1 hb3
   have hF5 : Fr (WP E v (opL [fv])) u w3 := HS.out.fr.trans (wp_rb HF3.out)
   have HF5 := Lib.hid hF5
   clear hF5
   cases hq3 : isP E.ts s.at' 93 with
   | false =>
    rw [hq3, if_neg (by simp)] at h1
    obtain ⟨rfl, h1⟩ := h1
    have h2 := H4.out
    unfold RdS.expect at h2
    rw [show ({ s with wait := r, most := f.most } : RdS).at' = s.at' from rfl, hq3] at h2
    refine ⟨rfl, ?_⟩
    rw [HRR.out, HRES.out, h2]
    exact ⟨HI.out.below opL_one (wp_set HF5.out), rfl, { s with wait := r, most := f.most }, _, rfl, h1⟩
   | true =>
    rw [hq3, if_pos rfl] at h1
    obtain ⟨rfl, h1⟩ := h1
    have h2 := H4.out
    unfold RdS.expect at h2
    rw [show ({ s with wait := r, most := f.most } : RdS).at' = s.at' from rfl, hq3] at h2
    have H5 : Hid (backF E.ts s f r = .ok ((({ s with wait := r, most := f.most } : RdS).go 1).done (listT (f.l ++ [s.t]) nilT) 0)) := Lib.hid h2
    have H6 := Lib.hid h1
    have hr3 : Row w3 (E.rb + 1) 34 4 encTV (.slice (some ⟨g9, 0, none⟩) (fv.len + 1) cap9) (xs ++ [v.x]) := Row.keep HS.out.row fun k hk => HF3.out.block k (HS.out.row.lt k hk).2 (by have := (HS.out.row.lt k hk).1; omega)
    have hSS := HI.out.keepS opL_one (wp_set HF5.out) (fl' := fl) fun b hb => .inl (by rw [opL_app]; exact List.mem_append_left _ hb)
    have hx3 : TermsS w3 (SOf w3 (opE E fl)) (xs ++ [v.x]) (f.l ++ [s.t]) := (HS.out.terms.step hSS).snoc (HI.out.x.step hSS)
    have hL : ∀ k ∈ opE E fl, k < w3.heap.size := fun k hk => Nat.lt_of_lt_of_le (HI.out.exl k (opE_sub k hk)) HF5.out.size
    have hll := HI.out.ll f (by rw [HWT.out]; exact List.mem_cons_self)
    have hfl : fv.len + 1 = f.l.length + 1 := by
     have h7 := hx3.1
     have h8 := hr3.len
     rw [List.length_append] at h7 h8
     rw [List.length_append] at h7
     simp only [sliceLen, List.length_cons, List.length_nil] at h7 h8
     omega
    have HL3 := Lib.hid (list_any w3 (opE E fl) hL (some ⟨g9, 0, none⟩) (fv.len + 1) cap9 (xs ++ [v.x]) (f.l ++ [s.t]) (SlTerms.row hr3) hx3 ⟨3, 0, [91, 93], none, 0, 0⟩ nilT (.leaf _ _ _ _ _ _ _ (by unfold maxLen; simp)) (by omega))
    clear h1 h2 hr3 hSS hx3 hL hll hfl
    go_wp2_with fail
    refine HL3.out.mono ?_
    rintro e w4 ⟨y', rfl, ht2, hb2⟩
    have HT2 := Lib.hid ht2
    have HG2 := Lib.hid (H6.out.later hb2)
    have HF6 := Lib.hid (HF5.out.step hb2)
    have HW6 := Lib.hid (WRow.fr (WRow.fr HS.out.wrow HF3.out) (.of_below _ hb2))
    clear ht2 hb2
    unfold tvV
    go_wp2_with fail
    refine (done_any w4 E.rb _ E.ts _ E.B HG2.out y' (listT (f.l ++ [s.t]) nilT) 0).mono ?_
    rintro e w5 ⟨rfl, r1, r2⟩
    have R1 := Lib.hid r1
    have R2 := Lib.hid r2
    clear r1 r2
    go_wp2_with fail
    refine bodyPost_end (v := .tuple #[]) (by simp [results, Tryz.results88, go_sem]) rfl ?_
    rw [HRR.out, HRES.out, H5.out]
    have hx5 : TermS w5 (SOf w5 (opE E fl)) y' (listT (f.l ++ [s.t]) nilT) := HT2.out.step fun b hb => by
     have hne : b ≠ E.rb := hb.1.ne ⟨_, HG2.out.blk⟩ (by decide)
     have hk := R2.out.block b hb.1.lt hne
     exact ⟨⟨hb.1.keep hk, hb.2⟩, hk⟩
    have hd := HI.out.popDone hvv HWT.out (HF6.out.trans (wp_rb R2.out)) R1.out (WRow.fr HW6.out R2.out) hx5 H5.out rfl rfl rfl rfl
    exact ⟨hd.1, rfl, hd.2⟩
end
end Go.Proofs.YtiffopheamnngaaGreatDoor
