import Derived.Test.YtjdnigepnfeboaaGreatDoorJG26
import Derived.Test.YtjdnigepnfeboaaGreatDoorJG31
namespace Go.Proofs.YtjdnigepnfeboaaGreatDoor
open Go.RowKit Go.Maps
set_option maxRecDepth 100000
variable [Base]
set_option linter.unusedSectionVars false
theorem mk_map3 (w : World) (n : Nat) : (Instr.makeMap 104 (some (.int .i64 (n : Nat)))).run Tryz.prog w = .ok (.map (some w.heap.size)) (w.alloc (.map #[] 0)) := by
 simp [Instr.makeMap, Result.andThen, asInt, asIntOf]
structure AskM (u : World) (r mb cb : Nat) (L left : List (Int × Int)) (m : List (Int × Int)) (wr : World) : Prop where
 it : RangeAt wr r mb ev6 ev6 L left
 map : M6 wr cb m
 below : Below u.heap.size u wr
 r : u.heap.size ≤ r ∧ u.heap.size ≤ cb ∧ cb ≠ mb ∧ cb ≠ r
set_option maxHeartbeats 16000000 in
theorem ask_eq (u : World) (rb room : Nat) (r : RC) (cv bv : Value) (xs : List ScM) (cs : List Sc) (ys : List (Nat × Int)) (A : Option Addr) (a b c : Nat) (X Y : Tm)
    (hrun : RunAt u rb r) (hs : StAt r.sb room u cv bv xs cs ys) (hn : VarNil cs) (hA : ArgsAt u A [a, b]) (ha : Got cs a X) (hb : Got cs b Y) (hmX : X.may = true ∧ Y.may = true) (h6 : (∀ n ∈ vrT X, ok6 n) ∧ ∀ n ∈ vrT Y, ok6 n) (hsz : X.size ≤ 1000 ∧ Y.size ≤ 1000) :
    Calls Tryz.prog 136 #[.pointer (some ⟨rb, 0, none⟩), .slice A 2 c, .agg #[.string ⟨#[61, 61]⟩, .int .i64 2], .func (Fn.func 138) #[] #[]] u fun e u' =>
     ∃ ok : Bool, e = .returned (.int .i64 (outI ok)) ∧ (ok = true ↔ (renT X []).1 = (renT Y (renT X []).2).1) ∧ Below u.heap.size u u' := by
 obtain ⟨P, hP⟩ : ∃ P : Ending → World → Prop, P = fun e u' => ∃ ok : Bool, e = .returned (.int .i64 (outI ok)) ∧ (ok = true ↔ (renT X []).1 = (renT Y (renT X []).2).1) ∧ Below u.heap.size u u' := ⟨_, rfl⟩
 rw [← hP]
 have HP := Lib.hid hP
 obtain ⟨U, hU⟩ : ∃ U, U = (((u.alloc (.cells #[.string ⟨#[61, 61]⟩, .int .i64 2] 153)).alloc (.map #[] 0)).alloc (.cells #[.map (some (u.heap.size + 1)), .int .i64 0] 325)) := ⟨_, rfl⟩
 obtain ⟨ob, hob⟩ : ∃ ob, ob = u.heap.size := ⟨_, rfl⟩
 obtain ⟨mb, hmb⟩ : ∃ mb, mb = u.heap.size + 1 := ⟨_, rfl⟩
 obtain ⟨nb, hnb⟩ : ∃ nb, nb = u.heap.size + 1 + 1 := ⟨_, rfl⟩
 have hbU : Below u.heap.size u U := by rw [hU]; exact (((Below.refl _ _).alloc (Nat.le_refl _) _).alloc (by simp) _).alloc (by simp; omega) _
 have hRn : RnAt nb mb U [] := by
  refine ⟨?_, ?_⟩
  ·rw [hU, hnb, hmb]
   have := heap_alloc_new ((u.alloc (.cells #[.string ⟨#[61, 61]⟩, .int .i64 2] 153)).alloc (.map #[] 0)) (.cells #[.map (some (u.heap.size + 1)), .int .i64 0] 325)
   rwa [World.size_alloc, World.size_alloc] at this
  ·have h1 := M6.made (u.alloc (.cells #[.string ⟨#[61, 61]⟩, .int .i64 2] 153))
   rw [World.size_alloc] at h1
   rw [hU, hmb]
   exact h1.later ((Below.refl _ _).alloc (Nat.le_refl _) _)
 have hoz : U.heap[ob]? = some (.cells #[.string ⟨#[61, 61]⟩, .int .i64 2] 153 (0, 0)) := by
  rw [hU, hob, Below.heap_alloc _ _ _ (by simp; omega), Below.heap_alloc _ _ _ (by simp)]
  exact heap_alloc_new _ _
 obtain ⟨W, hW⟩ : ∃ W, W = U.alloc (.cells ((List.replicate 2 zTV).flatMap encTV).toArray 27) := ⟨_, rfl⟩
 obtain ⟨tb, htb⟩ : ∃ tb, tb = U.heap.size := ⟨_, rfl⟩
 have hmk := run_terms U 2 (by omega)
 have hmm := mk_map2 (u.alloc (.cells #[.string ⟨#[61, 61]⟩, .int .i64 2] 153))
 rw [World.size_alloc] at hmm
 have hbW : Below U.heap.size U W := by rw [hW]; exact (Below.refl _ _).alloc (Nat.le_refl _) _
 have hbuW : Below u.heap.size u W := hbU.trans (hbW.mono hbU.size)
 have HI0 : Hid (AskAt nb mb tb u [X, Y] W 0 [] ∧ W.heap[ob]? = some (.cells #[.string ⟨#[61, 61]⟩, .int .i64 2] 153 (0, 0))) := Lib.hid (by
  refine ⟨⟨by rw [List.take_zero, renL]; exact hRn.later hbW, hbuW, ?_, ?_, rfl⟩, (hbW.block _ (Array.getElem?_eq_some_iff.1 hoz).1).trans hoz⟩
  ·rw [List.nil_append, Nat.sub_zero, htb, hW]
   exact terms_row U u.heap.size 2 hbU.size (by omega)
  ·rw [List.take_zero, renL]
   exact TermsS.nil _ _)
 have HNB : Hid (u.heap.size ≤ nb ∧ u.heap.size ≤ mb ∧ u.heap.size ≤ ob ∧ u.heap.size ≤ tb) := Lib.hid (by have := hbU.size; omega)
 have HR := Lib.hid (And.intro hrun (And.intro hs (And.intro hn hA)))
 have HL : Hid (∀ (q : Nat) (s : Tm), ([X, Y] : List Tm)[q]? = some s → ∃ d, ([a, b] : List Nat)[q]? = some d ∧ Got cs d s ∧ s.may = true ∧ (∀ n ∈ vrT s, ok6 n) ∧ s.size ≤ 1000) := Lib.hid (by
  intro q s h
  rcases q with _ | _ | q
  ·injection h with h; subst h; exact ⟨a, rfl, ha, hmX.1, h6.1, hsz.1⟩
  ·injection h with h; subst h; exact ⟨b, rfl, hb, hmX.2, h6.2, hsz.2⟩
  ·simp at h)
 have HM := Lib.hid (And.intro hmX hsz)
 rw [← hW, ← htb] at hmk
 replace hmk : (Instr.makeSlice 25 (.int .i64 2) (.int .i64 2)).run Tryz.prog U = .ok (.slice (some ⟨tb, 0, none⟩) 2 2) W := hmk
 clear hP hrun hs hn hA ha hb hmX h6 hsz hRn hoz hbU hbW hbuW
 go_enter Tryz.func136, Tryz.ntmps136
 go_upto_region 2 with fail
 rw [← hU, ← hnb, ← hob]
 clear hU hmm
 have HOB := Lib.hid (And.intro hob (And.intro hmb hnb))
 clear hW hob hmb hnb htb
 go_wp2_with fail
 clear hmk
 go_loopw [32] (fun i wr => ∃ (q : Nat) (zs : List TV), i = .int .i64 (q : Nat) ∧ q ≤ 2 ∧ Hid (AskAt nb mb tb u [X, Y] wr q zs ∧ wr.heap[ob]? = some (.cells #[.string ⟨#[61, 61]⟩, .int .i64 2] 153 (0, 0)))) (fun i _ => 2 - (intOf i).toNat)
 case atStart => exact ⟨0, [], rfl, Nat.zero_le _, HI0⟩
 case round =>
  obtain ⟨q, zs, rfl, hq, HI⟩ := hrel
  clear HI0
  by_cases hlt : q < 2
  ·obtain ⟨s, hs⟩ : ∃ s, ([X, Y] : List Tm)[q]? = some s := ⟨_, List.getElem?_eq_getElem hlt⟩
   obtain ⟨d, hd, hgot, hsm, hs6, hsz⟩ := HL.out q s hs
   obtain ⟨g, off, e1, hg, hgc⟩ := HR.out.2.2.2.at' q d hd
   have hb := HI.out.1.below
   have hgc' : wr.cell? ⟨g, off + q, none⟩ = some (.int .i64 (d : Nat)) := (World.cell?_of_block (a := ⟨g, off + q, none⟩) (hb.block g hg.lt)).trans hgc
   have hgl : g < wr.heap.size := Nat.lt_of_lt_of_le hg.lt hb.size
   have c1 : wr.cell? ⟨rb, 1, none⟩ = some (.pointer (some ⟨r.sb, 0, none⟩)) := (HR.out.1.later hb).get 1
   have hlt1 : (q : Int) < 2 := by omega
   have hge : (0 : Int) ≤ (q : Int) := by omega
   have hwq : IntKind.i64.wrap ((q : Int) + 1) = (q : Int) + 1 := IntWalk.i64_in _ (by omega)
   have HGET := Lib.hid (Get_st (HR.out.2.1.later hb) HR.out.2.2.1 hgot (by omega))
   have HS := Lib.hid (And.intro hs (And.intro hsm (And.intro hs6 hsz)))
   subst e1
   clear hs hd hgot hsm hs6 hsz hg hgc hb
   go_wp2_with fail
   refine HGET.out.mono ?_
   rintro e w2 ⟨y, rfl, hy, hb2⟩
   obtain ⟨V, hV⟩ : ∃ V, V = w2.alloc (.cells #[.int .i64 y.k, .int .i64 y.n, .string ⟨y.s.toArray⟩, .slice y.A y.len y.cap] 27) := ⟨_, rfl⟩
   have hbV : Below w2.heap.size w2 V := by rw [hV]; exact (Below.refl _ _).alloc (Nat.le_refl _) _
   have hzV : V.heap[w2.heap.size]? = some (.cells #[.int .i64 y.k, .int .i64 y.n, .string ⟨y.s.toArray⟩, .slice y.A y.len y.cap] 27 (0, 0)) := by rw [hV]; exact heap_alloc_new _ _
   obtain ⟨v0, v1, v2, v3, -⟩ := four_at hzV
   have hbwV : Below wr.heap.size wr V := hb2.trans (hbV.mono hb2.size)
   have HCL : Hid (Calls Tryz.prog 222 #[.pointer (some ⟨nb, 0, none⟩), tvV y] V (RenOut nb mb V (renL ([X, Y].take q) []).2 s)) := Lib.hid (ren_all nb mb s.size s V y _ (Nat.le_refl _) (hy.keep (fun b hb => hb.2.keep (hbV.block b hb.2.lt)) fun b hb => hbV.block b hb.2.lt) (HI.out.1.rn.later hbwV) HS.out.2.1 HS.out.2.2.1 (by
    have h1 := renL_len ([X, Y].take q) []
    have h2 := HM.out.2
    have h3 := HS.out.2.2.2
    have h4 : Tm.sizes ([X, Y].take q) ≤ 2000 := by
     rcases (show q = 0 ∨ q = 1 by omega) with rfl | rfl
     ·simp [Tm.sizes]
     ·simp [Tm.sizes]; omega
    simp only [List.length_nil] at h1
    omega))
   have HBV := Lib.hid hbwV
   clear hy hb2 hbV hzV hbwV HGET
   unfold tvV at HCL ⊢
   go_upto_region 7 with fail
   rw [← hV]
   clear hV
   go_wp2_with fail
   refine HCL.out.mono ?_
   rintro e w5 ⟨z, rfl, ht5, hg5, hf5⟩
   unfold tvV
   obtain ⟨hr5, hz5, q0, q1, q2, q3, qf, hlt5⟩ := HI.out.1.after HBV.out hf5 hlt
   have HNX := Lib.hid (HI.out.1.next HBV.out hf5 ht5 hg5 HS.out.1 hlt hr5 hz5 ⟨HNB.out.1, HNB.out.2.1⟩)
   have HOX := Lib.hid ((hf5.block ob (Nat.lt_of_lt_of_le (Array.getElem?_eq_some_iff.1 HI.out.2).1 HBV.out.size) (fun e => by have := HOB.out; omega)).trans ((HBV.out.block ob (Array.getElem?_eq_some_iff.1 HI.out.2).1).trans HI.out.2))
   have HOT : Hid (ob ≠ tb) := Lib.hid (TyB.ne (t := 153) ⟨_, HI.out.2⟩ (HI.out.1.row.ty rfl) (by decide))
   clear ht5 hg5 hf5 hr5 hz5 v0 v1 v2 v3 hgc' hgl c1 HCL HBV HS HL HR
   go_wp2_with fail
   go_roundw
   case rel =>
    refine ⟨q + 1, zs ++ [z], by go_num, by omega, Lib.hid ⟨HNX.out, ?_⟩⟩
    rw [Below.heap_setCell _ _ _ _ HOT.out, Below.heap_setCell _ _ _ _ HOT.out, Below.heap_setCell _ _ _ _ HOT.out, Below.heap_setCell _ _ _ _ HOT.out]
    exact HOX.out
   case measure =>
    simp only [intOf]
    omega
  ·obtain rfl : q = 2 := by omega
   obtain ⟨z1, z2, rfl⟩ : ∃ z1 z2, zs = [z1, z2] := by
    have := HI.out.1.len
    rcases zs with _ | ⟨z1, _ | ⟨z2, _ | ⟨z3, zs⟩⟩⟩ <;> simp at this
    exact ⟨z1, z2, rfl⟩
   obtain ⟨hm1, hm2, hNM⟩ := ren_two HM.out.1.1 HM.out.1.2
   have hb := HI.out.1.below
   have hI := HI.out.1.rn
   have hts := HI.out.1.ts
   have hrow := HI.out.1.row
   have eL : renL (([X, Y] : List Tm).take 2) [] = ([(renT X []).1, (renT Y (renT X []).2).1], (renT Y (renT X []).2).2) := by
    show renL [X, Y] [] = _
    rw [renL, renL, renL]
   rw [eL] at hI hts
   have hml := renT_len Y (renT X []).2
   have hml2 := renT_len X []
   obtain ⟨T1, hT1⟩ : ∃ T, T = (renT X []).1 := ⟨_, rfl⟩
   obtain ⟨T2, hT2⟩ : ∃ T, T = (renT Y (renT X []).2).1 := ⟨_, rfl⟩
   obtain ⟨M, hM⟩ : ∃ M, M = (renT Y (renT X []).2).2 := ⟨_, rfl⟩
   rw [← hT1, ← hT2] at hts HP
   rw [← hT1] at hm1
   rw [← hT2] at hm2
   rw [← hM] at hI hNM hml
   have hMl : M.length ≤ 2000 := by have := HM.out.2; simp only [List.length_nil] at hml2; omega
   obtain ⟨g, cap, eg, -, hgl, -, hc⟩ := hrow.cells encTV_len (by simp)
   injection eg with eg hq1 hq2
   clear hq1 hq2
   injection eg with eg
   injection eg with eg
   subst eg
   have hTwo : Two wr tb 2 z1 z2 T1 T2 := ⟨fun j v hj => by have := (hc 0 z1 rfl j v hj).1; simpa using this, fun j v hj => by have := (hc 1 z2 rfl j v hj).1; simpa using this, hrow.ty rfl, (hts.2 0 z1 T1 rfl rfl).keep (fun b hb => hb.2) fun _ _ => rfl, (hts.2 1 z2 T2 rfl rfl).keep (fun b hb => hb.2) fun _ _ => rfl⟩
   have HDO := Lib.hid (Do_eq wr tb 2 z1 z2 T1 T2 hTwo ⟨hm1.1, hm2.1⟩ ⟨by have := HM.out.2; omega, by have := HM.out.2; omega⟩)
   have HRN := Lib.hid (And.intro hI (And.intro hNM (And.intro hMl hb)))
   have ho0 : wr.cell? ⟨ob, 0, none⟩ = some (.string ⟨#[61, 61]⟩) := (cell_of_row _ _ 0 _ _ _ HI.out.2).trans rfl
   clear hlt hm1 hm2 hNM hb hI hts hrow eL hml hml2 hT1 hT2 hM hMl hc hTwo HI HL HR HM hgl
   go_wp2_with fail
   refine HDO.out.mono ?_
   rintro e w3 ⟨ok, rfl, hok, hb3⟩
   unfold didV
   obtain ⟨V, hV⟩ : ∃ V, V = w3.alloc (.cells #[.bool ok, .slice none 0 0, .slice none 0 0, .int .i64 0, .int .i64 0, .string ⟨#[]⟩, .slice none 0 0] 327) := ⟨_, rfl⟩
   have hbV : Below wr.heap.size wr V := by rw [hV]; exact hb3.alloc hb3.size _
   have hzV : V.heap[w3.heap.size]? = some (.cells #[.bool ok, .slice none 0 0, .slice none 0 0, .int .i64 0, .int .i64 0, .string ⟨#[]⟩, .slice none 0 0] 327 (0, 0)) := by rw [hV]; exact heap_alloc_new _ _
   obtain ⟨v0, v1, v2, v3, v4, v5, v6, -⟩ := seven_at hzV
   have HBV := Lib.hid (HRN.out.2.2.2.trans (hbV.mono HRN.out.2.2.2.size))
   have hRV := HRN.out.1.later hbV
   have HRV := Lib.hid hRV
   have HOK := Lib.hid hok
   have hlv : w3.heap.size < V.heap.size := (Array.getElem?_eq_some_iff.1 hzV).1
   have HZV := Lib.hid hzV
   clear hb3 hbV hzV hRV ho0 HDO hok
   go_upto_region 12 with fail
   rw [← hV]
   clear hV
   cases ok with
   | false =>
    have HQ : Hid (P (.returned (.int .i64 1)) V) := Lib.hid (by rw [HP.out]; exact ⟨false, rfl, HOK.out, HBV.out⟩)
    go_wp2_with fail
    exact HQ.out
   | true =>
    obtain ⟨n0, n1, nf⟩ := HRV.out.cells
    have hln := HRV.out.map.map.len (P := Tryz.prog) (ty := 3) Tryz.underlying212
    have hmk := mk_map3 V M.length
    obtain ⟨cb, hcb⟩ : ∃ cb, cb = V.heap.size := ⟨_, rfl⟩
    obtain ⟨V1, hV1⟩ : ∃ V1, V1 = V.alloc (.map #[] 0) := ⟨_, rfl⟩
    have hb1 : Below V.heap.size V V1 := by rw [hV1]; exact (Below.refl _ _).alloc (Nat.le_refl _) _
    obtain ⟨p0, p1, pf⟩ := (HRV.out.later hb1).cells
    obtain ⟨w6, k6, r6, b6⟩ := (HRV.out.later hb1).map.map.range (P := Tryz.prog) (t := 212) Tryz.underlying212
    obtain ⟨rr, hrr⟩ : ∃ rr, rr = V1.heap.size := ⟨_, rfl⟩
    obtain ⟨db, hdb⟩ : ∃ db, db = w3.heap.size := ⟨_, rfl⟩
    have HTL : Hid (AskM u rr mb cb M M [] w6 ∧ w6.heap[db]? = some (.cells #[.bool true, .slice none 0 0, .slice none 0 0, .int .i64 0, .int .i64 0, .string ⟨#[]⟩, .slice none 0 0] 327 (0, 0))) := Lib.hid (by
     have h1 : V1.heap.size = V.heap.size + 1 := by rw [hV1, World.size_alloc]
     refine ⟨⟨by rw [hrr]; exact r6, ?_, (HBV.out.trans (hb1.mono HBV.out.size)).trans (b6.mono (by have := HBV.out.size; omega)), by have := HBV.out.size; have := HRV.out.map.lt; omega⟩, ?_⟩
     ·rw [hcb]
      have h2 := M6.made V
      rw [← hV1] at h2
      exact h2.later b6
     ·rw [hdb]
      exact (b6.block _ (by omega)).trans ((hb1.block _ hlv).trans HZV.out))
    have HND : Hid (∀ z ∈ M, ok6 z.2) := Lib.hid fun z hz => by
     obtain ⟨i, hi⟩ := List.mem_iff_getElem?.1 hz
     have h1 := HRN.out.2.1.at' i z hi
     have h2 := (List.getElem?_eq_some_iff.1 hi).1
     have h3 := HRN.out.2.2.1
     unfold ok6
     omega
    rw [← hcb, ← hV1] at hmk
    rw [← hrr] at k6
    rw [← hdb] at v0 v1 v2 v3 v4 v5 v6 hlv ⊢
    clear hcb hV1 hb1 hrr hdb r6 b6 HZV HRV HRN HBV n1 p1
    go_wp2_with fail
    clear k6 hmk hln n0 nf p0 pf v0 v1 v2 v3 v4 v5 v6 hlv
    go_loopg [] M.length (fun gk w9 => ∃ left m, Hid (AskM u rr mb cb M left m w9 ∧ w9.heap[db]? = some (.cells #[.bool true, .slice none 0 0, .slice none 0 0, .int .i64 0, .int .i64 0, .string ⟨#[]⟩, .slice none 0 0] 327 (0, 0)) ∧ left.length = gk ∧ ∀ z ∈ left, ok6 z.2))
    case atStart => exact ⟨M, [], Lib.hid ⟨HTL.out.1, HTL.out.2, rfl, HND.out⟩⟩
    case round =>
     obtain ⟨left, m, HR⟩ := hrel
     clear HTL
     by_cases hl : left = []
     ·subst hl
      have hov := HR.out.1.it.over (P := Tryz.prog) (ty := 0)
      obtain ⟨s0, s1, s2, s3, s4, s5, s6, -⟩ := seven_at HR.out.2.1
      have hls := (Array.getElem?_eq_some_iff.1 HR.out.2.1).1
      have HQ : Hid (P (.returned (.int .i64 0)) wr) := Lib.hid (by rw [HP.out]; exact ⟨true, rfl, by simpa using HOK.out, HR.out.1.below⟩)
      go_wp2_with fail
      obtain ⟨w0, hw0⟩ : ∃ w0 : World, w0 = wr := ⟨_, rfl⟩
      rw [← hw0] at HQ ⊢
      clear s0 s1 s2 s3 s4 s5 s6 hls hov HR hw0
      go_loopw [100] (fun i wz => i = .int .i64 0 ∧ Hid (wz = w0)) (fun _ _ => 0)
      case atStart => exact ⟨rfl, Lib.hid rfl⟩
      case round =>
       obtain ⟨rfl, HE⟩ := hrel
       obtain rfl := HE.out
       go_wp2_with fail
       exact HQ.out
     ·obtain ⟨j, y, wn, hnx, hjx, hitn, hgn, hszn, hent⟩ := HR.out.1.it.next (P := Tryz.prog) (ty := 0) hl
      have hM0 := HR.out.1.map
      have hmn : M6 wn cb m := hM0.keep (hgn.block cb hM0.lt (fun e => HR.out.1.r.2.2.2 (Option.some.inj e)))
      obtain ⟨w9, k9, m9, g9, z9⟩ := hmn.put y.2 (HR.out.2.2.2 y (List.mem_of_getElem? hjx)) y.1
      have HNX : Hid (AskM u rr mb cb M (left.eraseIdx j) (mput m y.2 y.1) w9 ∧ w9.heap[db]? = some (.cells #[.bool true, .slice none 0 0, .slice none 0 0, .int .i64 0, .int .i64 0, .string ⟨#[]⟩, .slice none 0 0] 327 (0, 0)) ∧ (left.eraseIdx j).length = gk - 1 ∧ gk - 1 < gk ∧ ∀ z ∈ left.eraseIdx j, ok6 z.2) := Lib.hid (by
       have hj := (List.getElem?_eq_some_iff.1 hjx).1
       have hlen := HR.out.2.2.1
       have hr := HR.out.1.r
       refine ⟨⟨?_, m9, ?_, hr⟩, ?_, by rw [List.length_eraseIdx, if_pos hj]; omega, by omega, fun z hz => HR.out.2.2.2 z (List.mem_of_mem_eraseIdx hz)⟩
       ·exact hitn.keep (g9.block _ hitn.lt.1 fun e => hr.2.2.1 (Option.some.inj e).symm) (g9.block _ hitn.lt.2 fun e => hr.2.2.2 (Option.some.inj e).symm)
       ·exact (HR.out.1.below.grown hgn HR.out.1.below.size fun k hk => by have := Option.some.inj hk; omega).grown g9 (by have := HR.out.1.below.size; omega) fun k hk => by have := Option.some.inj hk; omega
       ·have hne : ∀ k, MapAt wr k ev6 ev6 m → db ≠ k := fun k hk e => hk.ne (t := 327) ⟨_, e ▸ HR.out.2.1⟩ rfl
        have hdr : db ≠ rr := fun e => by
         obtain ⟨es, clock, seen, -, -, -, hr9, -⟩ := HR.out.1.it.it
         rw [← e, HR.out.2.1] at hr9
         cases hr9
        exact (g9.block _ (by have := (Array.getElem?_eq_some_iff.1 HR.out.2.1).1; omega) fun e => hne cb hM0.map (Option.some.inj e)).trans ((hgn.block _ (Array.getElem?_eq_some_iff.1 HR.out.2.1).1 fun e => hdr (Option.some.inj e)).trans HR.out.2.1))
      obtain ⟨y1, y2⟩ := y
      simp only [ev6] at hnx hent
      simp only at k9
      clear hitn hgn hszn hjx m9 g9 z9 hl hM0 hmn
      go_wp2_with fail
      go_roundg (gk - 1)
      case measure => exact HNX.out.2.2.2.1
      case rel => exact ⟨_, _, Lib.hid ⟨HNX.out.1, HNX.out.2.1, HNX.out.2.2.1, HNX.out.2.2.2.2⟩⟩
end Go.Proofs.YtjdnigepnfeboaaGreatDoor
namespace Go.Proofs.YtjdnigepnfeboaaGreatDoor
open Go.RowKit Go.Maps
set_option maxRecDepth 100000
set_option maxHeartbeats 4000000 in
theorem next_nil (u : World) (rb : Nat) (r : RC) (h : RunAt u rb r) (hfr : r.fr = .pointer none) (Q : Ending → World → Prop) (hQ : ∀ e w, Q e w → ∃ o : Int, e = .returned (.int .i64 o)) (hA : Calls Tryz.prog 181 #[.pointer (some ⟨rb, 0, none⟩)] u Q) :
    Calls Tryz.prog 96 #[.pointer (some ⟨rb, 0, none⟩)] u Q := by
 have c7 : u.cell? ⟨rb, 7, none⟩ = some (.pointer none) := (h.get 7).trans (by show some r.fr = _; rw [hfr])
 have HA := Lib.hid hA
 have HQ := Lib.hid hQ
 clear h hfr hA hQ
 go_enter Tryz.func96, Tryz.ntmps96
 go_wp2_with fail
 refine HA.out.mono ?_
 rintro e w1 hq
 obtain ⟨o, rfl⟩ := HQ.out _ _ hq
 have HQQ := Lib.hid hq
 clear hq
 go_wp2_with fail
 exact HQQ.out
theorem blt_eq : mget bltL (([61, 61] : List UInt8), (2 : Int)) = none := by decide
set_option maxHeartbeats 4000000 in
theorem step_eq (u : World) (rb : Nat) (r : RC) (f : Value) (k n : Int) (A' : Option Addr) (m d : Nat) (A : Option Addr) (c : Nat) (R : Bool → Prop) (h : RunAt u rb r) (hB : BltAt u r.bb rb)
    (hC : ∀ v, Below u.heap.size u v → Calls Tryz.prog 136 #[.pointer (some ⟨rb, 0, none⟩), .slice A 2 c, .agg #[.string ⟨#[61, 61]⟩, .int .i64 2], .func (Fn.func 138) #[] #[]] v fun e u' => ∃ ok : Bool, e = .returned (.int .i64 (outI ok)) ∧ R ok ∧ Below v.heap.size v u') :
    Calls Tryz.prog 69 #[.pointer (some ⟨rb, 0, none⟩), f, .agg #[.int .i64 k, .int .i64 n, .string ⟨#[61, 61]⟩, .slice A' m d], .slice A 2 c] u fun e u' => ∃ ok : Bool, e = .returned (.int .i64 (outI ok)) ∧ R ok ∧ Below u.heap.size u u' := by
 obtain ⟨P, hP⟩ : ∃ P : Ending → World → Prop, P = fun e u' => ∃ ok : Bool, e = .returned (.int .i64 (outI ok)) ∧ R ok ∧ Below u.heap.size u u' := ⟨_, rfl⟩
 rw [← hP]
 have HP := Lib.hid hP
 obtain ⟨V, hV⟩ : ∃ V, V = (u.alloc (.cells #[.int .i64 k, .int .i64 n, .string ⟨#[61, 61]⟩, .slice A' m d] 27)).alloc (.cells #[.string ⟨#[61, 61]⟩, .int .i64 2] 153) := ⟨_, rfl⟩
 have hbV : Below u.heap.size u V := by rw [hV]; exact ((Below.refl _ _).alloc (Nat.le_refl _) _).alloc (by simp) _
 have hz : V.heap[u.heap.size + 1]? = some (.cells #[.string ⟨#[61, 61]⟩, .int .i64 2] 153 (0, 0)) := by
  have := heap_alloc_new (u.alloc (.cells #[.int .i64 k, .int .i64 n, .string ⟨#[61, 61]⟩, .slice A' m d] 27)) (.cells #[.string ⟨#[61, 61]⟩, .int .i64 2] 153)
  rw [World.size_alloc] at this
  rw [hV]; exact this
 have k0 : V.cell? ⟨u.heap.size + 1, 0, none⟩ = some (.string ⟨#[61, 61]⟩) := (cell_of_row _ _ 0 _ _ _ hz).trans rfl
 have k1 : V.cell? ⟨u.heap.size + 1, 1, none⟩ = some (.int .i64 2) := (cell_of_row _ _ 1 _ _ _ hz).trans rfl
 have k2 : V.cell? ⟨rb, 26, none⟩ = some (.map (some r.bb)) := (h.later hbV).get 26
 have hlk := (hB.later hbV.drew).look [61, 61] 2 ⟨by decide, (by decide : (-9223372036854775808 : Int) ≤ 2), (by decide : (2 : Int) ≤ 9223372036854775807)⟩
 rw [blt_eq] at hlk
 replace hlk : (Instr.lookup 110 (.map (some r.bb)) (.agg #[.string ⟨#[61, 61]⟩, .int .i64 2]) true).run Tryz.prog V.drew = .ok (.tuple #[.nilFunc, .bool false]) V.drew := hlk
 have HC := Lib.hid (hC V.drew hbV.drew)
 have HBV := Lib.hid hbV.drew
 clear h hB hC hP hbV hz
 go_enter Tryz.func69, Tryz.ntmps69
 go_upto_region 2 with fail
 rw [← hV]
 clear hV
 go_region
 clear hlk k2
 go_wp2_with fail
 refine (tdoes_eq _).mono ?_
 rintro e w1 ⟨rfl, rfl⟩
 go_wp2_with fail
 refine (sdoes_eq _).mono ?_
 rintro e w1 ⟨rfl, rfl⟩
 go_wp2_with fail
 refine HC.out.mono ?_
 rintro e w1 ⟨ok, rfl, hR, hb⟩
 have HQ : Hid (P (.returned (.int .i64 (outI ok))) w1) := Lib.hid (by rw [HP.out]; exact ⟨ok, rfl, hR, HBV.out.trans (hb.mono HBV.out.size)⟩)
 clear hR hb
 go_wp2_with fail
 exact HQ.out
variable [Base]
set_option linter.unusedSectionVars false
theorem AllOut.form {sb room : Nat} {u u' : World} {safe : Bool} {cs : List Sc} {ys : List (Nat × Int)} {a b : Nat} {e : Ending} (h : AllOut sb room u safe cs ys a b e u') : ∃ ok z, e = .returned (.tuple #[.bool ok, .int .i64 z]) ∧ TF unS u u' := by
 obtain ⟨ok, z, cv', bv', xs', cs', ys', csF, bsF, e1, h1, h2, -⟩ := h
 exact ⟨ok, z, e1, h2⟩
theorem BltO.undrew {u u' : World} {rb : Nat} {r : RC} {l : List (Int × List UInt8)} {db ob : Nat} {spent : Int} {over : List UInt8} {R : Bool → World → Prop} {e : Ending} (h : BltO u.drew rb r l db ob spent over R e u') : BltO u rb r l db ob spent over R e u' :=
 ⟨(TF.refl _ u).drew.trans h.1, h.2⟩
structure EqC (v : World) (rb sb g off a b : Nat) : Prop where
 s : v.cell? ⟨rb, 1, none⟩ = some (.pointer (some ⟨sb, 0, none⟩))
 a : v.cell? ⟨g, off, none⟩ = some (.int .i64 (a : Nat))
 b : v.cell? ⟨g, off + 1, none⟩ = some (.int .i64 (b : Nat))
theorem EqC.keep {v v' : World} {rb sb g off a b : Nat} {r : RC} (h : EqC v rb sb g off a b) (hr : RunAt v' rb r) (hsb : r.sb = sb) {tys : List TypeId} (hf : TF tys v v') (hg : TyB v 3 g) (ht : 3 ∉ tys) : EqC v' rb sb g off a b :=
 ⟨by rw [hr.get 1, ← hsb]; rfl, (World.cell?_of_block (a := ⟨g, off, none⟩) (hf.block hg ht)).trans h.a, (World.cell?_of_block (a := ⟨g, off + 1, none⟩) (hf.block hg ht)).trans h.b⟩
def StepC (u : World) (rb sb g off a b F : Nat) (P : Ending → World → Prop) : Prop :=
 Calls Tryz.prog F #[.pointer (some ⟨sb, 0, none⟩), .int .i64 (a : Nat), .int .i64 (b : Nat)] u.drew fun e w1 => ∃ ok z, e = .returned (.tuple #[.bool ok, .int .i64 z]) ∧ EqC w1 rb sb g off a b ∧ Calls Tryz.prog 159 #[.pointer (some ⟨rb, 0, none⟩), .bool ok, .int .i64 z] w1 fun e u' => ∃ o : Int, e = .returned (.int .i64 o) ∧ EqC u' rb sb g off a b ∧ P (.returned (.int .i64 o)) u'
theorem step_c (u : World) (rb room F : Nat) (safe : Bool) (r : RC) (l : List (Int × List UInt8)) (db ob : Nat) (spent : Int) (over : List UInt8) (cv bv : Value) (xs : List ScM) (cs : List Sc) (ys : List (Nat × Int)) (g off a b : Nat)
    (h : RunSt u rb r l db ob spent over) (hl : l.length + 1 ≤ 100000) (hs : StAt r.sb room u cv bv xs cs ys) (hE : EqC u.drew rb r.sb g off a b) (hg : TyB u 3 g)
    (hU : StAt r.sb room u.drew cv bv xs cs ys → Calls Tryz.prog F #[.pointer (some ⟨r.sb, 0, none⟩), .int .i64 (a : Nat), .int .i64 (b : Nat)] u.drew fun e u' => AllOut r.sb room u.drew safe cs ys a b e u') :
    StepC u rb r.sb g off a b F (BltO u rb r l db ob spent over (EqR safe r.sb room cs a b)) := by
 have hb' := (Below.refl u.heap.size u).drew
 refine (hU (hs.later hb')).mono ?_
 intro e w1 hO
 obtain ⟨ok, z, rfl, hf⟩ := hO.form
 have hw1 : RunSt w1 rb r l db ob spent over := (h.later hb').keep hf (by decide)
 have hE1 := hE.keep hw1.run rfl hf (hg.keep (hb'.block _ hg.lt)) (by decide)
 refine ⟨ok, z, rfl, hE1, (fits_any w1 rb ok z r l db ob spent over hw1 hl).mono ?_⟩
 rintro e u' ⟨o, rfl, ho⟩
 have hgw := hf.ty (hg.keep (hb'.block _ hg.lt)) (t := 3) (by decide)
 refine ⟨o, rfl, ?_, (blt_out (h.later hb') hO ho).undrew⟩
 rcases ho with ⟨rfl, rfl, rfl⟩ | ⟨rfl, -, v, l', which, g1, g2, g3⟩
 ·exact hE1
 ·exact hE1.keep g1.run rfl g3 hgw (by decide)
set_option maxHeartbeats 4000000 in
theorem equal_any (u : World) (rb room : Nat) (r : RC) (l : List (Int × List UInt8)) (db ob : Nat) (spent : Int) (over : List UInt8) (cv bv : Value) (xs : List ScM) (cs : List Sc) (ys : List (Nat × Int)) (A : Option Addr) (a b c : Nat)
    (h : RunSt u rb r l db ob spent over) (hl : l.length + 1 ≤ 100000) (hs : StAt r.sb room u cv bv xs cs ys) (hA : ArgsAt u A [a, b]) (ha : a < cs.length) (hb : b < cs.length) (hm : ys.length + 20001 ≤ 100000000) :
    Calls Tryz.prog 81 #[.pointer (some ⟨rb, 0, none⟩), .slice A 2 c] u (BltO u rb r l db ob spent over (EqR false r.sb room cs a b)) := by
 obtain ⟨g, off, rfl, hg, ha0⟩ := hA.at' 0 a rfl
 obtain ⟨g', off', e1, -, hb0⟩ := hA.at' 1 b rfl
 injection e1 with e1
 injection e1 with q1 q2
 subst q1 q2
 have hE : EqC u rb r.sb g off a b := ⟨h.run.get 1, ha0, hb0⟩
 have HE : Hid (EqC u.drew rb r.sb g off a b) := Lib.hid ⟨hE.s, hE.a, hE.b⟩
 have HUN := Lib.hid (step_c u rb room 160 false r l db ob spent over cv bv xs cs ys g off a b h hl hs HE.out hg fun hs' => Unify_any hs' a b ha hb hm)
 obtain ⟨k1, k2, k3⟩ := hE
 obtain ⟨P, hP⟩ : ∃ P : Ending → World → Prop, P = BltO u rb r l db ob spent over (EqR false r.sb room cs a b) := ⟨_, rfl⟩
 obtain ⟨sb, hsb⟩ : ∃ sb, sb = r.sb := ⟨_, rfl⟩
 rw [← hP] at HUN ⊢
 rw [← hsb] at HUN HE k1
 clear h hl hs hA ha hb hm ha0 hb0 hg hP hsb
 unfold StepC at HUN
 go_enter Tryz.func81, Tryz.ntmps81
 go_wp2_with fail
 go_region_held3 (fun v => v.cell? ⟨rb, 1, none⟩ = some (.pointer (some ⟨sb, 0, none⟩)) ∧ v.cell? ⟨g, off, none⟩ = some (.int .i64 (a : Nat)) ∧ v.cell? ⟨g, off + 1, none⟩ = some (.int .i64 (b : Nat)))
  (first | (with_reducible exact HA2.out) | (with_reducible exact HA1.out) | (with_reducible exact ⟨HE.out.s, HE.out.a, HE.out.b⟩))
  (first | (go_at_call 160; with_reducible (refine HUN.out.mono ?_; rintro e w1 ⟨ok, z, rfl, hE1, hF⟩); have HA1 := Lib.hid (show _ ∧ _ ∧ _ from ⟨hE1.s, hE1.a, hE1.b⟩); have HFF := Lib.hid hF; clear hE1 hF) | (go_at_call 159; with_reducible (refine HFF.out.mono ?_; rintro e w2 ⟨o, rfl, hE2, hPP⟩); have HA2 := Lib.hid (show _ ∧ _ ∧ _ from ⟨hE2.s, hE2.a, hE2.b⟩); have HPP := Lib.hid hPP; clear hE2 hPP))
 go_wp2_with fail
 exact HPP.out
set_option maxHeartbeats 4000000 in
theorem safely_any (u : World) (rb room : Nat) (r : RC) (l : List (Int × List UInt8)) (db ob : Nat) (spent : Int) (over : List UInt8) (cv bv : Value) (xs : List ScM) (cs : List Sc) (ys : List (Nat × Int)) (A : Option Addr) (a b c : Nat)
    (h : RunSt u rb r l db ob spent over) (hl : l.length + 1 ≤ 100000) (hs : StAt r.sb room u cv bv xs cs ys) (hA : ArgsAt u A [a, b]) (ha : a < cs.length) (hb : b < cs.length) (hm : ys.length + 20001 ≤ 100000000) :
    Calls Tryz.prog 83 #[.pointer (some ⟨rb, 0, none⟩), .slice A 2 c] u (BltO u rb r l db ob spent over (EqR true r.sb room cs a b)) := by
 obtain ⟨g, off, rfl, hg, ha0⟩ := hA.at' 0 a rfl
 obtain ⟨g', off', e1, -, hb0⟩ := hA.at' 1 b rfl
 injection e1 with e1
 injection e1 with q1 q2
 subst q1 q2
 have hE : EqC u rb r.sb g off a b := ⟨h.run.get 1, ha0, hb0⟩
 have HE : Hid (EqC u.drew rb r.sb g off a b) := Lib.hid ⟨hE.s, hE.a, hE.b⟩
 have HUN := Lib.hid (step_c u rb room 162 true r l db ob spent over cv bv xs cs ys g off a b h hl hs HE.out hg fun hs' => Safely_any hs' a b ha hb hm)
 obtain ⟨k1, k2, k3⟩ := hE
 obtain ⟨P, hP⟩ : ∃ P : Ending → World → Prop, P = BltO u rb r l db ob spent over (EqR true r.sb room cs a b) := ⟨_, rfl⟩
 obtain ⟨sb, hsb⟩ : ∃ sb, sb = r.sb := ⟨_, rfl⟩
 rw [← hP] at HUN ⊢
 rw [← hsb] at HUN HE k1
 clear h hl hs hA ha hb hm ha0 hb0 hg hP hsb
 unfold StepC at HUN
 go_enter Tryz.func83, Tryz.ntmps83
 go_wp2_with fail
 go_region_held3 (fun v => v.cell? ⟨rb, 1, none⟩ = some (.pointer (some ⟨sb, 0, none⟩)) ∧ v.cell? ⟨g, off, none⟩ = some (.int .i64 (a : Nat)) ∧ v.cell? ⟨g, off + 1, none⟩ = some (.int .i64 (b : Nat)))
  (first | (with_reducible exact HA2.out) | (with_reducible exact HA1.out) | (with_reducible exact ⟨HE.out.s, HE.out.a, HE.out.b⟩))
  (first | (go_at_call 162; with_reducible (refine HUN.out.mono ?_; rintro e w1 ⟨ok, z, rfl, hE1, hF⟩); have HA1 := Lib.hid (show _ ∧ _ ∧ _ from ⟨hE1.s, hE1.a, hE1.b⟩); have HFF := Lib.hid hF; clear hE1 hF) | (go_at_call 159; with_reducible (refine HFF.out.mono ?_; rintro e w2 ⟨o, rfl, hE2, hPP⟩); have HA2 := Lib.hid (show _ ∧ _ ∧ _ from ⟨hE2.s, hE2.a, hE2.b⟩); have HPP := Lib.hid hPP; clear hE2 hPP))
 go_wp2_with fail
 exact HPP.out
end Go.Proofs.YtjdnigepnfeboaaGreatDoor
namespace Go.Proofs.YtjdnigepnfeboaaGreatDoor
open Go.RowKit Go.Maps
set_option maxRecDepth 100000
variable [Base]
set_option linter.unusedSectionVars false
def NeR (cs : List Sc) (a b : Nat) (ok : Bool) (_ : World) : Prop := ∃ (csF : List Sc) (bsF : List Nat), Uni false cs [] [(a, b)] 0 (!ok, 0) csF bsF
def StepN (u : World) (rb sb g off a b m : Nat) (P : Ending → World → Prop) : Prop :=
 Calls Tryz.prog 160 #[.pointer (some ⟨sb, 0, none⟩), .int .i64 (a : Nat), .int .i64 (b : Nat)] u.drew fun e w1 => ∃ ok z, e = .returned (.tuple #[.bool ok, .int .i64 z]) ∧ EqC w1 rb sb g off a b ∧
  Calls Tryz.prog 161 #[.pointer (some ⟨sb, 0, none⟩), .int .i64 (m : Nat)] w1 fun e w2 => e = .returned (.tuple #[]) ∧
   Calls Tryz.prog 159 #[.pointer (some ⟨rb, 0, none⟩), .bool (!ok), .int .i64 z] w2 fun e u' => ∃ o : Int, e = .returned (.int .i64 o) ∧ P (.returned (.int .i64 o)) u'
theorem step_n (u : World) (rb room : Nat) (r : RC) (l : List (Int × List UInt8)) (db ob : Nat) (spent : Int) (over : List UInt8) (cv bv : Value) (xs : List ScM) (cs : List Sc) (ys : List (Nat × Int)) (g off a b : Nat)
    (h : RunSt u rb r l db ob spent over) (hl : l.length + 1 ≤ 100000) (hs : StAt r.sb room u cv bv xs cs ys) (hE : EqC u.drew rb r.sb g off a b) (hg : TyB u 3 g) (ha : a < cs.length) (hb : b < cs.length) (hm : ys.length + 20001 ≤ 100000000) :
    StepN u rb r.sb g off a b ys.length (BltO u rb r l db ob spent over (NeR cs a b)) := by
 have hb' := (Below.refl u.heap.size u).drew
 refine (Unify_any (hs.later hb') a b ha hb hm).mono ?_
 intro e w1 hO
 obtain ⟨ok, z, rfl, hf⟩ := hO.form
 have hw1 : RunSt w1 rb r l db ob spent over := (h.later hb').keep hf (by decide)
 refine ⟨ok, z, rfl, hE.keep hw1.run rfl hf (hg.keep (hb'.block _ hg.lt)) (by decide), ?_⟩
 obtain ⟨ok', z', cv', bv', xs', cs', ys', csF, bsF, e1, h1, -, ⟨e', h3, -⟩, h4, -⟩ := hO
 injection e1 with e1
 simp only [Value.tuple.injEq, Array.mk.injEq, List.cons.injEq, Value.bool.injEq, Value.int.injEq, true_and, and_true] at e1
 obtain ⟨rfl, rfl⟩ := e1
 refine (undo_any h1 ys.length (by rw [h3]; simp)).mono ?_
 rintro e w2 ⟨rfl, -, h5⟩
 have hw2 : RunSt w2 rb r l db ob spent over := hw1.keep h5 (by decide)
 refine ⟨rfl, (fits_any w2 rb (!ok) z r l db ob spent over hw2 hl).mono ?_⟩
 rintro e u' ⟨o, rfl, ho⟩
 have ht : TF blT u w2 := ((TF.refl _ u).drew.trans (hf.mono fun t ht => List.mem_append_left _ ht)).trans (h5.mono (by decide))
 refine ⟨o, rfl, ?_⟩
 rcases ho with ⟨rfl, rfl, rfl⟩ | ⟨rfl, -, v, l', which, g1, g2, g3⟩
 ·exact ⟨ht, .inl ⟨!ok, rfl, ⟨csF, bsF, by rw [Bool.not_not]; exact h4⟩, hw2⟩⟩
 ·exact ⟨ht.trans (g3.mono fun t ht => List.mem_append_right _ ht), .inr ⟨rfl, v, l', which, g1, g2⟩⟩
set_option maxHeartbeats 4000000 in
theorem unequal_any (u : World) (rb room : Nat) (r : RC) (l : List (Int × List UInt8)) (db ob : Nat) (spent : Int) (over : List UInt8) (cv bv : Value) (xs : List ScM) (cs : List Sc) (ys : List (Nat × Int)) (A : Option Addr) (a b c : Nat)
    (h : RunSt u rb r l db ob spent over) (hl : l.length + 1 ≤ 100000) (hs : StAt r.sb room u cv bv xs cs ys) (hA : ArgsAt u A [a, b]) (ha : a < cs.length) (hb : b < cs.length) (hm : ys.length + 20001 ≤ 100000000) :
    Calls Tryz.prog 82 #[.pointer (some ⟨rb, 0, none⟩), .slice A 2 c] u (BltO u rb r l db ob spent over (NeR cs a b)) := by
 obtain ⟨g, off, rfl, hg, ha0⟩ := hA.at' 0 a rfl
 obtain ⟨g', off', e1, -, hb0⟩ := hA.at' 1 b rfl
 injection e1 with e1
 injection e1 with q1 q2
 subst q1 q2
 have hE : EqC u rb r.sb g off a b := ⟨h.run.get 1, ha0, hb0⟩
 have HE : Hid (EqC u.drew rb r.sb g off a b) := Lib.hid ⟨hE.s, hE.a, hE.b⟩
 have HUN := Lib.hid (step_n u rb room r l db ob spent over cv bv xs cs ys g off a b h hl hs HE.out hg ha hb hm)
 have HMK := Lib.hid (mark_any hs)
 obtain ⟨k1, k2, k3⟩ := hE
 obtain ⟨P, hP⟩ : ∃ P : Ending → World → Prop, P = BltO u rb r l db ob spent over (NeR cs a b) := ⟨_, rfl⟩
 obtain ⟨sb, hsb⟩ : ∃ sb, sb = r.sb := ⟨_, rfl⟩
 obtain ⟨m, hmm⟩ : ∃ m, m = ys.length := ⟨_, rfl⟩
 rw [← hP] at HUN ⊢
 rw [← hsb] at HUN HE k1 HMK
 rw [← hmm] at HUN HMK
 clear h hl hs hA ha hb hm ha0 hb0 hg hP hsb hmm
 unfold StepN at HUN
 go_enter Tryz.func82, Tryz.ntmps82
 go_wp2_with fail
 refine HMK.out.mono ?_
 rintro e w0 ⟨rfl, rfl⟩
 go_upto_region 2 with fail
 go_region_held3 (fun v => v.cell? ⟨rb, 1, none⟩ = some (.pointer (some ⟨sb, 0, none⟩)) ∧ v.cell? ⟨g, off, none⟩ = some (.int .i64 (a : Nat)) ∧ v.cell? ⟨g, off + 1, none⟩ = some (.int .i64 (b : Nat)))
  (first | (with_reducible exact HA1.out) | (with_reducible exact ⟨HE.out.s, HE.out.a, HE.out.b⟩))
  (first | (go_at_call 160; with_reducible (refine HUN.out.mono ?_; rintro e w1 ⟨ok, z, rfl, hE1, hF⟩); have HA1 := Lib.hid (show _ ∧ _ ∧ _ from ⟨hE1.s, hE1.a, hE1.b⟩); have hk := hE1.s; have HFF := Lib.hid hF; clear hE1 hF))
 go_wp2_with fail
 refine HFF.out.mono ?_
 rintro e w2 ⟨rfl, hF2⟩
 have HF2 := Lib.hid hF2
 clear hF2
 go_wp2_with fail
 refine HF2.out.mono ?_
 rintro e w3 ⟨o, rfl, hPP⟩
 go_wp2_with fail
 exact hPP
end Go.Proofs.YtjdnigepnfeboaaGreatDoor
