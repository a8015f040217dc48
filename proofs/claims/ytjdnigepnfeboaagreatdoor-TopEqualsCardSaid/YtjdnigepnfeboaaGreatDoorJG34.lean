import Derived.Test.YtjdnigepnfeboaaGreatDoorJG06
import Derived.Test.YtjdnigepnfeboaaGreatDoorJG33
namespace Go.Proofs.YtjdnigepnfeboaaGreatDoor
open Go.RowKit
set_option maxRecDepth 100000
theorem LexAt.fns {w : World} {bx a ln en : Nat} {T : List UInt8} {v : Value} (h : LexAt w bx T a ln en v) : w.cell? ⟨bx, 5, none⟩ = some (.func (.func 40) #[.pointer (some ⟨bx, 0, none⟩)] #[]) ∧ w.cell? ⟨bx, 6, none⟩ = some (.func (.func 41) #[.pointer (some ⟨bx, 0, none⟩)] #[]) ∧
    w.cell? ⟨bx, 7, none⟩ = some (.func (.func 42) #[.pointer (some ⟨bx, 0, none⟩)] #[]) ∧ w.cell? ⟨bx, 8, none⟩ = some (.func (.func 43) #[.pointer (some ⟨bx, 0, none⟩)] #[]) ∧
    w.cell? ⟨bx, 9, none⟩ = some (.func (.func 44) #[.pointer (some ⟨bx, 0, none⟩)] #[]) ∧ w.cell? ⟨bx, 10, none⟩ = some (.func (.func 45) #[.pointer (some ⟨bx, 0, none⟩)] #[]) := by
 have hc := fun k => cell_of_row w bx k _ _ _ h.blk
 exact ⟨(hc 5).trans rfl, (hc 6).trans rfl, (hc 7).trans rfl, (hc 8).trans rfl, (hc 9).trans rfl, (hc 10).trans rfl⟩
abbrev zTok : Obj := .cells #[.int .i64 0, .int .i64 0, .int .i64 0, .string ⟨#[]⟩, .bool false, .bool false] 127
def jx (k : Int) : Nat := if k = 7 then 0 else if k = 1 then 1 else if k = 4 then 2 else if k = 3 then 3 else 5
def kx : Nat → Int
 | 0 => 7
 | 1 => 1
 | 2 => 4
 | 3 => 3
 | 4 => 2
 | _ => 6
def fx : Nat → FuncId
 | 0 => 40
 | 1 => 41
 | 2 => 42
 | 3 => 43
 | 4 => 44
 | _ => 45
def rV (k n : Int) (s : List UInt8) (m : Int) : Value := .tuple #[.agg #[.int .i64 k, .int .i64 0, .int .i64 n, .string ⟨s.toArray⟩, .bool false, .bool false], .int .i64 m, .int .i64 0]
theorem try_q {s : List UInt8} {t : TokIs} (h : Suf s t) (w : World) (x : Value) (q : Nat) (h5 : q ≤ 5) (hq : q ≤ jx t.kind) : Calls Tryz.prog (fx q) #[x, .string ⟨s.toArray⟩] w fun e w' => e = .returned (if q = jx t.kind then rV t.kind t.n t.s 1 else rV 0 0 [] 0) ∧ Below w.heap.size w w' := by
 have hk : (if q = jx t.kind then rV t.kind t.n t.s 1 else rV 0 0 [] 0) = tryC (kx q) t := by
  rcases (by omega : q = 0 ∨ q = 1 ∨ q = 2 ∨ q = 3 ∨ q = 4 ∨ q = 5) with rfl | rfl | rfl | rfl | rfl | rfl <;> cases h <;> first | rfl | exact absurd hq (by decide)
 have h7 : q ≠ 0 → t.kind ≠ 7 := fun h0 e => by rw [e] at hq; exact h0 (Nat.le_zero.1 hq)
 rw [hk]
 rcases (by omega : q = 0 ∨ q = 1 ∨ q = 2 ∨ q = 3 ∨ q = 4 ∨ q = 5) with rfl | rfl | rfl | rfl | rfl | rfl
 ·exact stop_c w x h
 ·exact name_c w x h (h7 (by decide))
 ·exact named_c w x h (h7 (by decide))
 ·exact number_c w h x (h7 (by decide))
 ·exact quoted_c w x h (h7 (by decide))
 ·exact punct_c w x h (h7 (by decide))
theorem tok_put {w1 : World} {b : Nat} {a0 a1 a2 a3 a4 a5 : Value} {t : TypeId} (h : w1.heap[b]? = some (.cells #[a0, a1, a2, a3, a4, a5] t (0, 0))) (k n : Int) (s : List UInt8) :
    ((((((w1.setCell ⟨b, 0, none⟩ (.int .i64 k)).setCell ⟨b, 1, none⟩ (.int .i64 0)).setCell ⟨b, 2, none⟩ (.int .i64 n)).setCell ⟨b, 3, none⟩ (.string ⟨s.toArray⟩)).setCell ⟨b, 4, none⟩ (.bool false)).setCell ⟨b, 5, none⟩ (.bool false)).heap[b]? = some (.cells #[.int .i64 k, .int .i64 0, .int .i64 n, .string ⟨s.toArray⟩, .bool false, .bool false] t (0, 0)) := by
 have h1 := blk_setCells [.int .i64 k, .int .i64 0, .int .i64 n, .string ⟨s.toArray⟩, .bool false, .bool false] w1 0 _ h
 have h2 : putAll #[a0, a1, a2, a3, a4, a5] 0 [.int .i64 k, .int .i64 0, .int .i64 n, .string ⟨s.toArray⟩, .bool false, .bool false] = #[.int .i64 k, .int .i64 0, .int .i64 n, .string ⟨s.toArray⟩, .bool false, .bool false] := by kernel_rfl
 rw [h2] at h1
 exact h1
theorem rV_inj {k n k' n' : Int} {s s' : List UInt8} {m m' : Int} (h : rV k n s m = rV k' n' s' m') : k' = k ∧ n' = n ∧ s' = s ∧ m' = m := by
 unfold rV at h
 simp only [Value.tuple.injEq, Value.agg.injEq, Array.mk.injEq, List.cons.injEq, Value.int.injEq, Value.string.injEq, ByteArray.mk.injEq, true_and, and_true] at h
 exact ⟨h.1.1.symm, h.1.2.1.symm, h.1.2.2.symm, h.2.symm⟩
structure NxI (w : World) (bx : Nat) (T : List UInt8) (a ln en : Nat) (v : Value) (u : World) : Prop where
 lex : LexAt u bx T a ln en v
 res : u.heap[w.heap.size]? = some (.cells #[.int .i64 0, .int .i64 0, .int .i64 0, .string ⟨#[]⟩, .bool false, .bool false] 127 (0, 0))
 below : Below w.heap.size w u
theorem NxI.later {w u u1 : World} {bx a ln en : Nat} {T : List UInt8} {v : Value} (h : NxI w bx T a ln en v u) (hb : Below u.heap.size u u1) : NxI w bx T a ln en v u1 := ⟨h.lex.later hb, (hb.block _ (Array.getElem?_eq_some_iff.1 h.res).1).trans h.res, h.below.trans (hb.mono h.below.size)⟩
set_option maxHeartbeats 8000000 in
theorem next_c (w : World) (bx : Nat) (T : List UInt8) (a ln en : Nat) (v : Value) (h : LexAt w bx T a ln en v) {t : TokIs} (hs : Suf (T.drop a) t) (ha : a ≤ T.length) (hT : T.length ≤ 100) :
    Calls Tryz.prog 47 #[.pointer (some ⟨bx, 0, none⟩)] w fun e w' => e = .returned (rV t.kind t.n t.s 1) ∧ Below w.heap.size w w' := by
 obtain ⟨P, hP⟩ : ∃ P : Ending → World → Prop, P = fun e w' => e = .returned (rV t.kind t.n t.s 1) ∧ Below w.heap.size w w' := ⟨_, rfl⟩
 rw [← hP]
 have HP := Lib.hid hP
 obtain ⟨W, hW⟩ : ∃ W, W = w.alloc zTok := ⟨_, rfl⟩
 have hb : Below w.heap.size w W := by rw [hW]; exact (Below.refl _ _).alloc (Nat.le_refl _) _
 have HI : Hid (NxI w bx T a ln en v W) := Lib.hid ⟨h.later hb, by rw [hW]; exact heap_alloc_new _ _, hb⟩
 obtain ⟨f5, f6, f7, f8, f9, f10⟩ := HI.out.lex.fns
 have HS := Lib.hid (And.intro hs (And.intro ha hT))
 have hj : jx t.kind ≤ 5 := by unfold jx; split <;> (try split) <;> (try split) <;> (try split) <;> omega
 obtain ⟨j, hjj⟩ : ∃ j, j = jx t.kind := ⟨_, rfl⟩
 rw [← hjj] at hj
 have HJ := Lib.hid hjj
 clear hP h hs ha hT hb hjj
 go_enter Tryz.func47, Tryz.ntmps47
 go_upto_region 1 with fail
 rw [← hW]
 clear hW
 go_wp2_with fail
 clear f5 f6 f7 f8 f9 f10
 go_loopw [14] (fun i wr => ∃ q : Nat, i = .int .i64 (q : Nat) ∧ q ≤ j ∧ Hid (NxI w bx T a ln en v wr)) (fun i _ => 6 - (intOf i).toNat)
 case atStart => exact ⟨0, rfl, Nat.zero_le _, HI⟩
 case round =>
  obtain ⟨q, rfl, hq, HN⟩ := hrel
  clear HI
  have HQ1 : Hid (¬ q = jx t.kind → q + 1 ≤ j) := Lib.hid fun h0 => by rw [← HJ.out] at h0; omega
  have hsl := slice_end T a
  obtain ⟨S, hS⟩ : ∃ S, S = T.drop a := ⟨_, rfl⟩
  rw [← hS] at hsl
  obtain ⟨kk, nn, ss, mm, hR⟩ : ∃ kk nn ss mm, (if q = jx t.kind then rV t.kind t.n t.s 1 else rV 0 0 [] 0) = rV kk nn ss mm := by split <;> exact ⟨_, _, _, _, rfl⟩
  obtain ⟨F, hF⟩ : ∃ F, F = fx q := ⟨_, rfl⟩
  have HT : Hid (∀ V, Below wr.heap.size wr V → Calls Tryz.prog F #[.pointer (some ⟨bx, 0, none⟩), .string ⟨S.toArray⟩] V fun e w1 => e = .returned (rV kk nn ss mm) ∧ Below V.heap.size V w1 ∧ Below wr.heap.size wr w1) := Lib.hid fun V hV => by
   have h1 := try_q HS.out.1 V (.pointer (some ⟨bx, 0, none⟩)) q (by omega) (by rw [← HJ.out]; exact hq)
   rw [hR, ← hS, ← hF] at h1
   refine h1.mono ?_
   rintro e w1 ⟨rfl, g⟩
   exact ⟨rfl, g, hV.trans (g.mono hV.size)⟩
  have HSV : Hid (∀ V, Below wr.heap.size wr V → V.cell? ⟨bx, 0, none⟩ = some (.string ⟨T.toArray⟩) ∧ V.cell? ⟨bx, 1, none⟩ = some (.int .i64 (a : Int))) := Lib.hid fun V hV => ⟨(HN.out.lex.later hV).cells.1, (HN.out.lex.later hV).cells.2.1⟩
  have d0 := (Below.refl wr.heap.size wr).drew
  have d1 := ((Below.refl wr.heap.size wr).alloc (Nat.le_refl _) zTok).drew
  have HZ1 : Hid ((wr.alloc zTok).drew.heap[wr.heap.size]? = some (.cells #[.int .i64 0, .int .i64 0, .int .i64 0, .string ⟨#[]⟩, .bool false, .bool false] 127 (0, 0))) := Lib.hid (heap_alloc_new wr _)
  have HL1 : Hid (wr.heap.size < (wr.alloc zTok).drew.heap.size) := Lib.hid (Array.getElem?_eq_some_iff.1 HZ1.out).1
  have ha0 : (0 : Int) ≤ (a : Int) := by omega
  have ha1 : (a : Int) ≤ (T.length : Int) := by have := HS.out.2.1; omega
  have HR := Lib.hid hR
  have hix : (Instr.index 123 (.agg #[.func (.func 40) #[.pointer (some ⟨bx, 0, none⟩)] #[], .func (.func 41) #[.pointer (some ⟨bx, 0, none⟩)] #[], .func (.func 42) #[.pointer (some ⟨bx, 0, none⟩)] #[], .func (.func 43) #[.pointer (some ⟨bx, 0, none⟩)] #[], .func (.func 44) #[.pointer (some ⟨bx, 0, none⟩)] #[], .func (.func 45) #[.pointer (some ⟨bx, 0, none⟩)] #[]]) (.int .i64 (q : Nat))).run Tryz.prog wr = .ok (.func (.func F) #[.pointer (some ⟨bx, 0, none⟩)] #[]) wr := by
   rw [hF]
   rcases (by omega : q = 0 ∨ q = 1 ∨ q = 2 ∨ q = 3 ∨ q = 4 ∨ q = 5) with rfl | rfl | rfl | rfl | rfl | rfl <;> kernel_rfl
  clear hS hR
  rcases (by omega : q = 0 ∨ q = 1 ∨ q = 2 ∨ q = 3 ∨ q = 4 ∨ q = 5) with rfl | rfl | rfl | rfl | rfl | rfl
  all_goals
   first
    | (rw [show ((0 : Nat) : Int) = 0 from rfl] at hix; replace hF : F = 40 := hF)
    | (rw [show ((1 : Nat) : Int) = 1 from rfl] at hix; replace hF : F = 41 := hF)
    | (rw [show ((2 : Nat) : Int) = 2 from rfl] at hix; replace hF : F = 42 := hF)
    | (rw [show ((3 : Nat) : Int) = 3 from rfl] at hix; replace hF : F = 43 := hF)
    | (rw [show ((4 : Nat) : Int) = 4 from rfl] at hix; replace hF : F = 44 := hF)
    | (rw [show ((5 : Nat) : Int) = 5 from rfl] at hix; replace hF : F = 45 := hF)
   subst hF
   unfold rV at HT
   go_upto_region 4 with fail
   go_cut [7, 8, 9] from 17 to 31 (fun p n e u => n = .int .i64 mm ∧ e = .int .i64 0 ∧ ∃ tb, p = .pointer (some ⟨tb, 0, none⟩) ∧ Hid (u.heap[tb]? = some (.cells #[.int .i64 kk, .int .i64 0, .int .i64 nn, .string ⟨ss.toArray⟩, .bool false, .bool false] 127 (0, 0)) ∧ Below wr.heap.size wr u))
   case first =>
    go_region_held3 (fun V => V.cell? ⟨bx, 0, none⟩ = some (.string ⟨T.toArray⟩) ∧ V.cell? ⟨bx, 1, none⟩ = some (.int .i64 (a : Int)))
     (first | (with_reducible exact HSV.out _ (by assumption)))
     (first | (with_reducible refine (HT.out _ d1).mono ?_; rintro e w1 ⟨rfl, g0, g1⟩; have z1 := (g0.block _ HL1.out).trans HZ1.out; obtain ⟨y0, y1, y2, y3, y4, y5, yf⟩ := tok_cells z1; have yl := (Array.getElem?_eq_some_iff.1 z1).1; have g2 := (((((g1.setCell (p := ⟨wr.heap.size, 0, none⟩) (Nat.le_refl _) (.int .i64 kk)).setCell (p := ⟨wr.heap.size, 1, none⟩) (Nat.le_refl _) (.int .i64 0)).setCell (p := ⟨wr.heap.size, 2, none⟩) (Nat.le_refl _) (.int .i64 nn)).setCell (p := ⟨wr.heap.size, 3, none⟩) (Nat.le_refl _) (.string ⟨ss.toArray⟩)).setCell (p := ⟨wr.heap.size, 4, none⟩) (Nat.le_refl _) (.bool false)).setCell (p := ⟨wr.heap.size, 5, none⟩) (Nat.le_refl _) (.bool false)) | (with_reducible refine (HT.out _ d0).mono ?_; rintro e w1 ⟨rfl, g0, g1⟩; have g2 := g1.alloc g1.size zTok; have g3 := g1.alloc g1.size (.cells #[.int .i64 kk, .int .i64 0, .int .i64 nn, .string ⟨ss.toArray⟩, .bool false, .bool false] 127)))
    all_goals
     go_wp2_with fail
     go_meet
     refine ⟨rfl, rfl, _, rfl, Lib.hid ?_⟩
     first
      | exact ⟨tok_put z1 kk nn ss, g2⟩
      | exact ⟨heap_alloc_new _ _, g3⟩
   case rest =>
    obtain ⟨u, rfl⟩ : ∃ u : World, u = wc := ⟨_, rfl⟩
    obtain ⟨rfl, rfl, tb, rfl, HG⟩ := hcut
    have HN2 := Lib.hid (HN.out.later HG.out.2)
    obtain ⟨y0, y1, y2, y3, y4, y5, -⟩ := tok_cells HG.out.1
    obtain ⟨x0, x1, x2, x3, x4, x5, xf⟩ := tok_cells HN2.out.res
    have xl := (Array.getElem?_eq_some_iff.1 HN2.out.res).1
    clear HT HSV d0 d1 HZ1 HL1 hix ha0 ha1 hsl
    have hr := HR.out
    clear HR
    split at hr
    ·rename_i hm
     clear hm
     obtain ⟨rfl, rfl, rfl, rfl⟩ := rV_inj hr
     clear hr
     go_wp2_with fail
     obtain ⟨WF, hWF⟩ : ∃ WF, WF = ((((((u.setCell ⟨w.heap.size, 0, none⟩ (.int .i64 t.kind)).setCell ⟨w.heap.size, 1, none⟩ (.int .i64 0)).setCell ⟨w.heap.size, 2, none⟩ (.int .i64 t.n)).setCell ⟨w.heap.size, 3, none⟩ (.string ⟨t.s.toArray⟩)).setCell ⟨w.heap.size, 4, none⟩ (.bool false)).setCell ⟨w.heap.size, 5, none⟩ (.bool false)) := ⟨_, rfl⟩
     have hF := tok_put HN2.out.res t.kind t.n t.s
     have hbF : Below w.heap.size w WF := by
      rw [hWF]
      exact (((((HN2.out.below.setCell (p := ⟨w.heap.size, 0, none⟩) (Nat.le_refl _) _).setCell (p := ⟨w.heap.size, 1, none⟩) (Nat.le_refl _) _).setCell (p := ⟨w.heap.size, 2, none⟩) (Nat.le_refl _) _).setCell (p := ⟨w.heap.size, 3, none⟩) (Nat.le_refl _) _).setCell (p := ⟨w.heap.size, 4, none⟩) (Nat.le_refl _) _).setCell (p := ⟨w.heap.size, 5, none⟩) (Nat.le_refl _) _
     rw [← hWF] at hF ⊢
     clear hWF x0 x1 x2 x3 x4 x5 xf y0 y1 y2 y3 y4 y5
     obtain ⟨f0, f1, f2, f3, f4, f5, -⟩ := tok_cells hF
     exact bodyPost_ret (v := rV t.kind t.n t.s 1) (by simp [results, Tryz.results47, go_sem, rV, f0, f1, f2, f3, f4, f5]) rfl (by rw [HP.out]; exact ⟨rfl, hbF⟩)
    ·rename_i hm
     obtain ⟨rfl, rfl, rfl, rfl⟩ := rV_inj hr
     have HM := Lib.hid (HQ1.out hm)
     clear hr hm
     go_wp2_with fail
     go_roundw
     case rel => first | exact ⟨1, rfl, HM.out, HN2⟩ | exact ⟨2, rfl, HM.out, HN2⟩ | exact ⟨3, rfl, HM.out, HN2⟩ | exact ⟨4, rfl, HM.out, HN2⟩ | exact ⟨5, rfl, HM.out, HN2⟩ | exact ⟨6, rfl, HM.out, HN2⟩
     case measure => decide
end Go.Proofs.YtjdnigepnfeboaaGreatDoor
