import Derived.Test.YtiffopheamnngaaGreatDoorJT13
namespace Go.Proofs.YtiffopheamnngaaGreatDoor
open Go.RowKit Go.Maps
set_option maxRecDepth 100000
def VarPost (E : RqE) (u : World) (nv : Value) (q : QS) (s : List UInt8) (e : Ending) (u' : World) : Prop :=
 ∃ (n : Int) (nv' : Value), e = .returned (.agg #[.int .i64 1, .int .i64 n, .string ⟨#[]⟩, .slice none 0 0]) ∧ (varQ q s).1 = varT n ∧ RqAt E u' nv' (varQ q s).2 false ∧ RqF E u nv u' nv'
theorem find_take_q {L : List (List UInt8 × Int)} {k : Nat} {x : List UInt8 × Int} {p : List UInt8 × Int → Bool} (h : (L.take k).find? p = none) (hx : L[k]? = some x) :
    (p x = true → L.find? p = some x) ∧ (p x = false → (L.take (k + 1)).find? p = none) := by
 obtain ⟨hk, rfl⟩ := List.getElem?_eq_some_iff.1 hx
 have e : L = L.take k ++ L[k] :: L.drop (k + 1) := by rw [List.getElem_cons_drop, List.take_append_drop]
 refine ⟨fun hp => ?_, fun hp => ?_⟩
 ·generalize L[k] = x at *
  rw [e, List.find?_append, h, Option.none_or, List.find?_cons_of_pos hp]
 ·rw [List.take_succ_eq_append_getElem hk, List.find?_append, h, Option.none_or, List.find?_cons_of_neg (by simp [hp])]
  rfl
abbrev set4 (u : World) (b : Nat) (a0 a1 a2 a3 : Value) : World := (((u.setCell ⟨b, 0, none⟩ a0).setCell ⟨b, 1, none⟩ a1).setCell ⟨b, 2, none⟩ a2).setCell ⟨b, 3, none⟩ a3
theorem RqAt.set4 {E : RqE} {u : World} {nv : Value} {q : QS} {bad : Bool} (h : RqAt E u nv q bad) {b : Nat} (hr : E.rb < b) (hn : nv.ownBlock ≠ some b) (a0 a1 a2 a3 : Value) : RqAt E (set4 u b a0 a1 a2 a3) nv q bad :=
 h.keep (fun k hk => blk_set4_ne _ _ _ _ (by have := h.base; omega)) (blk_set4_ne _ _ _ _ (by omega)) fun k hk => blk_set4_ne _ _ _ _ fun e => hn (by rw [hk, e])
theorem RqF.set4 {E : RqE} {u u' : World} {nv nv' : Value} (h : RqF E u nv u' nv') {b : Nat} (hb : u.heap.size ≤ b) (a0 a1 a2 a3 : Value) : RqF E u nv (set4 u' b a0 a1 a2 a3) nv' :=
 (((h.set (p := ⟨b, 0, none⟩) (.inr hb) _).set (p := ⟨b, 1, none⟩) (.inr hb) _).set (p := ⟨b, 2, none⟩) (.inr hb) _).set (p := ⟨b, 3, none⟩) (.inr hb) _
theorem RqAt.apart {E : RqE} {u : World} {nv : Value} {q : QS} {bad : Bool} (h : RqAt E u nv q bad) {b : Nat} {cs : Array Value} {t : TypeId} (hb : u.heap[b]? = some (.cells cs t (0, 0))) (ht : t ≠ 83) : nv.ownBlock ≠ some b := fun e =>
 (h.names.tyq e).ne ⟨_, hb⟩ (Ne.symm ht) rfl
set_option maxHeartbeats 8000000 in
theorem variable_any {E : RqE} {u : World} {nv : Value} {q : QS} (h : RqAt E u nv q false) (s : List UInt8) (hc : q.cnt + 1 ≤ q.at') (hn : q.names.length + 1 ≤ q.at') :
    Calls Tryz.prog 91 #[.pointer (some ⟨E.rb, 0, none⟩), .string ⟨s.toArray⟩] u fun e u' => VarPost E u nv q s e u' := by
 obtain ⟨R, hR⟩ : ∃ R : Ending → World → Prop, R = fun e u' => VarPost E u nv q s e u' := ⟨_, rfl⟩
 rw [← hR]
 have HRR := Lib.hid hR
 clear hR
 have hq20 : q.at' ≤ 20000 := Nat.le_trans h.in' h.few
 have hq0 := h.cnt.1
 have hw1 : IntKind.i64.wrap (q.cnt + 1) = q.cnt + 1 := IntWalk.i64_in _ (by omega)
 have hw2 : IntKind.i64.wrap (q.cnt + 1 - 1) = q.cnt := by rw [Int.add_sub_cancel]; exact IntWalk.i64_in _ (by omega)
 obtain ⟨W, hW⟩ : ∃ W, W = u.alloc (.cells #[.int .i64 0, .int .i64 0, .string ⟨#[]⟩, .slice none 0 0] 34) := ⟨_, rfl⟩
 obtain ⟨br, hbr⟩ : ∃ b, b = u.heap.size := ⟨_, rfl⟩
 have hbW : Below u.heap.size u W := by rw [hW]; exact (Below.refl _ _).alloc (Nat.le_refl _) _
 have hr0 : W.heap[br]? = some (.cells #[.int .i64 0, .int .i64 0, .string ⟨#[]⟩, .slice none 0 0] 34 (0, 0)) := by rw [hW, hbr]; exact heap_alloc_new _ _
 have hrb := h.lt
 have HA := Lib.hid (h.later hbW)
 have HB := Lib.hid hbW
 have HR0 := Lib.hid hr0
 have HBR := Lib.hid (And.intro hbr (show E.rb < br by omega))
 clear h hbW hrb
 by_cases hs : s = [95]
 ·subst hs
  obtain ⟨⟨-, -, -, c3, -, -⟩, cf⟩ := HA.out.cells
  obtain ⟨r0, r1, r2, r3, rf⟩ := four_at hr0
  have hnb : br ≠ E.rb := by have := HBR.out.2; omega
  have HP := Lib.hid (HA.out.put (q' := { q with cnt := q.cnt + 1 }) (bad' := false) 3 (.int .i64 (q.cnt + 1)) (by simp [rqCells]) HA.out.in' rfl ⟨by simp only; omega, by simp only; omega⟩ HA.out.nm)
  have hr1 : (W.setCell ⟨E.rb, 3, none⟩ (.int .i64 (q.cnt + 1))).heap[br]? = some (.cells #[.int .i64 0, .int .i64 0, .string ⟨#[]⟩, .slice none 0 0] 34 (0, 0)) := by
   rw [Below.heap_setCell _ _ _ _ hnb]
   exact HR0.out
  have HFIN : Hid (VarPost E u nv q [95] (.returned (.agg #[.int .i64 1, .int .i64 q.cnt, .string ⟨#[]⟩, .slice none 0 0])) (set4 (W.setCell ⟨E.rb, 3, none⟩ (.int .i64 (q.cnt + 1))) br (.int .i64 1) (.int .i64 q.cnt) (.string ⟨#[]⟩) (.slice none 0 0))) := Lib.hid (by
   have hv : varQ q [95] = (varT q.cnt, { q with cnt := q.cnt + 1 }) := by unfold varQ; rw [if_pos rfl]
   refine ⟨q.cnt, nv, rfl, by rw [hv], ?_, ?_⟩
   ·rw [hv]
    exact HP.out.set4 HBR.out.2 (HP.out.apart hr1 (by decide)) _ _ _ _
   ·exact ((RqF.of_below E nv HB.out).set (p := ⟨E.rb, 3, none⟩) (.inl rfl) _).set4 (by rw [HBR.out.1]; exact Nat.le_refl _) _ _ _ _)
  obtain ⟨z0, z1, z2, z3, -⟩ := four_at (blk_set4 hr1 rfl (.int .i64 1) (.int .i64 q.cnt) (.string ⟨#[]⟩) (.slice none 0 0))
  have HZ := Lib.hid (And.intro z0 (And.intro z1 (And.intro z2 z3)))
  clear hr0 hr1 z0 z1 z2 z3
  go_enter Tryz.func91, Tryz.ntmps91
  go_upto_region 1 with fail
  rw [← hW, ← hbr]
  clear hW hbr
  go_wp2_with fail
  obtain ⟨z0, z1, z2, z3⟩ := HZ.out
  refine bodyPost_ret (v := .agg #[.int .i64 1, .int .i64 q.cnt, .string ⟨#[]⟩, .slice none 0 0]) (by simp [results, Tryz.results91, go_sem, z0, z1, z2, z3]) rfl ?_
  rw [HRR.out]
  exact HFIN.out
 have b95 : (s != [95]) = true := bne_iff_ne.2 hs
 have b95' : (s == [95]) = false := beq_eq_false_iff_ne.2 hs
 obtain ⟨⟨-, -, -, -, c4, -⟩, cf⟩ := HA.out.cells
 obtain ⟨A, cap, hsh⟩ := HA.out.names.shape
 have HNV := Lib.hid hsh
 rw [hsh] at c4
 have hrW : E.rb < W.heap.size := HA.out.lt
 have hbrW : br < W.heap.size := (Array.getElem?_eq_some_iff.1 hr0).1
 have HS := Lib.hid hs
 have hln : q.names.length ≤ 20000 := by omega
 clear hr0 hsh hs
 go_enter Tryz.func91, Tryz.ntmps91
 go_upto_region 1 with fail
 rw [← hW, ← hbr]
 clear hW hbr
 go_wp2_with fail
 go_loopw [14] (fun i wr => ∃ k : Nat, k ≤ q.names.length ∧ i = .int .i64 k ∧ Hid ((q.names.take k).find? (fun y => decide (y.1 = s)) = none) ∧ Below W.heap.size W wr) (fun i _ => q.names.length - (intOf i).toNat)
 case atStart => exact ⟨0, Nat.zero_le _, rfl, Lib.hid (by simp), Below.refl _ _⟩
 case round =>
  obtain ⟨k, hk, rfl, HN, hb⟩ := hrel
  have HAW := Lib.hid (HA.out.later hb)
  have hr1 := (hb.block br hbrW).trans HR0.out
  have hsz := hb.size
  by_cases hlt : k < q.names.length
  ·have hx := List.getElem?_eq_getElem hlt
   generalize q.names[k] = x at hx
   obtain ⟨f1, f2⟩ := find_take_q HN.out hx
   obtain ⟨g, cap', e1, hg0, hg, -, hcs⟩ := HAW.out.names.cells encBi_len (by intro e; rw [e] at hlt; exact absurd hlt (Nat.not_lt_zero _))
   rw [HNV.out] at e1
   injection e1 with e1 e2 e3
   have d0 := (hcs k x hx 0 _ rfl).1
   have d1 := (hcs k x hx 1 _ rfl).1
   rw [Nat.add_zero] at d0
   have hlt' : (k : Int) < (q.names.length : Int) := by omega
   have HBW := Lib.hid (hb.alloc hb.size (.cells #[.string ⟨x.1.toArray⟩, .int .i64 x.2] 83))
   have HBX := Lib.hid hb
   clear hcs hb hx
   subst e1
   obtain ⟨x1, x2⟩ := x
   simp only at d0 d1 HBW f1 f2
   by_cases e3 : x1 = s
   ·subst e3
    have HF := Lib.hid (f1 (by simp))
    have hss : (x1 == x1) = true := by simp
    have hsd : (wr.alloc (.cells #[.string ⟨x1.toArray⟩, .int .i64 x2] 83)).heap[br]? = some (.cells #[.int .i64 0, .int .i64 0, .string ⟨#[]⟩, .slice none 0 0] 34 (0, 0)) := by
     rw [Below.heap_alloc _ _ _ (by omega)]; exact hr1
    obtain ⟨r0, r1, r2, r3, rf⟩ := four_at hsd
    have HFIN : Hid (VarPost E u nv q x1 (.returned (.agg #[.int .i64 1, .int .i64 x2, .string ⟨#[]⟩, .slice none 0 0])) (set4 (wr.alloc (.cells #[.string ⟨x1.toArray⟩, .int .i64 x2] 83)) br (.int .i64 1) (.int .i64 x2) (.string ⟨#[]⟩) (.slice none 0 0))) := Lib.hid (by
     have hv : varQ q x1 = (varT x2, q) := by unfold varQ; rw [if_neg HS.out, HF.out]
     have hA := HAW.out.later ((Below.refl wr.heap.size wr).alloc (Nat.le_refl _) (.cells #[.string ⟨x1.toArray⟩, .int .i64 x2] 83))
     refine ⟨x2, nv, rfl, by rw [hv], ?_, ?_⟩
     ·rw [hv]
      exact hA.set4 HBR.out.2 (hA.apart hsd (by decide)) _ _ _ _
     ·exact (RqF.of_below E nv (HB.out.trans (HBW.out.mono HB.out.size))).set4 (by rw [HBR.out.1]; exact Nat.le_refl _) _ _ _ _)
    clear f1 f2 hr1 hsd
    go_wp2_with fail
    refine bodyPost_ret (v := .agg #[.int .i64 1, .int .i64 x2, .string ⟨#[]⟩, .slice none 0 0]) (by simp [results, Tryz.results91, go_sem, r0, r1, r2, r3]) rfl ?_
    rw [HRR.out]
    exact HFIN.out
   ·have HN2 := Lib.hid (f2 (by simpa using e3))
    have hss : (x1 == s) = false := by simpa using e3
    clear f1 f2 hr1
    go_wp2_with fail
    go_roundw
    case rel => exact ⟨k + 1, hlt, by go_num, HN2, HBW.out⟩
    case measure => simp [intOf]; omega
  ·have hkn : k = q.names.length := by omega
   subst hkn
   have HF : Hid (q.names.find? (fun y => decide (y.1 = s)) = none) := Lib.hid (by have h0 := HN.out; rwa [List.take_length] at h0)
   obtain ⟨⟨-, -, -, d3, d4, -⟩, df⟩ := HAW.out.cells
   rw [HNV.out] at d4
   obtain ⟨i0, z0, hi0, hz0, hz1, hz2, hz3⟩ := bind6_info
   have hwr : E.rb < wr.heap.size := HAW.out.lt
   have HR1 := Lib.hid hr1
   have hcap : q.names.length ≤ cap := by
    have h1 := HAW.out.names
    rw [HNV.out] at h1
    exact h1.cap_le
   have HBX := Lib.hid hb
   clear hr1 hb
   go_upto_region 8 with fail
   go_region_law
    ((refine step_append_lies _ (by rfl) _ _ _ (by rfl) (E.rb + 1) 83 i0 _ 2 24 Tryz.underlying40 hi0 hz0 hz1 hz2 hz3 (by omega) (.slice A q.names.length cap) q.names.length (q.names.flatMap encBi) (by rfl) (by rw [← HNV.out]; exact (Row.later HAW.out.names (by (repeat (first | exact Below.refl _ _ | refine Below.drew ?_ | refine Below.alloc ?_ (Nat.le_refl _) _)))).own)
        ⟨wr.heap.size, 0, none⟩ 1 1 (encBi (s, q.cnt)) (by rfl) (by rfl) (World.news_of_block (cs := (encBi (s, q.cnt)).toArray) (t := 83) (fr := (0, 0)) (by exact heap_alloc_new wr _)) (encBi_one _)
        (by omega) (by unfold maxLen; omega) (by omega) (by simp; omega) (wr.heap.size + 1) (by simp) ?_; intro gg cap2 w10 hown hgrow hat10 hlt10; obtain ⟨hc10, hf10⟩ : w10.cell? ⟨E.rb, 4, none⟩ = some (.slice A q.names.length cap) ∧ w10.frozen? ⟨E.rb, 4, none⟩ = false := ⟨(HAW.out.toRqCo.grown (by (repeat (first | exact Below.refl _ _ | refine Below.drew ?_ | refine Below.alloc ?_ (Nat.le_refl _) _))) hgrow (fun k hk => (HAW.out.names.lt k (by rw [HNV.out]; exact hk)).1)).cells.1.2.2.2.2.1.trans (congrArg some HNV.out), (HAW.out.toRqCo.grown (by (repeat (first | exact Below.refl _ _ | refine Below.drew ?_ | refine Below.alloc ?_ (Nat.le_refl _) _))) hgrow (fun k hk => (HAW.out.names.lt k (by rw [HNV.out]; exact hk)).1)).cells.2 4⟩))
   all_goals
    have hbt : Below wr.heap.size wr (wr.alloc (.cells #[.string ⟨s.toArray⟩, .int .i64 q.cnt] 83)).drew := ((Below.refl _ _).alloc (Nat.le_refl _) _).drew
    have hrow : ∀ k, (Value.slice A q.names.length cap).ownBlock = some k → E.rb < k := fun k hk => (HAW.out.names.lt k (by rw [HNV.out]; exact hk)).1
    have g1 := HAW.out.toRqCo.grown hbt hgrow hrow
    have g2 := g1.put (nv' := .slice (some ⟨gg, 0, none⟩) (q.names.length + 1) cap2) (q' := { q with names := q.names ++ [(s, q.cnt)] }) (bad' := false) 4 (.slice (some ⟨gg, 0, none⟩) (q.names.length + 1) cap2) (by simp [rqCells]) g1.in' g1.cnt (by simp only [List.length_append, List.length_singleton]; omega)
    have hr10 : Row w10 (E.rb + 1) 83 2 encBi (.slice (some ⟨gg, 0, none⟩) (q.names.length + 1) cap2) (q.names ++ [(s, q.cnt)]) := ⟨by rw [List.length_append, List.flatMap_append]; simpa using hown⟩
    have hV : RqAt E (w10.setCell ⟨E.rb, 4, none⟩ (.slice (some ⟨gg, 0, none⟩) (q.names.length + 1) cap2)) (.slice (some ⟨gg, 0, none⟩) (q.names.length + 1) cap2) { q with names := q.names ++ [(s, q.cnt)] } false := ⟨g2, hr10.keep fun k hk => Below.heap_setCell _ _ _ _ (by have := (hr10.lt k hk).1; show k ≠ E.rb; omega)⟩
    have hFV : RqF E u nv (w10.setCell ⟨E.rb, 4, none⟩ (.slice (some ⟨gg, 0, none⟩) (q.names.length + 1) cap2)) (.slice (some ⟨gg, 0, none⟩) (q.names.length + 1) cap2) := by
     have h0 := (RqF.of_below E nv (HB.out.trans (HBX.out.mono HB.out.size))).below hbt
     refine ⟨(h0.fr.grown hgrow fun g hg => .inl (.inr (by rw [HNV.out]; exact hg))).setCell (p := ⟨E.rb, 4, none⟩) (.inl (.inl rfl)) _, fun k hk => ?_⟩
     have hk : gg = k := Option.some.inj hk
     rcases hat10 with h1 | h1
     ·exact .inl (by rw [HNV.out, ← hk]; exact h1)
     ·refine .inr ?_
      have := HB.out.size
      have := HBX.out.size
      omega
    have hbV : (w10.setCell ⟨E.rb, 4, none⟩ (.slice (some ⟨gg, 0, none⟩) (q.names.length + 1) cap2)).heap[br]? = some (.cells #[.int .i64 0, .int .i64 0, .string ⟨#[]⟩, .slice none 0 0] 34 (0, 0)) := by
     have h0 : br < wr.heap.size := (Array.getElem?_eq_some_iff.1 HR1.out).1
     rw [Below.heap_setCell _ _ _ _ (by have := HBR.out.2; show br ≠ E.rb; omega), hgrow.block br (by simp; omega) (fun e => HAW.out.apart HR1.out (by decide) (by rw [HNV.out]; exact e.symm))]
     exact (Below.heap_alloc wr _ br h0).trans HR1.out
    obtain ⟨V, hVe⟩ : ∃ V, V = w10.setCell ⟨E.rb, 4, none⟩ (.slice (some ⟨gg, 0, none⟩) (q.names.length + 1) cap2) := ⟨_, rfl⟩
    rw [← hVe] at hV hFV hbV ⊢
    obtain ⟨nv2, hnv2⟩ : ∃ v, v = Value.slice (some ⟨gg, 0, none⟩) (q.names.length + 1) cap2 := ⟨_, rfl⟩
    rw [← hnv2] at hV hFV
    have HP := Lib.hid (hV.put (q' := { q with cnt := q.cnt + 1, names := q.names ++ [(s, q.cnt)] }) (bad' := false) 3 (.int .i64 (q.cnt + 1)) (by simp [rqCells]) hV.in' rfl ⟨by simp only; omega, by simp only; omega⟩ hV.nm)
    have hnb : br ≠ E.rb := by have := HBR.out.2; omega
    have hr2 : (V.setCell ⟨E.rb, 3, none⟩ (.int .i64 (q.cnt + 1))).heap[br]? = some (.cells #[.int .i64 0, .int .i64 0, .string ⟨#[]⟩, .slice none 0 0] 34 (0, 0)) := by
     rw [Below.heap_setCell _ _ _ _ hnb]
     exact hbV
    have HFIN : Hid (VarPost E u nv q s (.returned (.agg #[.int .i64 1, .int .i64 q.cnt, .string ⟨#[]⟩, .slice none 0 0])) (set4 (V.setCell ⟨E.rb, 3, none⟩ (.int .i64 (q.cnt + 1))) br (.int .i64 1) (.int .i64 q.cnt) (.string ⟨#[]⟩) (.slice none 0 0))) := Lib.hid (by
     have hv : varQ q s = (varT q.cnt, { q with cnt := q.cnt + 1, names := q.names ++ [(s, q.cnt)] }) := by unfold varQ; rw [if_neg HS.out, HF.out]
     refine ⟨q.cnt, nv2, rfl, by rw [hv], ?_, ?_⟩
     ·rw [hv]
      exact HP.out.set4 HBR.out.2 (HP.out.apart hr2 (by decide)) _ _ _ _
     ·exact (hFV.set (p := ⟨E.rb, 3, none⟩) (.inl rfl) _).set4 (by rw [HBR.out.1]; exact Nat.le_refl _) _ _ _ _)
    obtain ⟨z0, z1, z2, z3, -⟩ := four_at (blk_set4 hr2 rfl (.int .i64 1) (.int .i64 q.cnt) (.string ⟨#[]⟩) (.slice none 0 0))
    obtain ⟨⟨-, -, -, e3, -, -⟩, ef⟩ := hV.cells
    obtain ⟨r0, r1, r2, r3, rf⟩ := four_at hbV
    have HZ := Lib.hid (And.intro z0 (And.intro z1 (And.intro z2 z3)))
    simp only at e3
    clear hbt hrow g1 g2 hr10 hV hFV hbV hVe hnv2 hr2 z0 z1 z2 z3 hown hgrow hat10 hlt10 hc10 hf10 d3 d4 c4
    go_wp2_with fail
    obtain ⟨z0, z1, z2, z3⟩ := HZ.out
    refine bodyPost_ret (v := .agg #[.int .i64 1, .int .i64 q.cnt, .string ⟨#[]⟩, .slice none 0 0]) (by simp [results, Tryz.results91, go_sem, z0, z1, z2, z3]) rfl ?_
    rw [HRR.out]
    exact HFIN.out
def Fwd (T : QT) : Prop := ∀ most q x q', T most q = .ok (x, q') → q.at' < q'.at'
theorem need_at {ts : List Tok} {q q' : QS} {c : UInt8} (h : needQ ts q c = .ok q') : q' = q.go 1 ∧ isP ts q.at' c = true := by
 unfold needQ at h
 split at h
 ·injection h with h
  exact ⟨h.symm, by assumption⟩
 ·cases h
theorem need_map {α : Type} {ts : List Tok} {q : QS} {c : UInt8} {g : QS → α × QS} {r : α × QS} (h : (needQ ts q c).map g = .ok r) : r = g (q.go 1) := by
 cases hn : needQ ts q c with
 | error a => rw [hn] at h; cases h
 | ok q' =>
  rw [hn] at h
  injection h with h
  rw [← h, (need_at hn).1]
theorem args_lt {ts : List Tok} {T : QT} (hT : Fwd T) : ∀ (k : Nat) (q : QS) (l : List Tm) (r : List Tm) (q' : QS), argsQ ts T k q l = .ok (r, q') → q.at' < q'.at'
 | 0, _, _, _, _, h => by cases h
 | k + 1, q, l, r, q', h => by
  unfold argsQ at h
  cases hx : T 999 q with
  | error a => rw [hx] at h; cases h
  | ok xq =>
   obtain ⟨x, q1⟩ := xq
   have h1 := hT 999 q x q1 hx
   rw [hx] at h
   dsimp only at h
   split at h
   ·have := args_lt hT k (q1.go 1) _ r q' h
    simp only [QS.go] at this
    omega
   ·injection h with h
    injection h with _ h
    rw [← h]
    exact h1
theorem named_le {o : OpsF} {ts : List Tok} {T : QT} (hT : Fwd T) {nm : List UInt8} {opn may : Bool} {most : Int} {q : QS} {x : Tm × Int} {q' : QS} (h : namedQ o ts T nm opn may most q = .ok (x, q')) : q.at' ≤ q'.at' := by
 unfold namedQ at h
 split at h
 ·cases hn : needQ ts q 40 with
  | error a => rw [hn] at h; cases h
  | ok q1 =>
   rw [hn] at h
   dsimp only at h
   cases ha : argsQ ts T (ts.length + 1) q1 [] with
   | error a => rw [ha] at h; cases h
   | ok lq =>
    obtain ⟨l, q2⟩ := lq
    rw [ha] at h
    have h1 := args_lt hT _ _ _ _ _ ha
    have h2 := need_map h
    injection h2 with _ h2
    rw [(need_at hn).1] at h1
    rw [h2]
    simp only [QS.go] at h1 ⊢
    omega
 ·split at h
  ·cases hx : T (o.pre nm).2 q with
   | error a => rw [hx] at h; cases h
   | ok xq =>
    obtain ⟨y, q1⟩ := xq
    rw [hx] at h
    injection h with h
    injection h with _ h
    rw [← h]
    exact Nat.le_of_lt (hT _ q y q1 hx)
  ·injection h with h
   injection h with _ h
   rw [h]
   exact Nat.le_refl _
theorem paren_lt {ts : List Tok} {T : QT} (hT : Fwd T) {q q' : QS} {x : Tm × Int} (h : parenQ ts T q = .ok (x, q')) : q.at' < q'.at' := by
 unfold parenQ at h
 cases hx : T 1200 (q.go 1) with
 | error a => rw [hx] at h; cases h
 | ok xq =>
  obtain ⟨y, q1⟩ := xq
  rw [hx] at h
  have h1 := hT _ _ _ _ hx
  have h2 := need_map h
  injection h2 with _ h2
  rw [h2]
  simp only [QS.go] at h1 ⊢
  omega
theorem brace_lt {ts : List Tok} {T : QT} (hT : Fwd T) {q q' : QS} {x : Tm × Int} (h : braceQ ts T q = .ok (x, q')) : q.at' < q'.at' := by
 unfold braceQ at h
 cases hx : T 1200 (q.go 1) with
 | error a => rw [hx] at h; cases h
 | ok xq =>
  obtain ⟨y, q1⟩ := xq
  rw [hx] at h
  have h1 := hT _ _ _ _ hx
  have h2 := need_map h
  injection h2 with _ h2
  rw [h2]
  simp only [QS.go] at h1 ⊢
  omega
theorem list_lt {ts : List Tok} {T : QT} (hT : Fwd T) {q q' : QS} {x : Tm × Int} (h : listQ ts T q = .ok (x, q')) : q.at' < q'.at' := by
 unfold listQ at h
 cases ha : argsQ ts T (ts.length + 1) (q.go 1) [] with
 | error a => rw [ha] at h; cases h
 | ok lq =>
  obtain ⟨l, q1⟩ := lq
  rw [ha] at h
  have h1 := args_lt hT _ _ _ _ _ ha
  dsimp only at h
  split at h
  ·cases hx : T 999 (q1.go 1) with
   | error a => rw [hx] at h; cases h
   | ok xq =>
    obtain ⟨y, q2⟩ := xq
    rw [hx] at h
    have h3 := hT _ _ _ _ hx
    have h2 := need_map h
    injection h2 with _ h2
    rw [h2]
    simp only [QS.go] at h1 h3 ⊢
    omega
  ·have h2 := need_map h
   injection h2 with _ h2
   rw [h2]
   simp only [QS.go] at h1 ⊢
   omega
theorem var_at' (q : QS) (x : List UInt8) : (varQ q x).2.at' = q.at' := by
 unfold varQ
 split
 ·rfl
 ·split <;> rfl
theorem primary_lt {o : OpsF} {ts : List Tok} {T : QT} (hT : Fwd T) {most : Int} {q q' : QS} {x : Tm × Int} (h : primaryQ o ts T most q = .ok (x, q')) : q.at' < q'.at' := by
 have hgo : ∀ k, 0 < k → q.at' < (q.go k).at' := fun k hk => by simp only [QS.go]; omega
 have hok : ∀ {k : Nat} {y : Tm × Int}, 0 < k → (Except.ok (y, q.go k) : Except Nat ((Tm × Int) × QS)) = .ok (x, q') → q.at' < q'.at' := fun hk e => by
  injection e with e
  injection e with _ e
  rw [← e]
  exact hgo _ hk
 unfold primaryQ at h
 dsimp only at h
 split at h
 ·split at h
  ·cases h
  ·exact hok (by omega) h
 ·split at h
  ·injection h with h
   injection h with _ h
   rw [← h, var_at']
   exact hgo 1 (by omega)
  ·split at h
   ·exact hok (by omega) h
   ·split at h
    ·split at h
     ·exact paren_lt hT h
     ·split at h
      ·split at h
       ·exact Nat.lt_of_lt_of_le (hgo 2 (by omega)) (named_le hT h)
       ·exact list_lt hT h
      ·split at h
       ·split at h
        ·exact Nat.lt_of_lt_of_le (hgo 2 (by omega)) (named_le hT h)
        ·exact brace_lt hT h
       ·cases h
    ·split at h
     ·split at h
      ·exact hok (by omega) h
      ·exact Nat.lt_of_lt_of_le (hgo 1 (by omega)) (named_le hT h)
     ·cases h
theorem loop_le {o : OpsF} {ts : List Tok} {T : QT} (hT : Fwd T) (most : Int) : ∀ (k : Nat) (x : Tm) (p : Int) (q : QS) (y : Tm × Int) (q' : QS), loopQ o ts T most k x p q = .ok (y, q') → q.at' ≤ q'.at'
 | 0, _, _, _, _, _, h => by cases h
 | k + 1, x, p, q, y, q', h => by
  unfold loopQ at h
  dsimp only at h
  split at h
  ·injection h with h
   injection h with _ h
   rw [h]
   exact Nat.le_refl _
  ·split at h
   ·cases hx : T (o.inf (peekF ts q.at').s).2.2 (q.go 1) with
    | error a => rw [hx] at h; cases h
    | ok xq =>
     obtain ⟨z, q1⟩ := xq
     rw [hx] at h
     have h1 := hT _ _ _ _ hx
     have h2 := loop_le hT most k _ _ _ _ _ h
     simp only [QS.go] at h1
     omega
   ·split at h
    ·have h2 := loop_le hT most k _ _ _ _ _ h
     simp only [QS.go] at h2
     omega
    ·injection h with h
     injection h with _ h
     rw [h]
     exact Nat.le_refl _
theorem term_fwd (o : OpsF) (ts : List Tok) : ∀ n, Fwd (termQ o ts n)
 | 0 => fun _ _ _ _ h => by cases h
 | n + 1 => fun most q x q' h => by
  have ht : termQ o ts (n + 1) most q = (match primaryQ o ts (termQ o ts n) most q with
   | .error a => .error a
   | .ok (x, s1) => loopQ o ts (termQ o ts n) most (ts.length + 1) x.1 x.2 s1) := rfl
  rw [ht] at h
  cases hx : primaryQ o ts (termQ o ts n) most q with
  | error a => rw [hx] at h; cases h
  | ok xq =>
   obtain ⟨y, q1⟩ := xq
   rw [hx] at h
   exact Nat.lt_of_lt_of_le (primary_lt (term_fwd o ts n) hx) (loop_le (term_fwd o ts n) most _ _ _ _ _ _ h)
section
variable {P : Program} {α : Type}
theorem wpList_row_lies {ops : Array Oper} {rest : List Oper} {o : Oper} {a : Act} {Q : Exit → Act → World → Prop} (hgd : o.guard = none) (s x : Operand) (t : TypeId)
    (ho : o.op = .call { callee := .builtin .append, args := #[s, x], argTypes := #[t, t] }) (w : World) (B : Nat)
    (e : TypeId) (i : TypeInfo) (z : Value) (sz bytes : Nat) (enc : α → List Value) (ht : P.underlying t = some (.slice e)) (hi : P.info? e = some i) (hz : i.zero = some z)
    (hsize : i.size = sz) (hby : i.bytes = bytes) (hzs : z.cells.size = sz) (hsz : 0 < sz) (henc : ∀ x, (enc x).length = sz) (h1 : ∀ x, ∀ u ∈ enc x, u.oneCell' = true)
    (v : Value) (l : List α) (y : α) (hs : a.eval s = v) (h : Row w B e sz enc v l)
    (g cap : Nat) (hx : a.eval x = .slice (some ⟨g, 0, none⟩) 1 cap) (hnews : ∀ j u, (enc y)[j]? = some u → w.cell? ⟨g, j, none⟩ = some u)
    (h63 : l.length + 1 ≤ maxLen) (hbytes : (l.length + 1) * bytes ≤ 140737488355328) (hbase : B ≤ w.heap.size)
    (hK : ∀ g' cap' w', Row w' B e sz enc (.slice (some ⟨g', 0, none⟩) (l.length + 1) cap') (l ++ [y]) → w.grownBy w' v.ownBlock → (v.ownBlock = some g' ∨ g' = w.heap.size) → wpList P ops Q rest (a.put o.dst (.slice (some ⟨g', 0, none⟩) (l.length + 1) cap')) w') : wpList P ops Q (o :: rest) a w := by
 refine wpList_append_lies w hgd s x t ho B e i z sz bytes ht hi hz hsize hby hzs hsz v l.length (l.flatMap enc) hs h.own ⟨g, 0, none⟩ 1 cap (enc y) hx (by rw [henc, Nat.one_mul]) ?_ (h1 y) (by omega) h63 hbytes hbase w.heap.size rfl ?_
 ·intro j u hu
  have : (⟨g, 0, none⟩ : Addr).add j = ⟨g, j, none⟩ := by unfold Addr.add; split <;> simp_all
  rw [this]
  exact hnews j u hu
 ·intro g' cap' w' h2 h3 h4 _
  refine hK g' cap' w' ⟨?_⟩ h3 h4
  rw [List.flatMap_append, List.length_append]
  simpa using h2
end
section
variable {B bt : Nat} {k n : Int} {s : List UInt8} {l : List Tm} {A : Option Addr} {c : Nat} {xs : List TV} {w w' : World}
end
end Go.Proofs.YtiffopheamnngaaGreatDoor
