import Derived.Test.YtjdnigepnfeboaaGreatDoorJG15
import Derived.Test.YtjdnigepnfeboaaGreatDoorJG21
namespace Go.Proofs.YtjdnigepnfeboaaGreatDoor
open Go.RowKit Go.Maps
set_option maxRecDepth 100000
def kindJ : List Nat := [2, 4, 6, 8, 10, 12, 14, 16, 18, 20, 22]
def kindI : Nat → PK × Int
 | 2 => (([116, 114, 117, 101], 0), 1)
 | 4 => (([102, 97, 105, 108], 0), 7)
 | 6 => (([33], 0), 6)
 | 8 => (([44], 2), 2)
 | 10 => (([59], 2), 3)
 | 12 => (([45, 62], 2), 4)
 | 14 => (([92, 43], 1), 5)
 | 16 => (([99, 97, 108, 108], 1), 8)
 | 18 => (([99, 97, 116, 99, 104], 3), 9)
 | 20 => (([116, 104, 114, 111, 119], 1), 10)
 | 22 => (([102, 105, 110, 100, 97, 108, 108], 3), 11)
 | _ => (([], 0), 0)
def kindsL : List (PK × Int) := kindJ.map kindI
def KindsMap (w u : World) (b : Nat) : Prop := LitM w u b pk ev6 okPK kindsL
set_option maxHeartbeats 4000000 in
theorem kinds_any (w : World) : Calls Tryz.prog 218 #[] w fun e w' => ∃ b, e = .returned (.map (some b)) ∧ KindsMap w w' b := by
 have M0 := NMap.made (ek := pk) (ev := ev6) (okk := okPK) (w := w) (u := w.drew) ((Below.refl _ _).drew)
 obtain ⟨u0, hu0⟩ : ∃ u, u = w.drew.alloc (.map #[] 0) := ⟨_, rfl⟩
 have hmm : (Instr.makeMap 315 none).run Tryz.prog w.drew = .ok (.map (some w.heap.size)) u0 := by
  rw [hu0]
  simp [Instr.makeMap, Result.andThen]
 rw [← hu0, show w.drew.heap.size = w.heap.size from rfl] at M0
 clear hu0
 have HM := Lib.hid M0
 clear M0
 go_enter Tryz.func218, Tryz.ntmps218
 go_wp2_with fail
 refine wp_region_any (by kernel_rfl) ?_
 refine wpAny_take (i := 1) (v := .agg #[.string ⟨#[116, 114, 117, 101]⟩, .int .i64 0]) rfl (by kernel_rfl) (by kernel_rfl) (by kernel_rfl) (fun _ _ _ h => h) (Or.inl ⟨by rfl, by intro w; go_simp⟩) ?_
 refine wpAny_take (i := 3) (v := .agg #[.string ⟨#[102, 97, 105, 108]⟩, .int .i64 0]) rfl (by kernel_rfl) (by kernel_rfl) (by kernel_rfl) (fun _ _ _ h => h) (Or.inl ⟨by rfl, by intro w; go_simp⟩) ?_
 refine wpAny_take (i := 5) (v := .agg #[.string ⟨#[33]⟩, .int .i64 0]) rfl (by kernel_rfl) (by kernel_rfl) (by kernel_rfl) (fun _ _ _ h => h) (Or.inl ⟨by rfl, by intro w; go_simp⟩) ?_
 refine wpAny_take (i := 7) (v := .agg #[.string ⟨#[44]⟩, .int .i64 2]) rfl (by kernel_rfl) (by kernel_rfl) (by kernel_rfl) (fun _ _ _ h => h) (Or.inl ⟨by rfl, by intro w; go_simp⟩) ?_
 refine wpAny_take (i := 9) (v := .agg #[.string ⟨#[59]⟩, .int .i64 2]) rfl (by kernel_rfl) (by kernel_rfl) (by kernel_rfl) (fun _ _ _ h => h) (Or.inl ⟨by rfl, by intro w; go_simp⟩) ?_
 refine wpAny_take (i := 11) (v := .agg #[.string ⟨#[45, 62]⟩, .int .i64 2]) rfl (by kernel_rfl) (by kernel_rfl) (by kernel_rfl) (fun _ _ _ h => h) (Or.inl ⟨by rfl, by intro w; go_simp⟩) ?_
 refine wpAny_take (i := 13) (v := .agg #[.string ⟨#[92, 43]⟩, .int .i64 1]) rfl (by kernel_rfl) (by kernel_rfl) (by kernel_rfl) (fun _ _ _ h => h) (Or.inl ⟨by rfl, by intro w; go_simp⟩) ?_
 refine wpAny_take (i := 15) (v := .agg #[.string ⟨#[99, 97, 108, 108]⟩, .int .i64 1]) rfl (by kernel_rfl) (by kernel_rfl) (by kernel_rfl) (fun _ _ _ h => h) (Or.inl ⟨by rfl, by intro w; go_simp⟩) ?_
 refine wpAny_take (i := 17) (v := .agg #[.string ⟨#[99, 97, 116, 99, 104]⟩, .int .i64 3]) rfl (by kernel_rfl) (by kernel_rfl) (by kernel_rfl) (fun _ _ _ h => h) (Or.inl ⟨by rfl, by intro w; go_simp⟩) ?_
 refine wpAny_take (i := 19) (v := .agg #[.string ⟨#[116, 104, 114, 111, 119]⟩, .int .i64 1]) rfl (by kernel_rfl) (by kernel_rfl) (by kernel_rfl) (fun _ _ _ h => h) (Or.inl ⟨by rfl, by intro w; go_simp⟩) ?_
 refine wpAny_take (i := 21) (v := .agg #[.string ⟨#[102, 105, 110, 100, 97, 108, 108]⟩, .int .i64 3]) rfl (by kernel_rfl) (by kernel_rfl) (by kernel_rfl) (fun _ _ _ h => h) (Or.inl ⟨by rfl, by intro w; go_simp⟩) ?_
 refine wpAny_all (rs := [0]) (by kernel_rfl) (by simp) (fun i hi => ?_)
 obtain rfl : i = 0 := by simpa using hi
 refine wpOp_step rfl (fun K hK => ?_)
 rw [if_pos (by rfl)]
 go_simp
 refine hK _ _ ?_
 refine wpAny_left (js := kindJ) (fst := 23) (rest := [24]) (full := (Array.replicate 23 true).push false |>.push false) (by kernel_rfl) (by kernel_rfl) 2 _ (fun left u => LitG w w.heap.size pk ev6 okPK kindJ kindI left u) ?hs ?hl 11 kindJ _ _ rfl (fun _ h => h) (by decide) (LitS.of (by kernel_rfl)) (LitG.start HM.out)
 case hs =>
  intro left i u hn hi hj hG
  obtain ⟨u', e, hG'⟩ := hG.put gkKE Tryz.underlying315 (by decide) hj ((show ∀ i ∈ kindJ, okPK (kindI i).1 by unfold okPK; decide) i hj) hn
  have HG := Lib.hid hG'
  clear hG hG' hmm HM hK hi
  simp only [kindJ, List.mem_cons, List.not_mem_nil, or_false] at hj
  rcases hj with rfl | rfl | rfl | rfl | rfl | rfl | rfl | rfl | rfl | rfl | rfl
  all_goals
   simp only [kindI, pk, ev6] at e
   refine wpOp_step rfl (fun K hK => ?_)
   rw [if_pos (by rfl)]
   go_simp
   exact hK _ _ ⟨rfl, HG.out⟩
 case hl =>
  intro u hG
  have HG := Lib.hid (hG.all (l := kindsL) rfl (by decide))
  clear hG
  refine wpAny_take (i := 23) (v := .map (some w.heap.size)) rfl (by kernel_rfl) (by kernel_rfl) (by kernel_rfl) (fun _ _ _ h => h) (Or.inl ⟨by rfl, by intro w; go_simp⟩) ?_
  refine wpAny_take (i := 24) (v := .map (some w.heap.size)) rfl (by kernel_rfl) (by kernel_rfl) (by kernel_rfl) (fun _ _ _ h => h) (Or.inl ⟨by rfl, by intro w; go_simp⟩) ?_
  refine wpAny_done (by kernel_rfl) ?_ 0
  clear hmm HM hi hK K
  go_wp2_with fail
  go_ret
  exact ⟨_, rfl, HG.out⟩
def kindG (k : PK) : Int := (mget kindsL k).getD 0
def callB : List UInt8 := [99, 97, 108, 108]
def kindF (k : Int) (s : List UInt8) (n : Nat) : Int := if k = 3 then kindG (s, 0) else if k = 4 then (if n = 0 then 0 else kindG (s, if s = callB then 1 else n)) else -1
theorem kinds_look {w u : World} {b : Nat} (h : KindsMap w u b) (s : List UInt8) (m : Int) (hk : okPK (s, m)) : (Instr.lookup 315 (.map (some b)) (.agg #[.string ⟨s.toArray⟩, .int .i64 m]) false).run Tryz.prog u = .ok (.int .i64 (kindG (s, m))) u := by
 obtain ⟨L, hM, hL⟩ := h
 have := hM.map.lookup (t := 315) gkKE Tryz.underlying315 (z := .int .i64 0) (fun u => by kernel_rfl) hM.ok hk false
 rw [hL] at this
 unfold kindG
 cases hc : mget kindsL (s, m) <;> rw [hc] at this <;> exact this
theorem KindsMap.below {w u : World} {b : Nat} (h : KindsMap w u b) : Below w.heap.size w u := by
 obtain ⟨L, hM, -⟩ := h
 exact hM.below
structure KeyAt (w U : World) (s : List UInt8) (m : Int) : Prop where
 blk : U.heap[w.heap.size + 1]? = some (.cells #[.string ⟨s.toArray⟩, .int .i64 m] 314 (0, 0))
 below : Below w.heap.size w U
theorem KeyAt.new (w : World) (o : Obj) (s : List UInt8) (m : Int) : KeyAt w ((w.alloc o).alloc (.cells #[.string ⟨s.toArray⟩, .int .i64 m] 314)) s m :=
 ⟨by simpa using heap_alloc_new (w.alloc o) (.cells #[.string ⟨s.toArray⟩, .int .i64 m] 314), ((Below.refl _ _).alloc (Nat.le_refl _) _).alloc (by simp) _⟩
theorem KeyAt.later {w U V : World} {s : List UInt8} {m : Int} (h : KeyAt w U s m) (hb : Below U.heap.size U V) : V.cell? ⟨w.heap.size + 1, 0, none⟩ = some (.string ⟨s.toArray⟩) ∧ V.cell? ⟨w.heap.size + 1, 1, none⟩ = some (.int .i64 m) := by
 have hb := (hb.block _ (Array.getElem?_eq_some_iff.1 h.blk).1).trans h.blk
 exact ⟨(cell_of_row _ _ 0 _ _ _ hb).trans rfl, (cell_of_row _ _ 1 _ _ _ hb).trans rfl⟩
set_option maxHeartbeats 4000000 in
theorem Kind_any (w : World) (x : TV) (hs : x.s.length ≤ maxLen) (hl : (x.len : Int) ≤ 9223372036854775807) :
    Calls Tryz.prog 127 #[tvV x] w fun e w' => e = .returned (.int .i64 (kindF x.k x.s x.len)) ∧ Below w.heap.size w w' := by
 obtain ⟨k, n, s, A, len, cap⟩ := x
 dsimp only at hs hl ⊢
 unfold tvV
 dsimp only
 have HKA := Lib.hid (show ∀ (m : Int), -9223372036854775808 ≤ m → m ≤ 9223372036854775807 → okPK (s, m) from fun m h1 h2 => ⟨hs, h1, h2⟩)
 clear hs
 by_cases h3 : k = 3
 ·subst h3
  have HR := Lib.hid (show kindF 3 s len = kindG (s, 0) by unfold kindF; rw [if_pos rfl])
  clear hl
  go_enter Tryz.func127, Tryz.ntmps127
  go_upto_region 11 with fail
  have HO := Lib.hid (HKA.out 0 (by omega) (by omega))
  obtain ⟨U, hU⟩ : ∃ U, U = (w.alloc (Obj.cells #[.int .i64 3, .int .i64 n, .string ⟨s.toArray⟩, .slice A len cap] 27)).alloc (.cells #[.string ⟨s.toArray⟩, .int .i64 0] 314) := ⟨_, rfl⟩
  rw [← hU]
  have HK : Hid (KeyAt w U s 0) := Lib.hid (by rw [hU]; exact KeyAt.new w _ s 0)
  clear hU HKA
  have HS : Hid (∀ V, Below U.heap.size U V → V.cell? ⟨w.heap.size + 1, 0, none⟩ = some (.string ⟨s.toArray⟩) ∧ V.cell? ⟨w.heap.size + 1, 1, none⟩ = some (.int .i64 0)) := Lib.hid fun V hV => HK.out.later hV
  go_region_held3 (fun V => V.cell? ⟨w.heap.size + 1, 0, none⟩ = some (.string ⟨s.toArray⟩) ∧ V.cell? ⟨w.heap.size + 1, 1, none⟩ = some (.int .i64 0))
   (first | (with_reducible exact HS.out _ (Below.refl _ _).drew) | (with_reducible exact HS.out _ hb))
   (first | (go_at_call 218; refine (kinds_any _).mono ?_; rintro e w1 ⟨b, rfl, hM⟩; have hb : Below U.heap.size U w1 := (Below.refl _ _).drew.trans hM.below; have hlk := kinds_look hM s 0 HO.out))
  clear hlk hM
  go_wp2_with fail
  go_ret
  exact ⟨by rw [HR.out]; rfl, HK.out.below.trans (hb.mono HK.out.below.size)⟩
 ·by_cases h4 : k = 4
  ·subst h4
   clear h3
   by_cases hz : len = 0
   ·have HR := Lib.hid (show kindF 4 s len = 0 by unfold kindF; rw [if_neg (by decide), if_pos rfl, if_pos hz])
    subst hz
    go_enter Tryz.func127, Tryz.ntmps127
    go_wp2_with fail
    go_ret
    exact ⟨by rw [HR.out]; rfl, ((Below.refl _ _).alloc (Nat.le_refl _) _).alloc (by simp) _⟩
   ·have hz0 : ((len : Int) == 0) = false := beq_false_of_ne (by omega)
    by_cases hc : s = callB
    ·have HR := Lib.hid (show kindF 4 s len = kindG (s, 1) by unfold kindF; rw [if_neg (by decide), if_pos rfl, if_neg hz, if_pos hc])
     have hcc : (s == [99, 97, 108, 108]) = true := beq_iff_eq.2 hc
     clear hc hz
     go_enter Tryz.func127, Tryz.ntmps127
     go_upto_region 11 with fail
     have HO := Lib.hid (HKA.out 1 (by omega) (by omega))
     obtain ⟨U, hU⟩ : ∃ U, U = (w.alloc (Obj.cells #[.int .i64 4, .int .i64 n, .string ⟨s.toArray⟩, .slice A len cap] 27)).alloc (.cells #[.string ⟨s.toArray⟩, .int .i64 1] 314) := ⟨_, rfl⟩
     rw [← hU]
     have HK : Hid (KeyAt w U s 1) := Lib.hid (by rw [hU]; exact KeyAt.new w _ s 1)
     clear hU HKA
     have HS : Hid (∀ V, Below U.heap.size U V → V.cell? ⟨w.heap.size + 1, 0, none⟩ = some (.string ⟨s.toArray⟩) ∧ V.cell? ⟨w.heap.size + 1, 1, none⟩ = some (.int .i64 1)) := Lib.hid fun V hV => HK.out.later hV
     go_region_held3 (fun V => V.cell? ⟨w.heap.size + 1, 0, none⟩ = some (.string ⟨s.toArray⟩) ∧ V.cell? ⟨w.heap.size + 1, 1, none⟩ = some (.int .i64 1))
      (first | (with_reducible exact HS.out _ (Below.refl _ _).drew) | (with_reducible exact HS.out _ hb))
      (first | (go_at_call 218; refine (kinds_any _).mono ?_; rintro e w1 ⟨b, rfl, hM⟩; have hb : Below U.heap.size U w1 := (Below.refl _ _).drew.trans hM.below; have hlk := kinds_look hM s 1 HO.out))
     clear hlk hM
     go_wp2_with fail
     go_ret
     exact ⟨by rw [HR.out]; rfl, HK.out.below.trans (hb.mono HK.out.below.size)⟩
    ·have HR := Lib.hid (show kindF 4 s len = kindG (s, (len : Int)) by unfold kindF; rw [if_neg (by decide), if_pos rfl, if_neg hz, if_neg hc])
     have hcc : (s == [99, 97, 108, 108]) = false := beq_false_of_ne hc
     clear hc hz
     go_enter Tryz.func127, Tryz.ntmps127
     go_upto_region 11 with fail
     have HO := Lib.hid (HKA.out (len : Int) (by omega) (by omega))
     obtain ⟨U, hU⟩ : ∃ U, U = (w.alloc (Obj.cells #[.int .i64 4, .int .i64 n, .string ⟨s.toArray⟩, .slice A len cap] 27)).alloc (.cells #[.string ⟨s.toArray⟩, .int .i64 (len : Int)] 314) := ⟨_, rfl⟩
     rw [← hU]
     have HK : Hid (KeyAt w U s (len : Int)) := Lib.hid (by rw [hU]; exact KeyAt.new w _ s (len : Int))
     clear hU HKA
     have HS : Hid (∀ V, Below U.heap.size U V → V.cell? ⟨w.heap.size + 1, 0, none⟩ = some (.string ⟨s.toArray⟩) ∧ V.cell? ⟨w.heap.size + 1, 1, none⟩ = some (.int .i64 (len : Int))) := Lib.hid fun V hV => HK.out.later hV
     go_region_held3 (fun V => V.cell? ⟨w.heap.size + 1, 0, none⟩ = some (.string ⟨s.toArray⟩) ∧ V.cell? ⟨w.heap.size + 1, 1, none⟩ = some (.int .i64 (len : Int)))
      (first | (with_reducible exact HS.out _ (Below.refl _ _).drew) | (with_reducible exact HS.out _ hb))
      (first | (go_at_call 218; refine (kinds_any _).mono ?_; rintro e w1 ⟨b, rfl, hM⟩; have hb : Below U.heap.size U w1 := (Below.refl _ _).drew.trans hM.below; have hlk := kinds_look hM s (len : Int) HO.out))
     clear hlk hM
     go_wp2_with fail
     go_ret
     exact ⟨by rw [HR.out]; rfl, HK.out.below.trans (hb.mono HK.out.below.size)⟩
  ·have HR := Lib.hid (show kindF k s len = -1 by unfold kindF; rw [if_neg h3, if_neg h4])
   have h3' : (k == 3) = false := beq_false_of_ne h3
   have h4' : (k == 4) = false := beq_false_of_ne h4
   clear h3 h4
   go_enter Tryz.func127, Tryz.ntmps127
   go_wp2_with fail
   go_ret
   exact ⟨by rw [HR.out]; rfl, ((Below.refl _ _).alloc (Nat.le_refl _) _).alloc (by simp) _⟩
section
variable {G : Nat → Prop} {u wr : World} {t tp : Tm} {gk g cap : Nat} {l0 : List Pw} {p : Nat × Nat} {y : TV}
theorem OwnAt.off (h : OwnAt G u t gk (.slice (some ⟨g, 0, none⟩) (l0.length + 1) cap) wr (l0 ++ [(p, tp)])) : Row wr u.heap.size 205 1 encLo (.slice (some ⟨g, 0, none⟩) l0.length cap) (l0.map (·.1)) := by
 have h1 := h.row
 rw [List.map_append, List.map_cons, List.map_nil] at h1
 have h2 := Row.front (x := p) encLo_len (l := l0.map (·.1)) (by rw [List.length_map]; exact h1)
 rwa [List.length_map] at h2
theorem OwnAt.nil' (h : OwnAt G u t gk (.slice (some ⟨g, 0, none⟩) (l0.length + 1) cap) wr (l0 ++ [(p, tp)])) (hc : ∀ (j : Nat) v, (encTV y)[j]? = some v → wr.cell? ⟨p.1, p.2 + j, none⟩ = some v) (hl : y.len = 0) :
    OwnAt G u t (gk - 1) (.slice (some ⟨g, 0, none⟩) l0.length cap) (wr.setCell ⟨p.1, p.2 + 3, none⟩ (.slice none 0 0)) l0 ∧ 0 < gk := by
 have hp := h.pt (p, tp) (List.mem_append_right _ (List.mem_singleton.2 rfl))
 have hr := recopy_nil hc hl
 have hS : ∀ b, TyB wr 27 b → TyB (wr.setCell ⟨p.1, p.2 + 3, none⟩ (.slice none 0 0)) 27 b := fun b hb => hb.setC _ _ _
 have hsz := h.sz
 have hfw := h.few
 rw [szP_app] at hsz hfw
 have ht : 1 ≤ tp.size := by obtain ⟨k, n, s, l⟩ := tp; simp only [Tm.size]; omega
 simp only [szP] at hsz hfw
 refine ⟨⟨h.off.keep fun k hk => Below.heap_setCell _ _ _ _ ((h.off.ty hk).ne hp.2.2.1 (by decide)), fun q hq => (h.pt q (List.mem_append_left _ hq)).recopy hr hS (fun e => absurd e (by omega)), h.root.recopy hr hS (fun e => absurd e (by omega)), h.below.setCell hp.1 _, (Below.heap_setCell _ _ _ _ (Ne.symm hp.2.1)).trans h.rk, by omega, by omega⟩, by omega⟩
def kids (g : Nat) (l : List Tm) (i : Nat) : List Pw := match l with
 | [] => []
 | a :: r => ((g, i * 4), a) :: kids g r (i + 1)
theorem kids_sz (g : Nat) : ∀ (l : List Tm) (i : Nat), szP (kids g l i) = Tm.sizes l
 | [], _ => rfl
 | a :: r, i => by rw [kids, szP, kids_sz g r, Tm.sizes]
theorem kids_fst (g : Nat) : ∀ (l : List Tm) (i : Nat), (kids g l i).map (·.1) = (List.range l.length).map fun j => (g, (i + j) * 4)
 | [], _ => rfl
 | a :: r, i => by
  rw [kids, List.map_cons, kids_fst g r, List.length_cons, List.range_succ_eq_map, List.map_cons, List.map_map]
  congr 1
  refine List.map_congr_left fun j _ => ?_
  show ((g, (i + 1 + j) * 4) : Nat × Nat) = (g, (i + (j + 1)) * 4)
  congr 2
  omega
theorem kids_mem (g : Nat) : ∀ (l : List Tm) (i : Nat) (q : Pw), q ∈ kids g l i → ∃ j, l[j]? = some q.2 ∧ q.1 = (g, (i + j) * 4)
 | [], _, _, h => by cases h
 | a :: r, i, q, h => by
  rw [kids] at h
  rcases List.mem_cons.1 h with rfl | h
  ·exact ⟨0, rfl, rfl⟩
  ·obtain ⟨j, h1, h2⟩ := kids_mem g r (i + 1) q h
   exact ⟨j + 1, h1, by rw [h2]; congr 2; omega⟩
theorem OwnAt.kids' {W2 wi : World} {b off n gn : Nat} {zs : List TV} {v : Value} (h : OwnAt G u t gk (.slice (some ⟨g, 0, none⟩) (l0.length + 1) cap) wr (l0 ++ [(p, tp)])) (hc : ∀ (j : Nat) v, (encTV y)[j]? = some v → wr.cell? ⟨p.1, p.2 + j, none⟩ = some v) (hn : y.len = n) (hA : y.A = some ⟨b, off, none⟩) (hz : zs.length = n) (hta : tp.args.length = n)
    (hs : ∀ (i : Nat) z, zs[i]? = some z → ∀ (j : Nat) v, (encTV z)[j]? = some v → wr.cell? ⟨b, off + i * 4 + j, none⟩ = some v) (hts : ∀ (i : Nat) z a, zs[i]? = some z → tp.args[i]? = some a → TermS wr (OwS G u wr) z a) (hgn : gn = wr.heap.size)
    (hW : W2 = (wr.alloc (.cells (zs.flatMap encTV).toArray 27)).setCell ⟨p.1, p.2 + 3, none⟩ (.slice (some ⟨wr.heap.size, 0, none⟩) n n)) (hf : TFB 0 [205] W2 wi) (hbi : Below u.heap.size W2 wi) (hr : Row wi u.heap.size 205 1 encLo v (l0.map (·.1) ++ (List.range n).map fun i => (gn, i * 4))) :
    OwnAt G u t (gk - 1) v wi (l0 ++ kids gn tp.args 0) ∧ 0 < gk := by
 have hp := h.pt (p, tp) (List.mem_append_right _ (List.mem_singleton.2 rfl))
 have hrc := recopy_new hc hp.2.2.1.lt hA hn hz hs
 rw [← hW, ← hgn] at hrc
 have hpl := hp.2.2.1.lt
 have hnew : TyB W2 27 gn := by
  rw [hW, hgn]
  exact TyB.setC ⟨_, heap_alloc_new _ _⟩ _ _ _
 have hnew2 : OwS G u W2 gn := ⟨hnew, (fun e => by have := (Array.getElem?_eq_some_iff.1 h.rk).1; omega), fun e => by have := (Array.getElem?_eq_some_iff.1 h.rk).1; omega⟩
 have hS : ∀ b, TyB wr 27 b → TyB W2 27 b := fun b hb => by
  rw [hW]
  exact (hb.keep (Below.heap_alloc _ _ _ hb.lt)).setC _ _ _
 have hk : ∀ b, TyB W2 27 b → wi.heap[b]? = W2.heap[b]? := fun b hb => hf.block hb (by decide)
 have hsz := h.sz
 have hfw := h.few
 rw [szP_app] at hsz hfw
 simp only [szP] at hsz hfw
 have ht : tp.size = 1 + Tm.sizes tp.args := by obtain ⟨k, n, s, l⟩ := tp; rfl
 have hbl : Below u.heap.size u W2 := by
  rw [hW]
  exact (h.below.alloc h.below.size _).setCell hp.1 _
 have hrk2 : W2.heap[u.heap.size + 1]? = some (.cells #[.int .i64 0, .int .i64 0, .string ⟨#[]⟩, .slice none 0 0] 27 (0, 0)) := by
  rw [hW, Below.heap_setCell _ _ _ _ (Ne.symm hp.2.1), Below.heap_alloc _ _ _ (Array.getElem?_eq_some_iff.1 h.rk).1]
  exact h.rk
 refine ⟨⟨?_, fun q hq => ?_, (h.root.recopy hrc hS fun _ => hnew2).keep hk, hbl.trans hbi, (hk _ ⟨_, hrk2⟩).trans hrk2, ?_, ?_⟩, by omega⟩
 ·rw [List.map_append, kids_fst, hta]
  simpa using hr
 ·rcases List.mem_append.1 hq with hq | hq
  ·exact ((h.pt q (List.mem_append_left _ hq)).recopy hrc hS fun _ => hnew2).keep hk
  ·obtain ⟨j, h1, h2⟩ := kids_mem gn tp.args 0 q hq
   obtain ⟨z, hzz⟩ : ∃ z, zs[j]? = some z := ⟨_, List.getElem?_eq_getElem (by have := (List.getElem?_eq_some_iff.1 h1).1; omega)⟩
   refine PtAt.keep ?_ hk
   rw [h2]
   refine ⟨by have := h.below.size; simp only; omega, fun e => ?_, hnew, z, fun i v hv => ?_, (hrc.term (S' := OwS G u W2) (fun b hb => ⟨hS b hb.1, hb.2⟩) (fun _ => hnew2) q.2.size q.2 (Nat.le_refl _)).1 z (hts j z q.2 hzz h1)⟩
   ·simp only at e
    have := (Array.getElem?_eq_some_iff.1 h.rk).1
    omega
   ·have hj := (List.getElem?_eq_some_iff.1 hv).1
    rw [encTV_len] at hj
    have hjl := (List.getElem?_eq_some_iff.1 hzz).1
    rw [Nat.zero_add]
    exact hrc.copy b off (j * 4 + i) v hA (by omega) (by rw [← Nat.add_assoc]; exact hs j z hzz i v hv)
 ·rw [szP_app, kids_sz]; omega
 ·rw [szP_app, kids_sz]; omega
set_option maxHeartbeats 16000000 in
theorem own_any (u : World) (x : TV) (t : Tm) (hx : TermS u (fun b => TyB u 27 b ∧ G b) x t) (hsz : t.size ≤ 100000) :
    Calls Tryz.prog 59 #[tvV x] u fun e u' => ∃ y : TV, e = .returned (tvV y) ∧ TermS u' (fun b => TyB u' 27 b ∧ (b < u.heap.size → G b)) y t ∧ Below u.heap.size u u' := by
 obtain ⟨P, hP⟩ : ∃ P : Ending → World → Prop, P = fun e u' => ∃ y : TV, e = .returned (tvV y) ∧ TermS u' (fun b => TyB u' 27 b ∧ (b < u.heap.size → G b)) y t ∧ Below u.heap.size u u' := ⟨_, rfl⟩
 rw [← hP]
 have HP := Lib.hid hP
 obtain ⟨i0, z0, hi0, hz0, hz1, hz2, hz3⟩ := ptrT_info
 obtain ⟨k, n0, s, A, n, c⟩ := x
 obtain ⟨W, hW⟩ : ∃ W, W = ((u.alloc (.cells #[.int .i64 k, .int .i64 n0, .string ⟨s.toArray⟩, .slice A n c] 27)).alloc (.cells #[.int .i64 0, .int .i64 0, .string ⟨#[]⟩, .slice none 0 0] 27)).alloc (.cells #[.pointer (some ⟨u.heap.size, 0, none⟩)] 205) := ⟨_, rfl⟩
 have HI0 : Hid (OwnAt G u t t.size (.slice (some ⟨u.heap.size + 1 + 1, 0, none⟩) 1 1) W [((u.heap.size, 0), t)]) := Lib.hid (by
  have hb : Below u.heap.size u W := by rw [hW]; exact (((Below.refl _ _).alloc (Nat.le_refl _) _).alloc (by simp) _).alloc (by simp; omega) _
  have h0 : W.heap[u.heap.size]? = some (.cells #[.int .i64 k, .int .i64 n0, .string ⟨s.toArray⟩, .slice A n c] 27 (0, 0)) := by
   rw [hW, Below.heap_alloc _ _ _ (by simp; omega), Below.heap_alloc _ _ _ (by simp)]
   exact heap_alloc_new _ _
  have h1 : W.heap[u.heap.size + 1]? = some (.cells #[.int .i64 0, .int .i64 0, .string ⟨#[]⟩, .slice none 0 0] 27 (0, 0)) := by
   rw [hW, Below.heap_alloc _ _ _ (by simp)]
   have := heap_alloc_new (u.alloc (.cells #[.int .i64 k, .int .i64 n0, .string ⟨s.toArray⟩, .slice A n c] 27)) (.cells #[.int .i64 0, .int .i64 0, .string ⟨#[]⟩, .slice none 0 0] 27)
   rwa [World.size_alloc] at this
  obtain ⟨g0, g1, g2, g3, -⟩ := four_at h0
  have hpt : PtAt G u W (u.heap.size, 0) t := by
   refine ⟨Nat.le_refl _, by simp, ⟨_, h0⟩, ⟨k, n0, s, A, n, c⟩, fun j v hv => ?_, hx.keep (fun b hb' => ⟨hb'.1.keep (hb.block b hb'.1.lt), by have := hb'.1.lt; omega, fun _ => hb'.2⟩) fun b hb' => hb.block b hb'.1.lt⟩
   rw [Nat.zero_add]
   obtain _ | _ | _ | _ | j := j
   ·injection hv with hv; rw [← hv]; exact g0
   ·injection hv with hv; rw [← hv]; exact g1
   ·injection hv with hv; rw [← hv]; exact g2
   ·injection hv with hv; rw [← hv]; exact g3
   ·simp [encTV] at hv
  refine ⟨?_, fun q hq => ?_, hpt, hb, h1, by simp [szP], by simp only [szP]; omega⟩
  ·have := Row.one (B := u.heap.size) (e := 205) encLo_len ((u.alloc (.cells #[.int .i64 k, .int .i64 n0, .string ⟨s.toArray⟩, .slice A n c] 27)).alloc (.cells #[.int .i64 0, .int .i64 0, .string ⟨#[]⟩, .slice none 0 0] 27)) ((u.heap.size, 0) : Nat × Nat) (by simp; omega)
   rw [hW]
   simpa [encLo] using this
  ·rw [List.mem_singleton] at hq
   rw [hq]
   exact hpt)
 clear hP hx hsz
 unfold tvV
 go_enter Tryz.func59, Tryz.ntmps59
 go_upto_region 2 with fail
 rw [← hW]
 clear hW
 go_loopg [3] t.size (fun gk v wr => ∃ ps, Hid (OwnAt G u t gk v wr ps))
 case atStart => exact ⟨_, HI0⟩
 case round =>
  obtain ⟨ps, HI⟩ := hrel
  clear HI0
  by_cases hnil : ps = []
  ·subst hnil
   obtain ⟨A2, c2, e2⟩ := HI.out.row.shape
   rw [List.map_nil, List.length_nil] at e2
   subst e2
   obtain ⟨-, -, -, y, hy, hyt⟩ := HI.out.root
   have y0 : wr.cell? ⟨u.heap.size, 0, none⟩ = some (.int .i64 y.k) := hy 0 _ rfl
   have y1 : wr.cell? ⟨u.heap.size, 1, none⟩ = some (.int .i64 y.n) := hy 1 _ rfl
   have y2 : wr.cell? ⟨u.heap.size, 2, none⟩ = some (.string ⟨y.s.toArray⟩) := hy 2 _ rfl
   have y3 : wr.cell? ⟨u.heap.size, 3, none⟩ = some (.slice y.A y.len y.cap) := hy 3 _ rfl
   obtain ⟨r0, r1, r2, r3, rf⟩ := four_at HI.out.rk
   have HT := Lib.hid hyt
   have hf := blk_set4 HI.out.rk rfl (.int .i64 y.k) (.int .i64 y.n) (.string ⟨y.s.toArray⟩) (.slice y.A y.len y.cap)
   obtain ⟨rk, hrk⟩ : ∃ rk, rk = u.heap.size + 1 := ⟨_, rfl⟩
   rw [← hrk] at r0 r1 r2 r3 rf hf ⊢
   obtain ⟨WF, hWF⟩ : ∃ WF, WF = ((((wr.setCell ⟨rk, 0, none⟩ (.int .i64 y.k)).setCell ⟨rk, 1, none⟩ (.int .i64 y.n)).setCell ⟨rk, 2, none⟩ (.string ⟨y.s.toArray⟩)).setCell ⟨rk, 3, none⟩ (.slice y.A y.len y.cap)) := ⟨_, rfl⟩
   have HQ : Hid (P (.returned (tvV y)) WF) := Lib.hid (by
    rw [HP.out]
    have hk : ∀ b, b ≠ rk → WF.heap[b]? = wr.heap[b]? := fun b hb => by rw [hWF]; exact blk_set4_ne _ _ _ _ hb
    refine ⟨y, rfl, HT.out.keep (fun b hb => ⟨hb.1.keep (hk b (by rw [hrk]; exact hb.2.1)), hb.2.2⟩) fun b hb => hk b (by rw [hrk]; exact hb.2.1), ?_⟩
    rw [hWF]
    have h2 : u.heap.size ≤ rk := by omega
    exact (((HI.out.below.setCell (p := ⟨rk, 0, none⟩) h2 _).setCell (p := ⟨rk, 1, none⟩) h2 _).setCell (p := ⟨rk, 2, none⟩) h2 _).setCell (p := ⟨rk, 3, none⟩) h2 _)
   rw [← hWF] at hf
   have HWF := Lib.hid hWF
   have HF4 := Lib.hid hf
   clear hWF hf hy hyt hrk
   go_wp2_with fail
   rw [← HWF.out]
   obtain ⟨f0, f1, f2, f3, -⟩ := four_at HF4.out
   exact bodyPost_ret (v := tvV y) (by simp [results, Tryz.results59, go_sem, f0, f1, f2, f3, tvV]) rfl HQ.out
  ·obtain ⟨l0, z, rfl⟩ : ∃ l0 p, ps = l0 ++ [p] := ⟨_, _, (List.dropLast_concat_getLast hnil).symm⟩
   obtain ⟨⟨pb, po⟩, tp⟩ := z
   obtain ⟨g, cap, e1, g1, g2, g3, g4⟩ := HI.out.row.cells encLo_len (by simp)
   have hll : ((l0 ++ [((pb, po), tp)]).map (·.1)).length = l0.length + 1 := by simp
   rw [hll] at e1 g3
   subst e1
   have q0 := (g4 l0.length (pb, po) (by rw [List.map_append, List.getElem?_append_right (by simp), List.length_map, Nat.sub_self]; rfl) 0 _ rfl).1
   rw [Nat.mul_one, Nat.add_zero] at q0
   simp only at q0
   obtain ⟨-, hpr, hpt, y, hy, hyt⟩ := HI.out.pt ((pb, po), tp) (List.mem_append_right _ (List.mem_singleton.2 rfl))
   simp only at hpr hpt hy hyt
   have y3 : wr.cell? ⟨pb, po + 3, none⟩ = some (.slice y.A y.len y.cap) := hy 3 _ rfl
   have hpl := hpt.lt
   have yf : ∀ o, wr.frozen? ⟨pb, o, none⟩ = false := fun o => by
    obtain ⟨cs9, h9⟩ := hpt
    simp [World.frozen?, h9]
   have hfl := szP_len (l0 ++ [((pb, po), tp)])
   have hfew := HI.out.few
   rw [List.length_append, List.length_singleton] at hfl
   have hw1 : IntKind.i64.wrap (((l0.length + 1 : Nat) : Int) - 1) = (l0.length : Int) := by rw [IntWalk.i64_in _ (by omega)]; omega
   have hw2 : IntKind.i64.wrap (l0.length : Int) = (l0.length : Int) := IntWalk.i64_in _ (by omega)
   have hn0 : (0 : Int) ≤ (l0.length : Int) := by omega
   have hn1 : (0 : Int) < (l0.length : Int) + 1 := by omega
   have hn2 : (l0.length : Int) < (l0.length : Int) + 1 := by omega
   have hn4 : l0.length < l0.length + 1 := by omega
   have hn7 : l0.length ≤ cap := by omega
   have HY := Lib.hid (And.intro hy hyt)
   have hl0n : l0.length ≤ 1000000 := by omega
   clear g4 hnil hll hpr hpt hy hyt hfl hfew
   by_cases hyn : y.len = 0
   ·have b1 : ((y.len : Int) == 0) = true := by rw [hyn]; rfl
    have HNX := Lib.hid (HI.out.nil' HY.out.1 hyn)
    have hgk := HNX.out.2
    have hlt : gk - 1 < gk := by omega
    clear hyn
    go_wp2_with fail
    go_roundg (gk - 1)
    case measure => exact hlt
    case rel => exact ⟨_, Lib.hid HNX.out.1⟩
   ·have b1 : ((y.len : Int) == 0) = false := beq_eq_false_iff_ne.2 (by omega)
    obtain ⟨zs, b, off, z1, z2, z3, z4, z5, z6⟩ := termS_args HY.out.2 (by omega)
    obtain ⟨m, hm⟩ : ∃ m, m = y.len := ⟨_, rfl⟩
    have hm1 : m ≤ 1000000 := by
     have h1 := HI.out.few
     rw [szP_app] at h1
     simp only [szP] at h1
     have h2 : tp.args.length + 1 ≤ tp.size := by
      obtain ⟨k9, n9, s9, l9⟩ := tp
      have : ∀ l : List Tm, l.length ≤ Tm.sizes l := by
       intro l
       induction l with
       | nil => exact Nat.le_refl _
       | cons a r ih =>
        obtain ⟨k8, n8, s8, l8⟩ := a
        simp only [List.length_cons, Tm.sizes, Tm.size]
        omega
      have := this l9
      simp only [Tm.size, Tm.args]
      omega
     omega
    have hmk := run_terms wr m hm1
    have hcp := copy_terms wr zs b off m y.cap (z1.trans hm.symm) z5
    obtain ⟨gn, hgn⟩ : ∃ gn, gn = wr.heap.size := ⟨_, rfl⟩
    obtain ⟨V0, hV0⟩ : ∃ V, V = wr.alloc (.cells ((List.replicate m zTV).flatMap encTV).toArray 27) := ⟨_, rfl⟩
    obtain ⟨V1, hV1⟩ : ∃ V, V = wr.alloc (.cells (zs.flatMap encTV).toArray 27) := ⟨_, rfl⟩
    obtain ⟨W2, hW2⟩ : ∃ W, W = V1.setCell ⟨pb, po + 3, none⟩ (.slice (some ⟨gn, 0, none⟩) m m) := ⟨_, rfl⟩
    rw [← hV0, ← hgn] at hmk
    rw [← hV0, ← hV1, ← hgn] at hcp
    have hb0 : Below wr.heap.size wr V0 := by rw [hV0]; exact (Below.refl _ _).alloc (Nat.le_refl _) _
    have hb1 : Below wr.heap.size wr V1 := by rw [hV1]; exact (Below.refl _ _).alloc (Nat.le_refl _) _
    rw [z3, ← hm] at y3
    have y3a : V0.cell? ⟨pb, po + 3, none⟩ = some (.slice (some ⟨b, off, none⟩) m y.cap) := (hb0.cell (p := ⟨pb, po + 3, none⟩) hpl).trans y3
    have y3b : V1.cell? ⟨pb, po + 3, none⟩ = some (.slice (some ⟨b, off, none⟩) m y.cap) := (hb1.cell (p := ⟨pb, po + 3, none⟩) hpl).trans y3
    have yfb : ∀ o, V1.frozen? ⟨pb, o, none⟩ = false := fun o => (World.frozen?_of_block (w := wr) (a := ⟨pb, o, none⟩) (hb1.block _ hpl)).trans (yf o)
    have hpl0 : pb < V0.heap.size := Nat.lt_of_lt_of_le hpl hb0.size
    have hpl1 : pb < V1.heap.size := Nat.lt_of_lt_of_le hpl hb1.size
    rw [← hm] at b1
    have HZ := Lib.hid (And.intro z1 (And.intro z2 (And.intro z3 (And.intro z5 z6))))
    have HM := Lib.hid hm
    have HGN := Lib.hid hgn
    have HW2 : Hid (W2 = (wr.alloc (.cells (zs.flatMap encTV).toArray 27)).setCell ⟨pb, po + 3, none⟩ (.slice (some ⟨wr.heap.size, 0, none⟩) m m) ∧ Below u.heap.size u W2 ∧ gn < W2.heap.size ∧ Row W2 u.heap.size 205 1 encLo (.slice (some ⟨g, 0, none⟩) l0.length cap) (l0.map (·.1)) ∧ u.heap.size ≤ W2.heap.size) := Lib.hid (by
     have hp := HI.out.pt ((pb, po), tp) (List.mem_append_right _ (List.mem_singleton.2 rfl))
     have h1 : W2.heap.size = V1.heap.size := by rw [hW2, World.size_setCell]
     have h2 : V1.heap.size = wr.heap.size + 1 := by rw [hV1]; simp
     have h3 := HI.out.below.size
     refine ⟨by rw [hW2, hV1, hgn], by rw [hW2]; exact (HI.out.below.trans (hb1.mono h3)).setCell hp.1 _, by omega, ?_, by omega⟩
     rw [hW2]
     exact (HI.out.off.later hb1).keep fun k hk => Below.heap_setCell _ _ _ _ ((HI.out.off.ty hk).ne hp.2.2.1 (by decide)) |>.trans rfl)
    have HCP := Lib.hid hcp
    have HW2E := Lib.hid hW2
    clear z1 z2 z3 z4 z5 z6 hm hb0 hb1 hgn hyn hcp hV1 hW2
    go_upto_region 8 with fail
    rw [← hV0]
    clear hV0 hmk
    have hcp := HCP.out
    go_wp2_with fail
    clear hcp HCP
    rw [← HW2E.out]
    clear y3 y3a y3b yf yfb hpl hpl0 hpl1 q0 b1
    obtain ⟨wl, hwl⟩ : ∃ wl : World, wl = wr := ⟨_, rfl⟩
    subst hwl
    go_loopw [3, 49] (fun v i wi => ∃ (j : Nat), i = .int .i64 (j : Nat) ∧ j ≤ m ∧ Hid (Row wi u.heap.size 205 1 encLo v (l0.map (·.1) ++ (List.range j).map fun i => (gn, i * 4)) ∧ TFB 0 [205] W2 wi ∧ Below u.heap.size W2 wi)) (fun _ i _ => m - (intOf i).toNat)
    case atStart => exact ⟨0, rfl, Nat.zero_le _, Lib.hid ⟨by simpa using HW2.out.2.2.2.1, TFB.refl _ _, Below.refl _ _⟩⟩
    case round =>
     obtain ⟨j, rfl, hj, HJ⟩ := hrel
     by_cases hlt : j < m
     ·have hlt1 : (j : Int) < (m : Int) := by omega
      have hge : (0 : Int) ≤ (j : Int) := by omega
      have hwj : IntKind.i64.wrap ((j : Int) + 1) = (j : Int) + 1 := IntWalk.i64_in _ (by omega)
      obtain ⟨A8, c8, e8⟩ := HJ.out.1.shape
      subst e8
      obtain ⟨L, hL⟩ : ∃ L : List (Nat × Nat), L = l0.map (·.1) ++ (List.range j).map fun i => (gn, i * 4) := ⟨_, rfl⟩
      rw [← hL] at HJ ⊢
      have HLL : Hid (L = l0.map (·.1) ++ (List.range j).map (fun i => (gn, i * 4)) ∧ L.length ≤ 3000000) := Lib.hid ⟨hL, by rw [hL]; simp; omega⟩
      have hLn := HLL.out.2
      have hus : u.heap.size ≤ wr.heap.size := Nat.le_trans HW2.out.2.2.2.2 HJ.out.2.1.size
      have HJR := Lib.hid HJ.out.1
      clear hL
      go_wp2_with (at_builtin; refine wpList_row rfl _ _ 206 rfl _ u.heap.size 205 i0 z0 1 8 encLo Tryz.underlying206 hi0 hz0 hz1 hz2 hz3 (by decide) encLo_len encLo_one (.slice A8 L.length c8) L (gn, j * 4) rfl (HJR.out.alloc _) _ 1 rfl (fun j1 w hw => by rw [cell_made _ _ _ j1 w (by rw [← Array.getElem?_toList]; simpa [encLo] using hw)]) (by unfold maxLen; omega) (by omega) (by simp; omega) ?_)
      intro v' w9 hr hg
      have HNX : Hid (Row w9 u.heap.size 205 1 encLo v' (l0.map (·.1) ++ (List.range (j + 1)).map fun i => (gn, i * 4)) ∧ TFB 0 [205] W2 w9 ∧ Below u.heap.size W2 w9) := Lib.hid (by
       refine ⟨?_, (HJ.out.2.1.alloc _).grown hg fun g e => .inl ⟨Nat.zero_le _, 205, by decide, (HJR.out.ty e).keep (Below.heap_alloc _ _ _ (HJR.out.ty e).lt)⟩, (HJ.out.2.2.alloc hus _).grown hg (by simp; omega) fun k hk => (HJR.out.lt k hk).1⟩
       rw [List.range_succ, List.map_append, ← List.append_assoc, ← HLL.out.1]
       exact hr)
      clear hr hg
      go_wp2_with fail
      go_roundw
      case rel => exact ⟨j + 1, rfl, by omega, HNX⟩
      case measure =>
       simp only [intOf]
       omega
     ·obtain rfl : j = m := by omega
      have hng : ¬ (j : Int) < (j : Int) := by omega
      have HNX := Lib.hid (HI.out.kids' HY.out.1 HM.out.symm HZ.out.2.2.1 (HZ.out.1.trans HM.out.symm) (HZ.out.2.1.trans HM.out.symm) HZ.out.2.2.2.1 HZ.out.2.2.2.2 HGN.out HW2.out.1 HJ.out.2.1 HJ.out.2.2 HJ.out.1)
      have hgk := HNX.out.2
      have hlt9 : gk - 1 < gk := by omega
      clear hlt
      go_wp2_with fail
      go_roundg (gk - 1)
      case measure => exact hlt9
      case rel => exact ⟨_, Lib.hid HNX.out.1⟩
end
end Go.Proofs.YtjdnigepnfeboaaGreatDoor
namespace Go.Proofs.YtjdnigepnfeboaaGreatDoor
open Go.RowKit Go.Maps
set_option maxRecDepth 100000
abbrev TyT (u : World) (G : Nat → Prop) (b : Nat) : Prop := TyB u 27 b ∧ G b
abbrev NewT (u u' : World) (G : Nat → Prop) (b : Nat) : Prop := TyB u' 27 b ∧ (b < u.heap.size → G b)
structure PutT (u w WF : World) (rk : Nat) (y : TV) : Prop where
 blk : WF.heap[rk]? = some (.cells #[.int .i64 y.k, .int .i64 y.n, .string ⟨y.s.toArray⟩, .slice y.A y.len y.cap] 27 (0, 0))
 off : ∀ b, b ≠ rk → WF.heap[b]? = w.heap[b]?
 below : Below u.heap.size u w → Below u.heap.size u WF
theorem put_t {u w : World} {rk : Nat} {cs : Array Value} (h : w.heap[rk]? = some (.cells cs 27 (0, 0))) (hs : cs.size = 4) (hr : u.heap.size ≤ rk) (y : TV) :
    PutT u w ((((w.setCell ⟨rk, 0, none⟩ (.int .i64 y.k)).setCell ⟨rk, 1, none⟩ (.int .i64 y.n)).setCell ⟨rk, 2, none⟩ (.string ⟨y.s.toArray⟩)).setCell ⟨rk, 3, none⟩ (.slice y.A y.len y.cap)) rk y :=
 ⟨blk_set4 h hs _ _ _ _, fun _ hb => blk_set4_ne _ _ _ _ hb, fun h => (((h.setCell (p := ⟨rk, 0, none⟩) hr _).setCell (p := ⟨rk, 1, none⟩) hr _).setCell (p := ⟨rk, 2, none⟩) hr _).setCell (p := ⟨rk, 3, none⟩) hr _⟩
theorem TermS.move {u u' : World} {S S' : Nat → Prop} {x : TV} {t : Tm} (h : TermS u S x t) (hs : ∀ b, S b → S' b ∧ u'.heap[b]? = u.heap[b]?) : TermS u' S' x t := h.keep (fun b hb => (hs b hb).1) fun b hb => (hs b hb).2
set_option maxHeartbeats 4000000 in
theorem body_any (u : World) (G : Nat → Prop) (x : TV) (t : Tm) (hx : TermS u (TyT u G) x t) (hsz : t.size ≤ 100000) (hs : x.s.length ≤ maxLen) (hl : (x.len : Int) ≤ 9223372036854775807) (hk : x.k = 3 ∨ x.k = 4) (hkd : kindF x.k x.s x.len ≠ 2 ∧ kindF x.k x.s x.len ≠ 3 ∧ kindF x.k x.s x.len ≠ 4) :
    Calls Tryz.prog 126 #[tvV x] u fun e u' => ∃ y : TV, e = .returned (.tuple #[tvV y, .bool true]) ∧ TermS u' (NewT u u' G) y t ∧ Below u.heap.size u u' := by
 obtain ⟨P, hP⟩ : ∃ P : Ending → World → Prop, P = fun e u' => ∃ y : TV, e = .returned (.tuple #[tvV y, .bool true]) ∧ TermS u' (NewT u u' G) y t ∧ Below u.heap.size u u' := ⟨_, rfl⟩
 rw [← hP]
 have HP := Lib.hid hP
 obtain ⟨k, n, s, A, len, cap⟩ := x
 dsimp only at hs hl hk hkd
 have hk1 : (k == 1) = false := beq_false_of_ne (by omega)
 have hk2 : (k != 2) = true := by rw [bne_iff_ne]; omega
 obtain ⟨kd, hkdE⟩ : ∃ kd, kd = kindF k s len := ⟨_, rfl⟩
 rw [← hkdE] at hkd
 have q2 : (kd == 2) = false := beq_false_of_ne hkd.1
 have q3 : (kd == 3) = false := beq_false_of_ne hkd.2.1
 have q4 : (kd == 4) = false := beq_false_of_ne hkd.2.2
 obtain ⟨W, hW⟩ : ∃ W, W = (u.alloc (.cells #[.int .i64 k, .int .i64 n, .string ⟨s.toArray⟩, .slice A len cap] 27)).alloc (.cells #[.int .i64 0, .int .i64 0, .string ⟨#[]⟩, .slice none 0 0] 27) := ⟨_, rfl⟩
 have hbW : Below u.heap.size u W := by rw [hW]; exact ((Below.refl _ _).alloc (Nat.le_refl _) _).alloc (by simp) _
 have h0 : W.heap[u.heap.size]? = some (.cells #[.int .i64 k, .int .i64 n, .string ⟨s.toArray⟩, .slice A len cap] 27 (0, 0)) := by
  rw [hW, Below.heap_alloc _ _ _ (by simp)]
  exact heap_alloc_new _ _
 have h1 : W.heap[u.heap.size + 1]? = some (.cells #[.int .i64 0, .int .i64 0, .string ⟨#[]⟩, .slice none 0 0] 27 (0, 0)) := by
  have := heap_alloc_new (u.alloc (.cells #[.int .i64 k, .int .i64 n, .string ⟨s.toArray⟩, .slice A len cap] 27)) (.cells #[.int .i64 0, .int .i64 0, .string ⟨#[]⟩, .slice none 0 0] 27)
  rw [World.size_alloc] at this
  rw [hW]; exact this
 have HB := Lib.hid hbW
 have H0 := Lib.hid h0
 have H1 := Lib.hid h1
 have HX := Lib.hid hx
 have HZ := Lib.hid (And.intro hsz (And.intro hs hl))
 have HK := Lib.hid hkdE
 obtain ⟨z0, z1, z2, z3, -⟩ := four_at h0
 clear hP hx hsz hs hl hk hkd hbW h0 h1 hkdE
 unfold tvV
 go_enter Tryz.func126, Tryz.ntmps126
 go_upto_region 1 with fail
 rw [← hW]
 clear hW
 go_wp2_with fail
 refine (Kind_any W ⟨k, n, s, A, len, cap⟩ HZ.out.2.1 HZ.out.2.2).mono ?_
 rintro e w1 ⟨rfl, hb1⟩
 rw [show kindF (TV.k ⟨k, n, s, A, len, cap⟩) (TV.s ⟨k, n, s, A, len, cap⟩) (TV.len ⟨k, n, s, A, len, cap⟩) = kd from HK.out.symm]
 have hlt1 : u.heap.size + 1 < W.heap.size := (Array.getElem?_eq_some_iff.1 H1.out).1
 have HB1 := Lib.hid (HB.out.trans (hb1.mono HB.out.size))
 have H01 : Hid (∀ v, Below w1.heap.size w1 v → v.heap[u.heap.size]? = some (.cells #[.int .i64 k, .int .i64 n, .string ⟨s.toArray⟩, .slice A len cap] 27 (0, 0)) ∧ v.heap[u.heap.size + 1]? = some (.cells #[.int .i64 0, .int .i64 0, .string ⟨#[]⟩, .slice none 0 0] 27 (0, 0))) := Lib.hid fun v hv => by
  have h1 := hb1.size
  exact ⟨((hv.block _ (by omega)).trans (hb1.block _ (by omega))).trans H0.out, ((hv.block _ (by omega)).trans (hb1.block _ hlt1)).trans H1.out⟩
 have HS : Hid (∀ v, Below w1.heap.size w1 v → (v.cell? ⟨u.heap.size, 0, none⟩ = some (.int .i64 k) ∧ v.cell? ⟨u.heap.size, 1, none⟩ = some (.int .i64 n) ∧ v.cell? ⟨u.heap.size, 2, none⟩ = some (.string ⟨s.toArray⟩) ∧ v.cell? ⟨u.heap.size, 3, none⟩ = some (.slice A len cap))) := Lib.hid fun v hv => by
  obtain ⟨a, b, c, d, -⟩ := four_at (H01.out v hv).1
  exact ⟨a, b, c, d⟩
 clear hb1 hlt1 z0 z1 z2 z3 HB H0 H1 HK
 go_upto_region 14 with fail
 obtain ⟨rk, hrk⟩ : ∃ rk, rk = u.heap.size + 1 := ⟨_, rfl⟩
 have HOW : Hid (Calls Tryz.prog 59 #[.agg #[.int .i64 k, .int .i64 n, .string ⟨s.toArray⟩, .slice A len cap]] w1.drew fun e w2 => ∃ y : TV, e = .returned (tvV y) ∧ TermS w2 (NewT w1.drew w2 fun b => b < u.heap.size ∧ G b) y t ∧ Below w1.heap.size w1.drew w2) := Lib.hid (by
  refine own_any w1.drew ⟨k, n, s, A, len, cap⟩ t (G := fun b => b < u.heap.size ∧ G b) (HX.out.move fun b hb => ?_) HZ.out.1
  exact ⟨⟨hb.1.keep (HB1.out.block b hb.1.lt), hb.1.lt, hb.2⟩, HB1.out.block b hb.1.lt⟩)
 have HC : Hid (∀ (y : TV) (w2 : World), TermS w2 (NewT w1.drew w2 fun b => b < u.heap.size ∧ G b) y t → Below w1.heap.size w1.drew w2 →
     ((w2.cell? ⟨u.heap.size, 0, none⟩ = some (.int .i64 k) ∧ w2.cell? ⟨u.heap.size, 1, none⟩ = some (.int .i64 n) ∧ w2.cell? ⟨u.heap.size, 2, none⟩ = some (.string ⟨s.toArray⟩) ∧ w2.cell? ⟨u.heap.size, 3, none⟩ = some (.slice A len cap)) ∧
     (w2.cell? ⟨rk, 0, none⟩ = some (.int .i64 0) ∧ w2.cell? ⟨rk, 1, none⟩ = some (.int .i64 0) ∧ w2.cell? ⟨rk, 2, none⟩ = some (.string ⟨#[]⟩) ∧ w2.cell? ⟨rk, 3, none⟩ = some (.slice none 0 0) ∧ (∀ o, w2.frozen? ⟨rk, o, none⟩ = false)) ∧
     ∀ WF, WF = ((((w2.setCell ⟨rk, 0, none⟩ (.int .i64 y.k)).setCell ⟨rk, 1, none⟩ (.int .i64 y.n)).setCell ⟨rk, 2, none⟩ (.string ⟨y.s.toArray⟩)).setCell ⟨rk, 3, none⟩ (.slice y.A y.len y.cap)) →
      (WF.cell? ⟨u.heap.size, 0, none⟩ = some (.int .i64 k) ∧ WF.cell? ⟨u.heap.size, 1, none⟩ = some (.int .i64 n) ∧ WF.cell? ⟨u.heap.size, 2, none⟩ = some (.string ⟨s.toArray⟩) ∧ WF.cell? ⟨u.heap.size, 3, none⟩ = some (.slice A len cap)) ∧
      WF.heap[rk]? = some (.cells #[.int .i64 y.k, .int .i64 y.n, .string ⟨y.s.toArray⟩, .slice y.A y.len y.cap] 27 (0, 0)) ∧ P (.returned (.tuple #[tvV y, .bool true])) WF)) := Lib.hid fun y w2 ht hb => by
  have hb' : Below w1.heap.size w1 w2 := (Below.refl _ _).drew.trans hb
  have h1 := H01.out w2 hb'
  refine ⟨HS.out w2 hb', by rw [hrk]; exact four_at h1.2, fun WF hWF => ?_⟩
  have hp : PutT u w2 WF rk y := by rw [hWF]; exact put_t (hrk ▸ h1.2) rfl (by omega) y
  have hk : ∀ b, TyB w2 27 b → (b < w1.heap.size → b < u.heap.size ∧ G b) → b ≠ rk ∧ (b < u.heap.size → G b) := fun b hb1 hb2 =>
   ⟨fun e => by have := (Array.getElem?_eq_some_iff.1 (H01.out w1 (Below.refl _ _)).2).1; have := (hb2 (by omega)).1; omega, fun h => by have := HB1.out.size; exact (hb2 (by omega)).2⟩
  obtain ⟨a, b, c, d, -⟩ := four_at ((hp.off _ (by omega)).trans h1.1)
  refine ⟨⟨a, b, c, d⟩, hp.blk, ?_⟩
  rw [HP.out]
  refine ⟨y, rfl, ht.move fun b hb => ?_, hp.below (HB1.out.trans (hb'.mono HB1.out.size))⟩
  have := hk b hb.1 hb.2
  exact ⟨⟨hb.1.keep (hp.off b this.1), this.2⟩, hp.off b this.1⟩
 subst hrk
 clear H01 HX HZ HP HB1
 go_region_held3 (fun v => (v.cell? ⟨u.heap.size, 0, none⟩ = some (.int .i64 k) ∧ v.cell? ⟨u.heap.size, 1, none⟩ = some (.int .i64 n) ∧ v.cell? ⟨u.heap.size, 2, none⟩ = some (.string ⟨s.toArray⟩) ∧ v.cell? ⟨u.heap.size, 3, none⟩ = some (.slice A len cap)))
  (first | (with_reducible exact HS.out _ (Below.refl _ _).drew) | (with_reducible exact HA) | (with_reducible exact (HC2 _ rfl).1))
  (first | (go_at_call 59; refine HOW.out.mono ?_; rintro e w2 ⟨y, rfl, ht2, hb2⟩; obtain ⟨HA, ⟨r0, r1, r2, r3, rf⟩, HC2⟩ := HC.out y w2 ht2 hb2; unfold tvV))
 clear HA r0 r1 r2 r3 rf ht2 hb2 HOW HC HS
 obtain ⟨rk, hrk⟩ : ∃ rk, rk = u.heap.size + 1 := ⟨_, rfl⟩
 rw [← hrk] at HC2 ⊢
 obtain ⟨WF, hWF⟩ : ∃ WF, WF = ((((w2.setCell ⟨rk, 0, none⟩ (.int .i64 y.k)).setCell ⟨rk, 1, none⟩ (.int .i64 y.n)).setCell ⟨rk, 2, none⟩ (.string ⟨y.s.toArray⟩)).setCell ⟨rk, 3, none⟩ (.slice y.A y.len y.cap)) := ⟨_, rfl⟩
 have HQ := Lib.hid (HC2 _ hWF).2
 rw [← hWF]
 clear hWF hrk HC2
 go_wp2_with fail
 obtain ⟨f0, f1, f2, f3, -⟩ := four_at HQ.out.1
 exact bodyPost_ret (v := .tuple #[tvV y, .bool true]) (by simp [results, Tryz.results126, go_sem, f0, f1, f2, f3, tvV]) rfl HQ.out.2
end Go.Proofs.YtjdnigepnfeboaaGreatDoor
