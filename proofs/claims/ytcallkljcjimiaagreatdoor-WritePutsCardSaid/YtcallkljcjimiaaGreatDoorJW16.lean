import Derived.Test.YtcallkljcjimiaaGreatDoorJW15
import Derived.Deep.Cut
import Derived.Deep.CutRange
import Derived.Deep.DeepCutAuto
namespace Go.Proofs.YtcallkljcjimiaaGreatDoor
open Go.RowKit Go.Maps
set_option maxRecDepth 100000
theorem commaF_snoc (g : Tm → Int → List UInt8) : ∀ (l : List Tm) (t : Tm), commaF g (l ++ [t]) = commaF g l ++ ((if l.length = 0 then [] else [44]) ++ g t 999)
 | [], t => rfl
 | [a], t => by simp [commaF]
 | a :: b :: r, t => by
  have ih := commaF_snoc g (b :: r) t
  show g a 999 ++ 44 :: commaF g ((b :: r) ++ [t]) = (g a 999 ++ 44 :: commaF g (b :: r)) ++ _
  rw [ih]
  simp
theorem sizes_app : ∀ (a b : List Tm), Tm.sizes (a ++ b) = Tm.sizes a + Tm.sizes b
 | [], b => by simp [Tm.sizes]
 | t :: r, b => by
  have ih := sizes_app r b
  simp only [List.cons_append, Tm.sizes]
  omega
theorem sizes_take (l : List Tm) (k : Nat) : Tm.sizes (l.take k) ≤ Tm.sizes l := by
 conv => rhs; rw [← List.take_append_drop k l]
 rw [sizes_app]
 omega
theorem sizes_take_succ (l : List Tm) (k : Nat) (t : Tm) (h : l[k]? = some t) : Tm.sizes (l.take (k + 1)) = Tm.sizes (l.take k) + t.size := by
 obtain ⟨hk, rfl⟩ := List.getElem?_eq_some_iff.1 h
 rw [List.take_succ_eq_append_getElem hk, sizes_app]
 simp [Tm.sizes]
set_option maxHeartbeats 8000000 in
theorem witems_any {es : List (OpK × OpV)} {way : Int} {n : Nat} (hC : TermC es way n) (u : World) (B0 B wb bt bm : Nat) (acc : List UInt8) (x : TV) (t : Tm) (hn : ∀ y ∈ t.args, y.size ≤ n) (hw : WfT t) (hx : TermAt u B0 x t) (hK : WrK u B0 B wb bt bm es way acc) (hlen : acc.length + 6000 * Tm.sizes t.args + 900 ≤ 10000000000) :
    Calls Tryz.prog 110 #[.pointer (some ⟨wb, 0, none⟩), .slice x.A x.len x.cap] u fun e u' => e = .returned (.tuple #[]) ∧ WrAt u' B wb bt way (acc ++ commaF (wrT es way) t.args) ∧ Fr (WrS u B wb) u u' := by
 obtain ⟨k1, k2, k3, k4, k5, karg⟩ := hx.open
 obtain ⟨g, hg⟩ : ∃ g, g = wrT es way := ⟨_, rfl⟩
 have hsz := size_args t
 have hnl := hw.name.2
 have hgl : ∀ y ∈ t.args, ∀ m, (g y m).length ≤ 6000 * y.size := fun y hy m => by rw [hg]; exact wr_len es way y.size y m (Nat.le_refl _) (hw.mem hy)
 have hwy : ∀ y ∈ t.args, WfT y := fun y hy => hw.mem hy
 rw [← hg]
 have HG := Lib.hid hg
 have HC : Hid (∀ (v : World) (acc2 : List UInt8) (y : TV) (ty : Tm), ty ∈ t.args → TermAt v B0 y ty → WrK v B0 B wb bt bm es way acc2 → acc2.length + 6000 * ty.size ≤ 10000000000 → Calls Tryz.prog 33 #[.pointer (some ⟨wb, 0, none⟩), tvV y, .int .i64 999] v fun e v' => e = .returned (.tuple #[]) ∧ WrAt v' B wb bt way (acc2 ++ g ty 999) ∧ Fr (WrS v B wb) v v') := Lib.hid fun v acc2 y ty hm hy hk hl => by
  rw [hg]
  exact hC v B0 B wb bt bm acc2 y ty 999 (hn ty hm) (hwy ty hm) hy hk hl
 have HK := Lib.hid hK
 have HX := Lib.hid hx
 have HARG := Lib.hid karg
 have HL4 := Lib.hid k4
 have HGL := Lib.hid hgl
 have HLN := Lib.hid (And.intro hlen (And.intro hsz hnl))
 obtain ⟨xk, xn, xs, xA, xl, xc⟩ := x
 simp only at k4 HL4 HARG ⊢
 have hxl : xl ≤ 255 := by omega
 clear hC hn hw hx hK hlen k1 k2 k3 k4 k5 karg hg hsz hnl hgl hwy
 go_enter Tryz.func110, Tryz.ntmps110
 go_wp2_with fail
 go_loopw [8] (fun i wr => ∃ k : Nat, k ≤ xl ∧ i = .int .i64 k ∧ Hid (WrAt wr B wb bt way (acc ++ commaF g (t.args.take k)) ∧ Fr (WrS u B wb) u wr)) (fun i _ => xl - (intOf i).toNat)
 case atStart => exact ⟨0, Nat.zero_le _, rfl, Lib.hid ⟨by simpa [commaF] using HK.out.at', Fr.refl _ _⟩⟩
 case round =>
  obtain ⟨k, hk, rfl, HR⟩ := hrel
  by_cases hkl : k < xl
  case neg =>
   have hke : k = xl := by omega
   have b1 : decide ((k : Int) < (xl : Int)) = false := by simp; omega
   have HKE := Lib.hid hke
   clear hke
   go_wp2_with fail
   go_end0
   have h1 := HR.out
   rw [HKE.out, ← HL4.out, List.take_length] at h1
   exact ⟨rfl, h1.1, h1.2⟩
  have b1 : decide ((k : Int) < (xl : Int)) = true := by simp; omega
  have hlt : k < t.args.length := by rw [HL4.out]; exact hkl
  obtain ⟨y, b9, off9, hA9, hb9, ht9, hc9⟩ := HARG.out k _ (List.getElem?_eq_getElem hlt)
  have hmem : t.args[k] ∈ t.args := List.getElem_mem hlt
  have htk : t.args[k]? = some t.args[k] := List.getElem?_eq_getElem hlt
  generalize t.args[k] = ty at ht9 hmem htk
  have hsz9 := sizes_take_succ t.args k ty htk
  have hsy9 := mem_sizes t.args ty hmem
  have hst9 := sizes_take t.args (k + 1)
  have hcl9 := comma_len (g := g) (t.args.take k) fun y hy => HGL.out y (List.mem_of_mem_take hy)
  have htl9 : (t.args.take k).length = k := by rw [List.length_take]; omega
  have hKr := HK.out.next HR.out.1 HR.out.2
  have hb0 := HK.out.low HR.out.2
  have hty : TermAt wr B0 y ty := ht9.blw hb0
  have hc9' : ∀ j u, (encTV y)[j]? = some u → wr.cell? ⟨b9, off9 + k * 4 + j, none⟩ = some u := fun j u hu =>
   (hb0.cell (p := ⟨b9, off9 + k * 4 + j, none⟩) hb9).trans (hc9 j u hu)
  have f0 := hc9' 0 _ rfl
  have f1 := hc9' 1 _ rfl
  have f2 := hc9' 2 _ rfl
  have f3 := hc9' 3 _ rfl
  simp only [Nat.add_zero] at f0
  obtain ⟨W, hW⟩ : ∃ W, W = wr.alloc (.cells #[.int .i64 y.k, .int .i64 y.n, .string ⟨y.s.toArray⟩, .slice y.A y.len y.cap] 28) := ⟨_, rfl⟩
  have hbW : Below wr.heap.size wr W := by rw [hW]; exact (Below.refl _ _).alloc (Nat.le_refl _) _
  have hx0 : W.heap[wr.heap.size]? = some (.cells #[.int .i64 y.k, .int .i64 y.n, .string ⟨y.s.toArray⟩, .slice y.A y.len y.cap] 28 (0, 0)) := by rw [hW]; exact heap_alloc_new _ _
  have hKW := hKr.later hbW
  have htyW : TermAt W B0 y ty := hty.blw (hKr.low (Fr.of_below _ hbW))
  have hltW := hKr.at'.lt
  have HKW := Lib.hid hKW
  have HTY := Lib.hid htyW
  have HX0 := Lib.hid hx0
  have HF := Lib.hid (WrS.trans HR.out.2 (Fr.of_below _ hbW))
  have hne : wr.heap.size ≠ wb := by omega
  have HLK : Hid ((acc ++ commaF g (t.args.take k)).length + 1 + 6000 * ty.size ≤ 10000000000) := Lib.hid (by
   have h1 := HLN.out
   rw [List.length_append]
   omega)
  have HSN : Hid (t.args.take (k + 1) = t.args.take k ++ [ty]) := Lib.hid (by
   obtain ⟨h1, h2⟩ := List.getElem?_eq_some_iff.1 htk
   rw [List.take_succ_eq_append_getElem h1, h2])
  have HTL := Lib.hid htl9
  have hk0 : (0 : Int) ≤ (k : Int) := by omega
  have hk1 : (k : Int) < (xl : Int) := by omega
  have hmem' := Lib.hid hmem
  have hwr9 : b9 < wr.heap.size := by have := HK.out.b0B; have := HK.out.bu; have := HR.out.2.size; omega
  have hwk : IntKind.i64.wrap ((k : Int) + 1) = (k : Int) + 1 := IntWalk.i64_in _ (by omega)
  clear hsz9 hsy9 hst9 hcl9 htl9 hKr hb0 hty hc9 hc9' hbW hx0 hKW htyW hmem htk ht9 hb9
  subst hA9
  go_upto_region 3 with fail
  rw [← hW]
  obtain ⟨q, hq⟩ : ∃ q, q = wr.heap.size := ⟨_, rfl⟩
  rw [← hq] at HX0 hne ⊢
  clear hW hq f0 f1 f2 f3
  obtain ⟨f0, f1, f2, f3, -⟩ := four_at HX0.out
  obtain ⟨c3, -, -⟩ := HKW.out.put3
  unfold putV at c3
  have hkp : (0 < k) ∨ k = 0 := by omega
  rcases hkp with hkp | hkp
  ·have HCO : Hid (∀ v, WrAt v B wb bt way ((acc ++ commaF g (t.args.take k)) ++ [44]) → Fr (WrS W B wb) W v → Calls Tryz.prog 33 #[.pointer (some ⟨wb, 0, none⟩), tvV y, .int .i64 999] v fun e v' => e = .returned (.tuple #[]) ∧ WrAt v' B wb bt way (acc ++ commaF g (t.args.take (k + 1))) ∧ Fr (WrS u B wb) u v') := Lib.hid fun v ha hf => by
    refine (HC.out v _ y ty hmem'.out (HTY.out.blw (HKW.out.low hf)) (HKW.out.next ha hf) (by have := HLK.out; rw [List.length_append]; simpa using this)).mono ?_
    rintro e v' ⟨rfl, h1, h2⟩
    refine ⟨rfl, ?_, WrS.trans (WrS.trans HF.out hf) h2⟩
    rw [HSN.out, commaF_snoc, HTL.out, if_neg (by omega)]
    simpa using h1
   rw [tvV_lit] at HCO
   have hkz : (0 : Int) < (k : Int) := by omega
   go_wp2_with fail
   refine (wadd_any W B wb bt way _ [44] HKW.out.at' HKW.out.bu (by have := HLK.out; simp only [List.length_cons, List.length_nil]; omega)).mono ?_
   rintro e W2 ⟨rfl, h1, h2⟩
   have hx2 := WrS.keep h2 HX0.out (by decide) hne
   obtain ⟨g0, g1, g2, g3, -⟩ := four_at hx2
   have HH := Lib.hid (And.intro h1 h2)
   clear h1 h2 hx2 f0 f1 f2 f3 c3
   go_wp2_with fail
   refine (HCO.out W2 HH.out.1 HH.out.2).mono ?_
   rintro e W3 ⟨rfl, h1, h2⟩
   have HH3 := Lib.hid (And.intro h1 h2)
   clear h1 h2 g0 g1 g2 g3
   go_wp2_with fail
   go_roundw
   case rel => exact ⟨k + 1, by omega, rfl, HH3⟩
   all_goals (simp [intOf]; omega)
  ·have HCO : Hid (Calls Tryz.prog 33 #[.pointer (some ⟨wb, 0, none⟩), tvV y, .int .i64 999] W fun e v' => e = .returned (.tuple #[]) ∧ WrAt v' B wb bt way (acc ++ commaF g (t.args.take (k + 1))) ∧ Fr (WrS u B wb) u v') := Lib.hid (by
    refine (HC.out W _ y ty hmem'.out HTY.out HKW.out (by have := HLK.out; omega)).mono ?_
    rintro e v' ⟨rfl, h1, h2⟩
    refine ⟨rfl, ?_, WrS.trans HF.out h2⟩
    rw [HSN.out, commaF_snoc, HTL.out, if_pos hkp]
    simpa using h1)
   rw [tvV_lit] at HCO
   have hkz : ¬ ((0 : Int) < (k : Int)) := by omega
   have hkz' : ¬ (0 < k) := by omega
   clear hkp
   go_wp2_with fail
   refine HCO.out.mono ?_
   rintro e W3 ⟨rfl, h1, h2⟩
   have HH3 := Lib.hid (And.intro h1 h2)
   clear h1 h2 f0 f1 f2 f3 c3
   go_wp2_with fail
   go_roundw
   case rel => exact ⟨k + 1, by omega, rfl, HH3⟩
   all_goals (simp [intOf]; omega)
structure OpdK (u W : World) (B0 B wb bt bm : Nat) (es : List (OpK × OpV)) (way : Int) (acc : List UInt8) (y : TV) (ty : Tm) (o : OpR) : Prop where
 k : WrK W B0 B wb bt bm es way acc
 tm : TermAt W B0 y ty
 fr : Below u.heap.size u W
 y0 : W.heap[u.heap.size]? = some (.cells #[.int .i64 y.k, .int .i64 y.n, .string ⟨y.s.toArray⟩, .slice y.A y.len y.cap] 28 (0, 0))
 o0 : W.heap[u.heap.size + 1]? = some (.cells #[.int .i64 o.side, .int .i64 o.pri, .string ⟨o.name.toArray⟩, .bool o.left, .bool o.right] 173 (0, 0))
set_option maxHeartbeats 8000000 in
theorem operand_any {es : List (OpK × OpV)} {way : Int} {n : Nat} (hC : TermC es way n) (u : World) (B0 B wb bt bm : Nat) (acc : List UInt8) (y : TV) (ty : Tm) (o : OpR) (same : Bool) (hn : ty.size ≤ n) (hw : WfT ty) (hy : TermAt u B0 y ty) (hK : WrK u B0 B wb bt bm es way acc) (hlen : acc.length + 6000 * ty.size + 2 ≤ 10000000000) :
    Calls Tryz.prog 134 #[.pointer (some ⟨wb, 0, none⟩), tvV y, opV o, .bool same] u fun e u' => e = .returned (.tuple #[]) ∧ WrAt u' B wb bt way (acc ++ operandF es way (wrT es way) ty o same) ∧ Fr (WrS u B wb) u u' := by
 obtain ⟨k1, k2, k3, k4, k5, -⟩ := hy.open
 obtain ⟨g, hg⟩ : ∃ g, g = wrT es way := ⟨_, rfl⟩
 rw [← hg]
 obtain ⟨F, hF⟩ : ∃ F, F = acc ++ operandF es way g ty o same := ⟨_, rfl⟩
 rw [← hF]
 have hnm := hw.name.1
 have hkind := hw.kind
 obtain ⟨W, hW⟩ : ∃ W, W = (u.alloc (.cells #[.int .i64 y.k, .int .i64 y.n, .string ⟨y.s.toArray⟩, .slice y.A y.len y.cap] 28)).alloc (.cells #[.int .i64 o.side, .int .i64 o.pri, .string ⟨o.name.toArray⟩, .bool o.left, .bool o.right] 173) := ⟨_, rfl⟩
 have hKW : OpdK u W B0 B wb bt bm es way acc y ty o := by
  have hbW : Below u.heap.size u W := by rw [hW]; exact ((Below.refl _ _).alloc (Nat.le_refl _) _).alloc (by simp) _
  refine ⟨hK.later hbW, hy.blw (hK.low (Fr.of_below _ hbW)), hbW, ?_, ?_⟩
  ·rw [hW, Below.heap_alloc _ _ _ (by simp)]
   exact heap_alloc_new _ _
  ·rw [hW]
   have := heap_alloc_new (u.alloc (.cells #[.int .i64 y.k, .int .i64 y.n, .string ⟨y.s.toArray⟩, .slice y.A y.len y.cap] 28)) (.cells #[.int .i64 o.side, .int .i64 o.pri, .string ⟨o.name.toArray⟩, .bool o.left, .bool o.right] 173)
   rwa [World.size_alloc] at this
 have hlt := hK.at'.lt
 obtain ⟨q, hq⟩ : ∃ q, q = u.heap.size := ⟨_, rfl⟩
 have hne : q ≠ wb := by omega
 have hne1 : q + 1 ≠ wb := by omega
 have HKW := Lib.hid hKW
 have HY0 : Hid (W.heap[q]? = some (.cells #[.int .i64 y.k, .int .i64 y.n, .string ⟨y.s.toArray⟩, .slice y.A y.len y.cap] 28 (0, 0))) := Lib.hid (by rw [hq]; exact hKW.y0)
 have HO0 : Hid (W.heap[q + 1]? = some (.cells #[.int .i64 o.side, .int .i64 o.pri, .string ⟨o.name.toArray⟩, .bool o.left, .bool o.right] 173 (0, 0))) := Lib.hid (by rw [hq]; exact hKW.o0)
 have HAL : Hid (∀ v, Below W.heap.size W v → Calls Tryz.prog 32 #[.pointer (some ⟨wb, 0, none⟩), .string ⟨#[40]⟩] v fun e v' => e = .returned (.tuple #[]) ∧ WrAt v' B wb bt way (acc ++ [40]) ∧ Fr (WrS W B wb) W v') := Lib.hid fun v hv => by
  have hk := hKW.k.later hv
  refine (wadd_any v B wb bt way acc [40] hk.at' hk.bu (by simp only [List.length_cons, List.length_nil]; omega)).mono ?_
  rintro e v' ⟨rfl, h1, h2⟩
  exact ⟨rfl, h1, WrS.trans (Fr.of_below _ hv) h2⟩
 have HTM : Hid (∀ v acc2, WrAt v B wb bt way acc2 → Fr (WrS W B wb) W v → acc2.length ≤ acc.length + 1 → Calls Tryz.prog 33 #[.pointer (some ⟨wb, 0, none⟩), .agg #[.int .i64 y.k, .int .i64 y.n, .string ⟨y.s.toArray⟩, .slice y.A y.len y.cap], .int .i64 1200] v fun e v' => e = .returned (.tuple #[]) ∧ WrAt v' B wb bt way (acc2 ++ g ty 1200) ∧ Fr (WrS W B wb) W v') := Lib.hid fun v acc2 ha hf hl => by
  rw [hg, ← tvV_lit]
  refine (hC v B0 B wb bt bm acc2 y ty 1200 hn hw (hKW.tm.blw (hKW.k.low hf)) (hKW.k.next ha hf) (by omega)).mono ?_
  rintro e v' ⟨rfl, h1, h2⟩
  exact ⟨rfl, h1, WrS.trans hf h2⟩
 have HAR : Hid (∀ v acc2, WrAt v B wb bt way acc2 → Fr (WrS W B wb) W v → acc2.length ≤ 100000000 * 600 → Calls Tryz.prog 32 #[.pointer (some ⟨wb, 0, none⟩), .string ⟨#[41]⟩] v fun e v' => e = .returned (.tuple #[]) ∧ WrAt v' B wb bt way (acc2 ++ [41]) ∧ Fr (WrS W B wb) W v') := Lib.hid fun v acc2 ha hf hl => by
  have hk := hKW.k.next ha hf
  refine (wadd_any v B wb bt way acc2 [41] hk.at' hk.bu (by simp only [List.length_cons, List.length_nil]; omega)).mono ?_
  rintro e v' ⟨rfl, h1, h2⟩
  exact ⟨rfl, h1, WrS.trans hf h2⟩
 have HGL : Hid ((acc ++ [40] ++ g ty 1200).length ≤ 100000000 * 600) := Lib.hid (by
  have h1 := wr_len es way ty.size ty 1200 (Nat.le_refl _) hw
  rw [hg]
  simp only [List.length_append, List.length_cons, List.length_nil]
  omega)
 have HF1 : Hid (withinF es way ty o same = true → F = acc ++ [40] ++ g ty 1200 ++ [41]) := Lib.hid fun h => by
  rw [hF]; unfold operandF; rw [if_pos h]; simp
 have HF0 : Hid (withinF es way ty o same = false → F = acc ++ g ty 1200) := Lib.hid fun h => by
  rw [hF]; unfold operandF; rw [if_neg (by rw [h]; simp)]
 have HIS : Hid (∀ v, Below W.heap.size W v → Calls Tryz.prog 153 #[.pointer (some ⟨bt, 0, none⟩), .string ⟨y.s.toArray⟩] v fun e v' => e = .returned (.bool (isOp es y.s)) ∧ Below W.heap.size W v') := Lib.hid fun v hv => by
  have hk := hKW.k.later hv
  refine (opIs_any v bt bm es hk.env.tab y.s (by unfold OkName maxLen; rw [← k3]; omega)).mono ?_
  rintro e v' ⟨rfl, hb'⟩
  exact ⟨rfl, hv.trans (hb'.mono hv.size)⟩
 have HOP : Hid (∀ v, Below W.heap.size W v → Calls Tryz.prog 109 #[.pointer (some ⟨wb, 0, none⟩), .agg #[.int .i64 y.k, .int .i64 y.n, .string ⟨y.s.toArray⟩, .slice y.A y.len y.cap]] v fun e v' => e = .returned (opOut (operF es way ty)) ∧ Below W.heap.size W v') := Lib.hid fun v hv => by
  have hk := hKW.k.later hv
  rw [← tvV_lit]
  refine (woperator_any v B wb bt bm es way acc hk.at' hk.env B0 y ty (hKW.tm.blw (hKW.k.low (Fr.of_below _ hv))) (Nat.le_trans hk.b0B hk.bu) (by rw [← k3]; exact hnm)).mono ?_
  rintro e v' ⟨rfl, hb'⟩
  exact ⟨rfl, hv.trans (hb'.mono hv.size)⟩
 have hfin : ∀ v, Fr (WrS W B wb) W v → Fr (WrS u B wb) u v := fun v hv => WrS.trans (Fr.of_below _ hKW.fr) hv
 have HFIN := Lib.hid hfin
 have HW3 : Hid (y.k = 3 → withinF es way ty o same = isOp es y.s) := Lib.hid fun h => by unfold withinF; rw [k1, k3, if_pos h]
 have HW2 : Hid (y.k = 2 → withinF es way ty o same = decide (y.n < 0)) := Lib.hid fun h => by unfold withinF; rw [k1, k2, if_neg (by omega), if_pos h]
 have HW1 : Hid (y.k = 1 → withinF es way ty o same = false) := Lib.hid fun h => by unfold withinF; rw [k1, if_neg (by omega), if_neg (by omega), if_neg (by omega)]
 have HW0 : Hid (y.k = 4 → operF es way ty = none → withinF es way ty o same = false) := Lib.hid fun h h2 => by unfold withinF; rw [k1, if_neg (by omega), if_neg (by omega), if_pos h, h2]
 have HW4 : Hid (∀ p, y.k = 4 → operF es way ty = some p → withinF es way ty o same = (decide (o.pri ≤ p.pri) && !(same && (decide (p.side = 2) && decide (p.name = o.name))))) := Lib.hid fun p h h2 => by unfold withinF; rw [k1, if_neg (by omega), if_neg (by omega), if_pos h, h2]
 obtain ⟨O, hO⟩ : ∃ O, O = operF es way ty := ⟨_, rfl⟩
 rw [← hO] at HW0 HW4 HOP
 obtain ⟨I, hI⟩ : ∃ I, I = withinF es way ty o same := ⟨_, rfl⟩
 rw [← hI] at HW0 HW1 HW2 HW3 HW4 HF1 HF0
 obtain ⟨c3, c2, c1⟩ := hKW.k.put3
 unfold putV at c3
 obtain ⟨f0, f1, f2, f3, -⟩ := four_at HY0.out
 obtain ⟨z0, z1, z2, z3, z4, -⟩ := opc_at HO0.out
 have hbr := Below.refl W.heap.size W
 have hqW : q + 1 < W.heap.size := (Array.getElem?_eq_some_iff.1 HO0.out).1
 have cc : ∀ (p : Addr) (v : Value), W.cell? p = some v → ∀ u, Below W.heap.size W u → u.cell? p = some v := fun p v h u hb => (World.cell?_of_block (hb.block _ (World.block_lt_of_cell? W _ h))).trans h
 have HCELL : Hid (∀ v, Below W.heap.size W v → v.cell? ⟨wb, 3, none⟩ = some (.func (.func 32) #[.pointer (some ⟨wb, 0, none⟩)] #[]) ∧ v.cell? ⟨q, 0, none⟩ = some (.int .i64 y.k) ∧ v.cell? ⟨q, 1, none⟩ = some (.int .i64 y.n) ∧ v.cell? ⟨q, 2, none⟩ = some (.string ⟨y.s.toArray⟩) ∧ v.cell? ⟨q, 3, none⟩ = some (.slice y.A y.len y.cap)) := Lib.hid fun v hv => ⟨cc _ _ c3 v hv, cc _ _ f0 v hv, cc _ _ f1 v hv, cc _ _ f2 v hv, cc _ _ f3 v hv⟩
 have HCELF : Hid (∀ v acc2, WrAt v B wb bt way acc2 → Fr (WrS W B wb) W v → v.cell? ⟨wb, 3, none⟩ = some (.func (.func 32) #[.pointer (some ⟨wb, 0, none⟩)] #[]) ∧ v.cell? ⟨q, 0, none⟩ = some (.int .i64 y.k) ∧ v.cell? ⟨q, 1, none⟩ = some (.int .i64 y.n) ∧ v.cell? ⟨q, 2, none⟩ = some (.string ⟨y.s.toArray⟩) ∧ v.cell? ⟨q, 3, none⟩ = some (.slice y.A y.len y.cap)) := Lib.hid fun v acc2 ha hf => by
  obtain ⟨r, -, -⟩ := (HKW.out.k.next ha hf).put3
  obtain ⟨g0, g1, g2, g3, -⟩ := four_at (WrS.keep hf HY0.out (by decide) hne)
  exact ⟨r, g0, g1, g2, g3⟩
 have hkk : y.k = 1 ∨ y.k = 2 ∨ y.k = 3 ∨ y.k = 4 := by rw [← k1]; exact hkind
 have hsides : ∀ p, O = some p → True := fun _ _ => trivial
 clear hsides hC hn hw hy hK hlen k1 k2 k3 k4 k5 hg hF hnm hkind hKW hfin hO hI cc hlt
 rw [tvV_lit]
 unfold opV
 rcases hkk with hk | hk | hk | hk
 ·have b1 : (y.k == 3) = false := by rw [hk]; rfl
  have b2 : (y.k == 2) = false := by rw [hk]; rfl
  have b3 : (y.k == 4) = false := by rw [hk]; rfl
  have HI0 : Hid (I = false) := Lib.hid (HW1.out hk)
  clear hk
  go_enter Tryz.func134, Tryz.ntmps134
  go_upto_region 1 with fail
  rw [← hW, ← hq]
  clear hW hq
  clear c1 c2 c3 f0 f1 f2 f3 z0 z1 z2 z3 z4
  obtain ⟨c3, f0, f1, f2, f3⟩ := HCELL.out W hbr
  go_wp2_with fail
  refine (HTM.out W acc (HKW.out.k.later hbr).at' (Fr.of_below _ hbr) (by omega)).mono ?_
  rintro e W8 ⟨rfl, h1, h2⟩
  go_wp2_with fail
  go_end0
  exact ⟨rfl, by rw [HF0.out HI0.out]; exact h1, HFIN.out _ h2⟩
 ·have b1 : (y.k == 3) = false := by rw [hk]; rfl
  have b2 : (y.k == 2) = true := by rw [hk]; rfl
  by_cases hneg : y.n < 0
  ·have HI0 : Hid (I = true) := Lib.hid (by rw [HW2.out hk]; exact decide_eq_true hneg)
   have hd : decide (y.n < 0) = true := decide_eq_true hneg
   have HNEG := Lib.hid hneg
   clear hk
   go_enter Tryz.func134, Tryz.ntmps134
   go_upto_region 1 with fail
   rw [← hW, ← hq]
   clear hW hq
   clear c1 c2 c3 f0 f1 f2 f3 z0 z1 z2 z3 z4
   obtain ⟨c3, f0, f1, f2, f3⟩ := HCELL.out W hbr
   go_wp2_with fail
   refine (HAL.out W hbr).mono ?_
   rintro e W7 ⟨rfl, h1, h2⟩
   clear c3 f0 f1 f2 f3
   obtain ⟨c3, f0, f1, f2, f3⟩ := HCELF.out W7 _ h1 h2
   go_wp2_with fail
   refine (HTM.out W7 _ h1 h2 (by simp)).mono ?_
   rintro e W8 ⟨rfl, h3, h4⟩
   clear c3 f0 f1 f2 f3
   obtain ⟨c3, f0, f1, f2, f3⟩ := HCELF.out W8 _ h3 h4
   go_wp2_with fail
   refine (HAR.out W8 _ h3 h4 HGL.out).mono ?_
   rintro e W9 ⟨rfl, h5, h6⟩
   go_wp2_with fail
   go_end0
   exact ⟨rfl, by rw [HF1.out HI0.out]; exact h5, HFIN.out _ h6⟩
  ·have HI0 : Hid (I = false) := Lib.hid (by rw [HW2.out hk]; exact decide_eq_false hneg)
   have hd : decide (y.n < 0) = false := decide_eq_false hneg
   have HNEG := Lib.hid hneg
   clear hk
   go_enter Tryz.func134, Tryz.ntmps134
   go_upto_region 1 with fail
   rw [← hW, ← hq]
   clear hW hq
   clear c1 c2 c3 f0 f1 f2 f3 z0 z1 z2 z3 z4
   obtain ⟨c3, f0, f1, f2, f3⟩ := HCELL.out W hbr
   go_wp2_with fail
   refine (HTM.out W acc (HKW.out.k.later hbr).at' (Fr.of_below _ hbr) (by omega)).mono ?_
   rintro e W8 ⟨rfl, h1, h2⟩
   go_wp2_with fail
   go_end0
   exact ⟨rfl, by rw [HF0.out HI0.out]; exact h1, HFIN.out _ h2⟩
 ·have b1 : (y.k == 3) = true := by rw [hk]; rfl
  obtain ⟨J, hJ⟩ : ∃ J, J = isOp es y.s := ⟨_, rfl⟩
  rw [← hJ] at HIS HW3
  have HIJ : Hid (I = J) := Lib.hid (HW3.out hk)
  clear hk hJ
  have HSS : Hid (∀ v, Below W.heap.size W v → v.cell? ⟨wb, 2, none⟩ = some (.pointer (some ⟨bt, 0, none⟩)) ∧ v.cell? ⟨q, 2, none⟩ = some (.string ⟨y.s.toArray⟩)) := Lib.hid fun v hv => ⟨(HKW.out.k.later hv).put3.2.1, (HCELL.out v hv).2.2.2.1⟩
  have hbd : Below W.heap.size W W.drew := (Below.refl W.heap.size W).drew
  go_enter Tryz.func134, Tryz.ntmps134
  go_upto_region 1 with fail
  rw [← hW, ← hq]
  clear hW hq
  go_upto_region 4 with fail
  go_region_held3 (fun v => v.cell? ⟨wb, 2, none⟩ = some (.pointer (some ⟨bt, 0, none⟩)) ∧ v.cell? ⟨q, 2, none⟩ = some (.string ⟨y.s.toArray⟩))
   (first | (with_reducible exact HSS.out _ (by assumption)))
   (first | (go_at_call 153; with_reducible refine (HIS.out _ (by assumption)).mono ?_; rintro e W1 ⟨rfl, hb1⟩))
  cases J
  ·have HI0 := HIJ
   clear c1 c2 c3 f0 f1 f2 f3 z0 z1 z2 z3 z4
   obtain ⟨c3, f0, f1, f2, f3⟩ := HCELL.out W1 hb1
   go_wp2_with fail
   refine (HTM.out W1 acc (HKW.out.k.later hb1).at' (Fr.of_below _ hb1) (by omega)).mono ?_
   rintro e W8 ⟨rfl, h1, h2⟩
   go_wp2_with fail
   go_end0
   exact ⟨rfl, by rw [HF0.out HI0.out]; exact h1, HFIN.out _ h2⟩
  ·have HI0 := HIJ
   clear c1 c2 c3 f0 f1 f2 f3 z0 z1 z2 z3 z4
   obtain ⟨c3, f0, f1, f2, f3⟩ := HCELL.out W1 hb1
   go_wp2_with fail
   refine (HAL.out W1 hb1).mono ?_
   rintro e W7 ⟨rfl, h1, h2⟩
   clear c3 f0 f1 f2 f3
   obtain ⟨c3, f0, f1, f2, f3⟩ := HCELF.out W7 _ h1 h2
   go_wp2_with fail
   refine (HTM.out W7 _ h1 h2 (by simp)).mono ?_
   rintro e W8 ⟨rfl, h3, h4⟩
   clear c3 f0 f1 f2 f3
   obtain ⟨c3, f0, f1, f2, f3⟩ := HCELF.out W8 _ h3 h4
   go_wp2_with fail
   refine (HAR.out W8 _ h3 h4 HGL.out).mono ?_
   rintro e W9 ⟨rfl, h5, h6⟩
   go_wp2_with fail
   go_end0
   exact ⟨rfl, by rw [HF1.out HI0.out]; exact h5, HFIN.out _ h6⟩
 ·have b1 : (y.k == 3) = false := by rw [hk]; rfl
  have b2 : (y.k == 2) = false := by rw [hk]; rfl
  have b3 : (y.k == 4) = true := by rw [hk]; rfl
  cases O with
  | none =>
   have HOPN : Hid (∀ v, Below W.heap.size W v → Calls Tryz.prog 109 #[.pointer (some ⟨wb, 0, none⟩), .agg #[.int .i64 y.k, .int .i64 y.n, .string ⟨y.s.toArray⟩, .slice y.A y.len y.cap]] v fun e v' => e = .returned (.tuple #[.agg #[.int .i64 0, .int .i64 0, .string ⟨#[]⟩, .bool false, .bool false], .bool false]) ∧ Below W.heap.size W v') := HOP
   have HI0 : Hid (I = false) := Lib.hid (HW0.out hk rfl)
   clear hk
   go_enter Tryz.func134, Tryz.ntmps134
   go_upto_region 1 with fail
   rw [← hW, ← hq]
   clear hW hq
   go_upto_region 8 with fail
   go_wp2_with fail
   refine (HOPN.out W hbr).mono ?_
   rintro e W1 ⟨rfl, hb1⟩
   go_upto_region 9 with fail
   have HB1 := Lib.hid hb1
   obtain ⟨V, hV⟩ : ∃ V, V = W1.alloc (.cells #[.int .i64 0, .int .i64 0, .string ⟨#[]⟩, .bool false, .bool false] 173) := ⟨_, rfl⟩
   have hbV : Below W.heap.size W V := by rw [hV]; exact hb1.alloc hb1.size _
   have hp0 : V.heap[W1.heap.size]? = some (.cells #[.int .i64 0, .int .i64 0, .string ⟨#[]⟩, .bool false, .bool false] 173 (0, 0)) := by rw [hV]; exact heap_alloc_new _ _
   have ho0 : V.heap[q + 1]? = _ := (hbV.block (q + 1) hqW).trans HO0.out
   rw [← hV]
   clear hV hb1 z0 z1 z2 z3 z4
   obtain ⟨z0, z1, z2, z3, z4, -⟩ := opc_at ho0
   obtain ⟨x0, x1, x2, x3, x4, -⟩ := opc_at hp0
   have HP0 := Lib.hid hp0
   clear hp0 ho0
   clear c1 c2 c3 f0 f1 f2 f3
   obtain ⟨c3, f0, f1, f2, f3⟩ := HCELL.out V hbV
   go_wp2_with fail
   refine (HTM.out V acc (HKW.out.k.later hbV).at' (Fr.of_below _ hbV) (by omega)).mono ?_
   rintro e W8 ⟨rfl, h1, h2⟩
   go_wp2_with fail
   go_end0
   exact ⟨rfl, by rw [HF0.out HI0.out]; exact h1, HFIN.out _ h2⟩
  | some p =>
   obtain ⟨ps, pp, pn, pl, pr⟩ := p
   by_cases hge : o.pri ≤ pp
   ·cases same
    ·have HI0 : Hid (I = true) := Lib.hid (by rw [HW4.out ⟨ps, pp, pn, pl, pr⟩ hk rfl]; rw [decide_eq_true hge]; rfl)
     have hg1 : decide (o.pri ≤ pp) = true := decide_eq_true hge
     have HOPN : Hid (∀ v, Below W.heap.size W v → Calls Tryz.prog 109 #[.pointer (some ⟨wb, 0, none⟩), .agg #[.int .i64 y.k, .int .i64 y.n, .string ⟨y.s.toArray⟩, .slice y.A y.len y.cap]] v fun e v' => e = .returned (.tuple #[.agg #[.int .i64 ps, .int .i64 pp, .string ⟨pn.toArray⟩, .bool pl, .bool pr], .bool true]) ∧ Below W.heap.size W v') := HOP
     have HGE := Lib.hid hge
     clear hge
     clear hk
     go_enter Tryz.func134, Tryz.ntmps134
     go_upto_region 1 with fail
     rw [← hW, ← hq]
     clear hW hq
     go_upto_region 8 with fail
     go_wp2_with fail
     refine (HOPN.out W hbr).mono ?_
     rintro e W1 ⟨rfl, hb1⟩
     go_upto_region 9 with fail
     have HB1 := Lib.hid hb1
     obtain ⟨V, hV⟩ : ∃ V, V = W1.alloc (.cells #[.int .i64 ps, .int .i64 pp, .string ⟨pn.toArray⟩, .bool pl, .bool pr] 173) := ⟨_, rfl⟩
     have hbV : Below W.heap.size W V := by rw [hV]; exact hb1.alloc hb1.size _
     have hp0 : V.heap[W1.heap.size]? = some (.cells #[.int .i64 ps, .int .i64 pp, .string ⟨pn.toArray⟩, .bool pl, .bool pr] 173 (0, 0)) := by rw [hV]; exact heap_alloc_new _ _
     have ho0 : V.heap[q + 1]? = _ := (hbV.block (q + 1) hqW).trans HO0.out
     rw [← hV]
     clear hV hb1 z0 z1 z2 z3 z4
     obtain ⟨z0, z1, z2, z3, z4, -⟩ := opc_at ho0
     obtain ⟨x0, x1, x2, x3, x4, -⟩ := opc_at hp0
     have HP0 := Lib.hid hp0
     clear hp0 ho0
     clear c1 c2 c3 f0 f1 f2 f3
     obtain ⟨c3, f0, f1, f2, f3⟩ := HCELL.out V hbV
     go_wp2_with fail
     refine (HAL.out V hbV).mono ?_
     rintro e W7 ⟨rfl, h1, h2⟩
     clear c3 f0 f1 f2 f3
     obtain ⟨c3, f0, f1, f2, f3⟩ := HCELF.out W7 _ h1 h2
     go_wp2_with fail
     refine (HTM.out W7 _ h1 h2 (by simp)).mono ?_
     rintro e W8 ⟨rfl, h3, h4⟩
     clear c3 f0 f1 f2 f3
     obtain ⟨c3, f0, f1, f2, f3⟩ := HCELF.out W8 _ h3 h4
     go_wp2_with fail
     refine (HAR.out W8 _ h3 h4 HGL.out).mono ?_
     rintro e W9 ⟨rfl, h5, h6⟩
     go_wp2_with fail
     go_end0
     exact ⟨rfl, by rw [HF1.out HI0.out]; exact h5, HFIN.out _ h6⟩
    ·by_cases hps : ps = 2
     ·by_cases hpn : pn = o.name
      ·have HI0 : Hid (I = false) := Lib.hid (by rw [HW4.out ⟨ps, pp, pn, pl, pr⟩ hk rfl]; rw [decide_eq_true hge, decide_eq_true hps, decide_eq_true hpn]; rfl)
       have hg1 : decide (o.pri ≤ pp) = true := decide_eq_true hge
       have hs1 : (ps == 2) = true := by rw [hps]; rfl
       have hn1 : (pn == o.name) = true := by rw [hpn]; simp
       have HOPN : Hid (∀ v, Below W.heap.size W v → Calls Tryz.prog 109 #[.pointer (some ⟨wb, 0, none⟩), .agg #[.int .i64 y.k, .int .i64 y.n, .string ⟨y.s.toArray⟩, .slice y.A y.len y.cap]] v fun e v' => e = .returned (.tuple #[.agg #[.int .i64 ps, .int .i64 pp, .string ⟨pn.toArray⟩, .bool pl, .bool pr], .bool true]) ∧ Below W.heap.size W v') := HOP
       have HGE := Lib.hid hge
       have HPS := Lib.hid hps
       have HPN := Lib.hid hpn
       clear hge hps hpn
       clear hk
       go_enter Tryz.func134, Tryz.ntmps134
       go_upto_region 1 with fail
       rw [← hW, ← hq]
       clear hW hq
       go_upto_region 8 with fail
       go_wp2_with fail
       refine (HOPN.out W hbr).mono ?_
       rintro e W1 ⟨rfl, hb1⟩
       go_upto_region 9 with fail
       have HB1 := Lib.hid hb1
       obtain ⟨V, hV⟩ : ∃ V, V = W1.alloc (.cells #[.int .i64 ps, .int .i64 pp, .string ⟨pn.toArray⟩, .bool pl, .bool pr] 173) := ⟨_, rfl⟩
       have hbV : Below W.heap.size W V := by rw [hV]; exact hb1.alloc hb1.size _
       have hp0 : V.heap[W1.heap.size]? = some (.cells #[.int .i64 ps, .int .i64 pp, .string ⟨pn.toArray⟩, .bool pl, .bool pr] 173 (0, 0)) := by rw [hV]; exact heap_alloc_new _ _
       have ho0 : V.heap[q + 1]? = _ := (hbV.block (q + 1) hqW).trans HO0.out
       rw [← hV]
       clear hV hb1 z0 z1 z2 z3 z4
       obtain ⟨z0, z1, z2, z3, z4, -⟩ := opc_at ho0
       obtain ⟨x0, x1, x2, x3, x4, -⟩ := opc_at hp0
       have HP0 := Lib.hid hp0
       clear hp0 ho0
       clear c1 c2 c3 f0 f1 f2 f3
       obtain ⟨c3, f0, f1, f2, f3⟩ := HCELL.out V hbV
       go_wp2_with fail
       refine (HTM.out V acc (HKW.out.k.later hbV).at' (Fr.of_below _ hbV) (by omega)).mono ?_
       rintro e W8 ⟨rfl, h1, h2⟩
       go_wp2_with fail
       go_end0
       exact ⟨rfl, by rw [HF0.out HI0.out]; exact h1, HFIN.out _ h2⟩
      ·have HI0 : Hid (I = true) := Lib.hid (by rw [HW4.out ⟨ps, pp, pn, pl, pr⟩ hk rfl]; rw [decide_eq_true hge, decide_eq_true hps, decide_eq_false hpn]; rfl)
       have hg1 : decide (o.pri ≤ pp) = true := decide_eq_true hge
       have hs1 : (ps == 2) = true := by rw [hps]; rfl
       have hn1 : (pn == o.name) = false := beq_eq_false_iff_ne.2 hpn
       have HOPN : Hid (∀ v, Below W.heap.size W v → Calls Tryz.prog 109 #[.pointer (some ⟨wb, 0, none⟩), .agg #[.int .i64 y.k, .int .i64 y.n, .string ⟨y.s.toArray⟩, .slice y.A y.len y.cap]] v fun e v' => e = .returned (.tuple #[.agg #[.int .i64 ps, .int .i64 pp, .string ⟨pn.toArray⟩, .bool pl, .bool pr], .bool true]) ∧ Below W.heap.size W v') := HOP
       have HGE := Lib.hid hge
       have HPS := Lib.hid hps
       have HPN := Lib.hid hpn
       clear hge hps hpn
       clear hk
       go_enter Tryz.func134, Tryz.ntmps134
       go_upto_region 1 with fail
       rw [← hW, ← hq]
       clear hW hq
       go_upto_region 8 with fail
       go_wp2_with fail
       refine (HOPN.out W hbr).mono ?_
       rintro e W1 ⟨rfl, hb1⟩
       go_upto_region 9 with fail
       have HB1 := Lib.hid hb1
       obtain ⟨V, hV⟩ : ∃ V, V = W1.alloc (.cells #[.int .i64 ps, .int .i64 pp, .string ⟨pn.toArray⟩, .bool pl, .bool pr] 173) := ⟨_, rfl⟩
       have hbV : Below W.heap.size W V := by rw [hV]; exact hb1.alloc hb1.size _
       have hp0 : V.heap[W1.heap.size]? = some (.cells #[.int .i64 ps, .int .i64 pp, .string ⟨pn.toArray⟩, .bool pl, .bool pr] 173 (0, 0)) := by rw [hV]; exact heap_alloc_new _ _
       have ho0 : V.heap[q + 1]? = _ := (hbV.block (q + 1) hqW).trans HO0.out
       rw [← hV]
       clear hV hb1 z0 z1 z2 z3 z4
       obtain ⟨z0, z1, z2, z3, z4, -⟩ := opc_at ho0
       obtain ⟨x0, x1, x2, x3, x4, -⟩ := opc_at hp0
       have HP0 := Lib.hid hp0
       clear hp0 ho0
       clear c1 c2 c3 f0 f1 f2 f3
       obtain ⟨c3, f0, f1, f2, f3⟩ := HCELL.out V hbV
       go_wp2_with fail
       refine (HAL.out V hbV).mono ?_
       rintro e W7 ⟨rfl, h1, h2⟩
       clear c3 f0 f1 f2 f3
       obtain ⟨c3, f0, f1, f2, f3⟩ := HCELF.out W7 _ h1 h2
       go_wp2_with fail
       refine (HTM.out W7 _ h1 h2 (by simp)).mono ?_
       rintro e W8 ⟨rfl, h3, h4⟩
       clear c3 f0 f1 f2 f3
       obtain ⟨c3, f0, f1, f2, f3⟩ := HCELF.out W8 _ h3 h4
       go_wp2_with fail
       refine (HAR.out W8 _ h3 h4 HGL.out).mono ?_
       rintro e W9 ⟨rfl, h5, h6⟩
       go_wp2_with fail
       go_end0
       exact ⟨rfl, by rw [HF1.out HI0.out]; exact h5, HFIN.out _ h6⟩
     ·have HI0 : Hid (I = true) := Lib.hid (by rw [HW4.out ⟨ps, pp, pn, pl, pr⟩ hk rfl]; rw [decide_eq_true hge, decide_eq_false hps]; rfl)
      have hg1 : decide (o.pri ≤ pp) = true := decide_eq_true hge
      have hs1 : (ps == 2) = false := beq_eq_false_iff_ne.2 hps
      have HOPN : Hid (∀ v, Below W.heap.size W v → Calls Tryz.prog 109 #[.pointer (some ⟨wb, 0, none⟩), .agg #[.int .i64 y.k, .int .i64 y.n, .string ⟨y.s.toArray⟩, .slice y.A y.len y.cap]] v fun e v' => e = .returned (.tuple #[.agg #[.int .i64 ps, .int .i64 pp, .string ⟨pn.toArray⟩, .bool pl, .bool pr], .bool true]) ∧ Below W.heap.size W v') := HOP
      have HGE := Lib.hid hge
      have HPS := Lib.hid hps
      clear hge hps
      clear hk
      go_enter Tryz.func134, Tryz.ntmps134
      go_upto_region 1 with fail
      rw [← hW, ← hq]
      clear hW hq
      go_upto_region 8 with fail
      go_wp2_with fail
      refine (HOPN.out W hbr).mono ?_
      rintro e W1 ⟨rfl, hb1⟩
      go_upto_region 9 with fail
      have HB1 := Lib.hid hb1
      obtain ⟨V, hV⟩ : ∃ V, V = W1.alloc (.cells #[.int .i64 ps, .int .i64 pp, .string ⟨pn.toArray⟩, .bool pl, .bool pr] 173) := ⟨_, rfl⟩
      have hbV : Below W.heap.size W V := by rw [hV]; exact hb1.alloc hb1.size _
      have hp0 : V.heap[W1.heap.size]? = some (.cells #[.int .i64 ps, .int .i64 pp, .string ⟨pn.toArray⟩, .bool pl, .bool pr] 173 (0, 0)) := by rw [hV]; exact heap_alloc_new _ _
      have ho0 : V.heap[q + 1]? = _ := (hbV.block (q + 1) hqW).trans HO0.out
      rw [← hV]
      clear hV hb1 z0 z1 z2 z3 z4
      obtain ⟨z0, z1, z2, z3, z4, -⟩ := opc_at ho0
      obtain ⟨x0, x1, x2, x3, x4, -⟩ := opc_at hp0
      have HP0 := Lib.hid hp0
      clear hp0 ho0
      clear c1 c2 c3 f0 f1 f2 f3
      obtain ⟨c3, f0, f1, f2, f3⟩ := HCELL.out V hbV
      go_wp2_with fail
      refine (HAL.out V hbV).mono ?_
      rintro e W7 ⟨rfl, h1, h2⟩
      clear c3 f0 f1 f2 f3
      obtain ⟨c3, f0, f1, f2, f3⟩ := HCELF.out W7 _ h1 h2
      go_wp2_with fail
      refine (HTM.out W7 _ h1 h2 (by simp)).mono ?_
      rintro e W8 ⟨rfl, h3, h4⟩
      clear c3 f0 f1 f2 f3
      obtain ⟨c3, f0, f1, f2, f3⟩ := HCELF.out W8 _ h3 h4
      go_wp2_with fail
      refine (HAR.out W8 _ h3 h4 HGL.out).mono ?_
      rintro e W9 ⟨rfl, h5, h6⟩
      go_wp2_with fail
      go_end0
      exact ⟨rfl, by rw [HF1.out HI0.out]; exact h5, HFIN.out _ h6⟩
   ·have HI0 : Hid (I = false) := Lib.hid (by rw [HW4.out ⟨ps, pp, pn, pl, pr⟩ hk rfl]; rw [decide_eq_false hge]; rfl)
    have hg1 : decide (o.pri ≤ pp) = false := decide_eq_false hge
    have HOPN : Hid (∀ v, Below W.heap.size W v → Calls Tryz.prog 109 #[.pointer (some ⟨wb, 0, none⟩), .agg #[.int .i64 y.k, .int .i64 y.n, .string ⟨y.s.toArray⟩, .slice y.A y.len y.cap]] v fun e v' => e = .returned (.tuple #[.agg #[.int .i64 ps, .int .i64 pp, .string ⟨pn.toArray⟩, .bool pl, .bool pr], .bool true]) ∧ Below W.heap.size W v') := HOP
    have HGE := Lib.hid hge
    clear hge
    clear hk
    go_enter Tryz.func134, Tryz.ntmps134
    go_upto_region 1 with fail
    rw [← hW, ← hq]
    clear hW hq
    go_upto_region 8 with fail
    go_wp2_with fail
    refine (HOPN.out W hbr).mono ?_
    rintro e W1 ⟨rfl, hb1⟩
    go_upto_region 9 with fail
    have HB1 := Lib.hid hb1
    obtain ⟨V, hV⟩ : ∃ V, V = W1.alloc (.cells #[.int .i64 ps, .int .i64 pp, .string ⟨pn.toArray⟩, .bool pl, .bool pr] 173) := ⟨_, rfl⟩
    have hbV : Below W.heap.size W V := by rw [hV]; exact hb1.alloc hb1.size _
    have hp0 : V.heap[W1.heap.size]? = some (.cells #[.int .i64 ps, .int .i64 pp, .string ⟨pn.toArray⟩, .bool pl, .bool pr] 173 (0, 0)) := by rw [hV]; exact heap_alloc_new _ _
    have ho0 : V.heap[q + 1]? = _ := (hbV.block (q + 1) hqW).trans HO0.out
    rw [← hV]
    clear hV hb1 z0 z1 z2 z3 z4
    obtain ⟨z0, z1, z2, z3, z4, -⟩ := opc_at ho0
    obtain ⟨x0, x1, x2, x3, x4, -⟩ := opc_at hp0
    have HP0 := Lib.hid hp0
    clear hp0 ho0
    clear c1 c2 c3 f0 f1 f2 f3
    obtain ⟨c3, f0, f1, f2, f3⟩ := HCELL.out V hbV
    go_wp2_with fail
    refine (HTM.out V acc (HKW.out.k.later hbV).at' (Fr.of_below _ hbV) (by omega)).mono ?_
    rintro e W8 ⟨rfl, h1, h2⟩
    go_wp2_with fail
    go_end0
    exact ⟨rfl, by rw [HF0.out HI0.out]; exact h1, HFIN.out _ h2⟩
theorem arg_at {w : World} {B : Nat} {x : TV} {t : Tm} (h : TermAt w B x t) {i : Nat} (hi : i < t.args.length) :
    ∃ b off y, x.A = some ⟨b, off, none⟩ ∧ b < B ∧ TermAt w B y (t.args.getD i noTm) ∧
     (w.cell? ⟨b, off + i * 4, none⟩ = some (.int .i64 y.k) ∧ w.cell? ⟨b, off + i * 4 + 1, none⟩ = some (.int .i64 y.n) ∧ w.cell? ⟨b, off + i * 4 + 2, none⟩ = some (.string ⟨y.s.toArray⟩) ∧ w.cell? ⟨b, off + i * 4 + 3, none⟩ = some (.slice y.A y.len y.cap)) := by
 obtain ⟨k1, k2, k3, k4, k5, ka⟩ := h.open
 have e0 : t.args[i]? = some (t.args.getD i noTm) := by rw [List.getD_eq_getElem?_getD, List.getElem?_eq_getElem hi]; rfl
 obtain ⟨y, b, off, hA, hb, ht, hc⟩ := ka i _ e0
 exact ⟨b, off, y, hA, hb, ht, hc 0 _ rfl, hc 1 _ rfl, hc 2 _ rfl, hc 3 _ rfl⟩
theorem slice_two {b off b' off' : Nat} {x : TV} (h1 : x.A = some ⟨b, off, none⟩) (h2 : x.A = some ⟨b', off', none⟩) : b = b' ∧ off = off' := by
 rw [h1] at h2
 injection h2 with h2
 injection h2 with q1 q2
 exact ⟨q1, q2⟩
def Hd (W : World) (B wb bt : Nat) (way : Int) (a2 : List UInt8) (v : World) : Prop := WrAt v B wb bt way a2 ∧ Fr (WrS W B wb) W v
theorem Hd.later {W v v' : World} {B wb bt : Nat} {way : Int} {a2 : List UInt8} (h : Hd W B wb bt way a2 v) (hb : Below v.heap.size v v') : Hd W B wb bt way a2 v' := ⟨h.1.later hb, h.2.step hb⟩
set_option maxHeartbeats 16000000 in
theorem operate_before {es : List (OpK × OpV)} {way : Int} {n : Nat} (hC : TermC es way n) (u : World) (B0 B wb bt bm : Nat) (acc : List UInt8) (x : TV) (t : Tm) (o : OpR) (hn : t.size ≤ n + 1) (hw : WfT t) (hx : TermAt u B0 x t) (hnm : o.name = t.s) (hsd : o.side = 1) (hl : t.args.length = 1) (hK : WrK u B0 B wb bt bm es way acc) (hlen : acc.length + 6000 * t.size ≤ 10000000001) :
    Calls Tryz.prog 111 #[.pointer (some ⟨wb, 0, none⟩), opV o, .slice x.A x.len x.cap] u fun e u' => e = .returned (.tuple #[]) ∧ WrAt u' B wb bt way (acc ++ operateF es way (wrT es way) o t.args) ∧ Fr (WrS u B wb) u u' := by
 obtain ⟨k1, k2, k3, k4, k5, -⟩ := hx.open
 obtain ⟨g, hg⟩ : ∃ g, g = wrT es way := ⟨_, rfl⟩
 have hgl : ∀ i, i < t.args.length → ∀ m, (g (t.args.getD i noTm) m).length ≤ 6000 * (t.args.getD i noTm).size := fun i hi m => by rw [hg]; exact wr_len es way _ _ m (Nat.le_refl _) (hw.arg hi)
 have hnl : o.name.length ≤ 1000 := by rw [hnm]; exact hw.name.1
 have htl := text_len way hnl
 rw [← hg]
 obtain ⟨T, hT⟩ : ∃ T, T = textF way o.name := ⟨_, rfl⟩
 rw [← hT] at htl
 obtain ⟨F, hF⟩ : ∃ F, F = acc ++ operateF es way g o t.args := ⟨_, rfl⟩
 rw [← hF]
 obtain ⟨W, hW⟩ : ∃ W, W = u.alloc (.cells #[.int .i64 o.side, .int .i64 o.pri, .string ⟨o.name.toArray⟩, .bool o.left, .bool o.right] 173) := ⟨_, rfl⟩
 have hbW : Below u.heap.size u W := by rw [hW]; exact (Below.refl _ _).alloc (Nat.le_refl _) _
 have ho0 : W.heap[u.heap.size]? = some (.cells #[.int .i64 o.side, .int .i64 o.pri, .string ⟨o.name.toArray⟩, .bool o.left, .bool o.right] 173 (0, 0)) := by rw [hW]; exact heap_alloc_new _ _
 have hKW := hK.later hbW
 have hxW : TermAt W B0 x t := hx.blw (hK.low (Fr.of_below _ hbW))
 obtain ⟨q, hq⟩ : ∃ q, q = u.heap.size := ⟨_, rfl⟩
 rw [← hq] at ho0
 have hne : q ≠ wb := hKW.ne ho0 (by decide)
 obtain ⟨b, off, y0, hA, hbB, hy0, m0, m1, m2, m3⟩ := arg_at hxW (i := 0) (by omega)
 simp only [Nat.zero_mul, Nat.add_zero] at m0 m1 m2 m3
 have hxl : x.len = 1 := by omega
 rw [hA, hxl]
 have HSS : Hid (∀ a2 v, Hd W B wb bt way a2 v → v.cell? ⟨wb, 3, none⟩ = some (.func (.func 32) #[.pointer (some ⟨wb, 0, none⟩)] #[]) ∧ v.cell? ⟨q, 0, none⟩ = some (.int .i64 o.side) ∧ v.cell? ⟨q, 1, none⟩ = some (.int .i64 o.pri) ∧ v.cell? ⟨q, 2, none⟩ = some (.string ⟨o.name.toArray⟩) ∧ v.cell? ⟨q, 3, none⟩ = some (.bool o.left) ∧ v.cell? ⟨q, 4, none⟩ = some (.bool o.right) ∧ v.cell? ⟨b, off, none⟩ = some (.int .i64 y0.k) ∧ v.cell? ⟨b, off + 1, none⟩ = some (.int .i64 y0.n) ∧ v.cell? ⟨b, off + 2, none⟩ = some (.string ⟨y0.s.toArray⟩) ∧ v.cell? ⟨b, off + 3, none⟩ = some (.slice y0.A y0.len y0.cap)) := Lib.hid fun a2 v hv => by
  have e1 := (hKW.next hv.1 hv.2).put3.1
  obtain ⟨g0, g1, g2, g3, g4, -⟩ := opc_at (WrS.keep hv.2 ho0 (by decide) hne)
  have hc : ∀ j, v.cell? ⟨b, j, none⟩ = W.cell? ⟨b, j, none⟩ := fun j => World.cell?_of_block (w := W) (a := ⟨b, j, none⟩) ((hKW.low hv.2).block b hbB)
  rw [hc, hc, hc, hc]
  exact ⟨e1, g0, g1, g2, g3, g4, m0, m1, m2, m3⟩
 have HTX : Hid (∀ a2 V v, Hd W B wb bt way a2 V → Below V.heap.size V v → Calls Tryz.prog 64 #[.pointer (some ⟨wb, 0, none⟩), .string ⟨o.name.toArray⟩] v fun e v' => e = .returned (.string ⟨T.toArray⟩) ∧ Below V.heap.size V v') := Lib.hid fun a2 V v hV hv => by
  have hk := hKW.next (hV.later hv).1 (hV.later hv).2
  refine (text_any v B wb bt way a2 o.name hk.at' hnl hk.env.bits).mono ?_
  rintro e v' ⟨rfl, hb'⟩
  exact ⟨by rw [hT], hv.trans (hb'.mono hv.size)⟩
 have HAD : Hid (∀ a2 Z v, Hd W B wb bt way a2 v → a2.length + Z.length ≤ 100000000000 → Calls Tryz.prog 32 #[.pointer (some ⟨wb, 0, none⟩), .string ⟨Z.toArray⟩] v fun e v' => e = .returned (.tuple #[]) ∧ Hd W B wb bt way (a2 ++ Z) v') := Lib.hid fun a2 Z v hv hz => by
  have hk := hKW.next hv.1 hv.2
  refine (wadd_any v B wb bt way a2 Z hk.at' hk.bu hz).mono ?_
  rintro e v' ⟨rfl, h1, h2⟩
  exact ⟨rfl, h1, WrS.trans hv.2 h2⟩
 have HOP0 : Hid (∀ a2 same v, Hd W B wb bt way a2 v → a2.length + 6000 * (t.args.getD 0 noTm).size + 2 ≤ 10000000000 → Calls Tryz.prog 134 #[.pointer (some ⟨wb, 0, none⟩), .agg #[.int .i64 y0.k, .int .i64 y0.n, .string ⟨y0.s.toArray⟩, .slice y0.A y0.len y0.cap], .agg #[.int .i64 o.side, .int .i64 o.pri, .string ⟨o.name.toArray⟩, .bool o.left, .bool o.right], .bool same] v fun e v' => e = .returned (.tuple #[]) ∧ Hd W B wb bt way (a2 ++ operandF es way g (t.args.getD 0 noTm) o same) v') := Lib.hid fun a2 same v hv hz => by
  have hk := hKW.next hv.1 hv.2
  rw [hg, ← tvV_lit]
  refine (operand_any hC v B0 B wb bt bm a2 y0 _ o same (by have := arg_size (t := t) (i := 0) (by omega); omega) (hw.arg (by omega)) (hy0.blw (hKW.low hv.2)) hk hz).mono ?_
  rintro e v' ⟨rfl, h1, h2⟩
  exact ⟨rfl, h1, WrS.trans hv.2 h2⟩
 have HVW : Hid (Hd W B wb bt way acc W) := Lib.hid ⟨hKW.at', Fr.refl _ _⟩
 have HFIN : Hid (∀ v, Fr (WrS W B wb) W v → Fr (WrS u B wb) u v) := Lib.hid fun v hv => WrS.trans (Fr.of_below _ hbW) hv
 have HLN : Hid (acc.length + 5002 + (operandF es way g (t.args.getD 0 noTm) o false).length + 900 ≤ 10000000000 ∧ acc.length + 5002 + 6000 * (t.args.getD 0 noTm).size + 900 ≤ 10000000000 ∧ T.length ≤ 5002) := Lib.hid (by
  have h1 := one_sizes hl
  have h2 := operand_len (es := es) (way := way) (t.args.getD 0 noTm) (hgl 0 (by omega)) o false
  omega)
 have HEN : Hid (F = acc ++ T ++ [32] ++ operandF es way g (t.args.getD 0 noTm) o false) := Lib.hid (by
  rw [hF]; unfold operateF; rw [if_pos hsd, hT]; simp)
 have s1 : (o.side == 1) = true := by rw [hsd]; rfl
 clear hC hn hw hx hnm hsd hl hK hlen k1 k2 k3 k4 k5 hg hgl hnl htl hT hF hbW ho0 hKW hxW hne hA hbB hy0 m0 m1 m2 m3 hxl
 unfold opV
 go_enter Tryz.func111, Tryz.ntmps111
 go_upto_region 1 with fail
 rw [← hW, ← hq]
 clear hW hq
 obtain ⟨x0, x1, x2, x3, x4, x5, x6, x7, x8, x9⟩ := HSS.out _ W HVW.out
 go_wp2_with fail
 have hbr := Below.refl W.heap.size W
 have hbd : Below W.heap.size W W.drew := (Below.refl W.heap.size W).drew
 have HSW : Hid (∀ v, Below W.heap.size W v → v.cell? ⟨wb, 3, none⟩ = some (.func (.func 32) #[.pointer (some ⟨wb, 0, none⟩)] #[]) ∧ v.cell? ⟨q, 0, none⟩ = some (.int .i64 o.side) ∧ v.cell? ⟨q, 1, none⟩ = some (.int .i64 o.pri) ∧ v.cell? ⟨q, 2, none⟩ = some (.string ⟨o.name.toArray⟩) ∧ v.cell? ⟨q, 3, none⟩ = some (.bool o.left) ∧ v.cell? ⟨q, 4, none⟩ = some (.bool o.right) ∧ v.cell? ⟨b, off, none⟩ = some (.int .i64 y0.k) ∧ v.cell? ⟨b, off + 1, none⟩ = some (.int .i64 y0.n) ∧ v.cell? ⟨b, off + 2, none⟩ = some (.string ⟨y0.s.toArray⟩) ∧ v.cell? ⟨b, off + 3, none⟩ = some (.slice y0.A y0.len y0.cap)) := Lib.hid fun v hv => HSS.out _ v (HVW.out.later hv)
 have HTW : Hid (∀ v, Below W.heap.size W v → Calls Tryz.prog 64 #[.pointer (some ⟨wb, 0, none⟩), .string ⟨o.name.toArray⟩] v fun e v' => e = .returned (.string ⟨T.toArray⟩) ∧ Below W.heap.size W v') := Lib.hid fun v hv => HTX.out _ _ _ HVW.out hv
 have HAW : Hid (∀ v, Below W.heap.size W v → Calls Tryz.prog 32 #[.pointer (some ⟨wb, 0, none⟩), .string ⟨T.toArray⟩] v fun e v' => e = .returned (.tuple #[]) ∧ Hd W B wb bt way (acc ++ T) v') := Lib.hid fun v hv => HAD.out _ T v (HVW.out.later hv) (by have := HLN.out; (try simp only [List.length_append, List.length_cons, List.length_nil]); omega)
 go_region_held3 (fun v => v.cell? ⟨wb, 3, none⟩ = some (.func (.func 32) #[.pointer (some ⟨wb, 0, none⟩)] #[]) ∧ v.cell? ⟨q, 0, none⟩ = some (.int .i64 o.side) ∧ v.cell? ⟨q, 1, none⟩ = some (.int .i64 o.pri) ∧ v.cell? ⟨q, 2, none⟩ = some (.string ⟨o.name.toArray⟩) ∧ v.cell? ⟨q, 3, none⟩ = some (.bool o.left) ∧ v.cell? ⟨q, 4, none⟩ = some (.bool o.right) ∧ v.cell? ⟨b, off, none⟩ = some (.int .i64 y0.k) ∧ v.cell? ⟨b, off + 1, none⟩ = some (.int .i64 y0.n) ∧ v.cell? ⟨b, off + 2, none⟩ = some (.string ⟨y0.s.toArray⟩) ∧ v.cell? ⟨b, off + 3, none⟩ = some (.slice y0.A y0.len y0.cap))
  (first | (with_reducible exact HSW.out _ (by assumption)) | (with_reducible exact HSS.out _ _ (by assumption)))
  (first | (go_at_call 64; with_reducible refine (HTW.out _ (by assumption)).mono ?_; rintro e v1 ⟨rfl, hb1⟩) | (go_at_call 32; with_reducible refine (HAW.out _ (by assumption)).mono ?_; rintro e W1 ⟨rfl, hg⟩))
 have HVW1 := Lib.hid hg
 clear x0 x1 x2 x3 x4 x5 x6 x7 x8 x9 hbr hbd HSW HTW HAW hg
 obtain ⟨x0, x1, x2, x3, x4, x5, x6, x7, x8, x9⟩ := HSS.out _ W1 HVW1.out
 go_wp2_with fail
 refine (HAD.out _ [32] W1 HVW1.out (by have := HLN.out; (try simp only [List.length_append, List.length_cons, List.length_nil]); omega)).mono ?_
 rintro e W2 ⟨rfl, hg⟩
 have HVW2 := Lib.hid hg
 clear x0 x1 x2 x3 x4 x5 x6 x7 x8 x9 hg
 obtain ⟨x0, x1, x2, x3, x4, x5, x6, x7, x8, x9⟩ := HSS.out _ W2 HVW2.out
 go_wp2_with fail
 have hbr := Below.refl W2.heap.size W2
 have hbd : Below W2.heap.size W2 W2.drew := (Below.refl W2.heap.size W2).drew
 have HSW2 : Hid (∀ v, Below W2.heap.size W2 v → v.cell? ⟨wb, 3, none⟩ = some (.func (.func 32) #[.pointer (some ⟨wb, 0, none⟩)] #[]) ∧ v.cell? ⟨q, 0, none⟩ = some (.int .i64 o.side) ∧ v.cell? ⟨q, 1, none⟩ = some (.int .i64 o.pri) ∧ v.cell? ⟨q, 2, none⟩ = some (.string ⟨o.name.toArray⟩) ∧ v.cell? ⟨q, 3, none⟩ = some (.bool o.left) ∧ v.cell? ⟨q, 4, none⟩ = some (.bool o.right) ∧ v.cell? ⟨b, off, none⟩ = some (.int .i64 y0.k) ∧ v.cell? ⟨b, off + 1, none⟩ = some (.int .i64 y0.n) ∧ v.cell? ⟨b, off + 2, none⟩ = some (.string ⟨y0.s.toArray⟩) ∧ v.cell? ⟨b, off + 3, none⟩ = some (.slice y0.A y0.len y0.cap)) := Lib.hid fun v hv => HSS.out _ v (HVW2.out.later hv)
 have HOW2 : Hid (∀ v, Below W2.heap.size W2 v → Calls Tryz.prog 134 #[.pointer (some ⟨wb, 0, none⟩), .agg #[.int .i64 y0.k, .int .i64 y0.n, .string ⟨y0.s.toArray⟩, .slice y0.A y0.len y0.cap], .agg #[.int .i64 o.side, .int .i64 o.pri, .string ⟨o.name.toArray⟩, .bool o.left, .bool o.right], .bool false] v fun e v' => e = .returned (.tuple #[]) ∧ Hd W B wb bt way (((acc ++ T) ++ [32]) ++ operandF es way g (t.args.getD 0 noTm) o false) v') := Lib.hid fun v hv => HOP0.out _ false v (HVW2.out.later hv) (by have := HLN.out; (try simp only [List.length_append, List.length_cons, List.length_nil]); omega)
 go_region_held3 (fun v => v.cell? ⟨wb, 3, none⟩ = some (.func (.func 32) #[.pointer (some ⟨wb, 0, none⟩)] #[]) ∧ v.cell? ⟨q, 0, none⟩ = some (.int .i64 o.side) ∧ v.cell? ⟨q, 1, none⟩ = some (.int .i64 o.pri) ∧ v.cell? ⟨q, 2, none⟩ = some (.string ⟨o.name.toArray⟩) ∧ v.cell? ⟨q, 3, none⟩ = some (.bool o.left) ∧ v.cell? ⟨q, 4, none⟩ = some (.bool o.right) ∧ v.cell? ⟨b, off, none⟩ = some (.int .i64 y0.k) ∧ v.cell? ⟨b, off + 1, none⟩ = some (.int .i64 y0.n) ∧ v.cell? ⟨b, off + 2, none⟩ = some (.string ⟨y0.s.toArray⟩) ∧ v.cell? ⟨b, off + 3, none⟩ = some (.slice y0.A y0.len y0.cap))
  (first | (with_reducible exact HSW2.out _ (by assumption)) | (with_reducible exact HSS.out _ _ (by assumption)))
  (first | (go_at_call 134; with_reducible refine (HOW2.out _ (by assumption)).mono ?_; rintro e W3 ⟨rfl, hg⟩))
 have HVW3 := Lib.hid hg
 clear x0 x1 x2 x3 x4 x5 x6 x7 x8 x9 hbr hbd HSW2 HOW2 hg
 go_wp2_with fail
 go_end0
 exact ⟨rfl, by rw [HEN.out]; simpa using HVW3.out.1, HFIN.out _ HVW3.out.2⟩
set_option maxHeartbeats 16000000 in
theorem operate_behind {es : List (OpK × OpV)} {way : Int} {n : Nat} (hC : TermC es way n) (u : World) (B0 B wb bt bm : Nat) (acc : List UInt8) (x : TV) (t : Tm) (o : OpR) (hn : t.size ≤ n + 1) (hw : WfT t) (hx : TermAt u B0 x t) (hnm : o.name = t.s) (hsd : o.side = 3) (hl : t.args.length = 1) (hK : WrK u B0 B wb bt bm es way acc) (hlen : acc.length + 6000 * t.size ≤ 10000000001) :
    Calls Tryz.prog 111 #[.pointer (some ⟨wb, 0, none⟩), opV o, .slice x.A x.len x.cap] u fun e u' => e = .returned (.tuple #[]) ∧ WrAt u' B wb bt way (acc ++ operateF es way (wrT es way) o t.args) ∧ Fr (WrS u B wb) u u' := by
 obtain ⟨k1, k2, k3, k4, k5, -⟩ := hx.open
 obtain ⟨g, hg⟩ : ∃ g, g = wrT es way := ⟨_, rfl⟩
 have hgl : ∀ i, i < t.args.length → ∀ m, (g (t.args.getD i noTm) m).length ≤ 6000 * (t.args.getD i noTm).size := fun i hi m => by rw [hg]; exact wr_len es way _ _ m (Nat.le_refl _) (hw.arg hi)
 have hnl : o.name.length ≤ 1000 := by rw [hnm]; exact hw.name.1
 have htl := text_len way hnl
 rw [← hg]
 obtain ⟨T, hT⟩ : ∃ T, T = textF way o.name := ⟨_, rfl⟩
 rw [← hT] at htl
 obtain ⟨F, hF⟩ : ∃ F, F = acc ++ operateF es way g o t.args := ⟨_, rfl⟩
 rw [← hF]
 obtain ⟨W, hW⟩ : ∃ W, W = u.alloc (.cells #[.int .i64 o.side, .int .i64 o.pri, .string ⟨o.name.toArray⟩, .bool o.left, .bool o.right] 173) := ⟨_, rfl⟩
 have hbW : Below u.heap.size u W := by rw [hW]; exact (Below.refl _ _).alloc (Nat.le_refl _) _
 have ho0 : W.heap[u.heap.size]? = some (.cells #[.int .i64 o.side, .int .i64 o.pri, .string ⟨o.name.toArray⟩, .bool o.left, .bool o.right] 173 (0, 0)) := by rw [hW]; exact heap_alloc_new _ _
 have hKW := hK.later hbW
 have hxW : TermAt W B0 x t := hx.blw (hK.low (Fr.of_below _ hbW))
 obtain ⟨q, hq⟩ : ∃ q, q = u.heap.size := ⟨_, rfl⟩
 rw [← hq] at ho0
 have hne : q ≠ wb := hKW.ne ho0 (by decide)
 obtain ⟨b, off, y0, hA, hbB, hy0, m0, m1, m2, m3⟩ := arg_at hxW (i := 0) (by omega)
 simp only [Nat.zero_mul, Nat.add_zero] at m0 m1 m2 m3
 have hxl : x.len = 1 := by omega
 rw [hA, hxl]
 have HSS : Hid (∀ a2 v, Hd W B wb bt way a2 v → v.cell? ⟨wb, 3, none⟩ = some (.func (.func 32) #[.pointer (some ⟨wb, 0, none⟩)] #[]) ∧ v.cell? ⟨q, 0, none⟩ = some (.int .i64 o.side) ∧ v.cell? ⟨q, 1, none⟩ = some (.int .i64 o.pri) ∧ v.cell? ⟨q, 2, none⟩ = some (.string ⟨o.name.toArray⟩) ∧ v.cell? ⟨q, 3, none⟩ = some (.bool o.left) ∧ v.cell? ⟨q, 4, none⟩ = some (.bool o.right) ∧ v.cell? ⟨b, off, none⟩ = some (.int .i64 y0.k) ∧ v.cell? ⟨b, off + 1, none⟩ = some (.int .i64 y0.n) ∧ v.cell? ⟨b, off + 2, none⟩ = some (.string ⟨y0.s.toArray⟩) ∧ v.cell? ⟨b, off + 3, none⟩ = some (.slice y0.A y0.len y0.cap)) := Lib.hid fun a2 v hv => by
  have e1 := (hKW.next hv.1 hv.2).put3.1
  obtain ⟨g0, g1, g2, g3, g4, -⟩ := opc_at (WrS.keep hv.2 ho0 (by decide) hne)
  have hc : ∀ j, v.cell? ⟨b, j, none⟩ = W.cell? ⟨b, j, none⟩ := fun j => World.cell?_of_block (w := W) (a := ⟨b, j, none⟩) ((hKW.low hv.2).block b hbB)
  rw [hc, hc, hc, hc]
  exact ⟨e1, g0, g1, g2, g3, g4, m0, m1, m2, m3⟩
 have HTX : Hid (∀ a2 V v, Hd W B wb bt way a2 V → Below V.heap.size V v → Calls Tryz.prog 64 #[.pointer (some ⟨wb, 0, none⟩), .string ⟨o.name.toArray⟩] v fun e v' => e = .returned (.string ⟨T.toArray⟩) ∧ Below V.heap.size V v') := Lib.hid fun a2 V v hV hv => by
  have hk := hKW.next (hV.later hv).1 (hV.later hv).2
  refine (text_any v B wb bt way a2 o.name hk.at' hnl hk.env.bits).mono ?_
  rintro e v' ⟨rfl, hb'⟩
  exact ⟨by rw [hT], hv.trans (hb'.mono hv.size)⟩
 have HAD : Hid (∀ a2 Z v, Hd W B wb bt way a2 v → a2.length + Z.length ≤ 100000000000 → Calls Tryz.prog 32 #[.pointer (some ⟨wb, 0, none⟩), .string ⟨Z.toArray⟩] v fun e v' => e = .returned (.tuple #[]) ∧ Hd W B wb bt way (a2 ++ Z) v') := Lib.hid fun a2 Z v hv hz => by
  have hk := hKW.next hv.1 hv.2
  refine (wadd_any v B wb bt way a2 Z hk.at' hk.bu hz).mono ?_
  rintro e v' ⟨rfl, h1, h2⟩
  exact ⟨rfl, h1, WrS.trans hv.2 h2⟩
 have HOP0 : Hid (∀ a2 same v, Hd W B wb bt way a2 v → a2.length + 6000 * (t.args.getD 0 noTm).size + 2 ≤ 10000000000 → Calls Tryz.prog 134 #[.pointer (some ⟨wb, 0, none⟩), .agg #[.int .i64 y0.k, .int .i64 y0.n, .string ⟨y0.s.toArray⟩, .slice y0.A y0.len y0.cap], .agg #[.int .i64 o.side, .int .i64 o.pri, .string ⟨o.name.toArray⟩, .bool o.left, .bool o.right], .bool same] v fun e v' => e = .returned (.tuple #[]) ∧ Hd W B wb bt way (a2 ++ operandF es way g (t.args.getD 0 noTm) o same) v') := Lib.hid fun a2 same v hv hz => by
  have hk := hKW.next hv.1 hv.2
  rw [hg, ← tvV_lit]
  refine (operand_any hC v B0 B wb bt bm a2 y0 _ o same (by have := arg_size (t := t) (i := 0) (by omega); omega) (hw.arg (by omega)) (hy0.blw (hKW.low hv.2)) hk hz).mono ?_
  rintro e v' ⟨rfl, h1, h2⟩
  exact ⟨rfl, h1, WrS.trans hv.2 h2⟩
 have HVW : Hid (Hd W B wb bt way acc W) := Lib.hid ⟨hKW.at', Fr.refl _ _⟩
 have HFIN : Hid (∀ v, Fr (WrS W B wb) W v → Fr (WrS u B wb) u v) := Lib.hid fun v hv => WrS.trans (Fr.of_below _ hbW) hv
 have HLN : Hid (acc.length + 5002 + (operandF es way g (t.args.getD 0 noTm) o false).length + 900 ≤ 10000000000 ∧ acc.length + 5002 + 6000 * (t.args.getD 0 noTm).size + 900 ≤ 10000000000 ∧ T.length ≤ 5002) := Lib.hid (by
  have h1 := one_sizes hl
  have h2 := operand_len (es := es) (way := way) (t.args.getD 0 noTm) (hgl 0 (by omega)) o false
  omega)
 have HEN : Hid (F = acc ++ operandF es way g (t.args.getD 0 noTm) o false ++ [32] ++ T) := Lib.hid (by
  rw [hF]; unfold operateF; rw [if_neg (by omega), if_pos hsd, hT]; simp)
 have s1 : (o.side == 1) = false := by rw [hsd]; rfl
 have s3 : (o.side == 3) = true := by rw [hsd]; rfl
 clear hC hn hw hx hnm hsd hl hK hlen k1 k2 k3 k4 k5 hg hgl hnl htl hT hF hbW ho0 hKW hxW hne hA hbB hy0 m0 m1 m2 m3 hxl
 unfold opV
 go_enter Tryz.func111, Tryz.ntmps111
 go_upto_region 1 with fail
 rw [← hW, ← hq]
 clear hW hq
 obtain ⟨x0, x1, x2, x3, x4, x5, x6, x7, x8, x9⟩ := HSS.out _ W HVW.out
 go_wp2_with fail
 have hbr := Below.refl W.heap.size W
 have hbd : Below W.heap.size W W.drew := (Below.refl W.heap.size W).drew
 have HSW : Hid (∀ v, Below W.heap.size W v → v.cell? ⟨wb, 3, none⟩ = some (.func (.func 32) #[.pointer (some ⟨wb, 0, none⟩)] #[]) ∧ v.cell? ⟨q, 0, none⟩ = some (.int .i64 o.side) ∧ v.cell? ⟨q, 1, none⟩ = some (.int .i64 o.pri) ∧ v.cell? ⟨q, 2, none⟩ = some (.string ⟨o.name.toArray⟩) ∧ v.cell? ⟨q, 3, none⟩ = some (.bool o.left) ∧ v.cell? ⟨q, 4, none⟩ = some (.bool o.right) ∧ v.cell? ⟨b, off, none⟩ = some (.int .i64 y0.k) ∧ v.cell? ⟨b, off + 1, none⟩ = some (.int .i64 y0.n) ∧ v.cell? ⟨b, off + 2, none⟩ = some (.string ⟨y0.s.toArray⟩) ∧ v.cell? ⟨b, off + 3, none⟩ = some (.slice y0.A y0.len y0.cap)) := Lib.hid fun v hv => HSS.out _ v (HVW.out.later hv)
 have HOW : Hid (∀ v, Below W.heap.size W v → Calls Tryz.prog 134 #[.pointer (some ⟨wb, 0, none⟩), .agg #[.int .i64 y0.k, .int .i64 y0.n, .string ⟨y0.s.toArray⟩, .slice y0.A y0.len y0.cap], .agg #[.int .i64 o.side, .int .i64 o.pri, .string ⟨o.name.toArray⟩, .bool o.left, .bool o.right], .bool false] v fun e v' => e = .returned (.tuple #[]) ∧ Hd W B wb bt way (acc ++ operandF es way g (t.args.getD 0 noTm) o false) v') := Lib.hid fun v hv => HOP0.out _ false v (HVW.out.later hv) (by have := HLN.out; (try simp only [List.length_append, List.length_cons, List.length_nil]); omega)
 go_region_held3 (fun v => v.cell? ⟨wb, 3, none⟩ = some (.func (.func 32) #[.pointer (some ⟨wb, 0, none⟩)] #[]) ∧ v.cell? ⟨q, 0, none⟩ = some (.int .i64 o.side) ∧ v.cell? ⟨q, 1, none⟩ = some (.int .i64 o.pri) ∧ v.cell? ⟨q, 2, none⟩ = some (.string ⟨o.name.toArray⟩) ∧ v.cell? ⟨q, 3, none⟩ = some (.bool o.left) ∧ v.cell? ⟨q, 4, none⟩ = some (.bool o.right) ∧ v.cell? ⟨b, off, none⟩ = some (.int .i64 y0.k) ∧ v.cell? ⟨b, off + 1, none⟩ = some (.int .i64 y0.n) ∧ v.cell? ⟨b, off + 2, none⟩ = some (.string ⟨y0.s.toArray⟩) ∧ v.cell? ⟨b, off + 3, none⟩ = some (.slice y0.A y0.len y0.cap))
  (first | (with_reducible exact HSW.out _ (by assumption)) | (with_reducible exact HSS.out _ _ (by assumption)))
  (first | (go_at_call 134; with_reducible refine (HOW.out _ (by assumption)).mono ?_; rintro e W1 ⟨rfl, hg⟩))
 have HVW1 := Lib.hid hg
 clear x0 x1 x2 x3 x4 x5 x6 x7 x8 x9 hbr hbd HSW HOW hg
 obtain ⟨x0, x1, x2, x3, x4, x5, x6, x7, x8, x9⟩ := HSS.out _ W1 HVW1.out
 go_wp2_with fail
 refine (HAD.out _ [32] W1 HVW1.out (by have := HLN.out; (try simp only [List.length_append, List.length_cons, List.length_nil]); omega)).mono ?_
 rintro e W2 ⟨rfl, hg⟩
 have HVW2 := Lib.hid hg
 clear x0 x1 x2 x3 x4 x5 x6 x7 x8 x9 hg
 obtain ⟨x0, x1, x2, x3, x4, x5, x6, x7, x8, x9⟩ := HSS.out _ W2 HVW2.out
 go_wp2_with fail
 have hbr := Below.refl W2.heap.size W2
 have hbd : Below W2.heap.size W2 W2.drew := (Below.refl W2.heap.size W2).drew
 have HSW2 : Hid (∀ v, Below W2.heap.size W2 v → v.cell? ⟨wb, 3, none⟩ = some (.func (.func 32) #[.pointer (some ⟨wb, 0, none⟩)] #[]) ∧ v.cell? ⟨q, 0, none⟩ = some (.int .i64 o.side) ∧ v.cell? ⟨q, 1, none⟩ = some (.int .i64 o.pri) ∧ v.cell? ⟨q, 2, none⟩ = some (.string ⟨o.name.toArray⟩) ∧ v.cell? ⟨q, 3, none⟩ = some (.bool o.left) ∧ v.cell? ⟨q, 4, none⟩ = some (.bool o.right) ∧ v.cell? ⟨b, off, none⟩ = some (.int .i64 y0.k) ∧ v.cell? ⟨b, off + 1, none⟩ = some (.int .i64 y0.n) ∧ v.cell? ⟨b, off + 2, none⟩ = some (.string ⟨y0.s.toArray⟩) ∧ v.cell? ⟨b, off + 3, none⟩ = some (.slice y0.A y0.len y0.cap)) := Lib.hid fun v hv => HSS.out _ v (HVW2.out.later hv)
 have HTW2 : Hid (∀ v, Below W2.heap.size W2 v → Calls Tryz.prog 64 #[.pointer (some ⟨wb, 0, none⟩), .string ⟨o.name.toArray⟩] v fun e v' => e = .returned (.string ⟨T.toArray⟩) ∧ Below W2.heap.size W2 v') := Lib.hid fun v hv => HTX.out _ _ _ HVW2.out hv
 have HAW2 : Hid (∀ v, Below W2.heap.size W2 v → Calls Tryz.prog 32 #[.pointer (some ⟨wb, 0, none⟩), .string ⟨T.toArray⟩] v fun e v' => e = .returned (.tuple #[]) ∧ Hd W B wb bt way (((acc ++ operandF es way g (t.args.getD 0 noTm) o false) ++ [32]) ++ T) v') := Lib.hid fun v hv => HAD.out _ T v (HVW2.out.later hv) (by have := HLN.out; (try simp only [List.length_append, List.length_cons, List.length_nil]); omega)
 go_region_held3 (fun v => v.cell? ⟨wb, 3, none⟩ = some (.func (.func 32) #[.pointer (some ⟨wb, 0, none⟩)] #[]) ∧ v.cell? ⟨q, 0, none⟩ = some (.int .i64 o.side) ∧ v.cell? ⟨q, 1, none⟩ = some (.int .i64 o.pri) ∧ v.cell? ⟨q, 2, none⟩ = some (.string ⟨o.name.toArray⟩) ∧ v.cell? ⟨q, 3, none⟩ = some (.bool o.left) ∧ v.cell? ⟨q, 4, none⟩ = some (.bool o.right) ∧ v.cell? ⟨b, off, none⟩ = some (.int .i64 y0.k) ∧ v.cell? ⟨b, off + 1, none⟩ = some (.int .i64 y0.n) ∧ v.cell? ⟨b, off + 2, none⟩ = some (.string ⟨y0.s.toArray⟩) ∧ v.cell? ⟨b, off + 3, none⟩ = some (.slice y0.A y0.len y0.cap))
  (first | (with_reducible exact HSW2.out _ (by assumption)) | (with_reducible exact HSS.out _ _ (by assumption)))
  (first | (go_at_call 64; with_reducible refine (HTW2.out _ (by assumption)).mono ?_; rintro e v1 ⟨rfl, hb1⟩) | (go_at_call 32; with_reducible refine (HAW2.out _ (by assumption)).mono ?_; rintro e W3 ⟨rfl, hg⟩))
 have HVW3 := Lib.hid hg
 clear x0 x1 x2 x3 x4 x5 x6 x7 x8 x9 hbr hbd HSW2 HTW2 HAW2 hg
 go_wp2_with fail
 go_end0
 exact ⟨rfl, by rw [HEN.out]; simpa using HVW3.out.1, HFIN.out _ HVW3.out.2⟩
set_option maxHeartbeats 16000000 in
theorem operate_between {es : List (OpK × OpV)} {way : Int} {n : Nat} (hC : TermC es way n) (u : World) (B0 B wb bt bm : Nat) (acc : List UInt8) (x : TV) (t : Tm) (o : OpR) (hn : t.size ≤ n + 1) (hw : WfT t) (hx : TermAt u B0 x t) (hnm : o.name = t.s) (hsd : o.side = 2) (hl : t.args.length = 2) (hK : WrK u B0 B wb bt bm es way acc) (hlen : acc.length + 6000 * t.size ≤ 10000000001) :
    Calls Tryz.prog 111 #[.pointer (some ⟨wb, 0, none⟩), opV o, .slice x.A x.len x.cap] u fun e u' => e = .returned (.tuple #[]) ∧ WrAt u' B wb bt way (acc ++ operateF es way (wrT es way) o t.args) ∧ Fr (WrS u B wb) u u' := by
 obtain ⟨k1, k2, k3, k4, k5, -⟩ := hx.open
 obtain ⟨g, hg⟩ : ∃ g, g = wrT es way := ⟨_, rfl⟩
 have hgl : ∀ i, i < t.args.length → ∀ m, (g (t.args.getD i noTm) m).length ≤ 6000 * (t.args.getD i noTm).size := fun i hi m => by rw [hg]; exact wr_len es way _ _ m (Nat.le_refl _) (hw.arg hi)
 have hnl : o.name.length ≤ 1000 := by rw [hnm]; exact hw.name.1
 have htl := text_len way hnl
 rw [← hg]
 obtain ⟨T, hT⟩ : ∃ T, T = textF way o.name := ⟨_, rfl⟩
 rw [← hT] at htl
 obtain ⟨F, hF⟩ : ∃ F, F = acc ++ operateF es way g o t.args := ⟨_, rfl⟩
 rw [← hF]
 obtain ⟨W, hW⟩ : ∃ W, W = u.alloc (.cells #[.int .i64 o.side, .int .i64 o.pri, .string ⟨o.name.toArray⟩, .bool o.left, .bool o.right] 173) := ⟨_, rfl⟩
 have hbW : Below u.heap.size u W := by rw [hW]; exact (Below.refl _ _).alloc (Nat.le_refl _) _
 have ho0 : W.heap[u.heap.size]? = some (.cells #[.int .i64 o.side, .int .i64 o.pri, .string ⟨o.name.toArray⟩, .bool o.left, .bool o.right] 173 (0, 0)) := by rw [hW]; exact heap_alloc_new _ _
 have hKW := hK.later hbW
 have hxW : TermAt W B0 x t := hx.blw (hK.low (Fr.of_below _ hbW))
 obtain ⟨q, hq⟩ : ∃ q, q = u.heap.size := ⟨_, rfl⟩
 rw [← hq] at ho0
 have hne : q ≠ wb := hKW.ne ho0 (by decide)
 obtain ⟨b, off, y0, hA, hbB, hy0, m0, m1, m2, m3⟩ := arg_at hxW (i := 0) (by omega)
 simp only [Nat.zero_mul, Nat.add_zero] at m0 m1 m2 m3
 obtain ⟨b', off', y1, hA', -, hy1, r0, r1, r2, r3⟩ := arg_at hxW (i := 1) (by omega)
 obtain ⟨rfl, rfl⟩ := slice_two hA hA'
 clear hA'
 simp only [Nat.one_mul] at r0 r1 r2 r3
 have hxl : x.len = 2 := by omega
 rw [hA, hxl]
 have HSS : Hid (∀ a2 v, Hd W B wb bt way a2 v → v.cell? ⟨wb, 3, none⟩ = some (.func (.func 32) #[.pointer (some ⟨wb, 0, none⟩)] #[]) ∧ v.cell? ⟨q, 0, none⟩ = some (.int .i64 o.side) ∧ v.cell? ⟨q, 1, none⟩ = some (.int .i64 o.pri) ∧ v.cell? ⟨q, 2, none⟩ = some (.string ⟨o.name.toArray⟩) ∧ v.cell? ⟨q, 3, none⟩ = some (.bool o.left) ∧ v.cell? ⟨q, 4, none⟩ = some (.bool o.right) ∧ v.cell? ⟨b, off, none⟩ = some (.int .i64 y0.k) ∧ v.cell? ⟨b, off + 1, none⟩ = some (.int .i64 y0.n) ∧ v.cell? ⟨b, off + 2, none⟩ = some (.string ⟨y0.s.toArray⟩) ∧ v.cell? ⟨b, off + 3, none⟩ = some (.slice y0.A y0.len y0.cap) ∧ v.cell? ⟨b, off + 4, none⟩ = some (.int .i64 y1.k) ∧ v.cell? ⟨b, off + 4 + 1, none⟩ = some (.int .i64 y1.n) ∧ v.cell? ⟨b, off + 4 + 2, none⟩ = some (.string ⟨y1.s.toArray⟩) ∧ v.cell? ⟨b, off + 4 + 3, none⟩ = some (.slice y1.A y1.len y1.cap)) := Lib.hid fun a2 v hv => by
  have e1 := (hKW.next hv.1 hv.2).put3.1
  obtain ⟨g0, g1, g2, g3, g4, -⟩ := opc_at (WrS.keep hv.2 ho0 (by decide) hne)
  have hc : ∀ j, v.cell? ⟨b, j, none⟩ = W.cell? ⟨b, j, none⟩ := fun j => World.cell?_of_block (w := W) (a := ⟨b, j, none⟩) ((hKW.low hv.2).block b hbB)
  rw [hc, hc, hc, hc, hc, hc, hc, hc]
  exact ⟨e1, g0, g1, g2, g3, g4, m0, m1, m2, m3, r0, r1, r2, r3⟩
 have HTX : Hid (∀ a2 V v, Hd W B wb bt way a2 V → Below V.heap.size V v → Calls Tryz.prog 64 #[.pointer (some ⟨wb, 0, none⟩), .string ⟨o.name.toArray⟩] v fun e v' => e = .returned (.string ⟨T.toArray⟩) ∧ Below V.heap.size V v') := Lib.hid fun a2 V v hV hv => by
  have hk := hKW.next (hV.later hv).1 (hV.later hv).2
  refine (text_any v B wb bt way a2 o.name hk.at' hnl hk.env.bits).mono ?_
  rintro e v' ⟨rfl, hb'⟩
  exact ⟨by rw [hT], hv.trans (hb'.mono hv.size)⟩
 have HAD : Hid (∀ a2 Z v, Hd W B wb bt way a2 v → a2.length + Z.length ≤ 100000000000 → Calls Tryz.prog 32 #[.pointer (some ⟨wb, 0, none⟩), .string ⟨Z.toArray⟩] v fun e v' => e = .returned (.tuple #[]) ∧ Hd W B wb bt way (a2 ++ Z) v') := Lib.hid fun a2 Z v hv hz => by
  have hk := hKW.next hv.1 hv.2
  refine (wadd_any v B wb bt way a2 Z hk.at' hk.bu hz).mono ?_
  rintro e v' ⟨rfl, h1, h2⟩
  exact ⟨rfl, h1, WrS.trans hv.2 h2⟩
 have HOP0 : Hid (∀ a2 same v, Hd W B wb bt way a2 v → a2.length + 6000 * (t.args.getD 0 noTm).size + 2 ≤ 10000000000 → Calls Tryz.prog 134 #[.pointer (some ⟨wb, 0, none⟩), .agg #[.int .i64 y0.k, .int .i64 y0.n, .string ⟨y0.s.toArray⟩, .slice y0.A y0.len y0.cap], .agg #[.int .i64 o.side, .int .i64 o.pri, .string ⟨o.name.toArray⟩, .bool o.left, .bool o.right], .bool same] v fun e v' => e = .returned (.tuple #[]) ∧ Hd W B wb bt way (a2 ++ operandF es way g (t.args.getD 0 noTm) o same) v') := Lib.hid fun a2 same v hv hz => by
  have hk := hKW.next hv.1 hv.2
  rw [hg, ← tvV_lit]
  refine (operand_any hC v B0 B wb bt bm a2 y0 _ o same (by have := arg_size (t := t) (i := 0) (by omega); omega) (hw.arg (by omega)) (hy0.blw (hKW.low hv.2)) hk hz).mono ?_
  rintro e v' ⟨rfl, h1, h2⟩
  exact ⟨rfl, h1, WrS.trans hv.2 h2⟩
 have HOP1 : Hid (∀ a2 same v, Hd W B wb bt way a2 v → a2.length + 6000 * (t.args.getD 1 noTm).size + 2 ≤ 10000000000 → Calls Tryz.prog 134 #[.pointer (some ⟨wb, 0, none⟩), .agg #[.int .i64 y1.k, .int .i64 y1.n, .string ⟨y1.s.toArray⟩, .slice y1.A y1.len y1.cap], .agg #[.int .i64 o.side, .int .i64 o.pri, .string ⟨o.name.toArray⟩, .bool o.left, .bool o.right], .bool same] v fun e v' => e = .returned (.tuple #[]) ∧ Hd W B wb bt way (a2 ++ operandF es way g (t.args.getD 1 noTm) o same) v') := Lib.hid fun a2 same v hv hz => by
  have hk := hKW.next hv.1 hv.2
  rw [hg, ← tvV_lit]
  refine (operand_any hC v B0 B wb bt bm a2 y1 _ o same (by have := arg_size (t := t) (i := 1) (by omega); omega) (hw.arg (by omega)) (hy1.blw (hKW.low hv.2)) hk hz).mono ?_
  rintro e v' ⟨rfl, h1, h2⟩
  exact ⟨rfl, h1, WrS.trans hv.2 h2⟩
 have HVW : Hid (Hd W B wb bt way acc W) := Lib.hid ⟨hKW.at', Fr.refl _ _⟩
 have HFIN : Hid (∀ v, Fr (WrS W B wb) W v → Fr (WrS u B wb) u v) := Lib.hid fun v hv => WrS.trans (Fr.of_below _ hbW) hv
 have HLN : Hid (acc.length + 5002 + (operandF es way g (t.args.getD 0 noTm) o o.left).length + 6000 * (t.args.getD 1 noTm).size + 900 ≤ 10000000000 ∧ acc.length + 6000 * (t.args.getD 0 noTm).size + 900 ≤ 10000000000 ∧ T.length ≤ 5002) := Lib.hid (by
  have h1 := two_sizes hl
  have h2 := operand_len (es := es) (way := way) (t.args.getD 0 noTm) (hgl 0 (by omega)) o o.left
  omega)
 have HEN1 : Hid (o.name = [44] → F = acc ++ operandF es way g (t.args.getD 0 noTm) o o.left ++ [44] ++ operandF es way g (t.args.getD 1 noTm) o o.right) := Lib.hid fun h => by
  rw [hF]; unfold operateF; rw [if_neg (by omega), if_neg (by omega), if_pos h]; simp
 have HEN2 : Hid (¬ o.name = [44] → F = acc ++ operandF es way g (t.args.getD 0 noTm) o o.left ++ [32] ++ T ++ [32] ++ operandF es way g (t.args.getD 1 noTm) o o.right) := Lib.hid fun h => by
  rw [hF]; unfold operateF; rw [if_neg (by omega), if_neg (by omega), if_neg h, hT]; simp
 have s1 : (o.side == 1) = false := by rw [hsd]; rfl
 have s3 : (o.side == 3) = false := by rw [hsd]; rfl
 clear hC hn hw hx hnm hsd hl hK hlen k1 k2 k3 k4 k5 hg hgl hnl htl hT hF hbW ho0 hKW hxW hne hA hbB hy0 hy1 r0 r1 r2 r3 m0 m1 m2 m3 hxl
 unfold opV
 go_enter Tryz.func111, Tryz.ntmps111
 go_upto_region 1 with fail
 rw [← hW, ← hq]
 clear hW hq
 obtain ⟨x0, x1, x2, x3, x4, x5, x6, x7, x8, x9, x10, x11, x12, x13⟩ := HSS.out _ W HVW.out
 go_wp2_with fail
 have hbr := Below.refl W.heap.size W
 have hbd : Below W.heap.size W W.drew := (Below.refl W.heap.size W).drew
 have HSW : Hid (∀ v, Below W.heap.size W v → v.cell? ⟨wb, 3, none⟩ = some (.func (.func 32) #[.pointer (some ⟨wb, 0, none⟩)] #[]) ∧ v.cell? ⟨q, 0, none⟩ = some (.int .i64 o.side) ∧ v.cell? ⟨q, 1, none⟩ = some (.int .i64 o.pri) ∧ v.cell? ⟨q, 2, none⟩ = some (.string ⟨o.name.toArray⟩) ∧ v.cell? ⟨q, 3, none⟩ = some (.bool o.left) ∧ v.cell? ⟨q, 4, none⟩ = some (.bool o.right) ∧ v.cell? ⟨b, off, none⟩ = some (.int .i64 y0.k) ∧ v.cell? ⟨b, off + 1, none⟩ = some (.int .i64 y0.n) ∧ v.cell? ⟨b, off + 2, none⟩ = some (.string ⟨y0.s.toArray⟩) ∧ v.cell? ⟨b, off + 3, none⟩ = some (.slice y0.A y0.len y0.cap) ∧ v.cell? ⟨b, off + 4, none⟩ = some (.int .i64 y1.k) ∧ v.cell? ⟨b, off + 4 + 1, none⟩ = some (.int .i64 y1.n) ∧ v.cell? ⟨b, off + 4 + 2, none⟩ = some (.string ⟨y1.s.toArray⟩) ∧ v.cell? ⟨b, off + 4 + 3, none⟩ = some (.slice y1.A y1.len y1.cap)) := Lib.hid fun v hv => HSS.out _ v (HVW.out.later hv)
 have HOW : Hid (∀ v, Below W.heap.size W v → Calls Tryz.prog 134 #[.pointer (some ⟨wb, 0, none⟩), .agg #[.int .i64 y0.k, .int .i64 y0.n, .string ⟨y0.s.toArray⟩, .slice y0.A y0.len y0.cap], .agg #[.int .i64 o.side, .int .i64 o.pri, .string ⟨o.name.toArray⟩, .bool o.left, .bool o.right], .bool o.left] v fun e v' => e = .returned (.tuple #[]) ∧ Hd W B wb bt way (acc ++ operandF es way g (t.args.getD 0 noTm) o o.left) v') := Lib.hid fun v hv => HOP0.out _ o.left v (HVW.out.later hv) (by have := HLN.out; (try simp only [List.length_append, List.length_cons, List.length_nil]); omega)
 go_region_held3 (fun v => v.cell? ⟨wb, 3, none⟩ = some (.func (.func 32) #[.pointer (some ⟨wb, 0, none⟩)] #[]) ∧ v.cell? ⟨q, 0, none⟩ = some (.int .i64 o.side) ∧ v.cell? ⟨q, 1, none⟩ = some (.int .i64 o.pri) ∧ v.cell? ⟨q, 2, none⟩ = some (.string ⟨o.name.toArray⟩) ∧ v.cell? ⟨q, 3, none⟩ = some (.bool o.left) ∧ v.cell? ⟨q, 4, none⟩ = some (.bool o.right) ∧ v.cell? ⟨b, off, none⟩ = some (.int .i64 y0.k) ∧ v.cell? ⟨b, off + 1, none⟩ = some (.int .i64 y0.n) ∧ v.cell? ⟨b, off + 2, none⟩ = some (.string ⟨y0.s.toArray⟩) ∧ v.cell? ⟨b, off + 3, none⟩ = some (.slice y0.A y0.len y0.cap) ∧ v.cell? ⟨b, off + 4, none⟩ = some (.int .i64 y1.k) ∧ v.cell? ⟨b, off + 4 + 1, none⟩ = some (.int .i64 y1.n) ∧ v.cell? ⟨b, off + 4 + 2, none⟩ = some (.string ⟨y1.s.toArray⟩) ∧ v.cell? ⟨b, off + 4 + 3, none⟩ = some (.slice y1.A y1.len y1.cap))
  (first | (with_reducible exact HSW.out _ (by assumption)) | (with_reducible exact HSS.out _ _ (by assumption)))
  (first | (go_at_call 134; with_reducible refine (HOW.out _ (by assumption)).mono ?_; rintro e W1 ⟨rfl, hg⟩))
 have HVW1 := Lib.hid hg
 clear x0 x1 x2 x3 x4 x5 x6 x7 x8 x9 x10 x11 x12 x13 hbr hbd HSW HOW hg
 obtain ⟨x0, x1, x2, x3, x4, x5, x6, x7, x8, x9, x10, x11, x12, x13⟩ := HSS.out _ W1 HVW1.out
 by_cases hcm : o.name = [44]
 ·have b1 : (o.name == [44]) = true := by rw [hcm]; rfl
  have HCM := Lib.hid hcm
  clear hcm
  go_wp2_with fail
  refine (HAD.out _ [44] W1 HVW1.out (by have := HLN.out; (try simp only [List.length_append, List.length_cons, List.length_nil]); omega)).mono ?_
  rintro e W2 ⟨rfl, hg⟩
  have HVW2 := Lib.hid hg
  clear x0 x1 x2 x3 x4 x5 x6 x7 x8 x9 x10 x11 x12 x13 hg
  obtain ⟨x0, x1, x2, x3, x4, x5, x6, x7, x8, x9, x10, x11, x12, x13⟩ := HSS.out _ W2 HVW2.out
  go_wp2_with fail
  have hbr := Below.refl W2.heap.size W2
  have hbd : Below W2.heap.size W2 W2.drew := (Below.refl W2.heap.size W2).drew
  have HSW2 : Hid (∀ v, Below W2.heap.size W2 v → v.cell? ⟨wb, 3, none⟩ = some (.func (.func 32) #[.pointer (some ⟨wb, 0, none⟩)] #[]) ∧ v.cell? ⟨q, 0, none⟩ = some (.int .i64 o.side) ∧ v.cell? ⟨q, 1, none⟩ = some (.int .i64 o.pri) ∧ v.cell? ⟨q, 2, none⟩ = some (.string ⟨o.name.toArray⟩) ∧ v.cell? ⟨q, 3, none⟩ = some (.bool o.left) ∧ v.cell? ⟨q, 4, none⟩ = some (.bool o.right) ∧ v.cell? ⟨b, off, none⟩ = some (.int .i64 y0.k) ∧ v.cell? ⟨b, off + 1, none⟩ = some (.int .i64 y0.n) ∧ v.cell? ⟨b, off + 2, none⟩ = some (.string ⟨y0.s.toArray⟩) ∧ v.cell? ⟨b, off + 3, none⟩ = some (.slice y0.A y0.len y0.cap) ∧ v.cell? ⟨b, off + 4, none⟩ = some (.int .i64 y1.k) ∧ v.cell? ⟨b, off + 4 + 1, none⟩ = some (.int .i64 y1.n) ∧ v.cell? ⟨b, off + 4 + 2, none⟩ = some (.string ⟨y1.s.toArray⟩) ∧ v.cell? ⟨b, off + 4 + 3, none⟩ = some (.slice y1.A y1.len y1.cap)) := Lib.hid fun v hv => HSS.out _ v (HVW2.out.later hv)
  have HOW2 : Hid (∀ v, Below W2.heap.size W2 v → Calls Tryz.prog 134 #[.pointer (some ⟨wb, 0, none⟩), .agg #[.int .i64 y1.k, .int .i64 y1.n, .string ⟨y1.s.toArray⟩, .slice y1.A y1.len y1.cap], .agg #[.int .i64 o.side, .int .i64 o.pri, .string ⟨o.name.toArray⟩, .bool o.left, .bool o.right], .bool o.right] v fun e v' => e = .returned (.tuple #[]) ∧ Hd W B wb bt way (((acc ++ operandF es way g (t.args.getD 0 noTm) o o.left) ++ [44]) ++ operandF es way g (t.args.getD 1 noTm) o o.right) v') := Lib.hid fun v hv => HOP1.out _ o.right v (HVW2.out.later hv) (by have := HLN.out; (try simp only [List.length_append, List.length_cons, List.length_nil]); omega)
  go_region_held3 (fun v => v.cell? ⟨wb, 3, none⟩ = some (.func (.func 32) #[.pointer (some ⟨wb, 0, none⟩)] #[]) ∧ v.cell? ⟨q, 0, none⟩ = some (.int .i64 o.side) ∧ v.cell? ⟨q, 1, none⟩ = some (.int .i64 o.pri) ∧ v.cell? ⟨q, 2, none⟩ = some (.string ⟨o.name.toArray⟩) ∧ v.cell? ⟨q, 3, none⟩ = some (.bool o.left) ∧ v.cell? ⟨q, 4, none⟩ = some (.bool o.right) ∧ v.cell? ⟨b, off, none⟩ = some (.int .i64 y0.k) ∧ v.cell? ⟨b, off + 1, none⟩ = some (.int .i64 y0.n) ∧ v.cell? ⟨b, off + 2, none⟩ = some (.string ⟨y0.s.toArray⟩) ∧ v.cell? ⟨b, off + 3, none⟩ = some (.slice y0.A y0.len y0.cap) ∧ v.cell? ⟨b, off + 4, none⟩ = some (.int .i64 y1.k) ∧ v.cell? ⟨b, off + 4 + 1, none⟩ = some (.int .i64 y1.n) ∧ v.cell? ⟨b, off + 4 + 2, none⟩ = some (.string ⟨y1.s.toArray⟩) ∧ v.cell? ⟨b, off + 4 + 3, none⟩ = some (.slice y1.A y1.len y1.cap))
   (first | (with_reducible exact HSW2.out _ (by assumption)) | (with_reducible exact HSS.out _ _ (by assumption)))
   (first | (go_at_call 134; with_reducible refine (HOW2.out _ (by assumption)).mono ?_; rintro e W3 ⟨rfl, hg⟩))
  have HVW3 := Lib.hid hg
  clear x0 x1 x2 x3 x4 x5 x6 x7 x8 x9 x10 x11 x12 x13 hbr hbd HSW2 HOW2 hg
  go_wp2_with fail
  go_end0
  exact ⟨rfl, by rw [HEN1.out HCM.out]; simpa using HVW3.out.1, HFIN.out _ HVW3.out.2⟩
 ·have b1 : (o.name == [44]) = false := beq_eq_false_iff_ne.2 hcm
  have HCM := Lib.hid hcm
  clear hcm
  go_wp2_with fail
  refine (HAD.out _ [32] W1 HVW1.out (by have := HLN.out; (try simp only [List.length_append, List.length_cons, List.length_nil]); omega)).mono ?_
  rintro e W2 ⟨rfl, hg⟩
  have HVW2 := Lib.hid hg
  clear x0 x1 x2 x3 x4 x5 x6 x7 x8 x9 x10 x11 x12 x13 hg
  obtain ⟨x0, x1, x2, x3, x4, x5, x6, x7, x8, x9, x10, x11, x12, x13⟩ := HSS.out _ W2 HVW2.out
  go_wp2_with fail
  have hbr := Below.refl W2.heap.size W2
  have hbd : Below W2.heap.size W2 W2.drew := (Below.refl W2.heap.size W2).drew
  have HSW2 : Hid (∀ v, Below W2.heap.size W2 v → v.cell? ⟨wb, 3, none⟩ = some (.func (.func 32) #[.pointer (some ⟨wb, 0, none⟩)] #[]) ∧ v.cell? ⟨q, 0, none⟩ = some (.int .i64 o.side) ∧ v.cell? ⟨q, 1, none⟩ = some (.int .i64 o.pri) ∧ v.cell? ⟨q, 2, none⟩ = some (.string ⟨o.name.toArray⟩) ∧ v.cell? ⟨q, 3, none⟩ = some (.bool o.left) ∧ v.cell? ⟨q, 4, none⟩ = some (.bool o.right) ∧ v.cell? ⟨b, off, none⟩ = some (.int .i64 y0.k) ∧ v.cell? ⟨b, off + 1, none⟩ = some (.int .i64 y0.n) ∧ v.cell? ⟨b, off + 2, none⟩ = some (.string ⟨y0.s.toArray⟩) ∧ v.cell? ⟨b, off + 3, none⟩ = some (.slice y0.A y0.len y0.cap) ∧ v.cell? ⟨b, off + 4, none⟩ = some (.int .i64 y1.k) ∧ v.cell? ⟨b, off + 4 + 1, none⟩ = some (.int .i64 y1.n) ∧ v.cell? ⟨b, off + 4 + 2, none⟩ = some (.string ⟨y1.s.toArray⟩) ∧ v.cell? ⟨b, off + 4 + 3, none⟩ = some (.slice y1.A y1.len y1.cap)) := Lib.hid fun v hv => HSS.out _ v (HVW2.out.later hv)
  have HTW2 : Hid (∀ v, Below W2.heap.size W2 v → Calls Tryz.prog 64 #[.pointer (some ⟨wb, 0, none⟩), .string ⟨o.name.toArray⟩] v fun e v' => e = .returned (.string ⟨T.toArray⟩) ∧ Below W2.heap.size W2 v') := Lib.hid fun v hv => HTX.out _ _ _ HVW2.out hv
  have HAW2 : Hid (∀ v, Below W2.heap.size W2 v → Calls Tryz.prog 32 #[.pointer (some ⟨wb, 0, none⟩), .string ⟨T.toArray⟩] v fun e v' => e = .returned (.tuple #[]) ∧ Hd W B wb bt way (((acc ++ operandF es way g (t.args.getD 0 noTm) o o.left) ++ [32]) ++ T) v') := Lib.hid fun v hv => HAD.out _ T v (HVW2.out.later hv) (by have := HLN.out; (try simp only [List.length_append, List.length_cons, List.length_nil]); omega)
  go_region_held3 (fun v => v.cell? ⟨wb, 3, none⟩ = some (.func (.func 32) #[.pointer (some ⟨wb, 0, none⟩)] #[]) ∧ v.cell? ⟨q, 0, none⟩ = some (.int .i64 o.side) ∧ v.cell? ⟨q, 1, none⟩ = some (.int .i64 o.pri) ∧ v.cell? ⟨q, 2, none⟩ = some (.string ⟨o.name.toArray⟩) ∧ v.cell? ⟨q, 3, none⟩ = some (.bool o.left) ∧ v.cell? ⟨q, 4, none⟩ = some (.bool o.right) ∧ v.cell? ⟨b, off, none⟩ = some (.int .i64 y0.k) ∧ v.cell? ⟨b, off + 1, none⟩ = some (.int .i64 y0.n) ∧ v.cell? ⟨b, off + 2, none⟩ = some (.string ⟨y0.s.toArray⟩) ∧ v.cell? ⟨b, off + 3, none⟩ = some (.slice y0.A y0.len y0.cap) ∧ v.cell? ⟨b, off + 4, none⟩ = some (.int .i64 y1.k) ∧ v.cell? ⟨b, off + 4 + 1, none⟩ = some (.int .i64 y1.n) ∧ v.cell? ⟨b, off + 4 + 2, none⟩ = some (.string ⟨y1.s.toArray⟩) ∧ v.cell? ⟨b, off + 4 + 3, none⟩ = some (.slice y1.A y1.len y1.cap))
   (first | (with_reducible exact HSW2.out _ (by assumption)) | (with_reducible exact HSS.out _ _ (by assumption)))
   (first | (go_at_call 64; with_reducible refine (HTW2.out _ (by assumption)).mono ?_; rintro e v1 ⟨rfl, hb1⟩) | (go_at_call 32; with_reducible refine (HAW2.out _ (by assumption)).mono ?_; rintro e W3 ⟨rfl, hg⟩))
  have HVW3 := Lib.hid hg
  clear x0 x1 x2 x3 x4 x5 x6 x7 x8 x9 x10 x11 x12 x13 hbr hbd HSW2 HTW2 HAW2 hg
  obtain ⟨x0, x1, x2, x3, x4, x5, x6, x7, x8, x9, x10, x11, x12, x13⟩ := HSS.out _ W3 HVW3.out
  go_wp2_with fail
  refine (HAD.out _ [32] W3 HVW3.out (by have := HLN.out; (try simp only [List.length_append, List.length_cons, List.length_nil]); omega)).mono ?_
  rintro e W4 ⟨rfl, hg⟩
  have HVW4 := Lib.hid hg
  clear x0 x1 x2 x3 x4 x5 x6 x7 x8 x9 x10 x11 x12 x13 hg
  obtain ⟨x0, x1, x2, x3, x4, x5, x6, x7, x8, x9, x10, x11, x12, x13⟩ := HSS.out _ W4 HVW4.out
  go_wp2_with fail
  have hbr := Below.refl W4.heap.size W4
  have hbd : Below W4.heap.size W4 W4.drew := (Below.refl W4.heap.size W4).drew
  have HSW4 : Hid (∀ v, Below W4.heap.size W4 v → v.cell? ⟨wb, 3, none⟩ = some (.func (.func 32) #[.pointer (some ⟨wb, 0, none⟩)] #[]) ∧ v.cell? ⟨q, 0, none⟩ = some (.int .i64 o.side) ∧ v.cell? ⟨q, 1, none⟩ = some (.int .i64 o.pri) ∧ v.cell? ⟨q, 2, none⟩ = some (.string ⟨o.name.toArray⟩) ∧ v.cell? ⟨q, 3, none⟩ = some (.bool o.left) ∧ v.cell? ⟨q, 4, none⟩ = some (.bool o.right) ∧ v.cell? ⟨b, off, none⟩ = some (.int .i64 y0.k) ∧ v.cell? ⟨b, off + 1, none⟩ = some (.int .i64 y0.n) ∧ v.cell? ⟨b, off + 2, none⟩ = some (.string ⟨y0.s.toArray⟩) ∧ v.cell? ⟨b, off + 3, none⟩ = some (.slice y0.A y0.len y0.cap) ∧ v.cell? ⟨b, off + 4, none⟩ = some (.int .i64 y1.k) ∧ v.cell? ⟨b, off + 4 + 1, none⟩ = some (.int .i64 y1.n) ∧ v.cell? ⟨b, off + 4 + 2, none⟩ = some (.string ⟨y1.s.toArray⟩) ∧ v.cell? ⟨b, off + 4 + 3, none⟩ = some (.slice y1.A y1.len y1.cap)) := Lib.hid fun v hv => HSS.out _ v (HVW4.out.later hv)
  have HOW4 : Hid (∀ v, Below W4.heap.size W4 v → Calls Tryz.prog 134 #[.pointer (some ⟨wb, 0, none⟩), .agg #[.int .i64 y1.k, .int .i64 y1.n, .string ⟨y1.s.toArray⟩, .slice y1.A y1.len y1.cap], .agg #[.int .i64 o.side, .int .i64 o.pri, .string ⟨o.name.toArray⟩, .bool o.left, .bool o.right], .bool o.right] v fun e v' => e = .returned (.tuple #[]) ∧ Hd W B wb bt way (((((acc ++ operandF es way g (t.args.getD 0 noTm) o o.left) ++ [32]) ++ T) ++ [32]) ++ operandF es way g (t.args.getD 1 noTm) o o.right) v') := Lib.hid fun v hv => HOP1.out _ o.right v (HVW4.out.later hv) (by have := HLN.out; (try simp only [List.length_append, List.length_cons, List.length_nil]); omega)
  go_region_held3 (fun v => v.cell? ⟨wb, 3, none⟩ = some (.func (.func 32) #[.pointer (some ⟨wb, 0, none⟩)] #[]) ∧ v.cell? ⟨q, 0, none⟩ = some (.int .i64 o.side) ∧ v.cell? ⟨q, 1, none⟩ = some (.int .i64 o.pri) ∧ v.cell? ⟨q, 2, none⟩ = some (.string ⟨o.name.toArray⟩) ∧ v.cell? ⟨q, 3, none⟩ = some (.bool o.left) ∧ v.cell? ⟨q, 4, none⟩ = some (.bool o.right) ∧ v.cell? ⟨b, off, none⟩ = some (.int .i64 y0.k) ∧ v.cell? ⟨b, off + 1, none⟩ = some (.int .i64 y0.n) ∧ v.cell? ⟨b, off + 2, none⟩ = some (.string ⟨y0.s.toArray⟩) ∧ v.cell? ⟨b, off + 3, none⟩ = some (.slice y0.A y0.len y0.cap) ∧ v.cell? ⟨b, off + 4, none⟩ = some (.int .i64 y1.k) ∧ v.cell? ⟨b, off + 4 + 1, none⟩ = some (.int .i64 y1.n) ∧ v.cell? ⟨b, off + 4 + 2, none⟩ = some (.string ⟨y1.s.toArray⟩) ∧ v.cell? ⟨b, off + 4 + 3, none⟩ = some (.slice y1.A y1.len y1.cap))
   (first | (with_reducible exact HSW4.out _ (by assumption)) | (with_reducible exact HSS.out _ _ (by assumption)))
   (first | (go_at_call 134; with_reducible refine (HOW4.out _ (by assumption)).mono ?_; rintro e W5 ⟨rfl, hg⟩))
  have HVW5 := Lib.hid hg
  clear x0 x1 x2 x3 x4 x5 x6 x7 x8 x9 x10 x11 x12 x13 hbr hbd HSW4 HOW4 hg
  go_wp2_with fail
  go_end0
  exact ⟨rfl, by rw [HEN2.out HCM.out]; simpa using HVW5.out.1, HFIN.out _ HVW5.out.2⟩
end Go.Proofs.YtcallkljcjimiaaGreatDoor
