import Derived.Test.YtcallkljcjimiaaGreatDoorJW46
import Derived.Deep.Slices
import Derived.Lib.SmallJoins
namespace Go.Proofs.YtcallkljcjimiaaGreatDoor
open Go.RowKit Go.Maps
theorem back_put (w : World) (hE : RdEnv w) (es es2 : List (OpK × OpV)) (way : Int) (hway : way ≠ 0) (bt bm : Nat) (hTab : TabAt w bt bm es2) (hO : TabOk (opsOf es2)) (hes : way ≠ 2 → es2 = es) (x : TV) (t : Tm) (hx : TermAt w w.heap.size x t) (hw : WfT t) (hd : t.deep ≤ 2000) (hsz : t.size ≤ 20000) (hwg : t.wgt ≤ 16000) :
    Calls Tryz.prog 26 #[.string ⟨(wrT es way t 1200).toArray⟩, .pointer (some ⟨bt, 0, none⟩), tvV x] w fun e w' => e = .returned (.bool true) ∧ Below w.heap.size w w' := by
 have hl := wr_wgt es way t.size t 1200 (Nat.le_refl _) hw
 have hl2 : (wrF es way t.size t 1200).length + 3 ≤ t.wgt := hl
 have hlex := lex_written (es := es) hway t 1200 hw
 have hrd := read_written (es := es) (way := way) hO (fun h => by rw [hes h]) t hw hd hsz
 have hk : TokOk (tkL true (lxF es way t.size t 1200 ++ [stopL]) ++ [endTok 1]) := by
  have h := lx_ok es way hway t.size t 1200 (Nat.le_refl _) hw
  have hs : flat [stopL] = [32, 46] := rfl
  have hok := h.ok [stopL] ⟨32, [46], rfl, soft_of (.inl rfl)⟩ ⟨stop_good, trivial⟩
  refine lx_tokOk hok ?_
  rw [flat_app, h.flat, hs, List.length_append]
  simp only [List.length_cons, List.length_nil]
  omega
 refine wback_any w hE _ (by omega) bt bm es2 hTab x t hx hw.may hw.fits hsz _ 0 hlex hk (varsOf 0 (nrT [] t).2) 1 ?_
 rw [hrd]
 congr 2
 rw [List.length_append, tkL_len, List.length_append]
 simp only [List.length_cons, List.length_nil]
 omega
set_option maxRecDepth 100000
def tabMade (l : List DefT) : List (OpK × OpV) := l.foldl (fun es d => opTab es d.1 d.2.1 d.2.2) opsInit
theorem tabMade_snoc (l : List DefT) (i : Nat) (h : i < l.length) : tabMade (l.take (i + 1)) = opTab (tabMade (l.take i)) l[i].1 l[i].2.1 l[i].2.2 := by
 unfold tabMade
 rw [List.take_succ_eq_append_getElem h, List.foldl_append]
 rfl
set_option maxHeartbeats 1000000 in
theorem made_any (w : World) (A : Option Addr) (n c : Nat) (l : List DefT) (hl : DefsAt w w.heap.size A n l) (hn : n ≤ 1000000) (hK : KindsAt w) (htab : Lib.TabIs Tryz.prog w "strings.asciiSpace" .u8 Lib.asciiSpaceTab) :
    Calls Tryz.prog 18 #[.slice A n c] w fun e w' => ∃ bt bm, e = .returned (.pointer (some ⟨bt, 0, none⟩)) ∧ MadeInv w bt bm (tabMade l) w' := by
 have HL := Lib.hid hl
 have hk0 := hK.lt
 have HK := Lib.hid hK
 have HTAB := Lib.hid htab
 clear hl hK htab
 go_enter Tryz.func18, Tryz.ntmps18
 go_wp2_with fail
 refine (new_any w HK.out HTAB.out).mono ?_
 rintro e w1 ⟨bt, bm, rfl, hT, hbt, hbm, hne, hb1⟩
 have hI : MadeInv w bt bm opsInit w1 := ⟨hT, HK.out.below hb1 hk0, hk0, hbt, hbm, hne, hb1⟩
 have HI := Lib.hid hI
 clear hI hT
 go_wp2_with fail
 go_loopw [9] (fun i wr => ∃ k : Nat, k ≤ n ∧ i = .int .i64 k ∧ MadeInv w bt bm (tabMade (l.take k)) wr) (fun i _ => n - (intOf i).toNat)
 case atStart => exact ⟨0, Nat.zero_le _, rfl, by simpa only [tabMade, List.take_zero, List.foldl_nil] using HI.out⟩
 case round =>
  obtain ⟨k, hk, rfl, hR⟩ := hrel
  by_cases hlt : k < n
  ·have hkl : k < l.length := by rw [HL.out.1]; exact hlt
   obtain ⟨b, off, hA, hb, c0, c1, c2, hm⟩ := HL.out.2 k l[k] (List.getElem?_eq_getElem hkl)
   rw [← hR.below.cell (p := ⟨b, off + k * 3, none⟩) hb] at c0
   rw [← hR.below.cell (p := ⟨b, off + k * 3 + 1, none⟩) hb] at c1
   rw [← hR.below.cell (p := ⟨b, off + k * 3 + 2, none⟩) hb] at c2
   have hlt' : (k : Int) < (n : Int) := by omega
   have HR := Lib.hid hR
   clear hR HI
   subst hA
   go_wp2_with fail
   have hba : Below wr.heap.size wr (wr.alloc (.cells #[.int .i64 l[k].1, .int .i64 l[k].2.1, .string ⟨l[k].2.2.toArray⟩] 95)) := (Below.refl _ _).alloc (Nat.le_refl _) _
   refine (op_any _ bt bm _ (HR.out.tab.later hba) (HR.out.kinds.later hba) hne l[k].1 l[k].2.1 l[k].2.2 (Nat.le_trans hm (by unfold maxLen; omega))).mono ?_
   rintro e w2 ⟨rfl, hT2, hF2⟩
   have hfin : MadeInv w bt bm (tabMade (l.take (k + 1))) w2 := by
    rw [tabMade_snoc l k hkl]
    exact HR.out.fr ((Fr.of_below _ hba).trans hF2) hT2
   have HF := Lib.hid hfin
   clear hfin hT2
   go_wp2
   go_roundw
   case rel => exact ⟨k + 1, hlt, by go_num, HF.out⟩
   case measure => simp [intOf]; omega
  ·have hkn : k = n := by omega
   subst hkn
   have e1 : l.take k = l := List.take_of_length_le (by rw [HL.out.1]; exact Nat.le_refl _)
   rw [e1] at hR
   have HR := Lib.hid hR
   clear hR HI e1
   go_wp2
   go_ret
   exact ⟨bt, bm, rfl, HR.out⟩
def NoBoth (es : List (OpK × OpV)) : Prop := ∀ n, mget es (2, n) = none ∨ mget es (3, n) = none
theorem init_noBoth : NoBoth opsInit := by
 have h : ∀ x ∈ opsInit, x.1.1 ≠ 3 := by decide +kernel
 intro n
 exact .inr (mget_none fun x hx e => h x hx (by rw [e]))
theorem opTab_noBoth (es : List (OpK × OpV)) (p t : Int) (n : List UInt8) (h : NoBoth es) : NoBoth (opTab es p t n) := by
 unfold opTab
 by_cases h0 : opErr es p t n = 0
 ·rw [if_neg (by simp [h0])]
  by_cases hp : p = 0
  ·rw [if_pos hp]
   intro m
   by_cases e2 : ((2, m) : OpK) = (kSort t, n)
   ·exact .inl (by rw [e2]; exact mget_mdel_same _ _)
   ·rw [mget_mdel_other _ _ _ e2]
    by_cases e3 : ((3, m) : OpK) = (kSort t, n)
    ·exact .inr (by rw [e3]; exact mget_mdel_same _ _)
    ·rw [mget_mdel_other _ _ _ e3]
     exact h m
  ·rw [if_neg hp]
   have hq : (kSort t = 2 → mget es (3, n) = none) ∧ (kSort t = 3 → mget es (2, n) = none) := by
    unfold opErr at h0
    split at h0
    ·cases h0
    split at h0
    ·cases h0
    split at h0
    ·cases h0
    ·rename_i h4
     simp only [not_or, not_and] at h4
     exact ⟨fun e => by simpa using h4.1 e, fun e => by simpa using h4.2 e⟩
   intro m
   by_cases e2 : ((2, m) : OpK) = (kSort t, n)
   ·have e : kSort t = 2 ∧ n = m := by simp only [Prod.mk.injEq] at e2; exact ⟨e2.1.symm, e2.2.symm⟩
    right
    rw [mget_mput_other _ _ _ _ (by rw [← e2]; simp), ← e.2]
    exact hq.1 e.1
   ·rw [mget_mput_other _ _ _ _ e2]
    by_cases e3 : ((3, m) : OpK) = (kSort t, n)
    ·have e : kSort t = 3 ∧ n = m := by simp only [Prod.mk.injEq] at e3; exact ⟨e3.1.symm, e3.2.symm⟩
     left
     rw [← e.2]
     exact hq.2 e.1
    ·rw [mget_mput_other _ _ _ _ e3]
     exact h m
 ·rw [if_pos h0]
  exact h
theorem tabMade_noBoth (l : List DefT) : NoBoth (tabMade l) := by
 unfold tabMade
 have : ∀ (l : List DefT) (es : List (OpK × OpV)), NoBoth es → NoBoth (l.foldl (fun es d => opTab es d.1 d.2.1 d.2.2) es) := by
  intro l
  induction l with
  | nil => exact fun es h => h
  | cons d r ih => exact fun es h => ih _ (opTab_noBoth es d.1 d.2.1 d.2.2 h)
 exact this l _ init_noBoth
inductive SidesIs (es : List (OpK × OpV)) (s : Int) (n : List UInt8) : Prop where
 | none (h : mget es (s, n) = none) (e : tsides es s n = (0, 0, 0)) : SidesIs es s n
 | some (p l r : Int) (h : (mget es (s, n)).isSome = true) (e : tsides es s n = (p, p - l, p - r)) (hp : 1 ≤ p ∧ p ≤ 1200) (hl : l = 0 ∨ l = 1) (hr : r = 0 ∨ r = 1) : SidesIs es s n
theorem sides_is {es : List (OpK × OpV)} (hg : ∀ x ∈ es, goodOp x) (s : Int) (n : List UInt8) : SidesIs es s n := by
 cases h : mget es (s, n) with
 | none => exact .none h (by unfold tsides; rw [h])
 | some v =>
  obtain ⟨p, t⟩ := v
  obtain ⟨_, _, g3, g4, _, _⟩ := hg _ (mget_mem h)
  have h1 := kLeft_bd t
  have h2 := kRight_bd t
  exact .some p (kLeft t) (kRight t) (by rw [h]; rfl) (by unfold tsides; rw [h]) ⟨g3, g4⟩ (by omega) (by omega)
theorem sides_form {es : List (OpK × OpV)} (hg : ∀ x ∈ es, goodOp x) (s : Int) (n : List UInt8) :
    ∃ p l r : Int, tsides es s n = (p, l, r) ∧ (0 ≤ p ∧ p ≤ 1200) ∧ (l = p ∨ l = p - 1) ∧ (r = p ∨ r = p - 1) ∧ (mget es (s, n) = none → p = 0 ∧ l = 0 ∧ r = 0) ∧ (p = 0 → l = 0 ∧ r = 0) := by
 rcases sides_is hg s n with ⟨h, e⟩ | ⟨p, l, r, h, e, hp, hl, hr⟩
 ·exact ⟨0, 0, 0, e, by omega, .inl rfl, .inl rfl, fun _ => ⟨rfl, rfl, rfl⟩, fun _ => ⟨rfl, rfl⟩⟩
 ·exact ⟨p, p - l, p - r, e, by omega, by omega, by omega, (fun h0 => by rw [h0] at h; cases h), (fun h0 => by omega)⟩
theorem kinds_not (t : Int) (h : kSort t = 2) : kLeft t = 1 ∨ kRight t = 1 := by
 unfold kSort at h
 unfold kLeft kRight
 by_cases h1 : t ≤ 0
 ·rw [if_pos h1] at h; omega
 ·rw [if_neg h1] at h
  by_cases h3 : t ≤ 3
  ·have : t = 1 ∨ t = 2 ∨ t = 3 := by omega
   rcases this with rfl | rfl | rfl <;> decide
  ·rw [if_neg h3] at h
   split at h <;> omega
theorem opTab_keep (es : List (OpK × OpV)) (p t : Int) (n : List UInt8) (s : Int) (m : List UInt8) (hm : m = [44] ∨ m = [91, 93] ∨ m = [123, 125]) : mget (opTab es p t n) (s, m) = mget es (s, m) := by
 unfold opTab
 by_cases h0 : opErr es p t n = 0
 ·rw [if_neg (by simp [h0])]
  have hne : n ≠ m := fun e => by
   subst e
   unfold opErr at h0
   split at h0
   ·cases h0
   ·rw [if_pos (by rcases hm with h | h | h <;> simp [h])] at h0
    cases h0
  have hk : ((s, m) : OpK) ≠ (kSort t, n) := fun e => hne (congrArg Prod.snd e).symm
  split
  ·exact mget_mdel_other _ _ _ hk
  ·exact mget_mput_other _ _ _ _ hk
 ·rw [if_pos h0]
theorem tabMade_keep (l : List DefT) (s : Int) (m : List UInt8) (hm : m = [44] ∨ m = [91, 93] ∨ m = [123, 125]) : mget (tabMade l) (s, m) = mget opsInit (s, m) := by
 unfold tabMade
 have : ∀ (l : List DefT) (es : List (OpK × OpV)), mget (l.foldl (fun es d => opTab es d.1 d.2.1 d.2.2) es) (s, m) = mget es (s, m) := by
  intro l
  induction l with
  | nil => exact fun es => rfl
  | cons d r ih => exact fun es => (ih _).trans (opTab_keep es d.1 d.2.1 d.2.2 s m hm)
 exact this l _
theorem tabOk_made (l : List DefT) (hg : ∀ x ∈ tabMade l, goodOp x) : TabOk (opsOf (tabMade l)) := by
 have hts : ∀ s m, (m = [44] ∨ m = [91, 93] ∨ m = [123, 125]) → tsides (tabMade l) s m = tsides opsInit s m := fun s m hm => by
  unfold tsides
  rw [tabMade_keep l s m hm]
 refine ⟨fun n => ?_, fun n => ?_, fun n => ?_, fun n => ?_, ?_, fun n hn => ?_⟩
 ·obtain ⟨p, l1, r, h, h1, h2, h3, h4, h5⟩ := sides_form hg 1 n
  show (tsides (tabMade l) 1 n).1 = 0 ∨ _
  simp only [opsOf, h]
  omega
 ·obtain ⟨p, l1, r, h, h1, h2, h3, h4, h5⟩ := sides_form hg 2 n
  simp only [opsOf, h]
  by_cases hp : p = 0
  ·exact .inl hp
  right
  refine ⟨by omega, by omega, by omega, by omega, by omega, by omega, fun e1 e2 => ?_⟩
  cases hv : mget (tabMade l) (2, n) with
  | none => exact hp (h4 hv).1
  | some v =>
   obtain ⟨q, t⟩ := v
   have g := hg _ (mget_mem hv)
   have hk : kSort t = 2 := g.1.symm
   unfold tsides at h
   rw [hv] at h
   simp only [Prod.mk.injEq] at h
   rcases kinds_not t hk with e | e <;> omega
 ·obtain ⟨p, l1, r, h, h1, h2, h3, h4, h5⟩ := sides_form hg 3 n
  simp only [opsOf, h]
  omega
 ·rcases tabMade_noBoth l n with h | h
  ·left
   simp only [opsOf, tsides, h]
  ·right
   simp only [opsOf, tsides, h]
 ·simp only [opsOf]
  rw [hts 2 [44] (.inl rfl), hts 3 [44] (.inl rfl), hts 1 [44] (.inl rfl)]
  decide +kernel
 ·have hm : n = [44] ∨ n = [91, 93] ∨ n = [123, 125] := .inr hn
  simp only [opsOf]
  rw [hts 2 n hm, hts 3 n hm, hts 1 n hm]
  rcases hn with rfl | rfl <;> decide +kernel
theorem DefsAt.lat {w w' : World} {A : Option Addr} {n : Nat} {l : List DefT} (h : DefsAt w w.heap.size A n l) (hb : Below w.heap.size w w') : DefsAt w' w'.heap.size A n l := by
 obtain ⟨h1, h2⟩ := h.keep hb.block
 refine ⟨h1, fun i x hx => ?_⟩
 obtain ⟨b, off, e, k, r⟩ := h2 i x hx
 exact ⟨b, off, e, Nat.lt_of_lt_of_le k hb.size, r⟩
open Go.ChangeShapes Go.WideShapes Go.ChangeAt Go.RowKit Go.Deep
theorem defCells : Tryz.prog.cellsOf 95 = 3 := by kernel_rfl
theorem defFields : ∃ f g k : Field, Tryz.prog.underlying 95 = some (.struct #[f, g, k]) ∧ f.type = 3 ∧ g.type = 3 ∧ k.type = 9 ∧ f.offset = 0 ∧ g.offset = 1 ∧ k.offset = 2 := ⟨_, _, _, Tryz.underlying95, rfl, rfl, rfl, rfl, rfl, rfl⟩
theorem defs_of_trod {H : Type} {enc : TypeId × Value → H} {W : World} {base : Nat} {sp : Nat → Bool} {held : Bool} {n : Nat} {v : Value} {y : DataW H × List MemPlace} (h : DataW.trod enc Tryz.prog W base sp held n 36 [v] = some y) :
    ∃ (A : Option Addr) (k c : Nat) (l : List DefT), v = .slice A k c ∧ DefsAt W W.heap.size A k l ∧ k ≤ maxLen := by
 rcases open_slice Tryz.underlying36 h with ⟨h0, _⟩ | ⟨a, len, cap, m, n', D, Pl, hcs, _, hlc, hcm, hm, _, hel⟩
 ·obtain rfl : v = .slice none 0 0 := by simpa using h0
  exact ⟨none, 0, 0, [], rfl, ⟨rfl, fun i x h => by simp at h⟩, by simp [maxLen]⟩
 ·obtain rfl : v = .slice (some a) len cap := by simpa using hcs
  have hlm : len ≤ m := by rw [hm]; split <;> omega
  rw [defCells] at hel
  obtain ⟨f, g, q, hu, f1, g1, q1, f2, g2, q2⟩ := defFields
  have key : ∀ i, i < len → ∃ x : DefT, ∃ b off, (some a : Option Addr) = some ⟨b, off, none⟩ ∧ b < W.heap.size ∧ W.cell? ⟨b, off + i * 3, none⟩ = some (.int .i64 x.1) ∧ W.cell? ⟨b, off + i * 3 + 1, none⟩ = some (.int .i64 x.2.1) ∧
      W.cell? ⟨b, off + i * 3 + 2, none⟩ = some (.string ⟨x.2.2.toArray⟩) ∧ x.2.2.length ≤ maxLen := by
   intro i hi
   obtain ⟨ha, hb⟩ := rows_at (w := W) (base := base) (a := a) (k := 3) (len := len) (by omega) (fun j hj => by obtain ⟨cs, h1, _⟩ := hel j (by omega); exact ⟨cs, h1⟩) (by omega)
   obtain ⟨cs, h1, h2⟩ := hel i (by omega)
   obtain ⟨_, hl3, hc⟩ := World.cells?_some h1
   obtain ⟨xs, _, _, _, _, hxl, hf⟩ := DataW.trod_struct hu h2
   match cs, hl3 with
   | [c0, c1, c2], _ =>
    have e0 := hf 0 f rfl
    have e1 := hf 1 g rfl
    have e2 := hf 2 q rfl
    rw [f1, f2] at e0
    rw [g1, g2] at e1
    rw [q1, q2] at e2
    rw [show Tryz.prog.cellsOf 3 = 1 from intCells] at e0 e1
    rw [show Tryz.prog.cellsOf 9 = 1 from stringCells] at e2
    simp only [List.drop_zero, List.take_succ_cons, List.take_zero, List.drop_succ_cons] at e0 e1 e2
    have hlen : xs.length = 3 := hxl
    obtain ⟨y0, hy0⟩ : ∃ y0, xs[0]? = some y0 := ⟨_, List.getElem?_eq_getElem (by omega)⟩
    obtain ⟨y1, hy1⟩ : ∃ y1, xs[1]? = some y1 := ⟨_, List.getElem?_eq_getElem (by omega)⟩
    obtain ⟨y2, hy2⟩ : ∃ y2, xs[2]? = some y2 := ⟨_, List.getElem?_eq_getElem (by omega)⟩
    rw [hy0] at e0
    rw [hy1] at e1
    rw [hy2] at e2
    obtain ⟨p, hp, _, _⟩ := DataW.trod_int Tryz.underlying3 e0
    obtain ⟨t, ht, _, _⟩ := DataW.trod_int Tryz.underlying3 e1
    obtain ⟨s, hs, _, hsz⟩ := DataW.trod_string Tryz.underlying9 e2
    simp only [List.cons.injEq, and_true] at hp ht hs
    subst hp ht hs
    have a0 := hc 0 (by omega)
    have a1 := hc 1 (by omega)
    have a2 := hc 2 (by omega)
    rw [ha, add_lit', add_lit'] at a0 a1 a2
    refine ⟨(p, t, s.data.toList), a.block, a.off, by rw [← ha], hb, by simpa using a0, by simpa using a1, by simpa using a2, ?_⟩
    show s.data.toList.length ≤ maxLen
    rw [Array.length_toList]
    exact hsz
  obtain ⟨l, hl, hq⟩ := exists_list len key
  exact ⟨some a, len, cap, l, rfl, ⟨hl, hq⟩, by omega⟩
end Go.Proofs.YtcallkljcjimiaaGreatDoor
