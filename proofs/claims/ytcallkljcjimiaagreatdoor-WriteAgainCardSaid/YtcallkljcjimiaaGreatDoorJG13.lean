import Derived.Test.YtcallkljcjimiaaGreatDoorJG12
import Derived.Test.YtcallkljcjimiaaGreatDoorJW35
import Derived.Test.YtcallkljcjimiaaGreatDoorProg
import Derived.KernelRfl
import Derived.WalkKit
import Derived.WalkSmall
import Derived.Lib.Hide
import Derived.Laws.AppendOwn
import Derived.Laws.MakeOwn
import Derived.Deep.OwnRows
import Derived.Laws.AppendOwnNone
import Derived.Deep.AppendLies
import Derived.Deep.RegionLaw
import Derived.WalkSpells
import Derived.BigQuiet
import Derived.Deep.QuietTactic
import Derived.StillTailTactics
import Derived.IntWalk
import Derived.Maps.Keyed
import Derived.StringKeys
import Derived.Lib.ItoaMem
import Derived.Lib.ItoaNum
import Derived.Shelf.Small.Strs
import Derived.Shelf.Small.Wraps
import Derived.Shelf.LaysM
import Derived.Shelf.Strings.Fields
import Derived.Deep.RegionHeld3
import Derived.Laws.OwnMore
import Derived.Deep.Cut
import Derived.Deep.CutRange
import Derived.Deep.DeepCutAuto
import Derived.Deep.DrawnRows
import Derived.Defers
import Derived.Recover
import Derived.LoopTactic
import Derived.Laws.IdiomStrings
import Derived.Laws.BytesArg
import Derived.Laws.DeepStrings4
import Derived.Shelf.Strings.Search1
import Derived.Shelf.Strings.Search2
import Derived.Shelf.Strings.Search3
import Derived.Shelf.Strings.Count
import Derived.Shelf.Strings.Shaped
import Derived.Shelf.Strings.Prefix
import Derived.Deep.LoopGhost
import Derived.Lib.Index
import Derived.Laws.EntriesVeiled
import Derived.LoopN
import Derived.Shelf.Strconv.Itoa4
import Derived.Lib.AppendStr
import Derived.Test.YtcallkljcjimiaaGreatDoorRows
import Derived.ProofKit
import Derived.OpenShut
namespace Go.Proofs.YtcallkljcjimiaaGreatDoor
def NoBoth (es : List (OpK × OpV)) : Prop := ∀ n, mget es (2, n) = none ∨ mget es (3, n) = none
theorem init_noBoth : NoBoth opsInit := by
 have h : ∀ x ∈ opsInit, x.1.1 ≠ 3 := by decide +kernel
 intro n
 exact .inr (mget_none fun x hx e => h x hx (by rw [e]))
theorem opTab_noBoth (es : List (OpK × OpV)) (p t : Int) (n : List UInt8) (h : NoBoth es) : NoBoth (opTab es p t n) := by
 unfold opTab
 by_cases h0 : opErr es p t n = 0
 ·rw [if_neg (by simp [h0])]
  by_cases hp : p = 0
  ·rw [if_pos hp]
   intro m
   by_cases e2 : ((2, m) : OpK) = (kSort t, n)
   ·exact .inl (by rw [e2]; exact mget_mdel_same _ _)
   ·rw [mget_mdel_other _ _ _ e2]
    by_cases e3 : ((3, m) : OpK) = (kSort t, n)
    ·exact .inr (by rw [e3]; exact mget_mdel_same _ _)
    ·rw [mget_mdel_other _ _ _ e3]
     exact h m
  ·rw [if_neg hp]
   have hq : (kSort t = 2 → mget es (3, n) = none) ∧ (kSort t = 3 → mget es (2, n) = none) := by
    unfold opErr at h0
    split at h0
    ·cases h0
    split at h0
    ·cases h0
    split at h0
    ·cases h0
    ·rename_i h4
     simp only [not_or, not_and] at h4
     exact ⟨fun e => by simpa using h4.1 e, fun e => by simpa using h4.2 e⟩
   intro m
   by_cases e2 : ((2, m) : OpK) = (kSort t, n)
   ·have e : kSort t = 2 ∧ n = m := by simp only [Prod.mk.injEq] at e2; exact ⟨e2.1.symm, e2.2.symm⟩
    right
    rw [mget_mput_other _ _ _ _ (by rw [← e2]; simp), ← e.2]
    exact hq.1 e.1
   ·rw [mget_mput_other _ _ _ _ e2]
    by_cases e3 : ((3, m) : OpK) = (kSort t, n)
    ·have e : kSort t = 3 ∧ n = m := by simp only [Prod.mk.injEq] at e3; exact ⟨e3.1.symm, e3.2.symm⟩
     left
     rw [← e.2]
     exact hq.2 e.1
    ·rw [mget_mput_other _ _ _ _ e3]
     exact h m
 ·rw [if_pos h0]
  exact h
theorem tabMade_noBoth (l : List DefT) : NoBoth (tabMade l) := by
 unfold tabMade
 have : ∀ (l : List DefT) (es : List (OpK × OpV)), NoBoth es → NoBoth (l.foldl (fun es d => opTab es d.1 d.2.1 d.2.2) es) := by
  intro l
  induction l with
  | nil => exact fun es h => h
  | cons d r ih => exact fun es h => ih _ (opTab_noBoth es d.1 d.2.1 d.2.2 h)
 exact this l _ init_noBoth
inductive SidesIs (es : List (OpK × OpV)) (s : Int) (n : List UInt8) : Prop where
 | none (h : mget es (s, n) = none) (e : tsides es s n = (0, 0, 0)) : SidesIs es s n
 | some (p l r : Int) (h : (mget es (s, n)).isSome = true) (e : tsides es s n = (p, p - l, p - r)) (hp : 1 ≤ p ∧ p ≤ 1200) (hl : l = 0 ∨ l = 1) (hr : r = 0 ∨ r = 1) : SidesIs es s n
theorem sides_is {es : List (OpK × OpV)} (hg : ∀ x ∈ es, goodOp x) (s : Int) (n : List UInt8) : SidesIs es s n := by
 cases h : mget es (s, n) with
 | none => exact .none h (by unfold tsides; rw [h])
 | some v =>
  obtain ⟨p, t⟩ := v
  obtain ⟨_, _, g3, g4, _, _⟩ := hg _ (mget_mem h)
  have h1 := kLeft_bd t
  have h2 := kRight_bd t
  exact .some p (kLeft t) (kRight t) (by rw [h]; rfl) (by unfold tsides; rw [h]) ⟨g3, g4⟩ (by omega) (by omega)
theorem sides_form {es : List (OpK × OpV)} (hg : ∀ x ∈ es, goodOp x) (s : Int) (n : List UInt8) :
    ∃ p l r : Int, tsides es s n = (p, l, r) ∧ (0 ≤ p ∧ p ≤ 1200) ∧ (l = p ∨ l = p - 1) ∧ (r = p ∨ r = p - 1) ∧ (mget es (s, n) = none → p = 0 ∧ l = 0 ∧ r = 0) ∧ (p = 0 → l = 0 ∧ r = 0) := by
 rcases sides_is hg s n with ⟨h, e⟩ | ⟨p, l, r, h, e, hp, hl, hr⟩
 ·exact ⟨0, 0, 0, e, by omega, .inl rfl, .inl rfl, fun _ => ⟨rfl, rfl, rfl⟩, fun _ => ⟨rfl, rfl⟩⟩
 ·exact ⟨p, p - l, p - r, e, by omega, by omega, by omega, (fun h0 => by rw [h0] at h; cases h), (fun h0 => by omega)⟩
theorem kinds_not (t : Int) (h : kSort t = 2) : kLeft t = 1 ∨ kRight t = 1 := by
 unfold kSort at h
 unfold kLeft kRight
 by_cases h1 : t ≤ 0
 ·rw [if_pos h1] at h; omega
 ·rw [if_neg h1] at h
  by_cases h3 : t ≤ 3
  ·have : t = 1 ∨ t = 2 ∨ t = 3 := by omega
   rcases this with rfl | rfl | rfl <;> decide
  ·rw [if_neg h3] at h
   split at h <;> omega
theorem opTab_keep (es : List (OpK × OpV)) (p t : Int) (n : List UInt8) (s : Int) (m : List UInt8) (hm : m = [44] ∨ m = [91, 93] ∨ m = [123, 125]) : mget (opTab es p t n) (s, m) = mget es (s, m) := by
 unfold opTab
 by_cases h0 : opErr es p t n = 0
 ·rw [if_neg (by simp [h0])]
  have hne : n ≠ m := fun e => by
   subst e
   unfold opErr at h0
   split at h0
   ·cases h0
   ·rw [if_pos (by rcases hm with h | h | h <;> simp [h])] at h0
    cases h0
  have hk : ((s, m) : OpK) ≠ (kSort t, n) := fun e => hne (congrArg Prod.snd e).symm
  split
  ·exact mget_mdel_other _ _ _ hk
  ·exact mget_mput_other _ _ _ _ hk
 ·rw [if_pos h0]
theorem tabMade_keep (l : List DefT) (s : Int) (m : List UInt8) (hm : m = [44] ∨ m = [91, 93] ∨ m = [123, 125]) : mget (tabMade l) (s, m) = mget opsInit (s, m) := by
 unfold tabMade
 have : ∀ (l : List DefT) (es : List (OpK × OpV)), mget (l.foldl (fun es d => opTab es d.1 d.2.1 d.2.2) es) (s, m) = mget es (s, m) := by
  intro l
  induction l with
  | nil => exact fun es => rfl
  | cons d r ih => exact fun es => (ih _).trans (opTab_keep es d.1 d.2.1 d.2.2 s m hm)
 exact this l _
theorem tabOk_made (l : List DefT) (hg : ∀ x ∈ tabMade l, goodOp x) : TabOk (opsOf (tabMade l)) := by
 have hts : ∀ s m, (m = [44] ∨ m = [91, 93] ∨ m = [123, 125]) → tsides (tabMade l) s m = tsides opsInit s m := fun s m hm => by
  unfold tsides
  rw [tabMade_keep l s m hm]
 refine ⟨fun n => ?_, fun n => ?_, fun n => ?_, fun n => ?_, ?_, fun n hn => ?_⟩
 ·obtain ⟨p, l1, r, h, h1, h2, h3, h4, h5⟩ := sides_form hg 1 n
  show (tsides (tabMade l) 1 n).1 = 0 ∨ _
  simp only [opsOf, h]
  omega
 ·obtain ⟨p, l1, r, h, h1, h2, h3, h4, h5⟩ := sides_form hg 2 n
  simp only [opsOf, h]
  by_cases hp : p = 0
  ·exact .inl hp
  right
  refine ⟨by omega, by omega, by omega, by omega, by omega, by omega, fun e1 e2 => ?_⟩
  cases hv : mget (tabMade l) (2, n) with
  | none => exact hp (h4 hv).1
  | some v =>
   obtain ⟨q, t⟩ := v
   have g := hg _ (mget_mem hv)
   have hk : kSort t = 2 := g.1.symm
   unfold tsides at h
   rw [hv] at h
   simp only [Prod.mk.injEq] at h
   rcases kinds_not t hk with e | e <;> omega
 ·obtain ⟨p, l1, r, h, h1, h2, h3, h4, h5⟩ := sides_form hg 3 n
  simp only [opsOf, h]
  omega
 ·rcases tabMade_noBoth l n with h | h
  ·left
   simp only [opsOf, tsides, h]
  ·right
   simp only [opsOf, tsides, h]
 ·simp only [opsOf]
  rw [hts 2 [44] (.inl rfl), hts 3 [44] (.inl rfl), hts 1 [44] (.inl rfl)]
  decide +kernel
 ·have hm : n = [44] ∨ n = [91, 93] ∨ n = [123, 125] := .inr hn
  simp only [opsOf]
  rw [hts 2 n hm, hts 3 n hm, hts 1 n hm]
  rcases hn with rfl | rfl <;> decide +kernel
open Go.RowKit Go.Maps
set_option maxRecDepth 100000
theorem DefsAt.lat {w w' : World} {A : Option Addr} {n : Nat} {l : List DefT} (h : DefsAt w w.heap.size A n l) (hb : Below w.heap.size w w') : DefsAt w' w'.heap.size A n l := by
 obtain ⟨h1, h2⟩ := h.keep hb.block
 refine ⟨h1, fun i x hx => ?_⟩
 obtain ⟨b, off, e, k, r⟩ := h2 i x hx
 exact ⟨b, off, e, Nat.lt_of_lt_of_le k hb.size, r⟩
theorem tokOk_short {T : List UInt8} (h : T.length ≤ 1000) : TokOk (lexB T).1 := by
 obtain ⟨h1, h2⟩ := lexB_ok T
 have h3 := volA_le 1000 (lexB T).1 fun t ht => Nat.le_trans (h1 t ht).short h
 refine ⟨by omega, fun t ht => by have := (h1 t ht).short; omega, fun t ht => ⟨(h1 t ht).n, ?_⟩, ?_⟩
 ·have := (h1 t ht).k0
  have := (h1 t ht).k7
  unfold okI
  omega
 ·rw [vol_len]
  have h4 : (lexB T).1.length ≤ 1001 := by omega
  have h5 := Nat.mul_le_mul_right (2 + 2 * 1000) h4
  omega
theorem check_wfA {t : Tm} (h : WfT t) (h1 : t.size ≤ 20000) (h2 : t.deep ≤ 2000) : checkT t = 0 := by
 unfold checkT
 rw [h.may, if_neg (by decide), if_neg (by omega), if_neg (by omega)]
def backTs (es : List (OpK × OpV)) (t : Tm) : List Tok := tkL true (lxF es 1 t.size t 1200 ++ [stopL]) ++ [endTok 1]
theorem back_tokOk {es : List (OpK × OpV)} {t : Tm} (hw : WfT t) (hl : (wrT es 1 t 1200).length ≤ 15200) : TokOk (backTs es t) := by
 have h := lx_ok es 1 (by decide) t.size t 1200 (Nat.le_refl _) hw
 have hs : flat [stopL] = [32, 46] := rfl
 have hok := h.ok [stopL] ⟨32, [46], rfl, soft_of (.inl rfl)⟩ ⟨stop_good, trivial⟩
 have hl2 : (wrF es 1 t.size t 1200).length ≤ 15200 := hl
 refine lx_tokOk hok ?_
 rw [flat_app, h.flat, hs, List.length_append]
 simp only [List.length_cons, List.length_nil]
 omega
set_option maxHeartbeats 16000000 in
theorem wagain_any (w : World) (T : List UInt8) (A2 : Option Addr) (n2 c2 : Nat) (l2 : List DefT) (hd2 : DefsAt w w.heap.size A2 n2 l2) (hm2 : n2 ≤ maxLen) (hE : WrEnv w) :
    Calls Tryz.prog 5 #[.string ⟨T.toArray⟩, .slice A2 n2 c2] w fun e w' => e = .returned (.bool true) ∧ Below w.heap.size w w' := by
 have HE := Lib.hid hE
 have HD := Lib.hid hd2
 have hm9 : n2 ≤ 9223372036854775807 := hm2
 clear hE hd2
 by_cases h1 : (800 : Int) < (T.length : Int)
 ·go_enter Tryz.func5, Tryz.ntmps5
  go_wp2_with fail
  refine (alive7_any w HE.out).mono ?_
  rintro e w1 ⟨rfl, hb1⟩
  have HB1 := Lib.hid hb1
  clear hb1
  go_wp2_with fail
  go_ret
  exact ⟨rfl, HB1.out⟩
 by_cases h2 : (100 : Int) < (n2 : Int)
 ·go_enter Tryz.func5, Tryz.ntmps5
  go_wp2_with fail
  refine (alive7_any w HE.out).mono ?_
  rintro e w1 ⟨rfl, hb1⟩
  have HB1 := Lib.hid hb1
  clear hb1
  go_wp2_with fail
  go_ret
  exact ⟨rfl, HB1.out⟩
 obtain ⟨es, hes⟩ : ∃ es, es = tabMade l2 := ⟨_, rfl⟩
 obtain ⟨ts, hts⟩ : ∃ ts, ts = (lexB T).1 := ⟨_, rfl⟩
 obtain ⟨C, e1, hrd⟩ : ∃ C e1, readF (opsOf es) ts 0 = (C, e1) := ⟨_, _, rfl⟩
 have HES := Lib.hid hes
 have HTS := Lib.hid hts
 have HRD := Lib.hid hrd
 have HTL := Lib.hid (show T.length ≤ 800 by omega)
 have HN2 := Lib.hid (show n2 ≤ 1000000 by omega)
 clear hes hts hrd
 go_enter Tryz.func5, Tryz.ntmps5
 go_wp2_with fail
 refine (alive7_any w HE.out).mono ?_
 rintro e w1 ⟨rfl, hb1⟩
 have HB1 := Lib.hid hb1
 clear hb1
 go_wp2_with fail
 have hE2 := HE.out.later HB1.out
 refine (made_any w1 A2 n2 c2 l2 (HD.out.lat HB1.out) HN2.out hE2.rd.kinds hE2.rd.tab).mono ?_
 rintro e w2 ⟨bt, bm, rfl, hM⟩
 rw [← HES.out] at hM
 have HM := Lib.hid hM
 have HB2 : Hid (Below w.heap.size w w2) := Lib.hid (HB1.out.trans (hM.below.mono HB1.out.size))
 have HOK : Hid (TabOk (opsOf es)) := Lib.hid (by rw [HES.out]; refine tabOk_made l2 ?_; rw [← HES.out]; exact hM.tab.good)
 have HE2 : Hid (WrEnv w2) := Lib.hid (HE.out.later HB2.out)
 clear hM hE2 h1 h2 hm9
 go_wp2_with fail
 refine (lex_any w2 T (by have := HTL.out; omega) HE2.out.rd.max).mono ?_
 rintro e w3 ⟨v3, rfl, hr3, hb3⟩
 rw [← HTS.out] at hr3
 have HTK : Hid (TokOk ts) := Lib.hid (by rw [HTS.out]; exact tokOk_short (by have := HTL.out; omega))
 have HB3 := Lib.hid (HB2.out.trans (hb3.mono HB2.out.size))
 have HE3 : Hid (WrEnv w3) := Lib.hid (HE.out.later HB3.out)
 have HT3 := Lib.hid (HM.out.tab.later hb3)
 have HR3 := Lib.hid hr3
 clear hr3 hb3
 obtain ⟨An, cn, rfl⟩ := HR3.out.shape
 dsimp only
 generalize (lexB T).2.1 = ln1
 generalize (lexB T).2.2 = er1
 go_wp2_with fail
 refine (read_any w3 An ts.length cn ts (toks_row HR3.out) HTK.out 0 bt bm es HT3.out HE3.out.rd.kinds).mono ?_
 intro e w4 ho
 rw [HRD.out] at ho
 obtain ⟨x, Am, cm, rfl, hU⟩ := out_cl ho
 dsimp only at hU ⊢
 unfold clV
 go_upto_region 8 with fail
 obtain ⟨U, hUe⟩ : ∃ U, U = w4.alloc (.cells #[.int .i64 x.k, .int .i64 x.n, .string ⟨x.s.toArray⟩, .slice x.A x.len x.cap, .slice Am C.names.length cm, .int .i64 C.line, .int .i64 C.next] 50) := ⟨_, rfl⟩
 rw [← hUe]
 obtain ⟨u1, u2, u3, u4, u5⟩ := hU U hUe
 clear hU hUe ho
 obtain ⟨g, hg⟩ : ∃ g, g = w4.heap.size := ⟨_, rfl⟩
 rw [← hg] at u5 ⊢
 have HBU : Hid (Below w.heap.size w U) := Lib.hid (HB3.out.trans (u1.mono HB3.out.size))
 have HXU : Hid (TermAt U U.heap.size x C.t) := Lib.hid u2
 have HGU := Lib.hid u5
 have HTU := Lib.hid (HT3.out.later u1)
 have HEU : Hid (WrEnv U) := Lib.hid (HE.out.later HBU.out)
 clear u1 u2 u3 u4 u5 hg
 by_cases he1 : e1 = 0
 case neg =>
  have b1 : (e1 != 0) = true := by simpa using he1
  have b2 : (e1 == 0) = false := by simpa using he1
  clear he1
  go_wp2_with fail
  go_ret
  exact ⟨rfl, HBU.out⟩
 subst he1
 have hag : AgainOk (opsOf es) T C := again_ok HTL.out (by rw [← HTS.out]; exact HRD.out)
 have HWF := Lib.hid (And.intro hag.wf (And.intro hag.size hag.deep))
 have hp1 := put_good (es := es) (way := 1) (.inr (.inl rfl)) (check_wfA hag.wf hag.size hag.deep)
 have hlen := hag.short es 1 1200
 have hlex := lex_written (es := es) (way := 1) (by decide) C.t 1200 hag.wf
 have hrd2 := read_written (es := es) (way := 1) HOK.out (fun _ => rfl) C.t hag.wf hag.deep hag.size
 have hk2 := back_tokOk (es := es) hag.wf hlen
 rw [hag.same] at hrd2
 obtain ⟨S, hS⟩ : ∃ S, S = wrT es 1 C.t 1200 := ⟨_, rfl⟩
 rw [← hS] at hp1 hlen hlex
 obtain ⟨ts2, hts2⟩ : ∃ ts2, ts2 = backTs es C.t := ⟨_, rfl⟩
 have hlex2 : lexB (S ++ [32, 46]) = (ts2, 0, 0) := by rw [hts2]; exact hlex
 obtain ⟨C2, hC2, hC2t⟩ : ∃ C2 : ClauseF, readF (opsOf es) ts2 0 = (C2, 0) ∧ C2.t = C.t := ⟨⟨C.t, varsOf 0 (nrT [] C.t).2, 1, ((lxF es 1 C.t.size C.t 1200).length : Int) + 1⟩, by rw [hts2]; exact hrd2, rfl⟩
 rw [← hts2] at hk2
 have HP1 := Lib.hid hp1
 have HLX := Lib.hid hlex2
 have HRD2 := Lib.hid (And.intro hC2 hC2t)
 have HTK2 := Lib.hid hk2
 have HSL := Lib.hid hlen
 clear hag hp1 hlen hlex hrd2 hk2 hS hts2 hlex2 hC2 hC2t
 have hput : ∀ (v : World) (y : TV), Below U.heap.size U v → TermAt v v.heap.size y C.t → Calls Tryz.prog 14 #[.agg #[.int .i64 y.k, .int .i64 y.n, .string ⟨y.s.toArray⟩, .slice y.A y.len y.cap], .int .i64 1, .pointer (some ⟨bt, 0, none⟩)] v fun e v' => e = .returned (.tuple #[.string ⟨S.toArray⟩, .int .i64 0]) ∧ Below U.heap.size U v' ∧ Below v.heap.size v v' := fun v y hv hy => by
  rw [← tvV_lit]
  refine (wput_any v y C.t bt bm es 1 hy HWF.out.1.fits (by have := HWF.out.2.1; omega) (by have := HWF.out.2.2; omega) (HEU.out.later hv).wr (HTU.out.later hv)).mono ?_
  rintro e v' ⟨rfl, h1⟩
  rw [HP1.out]
  exact ⟨rfl, hv.trans (h1.mono hv.size), h1⟩
 have HPUT := Lib.hid hput
 clear hput
 obtain ⟨y0, y1, y2, y3, -⟩ := clause_at HGU.out
 go_wp2_with fail
 refine (HPUT.out U x (Below.refl _ _) HXU.out).mono ?_
 rintro e U2 ⟨rfl, hb2, -⟩
 have HU2 := Lib.hid hb2
 have hsl : S.length ≤ 15200 := HSL.out
 clear y0 y1 y2 y3 hb2
 go_wp2_with fail
 rw [show (⟨S.toArray⟩ ++ ⟨#[32, 46]⟩ : ByteArray) = ⟨(S ++ [32, 46]).toArray⟩ from cat_bk S [32, 46]]
 refine (lex_any U2 (S ++ [32, 46]) (by have := HSL.out; simp only [List.length_append, List.length_cons, List.length_nil]; omega) (HEU.out.later HU2.out).rd.max).mono ?_
 rintro e U3 ⟨v3, rfl, hr3, hb3⟩
 rw [HLX.out] at hr3 ⊢
 dsimp only at hr3 ⊢
 have HU3 := Lib.hid (HU2.out.trans (hb3.mono HU2.out.size))
 have HR4 := Lib.hid hr3
 clear hr3 hb3
 obtain ⟨Ak, ck, rfl⟩ := HR4.out.shape
 go_wp2_with fail
 refine (read_any U3 Ak ts2.length ck ts2 (toks_row HR4.out) HTK2.out 0 bt bm es (HTU.out.later HU3.out) (HEU.out.later HU3.out).rd.kinds).mono ?_
 intro e U4 ho
 rw [HRD2.out.1] at ho
 obtain ⟨y, Aq, cq, rfl, hU⟩ := out_cl ho
 dsimp only at hU ⊢
 unfold clV
 go_upto_region 13 with fail
 obtain ⟨V, hVe⟩ : ∃ V, V = U4.alloc (.cells #[.int .i64 y.k, .int .i64 y.n, .string ⟨y.s.toArray⟩, .slice y.A y.len y.cap, .slice Aq C2.names.length cq, .int .i64 C2.line, .int .i64 C2.next] 50) := ⟨_, rfl⟩
 rw [← hVe]
 obtain ⟨u1, u2, u3, u4, u5⟩ := hU V hVe
 clear hU hVe ho
 obtain ⟨q, hq⟩ : ∃ q, q = U4.heap.size := ⟨_, rfl⟩
 rw [← hq] at u5 ⊢
 rw [HRD2.out.2] at u2
 have HBV : Hid (Below U.heap.size U V) := Lib.hid (HU3.out.trans (u1.mono HU3.out.size))
 have HYV : Hid (TermAt V V.heap.size y C.t) := Lib.hid u2
 have HQV := Lib.hid u5
 clear u1 u2 u3 u4 u5 hq
 obtain ⟨y0, y1, y2, y3, -⟩ := clause_at HQV.out
 go_wp2_with fail
 refine (HPUT.out V y HBV.out HYV.out).mono ?_
 rintro e V2 ⟨rfl, hb2, hb2'⟩
 have hx2 := HXU.out.later hb2
 have hy2 := HYV.out.later hb2'
 have hgx := (hb2.block g (Array.getElem?_eq_some_iff.1 HGU.out).1).trans HGU.out
 have hqy := (hb2'.block q (Array.getElem?_eq_some_iff.1 HQV.out).1).trans HQV.out
 have hsm := same_any C.t.size C.t C.t x y V2 (Nat.le_refl _) (Nat.le_trans HWF.out.2.1 (by decide)) (Nat.le_trans HWF.out.2.1 (by decide)) hx2 hy2
 rw [tvV_lit, tvV_lit, sameTm_self] at hsm
 have HSM := Lib.hid hsm
 have HV2 := Lib.hid (HBU.out.trans (hb2.mono HBU.out.size))
 clear y0 y1 y2 y3 hb2 hb2' hx2 hy2 hsm
 obtain ⟨a0, a1, a2, a3, -⟩ := clause_at hgx
 obtain ⟨b0, b1, b2, b3, -⟩ := clause_at hqy
 clear hgx hqy
 have hss : (S == S) = true := by simp
 go_wp2_with fail
 refine HSM.out.mono ?_
 rintro e V3 ⟨rfl, hb3⟩
 have HF := Lib.hid (HV2.out.trans (hb3.mono HV2.out.size))
 clear hb3
 go_wp2_with fail
 go_ret
 exact ⟨rfl, HF.out⟩
open Go.ChangeShapes Go.WideShapes Go.ChangeAt Go.RowKit
section
variable {H : Type} {enc : TypeId × Value → H} {P : Program}
theorem trodAll_below (hl : laidOutB P = true) {W W' : World} (hb : Below W.heap.size W W') : ∀ (ts : List TypeId) (vs : List Value) (ds : List (DataW H)) (ps : List MemPlace), (∀ t ∈ ts, P.readableRec t = true ∧ t < P.types.size) →
    DataW.TrodAll enc P W 0 (fun _ => true) true ts vs ds ps → (∀ x ∈ ps, x.block < W.heap.size) → DataW.TrodAll enc P W' 0 (fun b => decide (b < W.heap.size)) true ts vs ds ps
 | [], [], [], _, _, h, _ => h
 | [], [], _ :: _, _, _, h, _ => h.elim
 | [], _ :: _, _, _, _, h, _ => h.elim
 | _ :: _, [], _, _, _, h, _ => h.elim
 | _ :: _, _ :: _, [], _, _, h, _ => h.elim
 | t :: ts, v :: vs, d :: ds, ps, ht, h, hlt => by
  obtain ⟨p, q, h1, h2, rfl⟩ := h
  exact ⟨p, q, Below.trod hl (ht t (List.mem_cons_self ..)).1 (ht t (List.mem_cons_self ..)).2 h1 hb (fun x hx => hlt x (List.mem_append_left _ hx)),
   trodAll_below hl hb ts vs ds q (fun t' h' => ht t' (List.mem_cons_of_mem _ h')) h2 (fun x hx => hlt x (List.mem_append_right _ hx)), rfl⟩
theorem law_post (hl : laidOutB P = true) {f : Func} {s : ChangeSpec} {W W' : World} {args : Array Value} {ds gs : List (DataW H)} {before : List MemPlace} {tb : TypeId} (hbool : P.underlying tb = some .bool) (hres : f.resultTypes = #[tb])
    (hv : s.vars = []) (hW : DataW.Whole enc P f.params.toList s.vars false W args.toList ds gs before) (hb : Below W.heap.size W W')
    (hts : ∀ t ∈ f.params.toList, P.readableRec t = true ∧ t < P.types.size) (h1 : (s.fn H (ds ++ gs)).results = [.lit (.bool true)]) (h2 : (s.fn H (ds ++ gs)).args = ds) (h3 : (s.fn H (ds ++ gs)).vars = []) :
    s.post enc P f false true false false W args (.bool true) W' := by
 have hlt := hW.lt
 have hW' := hW
 obtain ⟨p, q, hA, hV, rfl, _, _⟩ := hW
 rw [hv] at hV
 have hV' := hV
 obtain ⟨hg, hq⟩ := trodVars_none hV
 subst hg
 subst hq
 refine ⟨ds, [], _, [], p, [], hW', ?_, ?_, ?_, hb.frame _, fun h => by cases h⟩
 ·rw [h1, hres]
  exact trodAll_mk1 (shut_bool hbool true)
 ·rw [h2]
  exact trodAll_below hl hb _ _ _ _ hts hA (fun x hx => hlt x (List.mem_append_left _ hx))
 ·rw [hv, h3]
  rfl
end
end Go.Proofs.YtcallkljcjimiaaGreatDoor
