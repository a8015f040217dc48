import Derived.Test.YtiffopheamnngaaGreatDoorJT46
import Derived.Test.YtiffopheamnngaaGreatDoorRows
import Derived.Stop.LaidErr
import Derived.MakeChecks
namespace Go.Proofs.YtiffopheamnngaaGreatDoor
open Go.RowKit Go.Maps
set_option maxRecDepth 100000
theorem out_two {u u' : World} {c : ClauseF × Int} {x : TV} {nv : Value} {B : Nat} {t : TypeId} (hb : Below u.heap.size u u') (hx : TermAt u' u'.heap.size x c.1.t) (hn : Row u' B t 2 encB nv c.1.names) :
    ∃ An m, nv = .slice An c.1.names.length m ∧
     ∀ (ty : TypeId) U, U = u'.alloc (.cells #[.int .i64 x.k, .int .i64 x.n, .string ⟨x.s.toArray⟩, .slice x.A x.len x.cap, .slice An c.1.names.length m, .int .i64 c.1.line, .int .i64 c.1.next] ty) →
     Below u.heap.size u U ∧ TermAt U U.heap.size x c.1.t ∧ NmAt U U.heap.size An c.1.names.length c.1.names ∧
     U.heap[u'.heap.size]? = some (.cells #[.int .i64 x.k, .int .i64 x.n, .string ⟨x.s.toArray⟩, .slice x.A x.len x.cap, .slice An c.1.names.length m, .int .i64 c.1.line, .int .i64 c.1.next] ty (0, 0)) := by
 obtain ⟨An, m, rfl⟩ := hn.shape
 refine ⟨An, m, rfl, fun ty U hU => ?_⟩
 subst hU
 have hb' := hb.trans ((Below.refl _ _).alloc hb.size (.cells #[.int .i64 x.k, .int .i64 x.n, .string ⟨x.s.toArray⟩, .slice x.A x.len x.cap, .slice An c.1.names.length m, .int .i64 c.1.line, .int .i64 c.1.next] ty))
 exact ⟨hb', hx.later ((Below.refl _ _).alloc (Nat.le_refl _) _), (NmAt.of hn).later ((Below.refl _ _).alloc (Nat.le_refl _) _), heap_alloc_new _ _⟩
theorem defs_up {w : World} {B B' : Nat} {A : Option Addr} {n : Nat} {l : List DefT} (h : DefsAt w B A n l) (hB : B ≤ B') : DefsAt w B' A n l :=
 ⟨h.1, fun i x hx => by
  obtain ⟨b, off, h1, h2, h3⟩ := h.2 i x hx
  exact ⟨b, off, h1, by omega, h3⟩⟩
structure RtSt (w : World) (A : Option Addr) (ts : List Tok) (bt bm rt : Nat) (es : List (OpK × OpV)) (L : List DefT) (u : World) : Prop where
 below : Below w.heap.size w u
 tab : TabAt u bt bm es
 kinds : KindsAt u
 toks : ToksAt u u.heap.size A ts.length ts
 rtab : RTab u rt L
theorem RtSt.later {w u u' : World} {A : Option Addr} {ts : List Tok} {bt bm rt : Nat} {es : List (OpK × OpV)} {L : List DefT} (h : RtSt w A ts bt bm rt es L u) (hb : Below u.heap.size u u') : RtSt w A ts bt bm rt es L u' :=
 ⟨h.below.trans (hb.mono h.below.size), h.tab.later hb, h.kinds.later hb, (h.toks.keep hb.block).up hb.size, h.rtab.later hb⟩
set_option maxHeartbeats 16000000 in
theorem texts_any (w : World) (hE : RdEnv w) (A : Option Addr) (n c : Nat) (l : List DefT) (hl : DefsAt w w.heap.size A n l) (text : List UInt8) (hn63 : (n : Int) ≤ 9223372036854775807) :
    Calls Tryz.prog 3 #[.slice A n c, .string ⟨text.toArray⟩] w fun e w' => e = .returned (.bool true) ∧ Below w.heap.size w w' := by
 have HE := Lib.hid hE
 have HD := Lib.hid hl
 clear hE hl
 go_enter Tryz.func3, Tryz.ntmps3
 go_wp2_with fail
 refine (alive_any w HE.out).mono ?_
 rintro e w1 ⟨rfl, hb1⟩
 have HB1 := Lib.hid hb1
 have HE1 : Hid (RdEnv w1) := Lib.hid (HE.out.later hb1)
 clear hb1 HE
 by_cases hln : 100 < n
 ·have hln' : (100 : Int) < (n : Int) := by omega
  go_wp2_with fail
  go_ret
  exact ⟨rfl, HB1.out⟩
 have hln' : ¬ (100 : Int) < (n : Int) := by omega
 by_cases hlt : 1500 < text.length
 ·have hlt' : (1500 : Int) < (text.length : Int) := by omega
  go_wp2_with fail
  go_ret
  exact ⟨rfl, HB1.out⟩
 have hlt' : ¬ (1500 : Int) < (text.length : Int) := by omega
 go_wp2_with fail
 refine (made_any w1 A n c l (defs_up (HD.out.below HB1.out) HB1.out.size) (by omega) HE1.out.kinds HE1.out.tab).mono ?_
 rintro e w2 ⟨bt, bm, rfl, hI⟩
 have HB2 := Lib.hid (HB1.out.trans (hI.below.mono HB1.out.size))
 have HE2 : Hid (RdEnv w2) := Lib.hid (HE1.out.later hI.below)
 have HT2 := Lib.hid hI.tab
 clear hI HB1 HE1
 go_wp2_with fail
 refine (rMade_any w2 A n c l (defs_up (HD.out.below HB2.out) HB2.out.size) (by omega)).mono ?_
 rintro e w3 ⟨rt, L, rfl, hM⟩
 have HB3 := Lib.hid (HB2.out.trans (hM.below.mono HB2.out.size))
 have HE3 : Hid (RdEnv w3) := Lib.hid (HE2.out.later hM.below)
 have HT3 := Lib.hid (HT2.out.later hM.below)
 have HM := Lib.hid (And.intro hM.tab (And.intro hM.agree hM.few))
 clear hM HB2 HE2 HT2
 go_wp2_with fail
 have HTK := Lib.hid (tokOk_lex (T := text) (by omega))
 refine (lex_any w3 text (by omega) HE3.out.max).mono ?_
 rintro e w4 ⟨v4, rfl, hr4, hb4⟩
 generalize lexB text = Z at HTK hr4 ⊢
 obtain ⟨ts, ln, er⟩ := Z
 dsimp only at HTK hr4 ⊢
 obtain ⟨An, cn, rfl⟩ := hr4.shape
 have HI : Hid (RtSt w An ts bt bm rt (tabMade l) L w4) := Lib.hid ⟨HB3.out.trans (hb4.mono HB3.out.size), HT3.out.later hb4, (HE3.out.later hb4).kinds, toks_row hr4, HM.out.1.later hb4⟩
 have HAG := Lib.hid HM.out.2.1
 have HLF : Hid (L.length ≤ 1000) := Lib.hid (by have := HM.out.2.2; omega)
 generalize tabMade l = es at HI HAG
 have hfew : (ts.length : Int) ≤ 20000 := by have := HTK.out.few; omega
 have hwn : IntKind.i64.wrap ((ts.length : Int) + 1) = (ts.length : Int) + 1 := IntWalk.i64_in _ (by omega)
 clear hr4 hb4 HB3 HE3 HT3 HM HD
 go_wp2_with fail
 go_loopw [10, 38] (fun a i wr => ∃ k m : Nat, a = .int .i64 (k : Nat) ∧ i = .int .i64 (m : Nat) ∧ m ≤ ts.length + 1 ∧ Hid (RtSt w An ts bt bm rt es L wr)) (fun _ i _ => ts.length + 1 - (intOf i).toNat)
 case atStart => exact ⟨0, 0, rfl, rfl, by omega, HI⟩
 case round =>
  obtain ⟨k, m, rfl, rfl, hm, HR⟩ := hrel
  clear HI
  by_cases hml : m = ts.length + 1
  ·have hm1 : ¬ (m : Int) < (ts.length : Int) + 1 := by omega
   go_wp2_with fail
   go_ret
   exact ⟨rfl, HR.out.below⟩
  have hm1 : (m : Int) < (ts.length : Int) + 1 := by omega
  have hwm : IntKind.i64.wrap ((m : Int) + 1) = (m : Int) + 1 := IntWalk.i64_in _ (by omega)
  have hon := read_on (opsOf es) ts k
  have hft := read_fit (opsOf es) ts k
  have hnf3 := HTK.out.few
  have hr1 := read_any wr An ts.length cn ts HR.out.toks HTK.out (k : Int) bt bm es HR.out.tab HR.out.kinds
  have hr2 := fun v hv => readQ_any v An ts.length cn ts (HR.out.later (u' := v) hv).toks HTK.out (k : Int) rt es L (HR.out.later (u' := v) hv).rtab HAG.out HLF.out
  rw [show opsQ es = opsOf es from rfl] at hr2
  obtain ⟨C, hC⟩ : ∃ C, C = readF (opsOf es) ts (k : Int) := ⟨_, rfl⟩
  rw [← hC] at hon hft hr1 hr2
  clear hC
  obtain ⟨⟨ft, fn, fl, fx⟩, fe⟩ := C
  have HON := Lib.hid hon
  have HFT := Lib.hid hft
  have HR1 := Lib.hid hr1
  have HR2 := Lib.hid hr2
  clear hon hft hr1 hr2
  go_wp2_with fail
  refine HR1.out.mono ?_
  rintro e u1 ⟨hb1, x, nv1, B1, rfl, hx1, hn1⟩
  obtain ⟨N1, m1, rfl, hU1⟩ := out_two hb1 (hx1.at fun b hb => hb.lt) hn1
  dsimp only at hU1 ⊢
  unfold clV
  go_upto_region 11 with fail
  obtain ⟨U1, hU0⟩ : ∃ U, U = u1.alloc (.cells #[.int .i64 x.k, .int .i64 x.n, .string ⟨x.s.toArray⟩, .slice x.A x.len x.cap, .slice N1 fn.length m1, .int .i64 fl, .int .i64 fx] 37) := ⟨_, rfl⟩
  obtain ⟨g1, hg1⟩ : ∃ g, g = u1.heap.size := ⟨_, rfl⟩
  rw [← hU0, ← hg1]
  obtain ⟨hbU1, htU1, hnU1, hcU1⟩ := hU1 _ U1 hU0
  rw [← hg1] at hcU1
  have HBU1 := Lib.hid hbU1
  have HTU1 := Lib.hid htU1
  have HNU1 := Lib.hid hnU1
  have HCU1 := Lib.hid hcU1
  clear hU0 hg1 hU1 hb1 hx1 hn1 hbU1 htU1 hnU1 hcU1 HR1
  go_wp2_with fail
  refine (HR2.out U1 HBU1.out).mono ?_
  rintro e u2 ⟨hb2, y, nv2, B2, rfl, hx2, hn2⟩
  obtain ⟨N2, m2, rfl, hU2⟩ := out_two hb2 hx2 (hn2 : Row u2 B2 _ 2 encB nv2 _)
  dsimp only at hU2 ⊢
  unfold clQ
  go_upto_region 12 with fail
  obtain ⟨U2, hU0⟩ : ∃ U, U = u2.alloc (.cells #[.int .i64 y.k, .int .i64 y.n, .string ⟨y.s.toArray⟩, .slice y.A y.len y.cap, .slice N2 fn.length m2, .int .i64 fl, .int .i64 fx] 42) := ⟨_, rfl⟩
  obtain ⟨g2, hg2⟩ : ∃ g, g = u2.heap.size := ⟨_, rfl⟩
  rw [← hU0, ← hg2]
  obtain ⟨hbU2, htU2, hnU2, hcU2⟩ := hU2 _ U2 hU0
  rw [← hg2] at hcU2
  have HI2 : Hid (RtSt w An ts bt bm rt es L U2) := Lib.hid ((HR.out.later HBU1.out).later hbU2)
  have hx0 := (HTU1.out.later hbU2 : TermAt U2 U2.heap.size x ft)
  have hn0 := (HNU1.out.later hbU2 : NmAt U2 U2.heap.size N1 fn.length fn)
  have hc1 := (hbU2.block g1 (Array.getElem?_eq_some_iff.1 HCU1.out).1).trans HCU1.out
  clear hU0 hg2 hU2 hb2 hx2 hn2 hbU2 HBU1 HTU1 HNU1 HCU1 HR2
  have f10 : U2.cell? ⟨g1, 0, none⟩ = some (.int .i64 x.k) := by rw [cell_of_row U2 g1 0 _ _ (0, 0) hc1]; rfl
  have f11 : U2.cell? ⟨g1, 1, none⟩ = some (.int .i64 x.n) := by rw [cell_of_row U2 g1 1 _ _ (0, 0) hc1]; rfl
  have f12 : U2.cell? ⟨g1, 2, none⟩ = some (.string ⟨x.s.toArray⟩) := by rw [cell_of_row U2 g1 2 _ _ (0, 0) hc1]; rfl
  have f13 : U2.cell? ⟨g1, 3, none⟩ = some (.slice x.A x.len x.cap) := by rw [cell_of_row U2 g1 3 _ _ (0, 0) hc1]; rfl
  have f14 : U2.cell? ⟨g1, 4, none⟩ = some (.slice N1 fn.length m1) := by rw [cell_of_row U2 g1 4 _ _ (0, 0) hc1]; rfl
  have f15 : U2.cell? ⟨g1, 5, none⟩ = some (.int .i64 fl) := by rw [cell_of_row U2 g1 5 _ _ (0, 0) hc1]; rfl
  have f16 : U2.cell? ⟨g1, 6, none⟩ = some (.int .i64 fx) := by rw [cell_of_row U2 g1 6 _ _ (0, 0) hc1]; rfl
  have f20 : U2.cell? ⟨g2, 0, none⟩ = some (.int .i64 y.k) := by rw [cell_of_row U2 g2 0 _ _ (0, 0) hcU2]; rfl
  have f21 : U2.cell? ⟨g2, 1, none⟩ = some (.int .i64 y.n) := by rw [cell_of_row U2 g2 1 _ _ (0, 0) hcU2]; rfl
  have f22 : U2.cell? ⟨g2, 2, none⟩ = some (.string ⟨y.s.toArray⟩) := by rw [cell_of_row U2 g2 2 _ _ (0, 0) hcU2]; rfl
  have f23 : U2.cell? ⟨g2, 3, none⟩ = some (.slice y.A y.len y.cap) := by rw [cell_of_row U2 g2 3 _ _ (0, 0) hcU2]; rfl
  have f24 : U2.cell? ⟨g2, 4, none⟩ = some (.slice N2 fn.length m2) := by rw [cell_of_row U2 g2 4 _ _ (0, 0) hcU2]; rfl
  have f25 : U2.cell? ⟨g2, 5, none⟩ = some (.int .i64 fl) := by rw [cell_of_row U2 g2 5 _ _ (0, 0) hcU2]; rfl
  have f26 : U2.cell? ⟨g2, 6, none⟩ = some (.int .i64 fx) := by rw [cell_of_row U2 g2 6 _ _ (0, 0) hcU2]; rfl
  have cc : ∀ (p : Addr) (v : Value), U2.cell? p = some v → ∀ u, Below U2.heap.size U2 u → u.cell? p = some v := fun p v h u hb => (World.cell?_of_block (hb.block _ (World.block_lt_of_cell? U2 _ h))).trans h
  have HS : Hid (∀ u, Below U2.heap.size U2 u → u.cell? ⟨g1, 0, none⟩ = some (.int .i64 x.k) ∧ u.cell? ⟨g1, 1, none⟩ = some (.int .i64 x.n) ∧ u.cell? ⟨g1, 2, none⟩ = some (.string ⟨x.s.toArray⟩) ∧ u.cell? ⟨g1, 3, none⟩ = some (.slice x.A x.len x.cap) ∧ u.cell? ⟨g1, 4, none⟩ = some (.slice N1 fn.length m1) ∧ u.cell? ⟨g1, 5, none⟩ = some (.int .i64 fl) ∧ u.cell? ⟨g1, 6, none⟩ = some (.int .i64 fx) ∧ u.cell? ⟨g2, 0, none⟩ = some (.int .i64 y.k) ∧ u.cell? ⟨g2, 1, none⟩ = some (.int .i64 y.n) ∧ u.cell? ⟨g2, 2, none⟩ = some (.string ⟨y.s.toArray⟩) ∧ u.cell? ⟨g2, 3, none⟩ = some (.slice y.A y.len y.cap) ∧ u.cell? ⟨g2, 4, none⟩ = some (.slice N2 fn.length m2) ∧ u.cell? ⟨g2, 5, none⟩ = some (.int .i64 fl) ∧ u.cell? ⟨g2, 6, none⟩ = some (.int .i64 fx)) := Lib.hid fun u hb => ⟨cc _ _ f10 u hb, cc _ _ f11 u hb, cc _ _ f12 u hb, cc _ _ f13 u hb, cc _ _ f14 u hb, cc _ _ f15 u hb, cc _ _ f16 u hb, cc _ _ f20 u hb, cc _ _ f21 u hb, cc _ _ f22 u hb, cc _ _ f23 u hb, cc _ _ f24 u hb, cc _ _ f25 u hb, cc _ _ f26 u hb⟩
  have hnf : fn.length ≤ 100000 := by have h9 : fn.length ≤ 3 * ts.length + 1 := HFT.out.2; omega
  have hsz : ft.size ≤ 10000000 := by have h9 : ft.size ≤ 20000 := HFT.out.1; omega
  have HF0 : Hid (∀ u, Below U2.heap.size U2 u → Calls Tryz.prog 11 #[clV x (.slice N1 fn.length m1) fl fx] u fun e u' => ∃ A' c', e = .returned (clV x (.slice A' fn.length c') fl fx) ∧ NmAt u' u'.heap.size A' fn.length fn ∧ Below u.heap.size u u' ∧ Below U2.heap.size U2 u') := Lib.hid fun u hb => by
   refine (from06_any u x N1 fn.length m1 fl fx fn (hn0.keep hb.size hb.block) hnf).mono ?_
   rintro e u' ⟨A', c', rfl, h1, h2⟩
   exact ⟨A', c', rfl, h1, h2, hb.trans (h2.mono hb.size)⟩
  have HM1 : Hid (∀ u A1 c1, Below U2.heap.size U2 u → NmAt u u.heap.size A1 fn.length fn → Calls Tryz.prog 10 #[clV x (.slice A1 fn.length c1) fl fx, clV y (.slice N2 fn.length m2) fl fx] u fun e u' => e = .returned (.bool true) ∧ Below u.heap.size u u' ∧ Below U2.heap.size U2 u') := Lib.hid fun u A1 c1 hb h1 => by
   refine (same06_any u x y ft A1 N2 fn.length c1 m2 fl fx fn (hx0.keep hb.size hb.block) (htU2.keep hb.size hb.block) hsz h1 (hnU2.keep hb.size hb.block) hnf).mono ?_
   rintro e u' ⟨rfl, hb'⟩
   exact ⟨rfl, hb', hb.trans (hb'.mono hb.size)⟩
  have hbr := Below.refl U2.heap.size U2
  have hbd : Below U2.heap.size U2 U2.drew := (Below.refl U2.heap.size U2).drew
  have HC6 := Lib.hid (cc _ _ f16)
  clear f10 f11 f12 f13 f14 f15 f16 f20 f21 f22 f23 f24 f25 f26 cc hc1 hcU2 hx0 htU2 hn0 hnU2 hnf hsz HR HFT
  unfold clV at HF0 HM1
  have hfe0 : (fe != fe) = false := bne_self_eq_false fe
  go_region_held3 (fun u => u.cell? ⟨g1, 0, none⟩ = some (.int .i64 x.k) ∧ u.cell? ⟨g1, 1, none⟩ = some (.int .i64 x.n) ∧ u.cell? ⟨g1, 2, none⟩ = some (.string ⟨x.s.toArray⟩) ∧ u.cell? ⟨g1, 3, none⟩ = some (.slice x.A x.len x.cap) ∧ u.cell? ⟨g1, 4, none⟩ = some (.slice N1 fn.length m1) ∧ u.cell? ⟨g1, 5, none⟩ = some (.int .i64 fl) ∧ u.cell? ⟨g1, 6, none⟩ = some (.int .i64 fx) ∧ u.cell? ⟨g2, 0, none⟩ = some (.int .i64 y.k) ∧ u.cell? ⟨g2, 1, none⟩ = some (.int .i64 y.n) ∧ u.cell? ⟨g2, 2, none⟩ = some (.string ⟨y.s.toArray⟩) ∧ u.cell? ⟨g2, 3, none⟩ = some (.slice y.A y.len y.cap) ∧ u.cell? ⟨g2, 4, none⟩ = some (.slice N2 fn.length m2) ∧ u.cell? ⟨g2, 5, none⟩ = some (.int .i64 fl) ∧ u.cell? ⟨g2, 6, none⟩ = some (.int .i64 fx))
   (first | (with_reducible exact HS.out _ (by assumption)))
   (first | (go_at_call 11; with_reducible refine (HF0.out _ (by assumption)).mono ?_; rintro e v1 ⟨A1, c1, rfl, hn1, hv1, hb1⟩) | (go_at_call 10; with_reducible refine (HM1.out _ _ _ (by assumption) (by assumption)).mono ?_; rintro e v2 ⟨rfl, hv2, hb2⟩))
  all_goals
   have HI3 : Hid (RtSt w An ts bt bm rt es L v2) := Lib.hid (HI2.out.later hb2)
   have c6 := HC6.out v2 hb2
   clear HI2 HS HF0 HM1 HC6 hbr hbd hn1 hv1 hb1 hv2 hb2
   rcases HON.out with h | ⟨h1, h2, h3, h4⟩
   ·obtain rfl : fe = 7 := by injection h
    clear h
    go_wp2_with fail
    go_ret
    exact ⟨rfl, HI3.out.below⟩
   ·have h7 : (fe == 7) = false := beq_eq_false_iff_ne.2 h3
    obtain ⟨nx, rfl⟩ : ∃ nx : Nat, fx = (nx : Int) := ⟨fx.toNat, by omega⟩
    have hnx : ¬ ((nx : Int) ≤ (k : Int)) := by omega
    have hmm : m + 1 ≤ ts.length + 1 := by omega
    clear h1 h2 h3 h4 HON
    go_wp2_with fail
    go_roundw
    case rel => exact ⟨nx, m + 1, rfl, rfl, hmm, HI3⟩
    case measure =>
     simp only [intOf]
     omega
open Go.ChangeShapes Go.WideShapes Go.ChangeAt Go.RowKit
theorem gKinds : Tryz.prog.globalNamed "prolix/ops.kinds" = some 0 := by kernel_rfl
theorem gKindsType : (Tryz.prog.globals[0]?).map (·.type) = some 96 := by kernel_rfl
theorem gSpace : Tryz.prog.globalNamed "strings.asciiSpace" = some 1 := by kernel_rfl
theorem gSpaceType : (Tryz.prog.globals[1]?).map (·.type) = some 133 := by kernel_rfl
theorem kindCells : Tryz.prog.cellsOf 95 = 3 := by kernel_rfl
theorem byteCells : Tryz.prog.cellsOf 5 = 1 := by kernel_rfl
theorem spaceCells : Tryz.prog.cellsOf 133 = 256 := by kernel_rfl
theorem kindFields : ∃ f g k : Field, Tryz.prog.underlying 95 = some (.struct #[f, g, k]) ∧ f.type = 3 ∧ g.type = 3 ∧ k.type = 3 ∧ f.offset = 0 ∧ g.offset = 1 ∧ k.offset = 2 := ⟨_, _, _, Tryz.underlying95, rfl, rfl, rfl, rfl, rfl, rfl⟩
theorem space_of_laid {W : World} {rest : List (String × DataW Unit)} (h : laidMet Tryz.prog (("strings.asciiSpace", Rows.laid_strings_asciiSpace) :: rest) W) : Lib.TabIs Tryz.prog W "strings.asciiSpace" .u8 Lib.asciiSpaceTab :=
 Lib.tabIs_of_head (rest := rest) gSpace gSpaceType Tryz.underlying133 Tryz.underlying5 byteCells spaceCells h
theorem kinds_of_laid {W : World} {rest : List (String × DataW Unit)} (h : laidMet Tryz.prog (("prolix/ops.kinds", Rows.laid_prolix_ops_kinds) :: rest) W) : KindsAt W := by
 obtain ⟨ps, ⟨g', t', cs, fuel, p, q, hg', ht', hvar, hd, _, _⟩, _⟩ := h
 obtain rfl := Option.some.inj (gKinds.symm.trans hg')
 obtain rfl := Option.some.inj (gKindsType.symm.trans ht')
 obtain ⟨xs, m, _, hx, hlen, hn, hel⟩ := DataW.trod_array Tryz.underlying96 hd
 obtain ⟨f, g, k, hu, f1, g1, k1, f2, g2, k2⟩ := kindFields
 simp only [Prod.mk.injEq, Rows.laid_prolix_ops_kinds, DataW.agg.injEq] at hx
 intro t ht
 have hi := hel t (by omega)
 obtain ⟨x, hxt⟩ : ∃ x, xs[t]? = some x := ⟨_, List.getElem?_eq_getElem (by omega)⟩
 rw [hxt, kindCells] at hi
 obtain ⟨ys, _, _, hy, hl3, hyl, hf⟩ := DataW.trod_struct hu hi
 have hcs : ∀ i, i < 3 → W.cell? ⟨0, t * 3 + i, none⟩ = ((cs.toList.drop (t * 3)).take 3)[i]? := by
  intro i hi
  rw [World.var?_cell gKinds hvar (t * 3 + i), List.getElem?_take, if_pos hi, List.getElem?_drop]
  simp
 have hmap := congrArg (·[t]?) hx.1
 simp only [List.getElem?_map, hxt, Option.map_some, hy] at hmap
 rw [kindCells] at hl3
 generalize hz : (cs.toList.drop (t * 3)).take 3 = zs at *
 match zs, hl3 with
 | [c0, c1, c2], _ =>
  have e0 := hf 0 f rfl
  have e1 := hf 1 g rfl
  have e2 := hf 2 k rfl
  rw [f1, f2, intCells] at e0
  rw [g1, g2, intCells] at e1
  rw [k1, k2, intCells] at e2
  simp only [List.drop_zero, List.take_succ_cons, List.take_zero, List.drop_succ_cons] at e0 e1 e2
  have hyl' : ys.length = 3 := hyl
  match ys, hyl' with
  | [y0, y1, y2], _ =>
   simp only [List.getElem?_cons_zero, List.getElem?_cons_succ] at e0 e1 e2
   obtain ⟨n0, h0, h0', _⟩ := DataW.trod_int Tryz.underlying3 e0
   obtain ⟨n1, h1, h1', _⟩ := DataW.trod_int Tryz.underlying3 e1
   obtain ⟨n2, h2, h2', _⟩ := DataW.trod_int Tryz.underlying3 e2
   simp only [List.cons.injEq, and_true] at h0 h1 h2
   subst h0 h1 h2 h0' h1' h2'
   have a0 := hcs 0 (by omega)
   have a1 := hcs 1 (by omega)
   have a2 := hcs 2 (by omega)
   simp only [List.getElem?_cons_zero, List.getElem?_cons_succ, Nat.add_zero] at a0 a1 a2
   rw [a0, a1, a2]
   simp only [List.map_cons, List.map_nil] at hmap
   have : t = 0 ∨ t = 1 ∨ t = 2 ∨ t = 3 ∨ t = 4 ∨ t = 5 ∨ t = 6 ∨ t = 7 := by omega
   rcases this with rfl | rfl | rfl | rfl | rfl | rfl | rfl | rfl <;> simp at hmap <;> obtain ⟨rfl, rfl, rfl⟩ := hmap <;> exact ⟨rfl, rfl, rfl⟩
section
variable {H : Type} {enc : TypeId × Value → H} {P : Program}
theorem trodAll_below (hl : laidOutB P = true) {W W' : World} (hb : Below W.heap.size W W') : ∀ (ts : List TypeId) (vs : List Value) (ds : List (DataW H)) (ps : List MemPlace), (∀ t ∈ ts, P.readableRec t = true ∧ t < P.types.size) →
    DataW.TrodAll enc P W 0 (fun _ => true) true ts vs ds ps → (∀ x ∈ ps, x.block < W.heap.size) → DataW.TrodAll enc P W' 0 (fun b => decide (b < W.heap.size)) true ts vs ds ps
 | [], [], [], _, _, h, _ => h
 | [], [], _ :: _, _, _, h, _ => h.elim
 | [], _ :: _, _, _, _, h, _ => h.elim
 | _ :: _, [], _, _, _, h, _ => h.elim
 | _ :: _, _ :: _, [], _, _, h, _ => h.elim
 | t :: ts, v :: vs, d :: ds, ps, ht, h, hlt => by
  obtain ⟨p, q, h1, h2, rfl⟩ := h
  exact ⟨p, q, Below.trod hl (ht t (List.mem_cons_self ..)).1 (ht t (List.mem_cons_self ..)).2 h1 hb (fun x hx => hlt x (List.mem_append_left _ hx)),
   trodAll_below hl hb ts vs ds q (fun t' h' => ht t' (List.mem_cons_of_mem _ h')) h2 (fun x hx => hlt x (List.mem_append_right _ hx)), rfl⟩
theorem law_post (hl : laidOutB P = true) {f : Func} {s : ChangeSpec} {W W' : World} {args : Array Value} {ds gs : List (DataW H)} {before : List MemPlace} {tb : TypeId} (hbool : P.underlying tb = some .bool) (hres : f.resultTypes = #[tb])
    (hv : s.vars = []) (hW : DataW.Whole enc P f.params.toList s.vars false W args.toList ds gs before) (hb : Below W.heap.size W W')
    (hts : ∀ t ∈ f.params.toList, P.readableRec t = true ∧ t < P.types.size) (h1 : (s.fn H (ds ++ gs)).results = [.lit (.bool true)]) (h2 : (s.fn H (ds ++ gs)).args = ds) (h3 : (s.fn H (ds ++ gs)).vars = []) :
    s.post enc P f false true false false W args (.bool true) W' := by
 have hlt := hW.lt
 have hW' := hW
 obtain ⟨p, q, hA, hV, rfl, _, _⟩ := hW
 rw [hv] at hV
 have hV' := hV
 obtain ⟨hg, hq⟩ := trodVars_none hV
 subst hg
 subst hq
 refine ⟨ds, [], _, [], p, [], hW', ?_, ?_, ?_, hb.frame _, fun h => by cases h⟩
 ·rw [h1, hres]
  exact trodAll_mk1 (shut_bool hbool true)
 ·rw [h2]
  exact trodAll_below hl hb _ _ _ _ hts hA (fun x hx => hlt x (List.mem_append_left _ hx))
 ·rw [hv, h3]
  rfl
end
end Go.Proofs.YtiffopheamnngaaGreatDoor
