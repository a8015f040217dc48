import Derived.Test.YtjdnigepnfeboaaGreatDoorJG06
import Derived.Test.YtjdnigepnfeboaaGreatDoorJG28
namespace Go.Proofs.YtjdnigepnfeboaaGreatDoor
set_option maxRecDepth 100000
def twoT : List UInt8 := [112, 40, 49, 41, 46, 32, 112, 40, 50, 41, 46]
def askT : List UInt8 := [112, 40, 88, 41, 32, 46]
def twoL : List Tok := [⟨1, 1, 0, [112], true, false⟩, ⟨6, 1, 0, [40], false, true⟩, ⟨3, 1, 1, [], false, true⟩, ⟨6, 1, 0, [41], false, true⟩, ⟨7, 1, 0, [], false, true⟩,
 ⟨1, 1, 0, [112], true, false⟩, ⟨6, 1, 0, [40], false, true⟩, ⟨3, 1, 2, [], false, true⟩, ⟨6, 1, 0, [41], false, true⟩, ⟨7, 1, 0, [], false, true⟩, ⟨0, 1, 0, [], false, false⟩]
def askL : List Tok := [⟨1, 1, 0, [112], true, false⟩, ⟨6, 1, 0, [40], false, true⟩, ⟨4, 1, 0, [88], false, true⟩, ⟨6, 1, 0, [41], false, true⟩, ⟨7, 1, 0, [], false, false⟩, ⟨0, 1, 0, [], false, false⟩]
def endQ : Tok := ⟨0, 1, 0, [], false, false⟩
def lexQ (T : List UInt8) : List Tok × Int × Int := (if T = twoT then twoL else if T = askT then askL else [endQ], 0, 0)
abbrev FixT (T : List UInt8) : Prop := T = [] ∨ T = askT ∨ T = twoT
theorem two_lex : lexQ twoT = (twoL, 0, 0) := by rfl
theorem ask_lex : lexQ askT = (askL, 0, 0) := by rfl
theorem none_lex : lexQ [] = ([endQ], 0, 0) := by rfl
def AtTok (T : List UInt8) (k : Nat) : Prop := k = T.length ∨ (k < T.length ∧ ∃ t, Suf (T.drop k) t)
def SkP (T : List UInt8) (a k : Nat) : Prop := (k = a ∧ AtTok T a) ∨ (k = a + 1 ∧ a < T.length ∧ (T.drop a = [32, 46] ∨ T.drop a = [32, 112, 40, 50, 41, 46]) ∧ AtTok T k)
def cntQ (T : List UInt8) (a : Nat) : Nat := (T.take a).countP (fun c => decide (c ≠ 32))
def headQ (T : List UInt8) (a : Nat) : Prop := a = 0 ∨ T[a - 1]? ≠ some 32
def StepQ (T : List UInt8) (a : Nat) : Prop := ∃ k, SkP T a k ∧ ((k = T.length ∧ (lexQ T).1 = (lexQ T).1.take (cntQ T a) ++ [endQ]) ∨
 (k < T.length ∧ headQ T (k + 1) ∧ ∃ t, Suf (T.drop k) t ∧ t.len = 1 ∧ (lexQ T).1.take (cntQ T (k + 1)) = (lexQ T).1.take (cntQ T a) ++ [⟨t.kind, 1, t.n, t.s, openB T (k + 1), tight ((lexQ T).1.take (cntQ T a)) k a⟩]))
theorem lines_q {T : List UInt8} (hT : FixT T) (a : Nat) (ha : a ≤ T.length) : lines ((T.drop a).take 1) = 0 := by
 rcases hT with rfl | rfl | rfl
 ·obtain rfl : a = 0 := by simpa using ha
  rfl
 ·rcases (by have : a ≤ 6 := ha; omega : a = 0 ∨ a = 1 ∨ a = 2 ∨ a = 3 ∨ a = 4 ∨ a = 5 ∨ a = 6) with rfl | rfl | rfl | rfl | rfl | rfl | rfl <;> rfl
 ·rcases (by have : a ≤ 11 := ha; omega : a = 0 ∨ a = 1 ∨ a = 2 ∨ a = 3 ∨ a = 4 ∨ a = 5 ∨ a = 6 ∨ a = 7 ∨ a = 8 ∨ a = 9 ∨ a = 10 ∨ a = 11) with rfl | rfl | rfl | rfl | rfl | rfl | rfl | rfl | rfl | rfl | rfl | rfl <;> rfl
theorem step_q {T : List UInt8} (hT : FixT T) (a : Nat) (ha : a ≤ T.length) (hh : headQ T a) : StepQ T a := by
 rcases hT with rfl | rfl | rfl
 ·obtain rfl : a = 0 := by simpa using ha
  exact ⟨0, .inl ⟨rfl, .inl rfl⟩, .inl ⟨rfl, rfl⟩⟩
 ·rcases (by have : a ≤ 6 := ha; omega : a = 0 ∨ a = 1 ∨ a = 2 ∨ a = 3 ∨ a = 4 ∨ a = 5 ∨ a = 6) with rfl | rfl | rfl | rfl | rfl | rfl | rfl
  all_goals
   first
    | exact absurd hh (by unfold headQ; decide)
    | exact ⟨_, .inl ⟨rfl, .inl rfl⟩, .inl ⟨rfl, rfl⟩⟩
    | exact ⟨_, .inl ⟨rfl, .inr ⟨by decide, _, by constructor⟩⟩, .inr ⟨by decide, .inr (by decide), _, by constructor, rfl, rfl⟩⟩
    | exact ⟨_, .inr ⟨rfl, by decide, .inl rfl, .inr ⟨by decide, _, by constructor⟩⟩, .inr ⟨by decide, .inr (by decide), _, by constructor, rfl, rfl⟩⟩
 ·rcases (by have : a ≤ 11 := ha; omega : a = 0 ∨ a = 1 ∨ a = 2 ∨ a = 3 ∨ a = 4 ∨ a = 5 ∨ a = 6 ∨ a = 7 ∨ a = 8 ∨ a = 9 ∨ a = 10 ∨ a = 11) with rfl | rfl | rfl | rfl | rfl | rfl | rfl | rfl | rfl | rfl | rfl | rfl
  all_goals
   first
    | exact absurd hh (by unfold headQ; decide)
    | exact ⟨_, .inl ⟨rfl, .inl rfl⟩, .inl ⟨rfl, rfl⟩⟩
    | exact ⟨_, .inl ⟨rfl, .inr ⟨by decide, _, by constructor⟩⟩, .inr ⟨by decide, .inr (by decide), _, by constructor, rfl, rfl⟩⟩
    | exact ⟨_, .inr ⟨rfl, by decide, .inr rfl, .inr ⟨by decide, _, by constructor⟩⟩, .inr ⟨by decide, .inr (by decide), _, by constructor, rfl, rfl⟩⟩
open Go.RowKit
theorem hpl_c (w : World) {s : List UInt8} {t : TokIs} (h : Suf s t) : Calls Tryz.prog 205 #[.string ⟨s.toArray⟩, .string ⟨#[47, 42]⟩] w fun e w' => e = .returned (.bool false) ∧ w' = w := by
 cases h
 all_goals
  go_enter Tryz.func205, Tryz.ntmps205
  go_wp2_with fail
  go_ret
  exact ⟨by kernel_rfl, rfl⟩
theorem hp_c (w : World) {s : List UInt8} {t : TokIs} (h : Suf s t) : Calls Tryz.prog 110 #[.string ⟨s.toArray⟩, .string ⟨#[47, 42]⟩] w fun e w' => e = .returned (.bool false) ∧ w' = w := by
 have HS := Lib.hid (hpl_c w h)
 clear h
 go_enter Tryz.func110, Tryz.ntmps110
 go_wp2_with fail
 refine HS.out.mono ?_
 rintro e w1 ⟨rfl, rfl⟩
 go_wp2_with fail
 go_ret
 exact ⟨rfl, rfl⟩
set_option maxHeartbeats 8000000 in
theorem skip_c (w : World) (bx : Nat) (T : List UInt8) (a en : Nat) (v : Value) (h : LexAt w bx T a 1 en v) (k : Nat) (hk : SkP T a k) (hT : T.length ≤ 100) (h10 : lines ((T.drop a).take 1) = 0) :
    Calls Tryz.prog 46 #[.pointer (some ⟨bx, 0, none⟩)] w fun e w' => e = .returned (.bool true) ∧ LexAt w' bx T k 1 en v ∧ Fr (· = bx) w w' := by
 obtain ⟨P, hP⟩ : ∃ P : Ending → World → Prop, P = fun e w' => e = .returned (.bool true) ∧ LexAt w' bx T k 1 en v ∧ Fr (· = bx) w w' := ⟨_, rfl⟩
 rw [← hP]
 have HP := Lib.hid hP
 have HT := Lib.hid (And.intro hT h10)
 have H0 : Hid (SkP T a k ∧ LexAt w bx T a 1 en v ∧ Fr (· = bx) w w) := Lib.hid ⟨hk, h, Fr.refl _ _⟩
 clear hP h hk hT h10
 go_enter Tryz.func46, Tryz.ntmps46
 go_wp2_with fail
 go_loopg [] (k + 1 - a) (fun n wr => ∃ p, n = k + 1 - p ∧ Hid (SkP T p k ∧ LexAt wr bx T p 1 en v ∧ Fr (· = bx) w wr ∧ (p = k ∨ p = a)))
 case atStart => exact ⟨a, rfl, Lib.hid ⟨H0.out.1, H0.out.2.1, H0.out.2.2, .inr rfl⟩⟩
 case round =>
  obtain ⟨p, rfl, HI⟩ := hrel
  clear H0
  obtain ⟨c0, c1, -, -, -, cf⟩ := HI.out.2.1.cells
  have hdr : ∀ n, LexAt (wr.drewN n) bx T p 1 en v ∧ Fr (· = bx) w (wr.drewN n) := fun n => ⟨HI.out.2.1.drewN n, HI.out.2.2.1.trans ⟨rfl, rfl, rfl, Nat.le_refl _, fun _ _ _ => rfl⟩⟩
  have HD2 : Hid (∀ n m, LexAt ((wr.drewN n).drewN m) bx T p 1 en v ∧ Fr (· = bx) w ((wr.drewN n).drewN m)) := Lib.hid fun n m => ⟨(hdr n).1.drewN m, (hdr n).2.trans ⟨rfl, rfl, rfl, Nat.le_refl _, fun _ _ _ => rfl⟩⟩
  have HDR := Lib.hid hdr
  clear hdr
  rcases HI.out.1 with ⟨e1, hAt⟩ | ⟨e1, hlt, hbl, hAt⟩
  ·have hpe : p = k := e1.symm
   subst hpe
   clear e1
   rcases hAt with he | ⟨hlt, t, hs⟩
   ·have hne : ¬ (p : Int) < (T.length : Int) := by omega
    clear he
    go_wp2_with fail
    go_quiet (fail)
    have HQ : Hid (P (.returned (.bool true)) (wr.drewN nq)) := Lib.hid (by rw [HP.out]; exact ⟨rfl, HDR.out nq⟩)
    go_wp2_with fail
    exact HQ.out
   ·have hlt' : (p : Int) < (T.length : Int) := by omega
    have hp0 : (0 : Int) ≤ (p : Int) := by omega
    have hp1 : (p : Int) ≤ (T.length : Int) := by omega
    have hsl := slice_end T p
    have HS := Lib.hid hs
    generalize T.drop p = S at *
    clear hlt hs
    go_wp2_with fail
    go_quiet (fail)
    go_wp2_with fail
    go_quiet (fail)
    generalize hW : World.drewN _ _ = W
    have HQ : Hid (P (.returned (.bool true)) W) := Lib.hid (by
     rw [HP.out, ← hW]
     exact ⟨rfl, HD2.out _ _⟩)
    have HHP := Lib.hid (hp_c W HS.out)
    have hs := HS.out
    clear hW HS HI HDR HD2 HT hsl c0 c1 cf
    cases hs
    all_goals
     go_wp2_with fail
     first
      | refine (sort_c _ _ 2 (by decide)).mono ?_
      | refine (sort_c _ _ 3 (by decide)).mono ?_
      | refine (sort_c _ _ 4 (by decide)).mono ?_
      | refine (sort_c _ _ 7 (by decide)).mono ?_
      | refine (sort_c _ _ 5 (by decide)).mono ?_
     rintro y w1 ⟨rfl, rfl⟩
     go_wp2_with fail
     refine HHP.out.mono ?_
     rintro y w1 ⟨rfl, rfl⟩
     go_wp2_with fail
     exact HQ.out
  ·have hpa : p = a := by rcases HI.out.2.2.2 with h | h <;> omega
   subst hpa
   have hlt' : (p : Int) < (T.length : Int) := by omega
   have hp0 : (0 : Int) ≤ (p : Int) := by omega
   have hp1 : (p : Int) ≤ (T.length : Int) := by omega
   have hsl := slice_end T p
   have HTO : Hid (∀ W, LexAt W bx T p 1 en v → Calls Tryz.prog 108 #[.pointer (some ⟨bx, 0, none⟩), .int .i64 1] W fun e w' => e = .returned (.tuple #[]) ∧ LexAt w' bx T (p + 1) 1 en v ∧ Fr (· = bx) W w') := Lib.hid fun W hW => by
    have := to_any W bx T p 1 en v hW 1 1 rfl (by omega) (by have := HT.out.1; omega) (by decide)
    rwa [HT.out.2] at this
   have HE := Lib.hid (And.intro e1 hAt)
   generalize T.drop p = S at *
   clear hlt e1 hAt
   rcases hbl with rfl | rfl
   all_goals
    go_wp2_with fail
    go_quiet (fail)
    go_wp2_with fail
    go_quiet (fail)
    generalize hW : World.drewN _ _ = W
    have HW : Hid (LexAt W bx T p 1 en v ∧ Fr (· = bx) w W) := Lib.hid (by
     rw [← hW]
     exact HD2.out _ _)
    clear hW HI HDR HD2 hsl c0 c1 cf
    go_wp2_with fail
    refine (sort_c _ _ 1 (by decide)).mono ?_
    rintro y w1 ⟨rfl, rfl⟩
    go_wp2_with fail
    refine (HTO.out _ HW.out.1).mono ?_
    rintro y w2 ⟨rfl, k1, k2⟩
    have HN := Lib.hid (And.intro k1 (HW.out.2.trans k2))
    clear k1 k2
    go_wp2_with fail
    go_roundg (k + 1 - (p + 1))
    case rel => exact ⟨p + 1, rfl, Lib.hid ⟨.inl ⟨HE.out.1, HE.out.1 ▸ HE.out.2⟩, HN.out.1, HN.out.2, .inl HE.out.1.symm⟩⟩
    case measure => have := HE.out.1; omega
open Go.RowKit Go.Maps
set_option maxHeartbeats 8000000 in
theorem atom_open (u : World) (rb : Nat) (v : RdV) (ts : List Tok) (s : RdS) (B : Nat) (h : RdAt u rb v ts s B) (l : List FrV) (hrow : WRow u rb v.wv l) (hl : l.length ≤ 100000) (t : Tok) (hk : t.kind = 1) (hst : t.s = [112]) (ho : t.opn = true) (hp : isP ts (s.at' + 1) 40 = true) :
    Calls Tryz.prog 53 #[.pointer (some ⟨rb, 0, none⟩), tokW t] u fun e u' => e = .returned (.tuple #[]) ∧ ∃ wv', RdAt u' rb { v with wv := wv' } ts (((s.go 1).go 1).await ⟨2, 0, [112], 0, []⟩ 999) B ∧ WRow u' rb wv' (l ++ [⟨2, s.most, [112], 0, none, 0, 0⟩]) ∧ Fr (fun k => k = rb ∨ v.wv.ownBlock = some k) u u' := by
 obtain ⟨P, hP⟩ : ∃ P : Ending → World → Prop, P = fun e u' => e = .returned (.tuple #[]) ∧ ∃ wv', RdAt u' rb { v with wv := wv' } ts (((s.go 1).go 1).await ⟨2, 0, [112], 0, []⟩ 999) B ∧ WRow u' rb wv' (l ++ [⟨2, s.most, [112], 0, none, 0, 0⟩]) ∧ Fr (fun k => k = rb ∨ v.wv.ownBlock = some k) u u' := ⟨_, rfl⟩
 rw [← hP]
 have HP := Lib.hid hP
 have hf := h.few
 have hat := isP_lt hp
 have hwr : IntKind.i64.wrap ((s.at' : Int) + 1) = (s.at' : Int) + 1 := IntWalk.i64_in _ (by omega)
 have HA := Lib.hid h
 have HR := Lib.hid hrow
 have HPP := Lib.hid (And.intro hp hl)
 have HAT := Lib.hid hat
 obtain ⟨k, ln, n, st, op, ti⟩ := t
 simp only at hk hst ho
 subst hk hst ho
 have ha : Below u.heap.size u (u.alloc (.cells #[.int .i64 1, .int .i64 ln, .int .i64 n, .string ⟨#[112]⟩, .bool true, .bool ti] 127)) := (Below.refl _ _).alloc (Nat.le_refl _) _
 have HW := Lib.hid ha
 have HA0 := Lib.hid (HA.out.later ha)
 clear ha h hrow hl hp hP hat hf
 simp only [tokW]
 go_enter Tryz.func53, Tryz.ntmps53
 go_wp2_with fail
 refine (peek_any _ rb v ts s B HA0.out 1 (by omega)).mono ?_
 rintro e w1 ⟨rfl, hb1⟩
 obtain ⟨k2, ln2, n2, st2, op2, ti2⟩ := peekF ts (s.at' + 1)
 simp only [tokW]
 have HB1 := Lib.hid (below_call' HW.out hb1)
 obtain ⟨n0, n1, n2', n3, n4, n5, nf⟩ := six_at (w1 := w1) (b := u.heap.size) ((hb1.block u.heap.size (by simp)).trans (heap_alloc_new u _))
 have HA1 := Lib.hid (HA.out.later HB1.out)
 have HR1 : Hid (WRow w1 rb v.wv l) := Lib.hid (HR.out.later HB1.out)
 have c1 : w1.cell? ⟨rb, 1, none⟩ = some (.int .i64 (s.at' : Int)) := HA1.out.blk.cell (i := 1) rfl
 have cf := HA1.out.blk.free
 have hrl := HA1.out.blk.lt
 have hul : u.heap.size < w1.heap.size := World.block_lt_of_cell? w1 _ n0
 obtain ⟨X, hX⟩ : ∃ X, X = (w1.setCell ⟨rb, 1, none⟩ (.int .i64 ((s.at' : Int) + 1))).alloc (.cells #[.int .i64 k2, .int .i64 ln2, .int .i64 n2, .string ⟨st2.toArray⟩, .bool op2, .bool ti2] 127) := ⟨_, rfl⟩
 have hbz : ∀ (w : World) (o : Obj), Below w.heap.size w (w.alloc o) := fun w o => (Below.refl _ _).alloc (Nat.le_refl _) _
 have HX : Hid (RdAt X rb v ts (s.go 1) B ∧ WRow X rb v.wv l ∧ Fr (· = rb) u X ∧ X.heap[u.heap.size]? = some (.cells #[.int .i64 1, .int .i64 ln, .int .i64 n, .string ⟨#[112]⟩, .bool true, .bool ti] 127 (0, 0))) := Lib.hid (by
  rw [hX]
  refine ⟨(HA1.out.put (v' := v) (s' := s.go 1) 1 _ (by simp [rdCells, RdS.go]) rfl rfl (by show s.at' + 1 ≤ _; have := HAT.out; omega)).later (hbz _ _), Row.later (WRow.put HR1.out 1 _) (hbz _ _), ((Fr.of_below (· = rb) HB1.out).setCell (p := ⟨rb, 1, none⟩) (.inl rfl) _).step (hbz _ _), ?_⟩
  rw [Below.heap_alloc _ _ _ (show u.heap.size < (w1.setCell ⟨rb, 1, none⟩ (.int .i64 ((s.at' : Int) + 1))).heap.size by rw [World.size_setCell]; exact hul), Below.heap_setCell _ _ _ _ (show u.heap.size ≠ rb by have := HA.out.blk.lt; omega)]
  exact (hb1.block u.heap.size (by simp)).trans (heap_alloc_new u _))
 clear hb1 hbz
 go_upto_region 6 with fail
 rw [← hX]
 clear hX c1 cf hrl hul n0 n1 n2' n3 n4 n5 nf hwr
 obtain ⟨n0, n1, n2', n3, n4, n5, nf⟩ := six_at HX.out.2.2.2
 go_wp2_with fail
 refine (arguments_any X rb v ts (s.go 1) B HX.out.1 l HX.out.2.1 HPP.out.2 [112]).mono ?_
 rintro e w2 ⟨hF, h2⟩
 rw [if_pos (show isP ts (s.go 1).at' 40 = true from HPP.out.1)] at h2
 obtain ⟨rfl, wv', r1, r2⟩ := h2
 have HQ : Hid (P (.returned (.tuple #[])) w2) := Lib.hid (by
  rw [HP.out]
  exact ⟨rfl, wv', r1, r2, (HX.out.2.2.1.weak fun k hk => .inl hk).trans hF⟩)
 clear hF r1 r2
 go_wp2_with fail
 exact bodyPost_end (v := .tuple #[]) (by simp [results, Tryz.results53, go_sem]) rfl HQ.out
set_option maxHeartbeats 8000000 in
theorem primary_to (F : Nat) (u : World) (rb bb : Nat) (v : RdV) (ts : List Tok) (s : RdS) (B : Nat) (Q : Ending → World → Prop) (h : RdAt u rb v ts s B) (hbv : v.bv = .map (some bb)) (hbeg : MapAt u bb evI (evF rb) begL) (hkd : okI (peekF ts s.at').kind) (hm : mget begL (peekF ts s.at').kind = some F) (hF : F = 49 ∨ F = 50 ∨ F = 53)
    (hQ : ∀ e w, Q e w → e = .returned (.tuple #[])) (hc : ∀ W, Below u.heap.size u W → Calls Tryz.prog F #[.pointer (some ⟨rb, 0, none⟩), tokW (peekF ts s.at')] W Q) :
    Calls Tryz.prog 122 #[.pointer (some ⟨rb, 0, none⟩)] u Q := by
 have HA := Lib.hid h
 have HG := Lib.hid hbeg
 have HC := Lib.hid hc
 have HQ := Lib.hid hQ
 clear h hbeg hc hQ
 obtain ⟨p1, hp1⟩ : ∃ p, p = peekF ts s.at' := ⟨_, rfl⟩
 have HPE := Lib.hid hp1
 rw [← hp1] at hkd hm HC
 clear hp1
 obtain ⟨k, ln, n, st, op, ti⟩ := p1
 simp only at hkd hm
 go_enter Tryz.func122, Tryz.ntmps122
 go_wp2_with fail
 refine (peek_any _ rb v ts s B HA.out 0 (by omega)).mono ?_
 rintro e w1 ⟨rfl, hb1⟩
 rw [show s.at' + 0 = s.at' from rfl, ← HPE.out]
 simp only [tokW]
 obtain ⟨W, hW⟩ : ∃ W, W = w1.alloc (.cells #[.int .i64 k, .int .i64 ln, .int .i64 n, .string ⟨st.toArray⟩, .bool op, .bool ti] 127) := ⟨_, rfl⟩
 have hbW : Below u.heap.size u W := by rw [hW]; exact hb1.alloc hb1.size _
 have HBW := Lib.hid hbW
 have HAW := Lib.hid (HA.out.later hbW)
 have hlk := beg_look (u := W.drew) (HG.out.keep (hbW.drew.block _ HG.out.lt)) k hkd
 rw [hm] at hlk
 simp only [Option.map_some, Option.getD_some, Option.isSome_some] at hlk
 have c3 : W.cell? ⟨rb, 3, none⟩ = some (.map (some bb)) := (HAW.out.blk.cell (i := 3) rfl).trans (congrArg some hbv)
 have hn : W.heap[w1.heap.size]? = some (.cells #[.int .i64 k, .int .i64 ln, .int .i64 n, .string ⟨st.toArray⟩, .bool op, .bool ti] 127 (0, 0)) := by rw [hW]; exact heap_alloc_new w1 _
 obtain ⟨n0, n1, n2, n3, n4, n5, nf⟩ := six_at hn
 have HCW := Lib.hid (HC.out W.drew hbW.drew)
 clear hb1 hbW hn hm
 unfold evF at hlk
 simp only [tokW] at HCW
 go_upto_region 1 with fail
 rw [← hW]
 clear hW
 go_region
 clear hlk c3
 rcases hF with rfl | rfl | rfl
 all_goals
  go_wp2_with fail
  refine HCW.out.mono ?_
  rintro e w2 hq
  obtain rfl := HQ.out _ _ hq
  have HQQ := Lib.hid hq
  clear hq n0 n1 n2 n3 n4 n5 nf
  go_wp2_with fail
  exact bodyPost_end (v := .tuple #[]) (by simp [results, Tryz.results122, go_sem]) rfl HQQ.out
set_option maxHeartbeats 8000000 in
theorem operator_stop (u : World) (rb : Nat) (v : RdV) (ts : List Tok) (s : RdS) (B : Nat) (h : RdAt u rb v ts s B) (hk1 : (peekF ts s.at').kind ≠ 1) (hk2 : (peekF ts s.at').kind ≠ 2) (hc : isP ts s.at' 44 = false) :
    Calls Tryz.prog 123 #[.pointer (some ⟨rb, 0, none⟩)] u fun e u' => e = .returned (.bool false) ∧ Below u.heap.size u u' := by
 have HA := Lib.hid h
 have HC := Lib.hid hc
 have d1 : ((peekF ts s.at').kind != 1) = true := by rw [bne_iff_ne]; exact hk1
 have d2 : ((peekF ts s.at').kind != 2) = true := by rw [bne_iff_ne]; exact hk2
 clear h hc hk1 hk2
 obtain ⟨p1, hp1⟩ : ∃ p, p = peekF ts s.at' := ⟨_, rfl⟩
 have HPE := Lib.hid hp1
 rw [← hp1] at d1 d2
 clear hp1
 obtain ⟨k, ln, n, st, op, ti⟩ := p1
 simp only at d1 d2
 go_enter Tryz.func123, Tryz.ntmps123
 go_wp2_with fail
 refine (peek_any _ rb v ts s B HA.out 0 (by omega)).mono ?_
 rintro e w1 ⟨rfl, hb1⟩
 rw [show s.at' + 0 = s.at' from rfl, ← HPE.out]
 simp only [tokW]
 obtain ⟨W, hW⟩ : ∃ W, W = w1.alloc (.cells #[.int .i64 k, .int .i64 ln, .int .i64 n, .string ⟨st.toArray⟩, .bool op, .bool ti] 127) := ⟨_, rfl⟩
 have hbW : Below u.heap.size u W := by rw [hW]; exact hb1.alloc hb1.size _
 have HBW := Lib.hid hbW
 have hn : W.heap[w1.heap.size]? = some (.cells #[.int .i64 k, .int .i64 ln, .int .i64 n, .string ⟨st.toArray⟩, .bool op, .bool ti] 127 (0, 0)) := by rw [hW]; exact heap_alloc_new w1 _
 obtain ⟨n0, n1, n2, n3, n4, n5, nf⟩ := six_at hn
 clear hb1 hbW hn
 go_upto_region 2 with fail
 rw [← hW]
 clear hW
 go_wp2_with fail
 refine (is_any W rb v ts s B (HA.out.later HBW.out) 0 (by omega) 44).mono ?_
 rintro e w2 ⟨rfl, hb2⟩
 rw [show s.at' + 0 = s.at' from rfl, HC.out]
 have HB2 := Lib.hid (HBW.out.trans (hb2.mono HBW.out.size))
 clear hb2
 go_wp2_with fail
 go_ret
 exact ⟨rfl, HB2.out⟩
set_option maxHeartbeats 16000000 in
theorem back_one (u : World) (rb : Nat) (v : RdV) (ts : List Tok) (s : RdS) (B : Nat) (m : Int) (h : RdAt u rb v ts s B) (hrow : WRow u rb v.wv [⟨2, m, [112], 0, none, 0, 0⟩]) (S : Nat → Prop) (hS : ∀ b, S b → TyB u 27 b) (hx : TermS u S v.x s.t) (h41 : isP ts s.at' 41 = true) (h44 : isP ts s.at' 44 = false) :
    Calls Tryz.prog 124 #[.pointer (some ⟨rb, 0, none⟩)] u fun e u' => e = .returned (.tuple #[]) ∧ ∃ wv' g c, RdAt u' rb { v with wv := wv', x := ⟨4, 0, [112], some ⟨g, 0, none⟩, 1, c⟩ } ts ((({ s with wait := [], most := m } : RdS).go 1).done (.mk 4 0 [112] [s.t]) 0) B ∧ WRow u' rb wv' [] ∧ TermS u' (fun b => S b ∨ (u.heap.size ≤ b ∧ TyB u' 27 b)) ⟨4, 0, [112], some ⟨g, 0, none⟩, 1, c⟩ (.mk 4 0 [112] [s.t]) ∧ Fr (· = rb) u u' := by
 obtain ⟨P, hP⟩ : ∃ P : Ending → World → Prop, P = fun e u' => e = .returned (.tuple #[]) ∧ ∃ wv' g c, RdAt u' rb { v with wv := wv', x := ⟨4, 0, [112], some ⟨g, 0, none⟩, 1, c⟩ } ts ((({ s with wait := [], most := m } : RdS).go 1).done (.mk 4 0 [112] [s.t]) 0) B ∧ WRow u' rb wv' [] ∧ TermS u' (fun b => S b ∨ (u.heap.size ≤ b ∧ TyB u' 27 b)) ⟨4, 0, [112], some ⟨g, 0, none⟩, 1, c⟩ (.mk 4 0 [112] [s.t]) ∧ Fr (· = rb) u u' := ⟨_, rfl⟩
 rw [← hP]
 have HP := Lib.hid hP
 obtain ⟨g, cap, hsh, hg0, hg1, hcap, hcs⟩ := hrow.cells encFr_len (by simp)
 rw [show ([⟨2, m, [112], 0, none, 0, 0⟩] : List FrV).length = 1 from rfl] at hsh hcap
 have e0 := (hcs 0 _ rfl 0 _ rfl).1
 have e1 := (hcs 0 _ rfl 1 _ rfl).1
 have e2 := (hcs 0 _ rfl 2 _ rfl).1
 have e3 := (hcs 0 _ rfl 3 _ rfl).1
 have e4 := (hcs 0 _ rfl 4 _ rfl).1
 simp only [Nat.zero_mul, Nat.zero_add] at e0 e1 e2 e3 e4
 have c4 : u.cell? ⟨rb, 4, none⟩ = some (.slice (some ⟨g, 0, none⟩) 1 cap) := (h.blk.cell (i := 4) rfl).trans (congrArg some hsh)
 have c5 : u.cell? ⟨rb, 5, none⟩ = some (.int .i64 s.most) := h.blk.cell (i := 5) rfl
 have cf := h.blk.free
 have hrl := h.blk.lt
 have hN1 : (1 : Int) ≤ (cap : Int) := by omega
 have hN2 : (0 : Int) ≤ (cap : Int) := by omega
 have hN3 : 0 ≤ cap := Nat.zero_le _
 have HH := Lib.hid (And.intro h (And.intro hrow (And.intro hx (And.intro h41 h44))))
 have HSS := Lib.hid hS
 clear h hrow hx hS h41 h44 hcs hP
 go_enter Tryz.func124, Tryz.ntmps124
 go_wp2_with fail
 go_region
 go_upto_region 1 with fail
 go_region
 go_upto_region 15 with fail
 obtain ⟨W, hW⟩ : ∃ W, W = (((u.setCell ⟨rb, 4, none⟩ (.slice (some ⟨g, 0, none⟩) 0 cap)).setCell ⟨rb, 5, none⟩ (.int .i64 m)).alloc (.cells #[.int .i64 2, .int .i64 m, .string ⟨#[112]⟩, .int .i64 0, .slice none 0 0] 193)).drew.drew := ⟨_, rfl⟩
 obtain ⟨fb, hfb⟩ : ∃ fb, fb = u.heap.size := ⟨_, rfl⟩
 have hbz : ∀ (w : World) (o : Obj), Below w.heap.size w (w.alloc o).drew.drew := fun w o => ((Below.refl _ _).alloc (Nat.le_refl _) _).drew.drew
 have hsz : ((u.setCell ⟨rb, 4, none⟩ (.slice (some ⟨g, 0, none⟩) 0 cap)).setCell ⟨rb, 5, none⟩ (.int .i64 m)).heap.size = u.heap.size := by rw [World.size_setCell, World.size_setCell]
 have HW : Hid (RdAt W rb { v with wv := .slice (some ⟨g, 0, none⟩) 0 cap } ts { s with wait := [], most := m } B ∧ WRow W rb (.slice (some ⟨g, 0, none⟩) 0 cap) [] ∧ Fr (· = rb) u W ∧ W.heap[fb]? = some (.cells #[.int .i64 2, .int .i64 m, .string ⟨#[112]⟩, .int .i64 0, .slice none 0 0] 193 (0, 0)) ∧ TermS W S v.x s.t ∧ u.heap.size ≤ fb ∧ fb < W.heap.size) := Lib.hid (by
  have hF : Fr (· = rb) u W := by
   rw [hW]
   exact ((((Fr.refl (· = rb) u).setCell (p := ⟨rb, 4, none⟩) (.inl rfl) _).setCell (p := ⟨rb, 5, none⟩) (.inl rfl) _).alloc _).drew.drew
  have h1 := HH.out.1.put (v' := { v with wv := .slice (some ⟨g, 0, none⟩) 0 cap }) (s' := { s with wait := [] }) 4 (.slice (some ⟨g, 0, none⟩) 0 cap) (by simp [rdCells]) rfl rfl HH.out.1.in'
  have h2 := h1.put (v' := { v with wv := .slice (some ⟨g, 0, none⟩) 0 cap }) (s' := { s with wait := [], most := m }) 5 (.int .i64 m) (by simp [rdCells]) rfl rfl HH.out.1.in'
  have h3 : W.heap[fb]? = some (.cells #[.int .i64 2, .int .i64 m, .string ⟨#[112]⟩, .int .i64 0, .slice none 0 0] 193 (0, 0)) := by
   rw [hW, hfb, ← hsz]
   exact heap_alloc_new _ _
  refine ⟨?_, ?_, hF, h3, HH.out.2.2.1.keep (fun b hb => hb) (fun b hb => hF.block b (HSS.out b hb).lt ((HSS.out b hb).ne ⟨_, HH.out.1.blk⟩ (by decide))), by omega, (Array.getElem?_eq_some_iff.1 h3).1⟩
  ·rw [hW]
   exact h2.later (hbz _ _)
  ·have hr := HH.out.2.1
   rw [hsh] at hr
   have h4 := Row.front (l := []) encFr_len hr
   exact Row.keep h4 fun k hk => hF.block k (h4.lt k hk).2 fun e => by have := (h4.lt k hk).1; omega)
 have HGF : Hid (g < fb) := Lib.hid (by omega)
 rw [← hW, ← hfb]
 clear hW hsz hbz e0 e1 e2 e3 e4 c4 c5 cf hrl hN1 hN2 hN3 hg0 hg1 hcap hsh hfb
 obtain ⟨m0, m1, m2, m3, m4, mf⟩ := five_at HW.out.2.2.2.1
 have d7 : W.cell? ⟨rb, 7, none⟩ = some (.int .i64 v.x.k) := HW.out.1.blk.cell (i := 7) rfl
 have d8 : W.cell? ⟨rb, 8, none⟩ = some (.int .i64 v.x.n) := HW.out.1.blk.cell (i := 8) rfl
 have d9 : W.cell? ⟨rb, 9, none⟩ = some (.string ⟨v.x.s.toArray⟩) := HW.out.1.blk.cell (i := 9) rfl
 have d10 : W.cell? ⟨rb, 10, none⟩ = some (.slice v.x.A v.x.len v.x.cap) := HW.out.1.blk.cell (i := 10) rfl
 have drl := HW.out.1.blk.lt
 have hfl := HW.out.2.2.2.2.2.2
 obtain ⟨ti, tz, h1, h2, h3, h4, h5⟩ := term_info
 have hbo : Below W.heap.size W (W.alloc (.cells #[.int .i64 v.x.k, .int .i64 v.x.n, .string ⟨v.x.s.toArray⟩, .slice v.x.A v.x.len v.x.cap] 27)).drew := ((Below.refl _ _).alloc (Nat.le_refl _) _).drew
 obtain ⟨g9, cap9, w9, hr9, hR9, hg9, ho9⟩ := Row.push (P := Tryz.prog) 25 Tryz.underlying25 h1 h2 h3 h4 (by rw [h5]; rfl) (by decide) encTV_len encTV_one (w := (W.alloc (.cells #[.int .i64 v.x.k, .int .i64 v.x.n, .string ⟨v.x.s.toArray⟩, .slice v.x.A v.x.len v.x.cap] 27)).drew) (Row.nil _ (rb + 1) _ _ _) v.x W.heap.size 1
  (fun j x hx => cell_made W _ _ j x (by simpa [encTV] using hx)) (by simp; unfold maxLen; omega) (by simp) (Nat.le_trans drl hbo.size)
 have hb9 : Below W.heap.size W w9 := hbo.grown hg9 hbo.size fun k hk => by cases hk
 have hF9 : W.heap[fb]? = w9.heap[fb]? := (hb9.block fb hfl).symm
 have hB9 : w9.heap[fb]? = some (.cells #[.int .i64 2, .int .i64 m, .string ⟨#[112]⟩, .int .i64 0, .slice none 0 0] 193 (0, 0)) := hF9.symm.trans HW.out.2.2.2.1
 obtain ⟨p0, p1, p2, p3, p4, pf⟩ := five_at hB9
 have pl : fb < w9.heap.size := (Array.getElem?_eq_some_iff.1 hB9).1
 have hg9u : u.heap.size ≤ g9 := by
  rcases ho9 with e | e
  ·cases e
  ·rw [e]
   exact Nat.le_trans HW.out.2.2.1.size hbo.size
 obtain ⟨w10, hw10⟩ : ∃ w10, w10 = w9.setCell ⟨fb, 4, none⟩ (.slice (some ⟨g9, 0, none⟩) 1 cap9) := ⟨_, rfl⟩
 have hfg : fb ≠ g9 := TyB.ne (t := 193) ⟨_, hB9⟩ (hR9.ty rfl) (by decide)
 have HS : Hid (RdAt w10 rb { v with wv := .slice (some ⟨g, 0, none⟩) 0 cap } ts { s with wait := [], most := m } B ∧ WRow w10 rb (.slice (some ⟨g, 0, none⟩) 0 cap) [] ∧ Fr (· = rb) u w10 ∧ w10.heap[fb]? = some (.cells #[.int .i64 2, .int .i64 m, .string ⟨#[112]⟩, .int .i64 0, .slice (some ⟨g9, 0, none⟩) 1 cap9] 193 (0, 0)) ∧ TermS w10 (fun b => S b ∨ (u.heap.size ≤ b ∧ TyB w10 27 b)) ⟨4, 0, [112], some ⟨g9, 0, none⟩, 1, cap9⟩ (.mk 4 0 [112] [s.t])) := Lib.hid (by
  have hk : ∀ k, k ≠ fb → w10.heap[k]? = w9.heap[k]? := fun k hk => by rw [hw10]; exact Below.heap_setCell _ _ _ _ hk
  have hR := HW.out.1.later hb9
  have hfr : fb ≠ rb := TyB.ne (t := 193) ⟨_, hB9⟩ ⟨_, hR.blk⟩ (by decide)
  have hST : ∀ b, S b → TyB W 27 b := fun b hb => (HSS.out b hb).keep (HW.out.2.2.1.block b (HSS.out b hb).lt ((HSS.out b hb).ne ⟨_, HH.out.1.blk⟩ (by decide)))
  have hkT : ∀ b, TyB W 27 b → w10.heap[b]? = W.heap[b]? := fun b hb => (hk b (hb.ne ⟨_, HW.out.2.2.2.1⟩ (by decide))).trans (hb9.block b hb.lt)
  have hF : Fr (· = rb) u w10 := by
   rw [hw10]
   exact ((HW.out.2.2.1).step hb9).setCell (p := ⟨fb, 4, none⟩) (.inr HW.out.2.2.2.2.2.1) _
  refine ⟨?_, ?_, hF, ?_, ?_⟩
  ·exact hR.keep (hk rb hfr.symm) fun k hk' => hk k (by have := HW.out.1.base; have := HH.out.1.blk.lt; have := HW.out.2.2.2.2.2.1; omega)
  ·exact Row.keep (Row.later HW.out.2.1 hb9) fun k hk' => hk k fun e => by
    have e2 : g = k := Option.some.inj hk'
    have := HGF.out
    omega
  ·rw [hw10]
   exact blk_put hB9 _
  ·have hrow9 : Row w10 (rb + 1) 27 4 encTV (.slice (some ⟨g9, 0, none⟩) 1 cap9) [v.x] := hR9.keep fun k hk' => hk k (by injection hk' with e; subst e; exact hfg.symm)
   have hxx := HW.out.2.2.2.2.1.keep (w' := w10) (S' := fun b => S b ∨ (u.heap.size ≤ b ∧ TyB w10 27 b)) (fun b hb => .inl hb) fun b hb => hkT b (hST b hb)
   exact TermsS.comp (xs := [v.x]) ⟨rfl, fun i y t hy ht => by
    rcases i with _ | i
    ·injection hy with hy; injection ht with ht; subst hy ht; exact hxx
    ·simp at hy⟩ hrow9 rfl (fun g hg => .inr ⟨by have e : g9 = g := Option.some.inj hg; rw [← e]; exact hg9u, hrow9.ty hg⟩) [112] (by decide) 4 0)
 rw [show ([] : List TV).length + 1 = 1 from rfl] at hr9
 clear hg9u h1 h2 h3 h4 h5 hbo hR9 hg9 ho9 hb9 hF9 hB9 hfg
 go_region_law (first | (refine step_run rfl (.tmp 92) (.tmp 97) 25 rfl (by rfl) (by rfl) hr9 ?_))
 all_goals
  clear m0 m1 m2 m3 m4 mf d7 d8 d9 d10 drl hfl p0 p1 p2 p3 p4 pf pl hr9
  go_wp2_with fail
  rw [← hw10]
  refine (accept_any w10 rb _ ts _ B HS.out.1 44).mono ?_
  rintro e w11 ⟨rfl, q1, qF⟩
  rw [show ({ s with wait := [], most := m } : RdS).at' = s.at' from rfl, HH.out.2.2.2.2] at q1 ⊢
  rw [if_neg (by simp)] at q1
  have hfr : fb ≠ rb := TyB.ne (t := 193) ⟨_, HS.out.2.2.2.1⟩ ⟨_, HS.out.1.blk⟩ (by decide)
  have H11 := Lib.hid (And.intro q1 (And.intro qF (And.intro ((qF.block fb (Array.getElem?_eq_some_iff.1 HS.out.2.2.2.1).1 hfr).trans HS.out.2.2.2.1) hfr)))
  clear q1 qF hfr
  go_wp2_with fail
  refine (expect_any w11 rb _ ts _ B H11.out.1 41).mono ?_
  rintro e w12 ⟨qF, q1⟩
  rw [show ({ s with wait := [], most := m } : RdS).at' = s.at' from rfl, HH.out.2.2.2.1, if_pos rfl] at q1
  obtain ⟨rfl, q1⟩ := q1
  have hb12 := (qF.block fb (Array.getElem?_eq_some_iff.1 H11.out.2.2.1).1 H11.out.2.2.2).trans H11.out.2.2.1
  obtain ⟨m0, m1, m2, m3, m4, mf⟩ := five_at hb12
  have H12 := Lib.hid (And.intro q1 ((H11.out.2.1).trans qF))
  clear q1 qF hb12
  go_wp2_with fail
  refine (done_any w12 rb _ ts _ B H12.out.1 ⟨4, 0, [112], some ⟨g9, 0, none⟩, 1, cap9⟩ (.mk 4 0 [112] [s.t]) 0).mono ?_
  rintro e w13 ⟨rfl, q1, qF⟩
  have HQ : Hid (P (.returned (.tuple #[])) w13) := Lib.hid (by
   have hF := H12.out.2.trans qF
   have hkT : ∀ b, TyB w10 27 b → w13.heap[b]? = w10.heap[b]? := fun b hb => hF.block b hb.lt (hb.ne ⟨_, HS.out.1.blk⟩ (by decide))
   have hST : ∀ b, S b → TyB w10 27 b := fun b hb => (HSS.out b hb).keep (HS.out.2.2.1.block b (HSS.out b hb).lt ((HSS.out b hb).ne ⟨_, HH.out.1.blk⟩ (by decide)))
   rw [HP.out]
   exact ⟨rfl, _, g9, cap9, q1, Row.keep HS.out.2.1 fun k hk' => hF.block k (HS.out.2.1.lt k hk').2 fun e => by have := (HS.out.2.1.lt k hk').1; omega, HS.out.2.2.2.2.keep (fun b hb => hb.imp_right fun hb => ⟨hb.1, hb.2.keep (hkT b hb.2)⟩) (fun b hb => hkT b (hb.elim (hST b) fun h => h.2)), HS.out.2.2.1.trans hF⟩)
  clear q1 qF m0 m1 m2 m3 m4 mf
  go_wp2_with fail
  exact bodyPost_end (v := .tuple #[]) (by simp [results, Tryz.results124, go_sem]) rfl HQ.out
end Go.Proofs.YtjdnigepnfeboaaGreatDoor
