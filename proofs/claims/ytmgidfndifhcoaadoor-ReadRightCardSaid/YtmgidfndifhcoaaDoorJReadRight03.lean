import Derived.Test.YtmgidfndifhcoaaDoorJReadRight01
import Derived.Test.YtmgidfndifhcoaaDoorJReadBrackets31
import Derived.Test.YtmgidfndifhcoaaDoorJReadRight00
import Derived.Test.YtmgidfndifhcoaaDoorJReadRight02
import Derived.Deep.RegionHeld3
import Derived.Deep.DrawnRows
import Derived.Test.YtmgidfndifhcoaaDoorJReadBrackets35
import Derived.Deep.Slices
import Derived.Lib.SmallJoins
/-
  The law of ReadRight answers true. Conditions: the tables are laid; the operators' list can be read.
-/
namespace Go.Proofs.YtmgidfndifhcoaaDoor
open Go.RowKit Go.Maps
set_option maxRecDepth 100000

/-- A clause that Read answers, in a block of its own. -/
theorem out_right {u u' : World} {c : ClauseF × Int} {e : Ending} (ho : ReadOut u u' c e) :
    ∃ x An m, e = .returned (.tuple #[clV x (.slice An c.1.names.length m) c.1.line c.1.next, .int .i64 c.2]) ∧
      ∀ U, U = u'.alloc (.cells #[.int .i64 x.k, .int .i64 x.n, .string ⟨x.s.toArray⟩, .slice x.A x.len x.cap, .slice An c.1.names.length m, .int .i64 c.1.line, .int .i64 c.1.next] 28) →
      Below u.heap.size u U ∧ TermAt U U.heap.size x c.1.t ∧ NmAt U U.heap.size An c.1.names.length c.1.names ∧ u'.heap.size < U.heap.size ∧
      U.heap[u'.heap.size]? = some (.cells #[.int .i64 x.k, .int .i64 x.n, .string ⟨x.s.toArray⟩, .slice x.A x.len x.cap, .slice An c.1.names.length m, .int .i64 c.1.line, .int .i64 c.1.next] 28 (0, 0)) := by
  obtain ⟨hb, x, nv, B, rfl, hx, hn⟩ := ho
  obtain ⟨An, m, rfl⟩ := hn.shape
  refine ⟨x, An, m, rfl, fun U hU => ?_⟩
  subst hU
  have hb' := hb.trans ((Below.refl _ _).alloc hb.size (.cells #[.int .i64 x.k, .int .i64 x.n, .string ⟨x.s.toArray⟩, .slice x.A x.len x.cap, .slice An c.1.names.length m, .int .i64 c.1.line, .int .i64 c.1.next] 28))
  refine ⟨hb', ?_, (NmAt.of hn).later ((Below.refl _ _).alloc (Nat.le_refl _) _), by rw [World.size_alloc]; omega, heap_alloc_new _ _⟩
  exact ((hx.at fun b hb => hb.lt) : TermAt u' u'.heap.size x c.1.t).later ((Below.refl _ _).alloc (Nat.le_refl _) _)

theorem defs_up {w : World} {B B' : Nat} {A : Option Addr} {n : Nat} {l : List DefT} (h : DefsAt w B A n l) (hB : B ≤ B') : DefsAt w B' A n l :=
  ⟨h.1, fun i x hx => by
    obtain ⟨b, off, h1, h2, h3⟩ := h.2 i x hx
    exact ⟨b, off, h1, by omega, h3⟩⟩
def evB (b : Bool) : Value := .bool b
theorem met_look {u : World} {b : Nat} {l : List (List UInt8 × Bool)} (h : MapAt u b ekS evB l) (ho : ∀ x ∈ l, okS x.1) (k : List UInt8) (hk : okS k) (hn : mget l k = none) :
    (Instr.lookup 55 (.map (some b)) (.string ⟨k.toArray⟩) false).run Tryd.prog u = .ok (.bool false) u := by
  have := h.lookup (t := 55) strKE Tryd.underlying55 (z := .bool false) (fun u => by kernel_rfl) ho (k := k) hk false
  rw [hn] at this
  exact this
theorem met_put {u : World} {b : Nat} {l : List (List UInt8 × Bool)} (h : MapAt u b ekS evB l) (ho : ∀ x ∈ l, okS x.1) (k : List UInt8) (hk : okS k) (hn : mget l k = none) :
    ∃ w', (Instr.mapUpdate 55 (.map (some b)) (.string ⟨k.toArray⟩) (.bool true)).run Tryd.prog u = .ok () w' ∧ MapAt w' b ekS evB (l ++ [(k, true)]) ∧ u.grownBy w' (some b) ∧ w'.heap.size = u.heap.size := by
  obtain ⟨w', h1, h2, h3, h4⟩ := MapAt.update (P := Tryd.prog) (t := 55) strKE Tryd.underlying55 h ho (k := k) hk true
  have hp : mput l k true = l ++ [(k, true)] := by simp [mput, hn]
  rw [hp] at h2
  exact ⟨w', h1, h2, h3, h4⟩
def metL (l : List (List UInt8 × Int)) : List (List UInt8 × Bool) := l.map fun y => (y.1, true)
/-- The loop over the names: those that were met. -/
structure MetInv (w : World) (mb : Nat) (l : List (List UInt8 × Int)) (k : Nat) (wr : World) : Prop where
  below : Below w.heap.size w wr
  map : MapAt wr mb ekS evB (metL (l.take k))
  mbw : w.heap.size ≤ mb
def lastN (l : List (List UInt8 × Int)) : Nat → Int
  | 0 => -1
  | k + 1 => match l[k]? with
    | some y => y.2
    | none => 0
theorem met_none {l : List (List UInt8 × Int)} (h : l.Pairwise (fun a b => a.1 ≠ b.1)) {k : Nat} {y : List UInt8 × Int} (hy : l[k]? = some y) : mget (metL (l.take k)) y.1 = none := by
  apply mget_none
  intro x hx
  obtain ⟨z, hz, rfl⟩ := List.mem_map.1 hx
  obtain ⟨j, hj⟩ := List.mem_iff_getElem?.1 hz
  rw [List.getElem?_take] at hj
  split at hj
  · rename_i hlt
    obtain ⟨h1, e1⟩ := List.getElem?_eq_some_iff.1 hj
    obtain ⟨h2, e2⟩ := List.getElem?_eq_some_iff.1 hy
    have := List.pairwise_iff_getElem.1 h j k h1 h2 hlt
    rw [e1, e2] at this
    exact this
  · cases hj
theorem last_lt {l : List (List UInt8 × Int)} (h : l.Pairwise (fun a b => a.2 < b.2)) (h0 : ∀ y ∈ l, 0 ≤ y.2) {k : Nat} {y : List UInt8 × Int} (hy : l[k]? = some y) : lastN l k < y.2 := by
  cases k with
  | zero =>
    have := h0 y (List.mem_of_getElem? hy)
    show (-1 : Int) < y.2
    omega
  | succ k =>
    obtain ⟨h2, e2⟩ := List.getElem?_eq_some_iff.1 hy
    have h1 : k < l.length := by omega
    have := List.pairwise_iff_getElem.1 h k (k + 1) h1 h2 (Nat.lt_succ_self _)
    show (match l[k]? with | some y => y.2 | none => 0) < y.2
    rw [List.getElem?_eq_getElem h1]
    rw [e2] at this
    exact this
theorem upTo_at {k i : Nat} (h : i < k) : (upTo k)[i]? = some (i : Int) := by
  unfold upTo
  rw [List.getElem?_map, List.getElem?_range h]
  rfl
theorem upTo_len (k : Nat) : (upTo k).length = k := by unfold upTo; rw [List.length_map, List.length_range]

set_option maxHeartbeats 8000000 in
theorem right_any (w : World) (hE : RdEnv w) (A : Option Addr) (n c : Nat) (l : List DefT) (hl : DefsAt w w.heap.size A n l) (text : List UInt8) (hn63 : (n : Int) ≤ 9223372036854775807) :
    Calls Tryd.prog 5 #[.slice A n c, .string ⟨text.toArray⟩] w fun e w' => e = .returned (.bool true) ∧ Below w.heap.size w w' := by
  have HE := Lib.hid hE
  have HD := Lib.hid hl
  clear hE hl
  go_enter Tryd.func5, Tryd.ntmps5
  go_wp2_with fail
  refine (alive_any w HE.out).mono ?_
  rintro e w1 ⟨rfl, hb1⟩
  have HB1 := Lib.hid hb1
  have HE1 : Hid (RdEnv w1) := Lib.hid (HE.out.later hb1)
  clear hb1 HE
  by_cases hln : 100 < n
  · have hln' : (100 : Int) < (n : Int) := by omega
    go_wp2_with fail
    go_ret
    exact ⟨rfl, HB1.out⟩
  have hln' : ¬ (100 : Int) < (n : Int) := by omega
  by_cases hlt : 1500 < text.length
  · have hlt' : (1500 : Int) < (text.length : Int) := by omega
    go_wp2_with fail
    go_ret
    exact ⟨rfl, HB1.out⟩
  have hlt' : ¬ (1500 : Int) < (text.length : Int) := by omega
  go_wp2_with fail
  have HTK := Lib.hid (tokOk_lex (T := text) (by omega))
  refine (lex_any w1 text (by omega) HE1.out.max).mono ?_
  rintro e w2 ⟨v2, rfl, hr2, hb2⟩
  generalize lexB text = L at HTK hr2 ⊢
  obtain ⟨ts, ln, er⟩ := L
  dsimp only at HTK hr2 ⊢
  obtain ⟨An, cn, rfl⟩ := hr2.shape
  have HB2 := Lib.hid (HB1.out.trans (hb2.mono HB1.out.size))
  have HE2 : Hid (RdEnv w2) := Lib.hid (HE1.out.later hb2)
  have HR2 := Lib.hid hr2
  clear hr2 hb2 HB1 HE1
  go_wp2_with fail
  refine (made_any w2 A n c l (defs_up (HD.out.below HB2.out) HB2.out.size) (by omega) HE2.out.kinds HE2.out.tab).mono ?_
  rintro e w3 ⟨bt, bm, rfl, hI⟩
  have HR3 := Lib.hid (HR2.out.later hI.below)
  have HE3 : Hid (RdEnv w3) := Lib.hid (HE2.out.later hI.below)
  have HB3 := Lib.hid (HB2.out.trans (hI.below.mono HB2.out.size))
  have HRE := Lib.hid (read_any w3 An ts.length cn ts (toks_row HR3.out) HTK.out 0 bt bm (tabMade l) hI.tab HE3.out.kinds)
  clear hI HR2 HE2 HB2
  go_wp2_with fail
  refine HRE.out.mono ?_
  rintro e v0 ho
  clear HRE
  obtain ⟨F, hF⟩ : ∃ F, F = readF (opsOf (tabMade l)) ts 0 := ⟨_, rfl⟩
  have HF := Lib.hid hF.symm
  rw [← hF] at ho
  clear hF
  obtain ⟨⟨ft, fn, fl, fx⟩, fe⟩ := F
  obtain ⟨x, N0, m0, rfl, hU⟩ := out_right ho
  dsimp only at hU ⊢
  unfold clV
  go_upto_region 7 with fail
  obtain ⟨U, hU0⟩ : ∃ U, U = v0.alloc (.cells #[.int .i64 x.k, .int .i64 x.n, .string ⟨x.s.toArray⟩, .slice x.A x.len x.cap, .slice N0 fn.length m0, .int .i64 fl, .int .i64 fx] 28) := ⟨_, rfl⟩
  rw [← hU0]
  obtain ⟨hb, ht, hn, hlz, hc⟩ := hU U hU0
  clear hU0 hU ho
  generalize v0.heap.size = g at hlz hc ⊢
  have HR4 := Lib.hid (HR3.out.later hb)
  have HE4 : Hid (RdEnv U) := Lib.hid (HE3.out.later hb)
  have HB4 := Lib.hid (HB3.out.trans (hb.mono HB3.out.size))
  have HT := Lib.hid ht
  have HN := Lib.hid hn
  have HC := Lib.hid hc
  clear hb ht hn HR3 HE3 HB3
  by_cases hfe : fe ≠ 0
  · have h' : (fe == 0) = false := beq_eq_false_iff_ne.2 hfe
    have h'' : (fe != 0) = true := by simpa using hfe
    obtain ⟨r1, r2⟩ := read_wrong HF.out hfe
    dsimp only at r1 r2
    have hk0 : x.k = 0 := by
      obtain ⟨k1, -, -, -, -, -⟩ := HT.out.open
      rw [r1] at k1
      exact k1.symm
    rw [hk0, r2] at hc
    have f0 : U.cell? ⟨g, 0, none⟩ = some (.int .i64 0) := by rw [cell_of_row U g 0 _ _ (0, 0) hc]; rfl
    have f4 : U.cell? ⟨g, 4, none⟩ = some (.slice N0 0 m0) := by rw [cell_of_row U g 4 _ _ (0, 0) hc]; rfl
    clear hc r1 r2 hk0
    go_wp2_with fail
    go_ret
    exact ⟨rfl, HB4.out⟩
  obtain rfl := Classical.not_not.1 hfe
  clear hfe
  have hRT := read_right HF.out
  obtain ⟨kx, hk1, hk2, hk3, hk7⟩ := hRT.next
  have hline := hRT.line
  dsimp only at hk3 hline
  obtain ⟨tb, tcap, htv, _, htb, _, htc⟩ := HR4.out.cells encTok_len (by rintro rfl; simp at hk2)
  injection htv with hAn _ _
  subst hAn
  have hpk : ∀ i, i < ts.length → ts[i]? = some (peekF ts i) := fun i hi => by
    unfold peekF
    rw [List.getD_eq_getElem?_getD, List.getElem?_eq_getElem hi]
    rfl
  have q7 := (htc kx _ (hpk kx hk2) 0 _ rfl).1
  have ql := (htc 0 _ (hpk 0 (by omega)) 1 _ rfl).1
  simp only [Nat.add_zero, Nat.zero_mul, Nat.zero_add] at q7 ql
  rw [hk7] at q7
  generalize hL0 : (peekF ts 0).line = L0 at ql hline
  rw [hk3, hline] at hc
  have f0 : U.cell? ⟨g, 0, none⟩ = some (.int .i64 x.k) := by rw [cell_of_row U g 0 _ _ (0, 0) hc]; rfl
  have f1 : U.cell? ⟨g, 1, none⟩ = some (.int .i64 x.n) := by rw [cell_of_row U g 1 _ _ (0, 0) hc]; rfl
  have f2 : U.cell? ⟨g, 2, none⟩ = some (.string ⟨x.s.toArray⟩) := by rw [cell_of_row U g 2 _ _ (0, 0) hc]; rfl
  have f3 : U.cell? ⟨g, 3, none⟩ = some (.slice x.A x.len x.cap) := by rw [cell_of_row U g 3 _ _ (0, 0) hc]; rfl
  have f4 : U.cell? ⟨g, 4, none⟩ = some (.slice N0 fn.length m0) := by rw [cell_of_row U g 4 _ _ (0, 0) hc]; rfl
  have f5 : U.cell? ⟨g, 5, none⟩ = some (.int .i64 (L0 : Int)) := by rw [cell_of_row U g 5 _ _ (0, 0) hc]; rfl
  have f6 : U.cell? ⟨g, 6, none⟩ = some (.int .i64 ((kx : Int) + 1)) := by rw [cell_of_row U g 6 _ _ (0, 0) hc]; rfl
  have hsz : ft.size ≤ 10000000 := by have := hRT.size; dsimp only at this; omega
  have hdp : ft.deep ≤ 10000000 := by have := hRT.deep; dsimp only at this; omega
  have hck : checkT ft = 0 := by
    have h1 := hRT.may
    have h2 := hRT.deep
    have h3 := hRT.size
    dsimp only at h1 h2 h3
    unfold checkT
    rw [if_neg (by rw [h1]; decide), if_neg (by omega), if_neg (by omega)]
  have cc : ∀ (p : Addr) (v : Value), U.cell? p = some v → ∀ u, Below U.heap.size U u → u.cell? p = some v := fun p v h u hb => (World.cell?_of_block (hb.block _ (World.block_lt_of_cell? U _ h))).trans h
  have HS : Hid (∀ u, Below U.heap.size U u → u.cell? ⟨g, 0, none⟩ = some (.int .i64 x.k) ∧ u.cell? ⟨g, 1, none⟩ = some (.int .i64 x.n) ∧ u.cell? ⟨g, 2, none⟩ = some (.string ⟨x.s.toArray⟩) ∧ u.cell? ⟨g, 3, none⟩ = some (.slice x.A x.len x.cap) ∧ u.cell? ⟨g, 4, none⟩ = some (.slice N0 fn.length m0) ∧ u.cell? ⟨g, 5, none⟩ = some (.int .i64 (L0 : Int)) ∧ u.cell? ⟨g, 6, none⟩ = some (.int .i64 ((kx : Int) + 1)) ∧ u.cell? ⟨tb, kx * 6, none⟩ = some (.int .i64 7) ∧ u.cell? ⟨tb, 1, none⟩ = some (.int .i64 (L0 : Int))) := Lib.hid fun u hb => ⟨cc _ _ f0 u hb, cc _ _ f1 u hb, cc _ _ f2 u hb, cc _ _ f3 u hb, cc _ _ f4 u hb, cc _ _ f5 u hb, cc _ _ f6 u hb, cc _ _ q7 u hb, cc _ _ ql u hb⟩
  have HCK : Hid (∀ u, Below U.heap.size U u → Calls Tryd.prog 17 #[tvV x] u fun e u' => e = .returned (.int .i64 0) ∧ Below U.heap.size U u') := Lib.hid fun u hb => by
    refine (check_any u x ft (HT.out.keep hb.size hb.block) hsz hdp).mono ?_
    rintro e u' ⟨rfl, hb'⟩
    exact ⟨by rw [hck], hb.trans (hb'.mono hb.size)⟩
  have HRT := Lib.hid hRT
  have HLZ := Lib.hid hlz
  have HNF : Hid (fn.length ≤ 100000) := Lib.hid (by have h1 := read_names (i := 0) HF.out; have h2 := HTK.out.few; dsimp only at h1; omega)
  have HOKN : Hid (∀ y ∈ fn, okS y.1) := Lib.hid (read_short (M := 1000000) HTK.out.short HF.out)
  have HX4 := Lib.hid (And.intro f4 (And.intro f0 (And.intro f1 (And.intro f2 f3))))
  have hbr := Below.refl U.heap.size U
  have hbd : Below U.heap.size U U.drew := (Below.refl U.heap.size U).drew
  have hw9 : IntKind.i64.wrap ((kx : Int) + 1 - 1) = (kx : Int) := by rw [show ((kx : Int) + 1 - 1) = kx by omega]; exact IntWalk.i64_in _ (by have := HTK.out.few; omega)
  have hkx0 : decide ((kx : Int) + 1 < 2) = false := decide_eq_false (by omega)
  have hkx1 : (kx : Int) < (ts.length : Int) := by omega
  have hw10 : IntKind.i64.wrap (kx : Int) = (kx : Int) := IntWalk.i64_in _ (by have := HTK.out.few; omega)
  have hw11 : ((kx : Int) + 1 - 1) = (kx : Int) := by omega
  have hts0 : (0 : Int) < (ts.length : Int) := by omega
  have hts2 : 0 < ts.length := by omega
  have hts3 : ¬ ts = [] := by rintro rfl; simp at hk2
  have hLL : (L0 != L0) = false := by simp
  have hts1 : ts.length ≤ 20000 := HTK.out.few
  clear f0 f1 f2 f3 f4 f5 f6 q7 ql cc hc hck hsz hdp hRT hk3 hk7 hline hpk htc hlz HC hL0 HF
  rw [tvV_lit] at HCK
  go_wp2_with fail
  go_region_held3 (fun u => u.cell? ⟨g, 0, none⟩ = some (.int .i64 x.k) ∧ u.cell? ⟨g, 1, none⟩ = some (.int .i64 x.n) ∧ u.cell? ⟨g, 2, none⟩ = some (.string ⟨x.s.toArray⟩) ∧ u.cell? ⟨g, 3, none⟩ = some (.slice x.A x.len x.cap) ∧ u.cell? ⟨g, 4, none⟩ = some (.slice N0 fn.length m0) ∧ u.cell? ⟨g, 5, none⟩ = some (.int .i64 (L0 : Int)) ∧ u.cell? ⟨g, 6, none⟩ = some (.int .i64 ((kx : Int) + 1)) ∧ u.cell? ⟨tb, kx * 6, none⟩ = some (.int .i64 7) ∧ u.cell? ⟨tb, 1, none⟩ = some (.int .i64 (L0 : Int)))
    (first | (with_reducible exact HS.out _ (by assumption)))
    (first | (go_at_call 17; with_reducible refine (HCK.out _ (by assumption)).mono ?_; rintro e u1 ⟨rfl, hb1⟩))
  have hmm := @run_makeMap Tryd.prog
  obtain ⟨-, -, -, -, f4, -⟩ := HS.out u1 hb1
  have HU1 := Lib.hid (HB4.out.trans (hb1.mono HB4.out.size))
  have HN1 := Lib.hid (HN.out.keep hb1.size hb1.block)
  have HT1 := Lib.hid (HT.out.keep hb1.size hb1.block)
  have HX1 := Lib.hid (HS.out u1 hb1)
  have HLF : Hid (fn.length ≤ 100000) := HNF
  have hlf := HLF.out
  have hg1 : g < u1.heap.size := Nat.lt_of_lt_of_le HLZ.out hb1.size
  clear hbr hbd hw9 hkx0 hkx1 hts0 hts1 hts2 hts3 hLL hw10 hw11 hb1 HCK HX4 HN HT HE4
  go_wp2_with fail
  go_loopw [83, 11] (fun i z wr => ∃ k : Nat, k ≤ fn.length ∧ i = .int .i64 k ∧ z = .int .i64 (lastN fn k) ∧ Hid (MetInv u1 u1.heap.size fn k wr)) (fun i _ _ => fn.length - (intOf i).toNat)
  case atStart => exact ⟨0, Nat.zero_le _, rfl, rfl, Lib.hid ⟨(Below.refl _ _).alloc (Nat.le_refl _) _, MapAt.made u1, Nat.le_refl _⟩⟩
  case round =>
    obtain ⟨k, hk, rfl, rfl, HI⟩ := hrel
    clear hmm
    by_cases hlt3 : k < fn.length
    · have hx := List.getElem?_eq_getElem hlt3
      generalize fn[k] = y at hx
      obtain ⟨nb, hA, hnb, c0, c1⟩ := HN1.out.at' k y hx
      rw [← HI.out.below.cell (p := ⟨nb, k * 2, none⟩) hnb] at c0
      rw [← HI.out.below.cell (p := ⟨nb, k * 2 + 1, none⟩) hnb] at c1
      have hyok : okS y.1 := HOKN.out y (List.mem_of_getElem? hx)
      have hall : ∀ z ∈ metL (fn.take k), okS z.1 := fun z hz => by
        obtain ⟨q, hq, rfl⟩ := List.mem_map.1 hz
        exact HOKN.out q (List.mem_of_mem_take hq)
      have hno := met_none HRT.out.once hx
      have hm2 : MapAt (wr.alloc (.cells #[.string ⟨y.1.toArray⟩, .int .i64 y.2] 57)) u1.heap.size ekS evB (metL (fn.take k)) := HI.out.map.alloc _
      have hlk := met_look hm2 hall y.1 hyok hno
      obtain ⟨w9, hup, hM9, hG9, hs9⟩ := met_put (u := (wr.alloc (.cells #[.string ⟨y.1.toArray⟩, .int .i64 y.2] 57)).drew) hm2.drew hall y.1 hyok hno
      have b95 : (y.1 == [95]) = false := beq_eq_false_iff_ne.2 (HRT.out.blank y (List.mem_of_getElem? hx))
      have hll := last_lt HRT.out.up HRT.out.low hx
      have hle : ¬ y.2 ≤ lastN fn k := by show ¬ y.2 ≤ lastN fn k; dsimp only at hll; omega
      have hnx : lastN fn (k + 1) = y.2 := by show (match fn[k]? with | some y => y.2 | none => 0) = y.2; rw [hx]
      have htk : metL (fn.take (k + 1)) = metL (fn.take k) ++ [(y.1, true)] := by
        unfold metL
        rw [List.take_add_one, hx, List.map_append]
        rfl
      have HM9 : Hid (MapAt w9 u1.heap.size ekS evB (metL (fn.take (k + 1)))) := Lib.hid (by rw [htk]; exact hM9)
      have HB9 : Hid (Below u1.heap.size u1 w9) := Lib.hid (((HI.out.below.alloc HI.out.below.size _).drew).grown hG9 (by have := HI.out.below.size; simp; omega) fun g e => by cases e; exact Nat.le_refl _)
      have HNX := Lib.hid hnx
      have hbx9 : w9.heap[wr.heap.size]? = some (.cells #[.string ⟨y.1.toArray⟩, .int .i64 y.2] 57 (0, 0)) := (hG9.block wr.heap.size (by simp) (fun e => by have h5 := HI.out.map.lt; injection e with e; omega)).trans (heap_alloc_new wr _)
      have e0 : w9.cell? ⟨wr.heap.size, 0, none⟩ = some (.string ⟨y.1.toArray⟩) := by rw [cell_of_row w9 wr.heap.size 0 _ _ (0, 0) hbx9]; rfl
      have e1 : w9.cell? ⟨wr.heap.size, 1, none⟩ = some (.int .i64 y.2) := by rw [cell_of_row w9 wr.heap.size 1 _ _ (0, 0) hbx9]; rfl
      have hlt4 : (k : Int) < (fn.length : Int) := by omega
      generalize lastN fn k = z at hle
      clear hx hbx9 hm2 hall hno hM9 hG9 hs9 hll hnx htk hyok hnb
      subst hA
      go_wp2_with fail
      go_region
      go_wp2_with fail
      go_roundw
      case rel => exact ⟨k + 1, hlt3, by go_num, by rw [HNX.out], Lib.hid ⟨HB9.out, HM9.out, Nat.le_refl _⟩⟩
      case measure => simp [intOf]; omega
    · have hkn : k = fn.length := by omega
      subst hkn
      obtain ⟨kv, hkv⟩ := HRT.out.vars
      dsimp only at hkv
      have HKV := Lib.hid hkv
      have HKL : Hid (kv ≤ 30000) := Lib.hid (by
        have h1 := firsts_len (varsT ft) []
        have h2 := varsT_len ft
        have h3 := HRT.out.size
        dsimp only at h3
        rw [hkv, upTo_len, List.length_nil] at h1
        omega)
      have hb9 := HI.out.below
      obtain ⟨f0, f1, f2, f3, -, -⟩ := HX1.out
      have hk9 := World.cell?_of_block (a := ⟨g, 0, none⟩) (hb9.block g hg1)
      rw [← World.cell?_of_block (a := ⟨g, 0, none⟩) (hb9.block g hg1)] at f0
      rw [← World.cell?_of_block (a := ⟨g, 1, none⟩) (hb9.block g hg1)] at f1
      rw [← World.cell?_of_block (a := ⟨g, 2, none⟩) (hb9.block g hg1)] at f2
      rw [← World.cell?_of_block (a := ⟨g, 3, none⟩) (hb9.block g hg1)] at f3
      have HT9 := Lib.hid (HT1.out.later hb9)
      have HB9 := Lib.hid (HU1.out.trans (hb9.mono HU1.out.size))
      have HOKV : Hid (∀ n ∈ varsT ft, okI n) := Lib.hid fun n hn => by
        have h1 := firsts_all _ [] n hn
        rw [HKV.out] at h1
        have h2 := (mem_upTo kv n).1 h1
        have h3 := HKL.out
        unfold okI
        omega
      clear hk9 hb9 hkv f4
      go_wp2_with fail
      refine (vars_any wr x ft HT9.out HOKV.out (by have := HRT.out.size; dsimp only at this; omega)).mono ?_
      rintro e w8 ⟨A8, c8, rfl, hr8, hb8⟩
      rw [HKV.out, upTo_len] at hr8 ⊢
      have HR8 := Lib.hid hr8
      have HB8 := Lib.hid (HB9.out.trans (hb8.mono HB9.out.size))
      have hkvl : kv ≤ 30000 := HKL.out
      clear hr8 hb8 f0 f1 f2 f3
      go_wp2_with fail
      go_loopw [112] (fun i wq => ∃ j : Nat, j ≤ kv ∧ i = .int .i64 j ∧ wq = w8) (fun i _ => kv - (intOf i).toNat)
      case atStart => exact ⟨0, Nat.zero_le _, rfl, rfl⟩
      case round =>
        obtain ⟨j, hj, rfl, rfl⟩ := hrel
        by_cases hjl : j < kv
        · have hxj := upTo_at hjl
          obtain ⟨gv, cv, hvv, _, hgv, _, hcv⟩ := HR8.out.cells encN_len (by rintro h; rw [h] at hxj; simp at hxj)
          injection hvv with hA8 hq1 hq2
          clear hq1 hq2
          have c9 := (hcv j _ hxj 0 _ rfl).1
          simp only [Nat.add_zero, Nat.mul_one] at c9
          have hjl' : (j : Int) < (kv : Int) := by omega
          have hjj : ((j : Int) != (j : Int)) = false := by simp
          clear hcv hxj
          subst hA8
          go_wp2_with fail
          go_roundw
          case rel => exact ⟨j + 1, hjl, by go_num, trivial⟩
          case measure => simp [intOf]; omega
        · have hjk : j = kv := by omega
          subst hjk
          go_wp2_with fail
          go_ret
          exact ⟨rfl, HB8.out⟩
end Go.Proofs.YtmgidfndifhcoaaDoor
/-
  Lemmas on what a slice's argument reads as. No condition.
-/
namespace Go.Proofs.YtmgidfndifhcoaaDoor
set_option maxRecDepth 100000
open Go.ChangeShapes Go.WideShapes Go.ChangeAt Go.RowKit Go.Deep

theorem exists_list {α : Type} {Q : Nat → α → Prop} : ∀ (n : Nat), (∀ i, i < n → ∃ x, Q i x) → ∃ l : List α, l.length = n ∧ ∀ i x, l[i]? = some x → Q i x
  | 0, _ => ⟨[], rfl, fun i x h => by simp at h⟩
  | n + 1, h => by
    obtain ⟨l, hl, hq⟩ := exists_list n (fun i hi => h i (by omega))
    obtain ⟨x, hx⟩ := h n (by omega)
    refine ⟨l ++ [x], by simp [hl], fun i y hy => ?_⟩
    by_cases hi : i < l.length
    · rw [List.getElem?_append_left hi] at hy
      exact hq i y hy
    · have : i = l.length := by
        have h1 := (List.getElem?_eq_some_iff.1 hy).1
        simp at h1
        omega
      subst this
      simp at hy
      subst hy
      rw [hl]
      exact hx

/-- The cells of a slice's elements lie one behind the other. -/
theorem addr_of_cell {w : World} {a : Addr} {v : Value} (h : w.cell? a = some v) : a = ⟨a.block, a.off, none⟩ := by
  obtain ⟨b, o, s⟩ := a
  cases s with
  | none => rfl
  | some x =>
    unfold World.cell? at h
    simp only at h
    split at h
    · simp at h
    · cases h
theorem add_lit' (b o i : Nat) : (⟨b, o, none⟩ : Addr).add i = ⟨b, o + i, none⟩ := by unfold Addr.add; split <;> simp_all

/-- Rows of k cells each, behind a slice. -/
theorem rows_at {w : World} {base : Nat} {a : Addr} {k len : Nat} (hk : 0 < k) (h : ∀ i, i < len → ∃ cs, w.cells? base (a.add (i * k)) k = some cs) (hl : 0 < len) : a = ⟨a.block, a.off, none⟩ ∧ a.block < w.heap.size := by
  obtain ⟨cs, hc⟩ := h 0 hl
  obtain ⟨_, h1, h2⟩ := World.cells?_some hc
  have h3 := h2 0 hk
  have h4 : cs[0]? = some (cs[0]'(by omega)) := List.getElem?_eq_getElem _
  rw [h4] at h3
  have e : (a.add (0 * k)).add 0 = a := by simp [Addr.add]
  rw [e] at h3
  exact ⟨addr_of_cell h3, World.block_lt_of_cell? w _ h3⟩
end Go.Proofs.YtmgidfndifhcoaaDoor
/-
  An argument that is a slice of operators' definitions reads as a list. No condition.
-/
namespace Go.Proofs.YtmgidfndifhcoaaDoor
set_option maxRecDepth 100000
open Go.ChangeShapes Go.WideShapes Go.ChangeAt Go.RowKit Go.Deep

theorem defCells : Tryd.prog.cellsOf 101 = 3 := by kernel_rfl
theorem defFields : ∃ f g k : Field, Tryd.prog.underlying 101 = some (.struct #[f, g, k]) ∧ f.type = 3 ∧ g.type = 3 ∧ k.type = 9 ∧ f.offset = 0 ∧ g.offset = 1 ∧ k.offset = 2 := ⟨_, _, _, Tryd.underlying101, rfl, rfl, rfl, rfl, rfl, rfl⟩

theorem defs_of_trod {H : Type} {enc : TypeId × Value → H} {W : World} {base : Nat} {sp : Nat → Bool} {held : Bool} {n : Nat} {v : Value} {y : DataW H × List MemPlace} (h : DataW.trod enc Tryd.prog W base sp held n 52 [v] = some y) :
    ∃ (A : Option Addr) (k c : Nat) (l : List DefT), v = .slice A k c ∧ DefsAt W W.heap.size A k l ∧ k ≤ maxLen := by
  rcases open_slice Tryd.underlying52 h with ⟨h0, _⟩ | ⟨a, len, cap, m, n', D, Pl, hcs, _, hlc, hcm, hm, _, hel⟩
  · obtain rfl : v = .slice none 0 0 := by simpa using h0
    exact ⟨none, 0, 0, [], rfl, ⟨rfl, fun i x h => by simp at h⟩, by simp [maxLen]⟩
  · obtain rfl : v = .slice (some a) len cap := by simpa using hcs
    have hlm : len ≤ m := by rw [hm]; split <;> omega
    rw [defCells] at hel
    obtain ⟨f, g, q, hu, f1, g1, q1, f2, g2, q2⟩ := defFields
    have key : ∀ i, i < len → ∃ x : DefT, ∃ b off, (some a : Option Addr) = some ⟨b, off, none⟩ ∧ b < W.heap.size ∧ W.cell? ⟨b, off + i * 3, none⟩ = some (.int .i64 x.1) ∧ W.cell? ⟨b, off + i * 3 + 1, none⟩ = some (.int .i64 x.2.1) ∧
        W.cell? ⟨b, off + i * 3 + 2, none⟩ = some (.string ⟨x.2.2.toArray⟩) ∧ x.2.2.length ≤ maxLen := by
      intro i hi
      obtain ⟨ha, hb⟩ := rows_at (w := W) (base := base) (a := a) (k := 3) (len := len) (by omega) (fun j hj => by obtain ⟨cs, h1, _⟩ := hel j (by omega); exact ⟨cs, h1⟩) (by omega)
      obtain ⟨cs, h1, h2⟩ := hel i (by omega)
      obtain ⟨_, hl3, hc⟩ := World.cells?_some h1
      obtain ⟨xs, _, _, _, _, hxl, hf⟩ := DataW.trod_struct hu h2
      match cs, hl3 with
      | [c0, c1, c2], _ =>
        have e0 := hf 0 f rfl
        have e1 := hf 1 g rfl
        have e2 := hf 2 q rfl
        rw [f1, f2] at e0
        rw [g1, g2] at e1
        rw [q1, q2] at e2
        rw [show Tryd.prog.cellsOf 3 = 1 from intCells] at e0 e1
        rw [show Tryd.prog.cellsOf 9 = 1 from stringCells] at e2
        simp only [List.drop_zero, List.take_succ_cons, List.take_zero, List.drop_succ_cons] at e0 e1 e2
        have hlen : xs.length = 3 := hxl
        obtain ⟨y0, hy0⟩ : ∃ y0, xs[0]? = some y0 := ⟨_, List.getElem?_eq_getElem (by omega)⟩
        obtain ⟨y1, hy1⟩ : ∃ y1, xs[1]? = some y1 := ⟨_, List.getElem?_eq_getElem (by omega)⟩
        obtain ⟨y2, hy2⟩ : ∃ y2, xs[2]? = some y2 := ⟨_, List.getElem?_eq_getElem (by omega)⟩
        rw [hy0] at e0
        rw [hy1] at e1
        rw [hy2] at e2
        obtain ⟨p, hp, _, _⟩ := DataW.trod_int Tryd.underlying3 e0
        obtain ⟨t, ht, _, _⟩ := DataW.trod_int Tryd.underlying3 e1
        obtain ⟨s, hs, _, hsz⟩ := DataW.trod_string Tryd.underlying9 e2
        simp only [List.cons.injEq, and_true] at hp ht hs
        subst hp ht hs
        have a0 := hc 0 (by omega)
        have a1 := hc 1 (by omega)
        have a2 := hc 2 (by omega)
        rw [ha, add_lit', add_lit'] at a0 a1 a2
        refine ⟨(p, t, s.data.toList), a.block, a.off, by rw [← ha], hb, by simpa using a0, by simpa using a1, by simpa using a2, ?_⟩
        show s.data.toList.length ≤ maxLen
        rw [Array.length_toList]
        exact hsz
    obtain ⟨l, hl, hq⟩ := exists_list len key
    exact ⟨some a, len, cap, l, rfl, ⟨hl, hq⟩, by omega⟩
end Go.Proofs.YtmgidfndifhcoaaDoor
