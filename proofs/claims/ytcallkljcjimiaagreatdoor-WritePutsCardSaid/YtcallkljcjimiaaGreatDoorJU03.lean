import Derived.Test.YtcallkljcjimiaaGreatDoorJU01
import Derived.Test.YtcallkljcjimiaaGreatDoorJU02
namespace Go.Proofs.YtcallkljcjimiaaGreatDoor
open Go.RowKit Go.Maps
set_option maxRecDepth 100000
structure PenAt (u : World) (rt : Nat) (L : List DefT) (es : List (OpK × OpV)) (way : Int) : Prop where
 tab : RTab u rt L
 agree : Agree es L
 few : L.length ≤ 1000
 ways : 0 ≤ way ∧ way ≤ 2
 curl : mget es (1, [123, 125]) = none ∧ mget es (3, [123, 125]) = none
theorem PenAt.later {u u' : World} {rt : Nat} {L : List DefT} {es : List (OpK × OpV)} {way : Int} (h : PenAt u rt L es way) (hb : Below u.heap.size u u') : PenAt u' rt L es way :=
 ⟨h.tab.later hb, h.agree, h.few, h.ways, h.curl⟩
section
variable {u : World} {rt : Nat} {L : List DefT} {es : List (OpK × OpV)} {way : Int}
theorem PenAt.inf (h : PenAt u rt L es way) (n : List UInt8) : Calls Tryz.prog 79 #[.pointer (some ⟨rt, 0, none⟩), .string ⟨n.toArray⟩] u fun e w' => e = .returned (.tuple #[.int .i64 (tsides es 2 n).1, .int .i64 (tsides es 2 n).2.1, .int .i64 (tsides es 2 n).2.2]) ∧ Below u.heap.size u w' := by
 have h1 := rInfix_any u rt L h.tab n (by have := h.few; omega) h.agree.priOk
 rwa [h.agree.inf] at h1
theorem PenAt.pre (h : PenAt u rt L es way) (n : List UInt8) : Calls Tryz.prog 114 #[.pointer (some ⟨rt, 0, none⟩), .string ⟨n.toArray⟩] u fun e w' => e = .returned (.tuple #[.int .i64 (tsides es 1 n).1, .int .i64 (tsides es 1 n).2.2]) ∧ Below u.heap.size u w' := by
 have h1 := rPrefix_any u rt L h.tab n (by have := h.few; omega) h.agree.priOk
 rwa [h.agree.pre] at h1
theorem PenAt.post (h : PenAt u rt L es way) (n : List UInt8) : Calls Tryz.prog 115 #[.pointer (some ⟨rt, 0, none⟩), .string ⟨n.toArray⟩] u fun e w' => e = .returned (.tuple #[.int .i64 (tsides es 3 n).1, .int .i64 (tsides es 3 n).2.1]) ∧ Below u.heap.size u w' := by
 have h1 := rPostfix_any u rt L h.tab n (by have := h.few; omega) h.agree.priOk
 rwa [h.agree.post] at h1
theorem PenAt.is (h : PenAt u rt L es way) (n : List UInt8) : Calls Tryz.prog 116 #[.pointer (some ⟨rt, 0, none⟩), .string ⟨n.toArray⟩] u fun e w' => e = .returned (.bool (isOp es n)) ∧ Below u.heap.size u w' := by
 have h1 := rIs_any u rt L h.tab n (by have := h.few; omega)
 rwa [h.agree.is] at h1
end
abbrev penV (way : Int) (rt : Nat) : Value := .agg #[.int .i64 way, .pointer (some ⟨rt, 0, none⟩)]
set_option maxHeartbeats 4000000 in
theorem pname_any (u : World) (rt : Nat) (way : Int) (s : List UInt8) (hs : s.length ≤ 1000) :
    Calls Tryz.prog 73 #[penV way rt, .string ⟨s.toArray⟩] u fun e u' => e = .returned (.string ⟨(textF way s).toArray⟩) ∧ Below u.heap.size u u' := by
 unfold textF
 by_cases h : way = 0
 ·subst h
  rw [if_pos rfl]
  go_enter Tryz.func73, Tryz.ntmps73
  go_wp2_with fail
  go_ret
  exact ⟨rfl, (Below.refl _ _).alloc (Nat.le_refl _) _⟩
 ·rw [if_neg h]
  have b1 : (way == 0) = false := beq_eq_false_iff_ne.2 h
  go_enter Tryz.func73, Tryz.ntmps73
  go_wp2_with fail
  refine (rput2_any _ s (by omega)).mono ?_
  rintro e w1 ⟨rfl, hb1⟩
  go_wp2_with fail
  go_ret
  exact ⟨rfl, ((Below.refl _ _).alloc (Nat.le_refl _) _).trans (hb1.mono (by simp))⟩
theorem tsides_none9 {es : List (OpK × OpV)} {s : Int} {n : List UInt8} (h : mget es (s, n) = none) : tsides es s n = (0, 0, 0) := by
 unfold tsides
 rw [h]
def opPair (o : Option OpR) : Int × Int := match o with | some o => (o.side, o.pri) | none => (0, 0)
set_option maxHeartbeats 8000000 in
theorem psort_any (u : World) (rt : Nat) (L : List DefT) (es : List (OpK × OpV)) (way : Int) (hP : PenAt u rt L es way) (x : TV) (t : Tm) (hx : TermAt u u.heap.size x t) :
    Calls Tryz.prog 77 #[penV way rt, tvV x] u fun e u' => e = .returned (.tuple #[.int .i64 (opPair (operF es way t)).1, .int .i64 (opPair (operF es way t)).2]) ∧ Below u.heap.size u u' := by
 obtain ⟨k1, k2, k3, k4, k5, -⟩ := hx.open
 obtain ⟨q, hq⟩ : ∃ q, q = consT t := ⟨_, rfl⟩
 obtain ⟨r, hr⟩ : ∃ r, r = opPair (operF es way t) := ⟨_, rfl⟩
 rw [← hr]
 have HO := Lib.hid hr
 unfold operF at HO
 rw [k1, k3, k4, ← hq] at HO
 obtain ⟨W, hW⟩ : ∃ W, W = (u.alloc (.cells #[.int .i64 way, .pointer (some ⟨rt, 0, none⟩)] 98)).alloc (.cells #[.int .i64 x.k, .int .i64 x.n, .string ⟨x.s.toArray⟩, .slice x.A x.len x.cap] 28) := ⟨_, rfl⟩
 have hbW : Below u.heap.size u W := by rw [hW]; exact ((Below.refl _ _).alloc (Nat.le_refl _) _).alloc (by simp) _
 have hp0 : W.heap[u.heap.size]? = some (.cells #[.int .i64 way, .pointer (some ⟨rt, 0, none⟩)] 98 (0, 0)) := by
  rw [hW, Below.heap_alloc _ _ _ (by simp)]
  exact heap_alloc_new _ _
 have hx0 : W.heap[u.heap.size + 1]? = some (.cells #[.int .i64 x.k, .int .i64 x.n, .string ⟨x.s.toArray⟩, .slice x.A x.len x.cap] 28 (0, 0)) := by
  rw [hW]
  have := heap_alloc_new (u.alloc (.cells #[.int .i64 way, .pointer (some ⟨rt, 0, none⟩)] 98)) (.cells #[.int .i64 x.k, .int .i64 x.n, .string ⟨x.s.toArray⟩, .slice x.A x.len x.cap] 28)
  rwa [World.size_alloc] at this
 have HS : Hid (∀ v, Below W.heap.size W v → (v.cell? ⟨u.heap.size, 0, none⟩ = some (.int .i64 way) ∧ v.cell? ⟨u.heap.size, 1, none⟩ = some (.pointer (some ⟨rt, 0, none⟩))) ∧ (v.cell? ⟨u.heap.size + 1, 0, none⟩ = some (.int .i64 x.k) ∧ v.cell? ⟨u.heap.size + 1, 1, none⟩ = some (.int .i64 x.n) ∧ v.cell? ⟨u.heap.size + 1, 2, none⟩ = some (.string ⟨x.s.toArray⟩) ∧ v.cell? ⟨u.heap.size + 1, 3, none⟩ = some (.slice x.A x.len x.cap)) ∧ PenAt v rt L es way ∧ TermAt v v.heap.size x t ∧ Below u.heap.size u v) := Lib.hid fun v hv => by
  have h1 := (hv.block _ (Array.getElem?_eq_some_iff.1 hp0).1).trans hp0
  have h2 := (hv.block _ (Array.getElem?_eq_some_iff.1 hx0).1).trans hx0
  obtain ⟨a0, a1, a2, a3, -⟩ := four_at h2
  have h3 : Below u.heap.size u v := hbW.trans (hv.mono hbW.size)
  exact ⟨⟨by rw [cell_of_row v _ 0 _ _ (0, 0) h1]; rfl, by rw [cell_of_row v _ 1 _ _ (0, 0) h1]; rfl⟩, ⟨a0, a1, a2, a3⟩, hP.later h3, (hx.blw h3).keep h3.size fun _ _ => rfl, h3⟩
 have HC := Lib.hid hP.curl
 have HQ := Lib.hid hq
 clear hr hq k1 k2 k3 k4 hp0 hx0 hbW hx hP
 have hw0 := Below.refl W.heap.size W
 obtain ⟨⟨p0, p1⟩, ⟨y0, y1, y2, y3⟩, -, -, hbe⟩ := HS.out W hw0
 rw [tvV_lit]
 by_cases ek : x.k = 4
 case neg =>
  have hr : r = (0, 0) := by rw [HO.out, if_pos (.inr (.inl ek))]; rfl
  have b1 : (x.k != 4) = true := bne_iff_ne.2 ek
  clear HO HS ek
  go_enter Tryz.func77, Tryz.ntmps77
  go_wp2_with fail
  go_ret2
  exact ⟨by rw [hr]; rfl, by rw [← hW]; exact hbe⟩
 by_cases ew : way = 2
 ·have hr : r = (0, 0) := by rw [HO.out, if_pos (.inl ew)]; rfl
  have b1 : (x.k != 4) = false := by rw [ek]; rfl
  have b2 : (way == 2) = true := by rw [ew]; rfl
  clear HO HS ek ew
  go_enter Tryz.func77, Tryz.ntmps77
  go_wp2_with fail
  go_ret2
  exact ⟨by rw [hr]; rfl, by rw [← hW]; exact hbe⟩
 have b1 : (x.k != 4) = false := by rw [ek]; rfl
 have b2 : (way == 2) = false := beq_eq_false_iff_ne.2 ew
 have EKW := Lib.hid (And.intro ek ew)
 clear ek ew
 go_enter Tryz.func77, Tryz.ntmps77
 go_wp2_with fail
 rw [← hW]
 have hcl := rcons_any W W.heap.size x t (HS.out W hw0).2.2.2.1
 rw [tvV_lit] at hcl
 refine hcl.mono ?_
 rintro e w1 ⟨rfl, hb1⟩
 rw [← HQ.out]
 obtain ⟨⟨q0, q1⟩, ⟨z0, z1, z2, z3⟩, -, -, hbe1⟩ := HS.out w1 hb1
 have HB1 := Lib.hid hb1
 clear p0 p1 y0 y1 y2 y3 hcl hbe hw0 hW hb1
 cases q with
 | true =>
  have hr : r = (0, 0) := by rw [HO.out, if_pos (.inr (.inr rfl))]; rfl
  clear HO HS
  go_wp2_with fail
  go_ret2
  exact ⟨by rw [hr]; rfl, hbe1⟩
 | false =>
  have ho1 := HO.out
  rw [if_neg (by rintro (e | e | e); exact EKW.out.2 e; exact e EKW.out.1; cases e)] at ho1
  have HO1 := Lib.hid ho1
  clear HO ho1
  by_cases hcu : x.s = [123, 125] ∧ x.len = 1
  ·have hr : r = (0, 0) := by
    rw [HO1.out, if_pos hcu.2, hcu.1, tsides_none9 HC.out.1, tsides_none9 HC.out.2]
    rfl
   have b3 : (x.s == [123, 125]) = true := by rw [hcu.1]; rfl
   have b4 : ((x.len : Int) == 1) = true := by rw [hcu.2]; rfl
   clear HO1 HS hcu
   go_wp2_with fail
   go_ret2
   exact ⟨by rw [hr]; rfl, hbe1⟩
  obtain ⟨S2, hS2⟩ : ∃ S, S = tsides es 2 x.s := ⟨_, rfl⟩
  obtain ⟨S1, hS1⟩ : ∃ S, S = tsides es 1 x.s := ⟨_, rfl⟩
  obtain ⟨S3, hS3⟩ : ∃ S, S = tsides es 3 x.s := ⟨_, rfl⟩
  rw [← hS1, ← hS2, ← hS3] at HO1
  have HSD := Lib.hid (And.intro hS1 (And.intro hS2 hS3))
  clear hS1 hS2 hS3
  by_cases hs : x.s = [123, 125]
  case' pos =>
   have b3 : (x.s == [123, 125]) = true := by rw [hs]; rfl
   have b4 : ((x.len : Int) == 1) = false := beq_eq_false_iff_ne.2 fun e => hcu ⟨hs, by omega⟩
   clear hs hcu
  case' neg =>
   have b3 : (x.s == [123, 125]) = false := beq_eq_false_iff_ne.2 hs
   clear hs hcu
  all_goals
   go_wp2_with fail
   refine ((HS.out w1 HB1.out).2.2.1.inf x.s).mono ?_
   rintro e w2 ⟨rfl, hb2⟩
   rw [← HSD.out.2.1]
   have hb2 := HB1.out.trans (hb2.mono HB1.out.size)
   have HB2 := Lib.hid hb2
   obtain ⟨⟨q0, q1⟩, ⟨z0, z1, z2, z3⟩, -, -, hbe2⟩ := HS.out w2 hb2
   clear hb2 hbe1
   by_cases c2 : x.len = 2 ∧ 0 < S2.1
   ·have hr : r = (2, S2.1) := by rw [HO1.out, if_neg (by omega), if_pos c2.1, if_pos c2.2]; rfl
    obtain ⟨c2, c3⟩ := c2
    have b5 : ((x.len : Int) == 2) = true := by rw [c2]; rfl
    clear HO1 HS c2
    go_wp2_with fail
    go_ret2
    exact ⟨by rw [hr]; rfl, hbe2⟩
   have HN2 : Hid (x.len = 2 → ¬ 0 < S2.1) := Lib.hid fun a b => c2 ⟨a, b⟩
   by_cases d2 : x.len = 2
   case' pos =>
    have n2 := HN2.out d2
    have b5 : ((x.len : Int) == 2) = true := by rw [d2]; rfl
   case' neg =>
    have b5 : ((x.len : Int) == 2) = false := beq_eq_false_iff_ne.2 (by omega)
   all_goals
    have C2 := Lib.hid c2
    have HD2 := Lib.hid d2
    clear d2 c2 HN2
    go_wp2_with fail
    refine ((HS.out w2 HB2.out).2.2.1.pre x.s).mono ?_
    rintro e w3 ⟨rfl, hb3⟩
    rw [← HSD.out.1]
    have hb3 := HB2.out.trans (hb3.mono HB2.out.size)
    have HB3 := Lib.hid hb3
    obtain ⟨⟨q0, q1⟩, ⟨z0, z1, z2, z3⟩, -, -, hbe3⟩ := HS.out w3 hb3
    clear hb3 hbe2
    by_cases c1 : x.len = 1 ∧ 0 < S1.1
    ·first | (exfalso; revert b4; rw [c1.1]; decide; done) | (have hr : r = (1, S1.1) := (by rw [HO1.out, if_pos c1.1, if_pos c1.2]; rfl); obtain ⟨c2, c3⟩ := c1; have b6 : ((x.len : Int) == 1) = true := (by rw [c2]; rfl); clear HO1 HS c2; go_wp2_with fail; go_ret2; exact ⟨by rw [hr]; rfl, hbe3⟩)
    have HN1 : Hid (x.len = 1 → ¬ 0 < S1.1) := Lib.hid fun a b => c1 ⟨a, b⟩
    by_cases d1 : x.len = 1
    case' pos =>
     have n1 := HN1.out d1
     have b6 : ((x.len : Int) == 1) = true := by rw [d1]; rfl
    case' neg =>
     have b6 : ((x.len : Int) == 1) = false := beq_eq_false_iff_ne.2 (by omega)
    all_goals
     have C1 := Lib.hid c1
     have HD1 := Lib.hid d1
     clear d1 c1 HN1
     go_wp2_with fail
     refine ((HS.out w3 HB3.out).2.2.1.post x.s).mono ?_
     rintro e w4 ⟨rfl, hb4⟩
     rw [← HSD.out.2.2]
     have hb4 := HB3.out.trans (hb4.mono HB3.out.size)
     obtain ⟨⟨q0, q1⟩, ⟨z0, z1, z2, z3⟩, -, -, hbe4⟩ := HS.out w4 hb4
     clear hb4 hbe3
     by_cases c4 : x.len = 1 ∧ 0 < S3.1
     ·first | exact absurd c4.1 HD1.out | (exfalso; revert b4; rw [c4.1]; decide; done) | (have hr : r = (3, S3.1) := (by rw [HO1.out, if_pos c4.1, if_neg (fun h => C1.out ⟨c4.1, h⟩), if_pos c4.2]; rfl); obtain ⟨c2, c3⟩ := c4; clear HO1 HS c2; go_wp2_with fail; go_ret2; exact ⟨by rw [hr]; rfl, hbe4⟩)
     ·have hr : r = (0, 0) := by
       rw [HO1.out]
       rcases Decidable.em (x.len = 1) with h | h
       ·rw [if_pos h, if_neg (fun k => C1.out ⟨h, k⟩), if_neg (fun k => c4 ⟨h, k⟩)]; rfl
       ·rw [if_neg h]
        rcases Decidable.em (x.len = 2) with h2 | h2
        ·rw [if_pos h2, if_neg (fun k => C2.out ⟨h2, k⟩)]; rfl
        ·rw [if_neg h2]; rfl
      have hn : x.len = 1 → ¬ 0 < S3.1 := fun a b => c4 ⟨a, b⟩
      first | have n3 := hn HD1.out | skip
      clear HO1 HS c4 hn
      go_wp2_with fail
      go_ret2
      exact ⟨by rw [hr]; rfl, hbe4⟩
end Go.Proofs.YtcallkljcjimiaaGreatDoor
namespace Go.Proofs.YtcallkljcjimiaaGreatDoor
open Go.RowKit Go.Maps
set_option maxRecDepth 100000
def PPutC (es : List (OpK × OpV)) (way : Int) (n : Nat) : Prop :=
 ∀ (u : World) (rt : Nat) (L : List DefT) (x : TV) (t : Tm) (most : Int), t.size ≤ n → t.size ≤ 20000 → WfT t → TermAt u u.heap.size x t → PenAt u rt L es way → 0 ≤ most → most ≤ 1200 →
  Calls Tryz.prog 37 #[penV way rt, tvV x, .int .i64 most] u fun e u' => e = .returned (.string ⟨(wrT es way t most).toArray⟩) ∧ Below u.heap.size u u'
def TmsAt (u : World) (A : Option Addr) (l : List Tm) : Prop := ∀ i, i < l.length → ∃ b off y, A = some ⟨b, off, none⟩ ∧ b < u.heap.size ∧ TermAt u u.heap.size y (l.getD i noTm) ∧
 (u.cell? ⟨b, off + i * 4, none⟩ = some (.int .i64 y.k) ∧ u.cell? ⟨b, off + i * 4 + 1, none⟩ = some (.int .i64 y.n) ∧ u.cell? ⟨b, off + i * 4 + 2, none⟩ = some (.string ⟨y.s.toArray⟩) ∧ u.cell? ⟨b, off + i * 4 + 3, none⟩ = some (.slice y.A y.len y.cap))
theorem TmsAt.later {u u' : World} {A : Option Addr} {l : List Tm} (h : TmsAt u A l) (hb : Below u.heap.size u u') : TmsAt u' A l := fun i hi => by
 obtain ⟨b, off, y, e1, e2, e3, m0, m1, m2, m3⟩ := h i hi
 exact ⟨b, off, y, e1, Nat.lt_of_lt_of_le e2 hb.size, (e3.blw hb).up hb.size, (hb.cell (p := ⟨b, off + i * 4, none⟩) e2).trans m0, (hb.cell (p := ⟨b, off + i * 4 + 1, none⟩) e2).trans m1, (hb.cell (p := ⟨b, off + i * 4 + 2, none⟩) e2).trans m2, (hb.cell (p := ⟨b, off + i * 4 + 3, none⟩) e2).trans m3⟩
theorem TmsAt.args {u : World} {x : TV} {t : Tm} (h : TermAt u u.heap.size x t) : TmsAt u x.A t.args := fun _ hi => arg_in h hi
theorem TmsAt.items {u : World} {A : Option Addr} {n : Nat} {xs : List TV} {l : List Tm} (h : SlTerms u A n xs) (ht : TermsA u u.heap.size xs l) : TmsAt u A l := fun i hi => by
 have hx : i < xs.length := by rw [ht.1]; exact hi
 obtain ⟨b, off, e1, e2, e3⟩ := h.at' i xs[i] (List.getElem?_eq_getElem hx)
 refine ⟨b, off, xs[i], e1, e2, ht.2 i _ _ (List.getElem?_eq_getElem hx) ?_, e3 0 _ rfl, e3 1 _ rfl, e3 2 _ rfl, e3 3 _ rfl⟩
 rw [List.getD_eq_getElem?_getD, List.getElem?_eq_getElem hi]
 rfl
theorem take_getD9 {l : List Tm} {k : Nat} (h : k < l.length) : l.take (k + 1) = l.take k ++ [l.getD k noTm] := by
 rw [List.take_succ_eq_append_getElem h, List.getD_eq_getElem?_getD, List.getElem?_eq_getElem h]
 rfl
set_option maxHeartbeats 8000000 in
theorem plist_any {es : List (OpK × OpV)} {way : Int} {n : Nat} (hC : PPutC es way n) (u : World) (rt : Nat) (L : List DefT) (A : Option Addr) (c : Nat) (l : List Tm) (hl : TmsAt u A l) (hP : PenAt u rt L es way)
    (hn : ∀ t ∈ l, t.size ≤ n ∧ WfT t) (hsz : Tm.sizes l ≤ 20000) :
    Calls Tryz.prog 76 #[penV way rt, .slice A l.length c] u fun e u' => e = .returned (.string ⟨(commaF (wrT es way) l).toArray⟩) ∧ Below u.heap.size u u' := by
 obtain ⟨W, hW⟩ : ∃ W, W = u.alloc (.cells #[.int .i64 way, .pointer (some ⟨rt, 0, none⟩)] 98) := ⟨_, rfl⟩
 obtain ⟨bp, hbp⟩ : ∃ b, b = u.heap.size := ⟨_, rfl⟩
 have hbW : Below u.heap.size u W := by rw [hW]; exact (Below.refl _ _).alloc (Nat.le_refl _) _
 have hp0 : W.heap[bp]? = some (.cells #[.int .i64 way, .pointer (some ⟨rt, 0, none⟩)] 98 (0, 0)) := by rw [hW, hbp]; exact heap_alloc_new _ _
 obtain ⟨Z, hZ⟩ : ∃ Z, Z = commaF (wrT es way) l := ⟨_, rfl⟩
 rw [← hZ]
 have HZ := Lib.hid hZ
 have HC := Lib.hid hC
 have HN := Lib.hid (And.intro hn hsz)
 have HB := Lib.hid (And.intro hbW hbp)
 have HS : Hid (∀ v, Below W.heap.size W v → v.cell? ⟨bp, 0, none⟩ = some (.int .i64 way) ∧ v.cell? ⟨bp, 1, none⟩ = some (.pointer (some ⟨rt, 0, none⟩)) ∧ PenAt v rt L es way ∧ TmsAt v A l ∧ Below u.heap.size u v) := Lib.hid fun v hv => by
  have h1 := (hv.block _ (Array.getElem?_eq_some_iff.1 hp0).1).trans hp0
  have h3 : Below u.heap.size u v := hbW.trans (hv.mono hbW.size)
  exact ⟨by rw [cell_of_row v _ 0 _ _ (0, 0) h1]; rfl, by rw [cell_of_row v _ 1 _ _ (0, 0) h1]; rfl, hP.later h3, hl.later h3, h3⟩
 have hlen : l.length ≤ 20000 := Nat.le_trans (sizes_len l) hsz
 clear hC hn hsz hl hP hp0 hbW hZ
 go_enter Tryz.func76, Tryz.ntmps76
 go_upto_region 1 with fail
 rw [← hW, ← hbp]
 clear hW hbp
 go_wp2_with fail
 go_loopw [5, 10] (fun v i wr => ∃ k : Nat, k ≤ l.length ∧ i = .int .i64 k ∧ v = .string ⟨(commaF (wrT es way) (l.take k)).toArray⟩ ∧ Hid (Below W.heap.size W wr)) (fun _ i _ => l.length - (intOf i).toNat)
 case atStart => exact ⟨0, Nat.zero_le _, rfl, rfl, Lib.hid (Below.refl _ _)⟩
 case round =>
  obtain ⟨k, hk, rfl, rfl, HI⟩ := hrel
  by_cases hkl : k < l.length
  case neg =>
   have b9 : decide ((k : Int) < (l.length : Int)) = false := by simp; omega
   have hke : k = l.length := by omega
   have hzz : commaF (wrT es way) (l.take k) = Z := by rw [hke, List.take_length, HZ.out]
   rw [hzz]
   have HF := Lib.hid (HB.out.1.trans (HI.out.mono HB.out.1.size))
   clear hke hzz
   go_wp2_with fail
   go_ret
   exact ⟨rfl, HF.out⟩
  have b9 : decide ((k : Int) < (l.length : Int)) = true := by simp; omega
  have hk0 : (0 : Int) ≤ (k : Int) := by omega
  have hk1 : (k : Int) < (l.length : Int) := by omega
  obtain ⟨p0, p1, hPw, hlw, hbu⟩ := HS.out wr HI.out
  obtain ⟨b, off, y, hA, hbw, hy, m0, m1, m2, m3⟩ := hlw k hkl
  have hmem : l.getD k noTm ∈ l := by rw [List.getD_eq_getElem?_getD, List.getElem?_eq_getElem hkl]; exact List.getElem_mem hkl
  obtain ⟨hn1, hw1⟩ := HN.out.1 _ hmem
  have hs1 : (l.getD k noTm).size ≤ 20000 := Nat.le_trans (mem_sizes l _ hmem) HN.out.2
  have hgl := wr_len es way _ _ 999 (Nat.le_refl _) hw1
  have hcl1 := comma_len (g := wrT es way) (l.take k) fun z hz m => wr_len es way _ z m (Nat.le_refl _) (HN.out.1 z (List.mem_of_mem_take hz)).2
  have hstk := sizes_takeLe l k
  have hsnoc := commaF_snoc (wrT es way) (l.take k) (l.getD k noTm)
  rw [← take_getD9 hkl, List.length_take, Nat.min_eq_left hk] at hsnoc
  rw [List.length_take, Nat.min_eq_left hk] at hcl1
  obtain ⟨acc, hacc⟩ : ∃ a, a = commaF (wrT es way) (l.take k) := ⟨_, rfl⟩
  obtain ⟨G, hG⟩ : ∃ a, a = wrT es way (l.getD k noTm) 999 := ⟨_, rfl⟩
  rw [← hacc] at hcl1 hsnoc ⊢
  rw [← hG] at hgl hsnoc
  obtain ⟨V1, hV1⟩ : ∃ V1, V1 = wr.alloc (.cells #[.int .i64 y.k, .int .i64 y.n, .string ⟨y.s.toArray⟩, .slice y.A y.len y.cap] 28) := ⟨_, rfl⟩
  obtain ⟨b6, hb6⟩ : ∃ b6, b6 = wr.heap.size := ⟨_, rfl⟩
  have hbV1 : Below wr.heap.size wr V1 := by rw [hV1]; exact (Below.refl _ _).alloc (Nat.le_refl _) _
  have hy0 : V1.heap[b6]? = some (.cells #[.int .i64 y.k, .int .i64 y.n, .string ⟨y.s.toArray⟩, .slice y.A y.len y.cap] 28 (0, 0)) := by rw [hV1, hb6]; exact heap_alloc_new _ _
  have hbWV : Below W.heap.size W V1 := HI.out.trans (hbV1.mono HI.out.size)
  have hcl := HC.out V1 rt L y (l.getD k noTm) 999 hn1 hs1 hw1 ((hy.blw hbV1).up hbV1.size) (hPw.later hbV1) (by omega) (by omega)
  rw [tvV_lit, ← hG] at hcl
  have HCL := Lib.hid hcl
  have HSN := Lib.hid hsnoc
  have HY0 := Lib.hid (And.intro hy0 hbWV)
  have l1 : acc.length ≤ 200000000 := by have := HN.out.2; omega
  have l2 : G.length ≤ 200000000 := by omega
  have hw2 : IntKind.i64.wrap ((k : Int) + 1) = (k : Int) + 1 := IntWalk.i64_in _ (by omega)
  rw [hA] at *
  clear hcl hsnoc hy0 hbWV hbV1 hG hacc hcl1 hgl hs1 hn1 hw1 hmem hPw hlw hstk hbu hbw hy hk
  go_upto_region 5 with fail
  rw [← hV1, ← hb6]
  clear hV1 hb6 m0 m1 m2 m3 p0 p1 hA
  obtain ⟨y0, y1, y2, y3, -⟩ := four_at HY0.out.1
  obtain ⟨p0, p1, -⟩ := HS.out V1 HY0.out.2
  by_cases hk9 : k = 0
  ·have kp : ¬ (0 : Int) < (k : Int) := by omega
   have HE : Hid (commaF (wrT es way) (l.take (k + 1)) = acc ++ G) := Lib.hid (by rw [HSN.out, if_pos hk9, List.nil_append])
   clear hk9
   go_wp2_with fail
   refine HCL.out.mono ?_
   rintro e w5 ⟨rfl, hb5⟩
   have HB5 := Lib.hid (HY0.out.2.trans (hb5.mono HY0.out.2.size))
   have e1 := cat_pr acc G
   have n1 : ¬ 9223372036854775807 < acc.length + G.length := by omega
   clear hb5 y0 y1 y2 y3 p0 p1
   go_wp2_with fail
   go_roundw
   case rel => exact ⟨k + 1, hkl, by go_num, by rw [HE.out], HB5⟩
   case measure => simp [intOf]; omega
  ·have kp : (0 : Int) < (k : Int) := by omega
   have HE : Hid (commaF (wrT es way) (l.take (k + 1)) = (acc ++ [44]) ++ G) := Lib.hid (by rw [HSN.out, if_neg hk9, List.append_assoc])
   obtain ⟨ac2, hac2⟩ : ∃ a, a = acc ++ [44] := ⟨_, rfl⟩
   have e0 : (⟨acc.toArray⟩ ++ ⟨#[44]⟩ : ByteArray) = ⟨ac2.toArray⟩ := by rw [hac2]; exact cat_pr acc [44]
   have n0 : ¬ 9223372036854775807 < acc.length + 1 := by omega
   have la2 : ac2.length ≤ 200000001 := by rw [hac2]; simp; omega
   rw [← hac2] at HE
   clear hk9 hac2
   go_wp2_with fail
   refine HCL.out.mono ?_
   rintro e w5 ⟨rfl, hb5⟩
   have HB5 := Lib.hid (HY0.out.2.trans (hb5.mono HY0.out.2.size))
   have e1 := cat_pr ac2 G
   have n1 : ¬ 9223372036854775807 < ac2.length + G.length := by omega
   clear hb5 y0 y1 y2 y3 p0 p1
   go_wp2_with fail
   go_roundw
   case rel => exact ⟨k + 1, hkl, by go_num, by rw [HE.out], HB5⟩
   case measure => simp [intOf]; omega
def docW (es : List (OpK × OpV)) (t : Tm) (S : Int × Int) (op : List UInt8) (pri : Int) (same : Bool) : Bool :=
 (decide (t.k = 3) && isOp es t.s) || (decide (t.k = 2) && decide (t.n < 0)) || (decide (0 < S.1) && (decide (pri ≤ S.2) && !(same && (decide (S.1 = 2) && decide (t.s = op)))))
theorem operF_k {es : List (OpK × OpV)} {way : Int} {t : Tm} (h : t.k ≠ 4) : operF es way t = none := by unfold operF; rw [if_pos (.inr (.inl h))]
theorem operF_some {es : List (OpK × OpV)} {way : Int} {t : Tm} {p : OpR} (h : operF es way t = some p) : p.name = t.s ∧ (p.side = 1 ∨ p.side = 2 ∨ p.side = 3) ∧ 0 < p.pri := by
 unfold operF at h
 split at h
 ·cases h
 ·split at h
  ·split at h
   ·injection h with h; subst h; exact ⟨rfl, .inl rfl, by assumption⟩
   ·split at h
    ·injection h with h; subst h; exact ⟨rfl, .inr (.inr rfl), by assumption⟩
    ·cases h
  ·split at h
   ·split at h
    ·injection h with h; subst h; exact ⟨rfl, .inr (.inl rfl), by assumption⟩
    ·cases h
   ·cases h
theorem docW_is (es : List (OpK × OpV)) (way : Int) (t : Tm) (hk : t.k = 1 ∨ t.k = 2 ∨ t.k = 3 ∨ t.k = 4) (o : OpR) (same : Bool) : docW es t (opPair (operF es way t)) o.name o.pri same = withinF es way t o same := by
 unfold docW withinF
 rcases hk with h | h | h | h
 ·rw [operF_k (by omega)]; simp [h, opPair]
 ·rw [operF_k (by omega)]; simp [h, opPair]
 ·rw [operF_k (by omega)]; simp [h, opPair]
 ·cases ho : operF es way t with
  | none => simp [h, opPair]
  | some p =>
   obtain ⟨e1, e2, e3⟩ := operF_some ho
   have : (0 : Int) < p.side := by omega
   have h3 : ¬ t.k = 3 := by omega
   have h2 : ¬ t.k = 2 := by omega
   rw [if_neg h3, if_neg h2, if_pos h, decide_eq_false h3, decide_eq_false h2]
   show ((false && isOp es t.s) || (false && decide (t.n < 0)) || (decide (0 < p.side) && (decide (o.pri ≤ p.pri) && !(same && (decide (p.side = 2) && decide (t.s = o.name)))))) = (decide (o.pri ≤ p.pri) && !(same && (decide (p.side = 2) && decide (p.name = o.name))))
   rw [decide_eq_true this, e1]
   simp only [Bool.false_and, Bool.false_or, Bool.true_and]
abbrev PenS (W u0 : World) (bp rt : Nat) (L : List DefT) (es : List (OpK × OpV)) (way : Int) (x : TV) (t : Tm) : Prop := ∀ v, Below W.heap.size W v → (v.cell? ⟨bp, 0, none⟩ = some (.int .i64 way) ∧ v.cell? ⟨bp, 1, none⟩ = some (.pointer (some ⟨rt, 0, none⟩))) ∧ (v.cell? ⟨bp + 1, 0, none⟩ = some (.int .i64 x.k) ∧ v.cell? ⟨bp + 1, 1, none⟩ = some (.int .i64 x.n) ∧ v.cell? ⟨bp + 1, 2, none⟩ = some (.string ⟨x.s.toArray⟩) ∧ v.cell? ⟨bp + 1, 3, none⟩ = some (.slice x.A x.len x.cap)) ∧ PenAt v rt L es way ∧ TermAt v v.heap.size x t ∧ Below u0.heap.size u0 v
theorem pen_pre {es : List (OpK × OpV)} {way : Int} {u : World} {rt : Nat} {L : List DefT} {x : TV} {t : Tm} (most : Int) (hw : WfT t) (hx : TermAt u u.heap.size x t) (hP : PenAt u rt L es way) :
    ∃ (W : World) (bp : Nat) (Z : List UInt8), W = (u.alloc (.cells #[.int .i64 way, .pointer (some ⟨rt, 0, none⟩)] 98)).alloc (.cells #[.int .i64 x.k, .int .i64 x.n, .string ⟨x.s.toArray⟩, .slice x.A x.len x.cap] 28) ∧ bp = u.heap.size ∧ Z = wrT es way t most ∧ Z.length ≤ 6000 * t.size ∧ Below u.heap.size u W ∧
     W.heap[bp]? = some (.cells #[.int .i64 way, .pointer (some ⟨rt, 0, none⟩)] 98 (0, 0)) ∧ W.heap[bp + 1]? = some (.cells #[.int .i64 x.k, .int .i64 x.n, .string ⟨x.s.toArray⟩, .slice x.A x.len x.cap] 28 (0, 0)) ∧
     PenS W u bp rt L es way x t ∧ (-9223372036854775808 ≤ x.n ∧ x.n ≤ 9223372036854775807) ∧ x.s.length ≤ 1000 := by
 obtain ⟨k1, k2, k3, k4, k5, -⟩ := hx.open
 have hgl := wr_len es way _ _ most (Nat.le_refl _) hw
 obtain ⟨W, hW⟩ : ∃ W, W = (u.alloc (.cells #[.int .i64 way, .pointer (some ⟨rt, 0, none⟩)] 98)).alloc (.cells #[.int .i64 x.k, .int .i64 x.n, .string ⟨x.s.toArray⟩, .slice x.A x.len x.cap] 28) := ⟨_, rfl⟩
 obtain ⟨bp, hbp⟩ : ∃ b, b = u.heap.size := ⟨_, rfl⟩
 have hbW : Below u.heap.size u W := by rw [hW]; exact ((Below.refl _ _).alloc (Nat.le_refl _) _).alloc (by simp) _
 have hp0 : W.heap[bp]? = some (.cells #[.int .i64 way, .pointer (some ⟨rt, 0, none⟩)] 98 (0, 0)) := by
  rw [hW, Below.heap_alloc _ _ _ (by simp; omega), hbp]
  exact heap_alloc_new _ _
 have hx0 : W.heap[bp + 1]? = some (.cells #[.int .i64 x.k, .int .i64 x.n, .string ⟨x.s.toArray⟩, .slice x.A x.len x.cap] 28 (0, 0)) := by
  rw [hW, hbp]
  have := heap_alloc_new (u.alloc (.cells #[.int .i64 way, .pointer (some ⟨rt, 0, none⟩)] 98)) (.cells #[.int .i64 x.k, .int .i64 x.n, .string ⟨x.s.toArray⟩, .slice x.A x.len x.cap] 28)
  rwa [World.size_alloc] at this
 refine ⟨W, bp, _, hW, hbp, rfl, hgl, hbW, hp0, hx0, fun v hv => ?_, by rw [← k2]; exact hw.n, by rw [← k3]; exact hw.name.1⟩
 have h1 := (hv.block _ (Array.getElem?_eq_some_iff.1 hp0).1).trans hp0
 obtain ⟨a0, a1, a2, a3, -⟩ := four_at ((hv.block _ (Array.getElem?_eq_some_iff.1 hx0).1).trans hx0)
 have h3 : Below u.heap.size u v := hbW.trans (hv.mono hbW.size)
 exact ⟨⟨by rw [cell_of_row v _ 0 _ _ (0, 0) h1]; rfl, by rw [cell_of_row v _ 1 _ _ (0, 0) h1]; rfl⟩, ⟨a0, a1, a2, a3⟩, hP.later h3, (hx.blw h3).keep h3.size fun _ _ => rfl, h3⟩
theorem pen_four {W u0 : World} {bp rt : Nat} {L : List DefT} {es : List (OpK × OpV)} {way : Int} {x : TV} {t : Tm} (h : PenS W u0 bp rt L es way x t) (hnm : x.s.length ≤ 1000) :
    (∀ v, Below W.heap.size W v → Calls Tryz.prog 74 #[.agg #[.int .i64 x.k, .int .i64 x.n, .string ⟨x.s.toArray⟩, .slice x.A x.len x.cap]] v fun e u' => e = .returned (.bool (consT t)) ∧ Below W.heap.size W u') ∧
    (∀ v, Below W.heap.size W v → Calls Tryz.prog 77 #[penV way rt, .agg #[.int .i64 x.k, .int .i64 x.n, .string ⟨x.s.toArray⟩, .slice x.A x.len x.cap]] v fun e u' => e = .returned (.tuple #[.int .i64 (opPair (operF es way t)).1, .int .i64 (opPair (operF es way t)).2]) ∧ Below W.heap.size W u') ∧
    ∀ v, Below W.heap.size W v → Calls Tryz.prog 73 #[penV way rt, .string ⟨x.s.toArray⟩] v fun e u' => e = .returned (.string ⟨(textF way x.s).toArray⟩) ∧ Below W.heap.size W u' :=
 ⟨fun v hv => (rcons_any v _ x t (h v hv).2.2.2.1).mono fun _ _ k => ⟨k.1, hv.trans (k.2.mono hv.size)⟩, fun v hv => (psort_any v rt L es way (h v hv).2.2.1 x t (h v hv).2.2.2.1).mono fun _ _ k => ⟨k.1, hv.trans (k.2.mono hv.size)⟩,
  fun v hv => (pname_any v rt way x.s hnm).mono fun _ _ k => ⟨k.1, hv.trans (k.2.mono hv.size)⟩⟩
theorem pen_arg {W u0 : World} {bp rt : Nat} {L : List DefT} {es : List (OpK × OpV)} {way : Int} {x y : TV} {t : Tm} {b off : Nat} (h : PenS W u0 bp rt L es way x t) (hb : b < W.heap.size) (m0 : W.cell? ⟨b, off, none⟩ = some (.int .i64 y.k)) (m1 : W.cell? ⟨b, off + 1, none⟩ = some (.int .i64 y.n)) (m2 : W.cell? ⟨b, off + 2, none⟩ = some (.string ⟨y.s.toArray⟩)) (m3 : W.cell? ⟨b, off + 3, none⟩ = some (.slice y.A y.len y.cap)) :
    ∀ v, Below W.heap.size W v → v.cell? ⟨bp, 0, none⟩ = some (.int .i64 way) ∧ v.cell? ⟨bp, 1, none⟩ = some (.pointer (some ⟨rt, 0, none⟩)) ∧ v.cell? ⟨bp + 1, 2, none⟩ = some (.string ⟨x.s.toArray⟩) ∧ v.cell? ⟨bp + 1, 3, none⟩ = some (.slice x.A x.len x.cap) ∧ v.cell? ⟨b, off, none⟩ = some (.int .i64 y.k) ∧ v.cell? ⟨b, off + 1, none⟩ = some (.int .i64 y.n) ∧ v.cell? ⟨b, off + 2, none⟩ = some (.string ⟨y.s.toArray⟩) ∧ v.cell? ⟨b, off + 3, none⟩ = some (.slice y.A y.len y.cap) := fun v hv =>
 ⟨(h v hv).1.1, (h v hv).1.2, (h v hv).2.1.2.2.1, (h v hv).2.1.2.2.2, (hv.cell (p := ⟨b, off, none⟩) hb).trans m0, (hv.cell (p := ⟨b, off + 1, none⟩) hb).trans m1, (hv.cell (p := ⟨b, off + 2, none⟩) hb).trans m2, (hv.cell (p := ⟨b, off + 3, none⟩) hb).trans m3⟩
set_option maxHeartbeats 8000000 in
theorem poperand_any {es : List (OpK × OpV)} {way : Int} {n : Nat} (hC : PPutC es way n) (u : World) (rt : Nat) (L : List DefT) (x : TV) (t : Tm) (hn : t.size ≤ n) (hsz : t.size ≤ 20000) (hw : WfT t) (hx : TermAt u u.heap.size x t) (hP : PenAt u rt L es way) (o : OpR) (same : Bool) :
    Calls Tryz.prog 78 #[penV way rt, tvV x, .string ⟨o.name.toArray⟩, .int .i64 o.pri, .bool same] u fun e u' => e = .returned (.string ⟨(operandF es way (wrT es way) t o same).toArray⟩) ∧ Below u.heap.size u u' := by
 obtain ⟨k1, k2, k3, k4, k5, -⟩ := hx.open
 obtain ⟨S, hS⟩ : ∃ S, S = opPair (operF es way t) := ⟨_, rfl⟩
 obtain ⟨G, hG⟩ : ∃ G, G = wrT es way t 1200 := ⟨_, rfl⟩
 have hgl := wr_len es way _ _ 1200 (Nat.le_refl _) hw
 rw [← hG] at hgl
 obtain ⟨Z, hZ⟩ : ∃ Z, Z = operandF es way (wrT es way) t o same := ⟨_, rfl⟩
 rw [← hZ]
 have HZ : Hid (Z = if docW es t S o.name o.pri same then 40 :: (G ++ [41]) else G) := Lib.hid (by rw [hZ, hS, docW_is es way t hw.kind o same, hG]; rfl)
 unfold docW at HZ
 rw [k1, k2, k3] at HZ
 obtain ⟨W, bp, -, hW, hbp, -, -, hbW, hp0, hx0, hS9, -, -⟩ := pen_pre 1200 hw hx hP
 have HS := Lib.hid hS9
 unfold PenS at HS
 have HPUT : Hid (∀ v, Below W.heap.size W v → Calls Tryz.prog 37 #[penV way rt, tvV x, .int .i64 1200] v fun e u' => e = .returned (.string ⟨G.toArray⟩) ∧ Below u.heap.size u u') := Lib.hid fun v hv => by
  obtain ⟨-, -, h1, h2, h3⟩ := HS.out v hv
  rw [hG]
  exact (hC v rt L x t 1200 hn hsz hw h2 h1 (by omega) (by omega)).mono fun e u' h => ⟨h.1, h3.trans (h.2.mono h3.size)⟩
 have HSRT : Hid (∀ v, Below W.heap.size W v → Calls Tryz.prog 77 #[penV way rt, tvV x] v fun e u' => e = .returned (.tuple #[.int .i64 S.1, .int .i64 S.2]) ∧ Below W.heap.size W u') := Lib.hid fun v hv => by
  obtain ⟨-, -, h1, h2, h3⟩ := HS.out v hv
  rw [hS]
  exact (psort_any v rt L es way h1 x t h2).mono fun e u' h => ⟨h.1, hv.trans (h.2.mono hv.size)⟩
 have HISO : Hid (∀ v, Below W.heap.size W v → Calls Tryz.prog 116 #[.pointer (some ⟨rt, 0, none⟩), .string ⟨x.s.toArray⟩] v fun e u' => e = .returned (.bool (isOp es x.s)) ∧ Below W.heap.size W u') := Lib.hid fun v hv => by
  obtain ⟨-, -, h1, h2, h3⟩ := HS.out v hv
  exact (h1.is x.s).mono fun e u' h => ⟨h.1, hv.trans (h.2.mono hv.size)⟩
 have hw0 := Below.refl W.heap.size W
 obtain ⟨⟨p0, p1⟩, ⟨y0, y1, y2, y3⟩, -, -, hbe⟩ := HS.out W hw0
 obtain ⟨G1, hG1⟩ : ∃ G1, G1 = 40 :: G := ⟨_, rfl⟩
 obtain ⟨G2, hG2⟩ : ∃ G2, G2 = 40 :: (G ++ [41]) := ⟨_, rfl⟩
 rw [← hG2] at HZ
 have g1 : (⟨#[40]⟩ ++ ⟨G.toArray⟩ : ByteArray) = ⟨G1.toArray⟩ := by rw [hG1]; exact cat_pr [40] G
 have g2 : (⟨G1.toArray⟩ ++ ⟨#[41]⟩ : ByteArray) = ⟨G2.toArray⟩ := by rw [hG1, hG2]; exact cat_pr (40 :: G) [41]
 have n1 : ¬ 9223372036854775807 < 1 + G.length := by omega
 have n2 : ¬ 9223372036854775807 < G1.length + 1 := by rw [hG1]; simp; omega
 have HGG := Lib.hid (And.intro (And.intro g1 g2) (And.intro n1 n2))
 have HS0 : Hid (x.k ≠ 4 → S = (0, 0)) := Lib.hid fun h => by rw [hS, operF_k (by rw [k1]; exact h)]; rfl
 have hkd := hw.kind
 rw [k1] at hkd
 have HKD := Lib.hid hkd
 obtain ⟨nm, hnm⟩ : ∃ nm, nm = o.name := ⟨_, rfl⟩
 obtain ⟨pri, hpri⟩ : ∃ pri, pri = o.pri := ⟨_, rfl⟩
 rw [← hnm, ← hpri] at HZ ⊢
 clear hC hn hsz hw hx hP k1 k2 k3 k4 k5 hS hG hgl hZ hp0 hx0 hbW hG1 hG2 g1 g2 n1 n2 hkd hnm hpri
 rw [tvV_lit] at HPUT HSRT ⊢
 go_enter Tryz.func78, Tryz.ntmps78
 go_upto_region 1 with fail
 rw [← hW, ← hbp]
 clear hW hbp
 go_wp2_with fail
 refine (HSRT.out W hw0).mono ?_
 rintro e w1 ⟨rfl, hb1⟩
 have HB1 := Lib.hid hb1
 clear p0 p1 y0 y1 y2 y3 hw0 hbe
 obtain ⟨⟨p0, p1⟩, ⟨y0, y1, y2, y3⟩, -, -, hbe⟩ := HS.out w1 hb1
 clear hb1
 obtain ⟨ob, hob⟩ : ∃ b, b = isOp es x.s := ⟨_, rfl⟩
 rw [← hob] at HISO HZ
 clear hob
 rcases HKD.out with k | k | k | k
 ·have hs0 := HS0.out (by omega)
  subst hs0
  have b1 : (x.k == 3) = false := by rw [k]; rfl
  have b2 : (x.k == 2) = false := by rw [k]; rfl
  have HK := Lib.hid k
  clear HS0 HKD k
  have hz : Z = G := by rw [HZ.out]; exact if_neg (by simp [HK.out])
  clear HZ
  go_wp2_with fail
  refine (HPUT.out w1 HB1.out).mono ?_
  rintro e w5 ⟨rfl, hb5⟩
  go_wp2_with fail
  go_ret
  exact ⟨by rw [hz]; rfl, hb5⟩
 ·have hs0 := HS0.out (by omega)
  subst hs0
  have b1 : (x.k == 3) = false := by rw [k]; rfl
  have b2 : (x.k == 2) = true := by rw [k]; rfl
  have HK := Lib.hid k
  clear HS0 HKD k
  by_cases c : x.n < 0
  ·have HCC := Lib.hid c
   have hz : Z = G2 := by rw [HZ.out]; exact if_pos (by simp [HK.out, HCC.out])
   clear HZ
   go_wp2_with fail
   refine (HPUT.out w1 HB1.out).mono ?_
   rintro e w5 ⟨rfl, hb5⟩
   obtain ⟨⟨g1, g2⟩, n1, n2⟩ := HGG.out
   go_wp2_with fail
   go_ret
   exact ⟨by rw [hz]; rfl, hb5⟩
  ·have HCC := Lib.hid c
   have hz : Z = G := by rw [HZ.out]; exact if_neg (by simp [HK.out, HCC.out])
   clear HZ
   go_wp2_with fail
   refine (HPUT.out w1 HB1.out).mono ?_
   rintro e w5 ⟨rfl, hb5⟩
   go_wp2_with fail
   go_ret
   exact ⟨by rw [hz]; rfl, hb5⟩
 ·have hs0 := HS0.out (by omega)
  subst hs0
  have b1 : (x.k == 3) = true := by rw [k]; rfl
  have b2 : (x.k == 2) = false := by rw [k]; rfl
  have HK := Lib.hid k
  clear HS0 HKD k
  go_wp2_with fail
  refine (HISO.out w1 HB1.out).mono ?_
  rintro e w2 ⟨rfl, hb2⟩
  have HB2 := Lib.hid hb2
  clear p0 p1 y0 y1 y2 y3 hbe
  obtain ⟨⟨p0, p1⟩, ⟨y0, y1, y2, y3⟩, -, -, hbe⟩ := HS.out w2 hb2
  clear hb2
  cases ob with
  | true =>
   have hz : Z = G2 := by rw [HZ.out]; exact if_pos (by simp [HK.out])
   clear HZ
   go_wp2_with fail
   refine (HPUT.out w2 HB2.out).mono ?_
   rintro e w5 ⟨rfl, hb5⟩
   obtain ⟨⟨g1, g2⟩, n1, n2⟩ := HGG.out
   go_wp2_with fail
   go_ret
   exact ⟨by rw [hz]; rfl, hb5⟩
  | false =>
   have hz : Z = G := by rw [HZ.out]; exact if_neg (by simp [HK.out])
   clear HZ
   go_wp2_with fail
   refine (HPUT.out w2 HB2.out).mono ?_
   rintro e w5 ⟨rfl, hb5⟩
   go_wp2_with fail
   go_ret
   exact ⟨by rw [hz]; rfl, hb5⟩
 ·have b1 : (x.k == 3) = false := by rw [k]; rfl
  have b2 : (x.k == 2) = false := by rw [k]; rfl
  have HK := Lib.hid k
  clear HS0 HKD k
  obtain ⟨s1, s2⟩ := S
  simp only at HZ ⊢
  by_cases c1 : 0 < s1
  case neg =>
   have HC1 := Lib.hid c1
   have hz : Z = G := by rw [HZ.out]; exact if_neg (by simp [HK.out, HC1.out])
   clear HZ
   go_wp2_with fail
   refine (HPUT.out w1 HB1.out).mono ?_
   rintro e w5 ⟨rfl, hb5⟩
   go_wp2_with fail
   go_ret
   exact ⟨by rw [hz]; rfl, hb5⟩
  by_cases c2 : pri ≤ s2
  case neg =>
   have HC1 := Lib.hid c1
   have HC2 := Lib.hid c2
   have hz : Z = G := by rw [HZ.out]; exact if_neg (by simp [HK.out, HC1.out, HC2.out])
   clear HZ
   go_wp2_with fail
   refine (HPUT.out w1 HB1.out).mono ?_
   rintro e w5 ⟨rfl, hb5⟩
   go_wp2_with fail
   go_ret
   exact ⟨by rw [hz]; rfl, hb5⟩
  have HC1 := Lib.hid c1
  have HC2 := Lib.hid c2
  cases same with
  | false =>
   have hz : Z = G2 := by rw [HZ.out]; exact if_pos (by simp [HK.out, HC1.out, HC2.out])
   clear HZ
   go_wp2_with fail
   refine (HPUT.out w1 HB1.out).mono ?_
   rintro e w5 ⟨rfl, hb5⟩
   obtain ⟨⟨g1, g2⟩, n1, n2⟩ := HGG.out
   go_wp2_with fail
   go_ret
   exact ⟨by rw [hz]; rfl, hb5⟩
  | true =>
   by_cases c3 : s1 = 2
   case neg =>
    have b3 : (s1 == 2) = false := beq_eq_false_iff_ne.2 c3
    have HC3 := Lib.hid c3
    clear c3
    have hz : Z = G2 := by rw [HZ.out]; exact if_pos (by simp [HK.out, HC1.out, HC2.out, HC3.out])
    clear HZ
    go_wp2_with fail
    refine (HPUT.out w1 HB1.out).mono ?_
    rintro e w5 ⟨rfl, hb5⟩
    obtain ⟨⟨g1, g2⟩, n1, n2⟩ := HGG.out
    go_wp2_with fail
    go_ret
    exact ⟨by rw [hz]; rfl, hb5⟩
   have b3 : (s1 == 2) = true := by rw [c3]; rfl
   have HC3 := Lib.hid c3
   clear c3
   by_cases c4 : x.s = nm
   ·have b4 : (x.s == nm) = true := by rw [c4]; simp
    have HC4 := Lib.hid c4
    clear c4
    have hz : Z = G := by rw [HZ.out]; exact if_neg (by simp [HK.out, HC2.out, HC3.out, HC4.out])
    clear HZ
    go_wp2_with fail
    refine (HPUT.out w1 HB1.out).mono ?_
    rintro e w5 ⟨rfl, hb5⟩
    go_wp2_with fail
    go_ret
    exact ⟨by rw [hz]; rfl, hb5⟩
   ·have b4 : (x.s == nm) = false := beq_eq_false_iff_ne.2 c4
    have HC4 := Lib.hid c4
    clear c4
    have hz : Z = G2 := by rw [HZ.out]; exact if_pos (by simp [HK.out, HC2.out, HC3.out, HC4.out])
    clear HZ
    go_wp2_with fail
    refine (HPUT.out w1 HB1.out).mono ?_
    rintro e w5 ⟨rfl, hb5⟩
    obtain ⟨⟨g1, g2⟩, n1, n2⟩ := HGG.out
    go_wp2_with fail
    go_ret
    exact ⟨by rw [hz]; rfl, hb5⟩
structure PutIn (es : List (OpK × OpV)) (way : Int) (n : Nat) (u : World) (rt : Nat) (L : List DefT) (x : TV) (t : Tm) (most : Int) : Prop where
 hn : t.size ≤ n + 1
 hsz : t.size ≤ 20000
 hw : WfT t
 hx : TermAt u u.heap.size x t
 hP : PenAt u rt L es way
 h0 : 0 ≤ most
 h1 : most ≤ 1200
def PutOk (es : List (OpK × OpV)) (way : Int) (u : World) (rt : Nat) (x : TV) (t : Tm) (most : Int) : Prop :=
 Calls Tryz.prog 37 #[penV way rt, tvV x, .int .i64 most] u fun e u' => e = .returned (.string ⟨(wrT es way t most).toArray⟩) ∧ Below u.heap.size u u'
set_option maxHeartbeats 8000000 in
theorem pput_1 {es : List (OpK × OpV)} {way : Int} {n : Nat} {u : World} {rt : Nat} {L : List DefT} {x : TV} {t : Tm} {most : Int} (I : PutIn es way n u rt L x t most) (hk : t.k = 1) : PutOk es way u rt x t most := by
 obtain ⟨hn, hsz, hw, hx, hP, h0, h1⟩ := I
 unfold PutOk
 obtain ⟨k1, k2, k3, k4, k5, -⟩ := hx.open
 obtain ⟨W, bp, Z, hW, hbp, hZ, hgl, hbW, hp0, hx0, hS, hfit, hnm⟩ := pen_pre most hw hx hP
 rw [← hZ]
 have HS := Lib.hid hS
 unfold PenS at HS
 have hw0 := Below.refl W.heap.size W
 clear hS
 have HZ : Hid (Z = 95 :: Lib.itoa x.n) := Lib.hid (by rw [hZ, wr_1 hk, k2])
 have hgl2 : (Lib.itoa x.n).length ≤ 1000000000 := by have h2 := HZ.out; rw [h2, List.length_cons] at hgl; omega
 rw [k1] at hk
 have HK := Lib.hid hk
 have b1 : (x.k == 1) = true := by rw [hk]; rfl
 clear hk hn hsz hw hx hP h0 h1 k1 k2 k3 k4 k5 hZ hp0 hx0 hbW hgl
 rw [tvV_lit]
 go_enter Tryz.func37, Tryz.ntmps37
 go_upto_region 1 with fail
 rw [← hW, ← hbp]
 clear hW hbp
 obtain ⟨⟨p0, p1⟩, ⟨y0, y1, y2, y3⟩, -, -, hbe⟩ := HS.out W hw0
 go_wp2_with fail
 refine (rprint_any W x.n hfit.1 hfit.2).mono ?_
 rintro e w1 ⟨rfl, hb1⟩
 have g1 : (⟨#[95]⟩ ++ ⟨(Lib.itoa x.n).toArray⟩ : ByteArray) = ⟨(95 :: Lib.itoa x.n).toArray⟩ := cat_pr [95] _
 have n1 : ¬ 9223372036854775807 < 1 + (Lib.itoa x.n).length := by omega
 have HFB := Lib.hid (hbe.trans (hb1.mono hbe.size))
 clear hb1 hbe y0 y1 y2 y3 p0 p1
 go_wp2_with fail
 go_ret
 exact ⟨by rw [HZ.out]; rfl, HFB.out⟩
set_option maxHeartbeats 8000000 in
theorem pput_2 {es : List (OpK × OpV)} {way : Int} {n : Nat} {u : World} {rt : Nat} {L : List DefT} {x : TV} {t : Tm} {most : Int} (I : PutIn es way n u rt L x t most) (hk : t.k = 2) : PutOk es way u rt x t most := by
 obtain ⟨hn, hsz, hw, hx, hP, h0, h1⟩ := I
 unfold PutOk
 obtain ⟨k1, k2, k3, k4, k5, -⟩ := hx.open
 obtain ⟨W, bp, Z, hW, hbp, hZ, hgl, hbW, hp0, hx0, hS, hfit, hnm⟩ := pen_pre most hw hx hP
 rw [← hZ]
 have HS := Lib.hid hS
 unfold PenS at HS
 have hw0 := Below.refl W.heap.size W
 clear hS
 have HZ : Hid (Z = Lib.itoa x.n) := Lib.hid (by rw [hZ, wr_2 hk, k2])
 rw [k1] at hk
 have HK := Lib.hid hk
 have b1 : (x.k == 1) = false := by rw [hk]; rfl
 have b2 : (x.k == 2) = true := by rw [hk]; rfl
 clear hk hn hsz hw hx hP h0 h1 k1 k2 k3 k4 k5 hZ hp0 hx0 hbW hgl
 rw [tvV_lit]
 go_enter Tryz.func37, Tryz.ntmps37
 go_upto_region 1 with fail
 rw [← hW, ← hbp]
 clear hW hbp
 obtain ⟨⟨p0, p1⟩, ⟨y0, y1, y2, y3⟩, -, -, hbe⟩ := HS.out W hw0
 go_wp2_with fail
 refine (rprint_any W x.n hfit.1 hfit.2).mono ?_
 rintro e w1 ⟨rfl, hb1⟩
 have HFB := Lib.hid (hbe.trans (hb1.mono hbe.size))
 clear hb1 hbe y0 y1 y2 y3 p0 p1
 go_wp2_with fail
 go_ret
 exact ⟨by rw [HZ.out]; rfl, HFB.out⟩
set_option maxHeartbeats 8000000 in
theorem pput_3 {es : List (OpK × OpV)} {way : Int} {n : Nat} {u : World} {rt : Nat} {L : List DefT} {x : TV} {t : Tm} {most : Int} (I : PutIn es way n u rt L x t most) (hk : t.k = 3) : PutOk es way u rt x t most := by
 obtain ⟨hn, hsz, hw, hx, hP, h0, h1⟩ := I
 unfold PutOk
 obtain ⟨k1, k2, k3, k4, k5, -⟩ := hx.open
 obtain ⟨W, bp, Z, hW, hbp, hZ, hgl, hbW, hp0, hx0, hS, hfit, hnm⟩ := pen_pre most hw hx hP
 rw [← hZ]
 have HS := Lib.hid hS
 unfold PenS at HS
 have hw0 := Below.refl W.heap.size W
 clear hS
 have HZ : Hid (Z = textF way x.s) := Lib.hid (by rw [hZ, wr_3 hk, k3])
 rw [k1] at hk
 have HK := Lib.hid hk
 have b1 : (x.k == 1) = false := by rw [hk]; rfl
 have b2 : (x.k == 2) = false := by rw [hk]; rfl
 have b3 : (x.k == 3) = true := by rw [hk]; rfl
 clear hk hn hsz hw hx hP h0 h1 k1 k2 k3 k4 k5 hZ hp0 hx0 hbW hgl
 rw [tvV_lit]
 go_enter Tryz.func37, Tryz.ntmps37
 go_upto_region 1 with fail
 rw [← hW, ← hbp]
 clear hW hbp
 obtain ⟨⟨p0, p1⟩, ⟨y0, y1, y2, y3⟩, -, -, hbe⟩ := HS.out W hw0
 go_wp2_with fail
 refine (pname_any W rt way x.s hnm).mono ?_
 rintro e w1 ⟨rfl, hb1⟩
 have HFB := Lib.hid (hbe.trans (hb1.mono hbe.size))
 clear hb1 hbe y0 y1 y2 y3 p0 p1
 go_wp2_with fail
 go_ret
 exact ⟨by rw [HZ.out]; rfl, HFB.out⟩
set_option maxHeartbeats 8000000 in
theorem pput_cons {es : List (OpK × OpV)} {way : Int} {n : Nat} (hC : PPutC es way n) {u : World} {rt : Nat} {L : List DefT} {x : TV} {t : Tm} {most : Int} (I : PutIn es way n u rt L x t most) (hk : t.k = 4) (hc : consT t = true) : PutOk es way u rt x t most := by
 obtain ⟨hn, hsz, hw, hx, hP, h0, h1⟩ := I
 unfold PutOk
 obtain ⟨k1, k2, k3, k4, k5, -⟩ := hx.open
 obtain ⟨W, bp, Z, hW, hbp, hZ, hgl, hbW, hp0, hx0, hS, hfit, hnm⟩ := pen_pre most hw hx hP
 rw [← hZ]
 have HS := Lib.hid hS
 unfold PenS at HS
 have hw0 := Below.refl W.heap.size W
 clear hS
 obtain ⟨hco, hso, hna⟩ := pen_four HS.out hnm
 have HCO := Lib.hid hco
 have HSO := Lib.hid hso
 have HNA := Lib.hid hna
 clear hco hso hna
 have hwf := consF_wf t.size t hw
 have hsum := consF_sum t.size t
 have hsiz := consF_size t.size t
 obtain ⟨its, hits⟩ : ∃ l, l = (consF t.size t).1 := ⟨_, rfl⟩
 obtain ⟨tl, htl⟩ : ∃ l, l = (consF t.size t).2 := ⟨_, rfl⟩
 rw [← hits, ← htl] at hwf hsum hsiz
 have HZ : Hid (Z = 91 :: (commaF (wrT es way) its ++ (tailF (wrT es way) tl ++ [93]))) := Lib.hid (by rw [hZ, wr_4 hk]; unfold compF; rw [if_pos hc, hits, htl]; rfl)
 have HIT : Hid (∀ v, Below W.heap.size W v → Calls Tryz.prog 75 #[tvV x] v fun e u' => ∃ (A : Option Addr) (c : Nat) (z : TV), e = .returned (.tuple #[.slice A its.length c, tvV z]) ∧ TmsAt u' A its ∧ TermAt u' u'.heap.size z tl ∧ Below W.heap.size W u') := Lib.hid fun v hv => by
  obtain ⟨-, -, h1, h2, h3⟩ := HS.out v hv
  refine (items_ref v x t h2 (by omega)).mono ?_
  rintro e u' ⟨A, m, c, xs, z, rfl, e1, e2, e3, e4⟩
  refine ⟨A, c, z, ?_, by rw [hits]; exact TmsAt.items e1 e2, by rw [htl]; exact e3, hv.trans (e4.mono hv.size)⟩
  rw [hits, ← e2.1, e1.len]
 have HLI : Hid (∀ v A c, Below W.heap.size W v → TmsAt v A its → Calls Tryz.prog 76 #[penV way rt, .slice A its.length c] v fun e u' => e = .returned (.string ⟨(commaF (wrT es way) its).toArray⟩) ∧ Below v.heap.size v u') := Lib.hid fun v A c hv ha =>
  plist_any hC v rt L A c its ha (HS.out v hv).2.2.1 (fun y hy => ⟨by have := hsiz.1 y hy; omega, hwf.1 y hy⟩) (by omega)
 have htl9 : tl.size ≤ n := by have := hsiz.2.2 hc (size_pos t); omega
 have HPU : Hid (∀ v z, Below W.heap.size W v → TermAt v v.heap.size z tl → Calls Tryz.prog 37 #[penV way rt, tvV z, .int .i64 999] v fun e u' => e = .returned (.string ⟨(wrT es way tl 999).toArray⟩) ∧ Below v.heap.size v u') := Lib.hid fun v z hv ha =>
  hC v rt L z tl 999 htl9 (by omega) hwf.2 ha (HS.out v hv).2.2.1 (by omega) (by omega)
 have HQ : Hid (true = consT t) := Lib.hid hc.symm
 have HGL : Hid (Z.length ≤ 200000000) := Lib.hid (by omega)
 rw [← HQ.out] at HCO
 rw [tvV_lit] at HIT
 simp only [tvV_lit] at HPU
 rw [k1] at hk
 have b1 : (x.k == 1) = false := by rw [hk]; rfl
 have b2 : (x.k == 2) = false := by rw [hk]; rfl
 have b3 : (x.k == 3) = false := by rw [hk]; rfl
 clear hk hC hn hsz hw hx hP h0 h1 k1 k2 k3 k4 k5 hZ hp0 hx0 hbW hgl hits htl hc hwf hsum hsiz htl9
 rw [tvV_lit]
 go_enter Tryz.func37, Tryz.ntmps37
 go_upto_region 1 with fail
 rw [← hW, ← hbp]
 clear hW hbp
 obtain ⟨⟨p0, p1⟩, ⟨y0, y1, y2, y3⟩, -, -, hbe⟩ := HS.out W hw0
 go_wp2_with fail
 refine (HCO.out W hw0).mono ?_
 rintro e w1 ⟨rfl, hb1⟩
 have HB1 := Lib.hid hb1
 clear y0 y1 y2 y3 p0 p1 hbe
 obtain ⟨⟨p0, p1⟩, ⟨y0, y1, y2, y3⟩, -, -, hbe⟩ := HS.out w1 hb1
 clear hb1
 go_wp2_with fail
 refine (HIT.out w1 HB1.out).mono ?_
 rintro e w2 ⟨A, c, z, rfl, ha, hz, hb2⟩
 have HB2 := Lib.hid (And.intro hb2 (And.intro ha hz))
 clear y0 y1 y2 y3 p0 p1 hbe
 obtain ⟨⟨p0, p1⟩, ⟨y0, y1, y2, y3⟩, -, -, hbe⟩ := HS.out w2 hb2
 clear hb2 ha hz
 rw [tvV_lit]
 go_upto_region 10 with fail
 obtain ⟨w3, hw3⟩ : ∃ w, w = w2.alloc (.cells #[.int .i64 z.k, .int .i64 z.n, .string ⟨z.s.toArray⟩, .slice z.A z.len z.cap] 28) := ⟨_, rfl⟩
 obtain ⟨bz, hbz⟩ : ∃ b, b = w2.heap.size := ⟨_, rfl⟩
 have hb23 : Below w2.heap.size w2 w3 := by rw [hw3]; exact (Below.refl _ _).alloc (Nat.le_refl _) _
 have hz0 : w3.heap[bz]? = some (.cells #[.int .i64 z.k, .int .i64 z.n, .string ⟨z.s.toArray⟩, .slice z.A z.len z.cap] 28 (0, 0)) := by rw [hw3, hbz]; exact heap_alloc_new _ _
 rw [← hw3, ← hbz]
 clear hw3 hbz
 have hb3 : Below W.heap.size W w3 := HB2.out.1.trans (hb23.mono HB2.out.1.size)
 have HB3 := Lib.hid (And.intro hb3 (And.intro (HB2.out.2.1.later hb23) ((HB2.out.2.2.blw hb23).up hb23.size)))
 clear y0 y1 y2 y3 p0 p1 hbe
 obtain ⟨⟨p0, p1⟩, ⟨y0, y1, y2, y3⟩, -, -, hbe⟩ := HS.out w3 hb3
 have HZ0 := Lib.hid hz0
 clear hb3 hb23 hz0
 go_wp2_with fail
 refine (HLI.out w3 A c HB3.out.1 HB3.out.2.1).mono ?_
 rintro e w4 ⟨rfl, hb4⟩
 obtain ⟨C, hC9⟩ : ∃ C, C = commaF (wrT es way) its := ⟨_, rfl⟩
 obtain ⟨P, hP9⟩ : ∃ P, P = wrT es way tl 999 := ⟨_, rfl⟩
 rw [← hP9] at HPU
 rw [← hC9] at HZ ⊢
 obtain ⟨D, hD⟩ : ∃ D, D = 91 :: C := ⟨_, rfl⟩
 have g1 : (⟨#[91]⟩ ++ ⟨C.toArray⟩ : ByteArray) = ⟨D.toArray⟩ := by rw [hD]; exact cat_pr [91] C
 have hZlen : Z.length = C.length + (tailF (wrT es way) tl).length + 2 := by rw [HZ.out]; simp; omega
 have n1 : ¬ 9223372036854775807 < 1 + C.length := by have := HGL.out; omega
 have HDL : Hid (D.length = 1 + C.length) := Lib.hid (by rw [hD, List.length_cons]; omega)
 have HZ2 : Hid (Z = D ++ (tailF (wrT es way) tl ++ [93])) := Lib.hid (by rw [HZ.out, hD]; rfl)
 have HZL := Lib.hid hZlen
 have HB4 := Lib.hid (And.intro (HB3.out.1.trans (hb4.mono HB3.out.1.size)) ((HB3.out.2.2.blw hb4).up hb4.size))
 obtain ⟨z1, -, z3, -, -, -⟩ := HB4.out.2.open
 have htF : tailF (wrT es way) tl = if z.k = 3 ∧ z.s = [91, 93] then [] else 124 :: P := by unfold tailF; rw [z1, z3, hP9]
 rw [htF] at HZ2 HZL
 obtain ⟨t0, t1, t2, t3, -⟩ := four_at ((hb4.block bz (Array.getElem?_eq_some_iff.1 HZ0.out).1).trans HZ0.out)
 clear y0 y1 y2 y3 p0 p1 hbe HZ hC9 hP9 hD hZlen z1 z3 htF hb4
 obtain ⟨⟨p0, p1⟩, ⟨y0, y1, y2, y3⟩, -, -, hbe⟩ := HS.out w4 HB4.out.1
 by_cases cz : z.k = 3 ∧ z.s = [91, 93]
 ·rw [if_pos cz] at HZ2 HZL
  have c1 : (z.k != 3) = false := by rw [cz.1]; rfl
  have c2 : (z.s == [91, 93]) = true := by rw [cz.2]; rfl
  have g2 : (⟨D.toArray⟩ ++ ⟨#[93]⟩ : ByteArray) = ⟨Z.toArray⟩ := by rw [HZ2.out]; exact cat_pr D [93]
  have n2 : ¬ 9223372036854775807 < D.length + 1 := by have := HDL.out; have := HZL.out; have := HGL.out; omega
  clear cz
  go_wp2_with fail
  go_ret
  exact ⟨rfl, hbe⟩
 ·rw [if_neg cz] at HZ2 HZL
  obtain ⟨Q, hQ⟩ : ∃ Q, Q = 124 :: P := ⟨_, rfl⟩
  obtain ⟨E, hE⟩ : ∃ E, E = D ++ Q := ⟨_, rfl⟩
  have hql : Q.length = P.length + 1 := by rw [hQ]; rfl
  have hel : E.length = D.length + Q.length := by rw [hE, List.length_append]
  rw [← hQ] at HZ2 HZL
  have g2 : (⟨#[124]⟩ ++ ⟨P.toArray⟩ : ByteArray) = ⟨Q.toArray⟩ := by rw [hQ]; exact cat_pr [124] P
  have g3 : (⟨D.toArray⟩ ++ ⟨Q.toArray⟩ : ByteArray) = ⟨E.toArray⟩ := by rw [hE]; exact cat_pr D Q
  have g4 : (⟨E.toArray⟩ ++ ⟨#[93]⟩ : ByteArray) = ⟨Z.toArray⟩ := by rw [HZ2.out, ← List.append_assoc, ← hE]; exact cat_pr E [93]
  have hdl := HDL.out
  have hzl := HZL.out
  have hgl := HGL.out
  have n2 : ¬ 9223372036854775807 < 1 + P.length := by omega
  have n3 : ¬ 9223372036854775807 < D.length + Q.length := by omega
  have n4 : ¬ 9223372036854775807 < E.length + 1 := by omega
  have HG := Lib.hid (And.intro g2 (And.intro g3 (And.intro g4 (And.intro n2 (And.intro n3 n4)))))
  clear hdl hzl hgl hql hel hQ hE g2 g3 g4 n2 n3 n4
  by_cases c9 : z.k = 3
  case' pos =>
   have c1 : (z.k != 3) = false := by rw [c9]; rfl
   have c2 : (z.s == [91, 93]) = false := beq_eq_false_iff_ne.2 fun e => cz ⟨c9, e⟩
  case' neg =>
   have c1 : (z.k != 3) = true := bne_iff_ne.2 c9
  all_goals
   clear cz c9
   go_wp2_with fail
   refine (HPU.out w4 z HB4.out.1 HB4.out.2).mono ?_
   rintro e w5 ⟨rfl, hb5⟩
   obtain ⟨g2, g3, g4, n2, n3, n4⟩ := HG.out
   have hfb := hbe.trans (hb5.mono hbe.size)
   clear hb5 hbe
   go_wp2_with fail
   go_ret
   exact ⟨rfl, hfb⟩
set_option maxHeartbeats 8000000 in
theorem pput_curl {es : List (OpK × OpV)} {way : Int} {n : Nat} (hC : PPutC es way n) {u : World} {rt : Nat} {L : List DefT} {x : TV} {t : Tm} {most : Int} (I : PutIn es way n u rt L x t most) (hk : t.k = 4) (hc : consT t = false) (hway : way ≠ 2) (hcu : t.s = [123, 125]) (hl1 : t.args.length = 1) : PutOk es way u rt x t most := by
 obtain ⟨hn, hsz, hw, hx, hP, h0, h1⟩ := I
 unfold PutOk
 obtain ⟨k1, k2, k3, k4, k5, -⟩ := hx.open
 obtain ⟨W, bp, Z, hW, hbp, hZ, hgl, hbW, hp0, hx0, hS, hfit, hnm⟩ := pen_pre most hw hx hP
 rw [← hZ]
 have HS := Lib.hid hS
 unfold PenS at HS
 have hw0 := Below.refl W.heap.size W
 clear hS
 obtain ⟨hco, hso, hna⟩ := pen_four HS.out hnm
 have HCO := Lib.hid hco
 have HSO := Lib.hid hso
 have HNA := Lib.hid hna
 clear hco hso hna
 have ht0 : (t.args.getD 0 noTm).size ≤ n := by have := arg_lt (t := t) (i := 0) (by omega); omega
 have ht1 : (t.args.getD 0 noTm).size ≤ 20000 := by have := arg_lt (t := t) (i := 0) (by omega); omega
 obtain ⟨P, hP9⟩ : ∃ P, P = wrT es way (t.args.getD 0 noTm) 1200 := ⟨_, rfl⟩
 have hz : Z = 123 :: (P ++ [125]) := by rw [hZ, wr_4 hk]; unfold compF; rw [if_neg (by rw [hc]; decide), if_pos ⟨hway, hcu, hl1⟩, hP9]
 obtain ⟨Q, hQ⟩ : ∃ Q, Q = 123 :: P := ⟨_, rfl⟩
 have g1 : (⟨#[123]⟩ ++ ⟨P.toArray⟩ : ByteArray) = ⟨Q.toArray⟩ := by rw [hQ]; exact cat_pr [123] P
 have g2 : (⟨Q.toArray⟩ ++ ⟨#[125]⟩ : ByteArray) = ⟨Z.toArray⟩ := by rw [hz, hQ]; exact cat_pr (123 :: P) [125]
 have hzl : Z.length = P.length + 2 := by rw [hz]; simp
 have hql : Q.length = P.length + 1 := by rw [hQ]; rfl
 have n1 : ¬ 9223372036854775807 < 1 + P.length := by omega
 have n2 : ¬ 9223372036854775807 < Q.length + 1 := by omega
 have HG := Lib.hid (And.intro g1 (And.intro g2 (And.intro n1 n2)))
 obtain ⟨b, off, y, hA, hbw, hy, m0, m1, m2, m3⟩ := arg_in (hx.blw hbW) (i := 0) (by omega)
 rw [Nat.zero_mul, Nat.add_zero] at m0 m1 m2 m3
 have hbW2 : b < W.heap.size := Nat.lt_of_lt_of_le hbw hbW.size
 have HSE := Lib.hid (pen_arg HS.out hbW2 m0 m1 m2 m3)
 have HPU : Hid (∀ v, Below W.heap.size W v → Calls Tryz.prog 37 #[penV way rt, tvV y, .int .i64 1200] v fun e u' => e = .returned (.string ⟨P.toArray⟩) ∧ Below W.heap.size W u') := Lib.hid fun v hv => by
  obtain ⟨-, -, h1, h2, h3⟩ := HS.out v hv
  rw [hP9]
  exact (hC v rt L y _ 1200 ht0 ht1 (hw.arg (by omega)) ((((hy.up hbW.size).blw hv)).up hv.size) h1 (by omega) (by omega)).mono fun e u' h => ⟨h.1, hv.trans (h.2.mono hv.size)⟩
 rw [hc] at HCO
 rw [k3] at hcu
 rw [k4] at hl1
 have c1 : (way != 2) = true := bne_iff_ne.2 hway
 have c2 : (x.s == [123, 125]) = true := by rw [hcu]; rfl
 have c3 : ((x.len : Int) == 1) = true := by rw [hl1]; rfl
 have HL1 := Lib.hid hl1
 have hl0 : (0 : Int) < (x.len : Int) := by omega
 have hl9 : 0 < x.len := by omega
 have HU := Lib.hid hbW
 rw [tvV_lit] at HPU
 rw [hA] at HS HSE HCO
 rw [k1] at hk
 have b1 : (x.k == 1) = false := by rw [hk]; rfl
 have b2 : (x.k == 2) = false := by rw [hk]; rfl
 have b3 : (x.k == 3) = false := by rw [hk]; rfl
 clear hk hC hn hsz hw hx hP h0 h1 k1 k2 k3 k4 k5 hZ hp0 hx0 hbW hgl hc hway hcu hl1 ht0 ht1 hP9 hz hQ g1 g2 n1 n2 hzl hql hA hbw hy m0 m1 m2 m3 hbW2 HSO HNA
 rw [tvV_lit]
 go_enter Tryz.func37, Tryz.ntmps37
 go_upto_region 1 with fail
 rw [← hW, ← hbp]
 clear hW hbp
 obtain ⟨⟨p0, p1⟩, ⟨y0, y1, y2, y3⟩, -, -, hbe⟩ := HS.out W hw0
 go_wp2_with fail
 refine (HCO.out W hw0).mono ?_
 rintro e w1 ⟨rfl, hb1⟩
 have HB1 := Lib.hid hb1
 clear y0 y1 y2 y3 p0 p1 hbe
 obtain ⟨⟨p0, p1⟩, ⟨y0, y1, y2, y3⟩, -, -, hbe⟩ := HS.out w1 hb1
 obtain ⟨-, -, -, -, m0, m1, m2, m3⟩ := HSE.out w1 hb1
 go_wp2_with fail
 have hbd := hb1.drew
 obtain ⟨g1, g2, n1, n2⟩ := HG.out
 go_region_held3 (fun v => v.cell? ⟨bp, 0, none⟩ = some (.int .i64 way) ∧ v.cell? ⟨bp, 1, none⟩ = some (.pointer (some ⟨rt, 0, none⟩)) ∧ v.cell? ⟨bp + 1, 2, none⟩ = some (.string ⟨x.s.toArray⟩) ∧ v.cell? ⟨bp + 1, 3, none⟩ = some (.slice (some ⟨b, off, none⟩) x.len x.cap) ∧ v.cell? ⟨b, off, none⟩ = some (.int .i64 y.k) ∧ v.cell? ⟨b, off + 1, none⟩ = some (.int .i64 y.n) ∧ v.cell? ⟨b, off + 2, none⟩ = some (.string ⟨y.s.toArray⟩) ∧ v.cell? ⟨b, off + 3, none⟩ = some (.slice y.A y.len y.cap))
  (first | (with_reducible exact HSE.out _ (by assumption)))
  (first | (go_at_call 37; with_reducible refine (HPU.out _ (by assumption)).mono ?_; rintro e w2 ⟨rfl, hb2⟩))
 all_goals
  have hfb := HU.out.trans (hb2.mono HU.out.size)
  clear y0 y1 y2 y3 p0 p1 m0 m1 m2 m3 hbe
  go_wp2_with fail
  go_ret
  exact ⟨rfl, hfb⟩
set_option maxHeartbeats 8000000 in
theorem pput_none {es : List (OpK × OpV)} {way : Int} {n : Nat} (hC : PPutC es way n) {u : World} {rt : Nat} {L : List DefT} {x : TV} {t : Tm} {most : Int} (I : PutIn es way n u rt L x t most) (hk : t.k = 4) (hc : consT t = false) (hncu : ¬ (way ≠ 2 ∧ t.s = [123, 125] ∧ t.args.length = 1)) (ho : operF es way t = none) : PutOk es way u rt x t most := by
 obtain ⟨hn, hsz, hw, hx, hP, h0, h1⟩ := I
 unfold PutOk
 obtain ⟨k1, k2, k3, k4, k5, -⟩ := hx.open
 obtain ⟨W, bp, Z, hW, hbp, hZ, hgl, hbW, hp0, hx0, hS, hfit, hnm⟩ := pen_pre most hw hx hP
 rw [← hZ]
 have HS := Lib.hid hS
 unfold PenS at HS
 have hw0 := Below.refl W.heap.size W
 clear hS
 obtain ⟨hco, hso, hna⟩ := pen_four HS.out hnm
 have HCO := Lib.hid hco
 have HSO := Lib.hid hso
 have HNA := Lib.hid hna
 clear hco hso hna
 obtain ⟨N, hN⟩ : ∃ N, N = textF way x.s := ⟨_, rfl⟩
 obtain ⟨C, hC9⟩ : ∃ C, C = commaF (wrT es way) t.args := ⟨_, rfl⟩
 have hz : Z = N ++ 40 :: (C ++ [41]) := by rw [hZ, wr_4 hk]; unfold compF; rw [if_neg (by rw [hc]; decide), if_neg hncu, ho, hC9, hN, k3]
 obtain ⟨Q1, hQ1⟩ : ∃ Q, Q = N ++ [40] := ⟨_, rfl⟩
 obtain ⟨Q2, hQ2⟩ : ∃ Q, Q = Q1 ++ C := ⟨_, rfl⟩
 have g1 : (⟨N.toArray⟩ ++ ⟨#[40]⟩ : ByteArray) = ⟨Q1.toArray⟩ := by rw [hQ1]; exact cat_pr N [40]
 have g2 : (⟨Q1.toArray⟩ ++ ⟨C.toArray⟩ : ByteArray) = ⟨Q2.toArray⟩ := by rw [hQ2]; exact cat_pr Q1 C
 have g3 : (⟨Q2.toArray⟩ ++ ⟨#[41]⟩ : ByteArray) = ⟨Z.toArray⟩ := by rw [hz, show N ++ 40 :: (C ++ [41]) = Q2 ++ [41] by rw [hQ2, hQ1]; simp]; exact cat_pr Q2 [41]
 have hzl : Z.length = N.length + C.length + 2 := by rw [hz]; simp; omega
 have hq1 : Q1.length = N.length + 1 := by rw [hQ1]; simp
 have hq2 : Q2.length = N.length + 1 + C.length := by rw [hQ2, List.length_append, hq1]
 have n1 : ¬ 9223372036854775807 < N.length + 1 := by omega
 have n2 : ¬ 9223372036854775807 < Q1.length + C.length := by omega
 have n3 : ¬ 9223372036854775807 < Q2.length + 1 := by omega
 have HG := Lib.hid (And.intro g1 (And.intro g2 (And.intro g3 (And.intro n1 (And.intro n2 n3)))))
 have HSE : Hid (∀ v, Below W.heap.size W v → v.cell? ⟨bp, 0, none⟩ = some (.int .i64 way) ∧ v.cell? ⟨bp, 1, none⟩ = some (.pointer (some ⟨rt, 0, none⟩)) ∧ v.cell? ⟨bp + 1, 2, none⟩ = some (.string ⟨x.s.toArray⟩) ∧ v.cell? ⟨bp + 1, 3, none⟩ = some (.slice x.A x.len x.cap)) := Lib.hid fun v hv => by
  obtain ⟨⟨a0, a1⟩, ⟨c0, c1, c2, c3⟩, -⟩ := HS.out v hv
  exact ⟨a0, a1, c2, c3⟩
 have HLI : Hid (∀ v, Below W.heap.size W v → Calls Tryz.prog 76 #[penV way rt, .slice x.A x.len x.cap] v fun e u' => e = .returned (.string ⟨C.toArray⟩) ∧ Below W.heap.size W u') := Lib.hid fun v hv => by
  obtain ⟨-, -, h1, h2, h3⟩ := HS.out v hv
  rw [hC9, ← k4]
  exact (plist_any hC v rt L x.A x.cap t.args (TmsAt.args h2) h1 (fun y hy => ⟨by have := mem_sizes t.args y hy; have := size_args t; omega, hw.mem hy⟩) (by have := size_args t; omega)).mono fun e u' h => ⟨h.1, hv.trans (h.2.mono hv.size)⟩
 rw [hc] at HCO
 rw [ho] at HSO
 rw [← hN] at HNA
 simp only [opPair] at HSO
 have HNC : Hid (way ≠ 2 → x.s = [123, 125] → x.len ≠ 1) := Lib.hid fun a b c => hncu ⟨a, by rw [k3]; exact b, by rw [k4]; exact c⟩
 have HU := Lib.hid hbW
 rw [k1] at hk
 have b1 : (x.k == 1) = false := by rw [hk]; rfl
 have b2 : (x.k == 2) = false := by rw [hk]; rfl
 have b3 : (x.k == 3) = false := by rw [hk]; rfl
 clear hk hC hn hsz hw hx hP h0 h1 k1 k2 k3 k4 k5 hZ hp0 hx0 hbW hgl hc hncu ho hN hC9 hz hQ1 hQ2 g1 g2 g3 n1 n2 n3 hzl hq1 hq2
 rw [tvV_lit]
 go_enter Tryz.func37, Tryz.ntmps37
 go_upto_region 1 with fail
 rw [← hW, ← hbp]
 clear hW hbp
 obtain ⟨⟨p0, p1⟩, ⟨y0, y1, y2, y3⟩, -, -, hbe⟩ := HS.out W hw0
 go_wp2_with fail
 refine (HCO.out W hw0).mono ?_
 rintro e w1 ⟨rfl, hb1⟩
 have HB1 := Lib.hid hb1
 clear y0 y1 y2 y3 p0 p1 hbe
 obtain ⟨⟨p0, p1⟩, ⟨y0, y1, y2, y3⟩, -, -, hbe⟩ := HS.out w1 hb1
 clear hb1
 by_cases hway : way = 2
 case' pos =>
  have c1 : (way != 2) = false := by rw [hway]; rfl
 case' neg =>
  have c1 : (way != 2) = true := bne_iff_ne.2 hway
  have HN1 := Lib.hid (HNC.out hway)
  by_cases hcu : x.s = [123, 125]
  case' pos =>
   have c2 : (x.s == [123, 125]) = true := by rw [hcu]; rfl
   have c3 : ((x.len : Int) == 1) = false := beq_eq_false_iff_ne.2 (by have := HN1.out hcu; omega)
  case' neg =>
   have c2 : (x.s == [123, 125]) = false := beq_eq_false_iff_ne.2 hcu
  all_goals
   clear HN1 hcu
 all_goals
  clear hway
  go_wp2_with fail
  refine (HSO.out w1 HB1.out).mono ?_
  rintro e w2 ⟨rfl, hb2⟩
  clear y0 y1 y2 y3 p0 p1 hbe
  obtain ⟨⟨p0, p1⟩, ⟨y0, y1, y2, y3⟩, -, -, hbe⟩ := HS.out w2 hb2
  go_wp2_with fail
  have hbd := hb2.drew
  obtain ⟨g1, g2, g3, n1, n2, n3⟩ := HG.out
  go_region_held3 (fun v => v.cell? ⟨bp, 0, none⟩ = some (.int .i64 way) ∧ v.cell? ⟨bp, 1, none⟩ = some (.pointer (some ⟨rt, 0, none⟩)) ∧ v.cell? ⟨bp + 1, 2, none⟩ = some (.string ⟨x.s.toArray⟩) ∧ v.cell? ⟨bp + 1, 3, none⟩ = some (.slice x.A x.len x.cap))
   (first | (with_reducible exact HSE.out _ (by assumption)))
   (first | (go_at_call 73; with_reducible refine (HNA.out _ (by assumption)).mono ?_; rintro e w3 ⟨rfl, hb3⟩) | (go_at_call 76; with_reducible refine (HLI.out _ (by assumption)).mono ?_; rintro e w4 ⟨rfl, hb4⟩))
 all_goals
  have hfb := HU.out.trans (hb4.mono HU.out.size)
  clear y0 y1 y2 y3 p0 p1 hbe
  go_wp2_with fail
  go_ret
  exact ⟨rfl, hfb⟩
end Go.Proofs.YtcallkljcjimiaaGreatDoor
