import Derived.Test.YtiffopheamnngaaGreatDoorJT22
namespace Go.Proofs.YtiffopheamnngaaGreatDoor
open Go.RowKit Go.Maps
set_option maxRecDepth 100000
structure TInv (E : RqE) (u : World) (nv0 : Value) (T : QT) (most : Int) (R : Except Nat ((Tm × Int) × QS)) (n s br bx gk : Nat) (p : Int) (wr : World) (nv : Value) (q : QS) (bad : Bool) (x : TV) (t : Tm) : Prop where
 at' : RqAt E wr nv q bad
 fr : RqF E u nv0 wr nv
 res : wr.heap[br]? = some (.cells #[.int .i64 0, .int .i64 0, .string ⟨#[]⟩, .slice none 0 0] 34 (0, 0))
 box : wr.heap[bx]? = some (.cells #[.int .i64 x.k, .int .i64 x.n, .string ⟨x.s.toArray⟩, .slice x.A x.len x.cap] 34 (0, 0))
 tm : TermS wr (NewX s wr (· ∈ [bx])) x t
 size : s ≤ wr.heap.size
 bad' : bad = true → Says R true (t, p) q
 good : bad = false → loopQ (opsQ E.es) E.ts T most gk t p q = R ∧ E.ts.length - q.at' < gk ∧ E.ts.length - q.at' < n + 1
theorem loop_bad {o : OpsF} {ts : List Tok} {T : QT} {most : Int} {k : Nat} {x : Tm} {p : Int} {q : QS} {R : Except Nat ((Tm × Int) × QS)} (h : loopQ o ts T most k x p q = R) (hk : 0 < k) :
    (if (peekF ts q.at').kind ≠ 1 ∧ (peekF ts q.at').kind ≠ 2 ∧ isP ts q.at' 44 = false then .ok ((x, p), q)
    else if 0 < (o.inf (peekF ts q.at').s).1 ∧ (o.inf (peekF ts q.at').s).1 ≤ most ∧ p ≤ (o.inf (peekF ts q.at').s).2.1 then
     match T (o.inf (peekF ts q.at').s).2.2 (q.go 1) with
     | .error a => .error a
     | .ok (y, s1) => loopQ o ts T most (k - 1) (compT (peekF ts q.at').s [x, y.1]) (o.inf (peekF ts q.at').s).1 s1
    else if 0 < (o.post (peekF ts q.at').s).1 ∧ (o.post (peekF ts q.at').s).1 ≤ most ∧ p ≤ (o.post (peekF ts q.at').s).2 then loopQ o ts T most (k - 1) (compT (peekF ts q.at').s [x]) (o.post (peekF ts q.at').s).1 (q.go 1)
    else .ok ((x, p), q)) = R := by
 obtain ⟨j, rfl⟩ : ∃ j, k = j + 1 := ⟨k - 1, by omega⟩
 exact h
theorem end_ways {ts : List Tok} {i : Nat} {k : Int} {st : List UInt8} {en : Bool} (hk : k = (peekF ts i).kind) (hst : st = (peekF ts i).s) (h : en = decide (k ≠ 1 ∧ k ≠ 2 ∧ isP ts i 44 = false)) :
    ((k != 1) = false ∧ en = false) ∨ ((k != 1) = true ∧ (k != 2) = false ∧ en = false) ∨ ((k != 1) = true ∧ (k != 2) = true ∧ (k == 6) = true ∧ (st == [44]) = true ∧ en = false) ∨
    ((k != 1) = true ∧ (k != 2) = true ∧ (k == 6) = true ∧ (st == [44]) = false ∧ en = true) ∨ ((k != 1) = true ∧ (k != 2) = true ∧ (k == 6) = false ∧ en = true) := by
 have hp : isP ts i 44 = (decide (k = 6) && decide (st = [44])) := by unfold isP; rw [hk, hst]
 rw [hp] at h
 subst h
 by_cases h1 : k = 1 <;> by_cases h2 : k = 2 <;> by_cases h6 : k = 6 <;> by_cases h4 : st = [44] <;> simp_all
theorem three_ways {a c d m : Int} {fi : Bool} (h : fi = decide (0 < a ∧ a ≤ m ∧ c ≤ d)) :
    (decide (0 < a) = false ∧ fi = false) ∨ (decide (0 < a) = true ∧ decide (a ≤ m) = false ∧ fi = false) ∨ (decide (0 < a) = true ∧ decide (a ≤ m) = true ∧ decide (c ≤ d) = false ∧ fi = false) ∨
    (decide (0 < a) = true ∧ decide (a ≤ m) = true ∧ decide (c ≤ d) = true ∧ fi = true) := by
 subst h
 by_cases h1 : 0 < a <;> by_cases h2 : a ≤ m <;> by_cases h3 : c ≤ d <;> simp_all
theorem two_new {w : World} {S : Nat → Prop} {x y : TV} {t t' : Tm} {g : Nat} (hx : TermS w S x t) (hy : TermS w S y t') (hnew : w.heap[g]? = some (.cells #[.int .i64 x.k, .int .i64 x.n, .string ⟨x.s.toArray⟩, .slice x.A x.len x.cap, .int .i64 y.k, .int .i64 y.n, .string ⟨y.s.toArray⟩, .slice y.A y.len y.cap] 34 (0, 0))) (hS : S g) (nm : List UInt8) (hnm : nm.length ≤ maxLen) :
    TermS w S ⟨4, 0, nm, some ⟨g, 0, none⟩, 2, 2⟩ (compT nm [t, t']) := TermsS.block (((TermsS.nil _ _).snoc hx).snoc hy) hnew hS nm hnm 4 0 2
theorem one_blk {w : World} {S : Nat → Prop} {x : TV} {t : Tm} {g : Nat} (hx : TermS w S x t) (hnew : w.heap[g]? = some (.cells #[.int .i64 x.k, .int .i64 x.n, .string ⟨x.s.toArray⟩, .slice x.A x.len x.cap] 34 (0, 0))) (hS : S g) (nm : List UInt8) (hnm : nm.length ≤ maxLen) :
    TermS w S ⟨4, 0, nm, some ⟨g, 0, none⟩, 1, 1⟩ (compT nm [t]) := TermsS.block ((TermsS.nil _ _).snoc hx) hnew hS nm hnm 4 0 1
set_option maxHeartbeats 16000000 in
theorem term_step {n : Nat} (hT : RTermC n) : RTermC (n + 1) := by
 intro E u nv q most h hn
 obtain ⟨R, hR⟩ : ∃ R, R = termQ (opsQ E.es) E.ts (n + 1) most q := ⟨_, rfl⟩
 rw [← hR]
 obtain ⟨P, hP⟩ : ∃ P : Ending → World → Prop, P = fun e u' => RqPost E u nv R e u' := ⟨_, rfl⟩
 rw [← hP]
 have HP := Lib.hid hP
 have hR2 : R = (match primaryQ (opsQ E.es) E.ts (termQ (opsQ E.es) E.ts n) most q with
     | .error a => .error a
     | .ok (x, s1) => loopQ (opsQ E.es) E.ts (termQ (opsQ E.es) E.ts n) most (E.ts.length + 1) x.1 x.2 s1) := hR
 obtain ⟨T, hTe⟩ : ∃ T, T = termQ (opsQ E.es) E.ts n := ⟨_, rfl⟩
 have HT : Hid (∀ (w : World) (nv : Value) (q : QS) (m : Int), RqAt E w nv q false → E.ts.length - q.at' < n → Calls Tryz.prog 36 #[.pointer (some ⟨E.rb, 0, none⟩), .int .i64 m] w fun e u' => RqPost E w nv (T m q) e u') := Lib.hid fun w nv q m h1 h2 => by rw [hTe]; exact hT E w nv q m h1 h2
 obtain ⟨W, hW⟩ : ∃ W, W = u.alloc (.cells #[.int .i64 0, .int .i64 0, .string ⟨#[]⟩, .slice none 0 0] 34) := ⟨_, rfl⟩
 obtain ⟨br, hbr⟩ : ∃ b, b = u.heap.size := ⟨_, rfl⟩
 have hbW : Below u.heap.size u W := by rw [hW]; exact (Below.refl _ _).alloc (Nat.le_refl _) _
 have hr0 : W.heap[br]? = some (.cells #[.int .i64 0, .int .i64 0, .string ⟨#[]⟩, .slice none 0 0] 34 (0, 0)) := by rw [hW, hbr]; exact heap_alloc_new _ _
 have hpr := primary_anyQ hT (h.later hbW) hn most
 rw [← hTe] at hpr hR2
 have HF := Lib.hid (RqF.of_below E nv hbW)
 have HA := Lib.hid (h.later hbW)
 have HPR := Lib.hid hpr
 have HR0 := Lib.hid hr0
 have HBR := Lib.hid (And.intro (Nat.le_of_eq hbr.symm) (And.intro (show E.rb < br by have := h.lt; omega) (show br < W.heap.size from (Array.getElem?_eq_some_iff.1 hr0).1)))
 have HR2 := Lib.hid hR2
 have HTF : Hid (Fwd T) := Lib.hid (by rw [hTe]; exact term_fwd _ _ n)
 have HN := Lib.hid hn
 have HSH : Hid (∀ i, (peekF E.ts i).s.length ≤ 1000000) := Lib.hid fun i => by
  unfold peekF
  rw [List.getD_eq_getElem?_getD]
  cases hx : E.ts[i]? with
  | none => exact Nat.zero_le _
  | some y => exact h.short y (List.mem_of_getElem? hx)
 clear hP hR hR2 hTe hT hbW hr0 hpr h hn
 go_enter Tryz.func36, Tryz.ntmps36
 go_upto_region 1 with fail
 rw [← hW, ← hbr]
 clear hW hbr
 go_wp2_with fail
 refine HPR.out.mono ?_
 rintro e w1 ⟨x, t, p, nv1, q1, bad1, rfl, hA1, hF1, ht1, hs1⟩
 rw [tvQ_lit]
 obtain ⟨B, hB⟩ : ∃ V, V = w1.alloc (.cells #[.int .i64 x.k, .int .i64 x.n, .string ⟨x.s.toArray⟩, .slice x.A x.len x.cap] 34) := ⟨_, rfl⟩
 obtain ⟨bx, hbx⟩ : ∃ b, b = w1.heap.size := ⟨_, rfl⟩
 have hbB : Below w1.heap.size w1 B := by rw [hB]; exact (Below.refl _ _).alloc (Nat.le_refl _) _
 have hxB : B.heap[bx]? = some (.cells #[.int .i64 x.k, .int .i64 x.n, .string ⟨x.s.toArray⟩, .slice x.A x.len x.cap] 34 (0, 0)) := by rw [hB, hbx]; exact heap_alloc_new _ _
 have HI0 : Hid (TInv E u nv T most R n W.heap.size br bx (E.ts.length + 1) p B nv1 q1 bad1 x t) := Lib.hid (by
  have h2 := hF1.size
  refine ⟨hA1.later hbB, (HF.out.trans hF1).below hbB, (hbB.block br (by have := HBR.out.2.2; omega)).trans (hF1.box HA.out HR0.out (by decide) (by decide)), hxB, ht1.go' fun b hb => ?_, Nat.le_trans h2 hbB.size, fun e => ?_, fun e => ?_⟩
  ·have h1 := NewX.below hbB b hb
   exact ⟨⟨h1.1.1, h1.1.2.1, fun e => by have e := List.mem_singleton.1 e; have := hb.2.1.lt; omega⟩, h1.2⟩
  ·subst e
   rw [HR2.out]
   cases hx : primaryQ (opsQ E.es) E.ts T most q with
   | error a => rw [hx] at hs1; exact hs1
   | ok r => rw [hx] at hs1; exact absurd hs1.1 (by decide)
  ·subst e
   have h3 := HR2.out
   cases hx : primaryQ (opsQ E.es) E.ts T most q with
   | error a => rw [hx] at hs1; exact absurd hs1.1 (by decide)
   | ok r =>
    rw [hx] at hs1 h3
    obtain ⟨-, rfl⟩ := hs1
    have h4 := primary_lt HTF.out hx
    have h5 := HN.out
    exact ⟨h3.symm, by omega, by omega⟩)
 have HBX : Hid (W.heap.size ≤ bx) := Lib.hid (by rw [hbx]; exact hF1.size)
 clear hA1 hF1 ht1 hs1 hbB hxB
 go_upto_region 2 with fail
 rw [← hB, ← hbx]
 clear hB hbx
 go_loopg [7] (E.ts.length + 1) (fun gk v wr => ∃ (nw : Value) (q : QS) (bad : Bool) (x : TV) (t : Tm) (p : Int), v = .int .i64 p ∧ Hid (TInv E u nv T most R n W.heap.size br bx gk p wr nw q bad x t))
 case atStart => exact ⟨_, _, _, _, _, _, rfl, HI0⟩
 case round =>
  obtain ⟨nv2, q2, bad2, x2, t2, p2, rfl, HI⟩ := hrel
  obtain ⟨⟨-, -, -, -, -, c5⟩, -⟩ := HI.out.at'.cells
  cases bad2 with
  | true =>
   obtain ⟨y0, y1, y2, y3, yf⟩ := four_at HI.out.box
   have HFIN := Lib.hid (fin_post (res := R) (p := p2) (s' := W.heap.size) HI.out.at' HI.out.fr HBR.out.1 HBR.out.2.1 HI.out.res (HI.out.tm.keep (fun b hb => ⟨hb.1, hb.2.1, fun h => h⟩) fun _ _ => rfl) HBR.out.2.2 (HI.out.bad' rfl))
   have HC4 := Lib.hid (blk_set4 (HI.out.res) rfl (.int .i64 x2.k) (.int .i64 x2.n) (.string ⟨x2.s.toArray⟩) (.slice x2.A x2.len x2.cap))
   obtain ⟨r0, r1, r2, r3, rf⟩ := four_at (HI.out.res)
   go_wp2_with fail
   obtain ⟨z0, z1, z2, z3, -⟩ := four_at HC4.out
   refine ⟨rfl, .tuple #[.agg #[.int .i64 x2.k, .int .i64 x2.n, .string ⟨x2.s.toArray⟩, .slice x2.A x2.len x2.cap], .int .i64 p2], by simp [results, Tryz.results36, go_sem, z0, z1, z2, z3], ?_⟩
   rw [HP.out]
   exact HFIN.out
  | false =>
   obtain ⟨hres, hgas, hfuel⟩ := HI.out.good rfl
   have hlb := loop_bad hres (by omega)
   have hgk : gk - 1 < gk := by omega
   obtain ⟨tk, htk⟩ : ∃ t, t = peekF E.ts q2.at' := ⟨_, rfl⟩
   have hsh := HSH.out q2.at'
   rw [← htk] at hlb hsh
   have HTK := Lib.hid htk
   have HGAS := Lib.hid (And.intro hgas (And.intro hfuel hgk))
   clear hres hgas hfuel htk hgk
   obtain ⟨k, ln, tn, st, op, ti⟩ := tk
   simp only at hlb hsh
   have HLB := Lib.hid hlb
   clear hlb
   go_wp2_with fail
   refine (look_any HI.out.at').mono ?_
   rintro e w2 ⟨rfl, hb2⟩
   rw [← HTK.out]
   simp only [tokW]
   obtain ⟨V, hV⟩ : ∃ V, V = w2.alloc (.cells #[.int .i64 k, .int .i64 ln, .int .i64 tn, .string ⟨st.toArray⟩, .bool op, .bool ti] 48) := ⟨_, rfl⟩
   obtain ⟨bt, hbt⟩ : ∃ b, b = w2.heap.size := ⟨_, rfl⟩
   have hbV : Below wr.heap.size wr V := by rw [hV]; exact hb2.alloc hb2.size _
   have HTV : Hid (V.heap[bt]? = some (.cells #[.int .i64 k, .int .i64 ln, .int .i64 tn, .string ⟨st.toArray⟩, .bool op, .bool ti] 48 (0, 0))) := Lib.hid (by rw [hV, hbt]; exact heap_alloc_new _ _)
   have HAV := Lib.hid (HI.out.at'.later hbV)
   have HFV := Lib.hid (HI.out.fr.below hbV)
   have HRV := Lib.hid ((hbV.block br (Array.getElem?_eq_some_iff.1 HI.out.res).1).trans HI.out.res)
   have HXV := Lib.hid ((hbV.block bx (Array.getElem?_eq_some_iff.1 HI.out.box).1).trans HI.out.box)
   have HMV := Lib.hid (HI.out.tm.go' (NewX.below hbV))
   have HZV := Lib.hid (Nat.le_trans HI.out.size hbV.size)
   clear hb2 hbV c5
   go_upto_region 4 with fail
   rw [← hV, ← hbt]
   clear hV hbt
   obtain ⟨t0, t1, t2', t3, t4, t5, tf⟩ := six_at HTV.out
   obtain ⟨y0, y1, y2, y3, yf⟩ := four_at HXV.out
   obtain ⟨en, hen⟩ : ∃ b, b = decide (k ≠ 1 ∧ k ≠ 2 ∧ isP E.ts q2.at' 44 = false) := ⟨_, rfl⟩
   have hcs := end_ways (ts := E.ts) (i := q2.at') (by rw [← HTK.out]) (by rw [← HTK.out]) hen
   have HEN := Lib.hid hen
   clear hen
   go_cut [47] (fun v wx => v = .bool en ∧ V = wx)
   case first =>
    rcases hcs with ⟨e1, he⟩ | ⟨e1, e2, he⟩ | ⟨e1, e2, e3, e4, he⟩ | ⟨e1, e2, e3, e4, he⟩ | ⟨e1, e2, e3, he⟩
    all_goals
     have HE1 := Lib.hid he
     clear he
     go_wp2_with fail
     go_meet
     exact ⟨by rw [HE1.out], rfl⟩
   case rest =>
    clear hcs
    obtain ⟨rfl, rfl⟩ := hcut
    by_cases hend : k ≠ 1 ∧ k ≠ 2 ∧ isP E.ts q2.at' 44 = false
    ·have hfin : R = .ok ((t2, p2), q2) := by have h1 := HLB.out; rw [if_pos hend] at h1; exact h1.symm
     have HFI := Lib.hid hfin
     obtain rfl : en = true := HEN.out.trans (decide_eq_true hend)
     clear hend hfin HEN
     have HFIN := Lib.hid (fin_post (res := R) (p := p2) (s' := W.heap.size) HAV.out HFV.out HBR.out.1 HBR.out.2.1 HRV.out (HMV.out.keep (fun b hb => ⟨hb.1, hb.2.1, fun h => h⟩) fun _ _ => rfl) HBR.out.2.2 (by rw [HFI.out]; exact ⟨rfl, rfl⟩))
     have HC4 := Lib.hid (blk_set4 (HRV.out) rfl (.int .i64 x2.k) (.int .i64 x2.n) (.string ⟨x2.s.toArray⟩) (.slice x2.A x2.len x2.cap))
     obtain ⟨r0, r1, r2, r3, rf⟩ := four_at (HRV.out)
     go_wp2_with fail
     obtain ⟨z0, z1, z2, z3, -⟩ := four_at HC4.out
     refine ⟨rfl, .tuple #[.agg #[.int .i64 x2.k, .int .i64 x2.n, .string ⟨x2.s.toArray⟩, .slice x2.A x2.len x2.cap], .int .i64 p2], by simp [results, Tryz.results36, go_sem, z0, z1, z2, z3], ?_⟩
     rw [HP.out]
     exact HFIN.out
    ·have hpk : k ≠ 0 ∧ ((k = 1 ∨ k = 2) ∨ (k = 6 ∧ st = [44])) := by
      have hp := isP_is (ts := E.ts) (i := q2.at') (c := 44)
      rw [← HTK.out] at hp
      simp only at hp
      by_cases h1 : k = 1
      ·exact ⟨by omega, .inl (.inl h1)⟩
      ·by_cases h2 : k = 2
       ·exact ⟨by omega, .inl (.inr h2)⟩
       ·by_cases h6 : k = 6
        ·rw [hp h6] at hend
         by_cases h4 : st = [44]
         ·exact ⟨by omega, .inr ⟨h6, h4⟩⟩
         ·exact absurd ⟨h1, h2, decide_eq_false h4⟩ hend
        ·exact absurd ⟨h1, h2, isP_no (by rw [← HTK.out]; exact h6)⟩ hend
     have hq2 : q2.at' < E.ts.length := peek_lt (by rw [← HTK.out]; exact hpk.1)
     have HQ2 := Lib.hid hq2
     obtain ⟨ip, il, ir, hinf⟩ : ∃ a b c, (opsQ E.es).inf st = (a, b, c) := ⟨_, _, _, rfl⟩
     obtain ⟨pp, pl, hpost⟩ : ∃ a b, (opsQ E.es).post st = (a, b) := ⟨_, _, rfl⟩
     have hlb := HLB.out
     rw [if_neg hend, hinf, hpost] at hlb
     simp only at hlb
     have HLB := Lib.hid hlb
     have hic : ∀ w, Below V.heap.size V w → Calls Tryz.prog 67 #[.pointer (some ⟨E.rt, 0, none⟩), .string ⟨st.toArray⟩] w fun e w' => e = .returned (.tuple #[.int .i64 ip, .int .i64 il, .int .i64 ir]) ∧ Below V.heap.size V w' := fun w h => by
      have h1 := (HAV.out.later h).infC st
      rw [hinf] at h1
      exact h1.mono fun e w' k => ⟨k.1, h.trans (k.2.mono h.size)⟩
     have hpc : ∀ w, Below V.heap.size V w → Calls Tryz.prog 68 #[.pointer (some ⟨E.rt, 0, none⟩), .string ⟨st.toArray⟩] w fun e w' => e = .returned (.tuple #[.int .i64 pp, .int .i64 pl]) ∧ Below V.heap.size V w' := fun w h => by
      have h1 := (HAV.out.later h).postC st
      rw [hpost] at h1
      exact h1.mono fun e w' k => ⟨k.1, h.trans (k.2.mono h.size)⟩
     have HIC := Lib.hid hic
     have HPC := Lib.hid hpc
     have hwr2 : IntKind.i64.wrap ((q2.at' : Int) + 1) = (q2.at' : Int) + 1 := IntWalk.i64_in _ (by have := HAV.out.few; omega)
     have HSV : Hid (∀ v, Below V.heap.size V v → v.cell? ⟨E.rb, 2, none⟩ = some (.pointer (some ⟨E.rt, 0, none⟩)) ∧ v.cell? ⟨bt, 3, none⟩ = some (.string ⟨st.toArray⟩)) := Lib.hid fun v hv => ⟨(HAV.out.later hv).cells.1.2.2.1, (hv.cell (p := ⟨bt, 3, none⟩) (Array.getElem?_eq_some_iff.1 HTV.out).1).trans t3⟩
     obtain rfl : en = false := HEN.out.trans (decide_eq_false hend)
     clear hlb hic hpc hinf hpost hend hq2 HEN
     clear hpk
     have hb0 := Below.refl V.heap.size V
     have hbd : Below V.heap.size V V.drew := (Below.refl _ _).drew
     obtain ⟨m2, m3⟩ := HSV.out V hb0
     go_wp2_with fail
     go_region_held3 (fun v => v.cell? ⟨E.rb, 2, none⟩ = some (.pointer (some ⟨E.rt, 0, none⟩)) ∧ v.cell? ⟨bt, 3, none⟩ = some (.string ⟨st.toArray⟩))
      (first | (with_reducible exact HSV.out _ (by assumption)))
      (first | (go_at_call 67; refine (HIC.out _ (by assumption)).mono ?_; rintro e w3 ⟨rfl, hb3⟩))
     clear m2 m3 hb0 hbd
     have HA3 := Lib.hid (HAV.out.later hb3)
     have HF3 := Lib.hid (HFV.out.below hb3)
     have HR3 := Lib.hid ((hb3.block br (Array.getElem?_eq_some_iff.1 HRV.out).1).trans HRV.out)
     have HX3 := Lib.hid ((hb3.block bx (Array.getElem?_eq_some_iff.1 HXV.out).1).trans HXV.out)
     have HT3 := Lib.hid ((hb3.block bt (Array.getElem?_eq_some_iff.1 HTV.out).1).trans HTV.out)
     have HM3 := Lib.hid (HMV.out.go' (NewX.below hb3))
     have HZ3 := Lib.hid (Nat.le_trans HZV.out hb3.size)
     clear t0 t1 t2' t3 t4 t5 tf y0 y1 y2 y3 yf
     obtain ⟨t0, t1, t2', t3, t4, t5, tf⟩ := six_at HT3.out
     obtain ⟨y0, y1, y2, y3, yf⟩ := four_at HX3.out
     obtain ⟨⟨-, c1, -, -, -, c5⟩, cf⟩ := HA3.out.cells
     go_upto_region 6 with fail
     obtain ⟨fi, hfi⟩ : ∃ b, b = decide (0 < ip ∧ ip ≤ most ∧ p2 ≤ il) := ⟨_, rfl⟩
     have hcs := three_ways hfi
     have HFI := Lib.hid hfi
     clear hfi
     go_cut [70] (fun v wx => v = .bool fi ∧ w3 = wx)
     case first =>
      rcases hcs with ⟨d1, he⟩ | ⟨d1, d2, he⟩ | ⟨d1, d2, d3, he⟩ | ⟨d1, d2, d3, he⟩
      all_goals
       have HE1 := Lib.hid he
       clear he
       go_wp2_with fail
       go_meet
       exact ⟨by rw [HE1.out], rfl⟩
     case' rest =>
      clear hcs
      obtain ⟨rfl, rfl⟩ := hcut
     by_cases hinf : 0 < ip ∧ ip ≤ most ∧ p2 ≤ il
     ·obtain rfl : fi = true := HFI.out.trans (decide_eq_true hinf)
      have HCP := Lib.hid hinf
      clear hinf hb3 HFI
      obtain ⟨G, hG⟩ : ∃ G, G = w3.setCell ⟨E.rb, 1, none⟩ (.int .i64 ((q2.at' : Int) + 1)) := ⟨_, rfl⟩
      have hbx : bx ≠ E.rb := by have := HBX.out; have := HBR.out.2; omega
      have HAG : Hid (RqAt E G nv2 (q2.go 1) false) := Lib.hid (by rw [hG]; exact HA3.out.step HQ2.out)
      have HFG : Hid (RqF E u nv G nv2) := Lib.hid (by rw [hG]; exact HF3.out.set (.inl rfl) _)
      have HRG : Hid (G.heap[br]? = some (.cells #[.int .i64 0, .int .i64 0, .string ⟨#[]⟩, .slice none 0 0] 34 (0, 0))) := Lib.hid (by rw [hG, Below.heap_setCell _ _ _ _ (by have := HBR.out.2; show br ≠ E.rb; omega)]; exact HR3.out)
      have HXG : Hid (G.heap[bx]? = some (.cells #[.int .i64 x2.k, .int .i64 x2.n, .string ⟨x2.s.toArray⟩, .slice x2.A x2.len x2.cap] 34 (0, 0))) := Lib.hid (by rw [hG, Below.heap_setCell _ _ _ _ hbx]; exact HX3.out)
      have HTG : Hid (G.heap[bt]? = some (.cells #[.int .i64 k, .int .i64 ln, .int .i64 tn, .string ⟨st.toArray⟩, .bool op, .bool ti] 48 (0, 0))) := Lib.hid (by
       rw [hG, Below.heap_setCell _ _ _ _ fun e => ?_]
       ·exact HT3.out
       ·exact (TyQ.ne ⟨_, HT3.out⟩ HA3.out.ty (by decide)) e)
      have HMG : Hid (TermS G (NewX W.heap.size G (· ∈ [bx])) x2 t2) := Lib.hid (by rw [hG]; exact HM3.out.go' (NewX.set _ (.inr (by have := HBR.out.2; show E.rb < _; omega))))
      have HZG : Hid (W.heap.size ≤ G.heap.size) := Lib.hid (by rw [hG]; simpa [World.setCell] using HZ3.out)
      clear hbx
      go_upto_region 8 with fail
      rw [← hG]
      clear hG t0 t1 t2' t3 t4 t5 tf y0 y1 y2 y3 yf c1 c5 cf
      go_wp2_with fail
      refine (HT.out G nv2 (q2.go 1) ir HAG.out (by have := HGAS.out.2.1; have := HQ2.out; simp only [QS.go]; omega)).mono ?_
      rintro e w4 ⟨y, t4', p4, nv4, q4, bad4, rfl, hA4, hF4, ht4, hs4⟩
      rw [tvQ_lit]
      obtain ⟨Y, hY⟩ : ∃ V, V = w4.alloc (.cells #[.int .i64 y.k, .int .i64 y.n, .string ⟨y.s.toArray⟩, .slice y.A y.len y.cap] 34) := ⟨_, rfl⟩
      obtain ⟨b12, hb12⟩ : ∃ b, b = w4.heap.size := ⟨_, rfl⟩
      have hbY : Below w4.heap.size w4 Y := by rw [hY]; exact (Below.refl _ _).alloc (Nat.le_refl _) _
      have HBY : Hid (Y.heap[b12]? = some (.cells #[.int .i64 y.k, .int .i64 y.n, .string ⟨y.s.toArray⟩, .slice y.A y.len y.cap] 34 (0, 0))) := Lib.hid (by rw [hY, hb12]; exact heap_alloc_new _ _)
      obtain ⟨D, hD⟩ : ∃ V, V = Y.alloc (.cells #[.int .i64 x2.k, .int .i64 x2.n, .string ⟨x2.s.toArray⟩, .slice x2.A x2.len x2.cap, .int .i64 y.k, .int .i64 y.n, .string ⟨y.s.toArray⟩, .slice y.A y.len y.cap] 34) := ⟨_, rfl⟩
      have hbD : Below Y.heap.size Y D := by rw [hD]; exact (Below.refl _ _).alloc (Nat.le_refl _) _
      have hnD : D.heap[Y.heap.size]? = some (.cells #[.int .i64 x2.k, .int .i64 x2.n, .string ⟨x2.s.toArray⟩, .slice x2.A x2.len x2.cap, .int .i64 y.k, .int .i64 y.n, .string ⟨y.s.toArray⟩, .slice y.A y.len y.cap] 34 (0, 0)) := by rw [hD]; exact heap_alloc_new _ _
      have hxG : bx < G.heap.size := (Array.getElem?_eq_some_iff.1 HXG.out).1
      have hrG : br < G.heap.size := (Array.getElem?_eq_some_iff.1 HRG.out).1
      have hs4' := hF4.size
      have hsY := hbY.size
      have hxD : D.heap[bx]? = some (.cells #[.int .i64 x2.k, .int .i64 x2.n, .string ⟨x2.s.toArray⟩, .slice x2.A x2.len x2.cap] 34 (0, 0)) := (hbD.block bx (by omega)).trans ((hbY.block bx (by omega)).trans (hF4.box HAG.out HXG.out (by decide) (by decide)))
      have hrD : D.heap[br]? = some (.cells #[.int .i64 0, .int .i64 0, .string ⟨#[]⟩, .slice none 0 0] 34 (0, 0)) := (hbD.block br (by omega)).trans ((hbY.block br (by omega)).trans (hF4.box HAG.out HRG.out (by decide) (by decide)))
      have hAD := (hA4.later hbY).later hbD
      have hFD := ((HFG.out.trans hF4).below hbY).below hbD
      have hx5 : TermS D (NewX W.heap.size D (· ∈ [bx])) x2 t2 := ((HMG.out.go' (NewX.step hF4 HAG.out)).go' (NewX.below hbY)).go' (NewX.below hbD)
      have hy5 : TermS D (NewX W.heap.size D (· ∈ [bx])) y t4' := ((ht4.keep (fun b hb => ⟨Nat.le_trans HZG.out hb.1, hb.2.1, fun e => by have e := List.mem_singleton.1 e; have := hb.1; omega⟩) fun _ _ => rfl).go' (NewX.below hbY)).go' (NewX.below hbD)
      have hc5 := two_new hx5 hy5 hnD ⟨by have := HZG.out; omega, ⟨_, hnD⟩, fun e => by have e := List.mem_singleton.1 e; omega⟩ st (by unfold maxLen; omega)
      have hset : ∀ b, NewX W.heap.size D (· ∈ [bx]) b → NewX W.heap.size (set4 D bx (.int .i64 4) (.int .i64 0) (.string ⟨st.toArray⟩) (.slice (some ⟨Y.heap.size, 0, none⟩) 2 2)) (· ∈ [bx]) b ∧ (set4 D bx (.int .i64 4) (.int .i64 0) (.string ⟨st.toArray⟩) (.slice (some ⟨Y.heap.size, 0, none⟩) 2 2)).heap[b]? = D.heap[b]? := fun b hb => by
       have hk := blk_set4_ne (w := D) (.int .i64 4) (.int .i64 0) (.string ⟨st.toArray⟩) (.slice (some ⟨Y.heap.size, 0, none⟩) 2 2) (fun e : b = bx => hb.2.2 (by rw [e]; simp))
       exact ⟨⟨hb.1, hb.2.1.keep hk, hb.2.2⟩, hk⟩
      have HIN : Hid (TInv E u nv T most R n W.heap.size br bx (gk - 1) ip (set4 D bx (.int .i64 4) (.int .i64 0) (.string ⟨st.toArray⟩) (.slice (some ⟨Y.heap.size, 0, none⟩) 2 2)) nv4 q4 bad4 ⟨4, 0, st, some ⟨Y.heap.size, 0, none⟩, 2, 2⟩ (compT st [t2, t4'])) := Lib.hid (by
       have hrb : E.rb < bx := by have := HBX.out; have := HBR.out.2; omega
       refine ⟨hAD.set4 hrb (hAD.apart hxD (by decide)) _ _ _ _, hFD.set4 (by have := HBX.out; have := HBR.out; have := HF.out.size; omega) _ _ _ _, (blk_set4_ne _ _ _ _ (by have := HBX.out; have := HBR.out.2.2; omega)).trans hrD, blk_set4 hxD rfl _ _ _ _, hc5.go' hset, ?_, fun e => ?_, fun e => ?_⟩
       ·have := HZG.out
        have := hbD.size
        simp [World.setCell]
        omega
       ·subst e
        have h1 := HLB.out
        rw [if_pos HCP.out] at h1
        rw [← h1]
        cases hx : T ir (q2.go 1) with
        | error a => rw [hx] at hs4; exact hs4
        | ok r => rw [hx] at hs4; exact absurd hs4.1 (by decide)
       ·subst e
        have h1 := HLB.out
        rw [if_pos HCP.out] at h1
        have h5 := HGAS.out
        cases hx : T ir (q2.go 1) with
        | error a => rw [hx] at hs4; exact absurd hs4.1 (by decide)
        | ok r =>
         rw [hx] at hs4 h1
         obtain ⟨-, rfl⟩ := hs4
         have h6 := HTF.out _ _ _ _ hx
         simp only [QS.go] at h6
         have h7 := HQ2.out
         exact ⟨h1, by omega, by omega⟩)
      obtain ⟨t0, t1, t2', t3, t4, t5, tf⟩ := six_at ((hbY.block bt (by have := (Array.getElem?_eq_some_iff.1 HTG.out).1; omega)).trans (hF4.box HAG.out HTG.out (by decide) (by decide)))
      obtain ⟨y0, y1, y2, y3, yf⟩ := four_at ((hbY.block bx (by omega)).trans (hF4.box HAG.out HXG.out (by decide) (by decide)))
      obtain ⟨v0, v1, v2, v3, vf⟩ := four_at HBY.out
      have hbxY : bx < Y.heap.size := by omega
      clear hA4 hF4 ht4 hs4 hbY hbD hnD hxG hrG hs4' hsY hxD hrD hAD hFD hx5 hy5 hc5 hset
      go_upto_region 9 with fail
      rw [← hY, ← hb12]
      clear hY hb12
      subst hD
      have hgk := HGAS.out.2.2
      have hin := HIN.out
      unfold set4 at hin
      rw [World.setCell_alloc_past _ _ _ _ hbxY, World.setCell_alloc_past _ _ _ _ (by simpa using hbxY), World.setCell_alloc_past _ _ _ _ (by simpa using hbxY), World.setCell_alloc_past _ _ _ _ (by simpa using hbxY)] at hin
      have HIN2 := Lib.hid hin
      clear hin HIN
      go_wp2_with fail
      go_roundg (gk - 1)
      case measure => exact hgk
      case rel => exact ⟨_, _, _, _, _, _, rfl, HIN2⟩
     ·have hlb := HLB.out
      rw [if_neg hinf] at hlb
      have HLC := Lib.hid hlb
      have hbd3 : Below V.heap.size V w3.drew := hb3.drew
      obtain ⟨m2, m3⟩ := HSV.out w3 hb3
      obtain rfl : fi = false := HFI.out.trans (decide_eq_false hinf)
      clear hinf hlb HFI
      go_wp2_with fail
      go_region_held3 (fun v => v.cell? ⟨E.rb, 2, none⟩ = some (.pointer (some ⟨E.rt, 0, none⟩)) ∧ v.cell? ⟨bt, 3, none⟩ = some (.string ⟨st.toArray⟩))
       (first | (with_reducible exact HSV.out _ (by assumption)))
       (first | (go_at_call 68; refine (HPC.out _ (by assumption)).mono ?_; rintro e w5 ⟨rfl, hb5⟩))
      clear m2 m3 hbd3 hb3 HA3 HF3 HR3 HX3 HT3 HM3 HZ3 c1 c5 cf
      have HA3 := Lib.hid (HAV.out.later hb5)
      have HF3 := Lib.hid (HFV.out.below hb5)
      have HR3 := Lib.hid ((hb5.block br (Array.getElem?_eq_some_iff.1 HRV.out).1).trans HRV.out)
      have HX3 := Lib.hid ((hb5.block bx (Array.getElem?_eq_some_iff.1 HXV.out).1).trans HXV.out)
      have HT3 := Lib.hid ((hb5.block bt (Array.getElem?_eq_some_iff.1 HTV.out).1).trans HTV.out)
      have HM3 := Lib.hid (HMV.out.go' (NewX.below hb5))
      have HZ3 := Lib.hid (Nat.le_trans HZV.out hb5.size)
      clear t0 t1 t2' t3 t4 t5 tf y0 y1 y2 y3 yf hb5
      obtain ⟨t0, t1, t2', t3, t4, t5, tf⟩ := six_at HT3.out
      obtain ⟨y0, y1, y2, y3, yf⟩ := four_at HX3.out
      obtain ⟨⟨-, c1, -, -, -, c5⟩, cf⟩ := HA3.out.cells
      go_upto_region 11 with fail
      obtain ⟨fp, hfp⟩ : ∃ b, b = decide (0 < pp ∧ pp ≤ most ∧ p2 ≤ pl) := ⟨_, rfl⟩
      have hcs := three_ways hfp
      have HFP := Lib.hid hfp
      clear hfp
      go_cut [112] (fun v wx => v = .bool fp ∧ w5 = wx)
      case first =>
       rcases hcs with ⟨d1, he⟩ | ⟨d1, d2, he⟩ | ⟨d1, d2, d3, he⟩ | ⟨d1, d2, d3, he⟩
       all_goals
        have HE1 := Lib.hid he
        clear he
        go_wp2_with fail
        go_meet
        exact ⟨by rw [HE1.out], rfl⟩
      case' rest =>
       clear hcs
       obtain ⟨rfl, rfl⟩ := hcut
      by_cases hpf : 0 < pp ∧ pp ≤ most ∧ p2 ≤ pl
      ·obtain rfl : fp = true := HFP.out.trans (decide_eq_true hpf)
       have hlb := HLC.out
       rw [if_pos hpf] at hlb
       have HLD := Lib.hid hlb
       clear hpf hlb HFP
       obtain ⟨G, hG⟩ : ∃ G, G = w5.setCell ⟨E.rb, 1, none⟩ (.int .i64 ((q2.at' : Int) + 1)) := ⟨_, rfl⟩
       have hbx : bx ≠ E.rb := by have := HBX.out; have := HBR.out.2; omega
       have HAG : Hid (RqAt E G nv2 (q2.go 1) false) := Lib.hid (by rw [hG]; exact HA3.out.step HQ2.out)
       have HFG : Hid (RqF E u nv G nv2) := Lib.hid (by rw [hG]; exact HF3.out.set (.inl rfl) _)
       have HRG : Hid (G.heap[br]? = some (.cells #[.int .i64 0, .int .i64 0, .string ⟨#[]⟩, .slice none 0 0] 34 (0, 0))) := Lib.hid (by rw [hG, Below.heap_setCell _ _ _ _ (by have := HBR.out.2; show br ≠ E.rb; omega)]; exact HR3.out)
       have HXG : Hid (G.heap[bx]? = some (.cells #[.int .i64 x2.k, .int .i64 x2.n, .string ⟨x2.s.toArray⟩, .slice x2.A x2.len x2.cap] 34 (0, 0))) := Lib.hid (by rw [hG, Below.heap_setCell _ _ _ _ hbx]; exact HX3.out)
       have HTG : Hid (G.heap[bt]? = some (.cells #[.int .i64 k, .int .i64 ln, .int .i64 tn, .string ⟨st.toArray⟩, .bool op, .bool ti] 48 (0, 0))) := Lib.hid (by
        rw [hG, Below.heap_setCell _ _ _ _ fun e => ?_]
        ·exact HT3.out
        ·exact (TyQ.ne ⟨_, HT3.out⟩ HA3.out.ty (by decide)) e)
       have HMG : Hid (TermS G (NewX W.heap.size G (· ∈ [bx])) x2 t2) := Lib.hid (by rw [hG]; exact HM3.out.go' (NewX.set _ (.inr (by have := HBR.out.2; show E.rb < _; omega))))
       have HZG : Hid (W.heap.size ≤ G.heap.size) := Lib.hid (by rw [hG]; simpa [World.setCell] using HZ3.out)
       clear hbx
       go_upto_region 13 with fail
       rw [← hG]
       clear hG t0 t1 t2' t3 t4 t5 tf y0 y1 y2 y3 yf c1 c5 cf
       obtain ⟨D, hD⟩ : ∃ V, V = G.alloc (.cells #[.int .i64 x2.k, .int .i64 x2.n, .string ⟨x2.s.toArray⟩, .slice x2.A x2.len x2.cap] 34) := ⟨_, rfl⟩
       have hbD : Below G.heap.size G D := by rw [hD]; exact (Below.refl _ _).alloc (Nat.le_refl _) _
       have hnD : D.heap[G.heap.size]? = some (.cells #[.int .i64 x2.k, .int .i64 x2.n, .string ⟨x2.s.toArray⟩, .slice x2.A x2.len x2.cap] 34 (0, 0)) := by rw [hD]; exact heap_alloc_new _ _
       have hxG : bx < G.heap.size := (Array.getElem?_eq_some_iff.1 HXG.out).1
       have hxD := (hbD.block bx hxG).trans HXG.out
       have hrD := (hbD.block br (Array.getElem?_eq_some_iff.1 HRG.out).1).trans HRG.out
       have hAD := HAG.out.later hbD
       have hFD := HFG.out.below hbD
       have hc5 := one_blk (HMG.out.go' (NewX.below hbD)) hnD ⟨HZG.out, ⟨_, hnD⟩, fun e => by have e := List.mem_singleton.1 e; omega⟩ st (by unfold maxLen; omega)
       have hset : ∀ b, NewX W.heap.size D (· ∈ [bx]) b → NewX W.heap.size (set4 D bx (.int .i64 4) (.int .i64 0) (.string ⟨st.toArray⟩) (.slice (some ⟨G.heap.size, 0, none⟩) 1 1)) (· ∈ [bx]) b ∧ (set4 D bx (.int .i64 4) (.int .i64 0) (.string ⟨st.toArray⟩) (.slice (some ⟨G.heap.size, 0, none⟩) 1 1)).heap[b]? = D.heap[b]? := fun b hb => by
        have hk := blk_set4_ne (w := D) (.int .i64 4) (.int .i64 0) (.string ⟨st.toArray⟩) (.slice (some ⟨G.heap.size, 0, none⟩) 1 1) (fun e : b = bx => hb.2.2 (by rw [e]; simp))
        exact ⟨⟨hb.1, hb.2.1.keep hk, hb.2.2⟩, hk⟩
       have HIN : Hid (TInv E u nv T most R n W.heap.size br bx (gk - 1) pp (set4 D bx (.int .i64 4) (.int .i64 0) (.string ⟨st.toArray⟩) (.slice (some ⟨G.heap.size, 0, none⟩) 1 1)) nv2 (q2.go 1) false ⟨4, 0, st, some ⟨G.heap.size, 0, none⟩, 1, 1⟩ (compT st [t2])) := Lib.hid (by
        have hrb : E.rb < bx := by have := HBX.out; have := HBR.out.2; omega
        refine ⟨hAD.set4 hrb (hAD.apart hxD (by decide)) _ _ _ _, hFD.set4 (by have := HBX.out; have := HBR.out; have := HF.out.size; omega) _ _ _ _, (blk_set4_ne _ _ _ _ (by have := HBX.out; have := HBR.out.2.2; omega)).trans hrD, blk_set4 hxD rfl _ _ _ _, hc5.go' hset, ?_, fun e => (by cases e), fun _ => ?_⟩
        ·have := HZG.out
         have := hbD.size
         simp [World.setCell]
         omega
        ·have h5 := HGAS.out
         have h7 := HQ2.out
         exact ⟨HLD.out, by simp only [QS.go]; omega, by simp only [QS.go]; omega⟩)
       obtain ⟨t0, t1, t2', t3, t4, t5, tf⟩ := six_at HTG.out
       obtain ⟨y0, y1, y2, y3, yf⟩ := four_at HXG.out
       clear hbD hnD hxD hrD hAD hFD hc5 hset
       subst hD
       have hgk := HGAS.out.2.2
       have hin := HIN.out
       unfold set4 at hin
       rw [World.setCell_alloc_past _ _ _ _ hxG, World.setCell_alloc_past _ _ _ _ (by simpa using hxG), World.setCell_alloc_past _ _ _ _ (by simpa using hxG), World.setCell_alloc_past _ _ _ _ (by simpa using hxG)] at hin
       have HIN2 := Lib.hid hin
       clear hin HIN
       go_wp2_with fail
       go_roundg (gk - 1)
       case measure => exact hgk
       case rel => exact ⟨_, _, _, _, _, _, rfl, HIN2⟩
      ·have hlb := HLC.out
       rw [if_neg hpf] at hlb
       have HLD := Lib.hid hlb.symm
       obtain rfl : fp = false := HFP.out.trans (decide_eq_false hpf)
       clear hpf hlb HFP
       have HFIN := Lib.hid (fin_post (res := R) (p := p2) (s' := W.heap.size) HA3.out HF3.out HBR.out.1 HBR.out.2.1 HR3.out (HM3.out.keep (fun b hb => ⟨hb.1, hb.2.1, fun h => h⟩) fun _ _ => rfl) HBR.out.2.2 (by rw [HLD.out]; exact ⟨rfl, rfl⟩))
       have HC4 := Lib.hid (blk_set4 (HR3.out) rfl (.int .i64 x2.k) (.int .i64 x2.n) (.string ⟨x2.s.toArray⟩) (.slice x2.A x2.len x2.cap))
       obtain ⟨r0, r1, r2, r3, rf⟩ := four_at (HR3.out)
       go_wp2_with fail
       obtain ⟨z0, z1, z2, z3, -⟩ := four_at HC4.out
       refine ⟨rfl, .tuple #[.agg #[.int .i64 x2.k, .int .i64 x2.n, .string ⟨x2.s.toArray⟩, .slice x2.A x2.len x2.cap], .int .i64 p2], by simp [results, Tryz.results36, go_sem, z0, z1, z2, z3], ?_⟩
       rw [HP.out]
       exact HFIN.out
theorem term_all : ∀ n, RTermC n
 | 0 => fun _ _ _ _ _ _ hn => absurd hn (Nat.not_lt_zero _)
 | n + 1 => term_step (term_all n)
end Go.Proofs.YtiffopheamnngaaGreatDoor
