import Derived.Test.YtcallkljcjimiaaGreatDoorJW45
import Derived.Deep.RegionHeld3
import Derived.Deep.Cut
import Derived.Deep.CutRange
import Derived.Deep.DeepCutAuto
namespace Go.Proofs.YtcallkljcjimiaaGreatDoor
mutual
theorem nrT_size : ∀ (t : Tm) (seen : List Int), WfT t → (nrT seen t).1.size = t.size ∧ (nrT seen t).1.deep = t.deep ∧ (nrT seen t).1.may = true
 | .mk k n s l, seen, h => by
  rw [nrT]
  by_cases hk : k = 1
  ·rw [if_pos hk]
   have hv := wf_var h hk
   have hl : l = [] := by
    have := congrArg Tm.args hv
    exact this
   subst hl
   cases posF seen n with
   | some i =>
    refine ⟨rfl, rfl, ?_⟩
    unfold varT
    rw [Tm.may, Tm.mays]
    unfold mayP
    rw [if_pos rfl]
    simp
   | none =>
    refine ⟨rfl, rfl, ?_⟩
    unfold varT
    rw [Tm.may, Tm.mays]
    unfold mayP
    rw [if_pos rfl]
    simp
  ·rw [if_neg hk]
   obtain ⟨h1, h2, h3, h4⟩ := nrTs_size l seen fun x hx => h.mem hx
   have hm := h.may
   rw [Tm.may, Bool.and_eq_true] at hm
   simp only
   rw [Tm.size, Tm.size, Tm.deep, Tm.deep, Tm.may, h1, h2, h3, h4, hm.1]
   exact ⟨rfl, rfl, rfl⟩
theorem nrTs_size : ∀ (l : List Tm) (seen : List Int), (∀ x ∈ l, WfT x) → Tm.sizes (nrTs seen l).1 = Tm.sizes l ∧ Tm.deeps (nrTs seen l).1 = Tm.deeps l ∧ Tm.mays (nrTs seen l).1 = true ∧ (nrTs seen l).1.length = l.length
 | [], seen, _ => by rw [nrTs]; exact ⟨rfl, rfl, rfl, rfl⟩
 | t :: r, seen, h => by
  obtain ⟨h1, h2, h3⟩ := nrT_size t seen (h t (List.mem_cons_self ..))
  obtain ⟨g1, g2, g3, g4⟩ := nrTs_size r (nrT seen t).2 fun x hx => h x (List.mem_cons_of_mem _ hx)
  rw [nrTs]
  simp only
  rw [Tm.sizes, Tm.sizes, Tm.deeps, Tm.deeps, Tm.mays, h1, h2, h3, g1, g2, g3, List.length_cons, List.length_cons, g4]
  exact ⟨rfl, rfl, rfl, rfl⟩
end
section
variable {o : OpsF} {es : List (OpK × OpV)} {way : Int}
theorem lex_written (hway : way ≠ 0) (t : Tm) (m : Int) (hw : WfT t) : lexB (wrT es way t m ++ [32, 46]) = (tkL true (lxF es way t.size t m ++ [stopL]) ++ [endTok 1], 0, 0) := by
 have h := lx_ok es way hway t.size t m (Nat.le_refl _) hw
 have hs : flat [stopL] = [32, 46] := rfl
 have hok := h.ok [stopL] ⟨32, [46], rfl, soft_of (.inl rfl)⟩ ⟨stop_good, trivial⟩
 have := lexB_flat _ hok
 rw [flat_app, h.flat, hs] at this
 exact this
theorem tkL_len : ∀ (l : List Lxm) (first : Bool), (tkL first l).length = l.length
 | [], _ => rfl
 | a :: r, first => by rw [tkL, List.length_cons, List.length_cons, tkL_len r]
theorem rest_stop (o : OpsF) (rb : Int) (a : Bool) : RestOk o stopL rb a :=
 ⟨rfl, .inr (.inr (.inr rfl)), fun e => absurd e (by show ¬ (7 : Int) = 6; decide), fun e => by
  rcases e with e | e | e
  ·exact absurd e (by show ¬ (7 : Int) = 1; decide)
  ·exact absurd e (by show ¬ (7 : Int) = 2; decide)
  ·exact absurd e (by show ¬ ([] : List UInt8) = [44]; decide), fun _ => .inr rfl⟩
theorem read_written (H : TabOk o) (hes : way ≠ 2 → o = opsOf es) (t : Tm) (hw : WfT t) (hd : t.deep ≤ 2000) (hs : t.size ≤ 20000) :
    readF o (tkL true (lxF es way t.size t 1200 ++ [stopL]) ++ [endTok 1]) 0 = (⟨(nrT [] t).1, varsOf 0 (nrT [] t).2, 1, ((lxF es way t.size t 1200).length : Int) + 1⟩, 0) := by
 obtain ⟨l, hl⟩ : ∃ l, l = lxF es way t.size t 1200 := ⟨_, rfl⟩
 obtain ⟨ts, hts⟩ : ∃ ts, ts = tkL true (l ++ [stopL]) ++ [endTok 1] := ⟨_, rfl⟩
 have hR := reads_lx (way := way) H hes ts t.size t 1200 true (Nat.le_refl _) hw (by decide) (fun _ _ => rfl)
 have hpr := pr_le H hes t 1200 (by decide)
 have hat : AtL ts 0 (l ++ [stopL]) := ⟨true, hts⟩
 rw [← hl] at hR ⊢
 rw [← hts]
 have e1 := hR (startF 0) [] stopL [] rfl ⟨rfl, rfl, rfl, fun n hn => by cases hn⟩ hat (by show prW es way t 1200 ≤ 1200; omega) (rest_stop o _ _)
 have ha2 := at_app l [stopL] 0 hat
 have hno := (rest_stop o 1200 true).noOp (s := (startF 0).put l.length (nrT [] t) (prW es way t 1200)) ha2 (Int.le_refl _)
 have hk : (peekF ts (0 + l.length)).kind = 7 := (at_head ha2).1
 have e2 : endF o ts ((startF 0).put l.length (nrT [] t) (prW es way t 1200)) = .fin ((startF 0).put l.length (nrT [] t) (prW es way t 1200)) := by
  refine fin_end ?_
  unfold roundF
  rw [if_neg (by show ¬ true = false; decide), hno]
  simp only
  rw [show ((startF 0).put l.length (nrT [] t) (prW es way t 1200)).wait = [] from rfl]
  simp only
  rw [if_neg (fun h => h hk)]
 have hend := e1.trans e2
 have hk0 : (peekF ts 0).kind ≠ 0 := fun e => by
  have hr : roundF o ts (startF 0) = .bad 0 := by
   unfold roundF
   rw [if_pos (show (startF 0).hv = false from rfl)]
   unfold primaryF
   simp only
   rw [show (startF 0).at' = 0 from rfl, e]
   rfl
  have h3 : endF o ts (startF 0) = .bad 0 := by rw [end_step, hr]
  rw [h3] at hend
  cases hend
 have hlen : 0 < ts.length := peek_lt hk0
 have hline : (peekF ts 0).line = 1 := by
  have : ∃ a r, l ++ [stopL] = a :: r := by
   cases l with
   | nil => exact ⟨_, _, rfl⟩
   | cons a r => exact ⟨_, _, rfl⟩
  obtain ⟨a, r, har⟩ := this
  rw [hts, har, tkL]
  rfl
 obtain ⟨n1, n2, n3⟩ := nrT_size t [] hw
 unfold readF
 rw [if_neg (by simp only [Int.toNat_zero]; rintro (h | h | h); exact absurd h (by decide); omega; exact hk0 h)]
 simp only [Int.toNat_zero]
 rw [show runF o ts (leftF ts (startF 0) + 1) (startF 0) = endF o ts (startF 0) from rfl, hend]
 simp only
 rw [show ((startF 0).put l.length (nrT [] t) (prW es way t 1200)).t = (nrT [] t).1 from rfl, if_neg (by rw [n3]; decide), if_neg (by rw [n2]; omega), if_neg (by rw [n1]; omega), hline]
 show (ClauseF.mk (nrT [] t).1 (varsOf 0 (nrT [] t).2) 1 (((0 + l.length : Nat) : Int) + 1), (0 : Int)) = _
 rw [Nat.zero_add]
end
end Go.Proofs.YtcallkljcjimiaaGreatDoor
namespace Go.Proofs.YtcallkljcjimiaaGreatDoor
open Go.RowKit
set_option maxRecDepth 100000
noncomputable def sameTm (t u : Tm) : Bool := @decide (t = u) (Classical.propDecidable _)
theorem sameTm_iff (t u : Tm) : sameTm t u = true ↔ t = u := by
 unfold sameTm
 exact @decide_eq_true_iff _ (Classical.propDecidable _)
theorem sameTm_self (t : Tm) : sameTm t t = true := (sameTm_iff t t).2 rfl
theorem sameTm_false {t u : Tm} (h : t ≠ u) : sameTm t u = false := by
 cases hb : sameTm t u with
 | false => rfl
 | true => exact absurd ((sameTm_iff t u).1 hb) h
theorem s10_drew {w : World} {p0 p1 p2 p3 p4 p5 p6 p7 p8 p9 : Addr} {x0 x1 x2 x3 x4 x5 x6 x7 x8 x9 : Option Value} (h : w.cell? p0 = x0 ∧ w.cell? p1 = x1 ∧ w.cell? p2 = x2 ∧ w.cell? p3 = x3 ∧ w.cell? p4 = x4 ∧ w.cell? p5 = x5 ∧ w.cell? p6 = x6 ∧ w.cell? p7 = x7 ∧ w.cell? p8 = x8 ∧ w.cell? p9 = x9) :
    w.drew.cell? p0 = x0 ∧ w.drew.cell? p1 = x1 ∧ w.drew.cell? p2 = x2 ∧ w.drew.cell? p3 = x3 ∧ w.drew.cell? p4 = x4 ∧ w.drew.cell? p5 = x5 ∧ w.drew.cell? p6 = x6 ∧ w.drew.cell? p7 = x7 ∧ w.drew.cell? p8 = x8 ∧ w.drew.cell? p9 = x9 := h
theorem cell_later {w w' : World} {p : Addr} {x : Value} (h : w.cell? p = some x) (hb : Below w.heap.size w w') : w'.cell? p = some x := (hb.cell (World.block_lt_of_cell? w _ h)).trans h
theorem s10_later {w w' : World} {p0 p1 p2 p3 p4 p5 p6 p7 p8 p9 : Addr} {x0 x1 x2 x3 x4 x5 x6 x7 x8 x9 : Value} (h : w.cell? p0 = some x0 ∧ w.cell? p1 = some x1 ∧ w.cell? p2 = some x2 ∧ w.cell? p3 = some x3 ∧ w.cell? p4 = some x4 ∧ w.cell? p5 = some x5 ∧ w.cell? p6 = some x6 ∧ w.cell? p7 = some x7 ∧ w.cell? p8 = some x8 ∧ w.cell? p9 = some x9) (hb : Below w.heap.size w w') :
    w'.cell? p0 = some x0 ∧ w'.cell? p1 = some x1 ∧ w'.cell? p2 = some x2 ∧ w'.cell? p3 = some x3 ∧ w'.cell? p4 = some x4 ∧ w'.cell? p5 = some x5 ∧ w'.cell? p6 = some x6 ∧ w'.cell? p7 = some x7 ∧ w'.cell? p8 = some x8 ∧ w'.cell? p9 = some x9 :=
 ⟨cell_later h.1 hb, cell_later h.2.1 hb, cell_later h.2.2.1 hb, cell_later h.2.2.2.1 hb, cell_later h.2.2.2.2.1 hb, cell_later h.2.2.2.2.2.1 hb, cell_later h.2.2.2.2.2.2.1 hb, cell_later h.2.2.2.2.2.2.2.1 hb, cell_later h.2.2.2.2.2.2.2.2.1 hb, cell_later h.2.2.2.2.2.2.2.2.2 hb⟩
structure SmAt (w wr : World) (x y : TV) (l m : List Tm) (k : Nat) : Prop where
 below : Below w.heap.size w wr
 b0 : wr.cell? ⟨w.heap.size, 3, none⟩ = some (.slice x.A x.len x.cap)
 b1 : wr.cell? ⟨w.heap.size + 1, 3, none⟩ = some (.slice y.A y.len y.cap)
 same : ∀ i, i < k → l[i]? = m[i]?
set_option maxHeartbeats 8000000 in
theorem same_any : ∀ (n : Nat) (t u : Tm) (x y : TV) (w : World), t.size ≤ n → t.size ≤ 10000000 → u.size ≤ 10000000 → TermAt w w.heap.size x t → TermAt w w.heap.size y u →
    Calls Tryz.prog 23 #[tvV x, tvV y] w fun e w' => e = .returned (.bool (sameTm t u)) ∧ Below w.heap.size w w' := by
 intro n
 induction n with
 | zero => intro t u x y w h; have := size_pos t; omega
 | succ n ih =>
  intro t u x y w hn hst hsu hx hy
  obtain ⟨k1, k2, k3, k4, k5, k6⟩ := hx.open
  obtain ⟨j1, j2, j3, j4, j5, j6⟩ := hy.open
  have hta : t.args.length + 1 ≤ t.size := args_size t
  have hua : u.args.length + 1 ≤ u.size := args_size u
  have hxl : (x.len : Int) ≤ 10000000 := by omega
  have hyl : (y.len : Int) ≤ 10000000 := by omega
  obtain ⟨q, hq⟩ : ∃ q, q = sameTm t u := ⟨_, rfl⟩
  rw [← hq]
  have HQ := Lib.hid hq
  clear hq
  by_cases e1 : x.k = y.k
  case neg =>
   have hne : q = false := HQ.out.trans (sameTm_false fun e => e1 (by rw [← k1, ← j1, e]))
   have b1 : (x.k != y.k) = true := bne_iff_ne.2 e1
   clear HQ k6 j6
   unfold tvV
   go_enter Tryz.func23, Tryz.ntmps23
   go_wp2_with fail
   go_ret
   exact ⟨by rw [hne]; rfl, ((Below.refl _ _).alloc (Nat.le_refl _) _).alloc (by simp) _⟩
  have b1 : (x.k != y.k) = false := by rw [e1]; simp
  by_cases e2 : x.n = y.n
  case neg =>
   have hne : q = false := HQ.out.trans (sameTm_false fun e => e2 (by rw [← k2, ← j2, e]))
   have b2 : (x.n != y.n) = true := bne_iff_ne.2 e2
   clear e1
   clear HQ k6 j6
   unfold tvV
   go_enter Tryz.func23, Tryz.ntmps23
   go_wp2_with fail
   go_ret
   exact ⟨by rw [hne]; rfl, ((Below.refl _ _).alloc (Nat.le_refl _) _).alloc (by simp) _⟩
  have b2 : (x.n != y.n) = false := by rw [e2]; simp
  by_cases e3 : x.s = y.s
  case neg =>
   have hne : q = false := HQ.out.trans (sameTm_false fun e => e3 (by rw [← k3, ← j3, e]))
   have b3 : (x.s != y.s) = true := bne_iff_ne.2 e3
   have b3' : (x.s == y.s) = false := beq_eq_false_iff_ne.2 e3
   clear e1 e2
   clear HQ k6 j6
   unfold tvV
   go_enter Tryz.func23, Tryz.ntmps23
   go_wp2_with fail
   go_ret
   exact ⟨by rw [hne]; rfl, ((Below.refl _ _).alloc (Nat.le_refl _) _).alloc (by simp) _⟩
  have b3 : (x.s != y.s) = false := by rw [e3]; simp
  have b3' : (x.s == y.s) = true := by rw [e3]; simp
  by_cases e4 : x.len = y.len
  case neg =>
   have hne : q = false := HQ.out.trans (sameTm_false fun e => e4 (by rw [← k4, ← j4, e]))
   have b4 : (x.len != y.len) = true := bne_iff_ne.2 e4
   have b4' : ((x.len : Int) != (y.len : Int)) = true := bne_iff_ne.2 (by omega)
   clear e1 e2 e3
   clear HQ k6 j6
   unfold tvV
   go_enter Tryz.func23, Tryz.ntmps23
   go_wp2_with fail
   go_ret
   exact ⟨by rw [hne]; rfl, ((Below.refl _ _).alloc (Nat.le_refl _) _).alloc (by simp) _⟩
  obtain ⟨xk, xn, xs, xA, xl, xc⟩ := x
  obtain ⟨yk, yn, ys, yA, yl, yc⟩ := y
  simp only at *
  subst e1 e2 e3 e4
  clear b1 b2 b3 b3'
  have HK := Lib.hid k6
  have HJ := Lib.hid j6
  have hT : ∀ v : Tm, v = .mk v.k v.n v.s v.args := fun v => by cases v; rfl
  have HEQ : Hid (t = u ↔ t.args = u.args) := Lib.hid ⟨fun e => by rw [e], fun e => by rw [hT t, hT u, e, k1, k2, k3, j1, j2, j3]⟩
  have HST := Lib.hid (And.intro hn (And.intro hst hsu))
  have hlt : t.args.length = u.args.length := k4.trans j4.symm
  have h0 : SmAt w ((w.alloc (.cells #[.int .i64 xk, .int .i64 xn, .string ⟨xs.toArray⟩, .slice xA xl xc] 28)).alloc (.cells #[.int .i64 xk, .int .i64 xn, .string ⟨xs.toArray⟩, .slice yA xl yc] 28)) ⟨xk, xn, xs, xA, xl, xc⟩ ⟨xk, xn, xs, yA, xl, yc⟩ t.args u.args 0 := by
   refine ⟨((Below.refl _ _).alloc (Nat.le_refl _) _).alloc (by simp) _, ?_, ?_, fun i hi => absurd hi (Nat.not_lt_zero _)⟩
   ·exact cell_later (cell_made w _ _ 3 _ rfl) ((Below.refl _ _).alloc (Nat.le_refl _) _)
   ·have := cell_made (w.alloc (.cells #[.int .i64 xk, .int .i64 xn, .string ⟨xs.toArray⟩, .slice xA xl xc] 28)) #[.int .i64 xk, .int .i64 xn, .string ⟨xs.toArray⟩, .slice yA xl yc] 28 3 (.slice yA xl yc) rfl
    rw [World.size_alloc] at this
    exact this
  have H0 := Lib.hid h0
  have HX := Lib.hid hx
  have HY := Lib.hid hy
  have HIH := Lib.hid ih
  clear k6 j6 h0 hx hy ih hn hst hsu k1 k2 k3 j1 j2 j3
  unfold tvV
  go_enter Tryz.func23, Tryz.ntmps23
  go_wp2_with fail
  go_loopw [37] (fun i wr => ∃ k : Nat, k ≤ xl ∧ i = .int .i64 (k : Nat) ∧ Hid (SmAt w wr ⟨xk, xn, xs, xA, xl, xc⟩ ⟨xk, xn, xs, yA, xl, yc⟩ t.args u.args k)) (fun i _ => xl - (intOf i).toNat)
  case atStart => exact ⟨0, Nat.zero_le _, rfl, H0⟩
  case round =>
   obtain ⟨k, hk, rfl, HR⟩ := hrel
   by_cases hkl : k < xl
   ·have hi1 : k < t.args.length := by omega
    have hi2 : k < u.args.length := by omega
    obtain ⟨xe, b, off, a1, a2, a3, a4⟩ := HK.out k _ (List.getElem?_eq_getElem hi1)
    obtain ⟨ye, b', off', c1, c2, c3, c4⟩ := HJ.out k _ (List.getElem?_eq_getElem hi2)
    have hz1 := List.getElem?_eq_getElem hi1
    have hz2 := List.getElem?_eq_getElem hi2
    have hsz1 : t.args[k].size ≤ n ∧ t.args[k].size ≤ 10000000 := by
     have h1 := mem_sizes t.args _ (List.getElem_mem hi1)
     have h2 := size_args t
     have := HST.out.1
     have := HST.out.2.1
     omega
    have hsz2 : u.args[k].size ≤ 10000000 := by
     have h1 := mem_sizes u.args _ (List.getElem_mem hi2)
     have h2 := size_args u
     have := HST.out.2.2
     omega
    generalize t.args[k] = tk at *
    generalize u.args[k] = uk at *
    subst a1 c1
    have hbw := HR.out.below
    have hsx : ∀ j v, (encTV xe)[j]? = some v → wr.cell? ⟨b, off + k * 4 + j, none⟩ = some v := fun j v hv => (hbw.cell (p := ⟨b, off + k * 4 + j, none⟩) a2).trans (a4 j v hv)
    have hsy : ∀ j v, (encTV ye)[j]? = some v → wr.cell? ⟨b', off' + k * 4 + j, none⟩ = some v := fun j v hv => (hbw.cell (p := ⟨b', off' + k * 4 + j, none⟩) c2).trans (c4 j v hv)
    have HS := Lib.hid (And.intro HR.out.b0 (And.intro HR.out.b1 (And.intro (hsx 0 _ rfl) (And.intro (hsx 1 _ rfl) (And.intro (hsx 2 _ rfl) (And.intro (hsx 3 _ rfl) (And.intro (hsy 0 _ rfl) (And.intro (hsy 1 _ rfl) (And.intro (hsy 2 _ rfl) (hsy 3 _ rfl))))))))))
    simp only [Nat.add_zero] at HS
    have hkI : (k : Int) < (xl : Int) := by omega
    have hk0 : (0 : Int) ≤ (k : Int) := by omega
    have hwk : IntKind.i64.wrap ((k : Int) + 1) = (k : Int) + 1 := IntWalk.i64_in _ (by omega)
    have HCALL : Hid (∀ W, Below wr.heap.size wr W → Calls Tryz.prog 23 #[.agg #[.int .i64 xe.k, .int .i64 xe.n, .string ⟨xe.s.toArray⟩, .slice xe.A xe.len xe.cap], .agg #[.int .i64 ye.k, .int .i64 ye.n, .string ⟨ye.s.toArray⟩, .slice ye.A ye.len ye.cap]] W fun e w' => e = .returned (.bool (sameTm tk uk)) ∧ Below W.heap.size W w') := Lib.hid fun W hW => by
     have h1 := hbw.trans (hW.mono hbw.size)
     exact HIH.out tk uk xe ye W hsz1.1 hsz1.2 hsz2 ((a3.keep (Nat.le_refl _) h1.block).up h1.size) ((c3.keep (Nat.le_refl _) h1.block).up h1.size)
    obtain ⟨z, hz⟩ : ∃ z, z = sameTm tk uk := ⟨_, rfl⟩
    rw [← hz] at HCALL
    have HZ := Lib.hid hz
    have HZZ := Lib.hid (And.intro hz1 hz2)
    clear a2 a3 a4 c2 c3 c4 hsx hsy hz hz1 hz2 hsz1 hsz2 hbw
    go_upto_region 6 with fail
    go_region_held3 (fun v => v.cell? ⟨w.heap.size, 3, none⟩ = some (.slice (some ⟨b, off, none⟩) xl xc) ∧ v.cell? ⟨w.heap.size + 1, 3, none⟩ = some (.slice (some ⟨b', off', none⟩) xl yc) ∧ v.cell? ⟨b, off + k * 4, none⟩ = some (.int .i64 xe.k) ∧ v.cell? ⟨b, off + k * 4 + 1, none⟩ = some (.int .i64 xe.n) ∧ v.cell? ⟨b, off + k * 4 + 2, none⟩ = some (.string ⟨xe.s.toArray⟩) ∧ v.cell? ⟨b, off + k * 4 + 3, none⟩ = some (.slice xe.A xe.len xe.cap) ∧
        v.cell? ⟨b', off' + k * 4, none⟩ = some (.int .i64 ye.k) ∧ v.cell? ⟨b', off' + k * 4 + 1, none⟩ = some (.int .i64 ye.n) ∧ v.cell? ⟨b', off' + k * 4 + 2, none⟩ = some (.string ⟨ye.s.toArray⟩) ∧ v.cell? ⟨b', off' + k * 4 + 3, none⟩ = some (.slice ye.A ye.len ye.cap))
     (first | (with_reducible exact HS.out) | (with_reducible exact s10_drew HS.out) | (with_reducible exact s10_later (s10_drew HS.out) hb2) | (with_reducible exact s10_drew (s10_later (s10_drew HS.out) hb2)))
     (first | (go_at_call 23; refine (HCALL.out _ (Below.refl _ _).drew).mono ?_; rintro e w2 ⟨rfl, hb2⟩))
    have hb3 := below_call' (Below.refl wr.heap.size wr).drew hb2
    have HB3 := Lib.hid hb3
    clear hb2 hb3
    cases z with
    | false =>
     have hne : q = false := HQ.out.trans (sameTm_false fun e => by
      have h1 := HEQ.out.1 e
      have h2 := HZZ.out
      rw [h1, h2.2] at h2
      have h3 : uk = tk := by simpa using h2.1
      have h4 := HZ.out
      rw [h3, sameTm_self] at h4
      cases h4)
     clear HQ
     go_wp2_with fail
     go_ret
     exact ⟨by rw [hne]; rfl, HR.out.below.trans (HB3.out.mono HR.out.below.size)⟩
    | true =>
     have hN : SmAt w w2 ⟨xk, xn, xs, some ⟨b, off, none⟩, xl, xc⟩ ⟨xk, xn, xs, some ⟨b', off', none⟩, xl, yc⟩ t.args u.args (k + 1) :=
      ⟨HR.out.below.trans (HB3.out.mono HR.out.below.size), cell_later HR.out.b0 HB3.out, cell_later HR.out.b1 HB3.out, fun i hi => by
       rcases Nat.lt_succ_iff_lt_or_eq.1 hi with h | h
       ·exact HR.out.same i h
       ·subst h
        rw [HZZ.out.1, HZZ.out.2, (sameTm_iff _ _).1 HZ.out.symm]⟩
     have HN := Lib.hid hN
     clear hN
     go_wp2_with fail
     go_roundw
     case rel => exact ⟨k + 1, by omega, rfl, HN⟩
     case measure =>
      simp only [intOf]
      omega
   ·have hqe : q = true := HQ.out.trans ((sameTm_iff _ _).2 (HEQ.out.2 (List.ext_getElem? fun i => by
     by_cases hi : i < k
     ·exact HR.out.same i hi
     ·rw [List.getElem?_eq_none (by omega), List.getElem?_eq_none (by omega)])))
    clear HQ
    go_wp2_with fail
    go_ret
    exact ⟨by rw [hqe]; rfl, HR.out.below⟩
open Go.RowKit Go.Maps
theorem cat_bk (a b : List UInt8) : (⟨a.toArray⟩ ++ ⟨b.toArray⟩ : ByteArray) = ⟨(a ++ b).toArray⟩ := by
 apply ByteArray.ext
 simp
theorem out_cl {u u' : World} {c : ClauseF × Int} {e : Ending} (ho : ReadOut u u' c e) :
    ∃ x An m, e = .returned (.tuple #[clV x (.slice An c.1.names.length m) c.1.line c.1.next, .int .i64 c.2]) ∧
     ∀ U, U = u'.alloc (.cells #[.int .i64 x.k, .int .i64 x.n, .string ⟨x.s.toArray⟩, .slice x.A x.len x.cap, .slice An c.1.names.length m, .int .i64 c.1.line, .int .i64 c.1.next] 50) →
     Below u.heap.size u U ∧ TermAt U U.heap.size x c.1.t ∧ u'.heap.size < U.heap.size ∧ u.heap.size ≤ u'.heap.size ∧
     U.heap[u'.heap.size]? = some (.cells #[.int .i64 x.k, .int .i64 x.n, .string ⟨x.s.toArray⟩, .slice x.A x.len x.cap, .slice An c.1.names.length m, .int .i64 c.1.line, .int .i64 c.1.next] 50 (0, 0)) := by
 obtain ⟨hb, x, nv, B, rfl, hx, hn⟩ := ho
 obtain ⟨An, m, rfl⟩ := hn.shape
 refine ⟨x, An, m, rfl, fun U hU => ?_⟩
 subst hU
 have hb' := hb.trans ((Below.refl _ _).alloc hb.size (.cells #[.int .i64 x.k, .int .i64 x.n, .string ⟨x.s.toArray⟩, .slice x.A x.len x.cap, .slice An c.1.names.length m, .int .i64 c.1.line, .int .i64 c.1.next] 50))
 refine ⟨hb', ?_, by rw [World.size_alloc]; omega, hb.size, heap_alloc_new _ _⟩
 exact ((hx.at fun b hb => hb.lt) : TermAt u' u'.heap.size x c.1.t).later ((Below.refl _ _).alloc (Nat.le_refl _) _)
set_option maxHeartbeats 8000000 in
theorem wback_any (w : World) (hE : RdEnv w) (S : List UInt8) (hS : S.length ≤ 15998) (bt bm : Nat) (es : List (OpK × OpV)) (hTab : TabAt w bt bm es) (x : TV) (t : Tm) (hx : TermAt w w.heap.size x t) (hm : t.may = true) (hf : t.fits = true) (hsz : t.size ≤ 20000)
    (ts : List Tok) (ln : Int) (hlex : lexB (S ++ [32, 46]) = (ts, ln, 0)) (hTK : TokOk ts) (nm : List (List UInt8 × Int)) (li : Int) (hread : readF (opsOf es) ts 0 = (⟨(nrT [] t).1, nm, li, (ts.length : Int) - 1⟩, 0)) :
    Calls Tryz.prog 26 #[.string ⟨S.toArray⟩, .pointer (some ⟨bt, 0, none⟩), tvV x] w fun e w' => e = .returned (.bool true) ∧ Below w.heap.size w w' := by
 have HE := Lib.hid hE
 have HTAB := Lib.hid hTab
 have HX := Lib.hid (And.intro hx (And.intro hm (And.intro hf hsz)))
 have HL := Lib.hid hlex
 have HTK := Lib.hid hTK
 have HRD := Lib.hid hread
 clear hE hTab hx hm hf hsz hlex hTK hread
 rw [tvV_lit]
 go_enter Tryz.func26, Tryz.ntmps26
 go_wp2_with fail
 rw [show (⟨S.toArray⟩ ++ ⟨#[32, 46]⟩ : ByteArray) = ⟨(S ++ [32, 46]).toArray⟩ from cat_bk S [32, 46]]
 have hb0 := (Below.refl w.heap.size w).alloc (Nat.le_refl _) (.cells #[.int .i64 x.k, .int .i64 x.n, .string ⟨x.s.toArray⟩, .slice x.A x.len x.cap] 28)
 have hc0 := heap_alloc_new w (.cells #[.int .i64 x.k, .int .i64 x.n, .string ⟨x.s.toArray⟩, .slice x.A x.len x.cap] 28)
 have hs0 : w.heap.size < (w.alloc (.cells #[.int .i64 x.k, .int .i64 x.n, .string ⟨x.s.toArray⟩, .slice x.A x.len x.cap] 28)).heap.size := by simp
 generalize w.alloc (.cells #[.int .i64 x.k, .int .i64 x.n, .string ⟨x.s.toArray⟩, .slice x.A x.len x.cap] 28) = w1 at hb0 hc0 hs0 ⊢
 refine (lex_any w1 (S ++ [32, 46]) (by simp only [List.length_append, List.length_cons, List.length_nil]; omega) (HE.out.later hb0).max).mono ?_
 rintro e w2 ⟨v2, rfl, hr2, hb2⟩
 rw [HL.out] at hr2 ⊢
 dsimp only at hr2 ⊢
 have HB2 := Lib.hid (hb0.trans (hb2.mono hb0.size))
 have HC2 := Lib.hid ((hb2.block w.heap.size hs0).trans hc0)
 have HS2 : Hid (w.heap.size < w2.heap.size) := Lib.hid (Nat.lt_of_lt_of_le hs0 hb2.size)
 have HE2 : Hid (RdEnv w2) := Lib.hid (HE.out.later HB2.out)
 have HT2 := Lib.hid (HTAB.out.later HB2.out)
 have HR2 := Lib.hid hr2
 clear hr2 hb0 hc0 hs0 hb2
 obtain ⟨An, cn, rfl⟩ := HR2.out.shape
 go_wp2_with fail
 refine (read_any w2 An ts.length cn ts (toks_row HR2.out) HTK.out 0 bt bm es HT2.out HE2.out.kinds).mono ?_
 intro e w3 ho
 rw [HRD.out] at ho
 obtain ⟨y, Am, cm, rfl, hU⟩ := out_cl ho
 dsimp only at hU ⊢
 unfold clV
 go_upto_region 5 with fail
 obtain ⟨U, hUe⟩ : ∃ U, U = w3.alloc (.cells #[.int .i64 y.k, .int .i64 y.n, .string ⟨y.s.toArray⟩, .slice y.A y.len y.cap, .slice Am nm.length cm, .int .i64 li, .int .i64 ((ts.length : Int) - 1)] 50) := ⟨_, rfl⟩
 rw [← hUe]
 obtain ⟨u1, u2, u3, u4, u5⟩ := hU U hUe
 clear hU hUe ho
 have hbU := HB2.out.trans (u1.mono HB2.out.size)
 have HBU := Lib.hid hbU
 have h0U := (u1.block w.heap.size HS2.out).trans HC2.out
 obtain ⟨g, hg⟩ : ∃ g, g = w3.heap.size := ⟨_, rfl⟩
 rw [← hg] at u5 ⊢
 obtain ⟨b, hb⟩ : ∃ b, b = w.heap.size := ⟨_, rfl⟩
 rw [← hb] at h0U ⊢
 have hgU : g < U.heap.size := by omega
 have hbU2 : b < U.heap.size := by have := HS2.out; have := u1.size; omega
 have hlen := HTK.out.few
 have hw : IntKind.i64.wrap ((ts.length : Int) - 1) = (ts.length : Int) - 1 := IntWalk.i64_in _ (by omega)
 have hty : TermAt U U.heap.size x t := (HX.out.1.later HBU.out)
 have cg : ∀ u, Below U.heap.size U u → u.heap[g]? = U.heap[g]? := fun u h => h.block g hgU
 have cb : ∀ u, Below U.heap.size U u → u.heap[b]? = U.heap[b]? := fun u h => h.block b hbU2
 have HS : Hid (∀ u, Below U.heap.size U u → u.cell? ⟨g, 0, none⟩ = some (.int .i64 y.k) ∧ u.cell? ⟨g, 1, none⟩ = some (.int .i64 y.n) ∧ u.cell? ⟨g, 2, none⟩ = some (.string ⟨y.s.toArray⟩) ∧ u.cell? ⟨g, 3, none⟩ = some (.slice y.A y.len y.cap) ∧ u.cell? ⟨g, 6, none⟩ = some (.int .i64 ((ts.length : Int) - 1)) ∧ u.cell? ⟨b, 0, none⟩ = some (.int .i64 x.k) ∧ u.cell? ⟨b, 1, none⟩ = some (.int .i64 x.n) ∧ u.cell? ⟨b, 2, none⟩ = some (.string ⟨x.s.toArray⟩) ∧ u.cell? ⟨b, 3, none⟩ = some (.slice x.A x.len x.cap)) := Lib.hid fun u h => by
  have k1 := (cg u h).trans u5
  have k2 := (cb u h).trans h0U
  obtain ⟨a0, a1, a2, a3, -, -, a6, -⟩ := seven_at k1
  obtain ⟨b0, b1, b2, b3, -⟩ := four_at k2
  exact ⟨a0, a1, a2, a3, a6, b0, b1, b2, b3⟩
 have HN : Hid (∀ u, Below U.heap.size U u → Calls Tryz.prog 59 #[.agg #[.int .i64 x.k, .int .i64 x.n, .string ⟨x.s.toArray⟩, .slice x.A x.len x.cap]] u fun e u' => ∃ z : TV, e = .returned (.agg #[.int .i64 z.k, .int .i64 z.n, .string ⟨z.s.toArray⟩, .slice z.A z.len z.cap]) ∧ TermAt u' u'.heap.size z (nrT [] t).1 ∧ Below U.heap.size U u') := Lib.hid fun u h => by
  have := numb_any u u.heap.size x t (hty.keep h.size h.block) HX.out.2.1 HX.out.2.2.1 (Nat.le_trans HX.out.2.2.2 (by decide)) (Nat.le_refl _)
  rw [tvV_lit] at this
  refine this.mono ?_
  rintro e u' ⟨z, rfl, hz, hb'⟩
  refine ⟨z, by rw [tvV_lit], ?_, h.trans (hb'.mono h.size)⟩
  rw [renT_nrT [] t HX.out.2.1] at hz
  exact hz.at fun k hk => hk.2
 have HM : Hid (∀ u (z : TV), Below U.heap.size U u → TermAt u u.heap.size z (nrT [] t).1 → Calls Tryz.prog 23 #[.agg #[.int .i64 y.k, .int .i64 y.n, .string ⟨y.s.toArray⟩, .slice y.A y.len y.cap], .agg #[.int .i64 z.k, .int .i64 z.n, .string ⟨z.s.toArray⟩, .slice z.A z.len z.cap]] u fun e u' => e = .returned (.bool true) ∧ Below U.heap.size U u') := Lib.hid fun u z h hz => by
  have hs' : (nrT [] t).1.size ≤ 10000000 := by rw [(nrT_size t [] ⟨HX.out.2.1, HX.out.2.2.1⟩).1]; exact Nat.le_trans HX.out.2.2.2 (by decide)
  have := same_any (nrT [] t).1.size (nrT [] t).1 (nrT [] t).1 y z u (Nat.le_refl _) hs' hs' (u2.keep h.size h.block) hz
  rw [tvV_lit, tvV_lit] at this
  refine this.mono ?_
  rintro e u' ⟨rfl, hb'⟩
  exact ⟨by rw [sameTm_self], h.trans (hb'.mono h.size)⟩
 have hbr := Below.refl U.heap.size U
 have hbd : Below U.heap.size U U.drew := (Below.refl U.heap.size U).drew
 clear hgU hbU2 hty cg cb u1 u2 u3 u4 u5 h0U hb hg hbU
 go_region_held3 (fun u => u.cell? ⟨g, 0, none⟩ = some (.int .i64 y.k) ∧ u.cell? ⟨g, 1, none⟩ = some (.int .i64 y.n) ∧ u.cell? ⟨g, 2, none⟩ = some (.string ⟨y.s.toArray⟩) ∧ u.cell? ⟨g, 3, none⟩ = some (.slice y.A y.len y.cap) ∧ u.cell? ⟨g, 6, none⟩ = some (.int .i64 ((ts.length : Int) - 1)) ∧ u.cell? ⟨b, 0, none⟩ = some (.int .i64 x.k) ∧ u.cell? ⟨b, 1, none⟩ = some (.int .i64 x.n) ∧ u.cell? ⟨b, 2, none⟩ = some (.string ⟨x.s.toArray⟩) ∧ u.cell? ⟨b, 3, none⟩ = some (.slice x.A x.len x.cap))
  (first | (with_reducible exact HS.out _ (by assumption)))
  (first | (go_at_call 59; with_reducible refine (HN.out _ (by assumption)).mono ?_; rintro e u1 ⟨z, rfl, hz, hb1⟩) | (go_at_call 23; with_reducible refine (HM.out _ _ (by assumption) (by assumption)).mono ?_; rintro e u2 ⟨rfl, hb2⟩))
 all_goals
  go_wp2_with fail
  go_ret
  exact ⟨rfl, HBU.out.trans (hb2.mono HBU.out.size)⟩
theorem okL_toks : ∀ (l : List Lxm) (first : Bool), OkL l → (tkL first l).length ≤ (flat l).length ∧ volA (tkL first l) ≤ 4 * (flat l).length ∧ ∀ t ∈ tkL first l, t.s.length ≤ (flat l).length ∧ nOk t.n ∧ 0 ≤ t.kind ∧ t.kind ≤ 7
 | [], _, _ => ⟨Nat.zero_le _, Nat.zero_le _, fun t ht => by cases ht⟩
 | a :: r, first, h => by
  obtain ⟨g, hr⟩ := h
  obtain ⟨i1, i2, i3⟩ := okL_toks r false hr
  have h1 := tokF_short g.tok
  obtain ⟨h2, h3, h4⟩ := tokF_ok g.tok
  have h5 : 1 ≤ a.txt.length := by
   have := g.ne
   cases hx : a.txt with
   | nil => exact absurd hx this
   | cons => rw [List.length_cons]; omega
  have h6 : a.txt.length + (flat r).length ≤ (flat (a :: r)).length := by
   rw [flat_cons, List.length_append]
   unfold Lxm.out
   split
   ·rw [List.length_cons]; omega
   ·exact Nat.le_refl _
  have h1 : a.s.length ≤ a.txt.length := h1
  unfold volA at i2 ⊢
  rw [tkL]
  refine ⟨by rw [List.length_cons]; omega, ?_, fun t ht => ?_⟩
  ·rw [List.map_cons, List.sum_cons]
   simp only
   omega
  ·rcases List.mem_cons.1 ht with rfl | ht
   ·exact ⟨by simp only; omega, h2, h3, h4⟩
   ·obtain ⟨j1, j2⟩ := i3 t ht
    exact ⟨by omega, j2⟩
theorem lx_tokOk {l : List Lxm} (h : OkL l) (hl : (flat l).length ≤ 16000) : TokOk (tkL true l ++ [endTok 1]) := by
 obtain ⟨h1, h2, h3⟩ := okL_toks l true h
 have he : (endTok 1).s = [] ∧ nOk (endTok 1).n ∧ 0 ≤ (endTok 1).kind ∧ (endTok 1).kind ≤ 7 := by
  unfold nOk endTok
  simp
 have ha : ∀ t ∈ tkL true l ++ [endTok 1], t.s.length ≤ (flat l).length ∧ nOk t.n ∧ 0 ≤ t.kind ∧ t.kind ≤ 7 := fun t ht => by
  rcases List.mem_append.1 ht with ht | ht
  ·exact h3 t ht
  ·have : t = endTok 1 := by simpa using ht
   subst this
   obtain ⟨e1, e2⟩ := he
   exact ⟨by rw [e1]; exact Nat.zero_le _, e2⟩
 refine ⟨by rw [List.length_append]; simp only [List.length_cons, List.length_nil]; omega, fun t ht => by have := (ha t ht).1; omega, fun t ht => ?_, ?_⟩
 ·obtain ⟨-, j2, j3, j4⟩ := ha t ht
  exact ⟨j2, by unfold okI; omega⟩
 ·rw [vol_len]
  unfold volA at h2 ⊢
  rw [List.map_append, List.sum_append, List.map_cons, List.sum_cons, he.1]
  simp only [List.map_nil, List.sum_nil, List.length_nil]
  omega
mutual
def Tm.wgt : Tm → Nat | .mk k _ s l => 12 + 5 * s.length + (if k = 1 ∨ k = 2 then 30 else 0) + Tm.wgts l
def Tm.wgts : List Tm → Nat | [] => 0 | t :: r => t.wgt + Tm.wgts r
end
theorem Tm.wgt_is (t : Tm) : t.wgt = 12 + 5 * t.s.length + (if t.k = 1 ∨ t.k = 2 then 30 else 0) + Tm.wgts t.args := by
 obtain ⟨k, n, s, l⟩ := t
 rw [Tm.wgt]
 rfl
theorem wgts_two (l : List Tm) (h : l.length = 2) : Tm.wgts l = (l.getD 0 noTm).wgt + (l.getD 1 noTm).wgt := by
 match l, h with
 | [a, b], _ =>
  show a.wgt + (b.wgt + 0) = a.wgt + b.wgt
  omega
theorem wgts_one (l : List Tm) (h : l.length = 1) : Tm.wgts l = (l.getD 0 noTm).wgt := by
 match l, h with
 | [a], _ => rfl
theorem esc_len (s : List UInt8) : (s.flatMap escB).length ≤ 5 * s.length := by
 have h5 : ∀ c : UInt8, (escB c).length ≤ 5 := fun c => by
  unfold escB hexOf
  (repeat' split) <;> simp
 induction s with
 | nil => simp
 | cons c r ih =>
  rw [List.flatMap_cons, List.length_append, List.length_cons]
  have := h5 c
  omega
theorem text_wgt (way : Int) (s : List UInt8) : (textF way s).length ≤ 5 * s.length + 2 := by
 have hf := esc_len s
 unfold textF
 split
 ·omega
 ·unfold putB quoteB
  split
  ·omega
  ·simp only [List.length_append, List.length_cons, List.length_nil]
   omega
theorem consF_wgt : ∀ (f : Nat) (t : Tm), Tm.wgts (consF f t).1 + 17 * (consF f t).1.length + (consF f t).2.wgt ≤ t.wgt
 | 0, t => by show 0 + 17 * 0 + t.wgt ≤ _; omega
 | f + 1, t => by
  unfold consF
  by_cases hc : consT t = true
  ·rw [if_pos hc]
   obtain ⟨h1, h2, h3⟩ := consT_len hc
   have h4 := consF_wgt f (t.args.getD 1 noTm)
   have h5 := wgts_two t.args h3
   have h6 := t.wgt_is
   rw [h2, List.length_cons, List.length_nil] at h6
   simp only [Tm.wgts, List.length_cons]
   omega
  ·rw [if_neg hc]
   show 0 + 17 * 0 + t.wgt ≤ _
   omega
section
variable {es : List (OpK × OpV)} {way : Int} {g : Tm → Int → List UInt8}
theorem comma_wgt : ∀ (l : List Tm), (∀ t ∈ l, ∀ m, (g t m).length + 3 ≤ t.wgt) → (commaF g l).length ≤ Tm.wgts l
 | [], _ => Nat.zero_le _
 | [t], h => by
  have := h t (by simp) 999
  simp only [commaF, Tm.wgts]
  omega
 | t :: u :: r, h => by
  have ih := comma_wgt (u :: r) (fun x hx => h x (List.mem_cons_of_mem _ hx))
  have h1 := h t (by simp) 999
  simp only [commaF, Tm.wgts, List.length_cons, List.length_append] at ih ⊢
  omega
theorem operand_wgt (t : Tm) (h : ∀ m, (g t m).length + 3 ≤ t.wgt) (o : OpR) (same : Bool) : (operandF es way g t o same).length + 1 ≤ t.wgt := by
 have h1 := h 1200
 unfold operandF
 split
 ·simp only [List.length_cons, List.length_append, List.length_nil]
  omega
 ·omega
theorem operate_wgt {t : Tm} {o : OpR} (ho : operF es way t = some o) (h : ∀ i, i < t.args.length → ∀ m, (g (t.args.getD i noTm) m).length + 3 ≤ (t.args.getD i noTm).wgt) : (operateF es way g o t.args).length + 5 ≤ t.wgt := by
 obtain ⟨o1, o2, o3⟩ := oper_name ho
 have ht := text_wgt way o.name
 rw [o1] at ht
 have h6 := t.wgt_is
 unfold operateF
 rcases o3 with ⟨hs, hl⟩ | ⟨hs, hl⟩
 ·have h0 := operand_wgt (es := es) (way := way) (t.args.getD 0 noTm) (h 0 (by omega)) o false
  have h2 := wgts_one _ hl
  rcases hs with hs | hs
  ·rw [if_pos hs]
   simp only [List.length_append, List.length_cons, o1]
   omega
  ·have n1 : ¬ o.side = 1 := by omega
   rw [if_neg n1, if_pos hs]
   simp only [List.length_append, List.length_cons, o1]
   omega
 ·have n1 : ¬ o.side = 1 := by omega
  have n3 : ¬ o.side = 3 := by omega
  have h0 := operand_wgt (es := es) (way := way) (t.args.getD 0 noTm) (h 0 (by omega)) o o.left
  have h1 := operand_wgt (es := es) (way := way) (t.args.getD 1 noTm) (h 1 (by omega)) o o.right
  have h2 := wgts_two _ hl
  rw [if_neg n1, if_neg n3]
  split
  ·simp only [List.length_append, List.length_cons, List.length_nil]
   omega
  ·simp only [List.length_append, List.length_cons, List.length_nil, o1]
   omega
theorem step_wgt (t : Tm) (most : Int) (hw : WfT t) (h : ∀ x : Tm, x.size < t.size → WfT x → ∀ m, (g x m).length + 3 ≤ x.wgt) : (wrStep es way g t most).length + 3 ≤ t.wgt := by
 have hp := size_pos t
 have hn := itoa_le hw.n
 have ha : ∀ x ∈ t.args, ∀ m, (g x m).length + 3 ≤ x.wgt := fun x hx => h x (by have h1 := mem_sizes t.args x hx; have h2 := size_args t; omega) (hw.mem hx)
 have hd : ∀ i, i < t.args.length → ∀ m, (g (t.args.getD i noTm) m).length + 3 ≤ (t.args.getD i noTm).wgt := fun i hi => h _ (arg_size hi) (hw.arg hi)
 have ht := text_wgt way t.s
 have h6 := t.wgt_is
 unfold wrStep
 split
 ·rename_i hk
  rw [if_pos (.inl hk)] at h6
  rw [List.length_cons]; omega
 ·split
  ·rename_i hk
   rw [if_pos (.inr hk)] at h6
   omega
  ·split
   ·omega
   ·unfold compF
    split
    ·rename_i hc
     obtain ⟨i1, _, i3⟩ := consF_size t.size t
     obtain ⟨w1, w2⟩ := consF_wf t.size t hw
     have h1 := comma_wgt (g := g) (consF t.size t).1 (fun x hx => h x (i1 x hx) (w1 x hx))
     have h2 := h _ (i3 hc hp) w2 999
     have h3 := consF_wgt t.size t
     have h4 := consF_pos hc hp
     unfold listF tailF
     simp only [List.length_cons, List.length_append, List.length_nil]
     split
     ·simp only [List.length_nil]; omega
     ·simp only [List.length_cons]; omega
    ·split
     ·rename_i hb
      have h1 := hd 0 (by omega) 1200
      have h2 := wgts_one _ hb.2.2
      simp only [List.length_cons, List.length_append, List.length_nil]
      omega
     ·split
      ·have h1 := comma_wgt (g := g) t.args ha
       simp only [List.length_cons, List.length_append, List.length_nil]
       omega
      ·rename_i o ho
       have h1 := operate_wgt (g := g) ho hd
       split
       ·simp only [List.length_cons, List.length_append, List.length_nil]
        omega
       ·omega
end
theorem wr_wgt (es : List (OpK × OpV)) (way : Int) : ∀ (n : Nat) (t : Tm) (m : Int), t.size ≤ n → WfT t → (wrT es way t m).length + 3 ≤ t.wgt
 | 0, t, _, h, _ => by have := size_pos t; omega
 | n + 1, t, m, h, hw => by
  rw [wrT_step]
  exact step_wgt t m hw fun x hx hwx m => wr_wgt es way n x m (by omega) hwx
theorem mend_wgt (k n : Int) (s : List UInt8) (l : List Tm) : (mendT (.mk k n s l)).wgt ≤ 112 + Tm.wgts (mendL l) := by
 have ha : (atomT [97]).wgt = 17 := rfl
 rw [mendT]
 split
 ·omega
 ·rename_i hs
  split
  ·show (12 + 5 * 0 + (if (1 : Int) = 1 ∨ (1 : Int) = 2 then 30 else 0) + 0) ≤ _
   rw [if_pos (.inl rfl)]; omega
  ·split
   ·show (12 + 5 * 0 + (if (2 : Int) = 1 ∨ (2 : Int) = 2 then 30 else 0) + 0) ≤ _
    rw [if_pos (.inr rfl)]; omega
   ·split
    ·show (12 + 5 * s.length + (if (3 : Int) = 1 ∨ (3 : Int) = 2 then 30 else 0) + 0) ≤ _
     rw [if_neg (by decide)]; omega
    ·split
     ·split
      ·omega
      ·show (12 + 5 * s.length + (if (4 : Int) = 1 ∨ (4 : Int) = 2 then 30 else 0) + Tm.wgts (mendL l)) ≤ _
       rw [if_neg (by decide)]; omega
     ·omega
theorem ofLoop_wgt {g : List PartT → Tm × Nat} (hg : ∀ l, (mendT (g l).1).wgt ≤ 17 + 231 * (g l).2) : ∀ (i : Nat) (l : List PartT), Tm.wgts (mendL (ofLoop g i l).1) ≤ 17 * i + 231 * (ofLoop g i l).2
 | 0, _ => Nat.zero_le _
 | i + 1, l => by
  have h1 := hg l
  have h2 := ofLoop_wgt hg i (l.drop (g l).2)
  unfold ofLoop
  simp only [mendL, Tm.wgts]
  omega
theorem ofF_wgt : ∀ (f : Nat) (l : List PartT), (mendT (ofF f l).1).wgt ≤ 17 + 231 * (ofF f l).2
 | 0, _ => Nat.le_refl _
 | _ + 1, [] => Nat.le_refl _
 | f + 1, p :: r => by
  have h1 := ofLoop_wgt (ofF_wgt f) (p.a % 8) r
  unfold ofF
  have h2 := mend_wgt p.k p.n p.s (ofLoop (ofF f) (p.a % 8) r).1
  simp only at h2 ⊢
  omega
theorem good_wgt {l : List PartT} (hl : l.length ≤ 60) : (goodT l).wgt ≤ 13877 := by
 have h1 := ofF_wgt l.length l
 have h2 := ofT_le l
 unfold goodT
 unfold ofT at h2 ⊢
 omega
end Go.Proofs.YtcallkljcjimiaaGreatDoor
