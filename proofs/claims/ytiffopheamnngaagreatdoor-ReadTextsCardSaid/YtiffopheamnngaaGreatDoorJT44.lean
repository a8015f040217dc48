import Derived.Test.YtiffopheamnngaaGreatDoorJT43
namespace Go.Proofs.YtiffopheamnngaaGreatDoor
open Go.RowKit
set_option maxRecDepth 100000
noncomputable def sameTm (t u : Tm) : Bool := @decide (t = u) (Classical.propDecidable _)
theorem sameTm_iff (t u : Tm) : sameTm t u = true ↔ t = u := by
 unfold sameTm
 exact @decide_eq_true_iff _ (Classical.propDecidable _)
theorem sameTm_self (t : Tm) : sameTm t t = true := (sameTm_iff t t).2 rfl
theorem sameTm_false {t u : Tm} (h : t ≠ u) : sameTm t u = false := by
 cases hb : sameTm t u with
 | false => rfl
 | true => exact absurd ((sameTm_iff t u).1 hb) h
theorem s10_drew {w : World} {p0 p1 p2 p3 p4 p5 p6 p7 p8 p9 : Addr} {x0 x1 x2 x3 x4 x5 x6 x7 x8 x9 : Option Value} (h : w.cell? p0 = x0 ∧ w.cell? p1 = x1 ∧ w.cell? p2 = x2 ∧ w.cell? p3 = x3 ∧ w.cell? p4 = x4 ∧ w.cell? p5 = x5 ∧ w.cell? p6 = x6 ∧ w.cell? p7 = x7 ∧ w.cell? p8 = x8 ∧ w.cell? p9 = x9) :
    w.drew.cell? p0 = x0 ∧ w.drew.cell? p1 = x1 ∧ w.drew.cell? p2 = x2 ∧ w.drew.cell? p3 = x3 ∧ w.drew.cell? p4 = x4 ∧ w.drew.cell? p5 = x5 ∧ w.drew.cell? p6 = x6 ∧ w.drew.cell? p7 = x7 ∧ w.drew.cell? p8 = x8 ∧ w.drew.cell? p9 = x9 := h
theorem cell_later {w w' : World} {p : Addr} {x : Value} (h : w.cell? p = some x) (hb : Below w.heap.size w w') : w'.cell? p = some x := (hb.cell (World.block_lt_of_cell? w _ h)).trans h
theorem s10_later {w w' : World} {p0 p1 p2 p3 p4 p5 p6 p7 p8 p9 : Addr} {x0 x1 x2 x3 x4 x5 x6 x7 x8 x9 : Value} (h : w.cell? p0 = some x0 ∧ w.cell? p1 = some x1 ∧ w.cell? p2 = some x2 ∧ w.cell? p3 = some x3 ∧ w.cell? p4 = some x4 ∧ w.cell? p5 = some x5 ∧ w.cell? p6 = some x6 ∧ w.cell? p7 = some x7 ∧ w.cell? p8 = some x8 ∧ w.cell? p9 = some x9) (hb : Below w.heap.size w w') :
    w'.cell? p0 = some x0 ∧ w'.cell? p1 = some x1 ∧ w'.cell? p2 = some x2 ∧ w'.cell? p3 = some x3 ∧ w'.cell? p4 = some x4 ∧ w'.cell? p5 = some x5 ∧ w'.cell? p6 = some x6 ∧ w'.cell? p7 = some x7 ∧ w'.cell? p8 = some x8 ∧ w'.cell? p9 = some x9 :=
 ⟨cell_later h.1 hb, cell_later h.2.1 hb, cell_later h.2.2.1 hb, cell_later h.2.2.2.1 hb, cell_later h.2.2.2.2.1 hb, cell_later h.2.2.2.2.2.1 hb, cell_later h.2.2.2.2.2.2.1 hb, cell_later h.2.2.2.2.2.2.2.1 hb, cell_later h.2.2.2.2.2.2.2.2.1 hb, cell_later h.2.2.2.2.2.2.2.2.2 hb⟩
structure SmAt (w wr : World) (x y : TV) (l m : List Tm) (k : Nat) : Prop where
 below : Below w.heap.size w wr
 b0 : wr.cell? ⟨w.heap.size, 3, none⟩ = some (.slice x.A x.len x.cap)
 b1 : wr.cell? ⟨w.heap.size + 1, 3, none⟩ = some (.slice y.A y.len y.cap)
 same : ∀ i, i < k → l[i]? = m[i]?
set_option maxHeartbeats 8000000 in
theorem same_any : ∀ (n : Nat) (t u : Tm) (x y : TV) (w : World), t.size ≤ n → t.size ≤ 10000000 → u.size ≤ 10000000 → TermAt w w.heap.size x t → TermAt w w.heap.size y u →
    Calls Tryz.prog 14 #[tvV x, tvV y] w fun e w' => e = .returned (.bool (sameTm t u)) ∧ Below w.heap.size w w' := by
 intro n
 induction n with
 | zero => intro t u x y w h; have := size_pos t; omega
 | succ n ih =>
  intro t u x y w hn hst hsu hx hy
  obtain ⟨k1, k2, k3, k4, k5, k6⟩ := hx.open
  obtain ⟨j1, j2, j3, j4, j5, j6⟩ := hy.open
  have hta : t.args.length + 1 ≤ t.size := args_size t
  have hua : u.args.length + 1 ≤ u.size := args_size u
  have hxl : (x.len : Int) ≤ 10000000 := by omega
  have hyl : (y.len : Int) ≤ 10000000 := by omega
  obtain ⟨q, hq⟩ : ∃ q, q = sameTm t u := ⟨_, rfl⟩
  rw [← hq]
  have HQ := Lib.hid hq
  clear hq
  by_cases e1 : x.k = y.k
  case neg =>
   have hne : q = false := HQ.out.trans (sameTm_false fun e => e1 (by rw [← k1, ← j1, e]))
   have b1 : (x.k != y.k) = true := bne_iff_ne.2 e1
   clear HQ k6 j6
   unfold tvV
   go_enter Tryz.func14, Tryz.ntmps14
   go_wp2_with fail
   go_ret
   exact ⟨by rw [hne]; rfl, ((Below.refl _ _).alloc (Nat.le_refl _) _).alloc (by simp) _⟩
  have b1 : (x.k != y.k) = false := by rw [e1]; simp
  by_cases e2 : x.n = y.n
  case neg =>
   have hne : q = false := HQ.out.trans (sameTm_false fun e => e2 (by rw [← k2, ← j2, e]))
   have b2 : (x.n != y.n) = true := bne_iff_ne.2 e2
   clear e1
   clear HQ k6 j6
   unfold tvV
   go_enter Tryz.func14, Tryz.ntmps14
   go_wp2_with fail
   go_ret
   exact ⟨by rw [hne]; rfl, ((Below.refl _ _).alloc (Nat.le_refl _) _).alloc (by simp) _⟩
  have b2 : (x.n != y.n) = false := by rw [e2]; simp
  by_cases e3 : x.s = y.s
  case neg =>
   have hne : q = false := HQ.out.trans (sameTm_false fun e => e3 (by rw [← k3, ← j3, e]))
   have b3 : (x.s != y.s) = true := bne_iff_ne.2 e3
   have b3' : (x.s == y.s) = false := beq_eq_false_iff_ne.2 e3
   clear e1 e2
   clear HQ k6 j6
   unfold tvV
   go_enter Tryz.func14, Tryz.ntmps14
   go_wp2_with fail
   go_ret
   exact ⟨by rw [hne]; rfl, ((Below.refl _ _).alloc (Nat.le_refl _) _).alloc (by simp) _⟩
  have b3 : (x.s != y.s) = false := by rw [e3]; simp
  have b3' : (x.s == y.s) = true := by rw [e3]; simp
  by_cases e4 : x.len = y.len
  case neg =>
   have hne : q = false := HQ.out.trans (sameTm_false fun e => e4 (by rw [← k4, ← j4, e]))
   have b4 : (x.len != y.len) = true := bne_iff_ne.2 e4
   have b4' : ((x.len : Int) != (y.len : Int)) = true := bne_iff_ne.2 (by omega)
   clear e1 e2 e3
   clear HQ k6 j6
   unfold tvV
   go_enter Tryz.func14, Tryz.ntmps14
   go_wp2_with fail
   go_ret
   exact ⟨by rw [hne]; rfl, ((Below.refl _ _).alloc (Nat.le_refl _) _).alloc (by simp) _⟩
  obtain ⟨xk, xn, xs, xA, xl, xc⟩ := x
  obtain ⟨yk, yn, ys, yA, yl, yc⟩ := y
  simp only at *
  subst e1 e2 e3 e4
  clear b1 b2 b3 b3'
  have HK := Lib.hid k6
  have HJ := Lib.hid j6
  have hT : ∀ v : Tm, v = .mk v.k v.n v.s v.args := fun v => by cases v; rfl
  have HEQ : Hid (t = u ↔ t.args = u.args) := Lib.hid ⟨fun e => by rw [e], fun e => by rw [hT t, hT u, e, k1, k2, k3, j1, j2, j3]⟩
  have HST := Lib.hid (And.intro hn (And.intro hst hsu))
  have hlt : t.args.length = u.args.length := k4.trans j4.symm
  have h0 : SmAt w ((w.alloc (.cells #[.int .i64 xk, .int .i64 xn, .string ⟨xs.toArray⟩, .slice xA xl xc] 34)).alloc (.cells #[.int .i64 xk, .int .i64 xn, .string ⟨xs.toArray⟩, .slice yA xl yc] 34)) ⟨xk, xn, xs, xA, xl, xc⟩ ⟨xk, xn, xs, yA, xl, yc⟩ t.args u.args 0 := by
   refine ⟨((Below.refl _ _).alloc (Nat.le_refl _) _).alloc (by simp) _, ?_, ?_, fun i hi => absurd hi (Nat.not_lt_zero _)⟩
   ·exact cell_later (cell_made w _ _ 3 _ rfl) ((Below.refl _ _).alloc (Nat.le_refl _) _)
   ·have := cell_made (w.alloc (.cells #[.int .i64 xk, .int .i64 xn, .string ⟨xs.toArray⟩, .slice xA xl xc] 34)) #[.int .i64 xk, .int .i64 xn, .string ⟨xs.toArray⟩, .slice yA xl yc] 34 3 (.slice yA xl yc) rfl
    rw [World.size_alloc] at this
    exact this
  have H0 := Lib.hid h0
  have HX := Lib.hid hx
  have HY := Lib.hid hy
  have HIH := Lib.hid ih
  clear k6 j6 h0 hx hy ih hn hst hsu k1 k2 k3 j1 j2 j3
  unfold tvV
  go_enter Tryz.func14, Tryz.ntmps14
  go_wp2_with fail
  go_loopw [37] (fun i wr => ∃ k : Nat, k ≤ xl ∧ i = .int .i64 (k : Nat) ∧ Hid (SmAt w wr ⟨xk, xn, xs, xA, xl, xc⟩ ⟨xk, xn, xs, yA, xl, yc⟩ t.args u.args k)) (fun i _ => xl - (intOf i).toNat)
  case atStart => exact ⟨0, Nat.zero_le _, rfl, H0⟩
  case round =>
   obtain ⟨k, hk, rfl, HR⟩ := hrel
   by_cases hkl : k < xl
   ·have hi1 : k < t.args.length := by omega
    have hi2 : k < u.args.length := by omega
    obtain ⟨xe, b, off, a1, a2, a3, a4⟩ := HK.out k _ (List.getElem?_eq_getElem hi1)
    obtain ⟨ye, b', off', c1, c2, c3, c4⟩ := HJ.out k _ (List.getElem?_eq_getElem hi2)
    have hz1 := List.getElem?_eq_getElem hi1
    have hz2 := List.getElem?_eq_getElem hi2
    have hsz1 : t.args[k].size ≤ n ∧ t.args[k].size ≤ 10000000 := by
     have h1 := mem_sizes t.args _ (List.getElem_mem hi1)
     have h2 := size_args t
     have := HST.out.1
     have := HST.out.2.1
     omega
    have hsz2 : u.args[k].size ≤ 10000000 := by
     have h1 := mem_sizes u.args _ (List.getElem_mem hi2)
     have h2 := size_args u
     have := HST.out.2.2
     omega
    generalize t.args[k] = tk at *
    generalize u.args[k] = uk at *
    subst a1 c1
    have hbw := HR.out.below
    have hsx : ∀ j v, (encTV xe)[j]? = some v → wr.cell? ⟨b, off + k * 4 + j, none⟩ = some v := fun j v hv => (hbw.cell (p := ⟨b, off + k * 4 + j, none⟩) a2).trans (a4 j v hv)
    have hsy : ∀ j v, (encTV ye)[j]? = some v → wr.cell? ⟨b', off' + k * 4 + j, none⟩ = some v := fun j v hv => (hbw.cell (p := ⟨b', off' + k * 4 + j, none⟩) c2).trans (c4 j v hv)
    have HS := Lib.hid (And.intro HR.out.b0 (And.intro HR.out.b1 (And.intro (hsx 0 _ rfl) (And.intro (hsx 1 _ rfl) (And.intro (hsx 2 _ rfl) (And.intro (hsx 3 _ rfl) (And.intro (hsy 0 _ rfl) (And.intro (hsy 1 _ rfl) (And.intro (hsy 2 _ rfl) (hsy 3 _ rfl))))))))))
    simp only [Nat.add_zero] at HS
    have hkI : (k : Int) < (xl : Int) := by omega
    have hk0 : (0 : Int) ≤ (k : Int) := by omega
    have hwk : IntKind.i64.wrap ((k : Int) + 1) = (k : Int) + 1 := IntWalk.i64_in _ (by omega)
    have HCALL : Hid (∀ W, Below wr.heap.size wr W → Calls Tryz.prog 14 #[.agg #[.int .i64 xe.k, .int .i64 xe.n, .string ⟨xe.s.toArray⟩, .slice xe.A xe.len xe.cap], .agg #[.int .i64 ye.k, .int .i64 ye.n, .string ⟨ye.s.toArray⟩, .slice ye.A ye.len ye.cap]] W fun e w' => e = .returned (.bool (sameTm tk uk)) ∧ Below W.heap.size W w') := Lib.hid fun W hW => by
     have h1 := hbw.trans (hW.mono hbw.size)
     exact HIH.out tk uk xe ye W hsz1.1 hsz1.2 hsz2 ((a3.keep (Nat.le_refl _) h1.block).up h1.size) ((c3.keep (Nat.le_refl _) h1.block).up h1.size)
    obtain ⟨z, hz⟩ : ∃ z, z = sameTm tk uk := ⟨_, rfl⟩
    rw [← hz] at HCALL
    have HZ := Lib.hid hz
    have HZZ := Lib.hid (And.intro hz1 hz2)
    clear a2 a3 a4 c2 c3 c4 hsx hsy hz hz1 hz2 hsz1 hsz2 hbw
    go_upto_region 6 with fail
    go_region_held3 (fun v => v.cell? ⟨w.heap.size, 3, none⟩ = some (.slice (some ⟨b, off, none⟩) xl xc) ∧ v.cell? ⟨w.heap.size + 1, 3, none⟩ = some (.slice (some ⟨b', off', none⟩) xl yc) ∧ v.cell? ⟨b, off + k * 4, none⟩ = some (.int .i64 xe.k) ∧ v.cell? ⟨b, off + k * 4 + 1, none⟩ = some (.int .i64 xe.n) ∧ v.cell? ⟨b, off + k * 4 + 2, none⟩ = some (.string ⟨xe.s.toArray⟩) ∧ v.cell? ⟨b, off + k * 4 + 3, none⟩ = some (.slice xe.A xe.len xe.cap) ∧
        v.cell? ⟨b', off' + k * 4, none⟩ = some (.int .i64 ye.k) ∧ v.cell? ⟨b', off' + k * 4 + 1, none⟩ = some (.int .i64 ye.n) ∧ v.cell? ⟨b', off' + k * 4 + 2, none⟩ = some (.string ⟨ye.s.toArray⟩) ∧ v.cell? ⟨b', off' + k * 4 + 3, none⟩ = some (.slice ye.A ye.len ye.cap))
     (first | (with_reducible exact HS.out) | (with_reducible exact s10_drew HS.out) | (with_reducible exact s10_later (s10_drew HS.out) hb2) | (with_reducible exact s10_drew (s10_later (s10_drew HS.out) hb2)))
     (first | (go_at_call 14; refine (HCALL.out _ (Below.refl _ _).drew).mono ?_; rintro e w2 ⟨rfl, hb2⟩))
    have hb3 := below_call' (Below.refl wr.heap.size wr).drew hb2
    have HB3 := Lib.hid hb3
    clear hb2 hb3
    cases z with
    | false =>
     have hne : q = false := HQ.out.trans (sameTm_false fun e => by
      have h1 := HEQ.out.1 e
      have h2 := HZZ.out
      rw [h1, h2.2] at h2
      have h3 : uk = tk := by simpa using h2.1
      have h4 := HZ.out
      rw [h3, sameTm_self] at h4
      cases h4)
     clear HQ
     go_wp2_with fail
     go_ret
     exact ⟨by rw [hne]; rfl, HR.out.below.trans (HB3.out.mono HR.out.below.size)⟩
    | true =>
     have hN : SmAt w w2 ⟨xk, xn, xs, some ⟨b, off, none⟩, xl, xc⟩ ⟨xk, xn, xs, some ⟨b', off', none⟩, xl, yc⟩ t.args u.args (k + 1) :=
      ⟨HR.out.below.trans (HB3.out.mono HR.out.below.size), cell_later HR.out.b0 HB3.out, cell_later HR.out.b1 HB3.out, fun i hi => by
       rcases Nat.lt_succ_iff_lt_or_eq.1 hi with h | h
       ·exact HR.out.same i h
       ·subst h
        rw [HZZ.out.1, HZZ.out.2, (sameTm_iff _ _).1 HZ.out.symm]⟩
     have HN := Lib.hid hN
     clear hN
     go_wp2_with fail
     go_roundw
     case rel => exact ⟨k + 1, by omega, rfl, HN⟩
     case measure =>
      simp only [intOf]
      omega
   ·have hqe : q = true := HQ.out.trans ((sameTm_iff _ _).2 (HEQ.out.2 (List.ext_getElem? fun i => by
     by_cases hi : i < k
     ·exact HR.out.same i hi
     ·rw [List.getElem?_eq_none (by omega), List.getElem?_eq_none (by omega)])))
    clear HQ
    go_wp2_with fail
    go_ret
    exact ⟨by rw [hqe]; rfl, HR.out.below⟩
def aliveT : List UInt8 := [97, 32, 58, 45, 32, 98, 44, 32, 92, 43, 32, 99, 46, 32, 45, 32, 49, 46, 32, 45, 49, 46, 32, 91, 97, 124, 84, 93, 46]
def aliveL : List Tok := [⟨1, 1, 0, [97], false, false⟩, ⟨1, 1, 0, [58, 45], false, false⟩, ⟨1, 1, 0, [98], false, false⟩,
 ⟨6, 1, 0, [44], false, true⟩, ⟨1, 1, 0, [92, 43], false, false⟩, ⟨1, 1, 0, [99], false, false⟩,
 ⟨7, 1, 0, [], false, true⟩, ⟨1, 1, 0, [45], false, false⟩, ⟨3, 1, 1, [], false, false⟩, ⟨7, 1, 0, [], false, true⟩,
 ⟨1, 1, 0, [45], false, false⟩, ⟨3, 1, 1, [], false, true⟩, ⟨7, 1, 0, [], false, true⟩, ⟨6, 1, 0, [91], false, false⟩,
 ⟨1, 1, 0, [97], false, true⟩, ⟨6, 1, 0, [124], false, true⟩, ⟨4, 1, 0, [84], false, true⟩,
 ⟨6, 1, 0, [93], false, true⟩, ⟨7, 1, 0, [], false, true⟩, ⟨0, 1, 0, [], false, false⟩]
theorem alive_lex : lexB aliveT = (aliveL, 0, 0) := by rfl
def ruleT : Tm := .mk 4 0 [58, 45] [.mk 3 0 [97] [], .mk 4 0 [44] [.mk 3 0 [98] [], .mk 4 0 [92, 43] [.mk 3 0 [99] []]]]
theorem alive_0 : readF (opsOf opsInit) aliveL 0 = (⟨ruleT, [], 1, 7⟩, 0) := by kernel_rfl
theorem alive_7 : readF (opsOf opsInit) aliveL 7 = (⟨.mk 4 0 [45] [.mk 2 1 [] []], [], 1, 10⟩, 0) := by kernel_rfl
theorem alive_10 : readF (opsOf opsInit) aliveL 10 = (⟨.mk 2 (-1) [] [], [], 1, 13⟩, 0) := by kernel_rfl
theorem alive_13 : ∃ t, readF (opsOf opsInit) aliveL 13 = (⟨t, [([84], 0)], 1, 19⟩, 0) := ⟨.mk 4 0 [46] [.mk 3 0 [97] [], .mk 1 0 [] []], by kernel_rfl⟩
theorem alive_19 : readF (opsOf opsInit) aliveL 19 = (⟨noTm, [], 0, 0⟩, 7) := by kernel_rfl
open Go.RowKit Go.Maps
theorem tokOk_lex {T : List UInt8} (h : T.length ≤ 1600) : TokOk (lexB T).1 := by
 obtain ⟨h1, h2⟩ := lexB_ok T
 have h3 := volA_le 1600 (lexB T).1 fun t ht => Nat.le_trans (h1 t ht).short h
 refine ⟨by omega, fun t ht => by have := (h1 t ht).short; omega, fun t ht => ⟨(h1 t ht).n, ?_⟩, ?_⟩
 ·have := (h1 t ht).k0
  have := (h1 t ht).k7
  unfold okI
  omega
 ·rw [vol_len]
  have h4 : (lexB T).1.length ≤ 1601 := by omega
  have h5 := Nat.mul_le_mul_right (2 + 2 * 1600) h4
  omega
structure Alv (w u : World) (A : Option Addr) (bt bm : Nat) : Prop where
 below : Below w.heap.size w u
 tab : TabAt u bt bm opsInit
 kinds : KindsAt u
 toks : ToksAt u u.heap.size A 20 aliveL
theorem Alv.later {w u u' : World} {A : Option Addr} {bt bm : Nat} (h : Alv w u A bt bm) (hb : Below u.heap.size u u') : Alv w u' A bt bm :=
 ⟨h.below.trans (hb.mono h.below.size), h.tab.later hb, h.kinds.later hb, (h.toks.keep hb.block).up hb.size⟩
theorem aliveL_ok : TokOk aliveL := by
 have h := tokOk_lex (T := aliveT) (by decide)
 rwa [alive_lex] at h
theorem Alv.read {w u : World} {A : Option Addr} {bt bm : Nat} (h : Alv w u A bt bm) (c : Nat) (i : Int) {r : ClauseF × Int} (hr : readF (opsOf opsInit) aliveL i = r) :
    Calls Tryz.prog 8 #[.slice A 20 c, .int .i64 i, .pointer (some ⟨bt, 0, none⟩)] u fun e u' => ReadOut u u' r e := by
 rw [← hr]
 exact read_any u A 20 c aliveL h.toks aliveL_ok i bt bm opsInit h.tab h.kinds
theorem Alv.put {w u u' : World} {A : Option Addr} {bt bm : Nat} (h : Alv w u A bt bm) {c : ClauseF × Int} {e : Ending} (ho : ReadOut u u' c e) :
    ∃ x An m, e = .returned (.tuple #[clV x (.slice An c.1.names.length m) c.1.line c.1.next, .int .i64 c.2]) ∧
     ∀ U, U = u'.alloc (.cells #[.int .i64 x.k, .int .i64 x.n, .string ⟨x.s.toArray⟩, .slice x.A x.len x.cap, .slice An c.1.names.length m, .int .i64 c.1.line, .int .i64 c.1.next] 37) →
     Alv w U A bt bm ∧ Below u.heap.size u U ∧ TermAt U U.heap.size x c.1.t ∧ (∃ B, Row U B 54 2 encB (.slice An c.1.names.length m) c.1.names) ∧ u'.heap.size < U.heap.size ∧
     U.heap[u'.heap.size]? = some (.cells #[.int .i64 x.k, .int .i64 x.n, .string ⟨x.s.toArray⟩, .slice x.A x.len x.cap, .slice An c.1.names.length m, .int .i64 c.1.line, .int .i64 c.1.next] 37 (0, 0)) := by
 obtain ⟨hb, x, nv, B, rfl, hx, hn⟩ := ho
 obtain ⟨An, m, rfl⟩ := hn.shape
 refine ⟨x, An, m, rfl, fun U hU => ?_⟩
 subst hU
 have hb' := hb.trans ((Below.refl _ _).alloc hb.size (.cells #[.int .i64 x.k, .int .i64 x.n, .string ⟨x.s.toArray⟩, .slice x.A x.len x.cap, .slice An c.1.names.length m, .int .i64 c.1.line, .int .i64 c.1.next] 37))
 refine ⟨h.later hb', hb', ?_, ⟨B, Row.keep hn fun k hk => Below.heap_alloc _ _ _ (hn.lt k hk).2⟩, by rw [World.size_alloc]; omega, heap_alloc_new _ _⟩
 exact ((hx.at fun b hb => hb.lt) : TermAt u' u'.heap.size x c.1.t).later ((Below.refl _ _).alloc (Nat.le_refl _) _)
set_option maxHeartbeats 1000000 in
theorem latom_any (w : World) (s : List UInt8) : Calls Tryz.prog 13 #[.string ⟨s.toArray⟩] w fun e w' => e = .returned (.agg #[.int .i64 3, .int .i64 0, .string ⟨s.toArray⟩, .slice none 0 0]) ∧ Below w.heap.size w w' := by
 go_enter Tryz.func13, Tryz.ntmps13
 go_wp2_with fail
 obtain ⟨z0, z1, z2, z3, -⟩ := four_at (heap_alloc_new w (.cells #[.int .i64 3, .int .i64 0, .string ⟨s.toArray⟩, .slice none 0 0] 34))
 exact ⟨rfl, _, by simp [results, Tryz.results13, go_sem, z0, z1, z2, z3], rfl, (Below.refl _ _).alloc (Nat.le_refl _) _⟩
theorem rule_made (V W : World) (hW : W = (((V.alloc (.cells #[.int .i64 3, .int .i64 0, .string ⟨#[99]⟩, .slice none 0 0] 34)).alloc (.cells #[.int .i64 3, .int .i64 0, .string ⟨#[98]⟩, .slice none 0 0, .int .i64 4, .int .i64 0, .string ⟨#[92, 43]⟩, .slice (some ⟨V.heap.size, 0, none⟩) 1 1] 34)).alloc (.cells #[.int .i64 3, .int .i64 0, .string ⟨#[97]⟩, .slice none 0 0, .int .i64 4, .int .i64 0, .string ⟨#[44]⟩, .slice (some ⟨V.heap.size + 1, 0, none⟩) 2 2] 34)).alloc (.cells #[.int .i64 4, .int .i64 0, .string ⟨#[58, 45]⟩, .slice (some ⟨V.heap.size + 1 + 1, 0, none⟩) 2 2] 34)) :
    TermAt W W.heap.size ⟨4, 0, [58, 45], some ⟨V.heap.size + 1 + 1, 0, none⟩, 2, 2⟩ ruleT ∧ W.heap[V.heap.size + 1 + 1 + 1]? = some (.cells #[.int .i64 4, .int .i64 0, .string ⟨#[58, 45]⟩, .slice (some ⟨V.heap.size + 1 + 1, 0, none⟩) 2 2] 34 (0, 0)) ∧ Below V.heap.size V W ∧ V.heap.size + 1 + 1 + 1 < W.heap.size := by
 have ha : W = allocs V [.cells #[.int .i64 3, .int .i64 0, .string ⟨#[99]⟩, .slice none 0 0] 34, .cells #[.int .i64 3, .int .i64 0, .string ⟨#[98]⟩, .slice none 0 0, .int .i64 4, .int .i64 0, .string ⟨#[92, 43]⟩, .slice (some ⟨V.heap.size, 0, none⟩) 1 1] 34, .cells #[.int .i64 3, .int .i64 0, .string ⟨#[97]⟩, .slice none 0 0, .int .i64 4, .int .i64 0, .string ⟨#[44]⟩, .slice (some ⟨V.heap.size + 1, 0, none⟩) 2 2] 34, .cells #[.int .i64 4, .int .i64 0, .string ⟨#[58, 45]⟩, .slice (some ⟨V.heap.size + 1 + 1, 0, none⟩) 2 2] 34] := hW
 have hs : W.heap.size = V.heap.size + 4 := by rw [ha, allocs_size]; rfl
 have h0 : W.heap[V.heap.size]? = some (.cells #[.int .i64 3, .int .i64 0, .string ⟨#[99]⟩, .slice none 0 0] 34 (0, 0)) := by rw [ha]; exact allocs_at V _ 0 _ rfl
 have h1 : W.heap[V.heap.size + 1]? = some (.cells #[.int .i64 3, .int .i64 0, .string ⟨#[98]⟩, .slice none 0 0, .int .i64 4, .int .i64 0, .string ⟨#[92, 43]⟩, .slice (some ⟨V.heap.size, 0, none⟩) 1 1] 34 (0, 0)) := by rw [ha]; exact allocs_at V _ 1 _ rfl
 have h2 : W.heap[V.heap.size + 1 + 1]? = some (.cells #[.int .i64 3, .int .i64 0, .string ⟨#[97]⟩, .slice none 0 0, .int .i64 4, .int .i64 0, .string ⟨#[44]⟩, .slice (some ⟨V.heap.size + 1, 0, none⟩) 2 2] 34 (0, 0)) := by rw [ha]; exact allocs_at V _ 2 _ rfl
 have h3 : W.heap[V.heap.size + 1 + 1 + 1]? = some (.cells #[.int .i64 4, .int .i64 0, .string ⟨#[58, 45]⟩, .slice (some ⟨V.heap.size + 1 + 1, 0, none⟩) 2 2] 34 (0, 0)) := by rw [ha]; exact allocs_at V _ 3 _ rfl
 refine ⟨?_, h3, by rw [ha]; exact allocs_below V _, by omega⟩
 have leaf : ∀ s : List UInt8, s.length ≤ maxLen → TermS W (· < W.heap.size) ⟨3, 0, s, none, 0, 0⟩ (.mk 3 0 s []) := fun s h => TermS.leaf W _ 3 0 s none 0 h
 have m1 : ([] : List UInt8).length + 2 ≤ maxLen := by unfold maxLen; simp
 have tc : TermS W (· < W.heap.size) ⟨4, 0, [92, 43], some ⟨V.heap.size, 0, none⟩, 1, 1⟩ (.mk 4 0 [92, 43] [.mk 3 0 [99] []]) :=
  TermsS.block (xs := [⟨3, 0, [99], none, 0, 0⟩]) ((TermsS.nil W _).snoc (leaf [99] (by unfold maxLen; simp))) h0 (by omega) [92, 43] m1 4 0 1
 have tb : TermS W (· < W.heap.size) ⟨4, 0, [44], some ⟨V.heap.size + 1, 0, none⟩, 2, 2⟩ (.mk 4 0 [44] [.mk 3 0 [98] [], .mk 4 0 [92, 43] [.mk 3 0 [99] []]]) :=
  TermsS.block (xs := [⟨3, 0, [98], none, 0, 0⟩, ⟨4, 0, [92, 43], some ⟨V.heap.size, 0, none⟩, 1, 1⟩]) (((TermsS.nil W _).snoc (leaf [98] (by unfold maxLen; simp))).snoc tc) h1 (by omega) [44] (by unfold maxLen; simp) 4 0 2
 have ta : TermS W (· < W.heap.size) ⟨4, 0, [58, 45], some ⟨V.heap.size + 1 + 1, 0, none⟩, 2, 2⟩ ruleT :=
  TermsS.block (xs := [⟨3, 0, [97], none, 0, 0⟩, ⟨4, 0, [44], some ⟨V.heap.size + 1, 0, none⟩, 2, 2⟩]) (((TermsS.nil W _).snoc (leaf [97] (by unfold maxLen; simp))).snoc tb) h2 (by omega) [58, 45] m1 4 0 2
 exact ta.at fun b hb => hb
set_option maxHeartbeats 8000000 in
theorem alive_any (w : World) (hE : RdEnv w) :
    Calls Tryz.prog 4 #[] w fun e w' => e = .returned (.bool true) ∧ Below w.heap.size w w' := by
 have HE := Lib.hid hE
 clear hE
 go_enter Tryz.func4, Tryz.ntmps4
 go_wp2_with fail
 refine (lex_any _ aliveT (by decide) HE.out.max).mono ?_
 rintro e w2 ⟨v2, rfl, hr2, hb2⟩
 rw [alive_lex] at hr2 ⊢
 dsimp only at hr2 ⊢
 obtain ⟨An, cn, rfl⟩ := hr2.shape
 have HR2 := Lib.hid hr2
 have HB2 := Lib.hid hb2
 clear hr2 hb2
 have h20 : aliveL.length = 20 := rfl
 rw [h20]
 go_wp2_with fail
 refine (new_any _ (HE.out.later HB2.out).kinds (HE.out.later HB2.out).tab).mono ?_
 rintro e w3 ⟨bt, bm, rfl, hT3, hbt, hbm, hne, hb3⟩
 have HA3 : Hid (Alv w w3 An bt bm) := Lib.hid ⟨HB2.out.trans (hb3.mono HB2.out.size), hT3, ((HE.out.later HB2.out).later hb3).kinds, toks_row (HR2.out.later hb3)⟩
 clear HR2 HB2 hT3 hbt hbm hne hb3
 go_wp2_with fail
 refine (HA3.out.read cn 0 alive_0).mono ?_
 rintro e v0 ho
 obtain ⟨x0, N0, m0, rfl, hU⟩ := HA3.out.put ho
 have HU := Lib.hid hU
 clear ho hU
 dsimp only
 unfold clV
 go_upto_region 6 with fail
 obtain ⟨U0, hU0⟩ : ∃ U, U = v0.alloc (.cells #[.int .i64 x0.k, .int .i64 x0.n, .string ⟨x0.s.toArray⟩, .slice x0.A x0.len x0.cap, .slice N0 0 m0, .int .i64 1, .int .i64 7] 37) := ⟨_, rfl⟩
 rw [← hU0]
 obtain ⟨ha, hb, ht, hn, hl, hc⟩ := HU.out U0 hU0
 clear hU0 HU
 generalize v0.heap.size = g0 at hl hc ⊢
 have HV0 := Lib.hid ha
 have HB0 := Lib.hid hb
 have HT0 := Lib.hid ht
 have HN0 := Lib.hid hn
 have HC0 := Lib.hid hc
 have HL0 := Lib.hid hl
 have y0 : U0.cell? ⟨g0, 6, none⟩ = some (.int .i64 7) := by rw [cell_of_row U0 g0 6 _ _ (0, 0) hc]; rfl
 clear ha hb ht hn hl hc
 go_wp2_with fail
 clear y0
 refine (HV0.out.read cn 7 alive_7).mono ?_
 rintro e v1 ho
 obtain ⟨x1, N1, m1, rfl, hU⟩ := HV0.out.put ho
 have HU := Lib.hid hU
 clear ho hU
 dsimp only
 unfold clV
 go_upto_region 7 with fail
 obtain ⟨U1, hU1⟩ : ∃ U, U = v1.alloc (.cells #[.int .i64 x1.k, .int .i64 x1.n, .string ⟨x1.s.toArray⟩, .slice x1.A x1.len x1.cap, .slice N1 0 m1, .int .i64 1, .int .i64 10] 37) := ⟨_, rfl⟩
 rw [← hU1]
 obtain ⟨ha, hb, ht, hn, hl, hc⟩ := HU.out U1 hU1
 clear hU1 HU
 generalize v1.heap.size = g1 at hl hc ⊢
 have HV1 := Lib.hid ha
 have HB1 := Lib.hid hb
 have HT1 := Lib.hid ht
 have HN1 := Lib.hid hn
 have HC1 := Lib.hid hc
 have HL1 := Lib.hid hl
 have y1 : U1.cell? ⟨g1, 6, none⟩ = some (.int .i64 10) := by rw [cell_of_row U1 g1 6 _ _ (0, 0) hc]; rfl
 clear ha hb ht hn hl hc
 go_wp2_with fail
 clear y1
 refine (HV1.out.read cn 10 alive_10).mono ?_
 rintro e v2 ho
 obtain ⟨x2, N2, m2, rfl, hU⟩ := HV1.out.put ho
 have HU := Lib.hid hU
 clear ho hU
 dsimp only
 unfold clV
 go_upto_region 8 with fail
 obtain ⟨U2, hU2⟩ : ∃ U, U = v2.alloc (.cells #[.int .i64 x2.k, .int .i64 x2.n, .string ⟨x2.s.toArray⟩, .slice x2.A x2.len x2.cap, .slice N2 0 m2, .int .i64 1, .int .i64 13] 37) := ⟨_, rfl⟩
 rw [← hU2]
 obtain ⟨ha, hb, ht, hn, hl, hc⟩ := HU.out U2 hU2
 clear hU2 HU
 generalize v2.heap.size = g2 at hl hc ⊢
 have HV2 := Lib.hid ha
 have HB2 := Lib.hid hb
 have HT2 := Lib.hid ht
 have HN2 := Lib.hid hn
 have HC2 := Lib.hid hc
 have HL2 := Lib.hid hl
 have y2 : U2.cell? ⟨g2, 6, none⟩ = some (.int .i64 13) := by rw [cell_of_row U2 g2 6 _ _ (0, 0) hc]; rfl
 clear ha hb ht hn hl hc
 go_wp2_with fail
 clear y2
 obtain ⟨t13, h13⟩ := alive_13
 refine (HV2.out.read cn 13 h13).mono ?_
 rintro e v3 ho
 obtain ⟨x3, N3, m3, rfl, hU⟩ := HV2.out.put ho
 have HU := Lib.hid hU
 clear ho hU h13
 dsimp only
 unfold clV
 go_upto_region 9 with fail
 obtain ⟨U3, hU3⟩ : ∃ U, U = v3.alloc (.cells #[.int .i64 x3.k, .int .i64 x3.n, .string ⟨x3.s.toArray⟩, .slice x3.A x3.len x3.cap, .slice N3 1 m3, .int .i64 1, .int .i64 19] 37) := ⟨_, rfl⟩
 rw [← hU3]
 obtain ⟨ha, hb, ht, hn, hl, hc⟩ := HU.out U3 hU3
 clear hU3 HU
 generalize v3.heap.size = g3 at hl hc ⊢
 have HV3 := Lib.hid ha
 have HB3 := Lib.hid hb
 have HT3 := Lib.hid ht
 have HN3 := Lib.hid hn
 have HC3 := Lib.hid hc
 have HL3 := Lib.hid hl
 have y3 : U3.cell? ⟨g3, 6, none⟩ = some (.int .i64 19) := by rw [cell_of_row U3 g3 6 _ _ (0, 0) hc]; rfl
 clear ha hb ht hn hl hc
 go_wp2_with fail
 clear y3
 refine (HV3.out.read cn 19 alive_19).mono ?_
 rintro e v4 ho
 obtain ⟨x4, N4, m4, rfl, hU⟩ := HV3.out.put ho
 have HU := Lib.hid hU
 clear ho hU
 dsimp only
 unfold clV
 go_upto_region 10 with fail
 obtain ⟨U4, hU4⟩ : ∃ U, U = v4.alloc (.cells #[.int .i64 x4.k, .int .i64 x4.n, .string ⟨x4.s.toArray⟩, .slice x4.A x4.len x4.cap, .slice N4 0 m4, .int .i64 0, .int .i64 0] 37) := ⟨_, rfl⟩
 rw [← hU4]
 obtain ⟨ha, hb, ht, hn, hl, hc⟩ := HU.out U4 hU4
 clear hU4 HU
 generalize v4.heap.size = g4 at hl hc ⊢
 have HV4 := Lib.hid ha
 have HB4 := Lib.hid hb
 have HT4 := Lib.hid ht
 have HN4 := Lib.hid hn
 have HC4 := Lib.hid hc
 have HL4 := Lib.hid hl
 have y4 : U4.cell? ⟨g4, 6, none⟩ = some (.int .i64 0) := by rw [cell_of_row U4 g4 6 _ _ (0, 0) hc]; rfl
 clear ha hb ht hn hl hc
 clear y4
 go_wp2_with fail
 refine (latom_any U4 [97]).mono ?_
 rintro e V0 ⟨rfl, hv0⟩
 have HV0' := Lib.hid hv0
 clear hv0
 go_wp2_with fail
 refine (latom_any V0 [98]).mono ?_
 rintro e V1 ⟨rfl, hv1⟩
 have HV1' := Lib.hid (HV0'.out.trans (hv1.mono HV0'.out.size))
 clear hv1 HV0'
 go_wp2_with fail
 refine (latom_any V1 [99]).mono ?_
 rintro e V2 ⟨rfl, hv2⟩
 have HV2' := Lib.hid (HV1'.out.trans (hv2.mono HV1'.out.size))
 clear hv2 HV1'
 go_upto_region 11 with fail
 obtain ⟨W5, hW5⟩ : ∃ W5, W5 = (((V2.alloc (.cells #[.int .i64 3, .int .i64 0, .string ⟨#[99]⟩, .slice none 0 0] 34)).alloc (.cells #[.int .i64 3, .int .i64 0, .string ⟨#[98]⟩, .slice none 0 0, .int .i64 4, .int .i64 0, .string ⟨#[92, 43]⟩, .slice (some ⟨V2.heap.size, 0, none⟩) 1 1] 34)).alloc (.cells #[.int .i64 3, .int .i64 0, .string ⟨#[97]⟩, .slice none 0 0, .int .i64 4, .int .i64 0, .string ⟨#[44]⟩, .slice (some ⟨V2.heap.size + 1, 0, none⟩) 2 2] 34)).alloc (.cells #[.int .i64 4, .int .i64 0, .string ⟨#[58, 45]⟩, .slice (some ⟨V2.heap.size + 1 + 1, 0, none⟩) 2 2] 34) := ⟨_, rfl⟩
 rw [← hW5]
 obtain ⟨hrt, hrc, hrb, hrl⟩ := rule_made V2 W5 hW5
 clear hW5
 have b4 : Below U4.heap.size U4 W5 := HV2'.out.trans (hrb.mono HV2'.out.size)
 have b3 : Below U3.heap.size U3 W5 := HB4.out.trans (b4.mono HB4.out.size)
 have b2 : Below U2.heap.size U2 W5 := HB3.out.trans (b3.mono HB3.out.size)
 have b1 : Below U1.heap.size U1 W5 := HB2.out.trans (b2.mono HB2.out.size)
 have b0 : Below U0.heap.size U0 W5 := HB1.out.trans (b1.mono HB1.out.size)
 have HW5 : Hid (Below w.heap.size w W5) := Lib.hid (HV0.out.below.trans (b0.mono HV0.out.below.size))
 have c0 := (b0.block g0 HL0.out).trans HC0.out
 have c1 := (b1.block g1 HL1.out).trans HC1.out
 have c2 := (b2.block g2 HL2.out).trans HC2.out
 have c3 := (b3.block g3 HL3.out).trans HC3.out
 have ht0 : TermAt W5 W5.heap.size x0 ruleT := HT0.out.keep b0.size b0.block
 have k1 : x1.k = 4 := HT1.out.open.1.symm
 have k2 : x2.k = 2 := HT2.out.open.1.symm
 have n2 : x2.n = -1 := HT2.out.open.2.1.symm
 obtain ⟨BN, hN3⟩ := HN3.out
 have hN5 : Row W5 BN 54 2 encB (.slice N3 1 m3) [([84], 0)] := Row.later hN3 b3
 obtain ⟨gN, capN, eN, -, -, -, kN⟩ := hN5.cells (enc := encB) (sz := 2) (fun _ => rfl) (by simp)
 have tN := (kN 0 ([84], 0) rfl 0 _ rfl).1
 injection eN with e1 e2 e3
 subst e1 e3
 rw [k1] at c1
 rw [k2, n2] at c2
 have hsame := same_any ruleT.size ruleT ruleT x0 ⟨4, 0, [58, 45], some ⟨V2.heap.size + 1 + 1, 0, none⟩, 2, 2⟩ W5 (Nat.le_refl _) (by decide) (by decide) ht0 hrt
 rw [sameTm_self] at hsame
 have HS := Lib.hid hsame
 obtain ⟨p0, p1, p2, p3, -⟩ := four_at hrc
 have q0 : W5.cell? ⟨g0, 0, none⟩ = some (.int .i64 x0.k) := by rw [cell_of_row W5 g0 0 _ _ (0, 0) c0]; rfl
 have q1 : W5.cell? ⟨g0, 1, none⟩ = some (.int .i64 x0.n) := by rw [cell_of_row W5 g0 1 _ _ (0, 0) c0]; rfl
 have q2 : W5.cell? ⟨g0, 2, none⟩ = some (.string ⟨x0.s.toArray⟩) := by rw [cell_of_row W5 g0 2 _ _ (0, 0) c0]; rfl
 have q3 : W5.cell? ⟨g0, 3, none⟩ = some (.slice x0.A x0.len x0.cap) := by rw [cell_of_row W5 g0 3 _ _ (0, 0) c0]; rfl
 have HC1' := Lib.hid c1
 have HC2' := Lib.hid c2
 have HC3' := Lib.hid c3
 have HTN := Lib.hid tN
 have l1 : g1 < W5.heap.size := Nat.lt_of_lt_of_le HL1.out b1.size
 have l2 : g2 < W5.heap.size := Nat.lt_of_lt_of_le HL2.out b2.size
 have l3 : g3 < W5.heap.size := Nat.lt_of_lt_of_le HL3.out b3.size
 have lN : gN < W5.heap.size := World.block_lt_of_cell? W5 _ tN
 clear c0 c1 c2 c3 tN kN e2 hN5 hN3 ht0 hrt hrc hrb hrl b0 b1 b2 b3 b4 k1 k2 n2 hsame HV0 HV1 HV2 HV3 HV4 HB1 HB2 HB3 HB4 HT0 HT1 HT2 HT3 HT4 HN0 HN1 HN2 HN3 HN4 HC0 HC1 HC2 HC3 HC4 HL0 HL1 HL2 HL3 HL4 HV2' HA3 HE
 go_wp2_with fail
 refine HS.out.mono ?_
 rintro e W6 ⟨rfl, hb6⟩
 have c1 := (hb6.block g1 l1).trans HC1'.out
 have c2 := (hb6.block g2 l2).trans HC2'.out
 have c3 := (hb6.block g3 l3).trans HC3'.out
 have tN : W6.cell? ⟨gN, 0, none⟩ = some (.string ⟨#[84]⟩) := (World.cell?_of_block (a := ⟨gN, 0, none⟩) (hb6.block gN lN)).trans HTN.out
 have q4 : W6.cell? ⟨g1, 0, none⟩ = some (.int .i64 4) := by rw [cell_of_row W6 g1 0 _ _ (0, 0) c1]; rfl
 have q5 : W6.cell? ⟨g2, 0, none⟩ = some (.int .i64 2) := by rw [cell_of_row W6 g2 0 _ _ (0, 0) c2]; rfl
 have q6 : W6.cell? ⟨g2, 1, none⟩ = some (.int .i64 (-1)) := by rw [cell_of_row W6 g2 1 _ _ (0, 0) c2]; rfl
 have q7 : W6.cell? ⟨g3, 4, none⟩ = some (.slice (some ⟨gN, 0, none⟩) 1 m3) := by rw [cell_of_row W6 g3 4 _ _ (0, 0) c3]; rfl
 have HB6 := Lib.hid (HW5.out.trans (hb6.mono HW5.out.size))
 clear c1 c2 c3 hb6 HC1' HC2' HC3' HTN HS HW5 p0 p1 p2 p3 q0 q1 q2 q3
 go_wp2_with fail
 go_ret
 exact ⟨rfl, HB6.out⟩
end Go.Proofs.YtiffopheamnngaaGreatDoor
