import Derived.Test.YtcallkljcjimiaaGreatDoorJU03
namespace Go.Proofs.YtcallkljcjimiaaGreatDoor
open Go.RowKit Go.Maps
set_option maxRecDepth 100000
theorem operF_len {es : List (OpK × OpV)} {way : Int} {t : Tm} {p : OpR} (h : operF es way t = some p) : ((p.side = 1 ∨ p.side = 3) → t.args.length = 1) ∧ (p.side = 2 → t.args.length = 2) := by
 unfold operF at h
 split at h
 ·cases h
 ·split at h
  ·split at h
   ·injection h with h; subst h; exact ⟨fun _ => by assumption, fun e => by cases e⟩
   ·split at h
    ·injection h with h; subst h; exact ⟨fun _ => by assumption, fun e => by cases e⟩
    ·cases h
  ·split at h
   ·split at h
    ·injection h with h; subst h; exact ⟨fun e => (by rcases e with e | e <;> cases e), fun _ => by assumption⟩
    ·cases h
   ·cases h
set_option maxHeartbeats 8000000 in
theorem pput_op1 {es : List (OpK × OpV)} {way : Int} {n : Nat} (hC : PPutC es way n) {u : World} {rt : Nat} {L : List DefT} {x : TV} {t : Tm} {most : Int} (I : PutIn es way n u rt L x t most) (hk : t.k = 4) (hc : consT t = false) (hncu : ¬ (way ≠ 2 ∧ t.s = [123, 125] ∧ t.args.length = 1)) (o : OpR) (ho : operF es way t = some o) (hsd : o.side = 1) : PutOk es way u rt x t most := by
 obtain ⟨hn, hsz, hw, hx, hP, h0, h1⟩ := I
 unfold PutOk
 obtain ⟨k1, k2, k3, k4, k5, -⟩ := hx.open
 obtain ⟨W, bp, Z, hW, hbp, hZ, hgl, hbW, hp0, hx0, hS, hfit, hnm⟩ := pen_pre most hw hx hP
 rw [← hZ]
 have HS := Lib.hid hS
 unfold PenS at HS
 have hw0 := Below.refl W.heap.size W
 clear hS
 obtain ⟨hco, hso, hna⟩ := pen_four HS.out hnm
 have HCO := Lib.hid hco
 have HSO := Lib.hid hso
 have HNA := Lib.hid hna
 clear hco hso hna
 obtain ⟨on, -, opos⟩ := operF_some ho
 have hl1 := (operF_len ho).1 (by omega)
 have ht0 : (t.args.getD 0 noTm).size ≤ n := by have := arg_lt (t := t) (i := 0) (by omega); omega
 have ht1 : (t.args.getD 0 noTm).size ≤ 20000 := by have := arg_lt (t := t) (i := 0) (by omega); omega
 obtain ⟨N, hN⟩ : ∃ N, N = textF way x.s := ⟨_, rfl⟩
 obtain ⟨O, hO9⟩ : ∃ O, O = operandF es way (wrT es way) (t.args.getD 0 noTm) o false := ⟨_, rfl⟩
 obtain ⟨R, hR9⟩ : ∃ R, R = operateF es way (wrT es way) o t.args := ⟨_, rfl⟩
 have hR : R = N ++ 32 :: O := by rw [hR9]; unfold operateF; rw [if_pos hsd, hO9, hN, on, k3]
 have hz : Z = if most < o.pri then 40 :: (R ++ [41]) else R := by rw [hZ, wr_4 hk]; unfold compF; rw [if_neg (by rw [hc]; decide), if_neg hncu, ho, hR9]
 have hzl : R.length ≤ Z.length := by
  rw [hz]
  split
  ·simp; omega
  ·exact Nat.le_refl _
 obtain ⟨Q1, hQ1⟩ : ∃ Q, Q = N ++ [32] := ⟨_, rfl⟩
 have g1 : (⟨N.toArray⟩ ++ ⟨#[32]⟩ : ByteArray) = ⟨Q1.toArray⟩ := by rw [hQ1]; exact cat_pr N [32]
 have g2 : (⟨Q1.toArray⟩ ++ ⟨O.toArray⟩ : ByteArray) = ⟨R.toArray⟩ := by rw [hR, show N ++ 32 :: O = Q1 ++ O by rw [hQ1]; simp]; exact cat_pr Q1 O
 have hrl : R.length = N.length + O.length + 1 := by rw [hR]; simp; omega
 have hq1 : Q1.length = N.length + 1 := by rw [hQ1]; simp
 have n1 : ¬ 9223372036854775807 < N.length + 1 := by omega
 have n2 : ¬ 9223372036854775807 < Q1.length + O.length := by omega
 have HG := Lib.hid (And.intro g1 (And.intro g2 (And.intro n1 n2)))
 have HZ := Lib.hid hz
 have HRL : Hid (R.length ≤ 200000000) := Lib.hid (by omega)
 obtain ⟨b, off, y, hA, hbw, hy, m0, m1, m2, m3⟩ := arg_in (hx.blw hbW) (i := 0) (by omega)
 rw [Nat.zero_mul, Nat.add_zero] at m0 m1 m2 m3
 have hbW2 : b < W.heap.size := Nat.lt_of_lt_of_le hbw hbW.size
 have HSE := Lib.hid (pen_arg HS.out hbW2 m0 m1 m2 m3)
 obtain ⟨pri, hpri⟩ : ∃ p, p = o.pri := ⟨_, rfl⟩
 have HPO : Hid (∀ v, Below W.heap.size W v → Calls Tryz.prog 78 #[penV way rt, tvV y, .string ⟨x.s.toArray⟩, .int .i64 pri, .bool false] v fun e u' => e = .returned (.string ⟨O.toArray⟩) ∧ Below W.heap.size W u') := Lib.hid fun v hv => by
  obtain ⟨-, -, h1, h2, h3⟩ := HS.out v hv
  rw [hO9, hpri, ← k3, ← on]
  exact (poperand_any hC v rt L y _ ht0 ht1 (hw.arg (by omega)) ((((hy.up hbW.size).blw hv)).up hv.size) h1 o false).mono fun e u' h => ⟨h.1, hv.trans (h.2.mono hv.size)⟩
 rw [hc] at HCO
 rw [ho] at HSO
 rw [← hN] at HNA
 simp only [opPair] at HSO
 rw [hsd, ← hpri] at HSO
 rw [← hpri] at HZ
 have HNC : Hid (way ≠ 2 → x.s = [123, 125] → x.len ≠ 1) := Lib.hid fun a b c => hncu ⟨a, by rw [k3]; exact b, by rw [k4]; exact c⟩
 have hl0 : (0 : Int) < (x.len : Int) := by rw [← k4, hl1]; decide
 have hl9 : 0 < x.len := by omega
 have HU := Lib.hid hbW
 rw [tvV_lit] at HPO
 rw [hA] at HS HSE HCO HSO
 rw [k1] at hk
 have b1 : (x.k == 1) = false := by rw [hk]; rfl
 have b2 : (x.k == 2) = false := by rw [hk]; rfl
 have b3 : (x.k == 3) = false := by rw [hk]; rfl
 clear hk hC hn hsz hw hx hP h0 h1 k1 k2 k3 k4 k5 hZ hp0 hx0 hbW hgl hc hncu ho hsd on opos hl1 ht0 ht1 hN hO9 hR9 hR hz hzl hQ1 g1 g2 hrl hq1 n1 n2 hA hbw hy m0 m1 m2 m3 hbW2 hpri
 rw [tvV_lit]
 go_enter Tryz.func37, Tryz.ntmps37
 go_upto_region 1 with fail
 rw [← hW, ← hbp]
 clear hW hbp
 obtain ⟨⟨p0, p1⟩, ⟨y0, y1, y2, y3⟩, -, -, hbe⟩ := HS.out W hw0
 go_wp2_with fail
 refine (HCO.out W hw0).mono ?_
 rintro e w1 ⟨rfl, hb1⟩
 have HB1 := Lib.hid hb1
 clear y0 y1 y2 y3 p0 p1 hbe
 obtain ⟨⟨p0, p1⟩, ⟨y0, y1, y2, y3⟩, -, -, hbe⟩ := HS.out w1 hb1
 clear hb1
 by_cases hway : way = 2
 case' pos =>
  have c1 : (way != 2) = false := by rw [hway]; rfl
 case' neg =>
  have c1 : (way != 2) = true := bne_iff_ne.2 hway
  have HN1 := Lib.hid (HNC.out hway)
  by_cases hcu : x.s = [123, 125]
  case' pos =>
   have c2 : (x.s == [123, 125]) = true := by rw [hcu]; rfl
   have c3 : ((x.len : Int) == 1) = false := beq_eq_false_iff_ne.2 (by have := HN1.out hcu; omega)
  case' neg =>
   have c2 : (x.s == [123, 125]) = false := beq_eq_false_iff_ne.2 hcu
  all_goals
   clear HN1 hcu
 all_goals
  clear hway
  go_wp2_with fail
  refine (HSO.out w1 HB1.out).mono ?_
  rintro e w2 ⟨rfl, hb2⟩
  clear y0 y1 y2 y3 p0 p1 hbe
  obtain ⟨⟨p0, p1⟩, ⟨y0, y1, y2, y3⟩, -, -, hbe⟩ := HS.out w2 hb2
  obtain ⟨-, -, -, -, m0, m1, m2, m3⟩ := HSE.out w2 hb2
  go_wp2_with fail
  have hbd := hb2.drew
  obtain ⟨g1, g2, n1, n2⟩ := HG.out
  go_region_held3 (fun v => v.cell? ⟨bp, 0, none⟩ = some (.int .i64 way) ∧ v.cell? ⟨bp, 1, none⟩ = some (.pointer (some ⟨rt, 0, none⟩)) ∧ v.cell? ⟨bp + 1, 2, none⟩ = some (.string ⟨x.s.toArray⟩) ∧ v.cell? ⟨bp + 1, 3, none⟩ = some (.slice (some ⟨b, off, none⟩) x.len x.cap) ∧ v.cell? ⟨b, off, none⟩ = some (.int .i64 y.k) ∧ v.cell? ⟨b, off + 1, none⟩ = some (.int .i64 y.n) ∧ v.cell? ⟨b, off + 2, none⟩ = some (.string ⟨y.s.toArray⟩) ∧ v.cell? ⟨b, off + 3, none⟩ = some (.slice y.A y.len y.cap))
   (first | (with_reducible exact HSE.out _ (by assumption)))
   (first | (go_at_call 73; with_reducible refine (HNA.out _ (by assumption)).mono ?_; rintro e w3 ⟨rfl, hb3⟩) | (go_at_call 78; with_reducible refine (HPO.out _ (by assumption)).mono ?_; rintro e w4 ⟨rfl, hb4⟩))
 all_goals
  have hfb := HU.out.trans (hb4.mono HU.out.size)
  clear y0 y1 y2 y3 p0 p1 m0 m1 m2 m3 hbe g1 g2 n1 n2
  by_cases hmp : most < pri
  ·obtain ⟨R1, hR1⟩ : ∃ R1, R1 = 40 :: R := ⟨_, rfl⟩
   have hz := HZ.out
   rw [if_pos hmp] at hz
   have g1 : (⟨#[40]⟩ ++ ⟨R.toArray⟩ : ByteArray) = ⟨R1.toArray⟩ := by rw [hR1]; exact cat_pr [40] R
   have g2 : (⟨R1.toArray⟩ ++ ⟨#[41]⟩ : ByteArray) = ⟨Z.toArray⟩ := by rw [hz, hR1]; exact cat_pr (40 :: R) [41]
   have n1 : ¬ 9223372036854775807 < 1 + R.length := by have := HRL.out; omega
   have n2 : ¬ 9223372036854775807 < R1.length + 1 := by have := HRL.out; rw [hR1, List.length_cons]; omega
   clear hz hR1
   go_wp2_with fail
   go_ret
   exact ⟨rfl, hfb⟩
  ·have hz := HZ.out
   rw [if_neg hmp] at hz
   go_wp2_with fail
   go_ret
   first | exact ⟨rfl, hfb⟩ | exact ⟨by rw [hz]; rfl, hfb⟩
set_option maxHeartbeats 8000000 in
theorem pput_op3 {es : List (OpK × OpV)} {way : Int} {n : Nat} (hC : PPutC es way n) {u : World} {rt : Nat} {L : List DefT} {x : TV} {t : Tm} {most : Int} (I : PutIn es way n u rt L x t most) (hk : t.k = 4) (hc : consT t = false) (hncu : ¬ (way ≠ 2 ∧ t.s = [123, 125] ∧ t.args.length = 1)) (o : OpR) (ho : operF es way t = some o) (hsd : o.side = 3) : PutOk es way u rt x t most := by
 obtain ⟨hn, hsz, hw, hx, hP, h0, h1⟩ := I
 unfold PutOk
 obtain ⟨k1, k2, k3, k4, k5, -⟩ := hx.open
 obtain ⟨W, bp, Z, hW, hbp, hZ, hgl, hbW, hp0, hx0, hS, hfit, hnm⟩ := pen_pre most hw hx hP
 rw [← hZ]
 have HS := Lib.hid hS
 unfold PenS at HS
 have hw0 := Below.refl W.heap.size W
 clear hS
 obtain ⟨hco, hso, hna⟩ := pen_four HS.out hnm
 have HCO := Lib.hid hco
 have HSO := Lib.hid hso
 have HNA := Lib.hid hna
 clear hco hso hna
 obtain ⟨on, -, opos⟩ := operF_some ho
 have hl1 := (operF_len ho).1 (by omega)
 have ht0 : (t.args.getD 0 noTm).size ≤ n := by have := arg_lt (t := t) (i := 0) (by omega); omega
 have ht1 : (t.args.getD 0 noTm).size ≤ 20000 := by have := arg_lt (t := t) (i := 0) (by omega); omega
 obtain ⟨N, hN⟩ : ∃ N, N = textF way x.s := ⟨_, rfl⟩
 obtain ⟨O, hO9⟩ : ∃ O, O = operandF es way (wrT es way) (t.args.getD 0 noTm) o false := ⟨_, rfl⟩
 obtain ⟨R, hR9⟩ : ∃ R, R = operateF es way (wrT es way) o t.args := ⟨_, rfl⟩
 have hR : R = O ++ 32 :: N := by rw [hR9]; unfold operateF; rw [if_neg (by omega), if_pos hsd, hO9, hN, on, k3]
 have hz : Z = if most < o.pri then 40 :: (R ++ [41]) else R := by rw [hZ, wr_4 hk]; unfold compF; rw [if_neg (by rw [hc]; decide), if_neg hncu, ho, hR9]
 have hzl : R.length ≤ Z.length := by
  rw [hz]
  split
  ·simp; omega
  ·exact Nat.le_refl _
 obtain ⟨Q1, hQ1⟩ : ∃ Q, Q = O ++ [32] := ⟨_, rfl⟩
 have g1 : (⟨O.toArray⟩ ++ ⟨#[32]⟩ : ByteArray) = ⟨Q1.toArray⟩ := by rw [hQ1]; exact cat_pr O [32]
 have g2 : (⟨Q1.toArray⟩ ++ ⟨N.toArray⟩ : ByteArray) = ⟨R.toArray⟩ := by rw [hR, show O ++ 32 :: N = Q1 ++ N by rw [hQ1]; simp]; exact cat_pr Q1 N
 have hrl : R.length = N.length + O.length + 1 := by rw [hR]; simp; omega
 have hq1 : Q1.length = O.length + 1 := by rw [hQ1]; simp
 have n1 : ¬ 9223372036854775807 < O.length + 1 := by omega
 have n2 : ¬ 9223372036854775807 < Q1.length + N.length := by omega
 have HG := Lib.hid (And.intro g1 (And.intro g2 (And.intro n1 n2)))
 have HZ := Lib.hid hz
 have HRL : Hid (R.length ≤ 200000000) := Lib.hid (by omega)
 obtain ⟨b, off, y, hA, hbw, hy, m0, m1, m2, m3⟩ := arg_in (hx.blw hbW) (i := 0) (by omega)
 rw [Nat.zero_mul, Nat.add_zero] at m0 m1 m2 m3
 have hbW2 : b < W.heap.size := Nat.lt_of_lt_of_le hbw hbW.size
 have HSE := Lib.hid (pen_arg HS.out hbW2 m0 m1 m2 m3)
 obtain ⟨pri, hpri⟩ : ∃ p, p = o.pri := ⟨_, rfl⟩
 have HPO : Hid (∀ v, Below W.heap.size W v → Calls Tryz.prog 78 #[penV way rt, tvV y, .string ⟨x.s.toArray⟩, .int .i64 pri, .bool false] v fun e u' => e = .returned (.string ⟨O.toArray⟩) ∧ Below W.heap.size W u') := Lib.hid fun v hv => by
  obtain ⟨-, -, h1, h2, h3⟩ := HS.out v hv
  rw [hO9, hpri, ← k3, ← on]
  exact (poperand_any hC v rt L y _ ht0 ht1 (hw.arg (by omega)) ((((hy.up hbW.size).blw hv)).up hv.size) h1 o false).mono fun e u' h => ⟨h.1, hv.trans (h.2.mono hv.size)⟩
 rw [hc] at HCO
 rw [ho] at HSO
 rw [← hN] at HNA
 simp only [opPair] at HSO
 rw [hsd, ← hpri] at HSO
 rw [← hpri] at HZ
 have HNC : Hid (way ≠ 2 → x.s = [123, 125] → x.len ≠ 1) := Lib.hid fun a b c => hncu ⟨a, by rw [k3]; exact b, by rw [k4]; exact c⟩
 have hl0 : (0 : Int) < (x.len : Int) := by rw [← k4, hl1]; decide
 have hl9 : 0 < x.len := by omega
 have HU := Lib.hid hbW
 rw [tvV_lit] at HPO
 rw [hA] at HS HSE HCO HSO
 rw [k1] at hk
 have b1 : (x.k == 1) = false := by rw [hk]; rfl
 have b2 : (x.k == 2) = false := by rw [hk]; rfl
 have b3 : (x.k == 3) = false := by rw [hk]; rfl
 clear hk hC hn hsz hw hx hP h0 h1 k1 k2 k3 k4 k5 hZ hp0 hx0 hbW hgl hc hncu ho hsd on opos hl1 ht0 ht1 hN hO9 hR9 hR hz hzl hQ1 g1 g2 hrl hq1 n1 n2 hA hbw hy m0 m1 m2 m3 hbW2 hpri
 rw [tvV_lit]
 go_enter Tryz.func37, Tryz.ntmps37
 go_upto_region 1 with fail
 rw [← hW, ← hbp]
 clear hW hbp
 obtain ⟨⟨p0, p1⟩, ⟨y0, y1, y2, y3⟩, -, -, hbe⟩ := HS.out W hw0
 go_wp2_with fail
 refine (HCO.out W hw0).mono ?_
 rintro e w1 ⟨rfl, hb1⟩
 have HB1 := Lib.hid hb1
 clear y0 y1 y2 y3 p0 p1 hbe
 obtain ⟨⟨p0, p1⟩, ⟨y0, y1, y2, y3⟩, -, -, hbe⟩ := HS.out w1 hb1
 clear hb1
 by_cases hway : way = 2
 case' pos =>
  have c1 : (way != 2) = false := by rw [hway]; rfl
 case' neg =>
  have c1 : (way != 2) = true := bne_iff_ne.2 hway
  have HN1 := Lib.hid (HNC.out hway)
  by_cases hcu : x.s = [123, 125]
  case' pos =>
   have c2 : (x.s == [123, 125]) = true := by rw [hcu]; rfl
   have c3 : ((x.len : Int) == 1) = false := beq_eq_false_iff_ne.2 (by have := HN1.out hcu; omega)
  case' neg =>
   have c2 : (x.s == [123, 125]) = false := beq_eq_false_iff_ne.2 hcu
  all_goals
   clear HN1 hcu
 all_goals
  clear hway
  go_wp2_with fail
  refine (HSO.out w1 HB1.out).mono ?_
  rintro e w2 ⟨rfl, hb2⟩
  clear y0 y1 y2 y3 p0 p1 hbe
  obtain ⟨⟨p0, p1⟩, ⟨y0, y1, y2, y3⟩, -, -, hbe⟩ := HS.out w2 hb2
  obtain ⟨-, -, -, -, m0, m1, m2, m3⟩ := HSE.out w2 hb2
  go_wp2_with fail
  have hbd := hb2.drew
  obtain ⟨g1, g2, n1, n2⟩ := HG.out
  go_region_held3 (fun v => v.cell? ⟨bp, 0, none⟩ = some (.int .i64 way) ∧ v.cell? ⟨bp, 1, none⟩ = some (.pointer (some ⟨rt, 0, none⟩)) ∧ v.cell? ⟨bp + 1, 2, none⟩ = some (.string ⟨x.s.toArray⟩) ∧ v.cell? ⟨bp + 1, 3, none⟩ = some (.slice (some ⟨b, off, none⟩) x.len x.cap) ∧ v.cell? ⟨b, off, none⟩ = some (.int .i64 y.k) ∧ v.cell? ⟨b, off + 1, none⟩ = some (.int .i64 y.n) ∧ v.cell? ⟨b, off + 2, none⟩ = some (.string ⟨y.s.toArray⟩) ∧ v.cell? ⟨b, off + 3, none⟩ = some (.slice y.A y.len y.cap))
   (first | (with_reducible exact HSE.out _ (by assumption)))
   (first | (go_at_call 73; with_reducible refine (HNA.out _ (by assumption)).mono ?_; rintro e w3 ⟨rfl, hb3⟩) | (go_at_call 78; with_reducible refine (HPO.out _ (by assumption)).mono ?_; rintro e w4 ⟨rfl, hb4⟩))
 all_goals
  have hfb := HU.out.trans (hb3.mono HU.out.size)
  clear y0 y1 y2 y3 p0 p1 m0 m1 m2 m3 hbe g1 g2 n1 n2
  by_cases hmp : most < pri
  ·obtain ⟨R1, hR1⟩ : ∃ R1, R1 = 40 :: R := ⟨_, rfl⟩
   have hz := HZ.out
   rw [if_pos hmp] at hz
   have g1 : (⟨#[40]⟩ ++ ⟨R.toArray⟩ : ByteArray) = ⟨R1.toArray⟩ := by rw [hR1]; exact cat_pr [40] R
   have g2 : (⟨R1.toArray⟩ ++ ⟨#[41]⟩ : ByteArray) = ⟨Z.toArray⟩ := by rw [hz, hR1]; exact cat_pr (40 :: R) [41]
   have n1 : ¬ 9223372036854775807 < 1 + R.length := by have := HRL.out; omega
   have n2 : ¬ 9223372036854775807 < R1.length + 1 := by have := HRL.out; rw [hR1, List.length_cons]; omega
   clear hz hR1
   go_wp2_with fail
   go_ret
   exact ⟨rfl, hfb⟩
  ·have hz := HZ.out
   rw [if_neg hmp] at hz
   go_wp2_with fail
   go_ret
   first | exact ⟨rfl, hfb⟩ | exact ⟨by rw [hz]; rfl, hfb⟩
theorem operF_two {es : List (OpK × OpV)} {way : Int} {t : Tm} {p : OpR} (h : operF es way t = some p) (h2 : p.side = 2) : p.pri = (tsides es 2 t.s).1 ∧ p.left = decide ((tsides es 2 t.s).2.1 = (tsides es 2 t.s).1) ∧ p.right = decide ((tsides es 2 t.s).2.2 = (tsides es 2 t.s).1) := by
 unfold operF at h
 split at h
 ·cases h
 ·split at h
  ·split at h
   ·injection h with h; subst h; cases h2
   ·split at h
    ·injection h with h; subst h; cases h2
    ·cases h
  ·split at h
   ·split at h
    ·injection h with h; subst h; exact ⟨rfl, rfl, rfl⟩
    ·cases h
   ·cases h
set_option maxHeartbeats 8000000 in
theorem pput_op2 {es : List (OpK × OpV)} {way : Int} {n : Nat} (hC : PPutC es way n) {u : World} {rt : Nat} {L : List DefT} {x : TV} {t : Tm} {most : Int} (I : PutIn es way n u rt L x t most) (hk : t.k = 4) (hc : consT t = false) (hncu : ¬ (way ≠ 2 ∧ t.s = [123, 125] ∧ t.args.length = 1)) (o : OpR) (ho : operF es way t = some o) (hsd : o.side = 2) : PutOk es way u rt x t most := by
 obtain ⟨hn, hsz, hw, hx, hP, h0, h1⟩ := I
 unfold PutOk
 obtain ⟨k1, k2, k3, k4, k5, -⟩ := hx.open
 obtain ⟨W, bp, Z, hW, hbp, hZ, hgl, hbW, hp0, hx0, hS, hfit, hnm⟩ := pen_pre most hw hx hP
 rw [← hZ]
 have HS := Lib.hid hS
 unfold PenS at HS
 have hw0 := Below.refl W.heap.size W
 clear hS
 obtain ⟨hco, hso, hna⟩ := pen_four HS.out hnm
 have HCO := Lib.hid hco
 have HSO := Lib.hid hso
 have HNA := Lib.hid hna
 clear hco hso hna
 obtain ⟨on, -, opos⟩ := operF_some ho
 have hl1 := (operF_len ho).2 hsd
 have ht0 : ∀ i, i < 2 → (t.args.getD i noTm).size ≤ n := fun i hi => by have := arg_lt (t := t) (i := i) (by omega); omega
 have ht1 : ∀ i, i < 2 → (t.args.getD i noTm).size ≤ 20000 := fun i hi => by have := arg_lt (t := t) (i := i) (by omega); omega
 obtain ⟨N, hN⟩ : ∃ N, N = textF way x.s := ⟨_, rfl⟩
 obtain ⟨O, hO9⟩ : ∃ O, O = operandF es way (wrT es way) (t.args.getD 0 noTm) o o.left := ⟨_, rfl⟩
 obtain ⟨O', hO8⟩ : ∃ O, O = operandF es way (wrT es way) (t.args.getD 1 noTm) o o.right := ⟨_, rfl⟩
 obtain ⟨R, hR9⟩ : ∃ R, R = operateF es way (wrT es way) o t.args := ⟨_, rfl⟩
 have hR : R = O ++ ((if x.s = [44] then [44] else 32 :: (N ++ [32])) ++ O') := by rw [hR9]; unfold operateF; rw [if_neg (by omega), if_neg (by omega), hO9, hO8, hN, on, k3]
 have hz : Z = if most < o.pri then 40 :: (R ++ [41]) else R := by rw [hZ, wr_4 hk]; unfold compF; rw [if_neg (by rw [hc]; decide), if_neg hncu, ho, hR9]
 have hzl : R.length ≤ Z.length := by
  rw [hz]
  split
  ·simp; omega
  ·exact Nat.le_refl _
 have HZ := Lib.hid hz
 have HRL : Hid (R.length ≤ 200000000) := Lib.hid (by omega)
 have HR := Lib.hid hR
 have HNL : Hid (N.length ≤ 5002) := Lib.hid (by rw [hN]; exact text_len way hnm)
 have HOL : Hid (O.length + O'.length ≤ R.length) := Lib.hid (by rw [hR]; simp only [List.length_append]; omega)
 obtain ⟨op1, op2, op3⟩ := operF_two ho hsd
 rw [k3] at op1 op2 op3
 obtain ⟨I1, hI1⟩ : ∃ I, I = (tsides es 2 x.s).1 := ⟨_, rfl⟩
 obtain ⟨I2, hI2⟩ : ∃ I, I = (tsides es 2 x.s).2.1 := ⟨_, rfl⟩
 obtain ⟨I3, hI3⟩ : ∃ I, I = (tsides es 2 x.s).2.2 := ⟨_, rfl⟩
 have HIN : Hid (∀ v, Below W.heap.size W v → Calls Tryz.prog 79 #[.pointer (some ⟨rt, 0, none⟩), .string ⟨x.s.toArray⟩] v fun e u' => e = .returned (.tuple #[.int .i64 I1, .int .i64 I2, .int .i64 I3]) ∧ Below W.heap.size W u') := Lib.hid fun v hv => by
  obtain ⟨-, -, h1, h2, h3⟩ := HS.out v hv
  rw [hI1, hI2, hI3]
  exact (h1.inf x.s).mono fun e u' h => ⟨h.1, hv.trans (h.2.mono hv.size)⟩
 obtain ⟨b, off, y, hA, hbw, hy, m0, m1, m2, m3⟩ := arg_in (hx.blw hbW) (i := 0) (by omega)
 obtain ⟨b', off', y', hA', hbw', hy', r0, r1, r2, r3⟩ := arg_in (hx.blw hbW) (i := 1) (by omega)
 obtain ⟨rfl, rfl⟩ : b = b' ∧ off = off' := by rw [hA] at hA'; simpa using hA'
 rw [Nat.zero_mul, Nat.add_zero] at m0 m1 m2 m3
 rw [Nat.one_mul] at r0 r1 r2 r3
 have hbW2 : b < W.heap.size := Nat.lt_of_lt_of_le hbw hbW.size
 have HSE : Hid (∀ v, Below W.heap.size W v → v.cell? ⟨bp, 0, none⟩ = some (.int .i64 way) ∧ v.cell? ⟨bp, 1, none⟩ = some (.pointer (some ⟨rt, 0, none⟩)) ∧ v.cell? ⟨bp + 1, 2, none⟩ = some (.string ⟨x.s.toArray⟩) ∧ v.cell? ⟨bp + 1, 3, none⟩ = some (.slice x.A x.len x.cap) ∧ v.cell? ⟨b, off, none⟩ = some (.int .i64 y.k) ∧ v.cell? ⟨b, off + 1, none⟩ = some (.int .i64 y.n) ∧ v.cell? ⟨b, off + 2, none⟩ = some (.string ⟨y.s.toArray⟩) ∧ v.cell? ⟨b, off + 3, none⟩ = some (.slice y.A y.len y.cap) ∧ v.cell? ⟨b, off + 4, none⟩ = some (.int .i64 y'.k) ∧ v.cell? ⟨b, off + 4 + 1, none⟩ = some (.int .i64 y'.n) ∧ v.cell? ⟨b, off + 4 + 2, none⟩ = some (.string ⟨y'.s.toArray⟩) ∧ v.cell? ⟨b, off + 4 + 3, none⟩ = some (.slice y'.A y'.len y'.cap)) := Lib.hid fun v hv => by
  obtain ⟨⟨a0, a1⟩, ⟨c0, c1, c2, c3⟩, -⟩ := HS.out v hv
  exact ⟨a0, a1, c2, c3, (hv.cell (p := ⟨b, off, none⟩) hbW2).trans m0, (hv.cell (p := ⟨b, off + 1, none⟩) hbW2).trans m1, (hv.cell (p := ⟨b, off + 2, none⟩) hbW2).trans m2, (hv.cell (p := ⟨b, off + 3, none⟩) hbW2).trans m3, (hv.cell (p := ⟨b, off + 4, none⟩) hbW2).trans r0, (hv.cell (p := ⟨b, off + 4 + 1, none⟩) hbW2).trans r1, (hv.cell (p := ⟨b, off + 4 + 2, none⟩) hbW2).trans r2, (hv.cell (p := ⟨b, off + 4 + 3, none⟩) hbW2).trans r3⟩
 obtain ⟨sl, hsl⟩ : ∃ q, q = o.left := ⟨_, rfl⟩
 obtain ⟨sr, hsr⟩ : ∃ q, q = o.right := ⟨_, rfl⟩
 obtain ⟨pri, hpri⟩ : ∃ p, p = o.pri := ⟨_, rfl⟩
 have bl : (I2 == pri) = sl := by rw [hsl, op2, hpri, op1, hI2]; exact Bool.eq_iff_iff.2 (by simp)
 have br : (I3 == pri) = sr := by rw [hsr, op3, hpri, op1, hI3]; exact Bool.eq_iff_iff.2 (by simp)
 have HPO : Hid (∀ v, Below W.heap.size W v → Calls Tryz.prog 78 #[penV way rt, tvV y, .string ⟨x.s.toArray⟩, .int .i64 pri, .bool sl] v fun e u' => e = .returned (.string ⟨O.toArray⟩) ∧ Below W.heap.size W u') := Lib.hid fun v hv => by
  obtain ⟨-, -, h1, h2, h3⟩ := HS.out v hv
  rw [hO9, hpri, ← k3, ← on, hsl]
  exact (poperand_any hC v rt L y _ (ht0 0 (by omega)) (ht1 0 (by omega)) (hw.arg (by omega)) ((((hy.up hbW.size).blw hv)).up hv.size) h1 o o.left).mono fun e u' h => ⟨h.1, hv.trans (h.2.mono hv.size)⟩
 have HPP : Hid (∀ v, Below W.heap.size W v → Calls Tryz.prog 78 #[penV way rt, tvV y', .string ⟨x.s.toArray⟩, .int .i64 pri, .bool sr] v fun e u' => e = .returned (.string ⟨O'.toArray⟩) ∧ Below W.heap.size W u') := Lib.hid fun v hv => by
  obtain ⟨-, -, h1, h2, h3⟩ := HS.out v hv
  rw [hO8, hpri, ← k3, ← on, hsr]
  exact (poperand_any hC v rt L y' _ (ht0 1 (by omega)) (ht1 1 (by omega)) (hw.arg (by omega)) ((((hy'.up hbW.size).blw hv)).up hv.size) h1 o o.right).mono fun e u' h => ⟨h.1, hv.trans (h.2.mono hv.size)⟩
 rw [hc] at HCO
 rw [ho] at HSO
 rw [← hN] at HNA
 simp only [opPair] at HSO
 rw [hsd, ← hpri] at HSO
 rw [← hpri] at HZ
 have hx1 : (x.len : Int) = 2 := by rw [← k4, hl1]; rfl
 have c3 : ((x.len : Int) == 1) = false := by rw [hx1]; rfl
 have hl0 : (1 : Int) < (x.len : Int) := by rw [hx1]; decide
 have hl9 : 0 < x.len := by omega
 have hl8 : 1 < x.len := by omega
 have HU := Lib.hid hbW
 rw [tvV_lit] at HPO HPP
 rw [hA] at HS HSE HCO HSO
 rw [k1] at hk
 have b1 : (x.k == 1) = false := by rw [hk]; rfl
 have b2 : (x.k == 2) = false := by rw [hk]; rfl
 have b3 : (x.k == 3) = false := by rw [hk]; rfl
 clear hk hC hn hsz hw hx hP h0 h1 k1 k2 k3 k4 k5 hZ hp0 hx0 hbW hgl hc hncu ho hsd on opos hl1 ht0 ht1 hN hO9 hO8 hR9 hR hz hzl hA hA' hbw hbw' hy hy' m0 m1 m2 m3 r0 r1 r2 r3 hbW2 hpri op1 op2 op3 hI1 hI2 hI3 hsl hsr hx1
 rw [tvV_lit]
 go_enter Tryz.func37, Tryz.ntmps37
 go_upto_region 1 with fail
 rw [← hW, ← hbp]
 clear hW hbp
 obtain ⟨⟨p0, p1⟩, ⟨y0, y1, y2, y3⟩, -, -, hbe⟩ := HS.out W hw0
 go_wp2_with fail
 refine (HCO.out W hw0).mono ?_
 rintro e w1 ⟨rfl, hb1⟩
 have HB1 := Lib.hid hb1
 clear y0 y1 y2 y3 p0 p1 hbe
 obtain ⟨⟨p0, p1⟩, ⟨y0, y1, y2, y3⟩, -, -, hbe⟩ := HS.out w1 hb1
 clear hb1
 by_cases hway : way = 2
 case' pos =>
  have c1 : (way != 2) = false := by rw [hway]; rfl
 case' neg =>
  have c1 : (way != 2) = true := bne_iff_ne.2 hway
  by_cases hcu : x.s = [123, 125]
  case' pos =>
   have c2 : (x.s == [123, 125]) = true := by rw [hcu]; rfl
  case' neg =>
   have c2 : (x.s == [123, 125]) = false := beq_eq_false_iff_ne.2 hcu
  all_goals
   clear hcu
 all_goals
  clear hway
  go_wp2_with fail
  refine (HSO.out w1 HB1.out).mono ?_
  rintro e w2 ⟨rfl, hb2⟩
  clear y0 y1 y2 y3 p0 p1 hbe
  obtain ⟨⟨p0, p1⟩, ⟨y0, y1, y2, y3⟩, -, -, hbe⟩ := HS.out w2 hb2
  go_wp2_with fail
  refine (HIN.out w2 hb2).mono ?_
  rintro e w3 ⟨rfl, hb3⟩
  clear y0 y1 y2 y3 p0 p1 hbe hb2
  obtain ⟨⟨p0, p1⟩, ⟨y0, y1, y2, y3⟩, -, -, hbe⟩ := HS.out w3 hb3
  obtain ⟨-, -, -, -, m0, m1, m2, m3, r0, r1, r2, r3⟩ := HSE.out w3 hb3
  go_wp2_with fail
  have hbd := hb3.drew
  go_region_held3 (fun v => v.cell? ⟨bp, 0, none⟩ = some (.int .i64 way) ∧ v.cell? ⟨bp, 1, none⟩ = some (.pointer (some ⟨rt, 0, none⟩)) ∧ v.cell? ⟨bp + 1, 2, none⟩ = some (.string ⟨x.s.toArray⟩) ∧ v.cell? ⟨bp + 1, 3, none⟩ = some (.slice (some ⟨b, off, none⟩) x.len x.cap) ∧ v.cell? ⟨b, off, none⟩ = some (.int .i64 y.k) ∧ v.cell? ⟨b, off + 1, none⟩ = some (.int .i64 y.n) ∧ v.cell? ⟨b, off + 2, none⟩ = some (.string ⟨y.s.toArray⟩) ∧ v.cell? ⟨b, off + 3, none⟩ = some (.slice y.A y.len y.cap) ∧ v.cell? ⟨b, off + 4, none⟩ = some (.int .i64 y'.k) ∧ v.cell? ⟨b, off + 4 + 1, none⟩ = some (.int .i64 y'.n) ∧ v.cell? ⟨b, off + 4 + 2, none⟩ = some (.string ⟨y'.s.toArray⟩) ∧ v.cell? ⟨b, off + 4 + 3, none⟩ = some (.slice y'.A y'.len y'.cap))
   (first | (with_reducible exact HSE.out _ (by assumption)))
   (first | (go_at_call 78; with_reducible refine (HPO.out _ (by assumption)).mono ?_; rintro e w4 ⟨rfl, hb4⟩))
  clear y0 y1 y2 y3 p0 p1 hbe m0 m1 m2 m3 r0 r1 r2 r3 hbd hb3
  obtain ⟨⟨p0, p1⟩, ⟨y0, y1, y2, y3⟩, -, -, hbe⟩ := HS.out w4 hb4
  obtain ⟨-, -, -, -, m0, m1, m2, m3, r0, r1, r2, r3⟩ := HSE.out w4 hb4
  go_wp2_with fail
  have hbd := hb4.drew
  go_region_held3 (fun v => v.cell? ⟨bp, 0, none⟩ = some (.int .i64 way) ∧ v.cell? ⟨bp, 1, none⟩ = some (.pointer (some ⟨rt, 0, none⟩)) ∧ v.cell? ⟨bp + 1, 2, none⟩ = some (.string ⟨x.s.toArray⟩) ∧ v.cell? ⟨bp + 1, 3, none⟩ = some (.slice (some ⟨b, off, none⟩) x.len x.cap) ∧ v.cell? ⟨b, off, none⟩ = some (.int .i64 y.k) ∧ v.cell? ⟨b, off + 1, none⟩ = some (.int .i64 y.n) ∧ v.cell? ⟨b, off + 2, none⟩ = some (.string ⟨y.s.toArray⟩) ∧ v.cell? ⟨b, off + 3, none⟩ = some (.slice y.A y.len y.cap) ∧ v.cell? ⟨b, off + 4, none⟩ = some (.int .i64 y'.k) ∧ v.cell? ⟨b, off + 4 + 1, none⟩ = some (.int .i64 y'.n) ∧ v.cell? ⟨b, off + 4 + 2, none⟩ = some (.string ⟨y'.s.toArray⟩) ∧ v.cell? ⟨b, off + 4 + 3, none⟩ = some (.slice y'.A y'.len y'.cap))
   (first | (with_reducible exact HSE.out _ (by assumption)))
   (first | (go_at_call 78; with_reducible refine (HPP.out _ (by assumption)).mono ?_; rintro e w5 ⟨rfl, hb5⟩))
  clear y0 y1 y2 y3 p0 p1 hbe m0 m1 m2 m3 r0 r1 r2 r3 hbd hb4
  obtain ⟨⟨p0, p1⟩, ⟨y0, y1, y2, y3⟩, -, -, hbe⟩ := HS.out w5 hb5
  obtain ⟨A1, hA1⟩ : ∃ Q, Q = O ++ [32] := ⟨_, rfl⟩
  obtain ⟨A2, hA2⟩ : ∃ Q, Q = A1 ++ N := ⟨_, rfl⟩
  obtain ⟨A3, hA3⟩ : ∃ Q, Q = A2 ++ [32] := ⟨_, rfl⟩
  obtain ⟨A4, hA4⟩ : ∃ Q, Q = A3 ++ O' := ⟨_, rfl⟩
  have g1 : (⟨O.toArray⟩ ++ ⟨#[32]⟩ : ByteArray) = ⟨A1.toArray⟩ := by rw [hA1]; exact cat_pr O [32]
  have g2 : (⟨A1.toArray⟩ ++ ⟨N.toArray⟩ : ByteArray) = ⟨A2.toArray⟩ := by rw [hA2]; exact cat_pr A1 N
  have g3 : (⟨A2.toArray⟩ ++ ⟨#[32]⟩ : ByteArray) = ⟨A3.toArray⟩ := by rw [hA3]; exact cat_pr A2 [32]
  have g4 : (⟨A3.toArray⟩ ++ ⟨O'.toArray⟩ : ByteArray) = ⟨A4.toArray⟩ := by rw [hA4]; exact cat_pr A3 O'
  have l0 := HNL.out
  have l1 := HOL.out
  have l2 := HRL.out
  have q1 : A1.length = O.length + 1 := by rw [hA1]; simp
  have q2 : A2.length = A1.length + N.length := by rw [hA2, List.length_append]
  have q3 : A3.length = A2.length + 1 := by rw [hA3]; simp
  have n1 : ¬ 9223372036854775807 < O.length + 1 := by omega
  have n2 : ¬ 9223372036854775807 < A1.length + N.length := by omega
  have n3 : ¬ 9223372036854775807 < A2.length + 1 := by omega
  have n4 : ¬ 9223372036854775807 < A3.length + O'.length := by omega
  have hR4 : x.s ≠ [44] → R = A4 := fun h => by rw [HR.out, if_neg h, hA4, hA3, hA2, hA1]; simp
  have HR4 := Lib.hid hR4
  have hR5 : x.s = [44] → R = (O ++ [44]) ++ O' := fun h => by rw [HR.out, if_pos h]; simp
  have HR5 := Lib.hid hR5
  clear hR4 hR5 hA1 hA2 hA3 hA4 q1 q2 q3 l0 l1 l2
  by_cases hcm : x.s = [44]
  case' pos =>
   have c9 : (x.s == [44]) = true := by rw [hcm]; rfl
   obtain ⟨B1, hB1⟩ : ∃ Q, Q = O ++ [44] := ⟨_, rfl⟩
   have g5 : (⟨O.toArray⟩ ++ ⟨#[44]⟩ : ByteArray) = ⟨B1.toArray⟩ := by rw [hB1]; exact cat_pr O [44]
   have g6 : (⟨B1.toArray⟩ ++ ⟨O'.toArray⟩ : ByteArray) = ⟨R.toArray⟩ := by rw [HR5.out hcm, hB1]; exact cat_pr (O ++ [44]) O'
   have n6 : ¬ 9223372036854775807 < B1.length + O'.length := by have := HOL.out; have := HRL.out; rw [hB1, List.length_append, List.length_singleton]; omega
   clear hB1
  case' neg =>
   have c9 : (x.s == [44]) = false := beq_eq_false_iff_ne.2 hcm
   have e4 := HR4.out hcm
   subst e4
  all_goals
   clear hcm
   go_wp2_with fail
   refine (HNA.out w5 hb5).mono ?_
   rintro e w6 ⟨rfl, hb6⟩
   clear y0 y1 y2 y3 p0 p1 hbe hb5
   obtain ⟨⟨p0, p1⟩, ⟨y0, y1, y2, y3⟩, -, -, hbe⟩ := HS.out w6 hb6
   by_cases hmp : most < pri
   ·obtain ⟨R1, hR1⟩ : ∃ R1, R1 = 40 :: R := ⟨_, rfl⟩
    have hz := HZ.out
    rw [if_pos hmp] at hz
    have g8 : (⟨#[40]⟩ ++ ⟨R.toArray⟩ : ByteArray) = ⟨R1.toArray⟩ := by rw [hR1]; exact cat_pr [40] R
    have g9 : (⟨R1.toArray⟩ ++ ⟨#[41]⟩ : ByteArray) = ⟨Z.toArray⟩ := by rw [hz, hR1]; exact cat_pr (40 :: R) [41]
    have n8 : ¬ 9223372036854775807 < 1 + R.length := by have := HRL.out; omega
    have n9 : ¬ 9223372036854775807 < R1.length + 1 := by have := HRL.out; rw [hR1, List.length_cons]; omega
    clear hz hR1
    go_wp2_with fail
    go_ret
    exact ⟨rfl, hbe⟩
   ·have hz := HZ.out
    rw [if_neg hmp] at hz
    go_wp2_with fail
    go_ret
    first | exact ⟨rfl, hbe⟩ | exact ⟨by rw [hz]; rfl, hbe⟩
theorem pput_all (es : List (OpK × OpV)) (way : Int) : ∀ n, PPutC es way n
 | 0 => fun u rt L x t most hn _ _ _ _ _ _ => by have := size_pos t; omega
 | n + 1 => fun u rt L x t most hn hsz hw hx hP h0 h1 => by
  have hC := pput_all es way n
  have I : PutIn es way n u rt L x t most := ⟨hn, hsz, hw, hx, hP, h0, h1⟩
  rcases hw.kind with k | k | k | k
  ·exact pput_1 I k
  ·exact pput_2 I k
  ·exact pput_3 I k
  ·cases hc : consT t with
   | true => exact pput_cons hC I k hc
   | false =>
    by_cases hcu : way ≠ 2 ∧ t.s = [123, 125] ∧ t.args.length = 1
    ·exact pput_curl hC I k hc hcu.1 hcu.2.1 hcu.2.2
    ·cases ho : operF es way t with
     | none => exact pput_none hC I k hc hcu ho
     | some o =>
      rcases (operF_some ho).2.1 with s | s | s
      ·exact pput_op1 hC I k hc hcu o ho s
      ·exact pput_op2 hC I k hc hcu o ho s
      ·exact pput_op3 hC I k hc hcu o ho s
theorem may_is (t : Tm) : t.may = (mayP t.k t.n t.s t.args.length && Tm.mays t.args) := by
 obtain ⟨k, n, s, l⟩ := t
 rw [Tm.may]
 rfl
theorem mays_nil {l : List Tm} (h : l.length = 0) : Tm.mays l = true := by
 rw [List.length_eq_zero_iff.1 h]
 rfl
theorem mays_take (l : List Tm) (k : Nat) (h : k < l.length) : Tm.mays (l.take (k + 1)) = (Tm.mays (l.take k) && (l.getD k noTm).may) := by
 have : ∀ (l : List Tm) (k : Nat), k < l.length → Tm.mays (l.take (k + 1)) = (Tm.mays (l.take k) && (l.getD k noTm).may) := by
  intro l
  induction l with
  | nil => intro k h; simp at h
  | cons a r ih =>
   intro k h
   cases k with
   | zero => simp [Tm.mays]
   | succ k =>
    have := ih k (by simpa using h)
    rw [List.take_succ_cons, Tm.mays, List.take_succ_cons, Tm.mays, List.getD_cons_succ, this, Bool.and_assoc]
 exact this l k h
theorem mays_false {l : List Tm} {k : Nat} (h : k < l.length) (hm : (l.getD k noTm).may = false) : Tm.mays l = false := by
 have : ∀ (l : List Tm) (k : Nat), k < l.length → (l.getD k noTm).may = false → Tm.mays l = false := by
  intro l
  induction l with
  | nil => intro k h; simp at h
  | cons a r ih =>
   intro k h hm
   cases k with
   | zero =>
    rw [Tm.mays]
    have : a.may = false := by simpa using hm
    rw [this]
    rfl
   | succ k =>
    rw [List.getD_cons_succ] at hm
    rw [Tm.mays, ih k (by simpa using h) hm, Bool.and_false]
 exact this l k h hm
theorem beq_len (n : Nat) : ((n : Int) == 0) = decide (n = 0) := by
 by_cases h : n = 0
 ·subst h; rfl
 ·rw [decide_eq_false h, beq_eq_false_iff_ne]; omega
def RMy (n : Nat) : Prop := ∀ (t : Tm) (u : World) (x : TV), t.size ≤ n → t.size ≤ 1000000000 → TermAt u u.heap.size x t →
 Calls Tryz.prog 69 #[tvV x] u fun e u' => e = .returned (.bool t.may) ∧ Below u.heap.size u u'
set_option maxHeartbeats 8000000 in
theorem rmy_step {n : Nat} (hC : RMy n) : RMy (n + 1) := by
 intro t u x hn hsz hx
 obtain ⟨k1, k2, k3, k4, k5, -⟩ := hx.open
 have hsa := size_args t
 have hsl := sizes_len t.args
 obtain ⟨W, hW⟩ : ∃ W, W = u.alloc (.cells #[.int .i64 x.k, .int .i64 x.n, .string ⟨x.s.toArray⟩, .slice x.A x.len x.cap] 28) := ⟨_, rfl⟩
 obtain ⟨bx, hbx⟩ : ∃ b, b = u.heap.size := ⟨_, rfl⟩
 have hbW : Below u.heap.size u W := by rw [hW]; exact (Below.refl _ _).alloc (Nat.le_refl _) _
 have hx0 : W.heap[bx]? = some (.cells #[.int .i64 x.k, .int .i64 x.n, .string ⟨x.s.toArray⟩, .slice x.A x.len x.cap] 28 (0, 0)) := by rw [hW, hbx]; exact heap_alloc_new _ _
 obtain ⟨R, hR⟩ : ∃ R, R = t.may := ⟨_, rfl⟩
 rw [← hR]
 have HR : Hid (R = (mayP x.k x.n x.s x.len && Tm.mays t.args)) := Lib.hid (by rw [hR, may_is, k1, k2, k3, k4])
 have HC := Lib.hid hC
 have HX := Lib.hid (hx.blw hbW)
 have HB := Lib.hid (And.intro hbW hbx)
 have HSZ := Lib.hid (And.intro hn (And.intro hsz (And.intro hsa (And.intro hsl k4))))
 have hss : (⟨x.s.toArray⟩ : ByteArray).size = x.s.length := by simp [ByteArray.size]
 obtain ⟨f0, f1, f2, f3, -⟩ := four_at hx0
 clear hC hn hsz hx k1 k2 k3 k4 k5 hsa hsl hbW hx0 hR
 rw [tvV_lit]
 have hleaf : ∀ q : Bool, mayP x.k x.n x.s x.len = (q && decide (x.len = 0)) → R = (q && ((x.len : Int) == 0)) := fun q h => by
  rw [HR.out, h, beq_len]
  by_cases h0 : x.len = 0
  ·rw [mays_nil (by rw [HSZ.out.2.2.2.2, h0]), Bool.and_true]
  ·simp [h0]
 have HLF := Lib.hid hleaf
 clear hleaf
 have hem : x.s.isEmpty = decide (x.s = []) := by cases x.s <;> rfl
 have HEM := Lib.hid hem
 clear hem
 by_cases e1 : x.k = 1
 ·have b1 : (x.k == 1) = true := by rw [e1]; rfl
  have hr := HLF.out (decide (0 ≤ x.n) && decide (x.s = [])) (by unfold mayP; rw [if_pos e1]; simp only [Bool.decide_and, Bool.and_assoc])
  have HRR := Lib.hid hr
  clear e1 hr
  go_enter Tryz.func69, Tryz.ntmps69
  go_upto_region 1 with fail
  rw [← hW, ← hbx]
  clear hW hbx
  go_wp2_with fail
  all_goals
   go_ret
   refine ⟨?_, HB.out.1⟩
   rw [HRR.out]
   refine congrArg Ending.returned (congrArg Value.bool ?_)
   first | (simp [*]; done) | (simp_all; done) | (simp_all; intros; omega)
 have n1 : (x.k == 1) = false := by simpa using e1
 by_cases e2 : x.k = 2
 ·have b1 : (x.k == 2) = true := by rw [e2]; rfl
  have hr := HLF.out (decide (x.s = [])) (by unfold mayP; rw [if_neg e1, if_pos e2]; simp only [Bool.decide_and])
  have HRR := Lib.hid hr
  clear e1 e2 hr
  go_enter Tryz.func69, Tryz.ntmps69
  go_upto_region 1 with fail
  rw [← hW, ← hbx]
  clear hW hbx
  go_wp2_with fail
  all_goals
   go_ret
   refine ⟨?_, HB.out.1⟩
   rw [HRR.out]
   refine congrArg Ending.returned (congrArg Value.bool ?_)
   first | (simp [*]; done) | (simp_all; done) | (simp_all; intros; omega)
 have n2 : (x.k == 2) = false := by simpa using e2
 by_cases e3 : x.k = 3
 ·have b1 : (x.k == 3) = true := by rw [e3]; rfl
  have hr := HLF.out (decide (x.n = 0) && decide (x.s.length ≤ 1000)) (by unfold mayP; rw [if_neg e1, if_neg e2, if_pos e3]; simp only [Bool.decide_and, Bool.and_assoc])
  have HRR := Lib.hid hr
  clear e1 e2 e3 hr
  go_enter Tryz.func69, Tryz.ntmps69
  go_upto_region 1 with fail
  rw [← hW, ← hbx]
  clear hW hbx
  go_wp2_with fail
  all_goals
   go_ret
   refine ⟨?_, HB.out.1⟩
   rw [HRR.out]
   refine congrArg Ending.returned (congrArg Value.bool ?_)
   first | (simp [*]; done) | (simp_all; done) | (simp_all; intros; omega)
 have n3 : (x.k == 3) = false := by simpa using e3
 by_cases e4 : x.k = 4
 case neg =>
  have n4 : (x.k == 4) = false := by simpa using e4
  have hr : R = false := by rw [HR.out]; unfold mayP; rw [if_neg e1, if_neg e2, if_neg e3, if_neg e4]; rfl
  clear e1 e2 e3 e4
  go_enter Tryz.func69, Tryz.ntmps69
  go_upto_region 1 with fail
  rw [← hW, ← hbx]
  clear hW hbx
  go_wp2_with fail
  go_ret
  exact ⟨by first | rfl | (rw [hr]; rfl), HB.out.1⟩
 have b1 : (x.k == 4) = true := by rw [e4]; rfl
 have HR4 : Hid (R = (decide (x.n = 0 ∧ x.s.length ≤ 1000 ∧ 1 ≤ x.len ∧ x.len ≤ 255) && Tm.mays t.args)) := Lib.hid (by rw [HR.out]; unfold mayP; rw [if_neg e1, if_neg e2, if_neg e3, if_pos e4])
 clear e1 e2 e3 e4
 by_cases g1 : x.n = 0
 case neg =>
  have hr : R = false := by rw [HR4.out, decide_eq_false (by omega), Bool.false_and]
  have c1 : (x.n != 0) = true := by simpa using g1
  clear g1
  go_enter Tryz.func69, Tryz.ntmps69
  go_upto_region 1 with fail
  rw [← hW, ← hbx]
  clear hW hbx
  go_wp2_with fail
  go_ret
  exact ⟨by first | rfl | (rw [hr]; rfl), HB.out.1⟩
 by_cases g2 : 1000 < x.s.length
 ·have c1 : (x.n != 0) = false := by simpa using g1
  have hr : R = false := by rw [HR4.out, decide_eq_false (by omega), Bool.false_and]
  have c2 : (1000 : Int) < (x.s.length : Int) := by omega
  clear g1 g2
  go_enter Tryz.func69, Tryz.ntmps69
  go_upto_region 1 with fail
  rw [← hW, ← hbx]
  clear hW hbx
  go_wp2_with fail
  go_ret
  exact ⟨by first | rfl | (rw [hr]; rfl), HB.out.1⟩
 by_cases g3 : x.len = 0
 ·have c1 : (x.n != 0) = false := by simpa using g1
  have hr : R = false := by rw [HR4.out, decide_eq_false (by omega), Bool.false_and]
  have c2 : ¬ (1000 : Int) < (x.s.length : Int) := by omega
  have c3 : ((x.len : Int) == 0) = true := by rw [g3]; rfl
  clear g1 g2 g3
  go_enter Tryz.func69, Tryz.ntmps69
  go_upto_region 1 with fail
  rw [← hW, ← hbx]
  clear hW hbx
  go_wp2_with fail
  go_ret
  exact ⟨by first | rfl | (rw [hr]; rfl), HB.out.1⟩
 by_cases g4 : 255 < x.len
 ·have c1 : (x.n != 0) = false := by simpa using g1
  have hr : R = false := by rw [HR4.out, decide_eq_false (by omega), Bool.false_and]
  have c2 : ¬ (1000 : Int) < (x.s.length : Int) := by omega
  have c3 : ((x.len : Int) == 0) = false := by rw [beq_eq_false_iff_ne]; omega
  have c4 : (255 : Int) < (x.len : Int) := by omega
  clear g1 g2 g3 g4
  go_enter Tryz.func69, Tryz.ntmps69
  go_upto_region 1 with fail
  rw [← hW, ← hbx]
  clear hW hbx
  go_wp2_with fail
  go_ret
  exact ⟨by first | rfl | (rw [hr]; rfl), HB.out.1⟩
 have HRM : Hid (R = Tm.mays t.args) := Lib.hid (by rw [HR4.out, decide_eq_true ⟨g1, by omega, by omega, by omega⟩, Bool.true_and])
 have c1 : (x.n != 0) = false := by simpa using g1
 have c2 : ¬ (1000 : Int) < (x.s.length : Int) := by omega
 have c3 : ((x.len : Int) == 0) = false := by rw [beq_eq_false_iff_ne]; omega
 have c4 : ¬ (255 : Int) < (x.len : Int) := by omega
 clear g1 g2 g3 g4 HEM
 go_enter Tryz.func69, Tryz.ntmps69
 go_upto_region 1 with fail
 rw [← hW, ← hbx]
 clear hW hbx
 go_wp2_with fail
 clear f0 f1 f2 f3 c1 c2 c3 c4
 go_loopw [77] (fun i wr => ∃ k : Nat, k ≤ x.len ∧ i = .int .i64 k ∧ Hid (Below W.heap.size W wr ∧ Tm.mays (t.args.take k) = true)) (fun i _ => x.len - (intOf i).toNat)
 case atStart => exact ⟨0, Nat.zero_le _, rfl, Lib.hid ⟨Below.refl _ _, rfl⟩⟩
 case round =>
  obtain ⟨k, hk, rfl, HI⟩ := hrel
  by_cases hkl : k < x.len
  case neg =>
   have b9 : decide ((k : Int) < (x.len : Int)) = false := by simp; omega
   have hrr : R = true := by
    have hke : k = x.len := by omega
    have h1 := HI.out.2
    rw [hke, ← HSZ.out.2.2.2.2, List.take_length] at h1
    rw [HRM.out, h1]
   have HF := Lib.hid (HB.out.1.trans (HI.out.1.mono HB.out.1.size))
   go_wp2_with fail
   go_ret
   exact ⟨by rw [hrr]; rfl, HF.out⟩
  have b9 : decide ((k : Int) < (x.len : Int)) = true := by simp; omega
  have hk0 : (0 : Int) ≤ (k : Int) := by omega
  have hk1 : (k : Int) < (x.len : Int) := by omega
  have hka : k < t.args.length := by rw [HSZ.out.2.2.2.2]; exact hkl
  have hbu : Below u.heap.size u wr := HB.out.1.trans (HI.out.1.mono HB.out.1.size)
  obtain ⟨b, off, y, hA, hbB, hy, m0, m1, m2, m3⟩ := arg_in (HX.out.blw (HI.out.1.mono HB.out.1.size)) hka
  have hbw : b < wr.heap.size := by have := hbu.size; omega
  obtain ⟨V1, hV1⟩ : ∃ V1, V1 = wr.alloc (.cells #[.int .i64 y.k, .int .i64 y.n, .string ⟨y.s.toArray⟩, .slice y.A y.len y.cap] 28) := ⟨_, rfl⟩
  obtain ⟨b6, hb6⟩ : ∃ b6, b6 = wr.heap.size := ⟨_, rfl⟩
  have hbV1 : Below wr.heap.size wr V1 := by rw [hV1]; exact (Below.refl _ _).alloc (Nat.le_refl _) _
  have hy0 : V1.heap[b6]? = some (.cells #[.int .i64 y.k, .int .i64 y.n, .string ⟨y.s.toArray⟩, .slice y.A y.len y.cap] 28 (0, 0)) := by rw [hV1, hb6]; exact heap_alloc_new _ _
  have hcl := HC.out (t.args.getD k noTm) V1 y (by have := arg_lt hka; have := HSZ.out.1; omega) (by have := arg_lt hka; have := HSZ.out.2.1; omega) (((hy.up (by have := hbu.size; omega)).blw (B := wr.heap.size) hbV1).up hbV1.size)
  rw [tvV_lit] at hcl
  obtain ⟨Q, hQ⟩ : ∃ Q, Q = (t.args.getD k noTm).may := ⟨_, rfl⟩
  rw [← hQ] at hcl
  have HQT : Hid (Q = true → Tm.mays (t.args.take (k + 1)) = true) := Lib.hid fun e => by rw [mays_take _ _ hka, HI.out.2, ← hQ, e]; rfl
  have HQF : Hid (Q = false → R = false) := Lib.hid fun e => by rw [HRM.out]; exact mays_false hka (by rw [← hQ, e])
  have HCL := Lib.hid hcl
  have hw2 : IntKind.i64.wrap ((k : Int) + 1) = (k : Int) + 1 := IntWalk.i64_in _ (by have := HSZ.out; omega)
  have HB1 := Lib.hid (And.intro hbV1 (And.intro hbu hkl))
  have HY0 := Lib.hid hy0
  rw [hA] at *
  clear hcl hbV1 hbu hy0 hA hbB hy hka hQ
  go_upto_region 14 with fail
  rw [← hV1, ← hb6]
  clear hV1 hb6 m0 m1 m2 m3 hbw
  obtain ⟨y0, y1, y2, y3, -⟩ := four_at HY0.out
  go_wp2_with fail
  refine HCL.out.mono ?_
  rintro e V2 ⟨rfl, hb2⟩
  have HN := Lib.hid (HI.out.1.trans ((HB1.out.1.trans (hb2.mono HB1.out.1.size)).mono HI.out.1.size))
  clear hb2 y0 y1 y2 y3
  cases Q with
  | true =>
   have HM := Lib.hid (HQT.out rfl)
   go_wp2_with fail
   go_roundw
   case rel => exact ⟨k + 1, by have := HB1.out.2.2; omega, rfl, Lib.hid ⟨HN.out, HM.out⟩⟩
   case measure =>
    simp only [intOf]
    have := HB1.out.2.2
    omega
  | false =>
   have hrr := HQF.out rfl
   have HF := Lib.hid (HB.out.1.trans (HN.out.mono HB.out.1.size))
   go_wp2_with fail
   go_ret
   exact ⟨by rw [hrr]; rfl, HF.out⟩
theorem rmy_all : ∀ n, RMy n
 | 0 => fun t _ _ h _ _ => by have := size_pos t; omega
 | n + 1 => rmy_step (rmy_all n)
set_option maxHeartbeats 4000000 in
theorem rcheck_any (u : World) (x : TV) (t : Tm) (hx : TermAt u u.heap.size x t) (hsz : t.size ≤ 1000000000) :
    Calls Tryz.prog 36 #[tvV x] u fun e u' => e = .returned (.int .i64 (checkT t)) ∧ Below u.heap.size u u' := by
 obtain ⟨W, hW⟩ : ∃ W, W = u.alloc (.cells #[.int .i64 x.k, .int .i64 x.n, .string ⟨x.s.toArray⟩, .slice x.A x.len x.cap] 28) := ⟨_, rfl⟩
 obtain ⟨bx, hbx⟩ : ∃ b, b = u.heap.size := ⟨_, rfl⟩
 have hbW : Below u.heap.size u W := by rw [hW]; exact (Below.refl _ _).alloc (Nat.le_refl _) _
 have hx0 : W.heap[bx]? = some (.cells #[.int .i64 x.k, .int .i64 x.n, .string ⟨x.s.toArray⟩, .slice x.A x.len x.cap] 28 (0, 0)) := by rw [hW, hbx]; exact heap_alloc_new _ _
 have hxW := hx.later hbW
 obtain ⟨M, hM⟩ : ∃ M, M = t.may := ⟨_, rfl⟩
 obtain ⟨D, hD⟩ : ∃ D, D = t.deep := ⟨_, rfl⟩
 obtain ⟨Z, hZ⟩ : ∃ Z, Z = t.size := ⟨_, rfl⟩
 obtain ⟨R, hR⟩ : ∃ R, R = checkT t := ⟨_, rfl⟩
 rw [← hR]
 have HR : Hid (R = if M = false then 2 else if 2000 < D then 4 else if 20000 < Z then 3 else 0) := Lib.hid (by rw [hR, hM, hD, hZ]; rfl)
 have hm := rmy_all t.size t W x (Nat.le_refl _) hsz hxW
 rw [← hM, tvV_lit] at hm
 have HM := Lib.hid hm
 have HDP : Hid (∀ v, Below W.heap.size W v → Calls Tryz.prog 70 #[.agg #[.int .i64 x.k, .int .i64 x.n, .string ⟨x.s.toArray⟩, .slice x.A x.len x.cap]] v fun e v' => e = .returned (.int .i64 (D : Int)) ∧ Below W.heap.size W v') := Lib.hid fun v hv => by
  have := rdp_all t.size t v x (Nat.le_refl _) hsz (hxW.later hv)
  rw [← hD, tvV_lit] at this
  exact this.mono fun e v' ⟨h1, h2⟩ => ⟨h1, hv.trans (h2.mono hv.size)⟩
 have HSP : Hid (∀ v, Below W.heap.size W v → Calls Tryz.prog 71 #[.agg #[.int .i64 x.k, .int .i64 x.n, .string ⟨x.s.toArray⟩, .slice x.A x.len x.cap]] v fun e v' => e = .returned (.int .i64 (Z : Int)) ∧ Below W.heap.size W v') := Lib.hid fun v hv => by
  have := rsz_all t.size t v x (Nat.le_refl _) hsz (hxW.later hv)
  rw [← hZ, tvV_lit] at this
  exact this.mono fun e v' ⟨h1, h2⟩ => ⟨h1, hv.trans (h2.mono hv.size)⟩
 have HB := Lib.hid hbW
 have HX0 := Lib.hid hx0
 obtain ⟨f0, f1, f2, f3, -⟩ := four_at hx0
 clear hM hD hZ hR hm hbW hx0 hxW hx hsz
 rw [tvV_lit]
 go_enter Tryz.func36, Tryz.ntmps36
 go_upto_region 1 with fail
 rw [← hW, ← hbx]
 clear hW hbx
 go_wp2_with fail
 refine HM.out.mono ?_
 rintro e V ⟨rfl, hb⟩
 have HV := Lib.hid hb
 have hx1 := (hb.block bx (Array.getElem?_eq_some_iff.1 HX0.out).1).trans HX0.out
 clear hb f0 f1 f2 f3
 cases M with
 | false =>
  have hr : R = 2 := by rw [HR.out, if_pos rfl]
  clear hx1
  go_wp2_with fail
  go_ret
  exact ⟨by first | rfl | (rw [hr]; rfl), HB.out.trans (HV.out.mono HB.out.size)⟩
 | true =>
  obtain ⟨f0, f1, f2, f3, -⟩ := four_at hx1
  clear hx1
  go_wp2_with fail
  refine (HDP.out _ HV.out).mono ?_
  rintro e V2 ⟨rfl, hb⟩
  have HV2 := Lib.hid hb
  have hx1 := (hb.block bx (Array.getElem?_eq_some_iff.1 HX0.out).1).trans HX0.out
  clear hb f0 f1 f2 f3
  by_cases h2 : 2000 < D
  ·have hr : R = 4 := by rw [HR.out, if_neg (by decide), if_pos h2]
   have h3 : (2000 : Int) < (D : Int) := by omega
   clear hx1 h2
   go_wp2_with fail
   go_ret
   exact ⟨by first | rfl | (rw [hr]; rfl), HB.out.trans (HV2.out.mono HB.out.size)⟩
  ·have h3 : ¬ (2000 : Int) < (D : Int) := by omega
   obtain ⟨f0, f1, f2, f3, -⟩ := four_at hx1
   have HR2 : Hid (R = if 20000 < Z then 3 else 0) := Lib.hid (by rw [HR.out, if_neg (by decide), if_neg h2])
   clear hx1 h2
   go_wp2_with fail
   refine (HSP.out _ HV2.out).mono ?_
   rintro e V3 ⟨rfl, hb⟩
   have HV3 := Lib.hid hb
   clear hb f0 f1 f2 f3
   by_cases h4 : 20000 < Z
   ·have hr : R = 3 := by rw [HR2.out, if_pos h4]
    have h5 : (20000 : Int) < (Z : Int) := by omega
    clear h4
    go_wp2_with fail
    go_ret
    exact ⟨by first | rfl | (rw [hr]; rfl), HB.out.trans (HV3.out.mono HB.out.size)⟩
   ·have hr : R = 0 := by rw [HR2.out, if_neg h4]
    have h5 : ¬ (20000 : Int) < (Z : Int) := by omega
    clear h4
    go_wp2_with fail
    go_ret
    exact ⟨by first | rfl | (rw [hr]; rfl), HB.out.trans (HV3.out.mono HB.out.size)⟩
set_option maxHeartbeats 4000000 in
theorem rput7_any (u : World) (x : TV) (t : Tm) (rt : Nat) (L : List DefT) (es : List (OpK × OpV)) (way : Int) (hx : TermAt u u.heap.size x t) (hfit : t.fits = true) (hsz : t.size ≤ 1000000) (hT : RTab u rt L) (hA : Agree es L) (hL : L.length ≤ 1000) (hcu : mget es (1, [123, 125]) = none ∧ mget es (3, [123, 125]) = none) :
    Calls Tryz.prog 19 #[tvV x, .int .i64 way, .pointer (some ⟨rt, 0, none⟩)] u fun e u' => e = .returned (.tuple #[.string ⟨(putF es way t).1.toArray⟩, .int .i64 (putF es way t).2]) ∧ Below u.heap.size u u' := by
 obtain ⟨R, hR⟩ : ∃ R, R = putF es way t := ⟨_, rfl⟩
 rw [← hR]
 have HR := Lib.hid hR
 obtain ⟨W, hW⟩ : ∃ W, W = u.alloc (.cells #[.int .i64 x.k, .int .i64 x.n, .string ⟨x.s.toArray⟩, .slice x.A x.len x.cap] 28) := ⟨_, rfl⟩
 have hbW : Below u.heap.size u W := by rw [hW]; exact (Below.refl _ _).alloc (Nat.le_refl _) _
 have hx0 : W.heap[u.heap.size]? = some (.cells #[.int .i64 x.k, .int .i64 x.n, .string ⟨x.s.toArray⟩, .slice x.A x.len x.cap] 28 (0, 0)) := by rw [hW]; exact heap_alloc_new _ _
 obtain ⟨q, hq⟩ : ∃ q, q = u.heap.size := ⟨_, rfl⟩
 rw [← hq] at hx0
 have hqW : q < W.heap.size := (Array.getElem?_eq_some_iff.1 hx0).1
 have HX : Hid (TermAt W W.heap.size x t) := Lib.hid (hx.later hbW)
 have HB := Lib.hid hbW
 have HX0 := Lib.hid hx0
 have HFIT := Lib.hid (And.intro hfit hsz)
 have HTAB := Lib.hid (And.intro (hT.later hbW) (And.intro hA (And.intro hL hcu)))
 obtain ⟨f0, f1, f2, f3, -⟩ := four_at hx0
 obtain ⟨E, hE⟩ : ∃ E, E = checkT t := ⟨_, rfl⟩
 have hck := rcheck_any W x t HX.out (by omega)
 rw [← hE, tvV_lit] at hck
 have HCK := Lib.hid hck
 have HE := Lib.hid hE
 clear hR hx hfit hsz hT hA hL hcu hbW hx0 hck hE
 rw [tvV_lit]
 by_cases h0 : way < 0 ∨ 2 < way
 ·have hr : R = ([], 2) := by
   rw [HR.out]
   unfold putF
   rw [if_pos (by omega)]
  subst hr
  clear hqW
  rcases h0 with h1 | h2
  all_goals
   go_enter Tryz.func19, Tryz.ntmps19
   go_upto_region 1 with fail
   rw [← hW]
   clear hW hq
   go_wp2_with fail
   go_ret2
   exact ⟨rfl, HB.out⟩
 obtain ⟨h1, h2⟩ := not_or.1 h0
 clear h0
 by_cases hE0 : E = 0
 ·have hck : checkT t = 0 := by rw [← HE.out]; exact hE0
  have hr : R = (wrT es way t 1200, 0) := by
   rw [HR.out]
   unfold putF
   rw [if_neg (by omega), if_pos hck]
  obtain ⟨Z, hZ⟩ : ∃ Z, Z = wrT es way t 1200 := ⟨_, rfl⟩
  rw [← hZ] at hr
  have HZ := Lib.hid hZ
  have HCT := Lib.hid hck
  subst hr
  subst hE0
  have hb0 : ((0 : Int) != 0) = false := rfl
  clear hqW hZ hck
  have HW := Lib.hid (And.intro (Int.not_lt.1 h1) (Int.not_lt.1 h2))
  go_enter Tryz.func19, Tryz.ntmps19
  go_upto_region 1 with fail
  rw [← hW, ← hq]
  clear hW hq
  go_wp2_with fail
  refine HCK.out.mono ?_
  rintro e W1 ⟨rfl, hb1⟩
  have hx1 := HX.out.later hb1
  have hwf : WfT t := ⟨(check_ok HCT.out).1, HFIT.out.1⟩
  have hpu := pput_all es way t.size W1 rt L x t 1200 (Nat.le_refl _) (check_ok HCT.out).2.2 hwf hx1 ⟨HTAB.out.1.later hb1, HTAB.out.2.1, HTAB.out.2.2.1, HW.out, HTAB.out.2.2.2⟩ (by omega) (by omega)
  rw [← HZ.out, tvV_lit] at hpu
  have HPU := Lib.hid hpu
  have hy := (hb1.block q (Array.getElem?_eq_some_iff.1 HX0.out).1).trans HX0.out
  have HB1 := Lib.hid (HB.out.trans (hb1.mono HB.out.size))
  clear f0 f1 f2 f3 hx1 hwf hpu hb1
  obtain ⟨f0, f1, f2, f3, -⟩ := four_at hy
  clear hy
  go_wp2_with fail
  refine HPU.out.mono ?_
  rintro e W2 ⟨rfl, hb2⟩
  have HF := Lib.hid (HB1.out.trans (hb2.mono HB1.out.size))
  clear hb2
  go_wp2_with fail
  go_ret2
  exact ⟨rfl, HF.out⟩
 ·have hck : ¬ checkT t = 0 := by rw [← HE.out]; exact hE0
  have hr : R = ([], E) := by
   rw [HR.out]
   unfold putF
   rw [if_neg (by omega), if_neg hck, HE.out]
  subst hr
  have hb0 : (E != 0) = true := bne_iff_ne.2 hE0
  clear hqW hck hE0
  go_enter Tryz.func19, Tryz.ntmps19
  go_upto_region 1 with fail
  rw [← hW, ← hq]
  clear hW hq
  go_wp2_with fail
  refine HCK.out.mono ?_
  rintro e W1 ⟨rfl, hb1⟩
  have HB1 := Lib.hid (HB.out.trans (hb1.mono HB.out.size))
  clear hb1
  go_wp2_with fail
  go_ret2
  exact ⟨rfl, HB1.out⟩
theorem cell_one (w : World) (cs : Array Value) (t : TypeId) (i : Nat) (u : Value) (h : cs[i]? = some u) : (w.alloc (.cells cs t)).cell? ⟨w.heap.size, i, none⟩ = some u := by
 rw [cell_of_row _ _ i cs t (0, 0) (heap_alloc_new w _)]
 exact h
theorem RTab.stored {w : World} {B rt : Nat} {L L' : List DefT} {v : Value} (h : RTab w rt L) (hr : Row w B 95 3 encDef v L') (hB : rt < B) : RTab (w.setCell ⟨rt, 0, none⟩ v) rt L' := by
 obtain ⟨v0, hc, hf, _⟩ := h.ex
 exact ⟨v, World.cell?_setCell_same _ _ _ hc, by rw [World.frozen?_setCell]; exact hf, (hr.down hB).away _ fun k hk => by have := (hr.lt k hk).1; simp only; omega⟩
set_option maxHeartbeats 400000 in
theorem rOp_arg (w : World) (rt : Nat) (p t : Int) (n : List UInt8) (hn : n.length ≤ 9223372036854775807) (h : p < 0 ∨ 1200 < p ∨ t < 1 ∨ 7 < t ∨ 1000 < n.length) :
    Calls Tryz.prog 39 #[.pointer (some ⟨rt, 0, none⟩), .int .i64 p, .int .i64 t, .string ⟨n.toArray⟩] w fun e w' => e = .returned (.int .i64 2) ∧ w = w' := by
 have H := Lib.hid h
 clear h
 by_cases h1 : p < 0
 ·go_enter Tryz.func39, Tryz.ntmps39
  go_wp2
  go_ret
  exact ⟨rfl, rfl⟩
 by_cases h2 : 1200 < p
 ·have h1' : 0 ≤ p := by omega
  clear h1
  go_enter Tryz.func39, Tryz.ntmps39
  go_wp2
  go_ret
  exact ⟨rfl, rfl⟩
 have h1' : 0 ≤ p := by omega
 have h2' : p ≤ 1200 := by omega
 clear h1 h2
 by_cases h3 : t < 1
 ·go_enter Tryz.func39, Tryz.ntmps39
  go_wp2
  go_ret
  exact ⟨rfl, rfl⟩
 by_cases h4 : 7 < t
 ·have h3' : 1 ≤ t := by omega
  clear h3
  go_enter Tryz.func39, Tryz.ntmps39
  go_wp2
  go_ret
  exact ⟨rfl, rfl⟩
 have h3' : 1 ≤ t := by omega
 have h4' : t ≤ 7 := by omega
 clear h3 h4
 have h5 : 1000 < n.length := by have := H.out; omega
 clear H
 go_enter Tryz.func39, Tryz.ntmps39
 go_wp2
 go_ret
 exact ⟨rfl, rfl⟩
set_option maxHeartbeats 400000 in
theorem rOp_perm (w : World) (rt : Nat) (p t : Int) (n : List UInt8) (hn : n.length ≤ 1000) (h1 : 0 ≤ p) (h2 : p ≤ 1200) (h3 : 1 ≤ t) (h4 : t ≤ 7) (h : n = [44] ∨ n = [124] ∨ n = [91, 93] ∨ n = [123, 125]) :
    Calls Tryz.prog 39 #[.pointer (some ⟨rt, 0, none⟩), .int .i64 p, .int .i64 t, .string ⟨n.toArray⟩] w fun e w' => e = .returned (.int .i64 15) ∧ w = w' := by
 rcases h with rfl | rfl | rfl | rfl
 all_goals
  go_enter Tryz.func39, Tryz.ntmps39
  go_wp2
  go_ret
  exact ⟨rfl, rfl⟩
def confB (L : List DefT) (p s : Int) (n : List UInt8) : Bool := decide (0 < p ∧ ((s = 2 ∧ 0 < (rfind L n 3).1) ∨ (s = 3 ∧ 0 < (rfind L n 2).1)))
def fullB (L : List DefT) (p s : Int) (n : List UInt8) : Bool := decide (0 < p ∧ 256 ≤ L.length ∧ (rfind L n s).1 = 0)
def routS (L : List DefT) (s : Int) (n : List UInt8) : List DefT := L.filter fun d => !rHit n s d
theorem routS_snoc (L : List DefT) (s : Int) (n : List UInt8) (k : Nat) (h : k < L.length) : routS (L.take (k + 1)) s n = if rHit n s L[k] = true then routS (L.take k) s n else routS (L.take k) s n ++ [L[k]] := by
 unfold routS
 rw [List.take_succ_eq_append_getElem h, List.filter_append]
 generalize L[k] = x
 cases hx : rHit n s x <;> simp [hx]
set_option maxHeartbeats 8000000 in
theorem rOp_main (w : World) (rt : Nat) (L : List DefT) (h : RTab w rt L) (hpo : PriOk L) (hL : L.length ≤ 1000) (p t s : Int) (n : List UInt8) (hn : n.length ≤ 1000) (hp0 : 0 ≤ p) (hp1 : p ≤ 1200) (ht0 : 1 ≤ t) (ht1 : t ≤ 7)
    (h1 : n ≠ [44]) (h2 : n ≠ [124]) (h3 : n ≠ [91, 93]) (h4 : n ≠ [123, 125]) (hs : refSort t = s) (hs3 : s = 1 ∨ s = 2 ∨ s = 3) (E : Int) (O : List DefT)
    (hE : E = if confB L p s n = true then 15 else if fullB L p s n = true then 9 else 0) (hO : O = if confB L p s n = true ∨ fullB L p s n = true then L else if 0 < p then routS L s n ++ [(p, t, n)] else routS L s n) :
    Calls Tryz.prog 39 #[.pointer (some ⟨rt, 0, none⟩), .int .i64 p, .int .i64 t, .string ⟨n.toArray⟩] w fun e w' =>
     e = .returned (.int .i64 E) ∧ RTab w' rt O ∧ Fr (· = rt) w w' := by
 have e1 := beq_str n _ h1
 have e2 := beq_str n _ h2
 have e3 := beq_str n _ h3
 have e4 := beq_str n _ h4
 have H := Lib.hid h
 have HP := Lib.hid hpo
 have HS := Lib.hid hs
 have HS3 := Lib.hid hs3
 have hrt := h.lt
 have hfd := def_pri
 have hL1 : L.length ≤ 100000 := by omega
 have HE := Lib.hid hE
 have HO := Lib.hid hO
 clear h hpo hs hs3 h1 h2 h3 h4 hE hO
 go_enter Tryz.func39, Tryz.ntmps39
 go_upto_region 6 with (first | (go_at_call 80; refine (refSort_any _ _).mono ?_; rintro e w' ⟨rfl, rfl⟩; rw [HS.out]))
 clear e1 e2 e3 e4
 go_cut [71] from 10 (fun v wx => v = .bool (confB L p s n) ∧ Below w.heap.size w wx)
 case first =>
  obtain ⟨q1, q2⟩ := HP.out n 2
  obtain ⟨q3, q4⟩ := HP.out n 3
  by_cases hp : p = 0
  ·have hB : Hid (confB L p s n = false) := Lib.hid (by unfold confB; exact decide_eq_false (by omega))
   have hp' : ¬ 0 < p := by omega
   clear hp
   go_wp2_with fail
   go_meet
   exact ⟨by rw [hB.out], Below.refl _ _⟩
  ·have hp' : 0 < p := by omega
   clear hp
   rcases HS3.out with rfl | rfl | rfl
   ·have hB : Hid (confB L p 1 n = false) := Lib.hid (by unfold confB; exact decide_eq_false (by omega))
    go_wp2_with fail
    go_meet
    exact ⟨by rw [hB.out], Below.refl _ _⟩
   ·have HF := Lib.hid (find_any w rt L H.out n 3 hL1)
    by_cases hc : 0 < (rfind L n 3).1
    ·have hB : Hid (confB L p 2 n = true) := Lib.hid (by unfold confB; exact decide_eq_true ⟨hp', .inl ⟨rfl, hc⟩⟩)
     go_wp2_with fail
     refine HF.out.mono ?_
     rintro e w1 ⟨rfl, hb1⟩
     rw [enc_lit]
     go_wp2_with fail
     go_meet
     exact ⟨by rw [hB.out], hb1⟩
    ·have hB : Hid (confB L p 2 n = false) := Lib.hid (by unfold confB; exact decide_eq_false (by omega))
     go_wp2_with fail
     refine HF.out.mono ?_
     rintro e w1 ⟨rfl, hb1⟩
     rw [enc_lit]
     go_wp2_with fail
     go_meet
     exact ⟨by rw [hB.out, decide_eq_false (by omega)], hb1⟩
   ·have HF := Lib.hid (find_any w rt L H.out n 2 hL1)
    by_cases hc : 0 < (rfind L n 2).1
    ·have hB : Hid (confB L p 3 n = true) := Lib.hid (by unfold confB; exact decide_eq_true ⟨hp', .inr ⟨rfl, hc⟩⟩)
     go_wp2_with fail
     refine HF.out.mono ?_
     rintro e w1 ⟨rfl, hb1⟩
     rw [enc_lit]
     go_wp2_with fail
     go_meet
     exact ⟨by rw [hB.out], hb1⟩
    ·have hB : Hid (confB L p 3 n = false) := Lib.hid (by unfold confB; exact decide_eq_false (by omega))
     go_wp2_with fail
     refine HF.out.mono ?_
     rintro e w1 ⟨rfl, hb1⟩
     rw [enc_lit]
     go_wp2_with fail
     go_meet
     exact ⟨by rw [hB.out, decide_eq_false (by omega)], hb1⟩
 case rest =>
  obtain ⟨rfl, hb⟩ := hcut
  have HB1 := Lib.hid hb
  have H1 := Lib.hid (H.out.later hb)
  have hw1 := hb.size
  clear hb
  cases hC : confB L p s n
  case true =>
   have HC := Lib.hid hC
   clear hC
   go_wp2_with fail
   go_ret
   exact ⟨by rw [HE.out, HC.out]; rfl, by rw [HO.out, HC.out, if_pos (.inl rfl)]; exact H1.out, Fr.of_below _ HB1.out⟩
  case false =>
   have HC := Lib.hid hC
   clear hC
   obtain ⟨A, cap, hc, hf, hA⟩ := H1.out.open
   have HA := Lib.hid hA
   clear hA
   go_upto_region 8 with fail
   go_cut [89] from 10 (fun v wx => v = .bool (fullB L p s n) ∧ Below w.heap.size w wx)
   case first =>
    obtain ⟨q1, q2⟩ := HP.out n s
    by_cases hp : p = 0
    ·have hB : Hid (fullB L p s n = false) := Lib.hid (by unfold fullB; exact decide_eq_false (by omega))
     have hp' : ¬ 0 < p := by omega
     clear hp
     go_wp2_with fail
     go_meet
     exact ⟨by rw [hB.out], HB1.out⟩
    ·have hp' : 0 < p := by omega
     clear hp
     by_cases hq : 256 ≤ L.length
     ·have HF := Lib.hid (find_any wc rt L H1.out n s hL1)
      have hq' : 256 ≤ (L.length : Int) := by omega
      by_cases hcz : (rfind L n s).1 = 0
      ·have hB : Hid (fullB L p s n = true) := Lib.hid (by unfold fullB; exact decide_eq_true ⟨hp', hq, hcz⟩)
       go_wp2_with fail
       refine HF.out.mono ?_
       rintro e w1 ⟨rfl, hb1⟩
       rw [enc_lit]
       go_wp2_with fail
       go_meet
       exact ⟨by rw [hB.out], HB1.out.trans (hb1.mono HB1.out.size)⟩
      ·have hB : Hid (fullB L p s n = false) := Lib.hid (by unfold fullB; exact decide_eq_false (fun h => hcz h.2.2))
       go_wp2_with fail
       refine HF.out.mono ?_
       rintro e w1 ⟨rfl, hb1⟩
       rw [enc_lit]
       go_wp2_with fail
       go_meet
       exact ⟨by rw [hB.out, beq_eq_false_iff_ne.2 hcz], HB1.out.trans (hb1.mono HB1.out.size)⟩
     ·have hB : Hid (fullB L p s n = false) := Lib.hid (by unfold fullB; exact decide_eq_false (by omega))
      have hq' : ¬ 256 ≤ (L.length : Int) := by omega
      go_wp2_with fail
      go_meet
      exact ⟨by rw [hB.out], HB1.out⟩
   case rest =>
    obtain ⟨rfl, hb⟩ := hcut
    obtain ⟨w2, rfl⟩ : ∃ w2 : World, w2 = wc := ⟨_, rfl⟩
    have HB2 := Lib.hid hb
    have H2 := Lib.hid (H.out.later hb)
    have hw2 := hb.size
    clear hb hc hf HA HB1 H1 hw1
    cases hF : fullB L p s n
    case true =>
     have HFL := Lib.hid hF
     clear hF
     go_wp2_with fail
     go_ret
     exact ⟨by rw [HE.out, HC.out, HFL.out]; rfl, by rw [HO.out, HFL.out, if_pos (.inr rfl)]; exact H2.out, Fr.of_below _ HB2.out⟩
    case false =>
     have HFL := Lib.hid hF
     clear hF
     obtain ⟨A2, cap2, hc, hf, hA⟩ := H2.out.open
     have HA := Lib.hid hA
     clear hA
     obtain ⟨i, z, hi, hz, hsi, hby, hzs⟩ := refDef_info
     go_wp2_with fail
     go_loopw [10, 95] (fun v i wr => ∃ k : Nat, k ≤ L.length ∧ i = .int .i64 k ∧ Row wr w2.heap.size 95 3 encDef v (routS (L.take k) s n) ∧ Below w2.heap.size w2 wr) (fun _ i _ => L.length - (intOf i).toNat)
     case atStart => exact ⟨0, Nat.zero_le _, rfl, by simpa [routS] using Row.nil _ _ _ _ _, Below.refl _ _⟩
     case round =>
      obtain ⟨k, hk, rfl, hR, hb⟩ := hrel
      have hrl : (routS (L.take k) s n).length ≤ 1000 := by unfold routS; exact Nat.le_trans (List.length_filter_le _ _) (by rw [List.length_take]; omega)
      by_cases hlt : k < L.length
      ·have hne : L ≠ [] := by rintro rfl; simp at hlt
       obtain ⟨g, hA', hg, -, hcs⟩ := HA.out hne
       have hx := List.getElem?_eq_getElem hlt
       have htk : routS (L.take (k + 1)) s n = if rHit n s L[k] = true then routS (L.take k) s n else routS (L.take k) s n ++ [L[k]] := routS_snoc L s n k hlt
       generalize L[k] = x at hx htk
       have d0 := hcs k x hx 0 _ rfl
       have d1 := hcs k x hx 1 _ rfl
       have d2 := hcs k x hx 2 _ rfl
       rw [← hb.cell (p := ⟨g, k * 3 + 0, none⟩) hg] at d0
       rw [← hb.cell (p := ⟨g, k * 3 + 1, none⟩) hg] at d1
       rw [← hb.cell (p := ⟨g, k * 3 + 2, none⟩) hg] at d2
       simp only [Nat.add_zero] at d0
       have hlt' : (k : Int) < (L.length : Int) := by omega
       have HR := Lib.hid hR
       have HBB := Lib.hid hb
       have hwr : w2.heap.size ≤ wr.heap.size := hb.size
       have HBX := Lib.hid (hb.alloc hb.size (.cells #[.int .i64 x.1, .int .i64 x.2.1, .string ⟨x.2.2.toArray⟩] 95))
       have HRX := Lib.hid (hR.alloc (.cells #[.int .i64 x.1, .int .i64 x.2.1, .string ⟨x.2.2.toArray⟩] 95))
       clear hcs hb hx hR
       subst hA'
       by_cases hhit : rHit n s x = true
       ·rw [if_pos hhit] at htk
        have HT := Lib.hid htk
        obtain ⟨g3, g2⟩ : x.2.2 = n ∧ refSort x.2.1 = s := by simpa [rHit] using hhit
        clear hhit htk
        obtain ⟨x1, x2, x3⟩ := x
        simp only at d0 d1 d2 g3 g2 HBX HRX
        subst g3
        have HG2 := Lib.hid g2
        clear g2
        go_wp2_with (first | (go_at_call 80; refine (refSort_any _ _).mono ?_; rintro e w' ⟨rfl, rfl⟩; rw [HG2.out]))
        go_roundw
        case rel => exact ⟨k + 1, hlt, by go_num, by rw [HT.out]; exact HRX.out, HBX.out⟩
        case measure => simp [intOf]; omega
       ·rw [if_neg hhit] at htk
        have HT := Lib.hid htk
        have hsplit : x.2.2 ≠ n ∨ (x.2.2 = n ∧ refSort x.2.1 ≠ s) := by
         by_cases h3 : x.2.2 = n
         ·exact .inr ⟨h3, fun h2 => hhit (by simp [rHit, h3, h2])⟩
         ·exact .inl h3
        clear hhit htk
        rcases hsplit with g3 | ⟨g3, g2⟩
        case' inr =>
         have g2b : (refSort x.2.1 == s) = false := beq_eq_false_iff_ne.2 g2
         have g2c : (refSort x.2.1 != s) = true := by simp [g2]
         obtain ⟨x1, x2, x3⟩ := x
         simp only at d0 d1 d2 g3 g2b g2c HBX HRX HT
         subst g3
         clear g2
         go_wp2_with (first | (go_at_call 80; refine (refSort_any _ _).mono ?_; rintro e w' ⟨rfl, rfl⟩) | (at_builtin; refine wpList_row rfl _ _ 36 rfl _ w2.heap.size 95 i z 3 32 encDef Tryz.underlying36 hi hz hsi hby hzs (by decide) encDef_len encDef_one _ (routS (L.take k) s x3) (x1, x2, x3) rfl ((HR.out.alloc _).alloc _) _ _ rfl (fun j u hu => cell_alloc2 _ _ _ _ j u (by simpa [encDef] using hu)) (by unfold maxLen; omega) (by omega) (Nat.le_trans hwr (by simp; omega)) ?_))
        case' inl =>
         have g3b : (x.2.2 == n) = false := by simpa using g3
         have g3c : (x.2.2 != n) = true := by simp [g3]
         obtain ⟨x1, x2, x3⟩ := x
         simp only at d0 d1 d2 g3b g3c HBX HRX HT
         clear g3
         go_wp2_with (first | (at_builtin; refine wpList_row rfl _ _ 36 rfl _ w2.heap.size 95 i z 3 32 encDef Tryz.underlying36 hi hz hsi hby hzs (by decide) encDef_len encDef_one _ (routS (L.take k) s n) (x1, x2, x3) rfl ((HR.out.alloc _).alloc _) _ _ rfl (fun j u hu => cell_alloc2 _ _ _ _ j u (by simpa [encDef] using hu)) (by unfold maxLen; omega) (by omega) (Nat.le_trans hwr (by simp; omega)) ?_))
        all_goals
         intro v' w5 hrow5 hg5
         have hb5 : Below w2.heap.size w2 w5 := below_grown ((HBB.out.alloc hwr _).alloc (by simp; omega) _) hg5 (fun g e => (HR.out.lt g e).1) (by simp; omega)
         have HB5 := Lib.hid hb5
         rw [← HT.out] at hrow5
         have HR6 := Lib.hid hrow5
         clear hb5 hrow5 hg5
         go_wp2_with fail
         go_roundw
         case rel => exact ⟨k + 1, hlt, by go_num, HR6.out, HB5.out⟩
         case measure => simp [intOf]; omega
      ·have hkn : k = L.length := by omega
       subst hkn
       rw [List.take_length] at hR hrl
       have HR := Lib.hid hR
       have HBB := Lib.hid hb
       have hwr : w2.heap.size ≤ wr.heap.size := hb.size
       clear hc hf hR hb
       by_cases hp : 0 < p
       ·go_wp2_with (first | (at_builtin; refine wpList_row rfl _ _ 36 rfl _ w2.heap.size 95 i z 3 32 encDef Tryz.underlying36 hi hz hsi hby hzs (by decide) encDef_len encDef_one _ (routS L s n) (p, t, n) rfl (HR.out.alloc _) _ _ rfl (fun j u hu => cell_one _ _ _ j u (by simpa [encDef] using hu)) (by unfold maxLen; omega) (by omega) (Nat.le_trans hwr (by simp)) ?_))
        intro v' w5 hrow5 hg5
        have hb5 : Below w2.heap.size w2 w5 := below_grown (HBB.out.alloc hwr _) hg5 (fun g e => (HR.out.lt g e).1) (by simp; omega)
        obtain ⟨A5, cap5, hc, hf, -⟩ := (H2.out.later hb5).open
        have HB5 := Lib.hid hb5
        obtain ⟨A6, cap6, rfl⟩ := hrow5.shape
        rw [List.length_append, List.length_cons, List.length_nil] at hrow5
        have HR5 := Lib.hid hrow5
        clear hb5 hrow5 hg5
        go_wp2_with fail
        go_ret
        refine ⟨by rw [HE.out, HC.out, HFL.out]; rfl, ?_, ?_⟩
        ·rw [HO.out, HC.out, HFL.out, if_neg (by simp), if_pos hp]
         exact (H2.out.later HB5.out).stored (B := w2.heap.size) HR5.out (by omega)
        ·exact (Fr.of_below (· = rt) (HB2.out.trans (HB5.out.mono hw2))).setCell (p := ⟨rt, 0, none⟩) (.inl rfl) _
       ·obtain ⟨A5, cap5, hc, hf, -⟩ := (H2.out.later HBB.out).open
        obtain ⟨A6, cap6, rfl⟩ := HR.out.shape
        go_wp2_with fail
        go_ret
        refine ⟨by rw [HE.out, HC.out, HFL.out]; rfl, ?_, ?_⟩
        ·rw [HO.out, HC.out, HFL.out, if_neg (by simp), if_neg (by omega)]
         exact (H2.out.later HBB.out).stored (B := w2.heap.size) HR.out (by omega)
        ·exact (Fr.of_below (· = rt) (HB2.out.trans (HBB.out.mono hw2))).setCell (p := ⟨rt, 0, none⟩) (.inl rfl) _
theorem rOp_any (w : World) (rt : Nat) (L : List DefT) (h : RTab w rt L) (hpo : PriOk L) (hL : L.length ≤ 1000) (p t : Int) (n : List UInt8) (hn : n.length ≤ 9223372036854775807) :
    Calls Tryz.prog 39 #[.pointer (some ⟨rt, 0, none⟩), .int .i64 p, .int .i64 t, .string ⟨n.toArray⟩] w fun e w' =>
     e = .returned (.int .i64 (rerr L p t n)) ∧ RTab w' rt (rop L p t n) ∧ Fr (· = rt) w w' := by
 unfold rop
 by_cases c1 : p < 0 ∨ 1200 < p ∨ t < 1 ∨ 7 < t ∨ 1000 < n.length
 ·have e1 : rerr L p t n = 2 := by unfold rerr; rw [if_pos c1]
  rw [e1]
  refine (rOp_arg w rt p t n hn c1).mono ?_
  rintro e w' ⟨rfl, rfl⟩
  exact ⟨rfl, by simpa using h, Fr.refl _ _⟩
 by_cases c2 : n = [44] ∨ n = [124] ∨ n = [91, 93] ∨ n = [123, 125]
 ·have e1 : rerr L p t n = 15 := by unfold rerr; rw [if_neg c1, if_pos c2]
  rw [e1]
  refine (rOp_perm w rt p t n (by omega) (by omega) (by omega) (by omega) (by omega) c2).mono ?_
  rintro e w' ⟨rfl, rfl⟩
  exact ⟨rfl, by simpa using h, Fr.refl _ _⟩
 have e1 : rerr L p t n = if confB L p (refSort t) n = true then 15 else if fullB L p (refSort t) n = true then 9 else 0 := by
  unfold rerr confB fullB
  rw [if_neg c1, if_neg c2]
  simp only [decide_eq_true_eq]
 simp only [not_or] at c2
 refine (rOp_main w rt L h hpo hL p t (refSort t) n (by omega) (by omega) (by omega) (by omega) (by omega) c2.1 c2.2.1 c2.2.2.1 c2.2.2.2 rfl (by unfold refSort; split <;> (try split) <;> simp) _ _ rfl rfl).mono ?_
 rintro e w' ⟨rfl, hR, hF⟩
 refine ⟨by rw [e1], ?_, hF⟩
 rw [e1]
 cases hC : confB L p (refSort t) n with
 | true => rw [hC] at hR; simpa using hR
 | false =>
  cases hF2 : fullB L p (refSort t) n with
  | true => rw [hC, hF2] at hR; simpa using hR
  | false => rw [hC, hF2] at hR; simpa [rout, routS] using hR
end Go.Proofs.YtcallkljcjimiaaGreatDoor
