/-
  What law04's TokenBlanks answers: true. Condition: the index package's cell holds a number, the table of bits what the program's text lays.
-/
import Derived.Test.YtplejnlgehjgjaaDoorTokW10
import Derived.Test.YtplejnlgehjgjaaDoorTokBlanksP
import Derived.Test.YtplejnlgehjgjaaDoorPut
import Derived.Test.YtplejnlgehjgjaaDoorRowPut
import Derived.Deep.QuietTactic
import Derived.BigQuiet
namespace Go.Proofs.YtplejnlgehjgjaaDoor
open Go.RowKit
set_option maxRecDepth 100000

theorem put_len (s : List UInt8) : (putB s).length ≤ 5 * s.length + 2 := by
  unfold putB
  split
  · omega
  · have := escs_len s
    simp only [quoteB, List.length_append, List.length_cons, List.length_nil]
    omega
theorem cat_blank (a b : List UInt8) : (⟨a.toArray⟩ ++ ⟨#[32]⟩ ++ ⟨b.toArray⟩ ++ ⟨#[32]⟩ : ByteArray) = ⟨(a ++ (32 :: [] ++ (b ++ [32]))).toArray⟩ := by
  apply ByteArray.ext
  simp
theorem cat_note (a b : List UInt8) : (⟨a.toArray⟩ ++ ⟨#[32, 47, 42, 32, 110, 111, 116, 101, 32, 42, 47, 32, 37, 32, 109, 111, 114, 101, 10, 9]⟩ ++ ⟨b.toArray⟩ ++ ⟨#[10]⟩ : ByteArray) = ⟨(a ++ (32 :: [47, 42, 32, 110, 111, 116, 101, 32, 42, 47, 32, 37, 32, 109, 111, 114, 101, 10, 9] ++ (b ++ [10]))).toArray⟩ := by
  apply ByteArray.ext
  simp

theorem zset_get {l : List Tok} {k : Nat} {y : Tok} (h : l[k]? = some y) : ((l.take k).map zeroL ++ l.drop k)[k]? = some y := by
  have hk := (List.getElem?_eq_some_iff.1 h).1
  rw [List.getElem?_append_right (by rw [List.length_map, List.length_take]; exact Nat.min_le_left _ _), List.length_map, List.length_take, Nat.min_eq_left (by omega), Nat.sub_self, List.getElem?_drop]
  exact h
theorem zset_mid {l : List Tok} {k : Nat} {y : Tok} (hx : l[k]? = some y) : ((l.take k).map zeroL ++ l.drop k).set k (zeroL y) = (l.take (k + 1)).map zeroL ++ l.drop (k + 1) := by
  obtain ⟨hk, rfl⟩ := List.getElem?_eq_some_iff.1 hx
  have hl : ((l.take k).map zeroL).length = k := by rw [List.length_map, List.length_take]; omega
  rw [List.set_append_right _ _ (by omega), hl, Nat.sub_self, List.drop_eq_getElem_cons hk, List.set_cons_zero, List.take_succ_eq_append_getElem hk, List.map_append, List.append_assoc]
  rfl
theorem zset_now {l : List Tok} {k : Nat} {y : Tok} (hx : l[k]? = some y) : ((l.take (k + 1)).map zeroL ++ l.drop (k + 1))[k]? = some (zeroL y) := by
  have hk := (List.getElem?_eq_some_iff.1 hx).1
  rw [List.getElem?_append_left (by rw [List.length_map, List.length_take]; omega), List.getElem?_map, List.getElem?_take, if_pos (by omega), hx]
  rfl
theorem zset_len (l : List Tok) (k : Nat) : ((l.take k).map zeroL ++ l.drop k).length = l.length := by
  rw [List.length_append, List.length_map, List.length_take, List.length_drop]
  omega

/-- What stands at a round's head. -/
structure ZSt (w w3 w4 : World) (g1 g2 cap1 cap2 : Nat) (X Y : List Tok) (k : Nat) (u : World) : Prop where
  row1 : Row u w3.heap.size 30 6 encTok (.slice (some ⟨g1, 0, none⟩) X.length cap1) ((X.take k).map zeroL ++ X.drop k)
  row2 : Row u w4.heap.size 30 6 encTok (.slice (some ⟨g2, 0, none⟩) X.length cap2) ((Y.take k).map zeroL ++ Y.drop k)
  below : Below w.heap.size w u
theorem Row.spot {w : World} {B g n cap : Nat} {l : List Tok} (h : Row w B 30 6 encTok (.slice (some ⟨g, 0, none⟩) n cap) l) {k : Nat} {y : Tok} (hk : l[k]? = some y) :
    ∀ j u, (encTok y)[j]? = some u → w.cell? ⟨g, k * 6 + j, none⟩ = some u ∧ w.frozen? ⟨g, k * 6 + j, none⟩ = false := by
  obtain ⟨g', cap', he, -, -, -, hc⟩ := h.cells encTok_len (by rintro rfl; simp at hk)
  cases he
  exact hc k y hk
theorem ZSt.go {w w3 w4 u : World} {g1 g2 cap1 cap2 k : Nat} {X Y : List Tok} {x y : Tok} (h : ZSt w w3 w4 g1 g2 cap1 cap2 X Y k u) (hx : X[k]? = some x) (hy : Y[k]? = some y) (h12 : g1 ≠ g2) (hb1 : w.heap.size ≤ g1) (hb2 : w.heap.size ≤ g2) :
    ZSt w w3 w4 g1 g2 cap1 cap2 X Y (k + 1) ((u.setCell ⟨g1, k * 6 + 1, none⟩ (.int .i64 0)).setCell ⟨g2, k * 6 + 1, none⟩ (.int .i64 0)) := by
  have p1 := h.row1.put encTok_len (j := 1) (y := zeroL x) (u := .int .i64 0) (zset_get hx) (by omega) rfl
  have q1 := h.row2.away (p := ⟨g1, k * 6 + 1, none⟩) (.int .i64 0) (fun j hj => by
    have : g2 = j := by simpa [Value.ownBlock] using hj
    subst this
    exact fun e => h12 e.symm)
  have p2 := p1.away (p := ⟨g2, k * 6 + 1, none⟩) (.int .i64 0) (fun j hj => by
    have : g1 = j := by simpa [Value.ownBlock] using hj
    subst this
    exact h12)
  have q2 := q1.put encTok_len (j := 1) (y := zeroL y) (u := .int .i64 0) (zset_get hy) (by omega) rfl
  rw [zset_mid hx] at p2
  rw [zset_mid hy] at q2
  exact ⟨p2, q2, (h.below.setCell hb1 _).setCell hb2 _⟩

theorem ZSt.drew {w w3 w4 u : World} {g1 g2 cap1 cap2 k : Nat} {X Y : List Tok} (h : ZSt w w3 w4 g1 g2 cap1 cap2 X Y k u) (n : Nat) : ZSt w w3 w4 g1 g2 cap1 cap2 X Y k (u.drewN n) :=
  ⟨h.row1.keep fun _ _ => rfl, h.row2.keep fun _ _ => rfl, below_drewN h.below n⟩

set_option maxHeartbeats 4000000 in
theorem blanks_any (w : World) (s t : List UInt8) (hmax : ∃ m : Int, w.cell? ⟨1, 0, none⟩ = some (.int .i64 m)) (ht : w.cell? ⟨3, 15, none⟩ = some (.int .u8 4)) :
    Calls Tryd.prog 4 #[.string ⟨s.toArray⟩, .string ⟨t.toArray⟩] w fun e w' => e = .returned (.bool true) ∧ Below w.heap.size w w' := by
  have HM := Lib.hid hmax
  have HT := Lib.hid ht
  clear hmax ht
  go_enter Tryd.func4, Tryd.ntmps4
  go_wp2_with fail
  refine (alive_any w HM.out).mono ?_
  rintro e w1 ⟨rfl, hb1⟩
  have HB1 := Lib.hid hb1
  have HM1 := Lib.hid (maxLen_at HM.out hb1).1
  have HT1 := Lib.hid (tab_later HT.out hb1)
  clear hb1 HM HT
  go_wp2_with fail
  any_goals (go_ret; exact ⟨rfl, HB1.out⟩)
  have hs3 : (s.length : Int) ≤ 300 := by omega
  have ht3 : (t.length : Int) ≤ 300 := by omega
  refine (put_any w1 s (by omega) HT1.out).mono ?_
  rintro e w2 ⟨rfl, hb2⟩
  have HB2 := Lib.hid (HB1.out.trans (hb2.mono HB1.out.size))
  have HM2 := Lib.hid (maxLen_at HM1.out hb2).1
  have HT2 := Lib.hid (tab_later HT1.out hb2)
  clear hb2 HB1 HM1 HT1
  go_wp2_with fail
  refine (put_any w2 t (by omega) HT2.out).mono ?_
  rintro e w3 ⟨rfl, hb3⟩
  have HB3 := Lib.hid (HB2.out.trans (hb3.mono HB2.out.size))
  have HM3 := Lib.hid (maxLen_at HM2.out hb3).1
  clear hb3 HB2 HM2 HT2
  have hpl := put_len s
  have hps : ((putB s).length : Int) ≤ 1502 := by omega
  have hpl2 := put_len t
  have hpt : ((putB t).length : Int) ≤ 1502 := by omega
  clear hpl hpl2
  go_wp2_with fail
  rw [cat_blank]
  refine (lex_any w3 _ (by simp only [List.length_append, List.length_cons, List.length_nil]; omega) HM3.out).mono ?_
  rintro e w4 ⟨v4, rfl, hr4, hb4⟩
  obtain ⟨X, hX, hX0⟩ := two_atoms s t [] 32 32 (by decide) (by decide) skip_blank
  rw [hX] at hr4 ⊢
  simp only at hr4 ⊢
  have HLT4 := Lib.hid hr4.lt
  have HS3 := Lib.hid HB3.out.size
  have HR4 := Lib.hid hr4
  have HB4 := Lib.hid (HB3.out.trans (hb4.mono HB3.out.size))
  have HM4 := Lib.hid (maxLen_at HM3.out hb4).1
  clear hb4 hr4 HB3 HM3 hX
  go_wp2_with fail
  rw [cat_note]
  refine (lex_any w4 _ (by simp only [List.length_append, List.length_cons, List.length_nil]; omega) HM4.out).mono ?_
  rintro e w5 ⟨v5, rfl, hr5, hb5⟩
  obtain ⟨Y, hY, hY0⟩ := two_atoms s t [47, 42, 32, 110, 111, 116, 101, 32, 42, 47, 32, 37, 32, 109, 111, 114, 101, 10, 9] 32 10 (by decide) (by decide) skip_note
  rw [hY] at hr5 ⊢
  simp only at hr5 ⊢
  have HR45 := Lib.hid (HR4.out.later hb5)
  have HR5 := Lib.hid hr5
  have HB5 := Lib.hid (HB4.out.trans (hb5.mono HB4.out.size))
  have hXY : X.map zeroL = Y.map zeroL := hX0.trans hY0.symm
  have hlen : X.length = Y.length := by have := congrArg List.length hXY; simpa using this
  have hXn : X ≠ [] := by rintro rfl; simp at hX0
  have hYn : Y ≠ [] := by rintro rfl; exact hXn (List.eq_nil_of_length_eq_zero (by rw [hlen]; rfl))
  have hXl : X.length ≤ 10 := by
    have := congrArg List.length hX0
    rw [List.length_map, List.length_append, List.length_append] at this
    have h1 : ∀ q : List UInt8, (atomToks q).length ≤ 2 := by intro q; unfold atomToks; (repeat' split) <;> simp
    have := h1 s
    have := h1 t
    simp at *
    omega
  have HXY := Lib.hid hXY
  clear hb5 hr5 HB4 HM4 hY hX0 hY0 hXY HR4
  obtain ⟨g1, cap1, rfl, hB1, hg1, hc1, -⟩ := HR45.out.cells encTok_len hXn
  obtain ⟨g2, cap2, rfl, hB2, hg2, hc2, -⟩ := HR5.out.cells encTok_len hYn
  rw [← hlen] at hc2 ⊢
  have hg12 := (HLT4.out g1 rfl).2
  have hwb : w.heap.size ≤ g1 := Nat.le_trans HS3.out hB1
  have hz0 : Hid (ZSt w w3 w4 g1 g2 cap1 cap2 X Y 0 w5) := Lib.hid ⟨by simpa using HR45.out, by rw [hlen]; simpa using HR5.out, HB5.out⟩
  have HG := Lib.hid (And.intro (show g1 ≠ g2 by omega) (And.intro hwb (show w.heap.size ≤ g2 by omega)))
  have hne : ((X.length : Int) != (X.length : Int)) = false := by simp
  have HLL := Lib.hid hlen
  clear HR45 HR5 HB5 hg1 hg2 hB1 hB2 hg12 hwb HLT4 hXn hYn hlen hs3 ht3 hps hpt HS3
  go_wp2_with fail
  go_loopw [63] (fun i wr => ∃ k : Nat, k ≤ X.length ∧ i = .int .i64 k ∧ Hid (ZSt w w3 w4 g1 g2 cap1 cap2 X Y k wr)) (fun i _ => X.length - (intOf i).toNat)
  case atStart => exact ⟨0, Nat.zero_le _, rfl, hz0⟩
  case round =>
    obtain ⟨k, hk, rfl, HZ⟩ := hrel
    clear hz0
    by_cases hlt : k < X.length
    · have hx := List.getElem?_eq_getElem hlt
      have hltY : k < Y.length := by have := HLL.out; omega
      have hy := List.getElem?_eq_getElem hltY
      have hzz : zeroL X[k] = zeroL Y[k] := by
        have := congrArg (fun l : List Tok => l[k]?) HXY.out
        simpa [hx, hy] using this
      generalize X[k] = x at hx hzz
      generalize Y[k] = y at hy hzz
      have s1 := HZ.out.row1.spot (zset_get hx) 1 _ rfl
      have s2 := HZ.out.row2.spot (zset_get hy) 1 _ rfl
      obtain ⟨c1, f1⟩ := s1
      obtain ⟨d1, f2⟩ := s2
      have HZ2 := Lib.hid (HZ.out.go hx hy HG.out.1 HG.out.2.1 HG.out.2.2)
      have hlt' : (k : Int) < (X.length : Int) := by omega
      have HXX := Lib.hid (And.intro hx hy)
      have HZZ := Lib.hid hzz
      have h12 := HG.out.1
      obtain ⟨W2, hW2⟩ : ∃ W2, (wr.setCell ⟨g1, k * 6 + 1, none⟩ (.int .i64 0)).setCell ⟨g2, k * 6 + 1, none⟩ (.int .i64 0) = W2 := ⟨_, rfl⟩
      rw [hW2] at HZ2
      clear HZ hx hy hzz
      go_wp2_with fail
      have r1 := HZ2.out.row1.spot (zset_now HXX.out.1)
      have r2 := HZ2.out.row2.spot (zset_now HXX.out.2)
      rw [← HZZ.out] at r2
      generalize zeroL x = z at r1 r2
      have a0 := (r1 0 _ rfl).1
      have a1 := (r1 1 _ rfl).1
      have a2 := (r1 2 _ rfl).1
      have a3 := (r1 3 _ rfl).1
      have a4 := (r1 4 _ rfl).1
      have a5 := (r1 5 _ rfl).1
      have b0 := (r2 0 _ rfl).1
      have b1 := (r2 1 _ rfl).1
      have b2 := (r2 2 _ rfl).1
      have b3 := (r2 3 _ rfl).1
      have b4 := (r2 4 _ rfl).1
      have b5 := (r2 5 _ rfl).1
      simp only [Nat.add_zero] at a0 b0
      clear r1 r2 hW2 c1 d1 f1 f2 hne
      go_quiet (fail)
      go_wp2
      go_roundw
      case rel => exact ⟨k + 1, hlt, by go_num, Lib.hid (HZ2.out.drew _)⟩
      case measure => simp [intOf]; omega
    · have hkn : k = X.length := by omega
      subst hkn
      go_wp2_with fail
      go_ret
      exact ⟨rfl, HZ.out.below⟩
end Go.Proofs.YtplejnlgehjgjaaDoor
