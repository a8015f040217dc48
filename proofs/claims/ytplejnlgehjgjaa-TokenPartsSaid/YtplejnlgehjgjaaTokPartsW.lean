/-
  What law04's TokenParts answers: true. Condition: the index package's cell holds a number.
-/
import Derived.Test.YtplejnlgehjgjaaTokSame
import Derived.Test.YtplejnlgehjgjaaTokPartsP
import Derived.Test.YtplejnlgehjgjaaRowPut
namespace Go.Proofs.Ytplejnlgehjgjaa
open Go.RowKit
set_option maxRecDepth 100000

theorem cat_bytes (a b : List UInt8) : (⟨a.toArray⟩ ++ ⟨b.toArray⟩ : ByteArray) = ⟨(a ++ b).toArray⟩ := by
  apply ByteArray.ext
  simp
theorem cat_stop (a : List UInt8) : (⟨a.toArray⟩ ++ ⟨#[32, 46, 10]⟩ : ByteArray) = ⟨(a ++ [32, 46, 10]).toArray⟩ := cat_bytes a [32, 46, 10]

theorem set_mid (f : Tok → Tok) (m : List Tok) (k : Nat) (y : Tok) (hx : m[k]? = some y) : ((m.take k).map f ++ m.drop k).set k (f y) = (m.take (k + 1)).map f ++ m.drop (k + 1) := by
  obtain ⟨hk, rfl⟩ := List.getElem?_eq_some_iff.1 hx
  have hl : ((m.take k).map f).length = k := by rw [List.length_map, List.length_take]; omega
  rw [List.set_append_right _ _ (by omega), hl, Nat.sub_self, List.drop_eq_getElem_cons hk, List.set_cons_zero, List.take_succ_eq_append_getElem hk, List.map_append, List.append_assoc]
  rfl

set_option maxHeartbeats 4000000 in
theorem parts_any (w : World) (a b : List UInt8) (hmax : ∃ m : Int, w.cell? ⟨0, 0, none⟩ = some (.int .i64 m)) :
    Calls Try.prog 4 #[.string ⟨a.toArray⟩, .string ⟨b.toArray⟩] w fun e w' => e = .returned (.bool true) ∧ Below w.heap.size w w' := by
  have HM := Lib.hid hmax
  clear hmax
  go_enter Try.func4, Try.ntmps4
  go_wp2_with fail
  refine (alive_any w HM.out).mono ?_
  rintro e w1 ⟨rfl, hb1⟩
  have HB1 := Lib.hid hb1
  have HM1 := Lib.hid (maxLen_at HM.out hb1).1
  clear hb1
  go_wp2_with fail
  any_goals (go_ret; exact ⟨rfl, HB1.out⟩)
  have ha : (a.length : Int) ≤ 2000 := by omega
  have hb : (b.length : Int) ≤ 2000 := by omega
  rw [cat_stop]
  refine (lex_any w1 (a ++ [32, 46, 10]) (by rw [List.length_append]; simp; omega) HM1.out).mono ?_
  rintro e w2 ⟨v1, rfl, hr1, hb2⟩
  have HR1 := Lib.hid hr1
  have HB2 := Lib.hid (HB1.out.trans (hb2.mono HB1.out.size))
  have HLT1 := Lib.hid HR1.out.lt
  have HS01 := Lib.hid HB1.out.size
  have HM2 := Lib.hid (maxLen_at HM1.out hb2).1
  clear hr1 hb2
  go_wp2_with fail
  refine (lex_any w2 b (by omega) HM2.out).mono ?_
  rintro e w3 ⟨v2, rfl, hr2, hb3⟩
  have HR12 := Lib.hid (HR1.out.later hb3)
  have HR2 := Lib.hid hr2
  have HB3 := Lib.hid (HB2.out.trans (hb3.mono HB2.out.size))
  have HLT2 : Hid (∀ k, v2.ownBlock = some k → k < w3.heap.size) := Lib.hid fun k hk => (HR2.out.lt k hk).2
  have HM3 := Lib.hid (maxLen_at HM2.out hb3).1
  clear hr2 hb3 HB1 HB2 HM1 HM2 HR1 HM
  obtain ⟨l, ln1, e1, h1⟩ : ∃ l ln1 e1, lexB (a ++ [32, 46, 10]) = (l, ln1, e1) := ⟨_, _, _, rfl⟩
  obtain ⟨m, ln2, e2, h2⟩ : ∃ m ln2 e2, lexB b = (m, ln2, e2) := ⟨_, _, _, rfl⟩
  rw [h1] at HR12 ⊢
  rw [h2] at HR2 ⊢
  simp only at HR12 HR2 ⊢
  have H1 := Lib.hid h1
  have H2 := Lib.hid h2
  clear h1 h2
  by_cases he1 : e1 ≠ 0
  · have h' : (e1 == 0) = false := beq_eq_false_iff_ne.2 he1
    have h'' : decide (e1 = 0) = false := decide_eq_false he1
    go_wp2_with fail
    go_ret
    exact ⟨rfl, HB3.out⟩
  obtain rfl := Classical.not_not.1 he1
  clear he1
  by_cases he2 : e2 ≠ 0
  · have h' : (e2 == 0) = false := beq_eq_false_iff_ne.2 he2
    have h'' : decide (e2 = 0) = false := decide_eq_false he2
    go_wp2_with fail
    go_ret
    exact ⟨rfl, HB3.out⟩
  obtain rfl := Classical.not_not.1 he2
  clear he2
  have hll : l.length ≤ 2004 := by
    have := lexB_len (a ++ [32, 46, 10])
    rw [H1.out, List.length_append] at this
    simp only [List.length_cons, List.length_nil] at this
    omega
  obtain ⟨ts0, c, hl, hc, ln3, h3⟩ := parts a b H1.out H2.out
  have hmne : m ≠ [] := lexB_ne H2.out
  obtain ⟨g1, cap1, rfl, -, -, hc1, k1⟩ := HR12.out.cells encTok_len (lexB_ne H1.out)
  rcases List.eq_nil_or_concat ts0 with h0 | ⟨ts1, x, h0⟩
  · have hlen : l.length = 1 := by rw [hl, h0]; rfl
    rw [hlen]
    clear hl h0 hlen k1 hc1 h3 hc
    go_wp2_with fail
    go_ret
    exact ⟨rfl, HB3.out⟩
  rw [List.concat_eq_append] at h0
  have hlen : l.length = ts1.length + 2 := by rw [hl, h0]; simp
  have hts1 : ts1.length ≤ 2002 := by omega
  have hx := (k1 ts1.length x (by rw [hl, h0]; simp) 0 _ rfl).1
  have hy := (k1 (ts1.length + 1) (endTok (1 + c)) (by rw [hl, h0]; simp) 1 _ rfl).1
  rw [hlen] at hc1 ⊢
  rw [Nat.add_zero] at hx
  have K1 := Lib.hid k1
  have H3 := Lib.hid h3
  have HX := Lib.hid hl
  have HY := Lib.hid h0
  have HLL := Lib.hid hlen
  clear k1 h3 hl h0 hlen
  have hw64 : wrap64 (ts1.length : Int) = (ts1.length : Int) := by unfold wrap64; omega
  have hdl : decide (ts1.length + 2 < 2) = false := decide_eq_false (by omega)
  by_cases hk : x.kind ≠ 7
  · have h' : (x.kind == 7) = false := beq_eq_false_iff_ne.2 hk
    have h'' : (x.kind != 7) = true := by simpa using hk
    go_wp2_with fail
    go_ret
    exact ⟨rfl, HB3.out⟩
  have hk7 := Classical.not_not.1 hk
  clear hk
  rw [hk7] at hx
  go_wp2_with fail
  rw [cat_stop, cat_bytes]
  refine (lex_any w3 (a ++ [32, 46, 10] ++ b) (by rw [List.length_append, List.length_append]; simp only [List.length_cons, List.length_nil]; omega) HM3.out).mono ?_
  rintro e w4 ⟨v3, rfl, hr3, hb4⟩
  rw [H3.out] at hr3 ⊢
  simp only at hr3 ⊢
  have HR14 := Lib.hid (HR12.out.later hb4)
  have HR24 := Lib.hid (HR2.out.later hb4)
  have HR3 := Lib.hid hr3
  have HB4 := Lib.hid (HB3.out.trans (hb4.mono HB3.out.size))
  clear hr3 hb4 HR12 HR2 HM3
  obtain ⟨g2, cap2, rfl, hB2, hg2, hc2, k2⟩ := HR24.out.cells encTok_len hmne
  obtain ⟨A3, cap3, rfl⟩ := HR3.out.shape
  obtain ⟨gx, capx, hex, -, -, -, kx⟩ := HR14.out.cells encTok_len (lexB_ne H1.out)
  cases hex
  obtain ⟨n2, hn2⟩ : ∃ n2, ts1.length + 1 = n2 := ⟨_, rfl⟩
  have hyE := (kx (ts1.length + 1) (endTok (1 + c)) (by rw [HX.out, HY.out]; simp) 1 _ rfl).1
  rw [hn2] at hyE
  have hm : m.length ≤ 2001 := by
    have := lexB_len b
    rw [H2.out] at this
    simp only at this
    omega
  have hN3 : (ts0 ++ m.map (shiftT c)).length = n2 + m.length := by rw [HY.out]; simp; omega
  have hn3 : ts1.length + 2 = n2 + 1 := by omega
  rw [hN3, hn3]
  rw [hn3] at hc1
  have hn2b : n2 ≤ 2003 := by omega
  have HN2 := Lib.hid hn2
  have HC2 := Lib.hid (And.intro hc1 (And.intro hc2 (And.intro hB2 hg2)))
  have K2 := Lib.hid k2
  have hE : endTok (1 + c) = ⟨0, ((1 + c : Nat) : Int), 0, [], false, false⟩ := rfl
  rw [hE] at hyE
  have hyF : w4.cell? ⟨g1, n2 * 6 + 1, none⟩ = some (.int .i64 ((1 + c : Nat) : Int)) := hyE
  clear kx k2 hy hx hc1 hc2 hB2 hg2 hyE hE hN3 hn3 hn2 hdl hw64
  have hcc : c ≤ 2003 := by omega
  have hbn : ((n2 : Int) + (m.length : Int) != wrap64 ((n2 : Int) + (m.length : Int))) = false := by
    have hwv : wrap64 ((n2 : Int) + (m.length : Int)) = (n2 : Int) + (m.length : Int) := by unfold wrap64; omega
    rw [hwv]
    simp
  clear hc hts1 hll
  repeat (first | go_values | go_skip | go_guarded | go_step | go_upon)
  rw [show (1 + (c : Int) - 1) = (c : Int) by omega]
  go_loopw [95] (fun i wr => ∃ k : Nat, k ≤ m.length ∧ i = .int .i64 k ∧ Hid (Row wr w2.heap.size 30 6 encTok (.slice (some ⟨g2, 0, none⟩) m.length cap2) ((m.take k).map (shiftT c) ++ m.drop k)) ∧ Hid (Fr (· = g2) w4 wr)) (fun i _ => m.length - (intOf i).toNat)
  case atStart => exact ⟨0, Nat.zero_le _, rfl, Lib.hid (by simpa using HR24.out), Lib.hid (Fr.refl _ _)⟩
  case round =>
    obtain ⟨k, hk, rfl, HR, HF⟩ := hrel
    by_cases hlt : k < m.length
    · have hx := List.getElem?_eq_getElem hlt
      obtain ⟨ln, hln, hlb⟩ := lexB_lines H2.out m[k] (List.getElem_mem hlt)
      generalize m[k] = y at hx hln
      have hxk : ((m.take k).map (shiftT c) ++ m.drop k)[k]? = some y := by
        rw [List.getElem?_append_right (by rw [List.length_map, List.length_take]; exact Nat.min_le_left _ _), List.length_map, List.length_take, Nat.min_eq_left (by omega), Nat.sub_self, List.getElem?_drop]
        exact hx
      obtain ⟨gz, capz, hez, -, hg2, -, kz⟩ := HR.out.cells encTok_len (by intro h; rw [h] at hxk; simp at hxk)
      rw [show ((m.take k).map (shiftT c) ++ m.drop k).length = m.length by rw [List.length_append, List.length_map, List.length_take, List.length_drop]; omega] at hez
      cases hez
      obtain ⟨c0, f0⟩ := kz k y hxk 0 _ rfl
      obtain ⟨c1, f1⟩ := kz k y hxk 1 _ rfl
      have c2 := (kz k y hxk 2 _ rfl).1
      have c3 := (kz k y hxk 3 _ rfl).1
      have c4 := (kz k y hxk 4 _ rfl).1
      have c5 := (kz k y hxk 5 _ rfl).1
      simp only [Nat.add_zero] at c0 f0
      rw [hln] at c1
      have hlt' : (k : Int) < (m.length : Int) := by omega
      have hwl : wrap64 ((ln : Int) + (c : Int)) = (ln : Int) + (c : Int) := by unfold wrap64; omega
      have HX1 := Lib.hid (And.intro hx (And.intro hxk (And.intro hln hlt)))
      clear kz f0 hx hxk hln hbn
      go_wp2_with fail
      refine ⟨⟨k + 1, HX1.out.2.2.2, by go_num, Lib.hid ?_, Lib.hid ((HF.out.setCell (.inl rfl) _).alloc _)⟩, by simp [intOf]; omega⟩
      have hp := HR.out.put encTok_len (j := 1) (y := shiftT c y) (u := .int .i64 ((ln : Int) + (c : Int))) HX1.out.2.1 (by omega) (by simp [encTok, shiftT, HX1.out.2.2.1])
      rw [set_mid _ _ _ _ HX1.out.1] at hp
      exact hp.alloc _
    · have hkn : k = m.length := by omega
      subst hkn
      have HRm := HR.out
      rw [List.take_length, List.drop_length, List.append_nil] at HRm
      have HR2m := Lib.hid HRm
      clear HRm HR hbn hlt hyF
      have hcap1 := HC2.out.1
      have hg1 := HLT1.out g1 rfl
      have hg2 := HC2.out.2.2
      have hs01 := HS01.out
      have hsz := HF.out.size
      have hm0 : 0 < m.length := List.length_pos_iff.2 hmne
      have hlen0 : ts0.length = n2 := by rw [HY.out, List.length_append]; exact HN2.out
      have hr1 : Row wr w1.heap.size 30 6 encTok (.slice (some ⟨g1, 0, none⟩) ts0.length cap1) ts0 := by
        have h := HR14.out.keep (w' := wr) fun k hk => by
          have hke : g1 = k := by simpa [Value.ownBlock] using hk
          subst hke
          exact HF.out.block _ (by omega) (by omega)
        rw [HX.out, List.length_append] at h
        exact h.front encTok_len
      have hown1 := hr1.own
      rw [hlen0] at hown1
      have HOWN1 := Lib.hid hown1
      obtain ⟨i0, z0, hi0, hz0, hz1, hz2, hz3⟩ := tok_info
      have HI0 := Lib.hid hi0
      have HZ0 := Lib.hid (And.intro hz0 (And.intro hz1 (And.intro hz2 hz3)))
      have HG := Lib.hid (And.intro hg1 (And.intro hg2 (And.intro hs01 hsz)))
      have hnl : ((m.map (shiftT c)).flatMap encTok).length = m.length * 6 := by rw [length_flatMap_enc encTok_len, List.length_map]
      have HNL := Lib.hid hnl
      have HNC : Hid (∀ j u, ((m.map (shiftT c)).flatMap encTok)[j]? = some u → wr.cell? ((⟨g2, 0, none⟩ : Addr).add j) = some u) := Lib.hid (HR2m.out.own.cells rfl)
      have HNO : Hid (∀ u ∈ (m.map (shiftT c)).flatMap encTok, u.oneCell' = true) := Lib.hid (by
        intro u hu
        rw [List.mem_flatMap] at hu
        obtain ⟨t, -, ht⟩ := hu
        exact encTok_one t u ht)
      have HBB : Hid (w1.heap.size ≤ wr.heap.size) := Lib.hid (by omega)
      clear hown1 hr1 hi0 hz0 hz1 hz2 hz3 hg1 hg2 hs01 hsz hnl
      go_wp2_with (refine wpList_append_lies _ rfl _ _ _ rfl w1.heap.size 30 i0 z0 6 48 Try.underlying23 HI0.out HZ0.out.1 HZ0.out.2.1 HZ0.out.2.2.1 HZ0.out.2.2.2 (by omega) (.slice (some ⟨g1, 0, none⟩) n2 cap1) n2 (ts0.flatMap encTok) (by rfl) HOWN1.out ⟨g2, 0, none⟩ m.length cap2 ((m.map (shiftT c)).flatMap encTok) (by rfl) HNL.out HNC.out HNO.out hm0 (by unfold maxLen; omega) (by omega) HBB.out wr.heap.size rfl ?_; intro gg capg w5 hown5 hgrow5 hat5 hlt5; have HOWN5 := Lib.hid hown5; have HGR5 := Lib.hid hgrow5; clear hown5 hgrow5 hat5 hlt5)
      obtain ⟨hg1, hg2, hs01, hsz⟩ := HG.out
      have hg3 := HLT2.out g2 rfl
      have hrB : Row w5 w1.heap.size 30 6 encTok (.slice (some ⟨gg, 0, none⟩) (n2 + m.length) capg) (ts0 ++ m.map (shiftT c)) := by
        refine ⟨?_⟩
        rw [List.length_append, List.length_map, List.flatMap_append, hlen0]
        exact HOWN5.out
      have hrA : Row w5 w3.heap.size 30 6 encTok (.slice A3 (n2 + m.length) cap3) (ts0 ++ m.map (shiftT c)) := by
        have h3 := HR3.out
        rw [show (ts0 ++ m.map (shiftT c)).length = n2 + m.length by rw [List.length_append, List.length_map, hlen0]] at h3
        refine h3.keep fun k hk => ?_
        have hk3 := (h3.lt k hk)
        rw [HGR5.out.block k (by omega) (by simp only [Value.ownBlock]; intro e; injection e with e; omega)]
        exact HF.out.block k (by omega) (by omega)
      refine (same_any w5 _ _ _ _ (ts0 ++ m.map (shiftT c)) hrA hrB (by rw [List.length_append, List.length_map, hlen0]; omega)).mono ?_
      rintro e w6 ⟨rfl, hb6⟩
      have hfin : Hid (Below w.heap.size w w6) := by
        refine Lib.hid (HB4.out.trans ?_)
        have h1 : Fr (fun b => w.heap.size ≤ b) w4 w5 := (HF.out.weak fun k hk => by have hk' : k = g2 := hk; show w.heap.size ≤ k; omega).grown HGR5.out fun g hg => by
          have : g1 = g := by simpa [Value.ownBlock] using hg
          left
          omega
        exact (h1.step hb6).below HB4.out.size fun k hk => by omega
      clear hb6 hrA hrB hg1 hg2 hs01 hsz hg3
      go_wp2_with fail
      go_ret
      exact ⟨rfl, hfin.out⟩
end Go.Proofs.Ytplejnlgehjgjaa
