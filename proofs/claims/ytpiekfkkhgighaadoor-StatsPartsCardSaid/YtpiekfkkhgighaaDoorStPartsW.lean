/-
  What law25's StatsParts answers: true. Conditions: the table of bits and the index package's cell hold what is named; the slices can be read.
-/
import Derived.Test.YtpiekfkkhgighaaDoorStBackW
import Derived.Test.YtpiekfkkhgighaaDoorEvE
namespace Go.Proofs.YtpiekfkkhgighaaDoor
open Go.RowKit
set_option maxRecDepth 100000

theorem showB_app (a b : List Ev) : showB (a ++ b) = match showB a, showB b with
    | some x, some y => some (x ++ y)
    | _, _ => none := by
  unfold showB
  rw [List.all_append, List.flatMap_append]
  cases a.all okKind <;> cases b.all okKind <;> rfl

set_option maxHeartbeats 8000000 in
theorem stParts_any (w : World) (hE : Env25 w) (A1 A2 : Option Addr) (n c1 m c2 : Nat) (l r : List Ev) (h1 : EvArg w A1 n c1 l) (h2 : EvArg w A2 m c2 r)
    (hn : (n : Int) ≤ 9223372036854775807) (hm : (m : Int) ≤ 9223372036854775807) (ht1 : ∀ e ∈ l, (e.text.length : Int) ≤ 9223372036854775807) (ht2 : ∀ e ∈ r, (e.text.length : Int) ≤ 9223372036854775807) :
    Calls Tryd.prog 5 #[.slice A1 n c1, .slice A2 m c2] w fun e w' => e = .returned (.bool true) ∧ Below w.heap.size w w' := by
  have HE := Lib.hid hE
  have HA := Lib.hid h1
  have HB := Lib.hid h2
  have HT1 := Lib.hid ht1
  have HT2 := Lib.hid ht2
  obtain ⟨i0, z0, hi0, hz0, hz1, hz2, hz3⟩ := ev_info2
  clear hE h1 h2 ht1 ht2
  go_enter Tryd.func5, Tryd.ntmps5
  go_wp2_with fail
  refine (alive25_any w HE.out).mono ?_
  rintro e w1 ⟨rfl, hb1⟩
  have HE1 := Lib.hid (HE.out.later hb1)
  have HA1 := Lib.hid (HA.out.later hb1)
  have HB1 := Lib.hid (HB.out.later hb1)
  have HW1 := Lib.hid hb1
  clear hb1 HE HA HB
  go_wp2_with fail
  refine (great_full w1 A1 n c1 l HA1.out.evs hn HT1.out).mono ?_
  rintro e w2 ⟨rfl, hb2⟩
  have HE2 := Lib.hid (HE1.out.later hb2)
  have HA2 := Lib.hid (HA1.out.later hb2)
  have HB2 := Lib.hid (HB1.out.later hb2)
  have HW2 := Lib.hid (HW1.out.trans (hb2.mono HW1.out.size))
  clear hb2 HE1 HA1 HB1 HW1
  cases hg : greatE l with
  | true =>
    clear hg
    go_wp2_with fail
    go_ret
    exact ⟨rfl, HW2.out⟩
  | false =>
    have HG1 := Lib.hid hg
    clear hg
    go_wp2_with fail
    refine (great_full w2 A2 m c2 r HB2.out.evs hm HT2.out).mono ?_
    rintro e w3 ⟨rfl, hb3⟩
    have HE3 := Lib.hid (HE2.out.later hb3)
    have HA3 := Lib.hid (HA2.out.later hb3)
    have HB3 := Lib.hid (HB2.out.later hb3)
    have HW3 := Lib.hid (HW2.out.trans (hb3.mono HW2.out.size))
    clear hb3 HE2 HA2 HB2 HW2
    cases hg : greatE r with
    | true =>
      clear hg
      go_wp2_with fail
      go_ret
      exact ⟨rfl, HW3.out⟩
    | false =>
      have HG2 := Lib.hid hg
      have hn3 : n ≤ 300 := by rw [← HA3.out.evs.len]; exact (great_no HG1.out).1
      have hm3 : m ≤ 300 := by rw [← HB3.out.evs.len]; exact (great_no HG2.out).1
      have HS1 : Hid (∀ e ∈ l, e.text.length ≤ 100000) := Lib.hid fun e he => Nat.le_trans (great_text (great_no HG1.out).2 e he) (by omega)
      have HS2 : Hid (∀ e ∈ r, e.text.length ≤ 100000) := Lib.hid fun e he => Nat.le_trans (great_text (great_no HG2.out).2 e he) (by omega)
      clear hg hn hm
      go_wp2_with fail
      refine (to_any w3 A1 n c1 l HA3.out.evs (by omega)).mono ?_
      rintro e w4 ⟨v, rfl, hr4, hb4⟩
      obtain ⟨X4, k4, rfl, hev4⟩ := hr4.evs
      have HEV4 := Lib.hid hev4
      have HE4 := Lib.hid (HE3.out.later hb4)
      have HA4 := Lib.hid (HA3.out.later hb4)
      have HB4 := Lib.hid (HB3.out.later hb4)
      have HW4 := Lib.hid (HW3.out.trans (hb4.mono HW3.out.size))
      have hll : l.length = n := HA4.out.evs.len
      rw [hll] at HEV4 ⊢
      have HLL := Lib.hid hll
      clear hb4 hr4 hev4 HE3 HA3 HB3 HW3 hll
      go_wp2_with fail
      refine (show_any w4 X4 n k4 l HEV4.out (by omega) HS1.out HE4.out.tab HE4.out.max).mono ?_
      rintro e w5 ⟨rfl, hb5⟩
      have HE5 := Lib.hid (HE4.out.later hb5)
      have HA5 := Lib.hid (HA4.out.later hb5)
      have HB5 := Lib.hid (HB4.out.later hb5)
      have HW5 := Lib.hid (HW4.out.trans (hb5.mono HW4.out.size))
      clear hb5 HE4 HA4 HB4 HW4 HEV4
      obtain ⟨sx, E1, hs1, hE1⟩ := showV_both (showB l)
      rw [hs1]
      have HE1' := Lib.hid hE1
      clear hs1 hE1
      go_wp2_with fail
      refine (to_any w5 A2 m c2 r HB5.out.evs (by omega)).mono ?_
      rintro e w6 ⟨v, rfl, hr6, hb6⟩
      obtain ⟨X6, k6, rfl, hev6⟩ := hr6.evs
      have HEV6 := Lib.hid hev6
      have HE6 := Lib.hid (HE5.out.later hb6)
      have HA6 := Lib.hid (HA5.out.later hb6)
      have HB6 := Lib.hid (HB5.out.later hb6)
      have HW6 := Lib.hid (HW5.out.trans (hb6.mono HW5.out.size))
      have hlr : r.length = m := HB6.out.evs.len
      rw [hlr] at HEV6 ⊢
      have HLR := Lib.hid hlr
      clear hb6 hr6 hev6 HE5 HA5 HB5 HW5 hlr
      go_wp2_with fail
      refine (show_any w6 X6 m k6 r HEV6.out (by omega) HS2.out HE6.out.tab HE6.out.max).mono ?_
      rintro e w7 ⟨rfl, hb7⟩
      have HE7 := Lib.hid (HE6.out.later hb7)
      have HA7 := Lib.hid (HA6.out.later hb7)
      have HB7 := Lib.hid (HB6.out.later hb7)
      have HW7 := Lib.hid (HW6.out.trans (hb7.mono HW6.out.size))
      have hw7 := HW7.out.size
      clear hb7 HE6 HA6 HB6 HW6 HEV6
      obtain ⟨sy, E2, hs2, hE2⟩ := showV_both (showB r)
      rw [hs2]
      have HE2' := Lib.hid hE2
      clear hs2 hE2
      go_wp2_with (at_builtin; refine wpList_evs rfl _ _ 42 rfl _ w7.heap.size 54 i0 z0 Tryd.underlying42 hi0 hz0 hz1 hz2 hz3 _ [] l rfl (Row.empty w7 _ _ (Nat.le_refl _)) A1 n c1 rfl w7.heap.size (HA7.out.evs.below ((Below.refl _ _).alloc (Nat.le_refl _) _)) HA7.out.nil (by simp; omega) (by simp) ?_)
      intro v8 w8 hr8 hg8
      have hb8 : Below w7.heap.size w7 w8 := ((Fr.of_below (fun k => w7.heap.size ≤ k) (Below.refl w7.heap.size w7)).alloc _ |>.grown hg8 fun g e => .inl (by simp [Value.ownBlock] at e; omega)).below (Nat.le_refl _) (fun k hk => by omega)
      have hw8 := hb8.size
      have HR8 := Lib.hid hr8
      have HB8 := Lib.hid (HB7.out.later hb8)
      have HH8 := Lib.hid hb8
      clear hr8 hg8 hb8
      go_wp2_with (at_builtin; refine wpList_evs rfl (.tmp 36) (.tmp 37) 42 rfl _ w7.heap.size 54 i0 z0 Tryd.underlying42 hi0 hz0 hz1 hz2 hz3 v8 l r (by rfl) HR8.out A2 m c2 rfl w8.heap.size HB8.out.evs HB8.out.nil (by rw [HLL.out]; omega) hw8 ?_)
      intro v9 w9 hr9 hg9
      have hb9 : Below w7.heap.size w7 w9 := ((Fr.of_below (fun k => w7.heap.size ≤ k) HH8.out).grown hg9 fun g e => .inl (HR8.out.lt g e).1).below (Nat.le_refl _) (fun k hk => by omega)
      have HE9 := Lib.hid (HE7.out.later hb9)
      have HA9 := Lib.hid (HA7.out.later hb9)
      have HW9 := Lib.hid (HW7.out.trans (hb9.mono HW7.out.size))
      obtain ⟨X9, k9, rfl, hev9⟩ := hr9.evs
      have HEV9 := Lib.hid hev9
      have hlr2 : (l ++ r).length = n + m := by rw [List.length_append, HLL.out, HLR.out]
      rw [hlr2] at HEV9 ⊢
      clear hb9 hr9 hg9 HR8 HB8 HH8 HE7 HA7 HB7 HW7 hev9 hw8 hw7
      go_wp2_with fail
      refine (to_any w9 X9 (n + m) k9 (l ++ r) HEV9.out (by omega)).mono ?_
      rintro e w10 ⟨v, rfl, hr10, hb10⟩
      obtain ⟨X10, k10, rfl, hev10⟩ := hr10.evs
      have HEV10 := Lib.hid hev10
      have HE10 := Lib.hid (HE9.out.later hb10)
      have HA10 := Lib.hid (HA9.out.later hb10)
      have HW10 := Lib.hid (HW9.out.trans (hb10.mono HW9.out.size))
      rw [hlr2] at HEV10 ⊢
      have HLR2 := Lib.hid hlr2
      clear hb10 hr10 hev10 HE9 HA9 HW9 HEV9 hlr2
      go_wp2_with fail
      refine (show_any w10 X10 (n + m) k10 (l ++ r) HEV10.out (by omega) (fun e he => (List.mem_append.1 he).elim (HS1.out e) (HS2.out e)) HE10.out.tab HE10.out.max).mono ?_
      rintro e w11 ⟨rfl, hb11⟩
      have HE11 := Lib.hid (HE10.out.later hb11)
      have HA11 := Lib.hid (HA10.out.later hb11)
      have HW11 := Lib.hid (HW10.out.trans (hb11.mono HW10.out.size))
      clear hb11 HE10 HA10 HW10 HEV10
      have happ := showB_app l r
      rcases HE1'.out with ⟨hE1, hx1⟩ | ⟨hE1, hx1, hn1⟩
      · rcases HE2'.out with ⟨hE2, hx2⟩ | ⟨hE2, hx2, hn2⟩
        · subst hE1 hE2
          rw [hx1, hx2] at happ
          simp only at happ
          rw [happ]
          have hsx := show_len hx1 HG1.out
          have hsy := show_len hx2 HG2.out
          have HP := Lib.hid (parse_show happ)
          clear happ hx1 hx2 HE1' HE2'
          simp only [showV]
          have hxy : (sx ++ sy).length ≤ 57800 := by rw [List.length_append]; omega
          go_wp2_with fail
          rw [catB]
          refine (parse_any w11 (sx ++ sy) (by omega) HE11.out.tab HE11.out.max).mono ?_
          rintro e w12 ⟨⟨v, rfl, hr12⟩, hb12⟩
          rw [HP.out] at hr12 ⊢
          simp only [Option.isSome_some, if_true, Option.getD_some] at hr12 ⊢
          obtain ⟨X12, k12, rfl, hev12⟩ := hr12.evs
          have HEV12 := Lib.hid hev12
          have HA12 := Lib.hid (HA11.out.later hb12)
          have HW12 := Lib.hid (HW11.out.trans (hb12.mono HW11.out.size))
          rw [HLR2.out] at HEV12 ⊢
          clear hb12 hr12 hev12 HE11 HA11 HW11
          have tnm : (((n : Int) + (m : Int)) == ((n : Int) + (m : Int))) = true := by simp
          obtain ⟨S, hS⟩ : ∃ S, sx ++ sy = S := ⟨_, rfl⟩
          have hcat : (⟨sx.toArray⟩ ++ ⟨sy.toArray⟩ : ByteArray) = ⟨S.toArray⟩ := by rw [catB, hS]
          have tss : (S == S) = true := by simp
          rw [hS]
          rw [hS] at hxy HP
          clear hS
          go_wp2_with fail
          refine (from_any w12 X12 (n + m) k12 (l ++ r) HEV12.out (by omega)).mono ?_
          rintro e w13 ⟨v13, rfl, hr13, hb13⟩
          obtain ⟨X13, k13, rfl, hev13⟩ := hr13.evs
          have HEV13 := Lib.hid (hev13.front HLL.out)
          have HA13 := Lib.hid (HA12.out.later hb13)
          have HW13 := Lib.hid (HW12.out.trans (hb13.mono HW12.out.size))
          have hcap : n ≤ k13 := by
            by_cases hne : l ++ r = []
            · have := HLR2.out
              rw [hne] at this
              simp at this
              omega
            · obtain ⟨g, cap, he, -, -, hc, -⟩ := hr13.cells encEv_len hne
              injection he with _ _ h3
              rw [HLR2.out] at hc
              omega
          have hcap' : (n : Int) ≤ (k13 : Int) := by omega
          rw [HLR2.out]
          clear hb13 hr13 hev13 HEV12 HA12 HW12 tnm tss hcat
          go_wp2_with fail
          refine (same_ev w13 _ _ n _ c1 X13 A1 l HEV13.out HA13.out.evs (by omega)).mono ?_
          rintro e w14 ⟨rfl, hb14⟩
          have HW14 := Lib.hid (HW13.out.trans (hb14.mono HW13.out.size))
          clear hb14
          go_wp2_with fail
          go_ret
          exact ⟨rfl, HW14.out⟩
        · subst hE1 hE2
          rw [hx1, hn2] at happ
          simp only at happ
          rw [happ]
          clear happ hx1 hx2 hn2 HE1' HE2'
          simp only [showV]
          go_wp2_with fail
          go_ret
          exact ⟨rfl, HW11.out⟩
      · subst hE1
        rw [hn1] at happ
        simp only at happ
        rw [happ]
        clear happ hx1 hn1 HE1' HE2'
        simp only [showV]
        go_wp2_with fail
        go_ret
        exact ⟨rfl, HW11.out⟩
end Go.Proofs.YtpiekfkkhgighaaDoor
